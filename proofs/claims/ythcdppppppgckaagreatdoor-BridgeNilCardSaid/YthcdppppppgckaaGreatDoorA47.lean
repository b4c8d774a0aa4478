/- Texts joined into one file: BTa, BVn, BCl. -/
import Derived.Test.YthcdppppppgckaaGreatDoorA46
import Derived.Test.YthcdppppppgckaaGreatDoorA37
import Derived.Test.YthcdppppppgckaaGreatDoorA45

namespace Go.Proofs.YthcdppppppgckaaGreatDoor
open Go.RowKit Go.Lib Go.Maps Go.Sort
set_option maxRecDepth 20000
set_option maxRecDepth 20000

def BrS.learned (s : BrS) (v : Int) (mc : Str) (port now : Int) : BrS := if learnB v mc port now = true then { s with fdb := updE s.fdb (v, mc) (port, now) } else s
theorem updE_keys {F : Fdb} {k : Int × Str} {e : Int × Int} {L : List (Int × Str)} {room : Int} (h : KeysV (encV F) L) (hl : (L.length : Int) ≤ room) (hr : F k ≠ none ∨ (L.length : Int) < room) : ∃ L', KeysV (encV (updE F k e)) L' ∧ (L'.length : Int) ≤ room := by
 have en : ∀ (G : Fdb) x, encV G x ≠ none ↔ G x ≠ none := fun G x => by unfold encV; cases G x <;> simp
 by_cases hk : F k = none
 · rcases hr with hr | hr
   · exact absurd hk hr
   · refine ⟨k :: L, ⟨List.nodup_cons.2 ⟨fun hm => ((en F k).1 ((h.2 k).1 hm)) hk, h.1⟩, fun x => ?_⟩, by rw [List.length_cons]; omega⟩
     rw [List.mem_cons, h.2 x, en, en]
     unfold updE
     by_cases hx : x = k
     · subst hx; simp
     · simp [hx]
 · refine ⟨L, ⟨h.1, fun x => ?_⟩, hl⟩
   rw [h.2 x, en, en]
   unfold updE
   by_cases hx : x = k
   · subst hx; simp [hk]
   · simp [hx]
theorem updE_ok {F : Fdb} {v port now : Int} {mc : Str} (h : FdOk F) (hb : learnB v mc port now = true) : FdOk (updE F (v, mc) (port, now)) := ⟨fun k e he => by
 unfold updE at he
 split at he
 · injection he with he; subst he
   unfold learnB inBetween at hb
   simp only [Bool.and_eq_true, decide_eq_true_eq] at hb
   exact ⟨⟨hb.1.2.1, hb.1.2.2⟩, ⟨hb.2.1, hb.2.2⟩⟩
 · exact h.at_ k e he⟩
def RetBl (w : World) (A : Adr) (s : BrS) (e : Ending) (w' : World) : Prop := (∃ b : Bool, e = .returned (.bool b)) ∧ BrAt w' A s ∧ Turn (fun j => j = A.fm) w w'
theorem blearn_any (A : Adr) (s : BrS) (v port now : Int) (mc : Str) (w : World) (h : BrAt w A s) (hr : ∀ L, KeysV (encV s.fdb) L → s.fdb (v, mc) ≠ none ∨ (L.length : Int) < s.c.room) :
 Calls Tryz.prog 63 #[.pointer (some ⟨A.fp, 0, none⟩), .int .i64 v, .string (bstr mc), .int .i64 port, .int .i64 now] w (RetBl w A (s.learned v mc port now)) := by
 unfold BrS.learned
 cases hb : learnB v mc port now
 · rw [if_neg (by decide)]
   refine (flearn_no A.fp v port now mc w hb).mono ?_
   rintro e w' ⟨rfl, rfl⟩
   exact ⟨⟨_, rfl⟩, h, Turn.refl _ _⟩
 · rw [if_pos rfl]
   obtain ⟨L, l1, l2, l3⟩ := h.fdb
   have hroom := h.ok.room
   refine (flearn_yes A.fp A.fm L.length s.c.room s.c.age v port now mc s.fdb L w l3 hb l1 (hr L l1) (by omega)).mono ?_
   rintro e w' ⟨rfl, hf, ht⟩
   obtain ⟨L', m1, m2⟩ := updE_keys (e := (port, now)) l1 l2 (hr L l1)
   exact ⟨⟨_, rfl⟩, h.withFdb _ ⟨L', m1, m2, hf.box, hf.map.tight Tryz.underlying149 m1⟩ ht (updE_ok h.ok.fdb hb), ht⟩
theorem eDec_frOk (s : Str) (h : s.length ≤ maxLen) : frOk (eDec s).1 := by
 unfold eDec
 split
 · exact frZero_ok
 · split
   · split
     · exact frZero_ok
     · split
       · exact frZero_ok
       · split
         · exact frZero_ok
         · exact ⟨by simp; omega, by simp; omega, by simp; omega⟩
   · split
     · exact frZero_ok
     · exact ⟨by simp; omega, by simp; omega, by simp; omega⟩
theorem vIn_frOk (l : List Pt) (q : Int) {f : Fr} (h : frOk f) : frOk (vIn l q f).1 := by
 rw [vIn_asked]
 split
 · exact frZero_ok
 · unfold vIn1
   repeat' split
   all_goals first | exact frZero_ok | exact h | exact ⟨h.1, h.2.1, h.2.2⟩
def BrS.inS (s : BrS) (g : Fr) (port now : Int) : BrS := if s.tree.learns port = true then s.learned g.vlan g.src port now else s
def BrS.inL (s : BrS) (g : Fr) (port now : Int) : List (Int × Str) := if s.tree.forwards port = true then plainTo (s.inS g port now) g port now else []
def RetTa (w : World) (A : Adr) (s : BrS) (L : List (Int × Str)) (e : Ending) (w' : World) : Prop := ∃ v, e = .returned v ∧ w'.ownsRow w.heap.size 52 2 v L.length (L.flatMap ocells) ∧ BrAt w' A s ∧ Turn (bfoot A) w w'
theorem inS_tree (s : BrS) (g : Fr) (port now : Int) : (s.inS g port now).tree = s.tree := by
 unfold BrS.inS BrS.learned
 split
 · split <;> rfl
 · rfl
set_option maxHeartbeats 16000000 in
theorem btake_plain (A : Adr) (s : BrS) (port now : Int) (str : Str) (f g : Fr) (w : World) (h : BrAt w A s) (hn : inBetween now 1 1099511627776 = true) (hrl : (s.tree.roleOf port == 0) = false) (hs : str.length ≤ maxLen)
 (hf : eDec str = (f, 0)) (hto : f.dst ≠ toBpdu) (hg : vIn s.c.ports port f = (g, 0)) (hvl : (Lit.int .i64 g.vlan).wf = true) (h4 : g.typ ≠ 2048) (h6 : g.typ ≠ 34525) (hr : ∀ L, KeysV (encV s.fdb) L → s.fdb (g.vlan, g.src) ≠ none ∨ (L.length : Int) < s.c.room) :
 Calls Tryz.prog 25 #[.pointer (some ⟨A.b, 0, none⟩), .int .i64 port, .string (bstr str), .int .i64 now] w (RetTa w A (s.inS g port now) (s.inL g port now)) := by
 have c13 := h.cell 13 (v := .pointer (some ⟨A.tp, 0, none⟩)) rfl
 have hgo := goes_any A.b now w
 rw [hn] at hgo
 have HG := Lib.hid hgo
 have HRO := Lib.hid (trole_any A.tp A.tg A.tcap s.tree port w h.tree)
 have hfo : frOk f := by have := eDec_frOk str hs; rwa [hf] at this
 have hgo2 : frOk g := by have := vIn_frOk s.c.ports port hfo; rwa [hg] at this
 have hde := dec_any str w hs
 rw [hf] at hde
 have HDE := Lib.hid hde
 have HVI := Lib.hid (fun W (hW : BrAt W A s) => vin_any (fun j => A.kind j = 8) A.vports s.c.ports port f W hW.ports hfo)
 rw [hg] at HVI
 have HLR := Lib.hid (fun W (hW : BrAt W A s) => tlearns_any A.tp A.tg A.tcap s.tree port W hW.tree hW.ok.tree)
 have HLE := Lib.hid (fun W (hW : BrAt W A s) => blearn_any A s g.vlan port now g.src W hW hr)
 have HFW := Lib.hid (fun W (hW : BrAt W A (s.inS g port now)) => tforwards_any A.tp A.tg A.tcap (s.inS g port now).tree port W hW.tree)
 rw [inS_tree] at HFW
 have HRD := Lib.hid (fun W => reads_none A.b g port now W h4 h6)
 have HPL := Lib.hid (fun W (hW : BrAt W A (s.inS g port now)) => plain_any A (s.inS g port now) g port now W hW hgo2 hvl hn)
 have HB := Lib.hid h
 obtain ⟨ro, hro⟩ : ∃ r, s.tree.roleOf port = r := ⟨_, rfl⟩
 rw [hro] at HRO hrl
 obtain ⟨lr, hlr⟩ : ∃ b, s.tree.learns port = b := ⟨_, rfl⟩
 obtain ⟨fw, hfw⟩ : ∃ b, s.tree.forwards port = b := ⟨_, rfl⟩
 have HS1 := Lib.hid (show s.inS g port now = if lr = true then s.learned g.vlan g.src port now else s from by rw [← hlr]; rfl)
 have HL1 := Lib.hid (show s.inL g port now = if fw = true then plainTo (s.inS g port now) g port now else [] from by rw [← hfw]; rfl)
 simp only [hlr] at HLR
 simp only [hfw] at HFW
 obtain ⟨f1, f2, f3, f4, f5, f6, f7⟩ := f
 obtain ⟨g1, g2, g3, g4, g5, g6, g7⟩ := g
 have hdne : ((bstr f1).toList == (bstr toBpdu).toList) = false := by rw [bstr_toList, bstr_toList]; exact Bool.eq_false_iff.2 fun e => hto (eq_of_beq e)
 obtain ⟨s1, hs1⟩ : ∃ S, s.inS ⟨g1, g2, g3, g4, g5, g6, g7⟩ port now = S := ⟨_, rfl⟩
 obtain ⟨l1, hl1⟩ : ∃ S, s.inL ⟨g1, g2, g3, g4, g5, g6, g7⟩ port now = S := ⟨_, rfl⟩
 rw [hs1] at HS1 HL1 HPL HFW ⊢
 rw [hl1] at HL1 ⊢
 unfold RetFr encF fcells at HDE HVI
 unfold encP at HRD HPL
 dsimp only at HDE HVI HLE HRD HPL HS1
 clear h hgo hde hn hs hf hto hg hvl h4 h6 hr hfo hgo2 hro hlr hfw hs1 hl1
 go_enter Tryz.func25, Tryz.ntmps25
 go_upto_region 3 with (first | ((with_reducible refine HG.out.mono ?_); rintro e w2 ⟨rfl, hw2⟩; subst w2) | ((with_reducible refine HRO.out.mono ?_); rintro e w2 ⟨rfl, hw2⟩; subst w2))
 go_upto_region 4 with ((with_reducible refine HDE.out.mono ?_); rintro e w2 ⟨rfl, hb2⟩; have B2 := Lib.hid (HB.out.below hb2); have L2 := Lib.hid hb2; clear hb2)
 obtain ⟨V1, hV1⟩ : ∃ W, w2.alloc (.cells #[.string (bstr f1), .string (bstr f2), .bool f3, .int .i64 f4, .int .i64 f5, .int .i64 f6, .string (bstr f7)] 48) = W := ⟨_, rfl⟩
 obtain ⟨q9, hq9⟩ : ∃ q, w2.heap.size = q := ⟨_, rfl⟩
 have hb1 : Below w2.heap.size w2 V1 := by rw [← hV1]; exact (Below.refl _ _).alloc (Nat.le_refl _) _
 have BV1 := Lib.hid (B2.out.below hb1)
 have XV1 := Lib.hid (show CBox V1 q9 48 #[.string (bstr f1), .string (bstr f2), .bool f3, .int .i64 f4, .int .i64 f5, .int .i64 f6, .string (bstr f7)] from by rw [← hV1]; exact CBox.new _ hq9.symm)
 have LV1 := Lib.hid (L2.out.trans (hb1.mono L2.out.size))
 have HQ9 := Lib.hid (show A.b ≠ q9 ∧ w.heap.size ≤ q9 from by have := B2.out.box.lt; have := L2.out.size; omega)
 have HNW := Lib.hid (HB.out.new HQ9.out.2)
 rw [hV1, hq9]
 clear hV1 hq9 hb1 B2 L2 c13
 go_upto_region 6 with fail
 obtain ⟨Z, hZ⟩ : ∃ W, V1.drew = W := ⟨_, rfl⟩
 have hbz : Below V1.heap.size V1 Z := by rw [← hZ]; exact Below.drew (Below.refl _ _)
 have BZ := Lib.hid (BV1.out.below hbz); have XZ := Lib.hid (XV1.out.below hbz XV1.out.lt); have LZ := Lib.hid (LV1.out.trans (hbz.mono LV1.out.size)); have HZ := Lib.hid hZ
 clear hZ hbz BV1 XV1 LV1
 have HF := Lib.hid (fun (wq : World) (h : CBox wq q9 48 #[.string (bstr f1), .string (bstr f2), .bool f3, .int .i64 f4, .int .i64 f5, .int .i64 f6, .string (bstr f7)]) => (h.at_ 0 _ rfl).1)
 refine wp_region_held_drew (S := fun wq => CBox wq q9 48 #[.string (bstr f1), .string (bstr f2), .bool f3, .int .i64 f4, .int .i64 f5, .int .i64 f6, .string (bstr f7)]) (by kernel_rfl) (by rw [HZ.out]; exact XZ.out) (fun hHeld => ?_)
 rw [HZ.out] at hHeld ⊢
 iterate 2 (first | (refine takeO 4 (v := ?_) rfl (by kernel_rfl) (fun _ _ _ h => h) (Or.inl ⟨by rfl, ?_⟩) (by assumption) ?_; rotate_left; (focus (intro wq hSq; have f0 := HF.out wq hSq; go_simp <;> with_reducible rfl)); simp only [Act.put, List.setIfInBounds_toArray, List.set_cons_zero, List.set_cons_succ]) | (refine takeO 4 (v := undef) rfl (by kernel_rfl) (fun _ _ _ h => h) (Or.inr ⟨by rfl, rfl⟩) (by assumption) ?_; simp only [Act.put, List.setIfInBounds_toArray, List.set_cons_zero, List.set_cons_succ]))
 refine wpAnyH_ready (rs := [2]) (by kernel_rfl) (by simp) (nextL 2 rfl (fun Kr hKr => ?_) AllReadyH.nil)
 rw [if_pos (by rfl)]
 go_simp
 (with_reducible refine (bpduTo_any Z).mono ?_)
 rintro e w3 ⟨rfl, hw3⟩
 subst w3
 refine hKr.out _ _ hHeld (fun _ => ?_)
 clear hKr
 iterate 1 (first | (refine takeO 4 (v := ?_) rfl (by kernel_rfl) (fun _ _ _ h => h) (Or.inl ⟨by rfl, ?_⟩) (by assumption) ?_; rotate_left; (focus (intro wq hSq; go_simp <;> with_reducible rfl)); simp only [Act.put, List.setIfInBounds_toArray, List.set_cons_zero, List.set_cons_succ]) | (refine takeO 4 (v := undef) rfl (by kernel_rfl) (fun _ _ _ h => h) (Or.inr ⟨by rfl, rfl⟩) (by assumption) ?_; simp only [Act.put, List.setIfInBounds_toArray, List.set_cons_zero, List.set_cons_succ]))
 refine wpAnyH_done (by kernel_rfl) ?_ _
 clear HF hHeld HZ
 go_upto_region 12 with fail
 clear hdne
 obtain ⟨Z2, hZ2⟩ : ∃ W, Z.drew = W := ⟨_, rfl⟩
 have hbz : Below Z.heap.size Z Z2 := by rw [← hZ2]; exact Below.drew (Below.refl _ _)
 have B2 := Lib.hid (BZ.out.below hbz); have X2 := Lib.hid (XZ.out.below hbz XZ.out.lt); have L2 := Lib.hid (LZ.out.trans (hbz.mono LZ.out.size)); have HZ2 := Lib.hid hZ2
 clear hZ2 hbz BZ XZ LZ
 have HF := Lib.hid (fun (wq : World) (h : CBox wq A.b 85 (brcells A s)) => (h.at_ 2 A.vports rfl).1)
 refine wp_region_held_drew (S := fun wq => CBox wq A.b 85 (brcells A s)) (by kernel_rfl) (by rw [HZ2.out]; exact B2.out.box) (fun hHeld => ?_)
 rw [HZ2.out] at hHeld ⊢
 iterate 6 (first | (refine takeO 13 (v := ?_) rfl (by kernel_rfl) (fun _ _ _ h => h) (Or.inl ⟨by rfl, ?_⟩) (by assumption) ?_; rotate_left; (focus (intro wq hSq; have f0 := HF.out wq hSq; go_simp <;> with_reducible rfl)); simp only [Act.put, List.setIfInBounds_toArray, List.set_cons_zero, List.set_cons_succ]) | (refine takeO 13 (v := undef) rfl (by kernel_rfl) (fun _ _ _ h => h) (Or.inr ⟨by rfl, rfl⟩) (by assumption) ?_; simp only [Act.put, List.setIfInBounds_toArray, List.set_cons_zero, List.set_cons_succ]))
 obtain ⟨c0, cf0⟩ := CBox.at_ X2.out 0 _ rfl
 obtain ⟨c1, cf1⟩ := CBox.at_ X2.out 1 _ rfl
 obtain ⟨c2, cf2⟩ := CBox.at_ X2.out 2 _ rfl
 obtain ⟨c3, cf3⟩ := CBox.at_ X2.out 3 _ rfl
 obtain ⟨c4, cf4⟩ := CBox.at_ X2.out 4 _ rfl
 obtain ⟨c5, cf5⟩ := CBox.at_ X2.out 5 _ rfl
 obtain ⟨c6, cf6⟩ := CBox.at_ X2.out 6 _ rfl
 refine wpAnyH_ready (rs := [6]) (by kernel_rfl) (by simp) (nextL 6 rfl (fun Kr hKr => ?_) AllReadyH.nil)
 rw [if_pos (by rfl)]
 go_simp
 refine hKr.out _ _ hHeld (fun _ => ?_)
 clear hKr
 refine wpAnyH_ready (rs := [7]) (by kernel_rfl) (by simp) (nextL 7 rfl (fun Kr hKr => ?_) AllReadyH.nil)
 rw [if_pos (by rfl)]
 go_simp
 (with_reducible refine (HVI.out Z2 B2.out).mono ?_)
 rintro e w3 ⟨rfl, hb3⟩
 have B3 := Lib.hid (B2.out.below hb3); have X3 := Lib.hid (X2.out.below hb3 X2.out.lt); have L3 := Lib.hid (L2.out.trans (hb3.mono L2.out.size))
 refine hKr.out _ _ B3.out.box (fun _ => ?_)
 clear hKr hb3 B2 X2 L2 c0 cf0 c1 cf1 c2 cf2 c3 cf3 c4 cf4 c5 cf5 c6 cf6
 have hHeld := (show CBox w3 A.b 85 (brcells A s) from B3.out.box)
 iterate 3 (first | (refine takeO 13 (v := ?_) rfl (by kernel_rfl) (fun _ _ _ h => h) (Or.inl ⟨by rfl, ?_⟩) (by assumption) ?_; rotate_left; (focus (intro wq hSq; go_simp <;> with_reducible rfl)); simp only [Act.put, List.setIfInBounds_toArray, List.set_cons_zero, List.set_cons_succ]) | (refine takeO 13 (v := undef) rfl (by kernel_rfl) (fun _ _ _ h => h) (Or.inr ⟨by rfl, rfl⟩) (by assumption) ?_; simp only [Act.put, List.setIfInBounds_toArray, List.set_cons_zero, List.set_cons_succ]))
 obtain ⟨c0, cf0⟩ := CBox.at_ X3.out 0 _ rfl
 obtain ⟨c1, cf1⟩ := CBox.at_ X3.out 1 _ rfl
 obtain ⟨c2, cf2⟩ := CBox.at_ X3.out 2 _ rfl
 obtain ⟨c3, cf3⟩ := CBox.at_ X3.out 3 _ rfl
 obtain ⟨c4, cf4⟩ := CBox.at_ X3.out 4 _ rfl
 obtain ⟨c5, cf5⟩ := CBox.at_ X3.out 5 _ rfl
 obtain ⟨c6, cf6⟩ := CBox.at_ X3.out 6 _ rfl
 refine wpAnyH_ready (rs := [11]) (by kernel_rfl) (by simp) (nextL 11 rfl (fun Kr hKr => ?_) AllReadyH.nil)
 rw [if_pos (by rfl)]
 go_simp
 obtain ⟨V4, hV4⟩ : ∃ W, setsL w3 q9 0 [.string (bstr g1), .string (bstr g2), .bool g3, .int .i64 g4, .int .i64 g5, .int .i64 g6, .string (bstr g7)] = W := ⟨_, rfl⟩
 have X4 := Lib.hid (show CBox V4 q9 48 #[.string (bstr g1), .string (bstr g2), .bool g3, .int .i64 g4, .int .i64 g5, .int .i64 g6, .string (bstr g7)] from by rw [← hV4]; exact cells7s X3.out _ _ _ _ _ _ _)
 have P4 := Lib.hid (show CBox V4 A.b 85 (brcells A s) from by rw [← hV4]; exact setsL_far HQ9.out.1 _ 0 B3.out.box)
 have L4 := Lib.hid (show Below w.heap.size w V4 from by rw [← hV4]; exact setsL_below HQ9.out.2 _ 0 L3.out)
 have B4 := Lib.hid (HB.out.below L4.out)
 dsimp only [setsL] at hV4
 rw [hV4]
 refine hKr.out _ _ P4.out (fun _ => ?_)
 clear hKr hV4 B3 X3 L3 c0 cf0 c1 cf1 c2 cf2 c3 cf3 c4 cf4 c5 cf5 c6 cf6
 have hHeld := (show CBox V4 A.b 85 (brcells A s) from P4.out)
 iterate 1 (first | (refine takeO 13 (v := ?_) rfl (by kernel_rfl) (fun _ _ _ h => h) (Or.inl ⟨by rfl, ?_⟩) (by assumption) ?_; rotate_left; (focus (intro wq hSq; go_simp <;> with_reducible rfl)); simp only [Act.put, List.setIfInBounds_toArray, List.set_cons_zero, List.set_cons_succ]) | (refine takeO 13 (v := undef) rfl (by kernel_rfl) (fun _ _ _ h => h) (Or.inr ⟨by rfl, rfl⟩) (by assumption) ?_; simp only [Act.put, List.setIfInBounds_toArray, List.set_cons_zero, List.set_cons_succ]))
 refine wpAnyH_done (by kernel_rfl) ?_ _
 clear HF hHeld HZ2 P4
 have c13 := B4.out.cell 13 (v := .pointer (some ⟨A.tp, 0, none⟩)) rfl
 have hlr := HLR.out V4 B4.out
 have HLRV := Lib.hid hlr
 clear hlr HLR
 go_upto_if 81 with ((with_reducible refine HLRV.out.mono ?_); rintro e w5 ⟨rfl, hb5⟩; have B5 := Lib.hid (B4.out.below hb5); have X5 := Lib.hid (X4.out.below hb5 X4.out.lt); have L5 := Lib.hid (L4.out.trans (hb5.mono L4.out.size)); clear hb5)
 clear c13 HLRV B4 X4 L4
 go_cut [] (fun W => BrAt W A s1 ∧ CBox W q9 48 #[.string (bstr g1), .string (bstr g2), .bool g3, .int .i64 g4, .int .i64 g5, .int .i64 g6, .string (bstr g7)] ∧ Turn (bfoot A) w W)
 case first =>
  cases lr
  · go_wp2_with fail
    go_meet
    case rel => exact ⟨by rw [HS1.out]; simpa using B5.out, X5.out, Turn.of_below L5.out⟩
  · go_upto_region 16 with fail
    obtain ⟨Z, hZ⟩ : ∃ W, w5.drew = W := ⟨_, rfl⟩
    have hbz : Below w5.heap.size w5 Z := by rw [← hZ]; exact Below.drew (Below.refl _ _)
    have BZ := Lib.hid (B5.out.below hbz); have XZ := Lib.hid (X5.out.below hbz X5.out.lt); have LZ := Lib.hid (L5.out.trans (hbz.mono L5.out.size)); have HZ := Lib.hid hZ
    clear hZ hbz B5 X5 L5
    have HF := Lib.hid (fun (wq : World) (h : CBox wq q9 48 #[.string (bstr g1), .string (bstr g2), .bool g3, .int .i64 g4, .int .i64 g5, .int .i64 g6, .string (bstr g7)] ∧ CBox wq A.b 85 (brcells A s)) => And.intro (h.1.at_ 1 _ rfl).1 (And.intro (h.1.at_ 3 _ rfl).1 (h.2.at_ 14 (.pointer (some ⟨A.fp, 0, none⟩)) rfl).1))
    refine wp_region_held_drew (S := fun wq => CBox wq q9 48 #[.string (bstr g1), .string (bstr g2), .bool g3, .int .i64 g4, .int .i64 g5, .int .i64 g6, .string (bstr g7)] ∧ CBox wq A.b 85 (brcells A s)) (by kernel_rfl) (by rw [HZ.out]; exact ⟨XZ.out, BZ.out.box⟩) (fun hHeld => ?_)
    rw [HZ.out] at hHeld ⊢
    iterate 10 (first | (refine takeO 11 (v := ?_) rfl (by kernel_rfl) (fun _ _ _ h => h) (Or.inl ⟨by rfl, ?_⟩) (by assumption) ?_; rotate_left; (focus (intro wq hSq; have f := HF.out wq hSq; go_simp <;> with_reducible rfl)); simp only [Act.put, List.setIfInBounds_toArray, List.set_cons_zero, List.set_cons_succ]) | (refine takeO 11 (v := undef) rfl (by kernel_rfl) (fun _ _ _ h => h) (Or.inr ⟨by rfl, rfl⟩) (by assumption) ?_; simp only [Act.put, List.setIfInBounds_toArray, List.set_cons_zero, List.set_cons_succ]))
    refine wpAnyH_ready (rs := [10]) (by kernel_rfl) (by simp) (nextL 10 rfl (fun Kr hKr => ?_) AllReadyH.nil)
    rw [if_pos (by rfl)]
    go_simp
    (with_reducible refine (HLE.out Z BZ.out).mono ?_)
    rintro e w6 ⟨⟨bb, rfl⟩, hb6, ht6⟩
    have hnm : A.fm ≠ q9 ∧ A.b ≠ A.fm := ⟨fun e => BZ.out.foot_m q9 e.symm |> fun hf => HNW.out hf, fun e => by have := BZ.out.k1; have h3 := BZ.out.k3.2; rw [e, h3] at this; exact absurd this (by decide)⟩
    have X6 := Lib.hid (ht6.cbox XZ.out (fun e => hnm.1 e.symm)); have P6 := Lib.hid (ht6.cbox BZ.out.box hnm.2); have B6 := Lib.hid hb6; have T6 := Lib.hid ((Turn.of_below LZ.out).trans (ht6.mono BZ.out.foot_m))
    refine hKr.out _ _ ⟨X6.out, P6.out⟩ (fun _ => ?_)
    refine wpAnyH_done (by kernel_rfl) ?_ _
    clear hKr hb6 ht6 hnm HF hHeld HZ
    go_wp2_with fail
    go_meet
    case rel => exact ⟨by rw [HS1.out]; simpa using B6.out, X6.out, T6.out⟩
 case rest =>
  obtain ⟨hB, hX, hT⟩ := hcut
  have B7 := Lib.hid hB; have X7 := Lib.hid hX; have T7 := Lib.hid hT
  have c13 := hB.cell 13 (v := .pointer (some ⟨A.tp, 0, none⟩)) rfl
  have HFV := Lib.hid (HFW.out _ hB)
  clear hB hX hT B5 X5 L5 HFW HLE HVI
  cases fw
  · have HL2 := Lib.hid (show l1 = [] from by rw [HL1.out, if_neg (by decide)])
    go_wp2_with ((with_reducible refine HFV.out.mono ?_); rintro e w8 ⟨rfl, hw8⟩; subst w8)
    go_ret
    exact ⟨_, rfl, by rw [HL2.out]; exact World.ownsRow_nil _ _ _ _, B7.out, T7.out⟩
  · have HL2 := Lib.hid (show l1 = plainTo s1 ⟨g1, g2, g3, g4, g5, g6, g7⟩ port now from by rw [HL1.out, if_pos rfl])
    go_upto_region 19 with ((with_reducible refine HFV.out.mono ?_); rintro e w8 ⟨rfl, hw8⟩; subst w8)
    obtain ⟨c0, cf0⟩ := CBox.at_ X7.out 0 _ rfl
    obtain ⟨c1, cf1⟩ := CBox.at_ X7.out 1 _ rfl
    obtain ⟨c2, cf2⟩ := CBox.at_ X7.out 2 _ rfl
    obtain ⟨c3, cf3⟩ := CBox.at_ X7.out 3 _ rfl
    obtain ⟨c4, cf4⟩ := CBox.at_ X7.out 4 _ rfl
    obtain ⟨c5, cf5⟩ := CBox.at_ X7.out 5 _ rfl
    obtain ⟨c6, cf6⟩ := CBox.at_ X7.out 6 _ rfl
    go_upto_region 20 with fail
    obtain ⟨V9, hV9⟩ : ∃ W, wc.alloc (.cells #[.pointer (some ⟨A.b, 0, none⟩), .string (bstr g1), .string (bstr g2), .bool g3, .int .i64 g4, .int .i64 g5, .int .i64 g6, .string (bstr g7), .int .i64 port, .int .i64 now] 117) = W := ⟨_, rfl⟩
    obtain ⟨qp, hqp⟩ : ∃ q, wc.heap.size = q := ⟨_, rfl⟩
    have hb9 : Below wc.heap.size wc V9 := by rw [← hV9]; exact (Below.refl _ _).alloc (Nat.le_refl _) _
    have B9 := Lib.hid (B7.out.below hb9)
    have X9 := Lib.hid (show CBox V9 qp 117 #[.pointer (some ⟨A.b, 0, none⟩), .string (bstr g1), .string (bstr g2), .bool g3, .int .i64 g4, .int .i64 g5, .int .i64 g6, .string (bstr g7), .int .i64 port, .int .i64 now] from by rw [← hV9]; exact CBox.new _ hqp.symm)
    have T9 := Lib.hid (T7.out.trans (Turn.of_below (F := bfoot A) hb9))
    rw [hV9, hqp]
    clear hV9 hqp hb9 B7 X7 T7 c13 HFV c0 cf0 c1 cf1 c2 cf2 c3 cf3 c4 cf4 c5 cf5 c6 cf6
    obtain ⟨c0, cf0⟩ := CBox.at_ X9.out 0 _ rfl
    obtain ⟨c1, cf1⟩ := CBox.at_ X9.out 1 _ rfl
    obtain ⟨c2, cf2⟩ := CBox.at_ X9.out 2 _ rfl
    obtain ⟨c3, cf3⟩ := CBox.at_ X9.out 3 _ rfl
    obtain ⟨c4, cf4⟩ := CBox.at_ X9.out 4 _ rfl
    obtain ⟨c5, cf5⟩ := CBox.at_ X9.out 5 _ rfl
    obtain ⟨c6, cf6⟩ := CBox.at_ X9.out 6 _ rfl
    obtain ⟨c7, cf7⟩ := CBox.at_ X9.out 7 _ rfl
    obtain ⟨c8, cf8⟩ := CBox.at_ X9.out 8 _ rfl
    obtain ⟨c9, cf9⟩ := CBox.at_ X9.out 9 _ rfl
    go_upto_region 21 with ((with_reducible refine (HRD.out V9).mono ?_); rintro e wa ⟨rfl, hba⟩; have Ba := Lib.hid (B9.out.below hba); have Xa := Lib.hid (X9.out.below hba X9.out.lt); have Ta := Lib.hid (T9.out.trans (Turn.of_below (F := bfoot A) hba)); clear hba)
    clear c0 cf0 c1 cf1 c2 cf2 c3 cf3 c4 cf4 c5 cf5 c6 cf6 c7 cf7 c8 cf8 c9 cf9
    obtain ⟨c0, cf0⟩ := CBox.at_ Xa.out 0 _ rfl
    obtain ⟨c1, cf1⟩ := CBox.at_ Xa.out 1 _ rfl
    obtain ⟨c2, cf2⟩ := CBox.at_ Xa.out 2 _ rfl
    obtain ⟨c3, cf3⟩ := CBox.at_ Xa.out 3 _ rfl
    obtain ⟨c4, cf4⟩ := CBox.at_ Xa.out 4 _ rfl
    obtain ⟨c5, cf5⟩ := CBox.at_ Xa.out 5 _ rfl
    obtain ⟨c6, cf6⟩ := CBox.at_ Xa.out 6 _ rfl
    obtain ⟨c7, cf7⟩ := CBox.at_ Xa.out 7 _ rfl
    obtain ⟨c8, cf8⟩ := CBox.at_ Xa.out 8 _ rfl
    obtain ⟨c9, cf9⟩ := CBox.at_ Xa.out 9 _ rfl
    have ha1 : ∀ W, (Instr.typeAssert .nilIface 20 124 true).run Tryz.prog W = .ok (.tuple #[.agg #[.string ⟨#[]⟩, .int .i64 0, .int .i64 0, .string ⟨#[]⟩, .int .i64 0, .bool false, .int .i64 0, .int .i64 0, .slice none 0 0, .slice none 0 0], .bool false]) W := fun W => by kernel_rfl
    have ha2 : ∀ W, (Instr.typeAssert .nilIface 20 127 true).run Tryz.prog W = .ok (.tuple #[.agg #[.string ⟨#[]⟩, .string ⟨#[]⟩], .bool false]) W := fun W => by kernel_rfl
    go_wp2_with ((with_reducible refine (HPL.out wa Ba.out).mono ?_); rintro e wb ⟨vb, rfl, hrb, hbb⟩; have RB := Lib.hid hrb; have BB := Lib.hid hbb; clear hrb hbb)
    go_ret
    exact ⟨_, rfl, by rw [HL2.out]; exact own_base2 RB.out Ta.out.size, Ba.out.below BB.out, Ta.out.trans (Turn.of_below (F := bfoot A) BB.out)⟩

theorem sorted_compact2 {w : World} {base : Nat} {v : Value} {L : List Int} (hrow : w.ownsRow base 3 1 v L.length (L.map (Value.int .i64))) (hl : L.length ≤ 17592186044416) (hw : ∀ x ∈ L, (Lit.int .i64 x).wf = true) :
 Calls Tryz.prog 81 #[v] w fun e w' => e = .returned (.tuple #[]) ∧ Calls Tryz.prog 82 #[v] w' fun e w'' =>
  ∃ o R, e = .returned o ∧ Ints w'' o R ∧ R.Pairwise (· < ·) ∧ (∀ x, x ∈ R ↔ x ∈ L) ∧ w.grownBy w'' v.ownBlock ∧ (∀ j, o.ownBlock = some j → v.ownBlock = some j) := by
 rcases hrow.2 with ⟨rfl, h0⟩ | ⟨g, cap, cur, rfl, hbase, hb, h1, h2, h3, h4⟩
 · rw [List.length_eq_zero_iff] at h0
   subst h0
   refine (Tryz.slices_Sort_int_none none 0 w).mono ?_
   rintro e w' ⟨rfl, rfl⟩
   refine ⟨rfl, (Tryz.slices_Compact_int_empty none 0 w').mono ?_⟩
   rintro e w'' ⟨rfl, rfl⟩
   exact ⟨_, [], rfl, Ints.nil _, by simp, by simp, ⟨rfl, rfl, rfl, Nat.le_refl _, fun _ _ _ => rfl⟩, fun j hj => hj⟩
 · refine (Tryz.slices_Sort_int g 0 cap L w (holds_of_blockI hb (by simpa using h4)) (Array.getElem?_eq_some_iff.1 hb).1 (by omega)).mono ?_
   rintro e w' ⟨rfl, n, os, rfl⟩
   refine ⟨rfl, ?_⟩
   obtain ⟨S, hS⟩ : ∃ S, S = L.mergeSort fun x y => decide (x ≤ y) := ⟨_, rfl⟩
   have hSl : S.length = L.length := by rw [hS]; simp
   have hSm : ∀ x, x ∈ S ↔ x ∈ L := fun x => by rw [hS]; exact List.mem_mergeSort
   have hSr : S.Pairwise (· ≤ ·) := by rw [hS]; exact sorted_le L
   rw [← hS]
   have hg1 := grownBy_sortedI (n := n) (os := os) S.toArray (w := w) (g := g)
   have hown := ownsRow_sortedI (n := n) (os := os) (ts := S) hSl hbase hb h1 h2 h3
   obtain ⟨w1, hw1⟩ : ∃ w1, w1 = grow (putRow (Value.int .i64) (Sort.ahead w n) g 0 S.toArray) os := ⟨_, rfl⟩
   rw [← hw1] at hg1 hown ⊢
   rcases hown.2 with ⟨hv, _⟩ | ⟨g', cap', cur', hv, hbase', hb', h1', h2', h3', h4'⟩
   · cases hv
   · cases hv
     rw [← hSl] at h1' h4' ⊢
     refine (Tryz.slices_Compact_int g 0 cap S w1 (holds_of_blockI hb' (by simpa using h4')) (by omega) h1').mono ?_
     rintro e w'' ⟨rfl, q, rfl⟩
     have hcl := compact_length_le S
     have hT : (compact S ++ List.replicate (S.length - (compact S).length) 0).length = S.length := by simp; omega
     obtain ⟨T, hTe⟩ : ∃ T, T = compact S ++ List.replicate (S.length - (compact S).length) 0 := ⟨_, rfl⟩
     rw [← hTe] at hT ⊢
     have hg2 := grownBy_sortedI (n := q) (os := #[]) T.toArray (w := w1) (g := g)
     have hown2 := ownsRow_sortedI (n := q) (os := #[]) (ts := T) hT hbase' hb' h1' h2' h3'
     rw [grow_empty] at hg2 hown2
     rw [← hT] at hown2
     refine ⟨_, compact S, rfl, ?_, compact_rises S hSr, fun x => (compact_mem S x).trans (hSm x), ?_, fun j hj => hj⟩
     · have hi := Ints.own hown2 (by omega) (fun x hx => by
        rw [hTe, List.mem_append] at hx
        rcases hx with hx | hx
        · exact hw x ((hSm x).1 ((compact_mem S x).1 hx))
        · rw [(List.mem_replicate.1 hx).2]; decide)
       have := hi.cutTo (compact S).length (by omega)
       have ht : T.take (compact S).length = compact S := by rw [hTe, List.take_left]
       rwa [ht] at this
     · exact hg1.andThen hg2 (fun j hj => .inr hj)
theorem ints_sliceOf {w : World} {v : Value} {L : List Int} (h : Ints w v L) : SliceOf w 1 v L.length (L.map (Value.int .i64)) := by
 obtain ⟨ao, cap, b, off, rfl, h0, h1, h2, h3⟩ := h
 refine ⟨ao, cap, rfl, by simp, ints_oneCell .i64 L, ?_⟩
 by_cases hz : L.length = 0
 · exact .inl hz
 · refine .inr ⟨⟨b, off, none⟩, ?_, fun j x hj => ?_⟩
   · rcases h0 with rfl | h0
     · simp at hz
     · exact h0
   · rw [List.getElem?_map] at hj
     cases hl : L[j]? with
     | none => rw [hl] at hj; cases hj
     | some y =>
       rw [hl] at hj
       obtain ⟨hlt, rfl⟩ := List.getElem?_eq_some_iff.1 hl
       injection hj with hj
       subst hj
       rw [add_lit, (h3 j hlt).2]
       simp [List.getD_eq_getElem?_getD, hlt]
def allV (l : List Pt) : List Int := l.flatMap fun p => p.tagged ++ p.plain
def RetVl (w : World) (all : List Int) (e : Ending) (w' : World) : Prop :=
 ∃ v R, e = .returned v ∧ Ints w' v R ∧ R.Pairwise (· < ·) ∧ (∀ x, x ∈ R ↔ x ∈ all) ∧ (∀ j, v.ownBlock = some j → w.heap.size ≤ j ∧ j < w'.heap.size) ∧ Below w.heap.size w w'
theorem allV_take (l : List Pt) {k : Nat} (h : k < l.length) : allV (l.take (k + 1)) = allV (l.take k) ++ l[k].tagged ++ l[k].plain := by
 unfold allV
 rw [List.take_succ_eq_append_getElem h, List.flatMap_append]
 simp
theorem allV_len (l : List Pt) (k n : Nat) (h : ∀ p ∈ l, p.tagged.length ≤ n ∧ p.plain.length ≤ n) : (allV (l.take k)).length ≤ k * (2 * n) := by
 induction k with
 | zero => simp [allV]
 | succ k ih =>
   by_cases hk : k < l.length
   · rw [allV_take l hk]
     have := h _ (List.getElem_mem hk)
     simp only [List.length_append]
     rw [Nat.add_mul]
     omega
   · rw [List.take_of_length_le (by omega)] at ih ⊢
     exact Nat.le_trans ih (Nat.mul_le_mul_right _ (by omega))
set_option maxHeartbeats 8000000 in
theorem vlans_any (R : Nat → Prop) (v : Value) (L : List Pt) (w : World) (h : Pts R w v L) (hn : L.length ≤ 1000) (hl : ∀ p ∈ L, p.tagged.length ≤ 1000000 ∧ p.plain.length ≤ 1000000) :
 Calls Tryz.prog 29 #[v] w (RetVl w (allV L)) := by
 obtain ⟨i0, hi, hz0, hz1, hz2⟩ := info_parts infoIntV
 obtain ⟨b, off, hm, hlen, hidx, hc⟩ := h.facts
 have HLN := Lib.hid (fun k => allV_len L k 1000000 hl)
 have HLL := Lib.hid (fun k (hk : k < L.length) => hl _ (List.getElem_mem hk))
 have HC := Lib.hid hc
 have HN := Lib.hid hn
 clear h hl hc
 go_enter Tryz.func29, Tryz.ntmps29
 go_wp2_with fail
 go_loopw [3, 5, 8] (fun r _ i wr => ∃ k : Nat, k ≤ L.length ∧ i = .int .i64 (k : Nat) ∧ wr.ownsRow w.heap.size 3 1 r (allV (L.take k)).length ((allV (L.take k)).map (Value.int .i64)) ∧ (∀ x ∈ allV (L.take k), (Lit.int .i64 x).wf = true) ∧ Below w.heap.size w wr) (fun _ _ i _ => L.length - (intOf i).toNat)
 case atStart => exact ⟨0, Nat.zero_le _, rfl, by rw [List.take_zero]; exact World.ownsRow_nil _ _ _ _, by rw [List.take_zero]; intro x hx; simp [allV] at hx, Below.refl _ _⟩
 case round =>
  obtain ⟨k, hk, rfl, hrow, hwf, hb⟩ := hrel
  by_cases hlt : k < L.length
  · have HS := Lib.hid (allV_take L hlt)
    have HL := Lib.hid (HLN.out k)
    have HL2 := Lib.hid (HLL.out k hlt)
    obtain ⟨hlx, vt, vp, c0, c1, c2, i1, i2⟩ := HC.out k hlt
    have s0 := (hb.cell (p := ⟨b, off + k * 3, none⟩) hlx).trans c0
    have s1 := (hb.cell (p := ⟨b, off + k * 3 + 1, none⟩) hlx).trans c1
    have s2 := (hb.cell (p := ⟨b, off + k * 3 + 2, none⟩) hlx).trans c2
    have hp := hidx k hlt
    obtain ⟨⟨d, tg, pl⟩, hP0⟩ : ∃ P0, L[k] = P0 := ⟨_, rfl⟩
    rw [hP0] at HS HL2 s0 i1 i2
    dsimp only at HS HL2 s0 i1 i2
    obtain ⟨AV, hAV⟩ : ∃ l, allV (L.take k) = l := ⟨_, rfl⟩
    rw [hAV] at HS HL hrow hwf
    have HWF := Lib.hid hwf
    have w1 := i1.wf
    have w2 := i2.wf
    have HW12 := Lib.hid (And.intro w1 w2)
    obtain ⟨ao, an, ac, rfl⟩ := i1.shape
    obtain ⟨bo, bn, bc, rfl⟩ := i2.shape
    obtain ⟨W1, hW1⟩ : ∃ W, wr.alloc (.cells #[.int .i64 d, .slice ao an ac, .slice bo bn bc] 56) = W := ⟨_, rfl⟩
    obtain ⟨pb, hpb⟩ : ∃ n, wr.heap.size = n := ⟨_, rfl⟩
    have hb1 : Below wr.heap.size wr W1 := by rw [← hW1]; exact (Below.refl _ _).alloc (Nat.le_refl _) _
    have hx1 : CBox W1 pb 56 #[.int .i64 d, .slice ao an ac, .slice bo bn bc] := by rw [← hW1]; exact CBox.new _ hpb.symm
    obtain ⟨Z, hZ⟩ : ∃ W, W1.drew = W := ⟨_, rfl⟩
    have hbz : Below W1.heap.size W1 Z := by rw [← hZ]; exact Below.drew (Below.refl _ _)
    have hbb := hb1.trans (hbz.mono hb1.size)
    have XZ := Lib.hid (hx1.below hbz hx1.lt); have BZ := Lib.hid (hb.trans (hbb.mono hb.size)); have RZ := Lib.hid (gown_bel hrow hbb)
    have IT := Lib.hid (ints_sliceOf ((i1.mono hb).mono hbb)); have IP := Lib.hid (fun W (hW : Below w.heap.size w W) => ints_sliceOf (i2.mono hW))
    have HW1 := Lib.hid hW1; have HPB := Lib.hid hpb; have HZ := Lib.hid hZ
    have HF := Lib.hid (fun (wq : World) (h : CBox wq pb 56 #[.int .i64 d, .slice ao an ac, .slice bo bn bc]) => And.intro (h.at_ 1 _ rfl).1 (h.at_ 2 _ rfl).1)
    have hc3 : AV.length + tg.length ≤ maxLen := by have h1 := HL.out; have h2 := HL2.out; have h3 := HN.out; have : k * (2 * 1000000) ≤ 1000 * (2 * 1000000) := Nat.mul_le_mul_right _ (by omega); unfold maxLen; omega
    have hc4 : (AV.length + tg.length) * 8 ≤ 140737488355328 := by have h1 := HL.out; have h2 := HL2.out; have h3 := HN.out; have : k * (2 * 1000000) ≤ 1000 * (2 * 1000000) := Nat.mul_le_mul_right _ (by omega); omega
    have hc5 : AV.length + tg.length + pl.length ≤ maxLen := by have h1 := HL.out; have h2 := HL2.out; have h3 := HN.out; have : k * (2 * 1000000) ≤ 1000 * (2 * 1000000) := Nat.mul_le_mul_right _ (by omega); unfold maxLen; omega
    have hc6 : (AV.length + tg.length + pl.length) * 8 ≤ 140737488355328 := by have h1 := HL.out; have h2 := HL2.out; have h3 := HN.out; have : k * (2 * 1000000) ≤ 1000 * (2 * 1000000) := Nat.mul_le_mul_right _ (by omega); omega
    have HC34 := Lib.hid (And.intro (And.intro hc3 hc4) (And.intro hc5 hc6))
    clear hidx hrow hwf hb hb1 hx1 hbz hbb hlx c0 c1 c2 i1 i2 hP0 hAV hW1 hpb hZ hlen hc3 hc4 hc5 hc6 w1 w2
    go_upto_region 5 with fail
    rw [HW1.out, HPB.out]
    clear s0 s1 s2 hp
    refine wp_region_held_drew (S := fun wq => CBox wq pb 56 #[.int .i64 d, .slice ao an ac, .slice bo bn bc]) (by kernel_rfl) (by rw [HZ.out]; exact XZ.out) (fun hHeld => ?_)
    rw [HZ.out] at hHeld ⊢
    iterate 3 (first | (refine takeO 8 (v := ?_) rfl (by kernel_rfl) (fun _ _ _ => id) (Or.inl ⟨by rfl, ?_⟩) (by assumption) ?_; rotate_left; (focus (intro wq hSq; have f := HF.out wq hSq; go_simp <;> with_reducible rfl)); simp only [Act.put, List.setIfInBounds_toArray, List.set_cons_zero, List.set_cons_succ]) | (refine takeO 8 (v := undef) rfl (by kernel_rfl) (fun _ _ _ h => h) (Or.inr ⟨by rfl, rfl⟩) (by assumption) ?_; simp only [Act.put, List.setIfInBounds_toArray, List.set_cons_zero, List.set_cons_succ]))
    refine tkL 4 (v := ?_) rfl (by kernel_rfl) (fun _ _ _ => id) (Or.inl ⟨by rfl, ?_⟩) (by assumption) ?_; rotate_left; (focus (intro wq hSq; have f := HF.out wq hSq; go_simp <;> with_reducible rfl)); simp only [Act.put, pA, pB, pC]
    refine tkL 5 (v := ?_) rfl (by kernel_rfl) (fun _ _ _ => id) (Or.inl ⟨by rfl, ?_⟩) (by assumption) ?_; rotate_left; (focus (intro wq hSq; have f := HF.out wq hSq; go_simp <;> with_reducible rfl)); simp only [Act.put, pA, pB, pC]
    refine wpAnyH_ready (rs := [3]) (by kernel_rfl) (by simp) (nextL 3 rfl (fun Kr hKr => ?_) AllReadyH.nil)
    refine step_append_vals (by rfl) (.tmp 12) (.tmp 14) 23 (by rfl) w.heap.size 3 i0 _ 1 8 Tryz.underlying23 hi hz0 hz1 hz2 rfl (by decide) u3 AV.length (AV.map (Value.int .i64)) (by rfl) RZ.out (.slice ao an ac) tg.length (tg.map (Value.int .i64)) (by rfl) IT.out HC34.out.1.1 HC34.out.1.2 BZ.out.size ?_
    intro v' wA ho hg hv
    have hHeld := XZ.out.grown hg (fun e => own_box RZ.out XZ.out (by decide) e.symm)
    refine hKr.out _ _ hHeld (fun _ => ?_)
    have BA := Lib.hid (below_own BZ.out RZ.out (Nat.le_refl _) BZ.out.size hg); have RA := Lib.hid ho; have XA := Lib.hid hHeld
    clear hKr ho hg hv
    refine wpAnyH_ready (rs := [6]) (by kernel_rfl) (by simp) (nextL 6 rfl (fun Kr hKr => ?_) AllReadyH.nil)
    refine step_append_vals (by rfl) (.tmp 15) (.tmp 17) 23 (by rfl) w.heap.size 3 i0 _ 1 8 Tryz.underlying23 hi hz0 hz1 hz2 rfl (by decide) v' (AV.length + tg.length) (AV.map (Value.int .i64) ++ tg.map (Value.int .i64)) (by rfl) RA.out (.slice bo bn bc) pl.length (pl.map (Value.int .i64)) (by rfl) (IP.out wA BA.out) HC34.out.2.1 HC34.out.2.2 BA.out.size ?_
    intro v2 wB ho hg hv
    have hHeld := XA.out.grown hg (fun e => own_box RA.out XA.out (by decide) e.symm)
    refine hKr.out _ _ hHeld (fun _ => ?_)
    have BB := Lib.hid (below_own BA.out RA.out (Nat.le_refl _) BA.out.size hg); have RB := Lib.hid ho
    clear hKr ho hg hv
    iterate 1 (first | (refine takeO 8 (v := ?_) rfl (by kernel_rfl) (fun _ _ _ => id) (Or.inl ⟨by rfl, ?_⟩) (by assumption) ?_; rotate_left; (focus (intro wq hSq; go_simp <;> with_reducible rfl)); simp only [Act.put, List.setIfInBounds_toArray, List.set_cons_zero, List.set_cons_succ]) | (refine takeO 8 (v := undef) rfl (by kernel_rfl) (fun _ _ _ h => h) (Or.inr ⟨by rfl, rfl⟩) (by assumption) ?_; simp only [Act.put, List.setIfInBounds_toArray, List.set_cons_zero, List.set_cons_succ]))
    refine wpAnyH_done (by kernel_rfl) ?_ _
    clear hHeld HF HC34 XZ XA RZ BZ RA BA
    go_wp2_with fail
    go_roundw
    case rel =>
     refine ⟨k + 1, by omega, by go_num, by rw [HS.out, List.length_append, List.length_append, List.map_append, List.map_append]; exact RB.out, fun x hx => ?_, BB.out⟩
     rw [HS.out, List.mem_append, List.mem_append] at hx
     rcases hx with (hx | hx) | hx
     · exact HWF.out x hx
     · exact HW12.out.1 x hx
     · exact HW12.out.2 x hx
    case measure => simp [intOf]; omega
  · obtain rfl : k = L.length := by omega
    have HL := Lib.hid (HLN.out L.length)
    rw [List.take_length] at hrow hwf HL
    have hln : (allV L).length ≤ 17592186044416 := by have h1 := HL.out; have h3 := HN.out; have : L.length * (2 * 1000000) ≤ 1000 * (2 * 1000000) := Nat.mul_le_mul_right _ (by omega); omega
    have HSC := Lib.hid (sorted_compact2 hrow hln hwf)
    have HB := Lib.hid hb; have HRW := Lib.hid hrow
    clear hrow hwf hb hidx hlen hln
    go_wp2_with (first | ((with_reducible refine HSC.out.mono ?_); rintro e w2 ⟨rfl, hcp⟩; have HCP := Lib.hid hcp; clear hcp) | ((with_reducible refine HCP.out.mono ?_); rintro e w3 ⟨o, R, rfl, h1, h2, h3, h4, h5⟩; have H3 := Lib.hid (And.intro h1 (And.intro h2 (And.intro h3 (And.intro h4 h5)))); clear h1 h2 h3 h4 h5))
    go_ret
    exact ⟨o, R, rfl, H3.out.1, H3.out.2.1, H3.out.2.2.1, fun j hj => ⟨(HRW.out.lt j (H3.out.2.2.2.2 j hj)).1, Nat.lt_of_lt_of_le (HRW.out.lt j (H3.out.2.2.2.2 j hj)).2 H3.out.2.2.2.1.size⟩, below_own HB.out HRW.out (Nat.le_refl _) HB.out.size H3.out.2.2.2.1⟩

def RetIsB (w : World) (L : List Int) (e : Ending) (w' : World) : Prop := ∃ v, e = .returned v ∧ Ints w' v L ∧ (∀ j, v.ownBlock = some j → w.heap.size ≤ j ∧ j < w'.heap.size) ∧ Below w.heap.size w w'
theorem clone_any (v : Value) (L : List Int) (w : World) (h : Ints w v L) : Calls Tryz.prog 33 #[v] w (RetIsB w L) := by
 have hwf := h.wf
 obtain ⟨ao, cap, b, off, rfl, h0, h1, h2, h3⟩ := h
 cases ao with
 | none =>
   obtain rfl : L = [] := by rcases h0 with h0 | h0; exact h0; cases h0
   refine (Tryz.slices_Clone_int_nil 0 cap w).mono ?_
   rintro e w' ⟨rfl, rfl⟩
   exact ⟨_, rfl, Ints.nil _, fun j hj => by simp [Value.ownBlock] at hj, Below.refl _ _⟩
 | some a =>
   by_cases hL : L = []
   · subst hL
     refine (Tryz.slices_Clone_int_zero a cap w).mono ?_
     rintro e w' ⟨v', rfl, ho, _, hb⟩
     exact ⟨_, rfl, Ints.own (L := []) ho (by simp) (by simp), fun j hj => ho.lt j hj, hb⟩
   · have ha : a = ⟨b, off, none⟩ := by rcases h0 with h0 | h0; exact absurd h0 hL; injection h0
     subst ha
     refine (Tryz.slices_Clone_int b off L.length cap L w (Nat.le_refl _) (by omega) fun j hj => (h3 j hj).2).mono ?_
     rintro e w' ⟨v', rfl, ho, _, hb⟩
     rw [List.take_length] at ho
     exact ⟨_, rfl, Ints.own ho h1 hwf, fun j hj => ho.lt j hj, hb⟩

def tcell (t : Int × Value × Value) : List Value := [.int .i64 t.1, t.2.1, t.2.2]
theorem tcell_len (t : Int × Value × Value) : (tcell t).length = 3 := rfl
structure PtIs (w : World) (R : Nat → Prop) (p : Pt) (t : Int × Value × Value) : Prop where
 d : t.1 = p.default_
 wf : (Lit.int .i64 p.default_).wf = true
 it : Ints w t.2.1 p.tagged
 ip : Ints w t.2.2 p.plain
 rt : ∀ j, t.2.1.ownBlock = some j → R j
 rp : ∀ j, t.2.2.ownBlock = some j → R j
def PtsIs (w : World) (R : Nat → Prop) (L : List Pt) (T : List (Int × Value × Value)) : Prop := T.length = L.length ∧ ∀ k, (hk : k < L.length) → PtIs w R L[k] (T.getD k default)
theorem PtsIs.mono {w w' : World} {R : Nat → Prop} {L : List Pt} {T : List (Int × Value × Value)} (h : PtsIs w R L T) (hb : Below w.heap.size w w') : PtsIs w' R L T :=
 ⟨h.1, fun k hk => have q := h.2 k hk; ⟨q.d, q.wf, q.it.mono hb, q.ip.mono hb, q.rt, q.rp⟩⟩
theorem Pts.rows {R : Nat → Prop} {w : World} {v : Value} {L : List Pt} (h : Pts R w v L) : ∃ T, PtsIs w R L T ∧ SliceOf w 3 v L.length (T.flatMap tcell) := by
 obtain ⟨ao, cap, b, off, rfl, h0, h1, h2⟩ := h
 obtain ⟨T, hT⟩ : ∃ T : List (Int × Value × Value), T = (List.range L.length).map fun k => ((L.getD k default).default_, (w.cell? ⟨b, off + k * 3 + 1, none⟩).getD default, (w.cell? ⟨b, off + k * 3 + 2, none⟩).getD default) := ⟨_, rfl⟩
 have hl : T.length = L.length := by rw [hT]; simp
 have hg : ∀ k, (hk : k < L.length) → T.getD k default = (L[k].default_, (w.cell? ⟨b, off + k * 3 + 1, none⟩).getD default, (w.cell? ⟨b, off + k * 3 + 2, none⟩).getD default) := fun k hk => by
  rw [hT]
  simp [List.getD_eq_getElem?_getD, hk]
 have hp : PtsIs w R L T := ⟨hl, fun k hk => by
  obtain ⟨hlt, hR, hw, vt, vp, c0, c1, c2, i1, i2, r1, r2⟩ := h2 k hk
  rw [hg k hk, c1, c2]
  exact ⟨rfl, hw, i1, i2, r1, r2⟩⟩
 refine ⟨T, hp, ao, cap, rfl, ?_, fun x hx => ?_, ?_⟩
 · rw [← hl]; exact gflat_len tcell_len T
 · obtain ⟨t, ht, hx⟩ := List.mem_flatMap.1 hx
   obtain ⟨k, hk, rfl⟩ := List.mem_iff_getElem.1 ht
   have hk' : k < L.length := by omega
   have q := hp.2 k hk'
   have e : T.getD k default = T[k] := by simp [List.getD_eq_getElem?_getD, hk]
   rw [e] at q
   obtain ⟨a1, n1, c1, e1⟩ := q.it.shape
   obtain ⟨a2, n2, c2, e2⟩ := q.ip.shape
   simp only [tcell, List.mem_cons, List.not_mem_nil, or_false] at hx
   rcases hx with rfl | rfl | rfl
   · rfl
   · rw [e1]; rfl
   · rw [e2]; rfl
 · by_cases hz : L.length = 0
   · exact .inl hz
   · refine .inr ⟨⟨b, off, none⟩, ?_, fun j x hj => ?_⟩
     · rcases h0 with rfl | h0
       · simp at hz
       · exact h0
     · have hj3 : j < T.length * 3 := by rw [← gflat_len tcell_len T]; exact (List.getElem?_eq_some_iff.1 hj).1
       have hk : j / 3 < T.length := by omega
       have hk' : j / 3 < L.length := by omega
       have hd : j / 3 * 3 + j % 3 = j := by omega
       have hm : j % 3 < 3 := Nat.mod_lt _ (by decide)
       have := gflat_get tcell_len T (j / 3) (j % 3) hk hm
       rw [hd, hj, hg _ hk'] at this
       obtain ⟨_, _, _, vt, vp, c0, c1, c2, _⟩ := h2 _ hk'
       rw [c1, c2] at this
       rw [add_lit]
       have h3 : j % 3 = 0 ∨ j % 3 = 1 ∨ j % 3 = 2 := by omega
       rcases h3 with h3 | h3 | h3
       · rw [h3] at this hd
         rw [show off + j = off + j / 3 * 3 from by omega, c0]
         exact this.symm ▸ rfl
       · rw [h3] at this hd
         rw [show off + j = off + j / 3 * 3 + 1 from by omega, c1]
         exact this.symm ▸ rfl
       · rw [h3] at this hd
         rw [show off + j = off + j / 3 * 3 + 2 from by omega, c2]
         exact this.symm ▸ rfl
theorem sliceOf_bel {w w' : World} {size m : Nat} {u : Value} {news : List Value} (h : SliceOf w size u m news) (hb : Below w.heap.size w w') : SliceOf w' size u m news := by
 obtain ⟨A, c, rfl, h0, h1, h2⟩ := h
 refine ⟨A, c, rfl, h0, h1, ?_⟩
 rcases h2 with h2 | ⟨ad, rfl, h2⟩
 · exact .inl h2
 · exact .inr ⟨ad, rfl, fun j x hj => by have := h2 j x hj; exact (hb.cell (fcell_lt this)).trans this⟩
theorem infoPt : (Tryz.prog.info? 56).map (fun i => (i.zero, i.size, i.bytes)) = some (some (.agg #[.int .i64 0, .slice none 0 0, .slice none 0 0]), 3, 56) := by kernel_rfl
def RetCp (w : World) (T : List (Int × Value × Value)) (e : Ending) (w' : World) : Prop := ∃ v, e = .returned v ∧ w'.ownsRow w.heap.size 56 3 v T.length (T.flatMap tcell) ∧ Below w.heap.size w w'
theorem clonep_any (v : Value) (T : List (Int × Value × Value)) (w : World) (h : SliceOf w 3 v T.length (T.flatMap tcell)) (hn : T.length ≤ 1000000) :
 Calls Tryz.prog 32 #[v] w (RetCp w T) := by
 obtain ⟨i0, hi, hz0, hz1, hz2⟩ := info_parts23 infoPt
 have q22 : ∀ (w : World) (a : Option Addr) (n c n' c' : Nat), (binOp .eql 24 (.slice a n c) (.slice none n' c')).run Tryz.prog w = .ok (.bool a.isNone) w := fun w a n c n' c' => Lib.run_eql_slice_nil w _ _ a n c n' c' Tryz.underlying24
 have hS := h
 obtain ⟨ao, cap, rfl, h0, h1, h2⟩ := h
 cases ao with
 | none =>
   have hz : T.length = 0 := by rcases h2 with h2 | ⟨_, h2, _⟩; exact h2; cases h2
   obtain rfl : T = [] := List.length_eq_zero_iff.1 hz
   have q := q22 w none 0 cap 0 0
   clear h0 h1 h2 hS
   go_enter Tryz.func32, Tryz.ntmps32
   go_wp2
   go_ret
   exact ⟨_, rfl, World.ownsRow_nil _ _ _ _, Below.refl _ _⟩
 | some a =>
   have q := q22 w (some a) T.length cap 0 0
   have hb1 : Below w.heap.size w (w.alloc (.cells #[] 56)) := (Below.refl _ _).alloc (Nat.le_refl _) _
   have ho : (w.alloc (.cells #[] 56)).ownsRow w.heap.size 56 3 (.slice (some ⟨w.heap.size, 0, none⟩) 0 0) 0 [] := ⟨rfl, .inr ⟨w.heap.size, 0, #[], rfl, Nat.le_refl _, heap_alloc_new w _, Nat.le_refl _, Nat.zero_le _, rfl, rfl⟩⟩
   have hsl : SliceOf (w.alloc (.cells #[] 56)) 3 (.slice (some a) T.length cap) T.length (T.flatMap tcell) := sliceOf_bel hS hb1
   have HO := Lib.hid ho; have HS := Lib.hid hsl; have HB := Lib.hid hb1
   have hc3 : 0 + T.length ≤ maxLen := by unfold maxLen; omega
   have hc4 : (0 + T.length) * 56 ≤ 140737488355328 := by omega
   have HC3 := Lib.hid hc3; have HC4 := Lib.hid hc4
   clear h0 h1 h2 hS hb1 ho hsl hc3 hc4
   go_enter Tryz.func32, Tryz.ntmps32
   go_wp2_with (at_builtin; refine wpList_append_vals _ rfl _ _ 24 rfl w.heap.size 56 i0 _ 3 56 Tryz.underlying24 hi hz0 hz1 hz2 rfl (by decide) _ 0 [] rfl HO.out _ T.length (T.flatMap tcell) rfl HS.out HC3.out HC4.out (by simp) ?_; intro v' w3 hown3 hg3 _; have HO3 := Lib.hid hown3; have HB3 := Lib.hid (below_own HB.out HO.out (Nat.le_refl _) (by simp) hg3); clear hown3 hg3)
   go_ret
   exact ⟨_, rfl, by simpa using HO3.out, HB3.out⟩
end Go.Proofs.YthcdppppppgckaaGreatDoor
