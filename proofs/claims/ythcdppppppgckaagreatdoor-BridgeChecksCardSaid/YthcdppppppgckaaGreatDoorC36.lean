/- Texts joined into one file: BBr3, BAr, BSe, BPl. -/
import Derived.Test.YthcdppppppgckaaGreatDoorC35
import Derived.Test.YthcdppppppgckaaGreatDoorC34
import Derived.Test.YthcdppppppgckaaGreatDoorC31

namespace Go.Proofs.YthcdppppppgckaaGreatDoor
open Go.RowKit Go.Lib Go.Maps Go.Sort
set_option maxRecDepth 20000
set_option maxRecDepth 20000

theorem cutF_keys {F : Fdb} {pr : Int × Str → Int × Int → Bool} {L : List (Int × Str)} (h : KeysV (encV F) L) : ∃ L', KeysV (encV (cutF F pr)) L' ∧ L'.length ≤ L.length := by
 refine ⟨L.filter fun k => (cutF F pr k).isSome, ⟨h.1.filter _, fun x => ?_⟩, List.length_filter_le _ _⟩
 rw [List.mem_filter, h.2 x]
 have e : ∀ G : Fdb, encV G x ≠ none ↔ G x ≠ none := fun G => by unfold encV; cases G x <;> simp
 rw [e, e]
 unfold cutF
 cases F x with
 | none => simp
 | some y => cases pr x y <;> simp
theorem cutF_ok {F : Fdb} {pr : Int × Str → Int × Int → Bool} (h : FdOk F) : FdOk (cutF F pr) := ⟨fun k e he => h.at_ k e (by
 unfold cutF at he
 cases hF : F k with
 | none => rw [hF] at he; cases he
 | some y =>
   rw [hF] at he
   dsimp only at he
   split at he
   · cases he
   · exact he)⟩
def flushN (D : Fdb) : Nat → Fdb
 | 0 => D
 | k + 1 => flushF (flushN D k) (k : Int)
def BrS.settled (s : BrS) : BrS := if s.tree.change = s.changed then s else { s with changed := s.tree.change, fdb := flushN s.fdb s.c.ports.length }
def RetBr (w : World) (A : Adr) (s : BrS) (e : Ending) (w' : World) : Prop := e = .returned (.tuple #[]) ∧ BrAt w' A s ∧ Turn (bfoot A) w w'
section
variable {w w' : World} {A : Adr} {s : BrS}
theorem BrAt.foot_m (h : BrAt w A s) : ∀ j, j = A.fm → bfoot A j := fun j e => by subst e; unfold bfoot; rw [h.k3.2]; decide
theorem BrAt.foot_t (h : BrAt w A s) : ∀ j, tfoot A.tp A.tg j → bfoot A j := fun j e => by
 unfold bfoot
 rcases e with rfl | rfl
 · rw [h.k2.1]; decide
 · rw [h.k2.2]; decide
theorem BrAt.foot_b (h : BrAt w A s) : ∀ j, j = A.b → bfoot A j := fun j e => by subst e; unfold bfoot; rw [h.k1]; decide
theorem BrAt.foot_g (h : BrAt w A s) : ∀ j, j = A.gb ∨ j = A.go → bfoot A j := fun j e => by
 unfold bfoot
 rcases e with rfl | rfl
 · rw [h.k4.2.1]; decide
 · rw [h.k4.2.2]; decide
theorem BrAt.foot_q (h : BrAt w A s) {k : Int × Int} (hk : qdom s.vl k = true) : ∀ j, j = A.qb k → bfoot A j := fun j e => by subst e; unfold bfoot; rw [h.k7.2 k hk]; decide
theorem BrAt.cutFdb {n : Nat} {pr : Int × Str → Int × Int → Bool} (h : BrAt w A s) (_hn : (n : Int) ≤ s.c.room) (hf : FdAt w' A.fp A.fm n s.c.room s.c.age (cutF s.fdb pr)) (k : Turn (fun j => j = A.fm) w w') : BrAt w' A { s with fdb := cutF s.fdb pr } := by
 obtain ⟨L, l1, l2, _⟩ := h.fdb
 obtain ⟨L', m1, m2⟩ := cutF_keys (pr := pr) l1
 exact h.withFdb _ ⟨L', m1, by omega, hf.box, hf.map.tight Tryz.underlying149 m1⟩ k (cutF_ok h.ok.fdb)
theorem BrAt.cell (h : BrAt w A s) (i : Nat) {v : Value} (hv : (brcells A s)[i]? = some v) : w.cell? ⟨A.b, i, none⟩ = some v := (h.box.at_ i v hv).1
end

set_option maxHeartbeats 2000000 in
theorem bsettle_any (A : Adr) (s : BrS) (w : World) (h : BrAt w A s) :
 Calls Tryz.prog 50 #[.pointer (some ⟨A.b, 0, none⟩)] w (RetBr w A s.settled) := by
 have c13 := h.cell 13 (v := .pointer (some ⟨A.tp, 0, none⟩)) rfl
 obtain ⟨c20, z20⟩ := h.box.at_ 20 (.int .i64 s.changed) rfl
 have HC := Lib.hid (tchanged_any A.tp A.tg A.tcap s.tree w h.tree)
 cases hq : (s.tree.change != s.changed)
 · have HB := Lib.hid h
   have HE := Lib.hid (show s.settled = s from by unfold BrS.settled; rw [if_pos (by simpa using hq)])
   clear h
   go_enter Tryz.func50, Tryz.ntmps50
   go_wp2_with ((with_reducible refine HC.out.mono ?_); rintro e w2 ⟨rfl, hw2⟩; subst w2)
   go_end0
   exact ⟨rfl, by rw [HE.out]; exact HB.out, Turn.refl _ _⟩
 · have HE := Lib.hid (show s.settled = { s with changed := s.tree.change, fdb := flushN s.fdb s.c.ports.length } from by unfold BrS.settled; rw [if_neg (by simpa using hq)])
   obtain ⟨hb1, ht1⟩ := h.withChanged s.tree.change h.ok.tree.change
   obtain ⟨W1, hW1⟩ : ∃ W, w.setCell ⟨A.b, 20, none⟩ (.int .i64 s.tree.change) = W := ⟨_, rfl⟩
   rw [hW1] at hb1 ht1
   obtain ⟨b, off, hm, hlen, _, _⟩ := hb1.ports.facts
   have c2 := hb1.cell 2 (v := A.vports) rfl
   have HF := Lib.hid (ht1.mono h.foot_b)
   have HB := Lib.hid hb1
   have HW := Lib.hid hW1
   have HFM := Lib.hid h.foot_m
   clear h hb1 ht1 hW1
   go_enter Tryz.func50, Tryz.ntmps50
   go_upto_region 3 with ((with_reducible refine HC.out.mono ?_); rintro e w2 ⟨rfl, hw2⟩; subst w2)
   rw [HW.out]
   obtain ⟨vp, hVp⟩ : ∃ v, A.vports = v := ⟨_, rfl⟩
   obtain ⟨n, hN⟩ : ∃ n, s.c.ports.length = n := ⟨_, rfl⟩
   rw [hVp] at c2 hlen
   have hm2 : n ≤ 1000000 := by rw [← hN]; exact hm
   rw [hN] at hlen HE
   clear hVp hN c13 c20 z20 HC hq
   go_wp2_with fail
   go_loopw [3, 25] (fun _ i wr => ∃ k : Nat, k ≤ n ∧ i = .int .i64 (k : Nat) ∧ BrAt wr A { s with changed := s.tree.change, fdb := flushN s.fdb k } ∧ Turn (bfoot A) w wr) (fun _ i _ => n - (intOf i).toNat)
   case atStart => exact ⟨0, Nat.zero_le _, rfl, HB.out, HF.out⟩
   case round =>
    obtain ⟨k, hk, rfl, hbr, htn⟩ := hrel
    by_cases hlt : k < n
    · have d14 := hbr.cell 14 (v := .pointer (some ⟨A.fp, 0, none⟩)) rfl
      obtain ⟨L, l1, l2, l3⟩ := hbr.fdb
      have HFL := Lib.hid (flush_any A.fp A.fm L.length s.c.room s.c.age k (flushN s.fdb k) wr l3)
      have HL := Lib.hid l2
      have HBR := Lib.hid hbr
      have HTN := Lib.hid htn
      clear hbr htn l1 l2 l3 hlen c2
      go_wp2_with ((with_reducible refine HFL.out.mono ?_); rintro e w2 ⟨⟨i, rfl⟩, hf, ht⟩; have HR := Lib.hid (And.intro hf ht); clear hf ht)
      go_roundw
      case rel => exact ⟨k + 1, by omega, by go_num, HBR.out.cutFdb HL.out HR.out.1 HR.out.2, HTN.out.trans (HR.out.2.mono HFM.out)⟩
      case measure => simp [intOf]; omega
    · obtain rfl : k = n := by omega
      have HBR := Lib.hid hbr
      have HTN := Lib.hid htn
      clear hbr htn hlen c2
      go_wp2_with fail
      go_end0
      exact ⟨rfl, by rw [HE.out]; exact HBR.out, HTN.out⟩

def BrS.link (s : BrS) (port : Int) (up : Bool) (now : Int) : BrS := { s with tree := s.tree.link port up now }
theorem link_brok {s : BrS} {port now : Int} {up : Bool} (h : BrOk s) : BrOk (s.link port up now) :=
 { h with tree := link_ok h.tree, treeW := link_w h.treeW, len := by show _ = (s.tree.link port up now).ports.length; rw [link_len]; exact h.len }
theorem bup_any (A : Adr) (s : BrS) (port now : Int) (w : World) (h : BrAt w A s) (hn : inBetween now 1 1099511627776 = true) :
 Calls Tryz.prog 23 #[.pointer (some ⟨A.b, 0, none⟩), .int .i64 port, .bool true, .int .i64 now] w (RetBr w A (s.link port true now).settled) := by
 have c13 := h.cell 13 (v := .pointer (some ⟨A.tp, 0, none⟩)) rfl
 have hg := goes_any A.b now w
 rw [hn] at hg
 have HG := Lib.hid hg
 have HL := Lib.hid (tlink_any A.tp A.tg A.tcap s.tree port now true w h.tree h.ok.tree)
 have HB := Lib.hid h
 clear h hg
 go_enter Tryz.func23, Tryz.ntmps23
 go_upto_region 2 with (first | ((with_reducible refine HG.out.mono ?_); rintro e w2 ⟨rfl, hw2⟩; subst w2) | ((with_reducible refine HL.out.mono ?_); rintro e w2 ⟨rfl, h1, h2⟩; have H2 := Lib.hid (And.intro h1 h2); clear h1 h2))
 have hb := HB.out.withTree _ H2.out.1 H2.out.2 (link_brok HB.out.ok)
 have HS := Lib.hid (bsettle_any A _ w2 hb)
 have HT := Lib.hid (H2.out.2.mono HB.out.foot_t)
 clear hb
 go_wp2_with ((with_reducible refine HS.out.mono ?_); rintro e w3 ⟨rfl, h1, h2⟩; have H3 := Lib.hid (And.intro h1 h2); clear h1 h2)
 go_end0
 exact ⟨rfl, H3.out.1, HT.out.trans H3.out.2⟩

theorem box10 {w : World} {b : Nat} {T : TypeId} {x0 x1 x2 x3 x4 x5 x6 x7 x8 x9 : Value} (h : CBox w b T #[x0, x1, x2, x3, x4, x5, x6, x7, x8, x9]) :
 w.cell? ⟨b, 0, none⟩ = some x0 ∧ w.cell? ⟨b, 1, none⟩ = some x1 ∧ w.cell? ⟨b, 2, none⟩ = some x2 ∧ w.cell? ⟨b, 3, none⟩ = some x3 ∧ w.cell? ⟨b, 4, none⟩ = some x4 ∧ w.cell? ⟨b, 5, none⟩ = some x5 ∧ w.cell? ⟨b, 6, none⟩ = some x6 ∧ w.cell? ⟨b, 7, none⟩ = some x7 ∧ w.cell? ⟨b, 8, none⟩ = some x8 ∧ w.cell? ⟨b, 9, none⟩ = some x9 :=
 ⟨(h.at_ 0 _ rfl).1, (h.at_ 1 _ rfl).1, (h.at_ 2 _ rfl).1, (h.at_ 3 _ rfl).1, (h.at_ 4 _ rfl).1, (h.at_ 5 _ rfl).1, (h.at_ 6 _ rfl).1, (h.at_ 7 _ rfl).1, (h.at_ 8 _ rfl).1, (h.at_ 9 _ rfl).1⟩
theorem cells10s {w : World} {b : Nat} {T : TypeId} {x0 x1 x2 x3 x4 x5 x6 x7 x8 x9 : Value} (h : CBox w b T #[x0, x1, x2, x3, x4, x5, x6, x7, x8, x9]) (v0 v1 v2 v3 v4 v5 v6 v7 v8 v9 : Value) : CBox (setsL w b 0 [v0, v1, v2, v3, v4, v5, v6, v7, v8, v9]) b T #[v0, v1, v2, v3, v4, v5, v6, v7, v8, v9] :=
 have h0 : CBox _ b T #[v0, x1, x2, x3, x4, x5, x6, x7, x8, x9] := h.set 0 v0
 have h1 : CBox _ b T #[v0, v1, x2, x3, x4, x5, x6, x7, x8, x9] := h0.set 1 v1
 have h2 : CBox _ b T #[v0, v1, v2, x3, x4, x5, x6, x7, x8, x9] := h1.set 2 v2
 have h3 : CBox _ b T #[v0, v1, v2, v3, x4, x5, x6, x7, x8, x9] := h2.set 3 v3
 have h4 : CBox _ b T #[v0, v1, v2, v3, v4, x5, x6, x7, x8, x9] := h3.set 4 v4
 have h5 : CBox _ b T #[v0, v1, v2, v3, v4, v5, x6, x7, x8, x9] := h4.set 5 v5
 have h6 : CBox _ b T #[v0, v1, v2, v3, v4, v5, v6, x7, x8, x9] := h5.set 6 v6
 have h7 : CBox _ b T #[v0, v1, v2, v3, v4, v5, v6, v7, x8, x9] := h6.set 7 v7
 have h8 : CBox _ b T #[v0, v1, v2, v3, v4, v5, v6, v7, v8, x9] := h7.set 8 v8
 have h9 : CBox _ b T #[v0, v1, v2, v3, v4, v5, v6, v7, v8, v9] := h8.set 9 v9
 h9
def encP (b : Nat) (f : Fr) (port now : Int) : Value := .agg #[.pointer (some ⟨b, 0, none⟩), .string (bstr f.dst), .string (bstr f.src), .bool f.tagged, .int .i64 f.vlan, .int .i64 f.prio, .int .i64 f.typ, .string (bstr f.data), .int .i64 port, .int .i64 now]
def RetCase (w : World) (port : Int) (M O R : List Int) (e : Ending) (w' : World) : Prop :=
 ∃ vm vo vr, e = .returned (.agg #[.int .i64 port, vm, vo, vr, .slice none 0 0, .bool false, .bool false, .bool false, .bool false, .bool false]) ∧ CaseIn w' vm vo vr (.slice none 0 0) M O R [] ∧ Below w.heap.size w w'
set_option maxHeartbeats 4000000 in
theorem around_any (A : Adr) (s : BrS) (f : Fr) (port now : Int) (R : List Int) (w : World) (h : BrAt w A s)
 (hR : ∀ W, Below w.heap.size w W → Calls Tryz.prog 47 #[.pointer (some ⟨A.rp, 0, none⟩), .int .i64 f.vlan, .int .i64 now] W (RetIs W R)) :
 Calls Tryz.prog 123 #[encP A.b f port now] w (RetCase w port (vMembers s.c.ports f.vlan) s.opens R) := by
 obtain ⟨dst, src, tg, vl, pr, ty, da⟩ := f
 unfold encP
 dsimp only at hR ⊢
 obtain ⟨W1, hW1⟩ : ∃ W, w.alloc (.cells #[.pointer (some ⟨A.b, 0, none⟩), .string (bstr dst), .string (bstr src), .bool tg, .int .i64 vl, .int .i64 pr, .int .i64 ty, .string (bstr da), .int .i64 port, .int .i64 now] 117) = W := ⟨_, rfl⟩
 obtain ⟨q0, hq0⟩ : ∃ q, w.heap.size = q := ⟨_, rfl⟩
 have hb1 : Below w.heap.size w W1 := by rw [← hW1]; exact (Below.refl _ _).alloc (Nat.le_refl _) _
 have hx1 : CBox W1 q0 117 #[.pointer (some ⟨A.b, 0, none⟩), .string (bstr dst), .string (bstr src), .bool tg, .int .i64 vl, .int .i64 pr, .int .i64 ty, .string (bstr da), .int .i64 port, .int .i64 now] := by rw [← hW1]; exact CBox.new _ hq0.symm
 obtain ⟨W2, hW2⟩ : ∃ W, W1.alloc (.cells #[.int .i64 0, .slice none 0 0, .slice none 0 0, .slice none 0 0, .slice none 0 0, .bool false, .bool false, .bool false, .bool false, .bool false] 219) = W := ⟨_, rfl⟩
 obtain ⟨q1, hq1⟩ : ∃ q, W1.heap.size = q := ⟨_, rfl⟩
 have hb2 : Below W1.heap.size W1 W2 := by rw [← hW2]; exact (Below.refl _ _).alloc (Nat.le_refl _) _
 have hx2 := hx1.below hb2 hx1.lt
 have hz2 : CBox W2 q1 219 #[.int .i64 0, .slice none 0 0, .slice none 0 0, .slice none 0 0, .slice none 0 0, .bool false, .bool false, .bool false, .bool false, .bool false] := by rw [← hW2]; exact CBox.new _ hq1.symm
 obtain ⟨Z, hZ⟩ : ∃ W, W2.drew = W := ⟨_, rfl⟩
 have hbz : Below W2.heap.size W2 Z := by rw [← hZ]; exact Below.drew (Below.refl _ _)
 have hbZ := (hb1.trans (hb2.mono hb1.size)).trans (hbz.mono (Nat.le_trans hb1.size hb2.size))
 have BZ := Lib.hid hbZ
 have XZ := Lib.hid (hx2.below hbz hx2.lt); have CZ := Lib.hid (hz2.below hbz hz2.lt); have PZ := Lib.hid (h.box.below hbZ h.box.lt); have AZ := Lib.hid (h.below hbZ)
 have HR := Lib.hid hR
 have HLE := Lib.hid (show w.heap.size ≤ q1 from by have := hb1.size; omega)
 have HNE := Lib.hid (show A.b ≠ q1 ∧ q0 ≠ q1 from by have := h.box.lt; have := hx1.lt; have := hb1.size; omega)
 have HW1 := Lib.hid hW1; have HW2 := Lib.hid hW2; have HQ0 := Lib.hid hq0; have HQ1 := Lib.hid (show q0 + 1 = q1 from by rw [← hq1, ← hW1, World.size_alloc, hq0]); have HZ := Lib.hid hZ
 have HF := Lib.hid (fun (wq : World) (h : CBox wq q0 117 #[.pointer (some ⟨A.b, 0, none⟩), .string (bstr dst), .string (bstr src), .bool tg, .int .i64 vl, .int .i64 pr, .int .i64 ty, .string (bstr da), .int .i64 port, .int .i64 now] ∧ CBox wq A.b 85 (brcells A s)) =>
  And.intro (h.1.at_ 0 _ rfl).1 (And.intro (h.1.at_ 8 _ rfl).1 (And.intro (h.1.at_ 4 _ rfl).1 (And.intro (h.1.at_ 9 _ rfl).1 (And.intro (h.2.at_ 2 A.vports rfl).1 (h.2.at_ 16 (.pointer (some ⟨A.rp, 0, none⟩)) rfl).1)))))
 clear h hR hW1 hW2 hq0 hq1 hZ hb1 hb2 hbz hbZ hx1 hx2 hz2
 go_enter Tryz.func123, Tryz.ntmps123
 go_upto_region 1 with fail
 rw [HW1.out, HW2.out, HQ0.out, HQ1.out]
 refine wp_region_held_drew (S := fun wq => CBox wq q0 117 #[.pointer (some ⟨A.b, 0, none⟩), .string (bstr dst), .string (bstr src), .bool tg, .int .i64 vl, .int .i64 pr, .int .i64 ty, .string (bstr da), .int .i64 port, .int .i64 now] ∧ CBox wq A.b 85 (brcells A s)) (by kernel_rfl) (by rw [HZ.out]; exact ⟨XZ.out, PZ.out⟩) (fun hHeld => ?_)
 rw [HZ.out] at hHeld ⊢
 iterate 11 (first | (refine takeO 28 (v := ?_) rfl (by kernel_rfl) (fun _ _ _ => id) (Or.inl ⟨by rfl, ?_⟩) (by assumption) ?_; rotate_left; (focus (intro wq hSq; have f := HF.out wq hSq; go_simp <;> with_reducible rfl)); simp only [Act.put, List.setIfInBounds_toArray, List.set_cons_zero, List.set_cons_succ]) | (refine takeO 28 (v := undef) rfl (by kernel_rfl) (fun _ _ _ h => h) (Or.inr ⟨by rfl, rfl⟩) (by assumption) ?_; simp only [Act.put, List.setIfInBounds_toArray, List.set_cons_zero, List.set_cons_succ]))
 refine tkL 12 (v := ?_) rfl (by kernel_rfl) (fun _ _ _ => id) (Or.inl ⟨by rfl, ?_⟩) (by assumption) ?_; rotate_left; (focus (intro wq hSq; have f := HF.out wq hSq; go_simp <;> with_reducible rfl)); simp only [Act.put, pA, pB, pC]
 refine tkL 13 (v := ?_) rfl (by kernel_rfl) (fun _ _ _ => id) (Or.inl ⟨by rfl, ?_⟩) (by assumption) ?_; rotate_left; (focus (intro wq hSq; have f := HF.out wq hSq; go_simp <;> with_reducible rfl)); simp only [Act.put, pA, pB, pC]
 refine tkL 15 (v := ?_) rfl (by kernel_rfl) (fun _ _ _ => id) (Or.inl ⟨by rfl, ?_⟩) (by assumption) ?_; rotate_left; (focus (intro wq hSq; have f := HF.out wq hSq; go_simp <;> with_reducible rfl)); simp only [Act.put, pA, pB, pC]
 refine tkL 16 (v := ?_) rfl (by kernel_rfl) (fun _ _ _ => id) (Or.inl ⟨by rfl, ?_⟩) (by assumption) ?_; rotate_left; (focus (intro wq hSq; have f := HF.out wq hSq; go_simp <;> with_reducible rfl)); simp only [Act.put, pA, pB, pC]
 refine tkL 17 (v := ?_) rfl (by kernel_rfl) (fun _ _ _ => id) (Or.inl ⟨by rfl, ?_⟩) (by assumption) ?_; rotate_left; (focus (intro wq hSq; have f := HF.out wq hSq; go_simp <;> with_reducible rfl)); simp only [Act.put, pA, pB, pC]
 refine tkL 18 (v := ?_) rfl (by kernel_rfl) (fun _ _ _ => id) (Or.inl ⟨by rfl, ?_⟩) (by assumption) ?_; rotate_left; (focus (intro wq hSq; have f := HF.out wq hSq; go_simp <;> with_reducible rfl)); simp only [Act.put, pA, pB, pC]
 refine tkL 19 (v := ?_) rfl (by kernel_rfl) (fun _ _ _ => id) (Or.inl ⟨by rfl, ?_⟩) (by assumption) ?_; rotate_left; (focus (intro wq hSq; have f := HF.out wq hSq; go_simp <;> with_reducible rfl)); simp only [Act.put, pA, pB, pC]
 refine tkL 20 (v := ?_) rfl (by kernel_rfl) (fun _ _ _ => id) (Or.inl ⟨by rfl, ?_⟩) (by assumption) ?_; rotate_left; (focus (intro wq hSq; have f := HF.out wq hSq; go_simp <;> with_reducible rfl)); simp only [Act.put, pA, pB, pC]
 refine tkL 21 (v := ?_) rfl (by kernel_rfl) (fun _ _ _ => id) (Or.inl ⟨by rfl, ?_⟩) (by assumption) ?_; rotate_left; (focus (intro wq hSq; have f := HF.out wq hSq; go_simp <;> with_reducible rfl)); simp only [Act.put, pA, pB, pC]
 refine tkL 22 (v := ?_) rfl (by kernel_rfl) (fun _ _ _ => id) (Or.inl ⟨by rfl, ?_⟩) (by assumption) ?_; rotate_left; (focus (intro wq hSq; have f := HF.out wq hSq; go_simp <;> with_reducible rfl)); simp only [Act.put, pA, pB, pC]
 refine tkL 23 (v := ?_) rfl (by kernel_rfl) (fun _ _ _ => id) (Or.inl ⟨by rfl, ?_⟩) (by assumption) ?_; rotate_left; (focus (intro wq hSq; have f := HF.out wq hSq; go_simp <;> with_reducible rfl)); simp only [Act.put, pA, pB, pC]
 refine tkL 24 (v := ?_) rfl (by kernel_rfl) (fun _ _ _ => id) (Or.inl ⟨by rfl, ?_⟩) (by assumption) ?_; rotate_left; (focus (intro wq hSq; have f := HF.out wq hSq; go_simp <;> with_reducible rfl)); simp only [Act.put, pA, pB, pC]
 refine wpAnyH_ready (rs := [11]) (by kernel_rfl) (by simp) (nextL 11 rfl (fun Kr hKr => ?_) AllReadyH.nil)
 rw [if_pos (by rfl)]
 go_simp
 (with_reducible refine (members_any (fun j => A.kind j = 8) A.vports s.c.ports vl Z AZ.out.ports).mono ?_)
 rintro e w3 ⟨vm, rfl, hi3, ho3, hb3⟩
 obtain ⟨ma, mn, mc, rfl⟩ := hi3.shape
 have B3 := Lib.hid (BZ.out.trans (hb3.mono BZ.out.size)); have X3 := Lib.hid (XZ.out.below hb3 XZ.out.lt); have P3 := Lib.hid (PZ.out.below hb3 PZ.out.lt); have C3 := Lib.hid (CZ.out.below hb3 CZ.out.lt); have A3 := Lib.hid (AZ.out.below hb3); have I3 := Lib.hid hi3; have O3 := Lib.hid (fun j hj => (show j ≠ q1 from by have := ho3 j hj; have := CZ.out.lt; omega))
 refine hKr.out _ _ ⟨X3.out, P3.out⟩ (fun _ => ?_)
 clear hKr hi3 hb3 ho3
 refine wpAnyH_ready (rs := [14]) (by kernel_rfl) (by simp) (nextL 14 rfl (fun Kr hKr => ?_) AllReadyH.nil)
 rw [if_pos (by rfl)]
 go_simp
 (with_reducible refine (bopen_any A s w3 A3.out).mono ?_)
 rintro e w4 ⟨vo, rfl, hi4, ho4, hb4⟩
 obtain ⟨oa, on, oc, rfl⟩ := hi4.shape
 have B4 := Lib.hid (B3.out.trans (hb4.mono B3.out.size)); have X4 := Lib.hid (X3.out.below hb4 X3.out.lt); have P4 := Lib.hid (P3.out.below hb4 P3.out.lt); have C4 := Lib.hid (C3.out.below hb4 C3.out.lt); have I4 := Lib.hid hi4; have J4 := Lib.hid (I3.out.mono hb4); have O4 := Lib.hid (fun j hj => (show j ≠ q1 from by have := ho4 j hj; have := C3.out.lt; omega))
 refine hKr.out _ _ ⟨X4.out, P4.out⟩ (fun _ => ?_)
 clear hKr hi4 hb4 ho4
 refine wpAnyH_ready (rs := [25]) (by kernel_rfl) (by simp) (nextL 25 rfl (fun Kr hKr => ?_) AllReadyH.nil)
 rw [if_pos (by rfl)]
 go_simp
 (with_reducible refine (HR.out w4 B4.out).mono ?_)
 rintro e w5 ⟨vr, rfl, hi5, ho5, hb5⟩
 obtain ⟨ra, rn, rc, rfl⟩ := hi5.shape
 have B5 := Lib.hid (B4.out.trans (hb5.mono B4.out.size)); have X5 := Lib.hid (X4.out.below hb5 X4.out.lt); have P5 := Lib.hid (P4.out.below hb5 P4.out.lt); have C5 := Lib.hid (C4.out.below hb5 C4.out.lt); have I5 := Lib.hid (And.intro (J4.out.mono hb5) (And.intro (I4.out.mono hb5) hi5)); have O5 := Lib.hid (fun j hj => (show j ≠ q1 from by have := ho5 j hj; have := C4.out.lt; omega))
 refine hKr.out _ _ ⟨X5.out, P5.out⟩ (fun _ => ?_)
 clear hKr hi5 hb5 ho5
 have hHeld := (show CBox w5 q0 117 #[.pointer (some ⟨A.b, 0, none⟩), .string (bstr dst), .string (bstr src), .bool tg, .int .i64 vl, .int .i64 pr, .int .i64 ty, .string (bstr da), .int .i64 port, .int .i64 now] ∧ CBox w5 A.b 85 (brcells A s) from ⟨X5.out, P5.out⟩)
 iterate 1 (first | (refine takeO 28 (v := ?_) rfl (by kernel_rfl) (fun _ _ _ => id) (Or.inl ⟨by rfl, ?_⟩) (by assumption) ?_; rotate_left; (focus (intro wq hSq; go_simp <;> with_reducible rfl)); simp only [Act.put, List.setIfInBounds_toArray, List.set_cons_zero, List.set_cons_succ]) | (refine takeO 28 (v := undef) rfl (by kernel_rfl) (fun _ _ _ h => h) (Or.inr ⟨by rfl, rfl⟩) (by assumption) ?_; simp only [Act.put, List.setIfInBounds_toArray, List.set_cons_zero, List.set_cons_succ]))
 obtain ⟨z0, zf0⟩ := CBox.at_ C5.out 0 _ rfl
 obtain ⟨z1, zf1⟩ := CBox.at_ C5.out 1 _ rfl
 obtain ⟨z2, zf2⟩ := CBox.at_ C5.out 2 _ rfl
 obtain ⟨z3, zf3⟩ := CBox.at_ C5.out 3 _ rfl
 obtain ⟨z4, zf4⟩ := CBox.at_ C5.out 4 _ rfl
 obtain ⟨z5, zf5⟩ := CBox.at_ C5.out 5 _ rfl
 obtain ⟨z6, zf6⟩ := CBox.at_ C5.out 6 _ rfl
 obtain ⟨z7, zf7⟩ := CBox.at_ C5.out 7 _ rfl
 obtain ⟨z8, zf8⟩ := CBox.at_ C5.out 8 _ rfl
 obtain ⟨z9, zf9⟩ := CBox.at_ C5.out 9 _ rfl
 refine wpAnyH_ready (rs := [27]) (by kernel_rfl) (by simp) (nextL 27 rfl (fun Kr hKr => ?_) AllReadyH.nil)
 rw [if_pos (by rfl)]
 go_simp
 obtain ⟨V, hV⟩ : ∃ W, setsL w5 q1 0 [.int .i64 port, .slice ma mn mc, .slice oa on oc, .slice ra rn rc, .slice none 0 0, .bool false, .bool false, .bool false, .bool false, .bool false] = W := ⟨_, rfl⟩
 have CV := Lib.hid (show CBox V q1 219 #[.int .i64 port, .slice ma mn mc, .slice oa on oc, .slice ra rn rc, .slice none 0 0, .bool false, .bool false, .bool false, .bool false, .bool false] from by rw [← hV]; exact cells10s C5.out _ _ _ _ _ _ _ _ _ _)
 have hfar : CBox V q0 117 #[.pointer (some ⟨A.b, 0, none⟩), .string (bstr dst), .string (bstr src), .bool tg, .int .i64 vl, .int .i64 pr, .int .i64 ty, .string (bstr da), .int .i64 port, .int .i64 now] ∧ CBox V A.b 85 (brcells A s) := by rw [← hV]; exact ⟨setsL_far HNE.out.2 _ 0 X5.out, setsL_far HNE.out.1 _ 0 P5.out⟩
 have hbV : Below w.heap.size w V := by rw [← hV]; exact setsL_below HLE.out _ 0 B5.out
 have hI : ∀ v L, (∀ j, v.ownBlock = some j → j ≠ q1) → Ints w5 v L → Ints V v L := fun v L hq hv => by
  rw [← hV]
  exact hv.same (by rw [setsL_size]; exact Nat.le_refl _) fun j hj hl => setsL_heap (hq j hj) _ _ _
 have BV := Lib.hid hbV
 have IV := Lib.hid (CaseIn.mk (hI _ _ O3.out I5.out.1) (hI _ _ O4.out I5.out.2.1) (hI _ _ O5.out I5.out.2.2) (Ints.nil V))
 dsimp only [setsL] at hV
 rw [hV]
 refine hKr.out _ _ hfar (fun _ => ?_)
 refine wpAnyH_done (by kernel_rfl) ?_ _
 clear hKr hV hfar hbV hI HF hHeld z0 zf0 z1 zf1 z2 zf2 z3 zf3 z4 zf4 z5 zf5 z6 zf6 z7 zf7 z8 zf8 z9 zf9
 go_wp2_with fail
 obtain ⟨r0, r1, r2, r3, r4, r5, r6, r7, r8, r9⟩ := box10 CV.out
 refine bodyPost_ret (v := .agg #[.int .i64 port, .slice ma mn mc, .slice oa on oc, .slice ra rn rc, .slice none 0 0, .bool false, .bool false, .bool false, .bool false, .bool false]) (by simp [results, Tryz.results123, go_sem, r0, r1, r2, r3, r4, r5, r6, r7, r8, r9]) rfl ?_
 exact ⟨_, _, _, rfl, IV.out, BV.out⟩

def ocells (o : Int × Str) : List Value := [.int .i64 o.1, .string (bstr o.2)]
def send1 (l : List Pt) (f : Fr) (q : Int) : Option (Int × Str) := if (vOut l q f).2 = 0 then some (q, (eEnc (vOut l q f).1).1) else none
def sendTo (l : List Pt) (f : Fr) (ps : List Int) : List (Int × Str) := ps.filterMap (send1 l f)
theorem sendTo_succ (l : List Pt) (f : Fr) {ps : List Int} {k : Nat} (h : k < ps.length) : sendTo l f (ps.take (k + 1)) = sendTo l f (ps.take k) ++ (match send1 l f (ps.getD k 0) with | some o => [o] | none => []) := by
 unfold sendTo
 rw [List.take_succ_eq_append_getElem h, List.filterMap_append, show ps.getD k 0 = ps[k] from by simp [List.getD_eq_getElem?_getD, h]]
 cases hq : send1 l f ps[k] <;> simp [hq]
theorem sendTo_len (l : List Pt) (f : Fr) (ps : List Int) (k : Nat) : (sendTo l f (ps.take k)).length ≤ k := by
 unfold sendTo
 exact Nat.le_trans (List.length_filterMap_le _ _) (by rw [List.length_take]; omega)
theorem frZero_ok : frOk frZero := ⟨Nat.zero_le _, Nat.zero_le _, Nat.zero_le _⟩
theorem vOut_frOk (l : List Pt) (q : Int) {f : Fr} (h : frOk f) : frOk (vOut l q f).1 := by
 unfold vOut
 split
 · exact frZero_ok
 · split
   · exact frZero_ok
   · dsimp only
     split
     · exact frZero_ok
     · split
       · exact h
       · split
         · exact frZero_ok
         · split
           · exact ⟨h.1, h.2.1, h.2.2⟩
           · exact frZero_ok
theorem own_base2 {w : World} {base base' size n : Nat} {e : TypeId} {v : Value} {xs : List Value} (h : w.ownsRow base e size v n xs) (hb : base' ≤ base) : w.ownsRow base' e size v n xs := own_base9 h hb
theorem infoOut : (Tryz.prog.info? 52).map (fun i => (i.zero, i.size, i.bytes)) = some (some (.agg #[.int .i64 0, .string ⟨#[]⟩]), 2, 24) := by kernel_rfl
theorem ocells_new (W : World) (o : Int × Str) (T : TypeId) : ∀ (j : Nat) (x : Value), (ocells o)[j]? = some x → (W.alloc (.cells #[.int .i64 o.1, .string (bstr o.2)] T)).cell? ((⟨W.heap.size, 0, none⟩ : Addr).add j) = some x := by
 intro j x hj
 have hb : CBox (W.alloc (.cells #[.int .i64 o.1, .string (bstr o.2)] T)) W.heap.size T #[.int .i64 o.1, .string (bstr o.2)] := CBox.new _ rfl
 rw [add_lit]
 match j with
 | 0 => simp [ocells] at hj; subst hj; exact (hb.at_ 0 _ rfl).1
 | 1 => simp [ocells] at hj; subst hj; exact (hb.at_ 1 _ rfl).1
 | j + 2 => simp [ocells] at hj
theorem ocells_one (o : Int × Str) : ∀ u ∈ ocells o, u.oneCell' = true := by
 intro u hu
 simp [ocells] at hu
 rcases hu with rfl | rfl <;> rfl
def RetOuts (w : World) (L : List (Int × Str)) (e : Ending) (w' : World) : Prop := ∃ v, e = .returned v ∧ w'.ownsRow w.heap.size 52 2 v L.length (L.flatMap ocells) ∧ Below w.heap.size w w'
set_option maxHeartbeats 8000000 in
theorem send_any (A : Adr) (s : BrS) (f : Fr) (port now : Int) (u : Value) (ps : List Int) (w : World) (h : BrAt w A s) (hs : frOk f) (hu : Ints w u ps) (hn : ps.length ≤ 1000) :
 Calls Tryz.prog 121 #[encP A.b f port now, u] w (RetOuts w (sendTo s.c.ports f ps)) := by
 obtain ⟨i0, hi, hz0, hz1, hz2⟩ := info_parts23 infoOut
 have HVO := Lib.hid (fun W q (hW : BrAt W A s) => vout_any (fun j => A.kind j = 8) A.vports s.c.ports q f W hW.ports hs)
 have HOK := Lib.hid (fun q => vOut_frOk s.c.ports q hs)
 have HSS := Lib.hid (fun k (hk : k < ps.length) => sendTo_succ s.c.ports f hk)
 have HSL := Lib.hid (fun k => sendTo_len s.c.ports f ps k)
 obtain ⟨ub, uo, _, hlen, hidx, hcl⟩ := hu.facts
 obtain ⟨S1, hS1⟩ : ∃ S1, send1 s.c.ports f = S1 := ⟨_, rfl⟩
 have HS1 := Lib.hid (fun q => (show S1 q = if (vOut s.c.ports q f).2 = 0 then some (q, (eEnc (vOut s.c.ports q f).1).1) else none from by rw [← hS1]; rfl))
 obtain ⟨ST, hST⟩ : ∃ ST, sendTo s.c.ports f = ST := ⟨_, rfl⟩
 rw [hS1, hST] at HSS
 rw [hST] at HSL
 rw [show sendTo s.c.ports f ps = ST ps from by rw [hST]]
 have HST0 := Lib.hid (show ST [] = [] from by rw [← hST]; rfl)
 obtain ⟨VO, hVO⟩ : ∃ VO, (fun q => vOut s.c.ports q f) = VO := ⟨_, rfl⟩
 have hvo : ∀ q, vOut s.c.ports q f = VO q := fun q => by rw [← hVO]
 simp only [hvo] at HVO HOK HS1
 clear hS1 hST hVO hvo hs
 obtain ⟨dst, src, tg, vl, pr, ty, da⟩ := f
 unfold encP
 unfold encF fcells at HVO
 dsimp only at HVO ⊢
 obtain ⟨W1, hW1⟩ : ∃ W, w.alloc (.cells #[.pointer (some ⟨A.b, 0, none⟩), .string (bstr dst), .string (bstr src), .bool tg, .int .i64 vl, .int .i64 pr, .int .i64 ty, .string (bstr da), .int .i64 port, .int .i64 now] 117) = W := ⟨_, rfl⟩
 obtain ⟨q0, hq0⟩ : ∃ q, w.heap.size = q := ⟨_, rfl⟩
 have hb1 : Below w.heap.size w W1 := by rw [← hW1]; exact (Below.refl _ _).alloc (Nat.le_refl _) _
 have hx1 : CBox W1 q0 117 #[.pointer (some ⟨A.b, 0, none⟩), .string (bstr dst), .string (bstr src), .bool tg, .int .i64 vl, .int .i64 pr, .int .i64 ty, .string (bstr da), .int .i64 port, .int .i64 now] := by rw [← hW1]; exact CBox.new _ hq0.symm
 have X1 := Lib.hid hx1; have A1 := Lib.hid (h.below hb1); have B1 := Lib.hid hb1
 have HW1 := Lib.hid hW1; have HQ0 := Lib.hid hq0
 obtain ⟨M, hM⟩ : ∃ M, ps.length = M := ⟨_, rfl⟩
 have HCL := Lib.hid (fun k (hk : k < ps.length) => And.intro (Nat.lt_of_lt_of_le (hcl k hk).1 hb1.size) ((hb1.cell (p := ⟨ub, uo + k, none⟩) (hcl k hk).1).trans (hcl k hk).2))
 rw [hM] at hlen hidx hn HSS HCL
 have HTK := Lib.hid (show ps.take M = ps from by rw [← hM]; exact List.take_length)
 have HF := Lib.hid (fun (wq : World) (h : CBox wq q0 117 #[.pointer (some ⟨A.b, 0, none⟩), .string (bstr dst), .string (bstr src), .bool tg, .int .i64 vl, .int .i64 pr, .int .i64 ty, .string (bstr da), .int .i64 port, .int .i64 now] ∧ CBox wq A.b 85 (brcells A s)) =>
  And.intro (h.1.at_ 0 _ rfl).1 (And.intro (h.1.at_ 1 _ rfl).1 (And.intro (h.1.at_ 2 _ rfl).1 (And.intro (h.1.at_ 3 _ rfl).1 (And.intro (h.1.at_ 4 _ rfl).1 (And.intro (h.1.at_ 5 _ rfl).1 (And.intro (h.1.at_ 6 _ rfl).1 (And.intro (h.1.at_ 7 _ rfl).1 (h.2.at_ 2 A.vports rfl).1))))))))
 clear h hu hcl hW1 hq0 hb1 hx1 hM
 go_enter Tryz.func121, Tryz.ntmps121
 go_upto_region 2 with fail
 rw [HW1.out, HQ0.out]
 go_wp2_with fail
 go_loopw [5, 7, 8, 9, 10, 11, 14] (fun r _ _ _ _ _ i wr => ∃ k : Nat, k ≤ M ∧ i = .int .i64 (k : Nat) ∧ wr.ownsRow W1.heap.size 52 2 r (ST (ps.take k)).length ((ST (ps.take k)).flatMap ocells) ∧ Below W1.heap.size W1 wr) (fun _ _ _ _ _ _ i _ => M - (intOf i).toNat)
 case atStart => exact ⟨0, Nat.zero_le _, rfl, by rw [List.take_zero, HST0.out]; exact World.ownsRow_nil _ _ _ _, Below.refl _ _⟩
 case round =>
  obtain ⟨k, hk, rfl, hrow, hb⟩ := hrel
  by_cases hlt : k < M
  · have hp := hidx k hlt
    obtain ⟨hul, huc⟩ := HCL.out k hlt
    have huc := (hb.cell (p := ⟨ub, uo + k, none⟩) hul).trans huc
    obtain ⟨q, hq⟩ : ∃ q, ps.getD k 0 = q := ⟨_, rfl⟩
    have HS := Lib.hid (HSS.out k hlt)
    have HL := Lib.hid (HSL.out k)
    rw [hq] at huc HS
    have hok := HOK.out q
    have hs1 := HS1.out q
    obtain ⟨⟨⟨d1, s1, t1, v1, p1, y1, a1⟩, er⟩, hr⟩ : ∃ r, VO q = r := ⟨_, rfl⟩
    rw [hr] at hok hs1
    dsimp only at hs1
    rw [hs1] at HS
    obtain ⟨Z, hZ⟩ : ∃ W, wr.drew = W := ⟨_, rfl⟩
    have hbz : Below wr.heap.size wr Z := by rw [← hZ]; exact Below.drew (Below.refl _ _)
    have hbZ := hb.trans (hbz.mono hb.size)
    have RZ := Lib.hid (gown_bel hrow hbz)
    have BZ := Lib.hid hbZ; have XZ := Lib.hid (X1.out.below hbZ X1.out.lt); have AZ := Lib.hid (A1.out.below hbZ)
    have HZ := Lib.hid hZ; have HRR := Lib.hid hr; have HOF := Lib.hid hok
    obtain ⟨LK, hLK⟩ : ∃ l, ST (ps.take k) = l := ⟨_, rfl⟩
    rw [hLK] at RZ HS HL
    clear hul hrow hb hbz hbZ hq hr hs1 hok hZ hLK hidx hlen
    go_upto_region 5 with fail
    refine wp_region_held_drew (S := fun wq => CBox wq q0 117 #[.pointer (some ⟨A.b, 0, none⟩), .string (bstr dst), .string (bstr src), .bool tg, .int .i64 vl, .int .i64 pr, .int .i64 ty, .string (bstr da), .int .i64 port, .int .i64 now] ∧ CBox wq A.b 85 (brcells A s)) (by kernel_rfl) (by rw [HZ.out]; exact ⟨XZ.out, AZ.out.box⟩) (fun hHeld => ?_)
    rw [HZ.out] at hHeld ⊢
    iterate 9 (first | (refine takeO 16 (v := ?_) rfl (by kernel_rfl) (fun _ _ _ => id) (Or.inl ⟨by rfl, ?_⟩) (by assumption) ?_; rotate_left; (focus (intro wq hSq; have f := HF.out wq hSq; go_simp <;> with_reducible rfl)); simp only [Act.put, List.setIfInBounds_toArray, List.set_cons_zero, List.set_cons_succ]) | (refine takeO 16 (v := undef) rfl (by kernel_rfl) (fun _ _ _ h => h) (Or.inr ⟨by rfl, rfl⟩) (by assumption) ?_; simp only [Act.put, List.setIfInBounds_toArray, List.set_cons_zero, List.set_cons_succ]))
    refine wpAnyH_ready (rs := [9, 13]) (by kernel_rfl) (by simp) (nextL 9 rfl (fun Kr hKr => ?_) (nextL 13 rfl (fun Kr hKr => ?_) AllReadyH.nil))
    focus
     rw [if_pos (by rfl)]
     go_simp
     (with_reducible refine (HVO.out Z q AZ.out).mono ?_)
     rw [HRR.out]
     rintro e w3 ⟨rfl, hb3⟩
     unfold encF fcells
     dsimp only
     have R3 := Lib.hid (gown_bel RZ.out hb3); have B3 := Lib.hid (BZ.out.trans (hb3.mono BZ.out.size)); have X3 := Lib.hid (XZ.out.below hb3 XZ.out.lt); have A3 := Lib.hid (AZ.out.below hb3)
     refine hKr.out _ _ ⟨X3.out, A3.out.box⟩ (fun _ => ?_)
     clear hKr hb3 RZ BZ XZ AZ
     have hHeld := (show CBox w3 q0 117 #[.pointer (some ⟨A.b, 0, none⟩), .string (bstr dst), .string (bstr src), .bool tg, .int .i64 vl, .int .i64 pr, .int .i64 ty, .string (bstr da), .int .i64 port, .int .i64 now] ∧ CBox w3 A.b 85 (brcells A s) from ⟨X3.out, A3.out.box⟩)
     iterate 3 (first | (refine takeO 16 (v := ?_) rfl (by kernel_rfl) (fun _ _ _ => id) (Or.inl ⟨by rfl, ?_⟩) (by assumption) ?_; rotate_left; (focus (intro wq hSq; go_simp <;> with_reducible rfl)); simp only [Act.put, List.setIfInBounds_toArray, List.set_cons_zero, List.set_cons_succ]) | (refine takeO 16 (v := undef) rfl (by kernel_rfl) (fun _ _ _ h => h) (Or.inr ⟨by rfl, rfl⟩) (by assumption) ?_; simp only [Act.put, List.setIfInBounds_toArray, List.set_cons_zero, List.set_cons_succ]))
     refine wpAnyH_ready (rs := [13]) (by kernel_rfl) (by simp) (nextL 13 rfl (fun Kr hKr => ?_) AllReadyH.nil)
     rw [if_pos (by rfl)]
     go_simp
     obtain ⟨V, hV⟩ : ∃ W, w3.alloc (.cells #[.string ⟨#[]⟩, .string ⟨#[]⟩, .bool false, .int .i64 0, .int .i64 0, .int .i64 0, .string ⟨#[]⟩] 48) = W := ⟨_, rfl⟩
     obtain ⟨nb, hnb⟩ : ∃ n, w3.heap.size = n := ⟨_, rfl⟩
     have hbv : Below w3.heap.size w3 V := by rw [← hV]; exact (Below.refl _ _).alloc (Nat.le_refl _) _
     have FV := Lib.hid (show CBox V nb 48 #[.string ⟨#[]⟩, .string ⟨#[]⟩, .bool false, .int .i64 0, .int .i64 0, .int .i64 0, .string ⟨#[]⟩] from by rw [← hV]; exact CBox.new _ hnb.symm)
     have BV := Lib.hid (B3.out.trans (hbv.mono B3.out.size)); have XV := Lib.hid (X3.out.below hbv X3.out.lt); have AV := Lib.hid (A3.out.below hbv); have RV := Lib.hid (gown_bel R3.out hbv)
     have HNB := Lib.hid (show W1.heap.size ≤ nb ∧ q0 ≠ nb ∧ A.b ≠ nb from by have := B3.out.size; have := X3.out.lt; have := A3.out.box.lt; omega)
     rw [hV, hnb]
     refine hKr.out _ _ ⟨XV.out, AV.out.box⟩ (fun _ => ?_)
     clear hKr hV hnb hbv B3 X3 A3 R3
    rotate_left
    focus
     rw [if_pos (by rfl)]
     go_simp
     obtain ⟨V0, hV0⟩ : ∃ W, Z.alloc (.cells #[.string ⟨#[]⟩, .string ⟨#[]⟩, .bool false, .int .i64 0, .int .i64 0, .int .i64 0, .string ⟨#[]⟩] 48) = W := ⟨_, rfl⟩
     obtain ⟨nb, hnb⟩ : ∃ n, Z.heap.size = n := ⟨_, rfl⟩
     have hbv : Below Z.heap.size Z V0 := by rw [← hV0]; exact (Below.refl _ _).alloc (Nat.le_refl _) _
     have F0 := Lib.hid (show CBox V0 nb 48 #[.string ⟨#[]⟩, .string ⟨#[]⟩, .bool false, .int .i64 0, .int .i64 0, .int .i64 0, .string ⟨#[]⟩] from by rw [← hV0]; exact CBox.new _ hnb.symm)
     have B0 := Lib.hid (BZ.out.trans (hbv.mono BZ.out.size)); have X0 := Lib.hid (XZ.out.below hbv XZ.out.lt); have A0 := Lib.hid (AZ.out.below hbv); have R0 := Lib.hid (gown_bel RZ.out hbv)
     have HNB := Lib.hid (show W1.heap.size ≤ nb ∧ q0 ≠ nb ∧ A.b ≠ nb from by have := BZ.out.size; have := XZ.out.lt; have := AZ.out.box.lt; omega)
     rw [hV0, hnb]
     refine hKr.out _ _ ⟨X0.out, A0.out.box⟩ (fun _ => ?_)
     clear hKr hV0 hnb hbv BZ XZ AZ RZ
     refine wpAnyH_ready (rs := [9]) (by kernel_rfl) (by simp) (nextL 9 rfl (fun Kr hKr => ?_) AllReadyH.nil)
     rw [if_pos (by rfl)]
     go_simp
     (with_reducible refine (HVO.out V0 q A0.out).mono ?_)
     rw [HRR.out]
     rintro e V ⟨rfl, hb3⟩
     unfold encF fcells
     dsimp only
     have FV := Lib.hid (F0.out.below hb3 F0.out.lt); have RV := Lib.hid (gown_bel R0.out hb3); have BV := Lib.hid (B0.out.trans (hb3.mono B0.out.size)); have XV := Lib.hid (X0.out.below hb3 X0.out.lt); have AV := Lib.hid (A0.out.below hb3)
     refine hKr.out _ _ ⟨XV.out, AV.out.box⟩ (fun _ => ?_)
     clear hKr hb3 F0 R0 B0 X0 A0
     have hHeld := (show CBox V q0 117 #[.pointer (some ⟨A.b, 0, none⟩), .string (bstr dst), .string (bstr src), .bool tg, .int .i64 vl, .int .i64 pr, .int .i64 ty, .string (bstr da), .int .i64 port, .int .i64 now] ∧ CBox V A.b 85 (brcells A s) from ⟨XV.out, AV.out.box⟩)
     refine tkL 10 (v := ?_) rfl (by kernel_rfl) (fun _ _ _ => id) (Or.inl ⟨by rfl, ?_⟩) (by assumption) ?_; rotate_left; (focus (intro wq hSq; go_simp <;> with_reducible rfl)); simp only [Act.put, pA, pB, pC]
     refine tkL 11 (v := ?_) rfl (by kernel_rfl) (fun _ _ _ => id) (Or.inl ⟨by rfl, ?_⟩) (by assumption) ?_; rotate_left; (focus (intro wq hSq; go_simp <;> with_reducible rfl)); simp only [Act.put, pA, pB, pC]
     refine tkL 12 (v := ?_) rfl (by kernel_rfl) (fun _ _ _ => id) (Or.inl ⟨by rfl, ?_⟩) (by assumption) ?_; rotate_left; (focus (intro wq hSq; go_simp <;> with_reducible rfl)); simp only [Act.put, pA, pB, pC]
    all_goals
     obtain ⟨z0, zf0⟩ := CBox.at_ FV.out 0 _ rfl
     obtain ⟨z1, zf1⟩ := CBox.at_ FV.out 1 _ rfl
     obtain ⟨z2, zf2⟩ := CBox.at_ FV.out 2 _ rfl
     obtain ⟨z3, zf3⟩ := CBox.at_ FV.out 3 _ rfl
     obtain ⟨z4, zf4⟩ := CBox.at_ FV.out 4 _ rfl
     obtain ⟨z5, zf5⟩ := CBox.at_ FV.out 5 _ rfl
     obtain ⟨z6, zf6⟩ := CBox.at_ FV.out 6 _ rfl
     refine wpAnyH_ready (rs := [14]) (by kernel_rfl) (by simp) (nextL 14 rfl (fun Kr hKr => ?_) AllReadyH.nil)
     rw [if_pos (by rfl)]
     go_simp
     obtain ⟨V4, hV4⟩ : ∃ W, setsL V nb 0 [.string (bstr d1), .string (bstr s1), .bool t1, .int .i64 v1, .int .i64 p1, .int .i64 y1, .string (bstr a1)] = W := ⟨_, rfl⟩
     have F4 := Lib.hid (show CBox V4 nb 48 #[.string (bstr d1), .string (bstr s1), .bool t1, .int .i64 v1, .int .i64 p1, .int .i64 y1, .string (bstr a1)] from by rw [← hV4]; exact cells7s FV.out _ _ _ _ _ _ _)
     have X4 := Lib.hid (show CBox V4 q0 117 #[.pointer (some ⟨A.b, 0, none⟩), .string (bstr dst), .string (bstr src), .bool tg, .int .i64 vl, .int .i64 pr, .int .i64 ty, .string (bstr da), .int .i64 port, .int .i64 now] from by rw [← hV4]; exact setsL_far HNB.out.2.1 _ 0 XV.out)
     have P4 := Lib.hid (show CBox V4 A.b 85 (brcells A s) from by rw [← hV4]; exact setsL_far HNB.out.2.2 _ 0 AV.out.box)
     have B4 := Lib.hid (show Below W1.heap.size W1 V4 from by rw [← hV4]; exact setsL_below HNB.out.1 _ 0 BV.out)
     have R4 := Lib.hid (own_keep (w' := V4) RV.out fun g hg => by
      rw [← hV4]
      exact setsL_heap (fun e => own_box RV.out FV.out (by decide) (by rw [hg, e])) _ _ _)
     dsimp only [setsL] at hV4
     rw [hV4]
     refine hKr.out _ _ ⟨X4.out, P4.out⟩ (fun _ => ?_)
     clear hKr hV4 FV XV AV BV RV HNB z0 zf0 z1 zf1 z2 zf2 z3 zf3 z4 zf4 z5 zf5 z6 zf6
     have hHeld := (show CBox V4 q0 117 #[.pointer (some ⟨A.b, 0, none⟩), .string (bstr dst), .string (bstr src), .bool tg, .int .i64 vl, .int .i64 pr, .int .i64 ty, .string (bstr da), .int .i64 port, .int .i64 now] ∧ CBox V4 A.b 85 (brcells A s) from ⟨X4.out, P4.out⟩)
     iterate 1 (first | (refine takeO 16 (v := ?_) rfl (by kernel_rfl) (fun _ _ _ => id) (Or.inl ⟨by rfl, ?_⟩) (by assumption) ?_; rotate_left; (focus (intro wq hSq; go_simp <;> with_reducible rfl)); simp only [Act.put, List.setIfInBounds_toArray, List.set_cons_zero, List.set_cons_succ]) | (refine takeO 16 (v := undef) rfl (by kernel_rfl) (fun _ _ _ h => h) (Or.inr ⟨by rfl, rfl⟩) (by assumption) ?_; simp only [Act.put, List.setIfInBounds_toArray, List.set_cons_zero, List.set_cons_succ]))
     refine wpAnyH_done (by kernel_rfl) ?_ _
     clear HF hHeld P4 X4
     cases hq : (er != 0)
     · have he : er = 0 := by simpa [bne] using hq
       subst he
       clear hq
       have HSA := Lib.hid HS.out
       rw [if_pos rfl] at HS
       have HEN := Lib.hid (fun W => enc_any ⟨d1, s1, t1, v1, p1, y1, a1⟩ W HOF.out)
       unfold encF fcells at HEN
       dsimp only at HEN
       obtain ⟨⟨es, ee⟩, hE⟩ : ∃ x, eEnc ⟨d1, s1, t1, v1, p1, y1, a1⟩ = x := ⟨_, rfl⟩
       rw [hE] at HEN HS
       dsimp only at HS
       clear hE HSA
       obtain ⟨z0, zf0⟩ := CBox.at_ F4.out 0 _ rfl
       obtain ⟨z1, zf1⟩ := CBox.at_ F4.out 1 _ rfl
       obtain ⟨z2, zf2⟩ := CBox.at_ F4.out 2 _ rfl
       obtain ⟨z3, zf3⟩ := CBox.at_ F4.out 3 _ rfl
       obtain ⟨z4, zf4⟩ := CBox.at_ F4.out 4 _ rfl
       obtain ⟨z5, zf5⟩ := CBox.at_ F4.out 5 _ rfl
       obtain ⟨z6, zf6⟩ := CBox.at_ F4.out 6 _ rfl
       have hc3 : LK.length + 1 ≤ maxLen := by have := HL.out; unfold maxLen; omega
       have hc4 : (LK.length + 1) * 24 ≤ 140737488355328 := by have := HL.out; omega
       have HC3 := Lib.hid hc3; have HC4 := Lib.hid hc4
       clear hc3 hc4
       go_wp2_with (first | ((with_reducible refine (HEN.out V4).mono ?_); rintro e w5 ⟨rfl, hb5⟩; have R5 := Lib.hid (gown_bel R4.out hb5); have B5 := Lib.hid (B4.out.trans (hb5.mono B4.out.size)); have HSZ := Lib.hid B5.out.size; clear hb5) | (at_builtin; refine wpList_append_own _ rfl _ _ 43 rfl W1.heap.size 52 i0 (.agg #[.int .i64 0, .string ⟨#[]⟩]) 2 24 Tryz.underlying43 hi hz0 hz1 hz2 rfl (by decide) _ _ _ rfl (R5.out.alloc _) ⟨w5.heap.size, 0, none⟩ 1 1 (ocells (q, es)) rfl rfl (ocells_new _ _ _) (ocells_one _) HC3.out HC4.out (by have := HSZ.out; simp; omega) ?_; intro v' w6 hown6 hg6 _; have HO6 := Lib.hid hown6; have HB6 := Lib.hid (below_own (B5.out.alloc HSZ.out (.cells #[.int .i64 q, .string (bstr es)] 52)) (R5.out.alloc _) (Nat.le_refl _) (by have := HSZ.out; simp; omega) hg6); clear hown6 hg6))
       go_roundw
       case rel => exact ⟨k + 1, by omega, by go_num, by rw [HS.out, List.length_append, List.flatMap_append]; simpa using HO6.out, HB6.out⟩
       case measure => simp [intOf]; omega
     · have he : er ≠ 0 := by simpa [bne] using hq
       rw [if_neg he] at HS
       dsimp only at HS
       rw [List.append_nil] at HS
       clear he
       go_wp2_with fail
       go_roundw
       case rel => exact ⟨k + 1, by omega, by go_num, by rw [HS.out]; exact R4.out, B4.out⟩
       case measure => simp [intOf]; omega
  · obtain rfl : k = M := by omega
    have HB := Lib.hid hb
    have HRW := Lib.hid hrow
    clear hidx hrow hb hlen
    go_wp2_with fail
    go_ret
    exact ⟨_, rfl, by have := HRW.out; rw [HTK.out] at this; exact own_base2 this B1.out.size, B1.out.trans (HB.out.mono B1.out.size)⟩

theorem ints_one_new (w : World) (x : Int) (T : TypeId) (hx : (Lit.int .i64 x).wf = true) : Ints (w.alloc (.cells #[.int .i64 x] T)) (.slice (some ⟨w.heap.size, 0, none⟩) 1 1) [x] := by
 refine ⟨_, 1, w.heap.size, 0, rfl, .inr rfl, by simp, by simpa using hx, fun k hk => ?_⟩
 obtain rfl : k = 0 := by simp at hk; omega
 exact ⟨by simp, ((CBox.new #[.int .i64 x] rfl : CBox (w.alloc (.cells #[.int .i64 x] T)) w.heap.size T _).at_ 0 _ rfl).1⟩
def floodTo (s : BrS) (v port : Int) : List Int := lFlood port (vMembers s.c.ports v) s.opens
theorem floodTo_len (s : BrS) (v port : Int) : (floodTo s v port).length ≤ s.c.ports.length := Nat.le_trans (canon_length _ _) (opensTo_len _ _)
def plainTo (s : BrS) (f : Fr) (port now : Int) : List (Int × Str) :=
 if (isMany f.dst || !(flook s.fdb s.c.age f.vlan f.dst now).2) = true then sendTo s.c.ports f (floodTo s f.vlan port)
 else if (floodTo s f.vlan port).contains (flook s.fdb s.c.age f.vlan f.dst now).1 = true then sendTo s.c.ports f [(flook s.fdb s.c.age f.vlan f.dst now).1] else []
theorem flook_wf {F : Fdb} {age v now : Int} {mc : Str} (h : FdOk F) : (Lit.int .i64 (flook F age v mc now).1).wf = true := by
 unfold flook
 cases hF : F (v, mc) with
 | none => rfl
 | some e =>
   have := (h.at_ _ _ hF).1
   dsimp only
   split
   · rfl
   · exact WalkArith.wf_i64 (n := e.1) (by omega)
theorem list_quiet (A : Adr) (s : BrS) (v now : Int) (W : World) (h : BrAt W A s) : Calls Tryz.prog 47 #[.pointer (some ⟨A.rp, 0, none⟩), .int .i64 v, .int .i64 now] W (RetIs W []) :=
 (rlist_none A.rp A.rf A.rh s.c.age v now W h.rt).mono fun e w' ⟨h1, h2⟩ => ⟨_, h1, Ints.nil _, fun j hj => by simp [Value.ownBlock] at hj, h2⟩
set_option maxHeartbeats 8000000 in
theorem plain_any (A : Adr) (s : BrS) (f : Fr) (port now : Int) (w : World) (h : BrAt w A s) (hs : frOk f) (hvl : (Lit.int .i64 f.vlan).wf = true) (hn : inBetween now 1 1099511627776 = true) :
 Calls Tryz.prog 67 #[encP A.b f port now] w (RetOuts w (plainTo s f port now)) := by
 have hnb : 0 ≤ now ∧ now ≤ 1099511627776 := by unfold inBetween at hn; simp at hn; omega
 have hag : 0 ≤ s.c.age ∧ s.c.age ≤ 1000000 := by have := h.ok.age; omega
 have HAR := Lib.hid (fun W (hW : BrAt W A s) => around_any A s f port now [] W hW fun W' hW' => list_quiet A s f.vlan now W' (hW.below hW'))
 have HSN := Lib.hid (fun u ps W (hW : BrAt W A s) (hu : Ints W u ps) (hl : ps.length ≤ 1000) => send_any A s f port now u ps W hW hs hu hl)
 have HLK := Lib.hid (fun W (hW : BrAt W A s) => (let ⟨L, _, _, hf⟩ := hW.fdb; flook_any A.fp A.fm L.length s.c.room s.c.age f.vlan now f.dst s.fdb W hf h.ok.fdb ⟨hvl, hs.1⟩ hag hnb))
 have HKW := Lib.hid (flook_wf (age := s.c.age) (v := f.vlan) (now := now) (mc := f.dst) h.ok.fdb)
 have HLN := Lib.hid (show (floodTo s f.vlan port).length ≤ 1000 from by
  have := floodTo_len s f.vlan port
  have := h.ok.len
  have := h.ok.tree.len
  omega)
 obtain ⟨P, hP⟩ : ∃ P, plainTo s f port now = P := ⟨_, rfl⟩
 have HP := Lib.hid (show P = if (isMany f.dst || !(flook s.fdb s.c.age f.vlan f.dst now).2) = true then sendTo s.c.ports f (floodTo s f.vlan port)
  else if (floodTo s f.vlan port).contains (flook s.fdb s.c.age f.vlan f.dst now).1 = true then sendTo s.c.ports f [(flook s.fdb s.c.age f.vlan f.dst now).1] else [] from hP.symm)
 rw [hP]
 obtain ⟨⟨tp, kn⟩, hlk⟩ : ∃ r, flook s.fdb s.c.age f.vlan f.dst now = r := ⟨_, rfl⟩
 have HMN := Lib.hid (many_any f.dst)
 obtain ⟨mn, hmn⟩ : ∃ b, isMany f.dst = b := ⟨_, rfl⟩
 obtain ⟨ST, hST⟩ : ∃ ST, sendTo s.c.ports f = ST := ⟨_, rfl⟩
 obtain ⟨AL, hAL⟩ : ∃ l, floodTo s f.vlan port = l := ⟨_, rfl⟩
 obtain ⟨MB, hMB⟩ : ∃ l, vMembers s.c.ports f.vlan = l := ⟨_, rfl⟩
 have HFL := Lib.hid (fun vm vo vr vw W (hW : CaseIn W vm vo vr vw MB s.opens [] []) => flood_any port vm vo vr vw false false false false false MB s.opens [] [] W hW)
 have hal : lFlood port MB s.opens = AL := by rw [← hAL, ← hMB]; rfl
 rw [hlk] at HLK HP HKW
 simp only [hmn] at HMN HP
 rw [hST] at HP
 simp only [hST] at HSN
 rw [hAL] at HP HLN
 simp only [hMB] at HAR
 simp only [hal] at HFL
 dsimp only at HP HKW
 clear hP hlk hmn hST hAL hMB hal hs hn hvl
 obtain ⟨dst, src, tg, vl, pr, ty, da⟩ := f
 unfold encP at HAR HSN ⊢
 dsimp only at HAR HSN HLK HMN ⊢
 obtain ⟨W1, hW1⟩ : ∃ W, w.alloc (.cells #[.pointer (some ⟨A.b, 0, none⟩), .string (bstr dst), .string (bstr src), .bool tg, .int .i64 vl, .int .i64 pr, .int .i64 ty, .string (bstr da), .int .i64 port, .int .i64 now] 117) = W := ⟨_, rfl⟩
 obtain ⟨q0, hq0⟩ : ∃ q, w.heap.size = q := ⟨_, rfl⟩
 have hb1 : Below w.heap.size w W1 := by rw [← hW1]; exact (Below.refl _ _).alloc (Nat.le_refl _) _
 have hx1 : CBox W1 q0 117 #[.pointer (some ⟨A.b, 0, none⟩), .string (bstr dst), .string (bstr src), .bool tg, .int .i64 vl, .int .i64 pr, .int .i64 ty, .string (bstr da), .int .i64 port, .int .i64 now] := by rw [← hW1]; exact CBox.new _ hq0.symm
 have X1 := Lib.hid hx1; have A1 := Lib.hid (h.below hb1); have B1 := Lib.hid hb1
 have HW1 := Lib.hid hW1; have HQ0 := Lib.hid hq0
 have HF := Lib.hid (fun (wq : World) (h : CBox wq q0 117 #[.pointer (some ⟨A.b, 0, none⟩), .string (bstr dst), .string (bstr src), .bool tg, .int .i64 vl, .int .i64 pr, .int .i64 ty, .string (bstr da), .int .i64 port, .int .i64 now] ∧ CBox wq A.b 85 (brcells A s)) =>
  And.intro (h.1.at_ 0 _ rfl).1 (And.intro (h.1.at_ 4 _ rfl).1 (And.intro (h.1.at_ 1 _ rfl).1 (And.intro (h.1.at_ 9 _ rfl).1 (h.2.at_ 14 (.pointer (some ⟨A.fp, 0, none⟩)) rfl).1))))
 clear h hW1 hq0 hb1 hx1
 go_enter Tryz.func67, Tryz.ntmps67
 go_upto_region 1 with fail
 rw [HW1.out, HQ0.out]
 obtain ⟨c0, cf0⟩ := CBox.at_ X1.out 0 _ rfl
 obtain ⟨c1, cf1⟩ := CBox.at_ X1.out 1 _ rfl
 obtain ⟨c2, cf2⟩ := CBox.at_ X1.out 2 _ rfl
 obtain ⟨c3, cf3⟩ := CBox.at_ X1.out 3 _ rfl
 obtain ⟨c4, cf4⟩ := CBox.at_ X1.out 4 _ rfl
 obtain ⟨c5, cf5⟩ := CBox.at_ X1.out 5 _ rfl
 obtain ⟨c6, cf6⟩ := CBox.at_ X1.out 6 _ rfl
 obtain ⟨c7, cf7⟩ := CBox.at_ X1.out 7 _ rfl
 obtain ⟨c8, cf8⟩ := CBox.at_ X1.out 8 _ rfl
 obtain ⟨c9, cf9⟩ := CBox.at_ X1.out 9 _ rfl
 go_upto_region 2 with (first | ((with_reducible refine (HAR.out W1 A1.out).mono ?_); rintro e w2 ⟨vm, vo, vr, rfl, hc2, hb2⟩; have C2 := Lib.hid hc2; have B2 := Lib.hid (B1.out.trans (hb2.mono B1.out.size)); have X2 := Lib.hid (X1.out.below hb2 X1.out.lt); have A2 := Lib.hid (A1.out.below hb2); clear hc2 hb2) | ((with_reducible refine (HFL.out vm vo vr (.slice none 0 0) _ C2.out).mono ?_); rintro e w3 ⟨va, rfl, hi3, hb3⟩; obtain ⟨aa, an, ac, rfl⟩ := hi3.shape; have I3 := Lib.hid hi3; have B3 := Lib.hid (B2.out.trans (hb3.mono B2.out.size)); have X3 := Lib.hid (X2.out.below hb3 X2.out.lt); have A3 := Lib.hid (A2.out.below hb3); clear hi3 hb3))
 clear c0 cf0 c1 cf1 c2 cf2 c3 cf3 c4 cf4 c5 cf5 c6 cf6 c7 cf7 c8 cf8 c9 cf9
 obtain ⟨Z, hZ⟩ : ∃ W, w3.drew = W := ⟨_, rfl⟩
 have hbz : Below w3.heap.size w3 Z := by rw [← hZ]; exact Below.drew (Below.refl _ _)
 have BZ := Lib.hid (B3.out.trans (hbz.mono B3.out.size)); have XZ := Lib.hid (X3.out.below hbz X3.out.lt); have AZ := Lib.hid (A3.out.below hbz); have IZ := Lib.hid (I3.out.mono hbz); have HZ := Lib.hid hZ
 clear hZ hbz B3 X3 A3 I3 C2 B2 X2 A2 HAR HFL
 refine wp_region_held_drew (S := fun wq => CBox wq q0 117 #[.pointer (some ⟨A.b, 0, none⟩), .string (bstr dst), .string (bstr src), .bool tg, .int .i64 vl, .int .i64 pr, .int .i64 ty, .string (bstr da), .int .i64 port, .int .i64 now] ∧ CBox wq A.b 85 (brcells A s)) (by kernel_rfl) (by rw [HZ.out]; exact ⟨XZ.out, AZ.out.box⟩) (fun hHeld => ?_)
 rw [HZ.out] at hHeld ⊢
 iterate 13 (first | (refine takeO 19 (v := ?_) rfl (by kernel_rfl) (fun _ _ _ h => h) (Or.inl ⟨by rfl, ?_⟩) (by assumption) ?_; rotate_left; (focus (intro wq hSq; have f := HF.out wq hSq; go_simp <;> with_reducible rfl)); simp only [Act.put, List.setIfInBounds_toArray, List.set_cons_zero, List.set_cons_succ]) | (refine takeO 19 (v := undef) rfl (by kernel_rfl) (fun _ _ _ h => h) (Or.inr ⟨by rfl, rfl⟩) (by assumption) ?_; simp only [Act.put, List.setIfInBounds_toArray, List.set_cons_zero, List.set_cons_succ]))
 refine wpAnyH_ready (rs := [13]) (by kernel_rfl) (by simp) (nextL 13 rfl (fun Kr hKr => ?_) AllReadyH.nil)
 rw [if_pos (by rfl)]
 go_simp
 (with_reducible refine (HLK.out Z AZ.out).mono ?_)
 rintro e w4 ⟨rfl, hb4⟩
 dsimp only
 have B4 := Lib.hid (BZ.out.trans (hb4.mono BZ.out.size)); have X4 := Lib.hid (XZ.out.below hb4 XZ.out.lt); have A4 := Lib.hid (AZ.out.below hb4); have I4 := Lib.hid (IZ.out.mono hb4)
 refine hKr.out _ _ ⟨X4.out, A4.out.box⟩ (fun _ => ?_)
 clear hKr hb4 BZ XZ AZ IZ HLK
 have hHeld := (show CBox w4 q0 117 #[.pointer (some ⟨A.b, 0, none⟩), .string (bstr dst), .string (bstr src), .bool tg, .int .i64 vl, .int .i64 pr, .int .i64 ty, .string (bstr da), .int .i64 port, .int .i64 now] ∧ CBox w4 A.b 85 (brcells A s) from ⟨X4.out, A4.out.box⟩)
 iterate 5 (first | (refine takeO 19 (v := ?_) rfl (by kernel_rfl) (fun _ _ _ h => h) (Or.inl ⟨by rfl, ?_⟩) (by assumption) ?_; rotate_left; (focus (intro wq hSq; go_simp <;> with_reducible rfl)); simp only [Act.put, List.setIfInBounds_toArray, List.set_cons_zero, List.set_cons_succ]) | (refine takeO 19 (v := undef) rfl (by kernel_rfl) (fun _ _ _ h => h) (Or.inr ⟨by rfl, rfl⟩) (by assumption) ?_; simp only [Act.put, List.setIfInBounds_toArray, List.set_cons_zero, List.set_cons_succ]))
 refine wpAnyH_done (by kernel_rfl) ?_ _
 clear hHeld HF
 obtain ⟨c0, cf0⟩ := CBox.at_ X4.out 0 _ rfl
 obtain ⟨c1, cf1⟩ := CBox.at_ X4.out 1 _ rfl
 obtain ⟨c2, cf2⟩ := CBox.at_ X4.out 2 _ rfl
 obtain ⟨c3, cf3⟩ := CBox.at_ X4.out 3 _ rfl
 obtain ⟨c4, cf4⟩ := CBox.at_ X4.out 4 _ rfl
 obtain ⟨c5, cf5⟩ := CBox.at_ X4.out 5 _ rfl
 obtain ⟨c6, cf6⟩ := CBox.at_ X4.out 6 _ rfl
 obtain ⟨c7, cf7⟩ := CBox.at_ X4.out 7 _ rfl
 obtain ⟨c8, cf8⟩ := CBox.at_ X4.out 8 _ rfl
 obtain ⟨c9, cf9⟩ := CBox.at_ X4.out 9 _ rfl
 cases mn
 · cases kn
   · have HP1 := Lib.hid (show P = ST AL from by rw [HP.out]; simp)
     go_wp2_with (first | ((with_reducible refine (HMN.out _).mono ?_); rintro e w5 ⟨rfl, hw5⟩; subst w5) | ((with_reducible refine (HSN.out _ AL w4 A4.out I4.out HLN.out).mono ?_); rintro e w6 ⟨v6, rfl, hr6, hb6⟩; have R6 := Lib.hid (own_base2 hr6 B4.out.size); have B6 := Lib.hid (B4.out.trans (hb6.mono B4.out.size)); clear hr6 hb6))
     go_ret
     exact ⟨_, rfl, by rw [HP1.out]; exact R6.out, B6.out⟩
   · obtain ⟨ct, hct⟩ : ∃ b, AL.contains tp = b := ⟨_, rfl⟩
     have HCT := Lib.hid (contains_any _ AL tp w4 I4.out)
     rw [hct] at HCT HP
     clear hct
     cases ct
     · have HP1 := Lib.hid (show P = [] from by rw [HP.out]; simp)
       go_wp2_with (first | ((with_reducible refine (HMN.out _).mono ?_); rintro e w5 ⟨rfl, hw5⟩; subst w5) | ((with_reducible refine HCT.out.mono ?_); rintro e w5 ⟨rfl, hw5⟩; subst w5))
       go_ret
       exact ⟨_, rfl, by rw [HP1.out]; exact World.ownsRow_nil _ _ _ _, B4.out⟩
     · have HP1 := Lib.hid (show P = ST [tp] from by rw [HP.out]; simp)
       have hb5 : Below w4.heap.size w4 (w4.alloc (.cells #[.int .i64 tp] 3)) := (Below.refl _ _).alloc (Nat.le_refl _) _
       have hcl := HSN.out _ [tp] _ (A4.out.below hb5) (ints_one_new w4 tp 3 HKW.out) (by simp)
       have HS5 := Lib.hid hcl
       have B5 := Lib.hid (B4.out.trans (hb5.mono B4.out.size))
       clear hcl hb5
       go_wp2_with (first | ((with_reducible refine (HMN.out _).mono ?_); rintro e w5 ⟨rfl, hw5⟩; subst w5) | ((with_reducible refine HCT.out.mono ?_); rintro e w5 ⟨rfl, hw5⟩; subst w5) | ((with_reducible refine HS5.out.mono ?_); rintro e w6 ⟨v6, rfl, hr6, hb6⟩; have R6 := Lib.hid (own_base2 hr6 B5.out.size); have B6 := Lib.hid (B5.out.trans (hb6.mono B5.out.size)); clear hr6 hb6))
       go_ret
       exact ⟨_, rfl, by rw [HP1.out]; exact R6.out, B6.out⟩
 · have HP1 := Lib.hid (show P = ST AL from by rw [HP.out]; simp)
   go_wp2_with (first | ((with_reducible refine (HMN.out _).mono ?_); rintro e w5 ⟨rfl, hw5⟩; subst w5) | ((with_reducible refine (HSN.out _ AL w4 A4.out I4.out HLN.out).mono ?_); rintro e w6 ⟨v6, rfl, hr6, hb6⟩; have R6 := Lib.hid (own_base2 hr6 B4.out.size); have B6 := Lib.hid (B4.out.trans (hb6.mono B4.out.size)); clear hr6 hb6))
   go_ret
   exact ⟨_, rfl, by rw [HP1.out]; exact R6.out, B6.out⟩
end Go.Proofs.YthcdppppppgckaaGreatDoor
