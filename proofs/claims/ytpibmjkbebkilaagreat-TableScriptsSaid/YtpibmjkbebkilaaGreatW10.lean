/- Texts joined into one file: GWork, GSoon, GRefu. -/
import Derived.Test.YtpibmjkbebkilaaGreatW09
import Derived.Deep.DeepCutAuto

namespace Go.Proofs.YtpibmjkbebkilaaGreat
open Go.RowKit Go.Lib Go.Maps Go.Sort
set_option maxRecDepth 20000

def setF (F : Str → Option Int) (S : List Str) (z : Int) : Str → Option Int := fun a => if S.contains a then some z else F a
theorem setF_nil (F : Str → Option Int) (z : Int) : setF F [] z = F := by funext a; simp [setF]
theorem setF_snoc (F : Str → Option Int) (S : List Str) (z : Int) (k : Nat) (h : k < S.length) : setF F (S.take (k + 1)) z = upd (setF F (S.take k) z) S[k] z := by
 funext a
 unfold setF upd
 rw [mem_snoc S a k h]
 by_cases e : a = S[k]
 · subst e; simp
 · have e' : (S[k] == a) = false := by rw [beq_eq_false_iff_ne]; exact fun h => e h.symm
   rw [e', Bool.or_false, if_neg e]

def But (w w' : World) (B b : Nat) : Prop := Below 0 w w' ∧ ∀ j, j < w.heap.size → j ≠ B → j ≠ b → w'.heap[j]? = w.heap[j]?

theorem But.of_below {w w' : World} (h : Below w.heap.size w w') (B b : Nat) : But w w' B b := ⟨h.mono (Nat.zero_le _), fun j hj _ _ => h.block j hj⟩
theorem But.trans {w w' w'' : World} {B b : Nat} (h : But w w' B b) (k : But w' w'' B b) : But w w'' B b :=
 ⟨h.1.trans k.1, fun j hj h1 h2 => (k.2 j (Nat.lt_of_lt_of_le hj h.1.size) h1 h2).trans (h.2 j hj h1 h2)⟩
theorem But.grown {w w' w'' : World} {B b : Nat} {row : Option Nat} (h : But w w' B b) (hg : w'.grownBy w'' row) (hr : ∀ j, row = some j → j = B ∨ j = b ∨ w.heap.size ≤ j) : But w w'' B b :=
 ⟨h.1.grown hg (Nat.zero_le _) (fun _ _ => Nat.zero_le _), fun j hj h1 h2 => (hg.block j (Nat.lt_of_lt_of_le hj h.1.size) (fun e => by rcases hr j e.symm with e | e | e <;> omega)).trans (h.2 j hj h1 h2)⟩
theorem But.set {w w' : World} {B b : Nat} (h : But w w' B b) {p : Addr} (hp : p.block = B ∨ w.heap.size ≤ p.block) (u : Value) : But w (w'.setCell p u) B b :=
 ⟨h.1.setCell (Nat.zero_le _) u, fun j hj h1 h2 => (Below.heap_setCell _ _ _ j (by omega)).trans (h.2 j hj h1 h2)⟩
theorem But.alloc {w w' : World} {B b : Nat} (h : But w w' B b) (o : Obj) : But w (w'.alloc o) B b := h.trans (But.of_below ((Below.refl _ _).alloc (Nat.le_refl _) o) _ _)
theorem But.draws {w w' : World} {B b : Nat} (h : But w w' B b) (n : Nat) : But w (w'.drewN n) B b := h.trans (But.of_below (below_draws _ (Below.refl _ _) n) _ _)
theorem But.box {w w' : World} {B b j : Nat} {T : TypeId} {cs : Array Value} (h : But w w' B b) (hc : CBox w j T cs) (h1 : j ≠ B) (h2 : j ≠ b) : CBox w' j T cs := (h.2 j hc.lt h1 h2).trans hc
theorem But.below {w w' : World} {B b lo : Nat} (h : But w w' B b) (hw : lo ≤ w.heap.size) (h1 : lo ≤ B) (h2 : lo ≤ b) : Below lo w w' := ⟨h.1.os, h.1.tape, h.1.output, h.1.size, fun k hk => h.2 k (by omega) (by omega) (by omega)⟩
theorem But.strs {w w' : World} {B b lo : Nat} {v : Value} {L : List Str} (h : But w w' B b) (hs : Strs w v L) (hl : Lies lo v) (h1 : B < lo) (h2 : b < lo) : Strs w' v L := by
 obtain ⟨ao, cap, c, off, rfl, h0, h1', h2', h3⟩ := hs
 refine ⟨ao, cap, c, off, rfl, h0, h1', h2', fun k hk => ?_⟩
 obtain ⟨hlt, hc⟩ := h3 k hk
 have hb : lo ≤ c := by
  rcases h0 with rfl | rfl
  · simp at hk
  · exact hl c rfl
 refine ⟨Nat.lt_of_lt_of_le hlt h.1.size, ?_⟩
 rw [World.cell?_of_block (w := w) (h.2 c hlt (by omega) (by omega))]
 exact hc

theorem CBox.thaw {w : World} {b : Nat} {T : TypeId} {cs : Array Value} (h : CBox w b T cs) (i : Nat) : w.frozen? ⟨b, i, none⟩ = false := by
 have h' : w.heap[b]? = some (.cells cs T (0, 0)) := h
 simp [World.frozen?, h']

theorem CBox.ne_mp {w : World} {B b n : Nat} {T : TypeId} {cs : Array Value} {F : Str → Option Int} (h : CBox w B T cs) (hm : Mp w b n F) : B ≠ b := by
 rintro rfl
 obtain ⟨D, ⟨es, clock, h1, _⟩, _⟩ := hm
 have h' : w.heap[B]? = some (.cells cs T (0, 0)) := h
 rw [h1] at h'
 cases h'

def RetWork (w : World) (B b : Nat) (ex' : Bool) (at' : Int) (n' : Nat) (F' : Str → Option Int) (g : Bool) (q : Str → Bool) (e : Ending) (w' : World) : Prop :=
 ∃ b1 v R lo, e = .returned (.agg #[.bool g, v]) ∧ Strs w' v R ∧ Rises q R ∧ R.length ≤ n' ∧ Lies lo v ∧ b1 < lo ∧ w.heap.size ≤ lo ∧ (b1 = b ∨ w.heap.size ≤ b1) ∧ CBox w' B 109 #[.bool ex', .int .i64 at', .map (some b1)] ∧ Mp w' b1 n' F' ∧ But w w' B b

theorem Strs.grown' {w w' : World} {v : Value} {L : List Str} {row : Option Nat} (h : Strs w v L) (hg : w.grownBy w' row) (hne : L ≠ [] → v.ownBlock ≠ row) : Strs w' v L := by
 obtain ⟨ao, cap, b, off, rfl, h0, h1, h2, h3⟩ := h
 refine ⟨ao, cap, b, off, rfl, h0, h1, h2, fun k hk => ?_⟩
 obtain ⟨hlt, hc⟩ := h3 k hk
 have hL : L ≠ [] := by intro e; subst e; simp at hk
 rcases h0 with h0 | rfl
 · exact absurd h0 hL
 · refine ⟨Nat.lt_of_lt_of_le hlt hg.size, ?_⟩
   rw [World.cell?_of_block (w := w) (hg.block b hlt (hne hL))]
   exact hc

theorem callLacks (args : Array Value) (w : World) : (callFunc 82 args).run Tryz.prog w = .ok (.enter 82 args) w := by kernel_rfl

theorem rises_nil {q : Str → Bool} (h : ∀ a, q a = false) : Rises q [] := ⟨List.Pairwise.nil, fun a => by simp [h a]⟩

set_option maxRecDepth 20000 in
set_option maxHeartbeats 4000000 in
theorem wants_any (ex : Bool) (at' : Int) (b n B : Nat) (F : Str → Option Int) (kind z : Int) (sv : Value) (S : List Str) (lo : Nat) (w : World) (hB : CBox w B 109 #[.bool ex, .int .i64 at', .map (some b)]) (h : Mp w b n F) (hn : n + S.length ≤ 8796093022200)
 (hS : Strs w sv S) (hl : Lies lo sv) (_hBl : B < lo) (hbl : b < lo) (hz : (Lit.int .i64 z).wf = true) :
 Calls Tryz.prog 54 #[.pointer (some ⟨B, 0, none⟩), .agg #[.int .i64 kind, sv, .int .i64 z]] w (RetWork w B b ex at' (n + S.length) (setF F S z) (kind == 3 && ex) (fun a => kind == 3 && (runF F a && !S.contains a))) := by
 obtain ⟨so, sc, rfl⟩ := hS.shape
 obtain ⟨W0, hW0⟩ : ∃ W0, W0 = (w.alloc (.cells #[.int .i64 kind, .slice so S.length sc, .int .i64 z] 118)).alloc (.cells #[.bool false, .slice none 0 0] 51) := ⟨_, rfl⟩
 have hb0 : Below w.heap.size w W0 := by rw [hW0]; exact ((Below.refl _ _).alloc (Nat.le_refl _) _).alloc (by simp) _
 have hs0 : W0.heap.size = w.heap.size + 2 := by rw [hW0]; simp
 have s1 : CBox W0 w.heap.size 118 #[.int .i64 kind, .slice so S.length sc, .int .i64 z] := by rw [hW0]; exact (CBox.new _ rfl).old _
 have s2 : CBox W0 (w.heap.size + 1) 51 #[.bool false, .slice none 0 0] := by rw [hW0]; exact CBox.new _ (by simp)
 have hne := hB.ne_mp h
 have hBw := hB.lt
 have hbw := h.lt
 have HM := Lib.hid (h.below hb0 h.lt); have HBX := Lib.hid (hB.below hb0 hB.lt); have HSW := Lib.hid hS; have HS := Lib.hid (hS.mono hb0); have HL := Lib.hid hl
 have HB0 := Lib.hid hb0; have HZ0 := Lib.hid hs0; have S1 := Lib.hid s1; have S2 := Lib.hid s2; have HZ := Lib.hid hz
 have hbx := hB.below hb0 hB.lt
 obtain ⟨x0, _⟩ := hbx.at_ 0 _ rfl
 obtain ⟨x1, _⟩ := hbx.at_ 1 _ rfl
 obtain ⟨x2, _⟩ := hbx.at_ 2 _ rfl
 obtain ⟨y0, _⟩ := s1.at_ 0 _ rfl
 obtain ⟨y1, _⟩ := s1.at_ 1 _ rfl
 obtain ⟨y2, _⟩ := s1.at_ 2 _ rfl
 have HK := Lib.hid (show ∀ w' cs, Below (w.heap.size + 1) W0 w' → CBox w' (w.heap.size + 1) 51 cs → w'.cell? ⟨B, 0, none⟩ = some (.bool ex) ∧ w'.cell? ⟨B, 1, none⟩ = some (.int .i64 at') ∧ w'.cell? ⟨B, 2, none⟩ = some (.map (some b)) ∧ w'.cell? ⟨w.heap.size, 0, none⟩ = some (.int .i64 kind) ∧ w'.cell? ⟨w.heap.size, 1, none⟩ = some (.slice so S.length sc) ∧ w'.cell? ⟨w.heap.size, 2, none⟩ = some (.int .i64 z) ∧ w'.frozen? ⟨w.heap.size + 1, 0, none⟩ = false ∧ w'.frozen? ⟨w.heap.size + 1, 1, none⟩ = false from fun w' cs hb hcs =>
  have t := hbx.below hb (by omega)
  have u := s1.below hb (by omega)
  ⟨(t.at_ 0 _ rfl).1, (t.at_ 1 _ rfl).1, (t.at_ 2 _ rfl).1, (u.at_ 0 _ rfl).1, (u.at_ 1 _ rfl).1, (u.at_ 2 _ rfl).1, hcs.thaw 0, hcs.thaw 1⟩)
 have HQ := Lib.hid (fun (w' : World) (hb : Below W0.heap.size W0 w') => show CBox w' (w.heap.size + 1) 51 #[.bool false, .slice none 0 0] from s2.below hb (by omega))
 have R0 := Lib.hid (Below.drew (Below.refl W0.heap.size W0))
 have HR := Lib.hid (fun (W1 : World) (h1 : Below W0.heap.size W0 W1) => running_any ex at' b n F W1 (HM.out.below h1 HM.out.lt) (by omega))
 have HW := Lib.hid (fun (W2 : World) (v : Value) (C : List Str) (hv : Strs W2 v C) (hl : C.length ≤ n) (h2 : Below W0.heap.size W0 W2) =>
  which_any v C 82 #[.agg #[.int .i64 kind, .slice so S.length sc, .int .i64 z]] #[] (fun a => !S.contains a) W2 hv (by omega) callLacks (fun x W hx hW => lacks_any kind z _ S x W (HS.out.mono (h2.trans (hW.mono h2.size)))))
 obtain ⟨t, ht⟩ : ∃ t, (kind == 3) = t := ⟨_, rfl⟩
 rw [ht]
 rw [hW0] at x0 x1 x2 y0 y1 y2 HK HQ R0 HR HW
 clear h hB hS hl hz hb0 s1 s2 hbx
 go_enter Tryz.func54, Tryz.ntmps54
 go_upto_if 9 with fail
 go_cut [] (fun w' => ∃ v R, CBox w' (w.heap.size + 1) 51 #[.bool (t && ex), v] ∧ Strs w' v R ∧ Rises (fun a => t && (runF F a && !S.contains a)) R ∧ R.length ≤ n ∧ Lies (w.heap.size + 2) v ∧ Below (w.heap.size + 1) W0 w')
 case first =>
  cases t
  · go_wp2_with fail
    go_meet
    case rel => exact ⟨_, [], by rw [← hW0]; exact S2.out, Strs.nil _, rises_nil (fun _ => rfl), Nat.zero_le _, fun j hj => by simp [Value.ownBlock] at hj, by rw [← hW0]; exact Below.refl _ _⟩
  · go_wp2_with fail
    go_region_held3 (fun w' => w'.cell? ⟨B, 0, none⟩ = some (.bool ex) ∧ w'.cell? ⟨B, 1, none⟩ = some (.int .i64 at') ∧ w'.cell? ⟨B, 2, none⟩ = some (.map (some b)) ∧ w'.cell? ⟨w.heap.size, 0, none⟩ = some (.int .i64 kind) ∧ w'.cell? ⟨w.heap.size, 1, none⟩ = some (.slice so S.length sc) ∧ w'.cell? ⟨w.heap.size, 2, none⟩ = some (.int .i64 z) ∧ w'.frozen? ⟨w.heap.size + 1, 0, none⟩ = false ∧ w'.frozen? ⟨w.heap.size + 1, 1, none⟩ = false) (first | exact HK.out _ _ (((R2.out.mono (by simp)).setCell (by simp) _).setCell (by simp) _) (((HQ.out _ R2.out).set 0 _).set 1 _) | exact HK.out _ _ (R2.out.mono (by simp)) (HQ.out _ R2.out) | exact HK.out _ _ (R1.out.mono (by simp)) (HQ.out _ R1.out) | exact HK.out _ _ (R0.out.mono (by simp)) (HQ.out _ R0.out))
     (first
       | ((with_reducible refine (HW.out _ _ _ HK1.out HKN.out R1.out).mono ?_); rintro e w3 ⟨o, rfl, ho, hb, hlo⟩; obtain ⟨oo, oc, rfl⟩ := ho.shape; have HO := Lib.hid (And.intro ho hlo); have R2 := Lib.hid (R1.out.trans (hb.mono R1.out.size)); obtain ⟨q0, q0f⟩ := (HQ.out _ R2.out).at_ 0 _ rfl; obtain ⟨q1, q1f⟩ := (HQ.out _ R2.out).at_ 1 _ rfl; clear ho hlo hb)
       | ((with_reducible refine (HR.out _ R0.out).mono ?_); rintro e w2 ⟨K, hks, hkn, o, rfl, ho, hb, hlo⟩; obtain ⟨oo, oc, rfl⟩ := ho.shape; have HKS := Lib.hid hks; have HKN := Lib.hid (Nat.le_trans (List.length_filter_le (runF F) K) hkn); have HK1 := Lib.hid ho; have R1 := Lib.hid (R0.out.trans (hb.mono R0.out.size)); clear hks hkn ho hlo hb))
    all_goals
     go_wp2_with fail
     go_meet
     case rel =>
      have hz1 := R1.out.size
      have hLv := HO.out.2.mono (lo' := w.heap.size + 2) (by simp at hz1; omega)
      refine ⟨_, _, by have := ((HQ.out _ R2.out).set 0 (.bool ex)).set 1 (.slice oo ((K.filter (runF F)).filter fun a => !S.contains a).length oc); simpa using this, (HO.out.1.far hLv (by simp) _).far hLv (by simp) _, ?_, Nat.le_trans (List.length_filter_le _ _) HKN.out, hLv, ?_⟩
      · have := rises_runs HKS.out (fun a => !S.contains a)
        simp only [Bool.true_and]; exact this
      · rw [hW0]; exact ((R2.out.mono (by simp)).setCell (by simp) _).setCell (by simp) _
 case rest =>
  obtain ⟨v, R, hbx, hs, hr, hrn, hlv, hb⟩ := hcut
  obtain ⟨vo, vc, rfl⟩ := hs.shape
  have hbw0 : Below w.heap.size w wc := HB0.out.trans (hb.mono (by omega))
  have t1 := HBX.out.below hb (by omega)
  have u1 := S1.out.below hb (by omega)
  have m1 := HM.out.below hb (by omega)
  obtain ⟨sb, soff, hsm, hslen, hsidx, hsc⟩ := HSW.out.factsL HL.out
  have hsw := HSW.out.len
  obtain ⟨q0, _⟩ := u1.at_ 0 _ rfl
  obtain ⟨q1, _⟩ := u1.at_ 1 _ rfl
  have T1 := Lib.hid t1; have U1 := Lib.hid u1; have BX := Lib.hid hbx; have HRS := Lib.hid hs; have HRR := Lib.hid hr; have HRN := Lib.hid hrn; have HLV := Lib.hid hlv; have HBC := Lib.hid hb; have HBW := Lib.hid hbw0
  clear x0 x1 x2 y0 y1 y2 HK HQ R0 HR HW hs hr hrn hlv hb hbw0 t1 u1 hbx ht
  go_wp2_with fail
  go_loopw [25] (fun i wr => ∃ k : Nat, k ≤ S.length ∧ i = .int .i64 k ∧ Mp wr b (n + k) (setF F (S.take k) z) ∧ wc.grownBy wr (some b)) (fun i _ => S.length - (intOf i).toNat)
  case atStart => exact ⟨0, Nat.zero_le _, rfl, by rw [List.take_zero, setF_nil]; exact m1, World.grownBy.refl _ _⟩
  case round =>
   obtain ⟨k, hk, rfl, hm, hg⟩ := hrel
   have tB := T1.out.grown hg (fun e => hne (by injection e))
   have uS := U1.out.grown hg (fun e => by injection e with e; omega)
   have bX := BX.out.grown hg (fun e => by injection e with e; omega)
   obtain ⟨a0, _⟩ := tB.at_ 0 _ rfl
   obtain ⟨a1, _⟩ := tB.at_ 1 _ rfl
   obtain ⟨a2, _⟩ := tB.at_ 2 _ rfl
   obtain ⟨c0, _⟩ := uS.at_ 0 _ rfl
   obtain ⟨c1, _⟩ := uS.at_ 1 _ rfl
   obtain ⟨c2, _⟩ := uS.at_ 2 _ rfl
   have HG := Lib.hid hg; have TB := Lib.hid tB; have BX' := Lib.hid bX; have HMR := Lib.hid hm
   by_cases hlt : k < S.length
   · obtain ⟨lb1, lb2, hcell⟩ := hsc k hlt
     have HT := Lib.hid (setF_snoc F S z k hlt)
     obtain ⟨a, ha⟩ : ∃ a, S[k] = a := ⟨_, rfl⟩
     have hal : a.length ≤ maxLen := by rw [← ha]; exact hsw _ (List.getElem_mem hlt)
     rw [show S.getD k [] = a from by rw [← ha]; simp [List.getD_eq_getElem?_getD, hlt], enc_bstr] at hcell
     rw [ha] at HT
     have hc : wr.cell? ⟨sb, soff + k, none⟩ = some (.string (bstr a)) := hg.cell ((HBW.out.cell (p := ⟨sb, soff + k, none⟩) lb2).trans hcell) (fun e => by injection e with e; simp at e; omega)
     have hp := hsidx k hlt
     obtain ⟨w2, hrun, hm2, hg2⟩ := (hm.below (Below.drew (Below.refl wr.heap.size wr)) hm.lt).put a hal z HZ.out (by unfold maxLen; omega)
     have HM2 := Lib.hid hm2; have HG2 := Lib.hid hg2
     clear hsidx hsc hsw ha hal hcell hm hg tB uS bX hm2 hg2 lb1 lb2
     go_wp2_with fail
     go_region
     go_wp2_with fail
     go_roundw
     case rel => exact ⟨k + 1, by omega, by go_num, by rw [HT.out]; exact HM2.out, (grown_below HG.out (Below.drew (Below.refl _ _))).trans HG2.out⟩
     case measure => simp [intOf]; omega
   · have HT := Lib.hid (show S.take k = S from List.take_of_length_le (by omega))
     have hk' : k = S.length := by omega
     obtain ⟨z0, _⟩ := bX.at_ 0 _ rfl
     obtain ⟨z1, _⟩ := bX.at_ 1 _ rfl
     have hxl := bX.lt
     clear hsidx hsc hsw hm hg tB uS bX
     go_wp2_with fail
     have RR := fun u1 u2 => (BX'.out.set 0 u1).set 1 u2
     have r0 := fun u1 u2 => ((RR u1 u2).at_ 0 _ rfl).1
     have r1 := fun u1 u2 => ((RR u1 u2).at_ 1 _ rfl).1
     have hbut : But w wr B b := (But.of_below HBW.out B b).grown HG.out (fun j e => by injection e with e; exact .inr (.inl e.symm))
     have hcs : w.heap.size ≤ wc.heap.size := HBW.out.size
     refine bodyPost_ret (v := .agg #[.bool (t && ex), .slice vo R.length vc]) (by simp [results, Tryz.results54, go_sem, r0, r1]) rfl ⟨b, _, R, w.heap.size + 2, rfl, ?_, HRR.out, by have := HRN.out; omega, HLV.out, by omega, by omega, .inl rfl, ?_, ?_, ?_⟩
     · have h1 : Strs wr (.slice vo R.length vc) R := HRS.out.grown' HG.out (fun hne' e => by have := HLV.out b e; omega)
       exact (h1.far HLV.out (by simp) _).far HLV.out (by simp) _
     · exact (TB.out.far (by simp; omega) _).far (by simp; omega) _
     · have := HMR.out
       rw [HT.out, hk'] at this
       exact (this.set (by simp; omega) _).set (by simp; omega) _
     · exact (hbut.set (.inr (by simp)) _).set (.inr (by simp)) _

def soonF (F : Str → Option Int) (Q : List Str) (z : Int) : Str → Option Int := fun a => if Q.contains a && runF F a then some (min ((F a).getD 0) z) else F a
theorem soonF_nil (F : Str → Option Int) (z : Int) : soonF F [] z = F := by funext a; simp [soonF]
theorem soonF_no (F : Str → Option Int) (Q : List Str) (z : Int) (_hz : 0 < z) (k : Nat) (h : k < Q.length) (hr : runF (soonF F (Q.take k) z) Q[k] = false) : soonF F (Q.take (k + 1)) z = soonF F (Q.take k) z := by
 funext a
 unfold soonF at hr ⊢
 rw [mem_snoc Q a k h]
 by_cases e : a = Q[k]
 · subst e
   by_cases h2 : runF F Q[k] = true
   · by_cases hc : (Q.take k).contains Q[k] = true
     · rw [hc]; simp
     · have hc' : (Q.take k).contains Q[k] = false := by simpa using hc
       have hr' : ((if ((Q.take k).contains Q[k] && runF F Q[k]) = true then some (min ((F Q[k]).getD 0) z) else F Q[k]).getD 0 != 0) = false := hr
       rw [hc', Bool.false_and, if_neg (by simp)] at hr'
       exact absurd h2 (by unfold runF; rw [hr']; simp)
   · have h2' : runF F Q[k] = false := by simpa using h2
     simp [h2']
 · have e' : (Q[k] == a) = false := by rw [beq_eq_false_iff_ne]; exact fun h => e h.symm
   rw [e', Bool.or_false]
theorem soonF_yes (F : Str → Option Int) (Q : List Str) (z : Int) (k : Nat) (h : k < Q.length) (hr : runF (soonF F (Q.take k) z) Q[k] = true) : soonF F (Q.take (k + 1)) z = upd (soonF F (Q.take k) z) Q[k] (min ((soonF F (Q.take k) z Q[k]).getD 0) z) := by
 funext a
 unfold soonF upd at *
 rw [mem_snoc Q a k h]
 by_cases e : a = Q[k]
 · subst e
   by_cases h2 : runF F Q[k] = true
   · by_cases hc : (Q.take k).contains Q[k] = true
     · rw [hc]; simp [h2]
     · have hc' : (Q.take k).contains Q[k] = false := by simpa using hc
       rw [hc']; simp [h2]
   · have h2' : runF F Q[k] = false := by simpa using h2
     exfalso
     have hr' : ((if ((Q.take k).contains Q[k] && runF F Q[k]) = true then some (min ((F Q[k]).getD 0) z) else F Q[k]).getD 0 != 0) = true := hr
     rw [h2', Bool.and_false, if_neg (by simp)] at hr'
     exact h2 hr'
 · have e' : (Q[k] == a) = false := by rw [beq_eq_false_iff_ne]; exact fun h => e h.symm
   rw [e', Bool.or_false, if_neg e]

theorem run_min (ty : TypeId) (x y : Int) (w : World) : (Builtin.min_ #[3, 3] ty #[.int .i64 x, .int .i64 y]).run Tryz.prog w = .ok (.int .i64 (min x y)) w := by
 have e : (if y < x then y else x) = min x y := by rw [Int.min_def]; split <;> split <;> omega
 simp [Builtin.min_, Builtin.min2, e]

theorem Mp.wf0 {w : World} {b n : Nat} {F : Str → Option Int} (h : Mp w b n F) (a : Str) (ha : a.length ≤ maxLen) : (Lit.int .i64 ((F a).getD 0)).wf = true := by
 cases hF : F a
 · rfl
 · exact h.wf a ha _ hF

theorem wf_min {x y : Int} (hx : (Lit.int .i64 x).wf = true) (hy : (Lit.int .i64 y).wf = true) : (Lit.int .i64 (min x y)).wf = true := by
 rcases Int.le_total x y with h | h
 · rw [Int.min_eq_left h]; exact hx
 · rw [Int.min_eq_right h]; exact hy

set_option maxRecDepth 20000 in
set_option maxHeartbeats 4000000 in
theorem soon_any (ex : Bool) (at' : Int) (b n B : Nat) (F : Str → Option Int) (g : Bool) (z : Int) (sv : Value) (S : List Str) (lo : Nat) (w : World) (hB : CBox w B 109 #[.bool ex, .int .i64 at', .map (some b)]) (h : Mp w b n F) (hn : n + S.length ≤ 8796093022200)
 (hS : Strs w sv S) (hl : Lies lo sv) (_hBl : B < lo) (hbl : b < lo) (hz : (Lit.int .i64 z).wf = true) (hz0 : 0 < z) :
 Calls Tryz.prog 57 #[.pointer (some ⟨B, 0, none⟩), .agg #[.bool g, sv], .int .i64 z] w fun e w' => e = .returned (.tuple #[]) ∧ CBox w' B 109 #[.bool ex, .int .i64 (if g then min at' z else at'), .map (some b)] ∧ Mp w' b (n + S.length) (soonF F S z) ∧ But w w' B b := by
 obtain ⟨so, sc, rfl⟩ := hS.shape
 obtain ⟨W0, hW0⟩ : ∃ W0, W0 = w.alloc (.cells #[.bool g, .slice so S.length sc] 51) := ⟨_, rfl⟩
 have hb0 : Below w.heap.size w W0 := by rw [hW0]; exact (Below.refl _ _).alloc (Nat.le_refl _) _
 have hs0 : W0.heap.size = w.heap.size + 1 := by rw [hW0]; simp
 have s1 : CBox W0 w.heap.size 51 #[.bool g, .slice so S.length sc] := by rw [hW0]; exact CBox.new _ rfl
 have hne := hB.ne_mp h
 have hBw := hB.lt
 have hbw := h.lt
 have hm0 := h.below hb0 h.lt
 have T1 := Lib.hid (hB.below hb0 hB.lt); have U1 := Lib.hid s1; have HB0 := Lib.hid hb0
 obtain ⟨sb, soff, hsm, hslen, hsidx, hsc⟩ := hS.factsL hl
 have hsw := hS.len
 have HZ := Lib.hid hz; have HZ0 := Lib.hid hz0
 clear h hB hS hl hz hz0 hb0 s1
 go_enter Tryz.func57, Tryz.ntmps57
 go_wp2_with fail
 rw [← hW0]
 go_loopw [11] (fun i wr => ∃ k : Nat, k ≤ S.length ∧ i = .int .i64 k ∧ Mp wr b (n + k) (soonF F (S.take k) z) ∧ W0.grownBy wr (some b)) (fun i _ => S.length - (intOf i).toNat)
 case atStart => exact ⟨0, Nat.zero_le _, rfl, by rw [List.take_zero, soonF_nil]; exact hm0, World.grownBy.refl _ _⟩
 case round =>
  obtain ⟨k, hk, rfl, hm, hg⟩ := hrel
  clear hm0
  have tB := T1.out.grown hg (fun e => hne (by injection e))
  have uS := U1.out.grown hg (fun e => by injection e with e; omega)
  obtain ⟨a0, f0⟩ := tB.at_ 0 _ rfl
  obtain ⟨a1, f1⟩ := tB.at_ 1 _ rfl
  obtain ⟨a2, f2⟩ := tB.at_ 2 _ rfl
  have hBr := tB.lt
  have HG := Lib.hid hg; have TB := Lib.hid tB; have HMR := Lib.hid hm
  by_cases hlt : k < S.length
  · obtain ⟨lb1, lb2, hcell⟩ := hsc k hlt
    have HN := Lib.hid (soonF_no F S z HZ0.out k hlt)
    have HY := Lib.hid (soonF_yes F S z k hlt)
    obtain ⟨a, ha⟩ : ∃ a, S[k] = a := ⟨_, rfl⟩
    have hal : a.length ≤ maxLen := by rw [← ha]; exact hsw _ (List.getElem_mem hlt)
    rw [show S.getD k [] = a from by rw [← ha]; simp [List.getD_eq_getElem?_getD, hlt], enc_bstr] at hcell
    rw [ha] at HN HY
    have hc : wr.cell? ⟨sb, soff + k, none⟩ = some (.string (bstr a)) := hg.cell ((HB0.out.cell (p := ⟨sb, soff + k, none⟩) lb2).trans hcell) (fun e => by injection e with e; simp at e; omega)
    have hp := hsidx k hlt
    have HR := Lib.hid (runs_any ex at' b (n + k) (soonF F (S.take k) z) a hal wr hm)
    obtain ⟨r, hr⟩ : ∃ r, runF (soonF F (S.take k) z) a = r := ⟨_, rfl⟩
    have hr' : ((soonF F (S.take k) z a).getD 0 != 0) = r := hr
    rw [hr'] at HR
    clear hsidx hsc hsw ha hcell hm hg tB uS lb1 lb2 hr'
    cases r
    · have HE := Lib.hid (HN.out hr)
      clear hr HN HY
      go_wp2_with ((with_reducible refine HR.out.mono ?_); rintro e w2 ⟨rfl, hb2⟩)
      go_roundw
      case rel => exact ⟨k + 1, by omega, by go_num, by rw [HE.out]; exact (HMR.out.below hb2 HMR.out.lt).up (by omega), grown_below HG.out hb2⟩
      case measure => simp [intOf]; omega
    · have HE := Lib.hid (HY.out hr)
      clear hr HN HY
      go_wp2_with fail
      refine HR.out.mono ?_
      rintro e w2 ⟨rfl, hb2⟩
      have tB2 := TB.out.below hb2 hBr
      obtain ⟨a0', f0'⟩ := tB2.at_ 0 _ rfl
      obtain ⟨a1', f1'⟩ := tB2.at_ 1 _ rfl
      obtain ⟨a2', f2'⟩ := tB2.at_ 2 _ rfl
      have hm2 := HMR.out.below hb2 HMR.out.lt
      have hg2 := grown_below HG.out hb2
      have hmd := hm2.below (Below.drew (Below.refl w2.heap.size w2)) hm2.lt
      have hget := hmd.get a hal
      have hmin := fun ty => run_min ty ((soonF F (S.take k) z a).getD 0) z w2.drew
      obtain ⟨w3, hrun, hm3, hg3⟩ := hmd.put a hal (min ((soonF F (S.take k) z a).getD 0) z) (wf_min (hmd.wf0 a hal) HZ.out) (by unfold maxLen; omega)
      have HM3 := Lib.hid hm3; have HG3 := Lib.hid hg3; have HG2 := Lib.hid hg2
      clear hm2 hg2 hmd hm3 hg3 tB2 hb2 HR
      go_wp2_with fail
      go_region
      go_wp2_with fail
      go_roundw
      case rel => exact ⟨k + 1, by omega, by go_num, by rw [HE.out]; exact HM3.out, (grown_below HG2.out (Below.drew (Below.refl _ _))).trans HG3.out⟩
      case measure => simp [intOf]; omega
  · have HT := Lib.hid (show S.take k = S from List.take_of_length_le (by omega))
    have hk' : k = S.length := by omega
    obtain ⟨z0, _⟩ := uS.at_ 0 _ rfl
    have hmin := fun ty => run_min ty at' z wr
    have hcs := HB0.out.size
    clear hsidx hsc hsw hm hg tB uS
    have HBT := Lib.hid ((But.of_below HB0.out B b).grown HG.out (fun j e => by injection e with e; exact .inr (.inl e.symm)))
    have HMM := Lib.hid (show Mp wr b (n + S.length) (soonF F S z) from by have := HMR.out; rw [HT.out, hk'] at this; exact this)
    cases g
    · go_wp2_with fail
      go_end0
      exact ⟨rfl, TB.out, HMM.out, HBT.out⟩
    · go_wp2_with fail
      go_end0
      exact ⟨rfl, TB.out.set 1 _, HMM.out.set (fun e => hne e.symm) _, HBT.out.set (.inl rfl) _⟩

def fillF (F : Str → Option Int) (Q : List Str) (z : Int) : Str → Option Int := fun a => if Q.contains a && !runF F a then some z else F a
theorem fillF_nil (F : Str → Option Int) (z : Int) : fillF F [] z = F := by funext a; simp [fillF]
theorem fillF_at (F : Str → Option Int) (Q : List Str) (z : Int) (x : Str) : runF (fillF F Q z) x = ((if (Q.contains x && !runF F x) = true then some z else F x).getD 0 != 0) := rfl
theorem fillF_yes (F : Str → Option Int) (Q : List Str) (z : Int) (k : Nat) (h : k < Q.length) (hr : runF (fillF F (Q.take k) z) Q[k] = true) : fillF F (Q.take (k + 1)) z = fillF F (Q.take k) z := by
 funext a
 unfold fillF
 rw [mem_snoc Q a k h]
 by_cases e : a = Q[k]
 · subst e
   by_cases h2 : runF F Q[k] = true
   · simp [h2]
   · have h2' : runF F Q[k] = false := by simpa using h2
     by_cases hc : (Q.take k).contains Q[k] = true
     · rw [hc]; simp
     · have hc' : (Q.take k).contains Q[k] = false := by simpa using hc
       rw [fillF_at, hc', Bool.false_and, if_neg (by simp)] at hr
       exact absurd hr h2
 · have e' : (Q[k] == a) = false := by rw [beq_eq_false_iff_ne]; exact fun h => e h.symm
   rw [e', Bool.or_false]
theorem fillF_no (F : Str → Option Int) (Q : List Str) (z : Int) (k : Nat) (h : k < Q.length) (hr : runF (fillF F (Q.take k) z) Q[k] = false) : fillF F (Q.take (k + 1)) z = upd (fillF F (Q.take k) z) Q[k] z := by
 funext a
 unfold fillF upd
 rw [mem_snoc Q a k h]
 by_cases e : a = Q[k]
 · subst e
   by_cases h2 : runF F Q[k] = true
   · exfalso
     rw [fillF_at, h2, Bool.not_true, Bool.and_false, if_neg (by simp)] at hr
     have h3 : runF F Q[k] = false := hr
     rw [h2] at h3; cases h3
   · have h2' : runF F Q[k] = false := by simpa using h2
     simp [h2']
 · have e' : (Q[k] == a) = false := by rw [beq_eq_false_iff_ne]; exact fun h => e h.symm
   rw [e', Bool.or_false, if_neg e]

theorem rises_filter {S : List Str} (h : S.Pairwise (· < ·)) (p : Str → Bool) : Rises (fun a => S.contains a && p a) (S.filter p) :=
 ⟨h.filter _, fun a => by rw [List.mem_filter, Bool.and_eq_true, List.contains_iff_mem]⟩

theorem callOpen (args : Array Value) (w : World) : (callFunc 83 args).run Tryz.prog w = .ok (.enter 83 args) w := by kernel_rfl

theorem open_tells (ex : Bool) (at' : Int) (b n B c : Nat) (F : Str → Option Int) (a : Str) (ha : a.length ≤ maxLen) (w : World) (hc : w.cell? ⟨c, 0, none⟩ = some (.pointer (some ⟨B, 0, none⟩))) (hB : CBox w B 109 #[.bool ex, .int .i64 at', .map (some b)]) (h : Mp w b n F) :
 Calls Tryz.prog 83 #[.string (bstr a), .pointer (some ⟨c, 0, none⟩)] w fun e w' => e = .returned (.bool (!(F a == some 0))) ∧ Below w.heap.size w w' := by
 have HC := Lib.hid (blocks_any ex at' b n F a ha w h)
 obtain ⟨x0, _⟩ := hB.at_ 0 _ rfl
 obtain ⟨x1, _⟩ := hB.at_ 1 _ rfl
 obtain ⟨x2, _⟩ := hB.at_ 2 _ rfl
 obtain ⟨o, ho⟩ : ∃ o, (F a == some 0) = o := ⟨_, rfl⟩
 rw [ho] at HC ⊢
 clear hB h ho
 go_enter Tryz.func83, Tryz.ntmps83
 go_wp2_with ((with_reducible refine HC.out.mono ?_); rintro e w' ⟨rfl, hb⟩)
 go_ret
 exact ⟨rfl, hb⟩

set_option maxRecDepth 20000 in
set_option maxHeartbeats 4000000 in
theorem refuses_no (at' : Int) (b n B : Nat) (F : Str → Option Int) (kind z : Int) (sv : Value) (S : List Str) (lo : Nat) (w : World) (hB : CBox w B 109 #[.bool false, .int .i64 at', .map (some b)]) (h : Mp w b n F) (hn : n + S.length ≤ 8796093022200)
 (hS : Strs w sv S) (hr : S.Pairwise (· < ·)) (hl : Lies lo sv) (_hBl : B < lo) (_hbl : b < lo) :
 Calls Tryz.prog 55 #[.pointer (some ⟨B, 0, none⟩), .agg #[.int .i64 kind, sv, .int .i64 z]] w (RetWork w B b false at' (n + S.length) F false (fun a => S.contains a && runF F a)) := by
 obtain ⟨so, sc, rfl⟩ := hS.shape
 obtain ⟨W0, hW0⟩ : ∃ W0, W0 = ((w.alloc (.cells #[.pointer (some ⟨B, 0, none⟩)] 134)).alloc (.cells #[.int .i64 kind, .slice so S.length sc, .int .i64 z] 118)).alloc (.cells #[.bool false, .slice none 0 0] 51) := ⟨_, rfl⟩
 have hb0 : Below w.heap.size w W0 := by rw [hW0]; exact (((Below.refl _ _).alloc (Nat.le_refl _) _).alloc (by simp) _).alloc (by simp <;> omega) _
 have hs0 : W0.heap.size = w.heap.size + 3 := by rw [hW0]; simp
 have s0 : CBox W0 w.heap.size 134 #[.pointer (some ⟨B, 0, none⟩)] := by rw [hW0]; exact ((CBox.new _ rfl).old _).old _
 have s1 : CBox W0 (w.heap.size + 1) 118 #[.int .i64 kind, .slice so S.length sc, .int .i64 z] := by rw [hW0]; exact (CBox.new _ (by simp)).old _
 have s2 : CBox W0 (w.heap.size + 1 + 1) 51 #[.bool false, .slice none 0 0] := by rw [hW0]; exact CBox.new _ (by simp)
 have hne := hB.ne_mp h
 have hBw := hB.lt
 have hbw := h.lt
 have HM := Lib.hid (h.below hb0 h.lt); have HBX := Lib.hid (hB.below hb0 hB.lt); have HS := Lib.hid (hS.mono hb0)
 have HB0 := Lib.hid hb0; have HRISE := Lib.hid hr
 have hbx := hB.below hb0 hB.lt
 obtain ⟨x0, _⟩ := hbx.at_ 0 _ rfl
 obtain ⟨p0, _⟩ := s0.at_ 0 _ rfl
 obtain ⟨x1, _⟩ := hbx.at_ 1 _ rfl
 obtain ⟨x2, _⟩ := hbx.at_ 2 _ rfl
 have HK := Lib.hid (show ∀ w' cs, Below (w.heap.size + 1 + 1) W0 w' → CBox w' (w.heap.size + 1 + 1) 51 cs → w'.cell? ⟨B, 0, none⟩ = some (.bool false) ∧ w'.cell? ⟨B, 1, none⟩ = some (.int .i64 at') ∧ w'.cell? ⟨B, 2, none⟩ = some (.map (some b)) ∧ w'.cell? ⟨w.heap.size, 0, none⟩ = some (.pointer (some ⟨B, 0, none⟩)) ∧ w'.cell? ⟨w.heap.size + 1, 1, none⟩ = some (.slice so S.length sc) ∧ w'.frozen? ⟨w.heap.size + 1 + 1, 0, none⟩ = false ∧ w'.frozen? ⟨w.heap.size + 1 + 1, 1, none⟩ = false from fun w' cs hb hcs =>
  have t := hbx.below hb (by omega)
  have u := s1.below hb (by omega)
  ⟨(t.at_ 0 _ rfl).1, (t.at_ 1 _ rfl).1, (t.at_ 2 _ rfl).1, ((s0.below hb (by omega)).at_ 0 _ rfl).1, (u.at_ 1 _ rfl).1, hcs.thaw 0, hcs.thaw 1⟩)
 have HQ := Lib.hid (fun (w' : World) (hb : Below W0.heap.size W0 w') => show CBox w' (w.heap.size + 1 + 1) 51 #[.bool false, .slice none 0 0] from s2.below hb (by omega))
 have R0 := Lib.hid (Below.drew (Below.refl W0.heap.size W0))
 have HW := Lib.hid (fun (W2 : World) (h2 : Below W0.heap.size W0 W2) =>
  which_any _ S 60 #[.agg #[.bool false, .int .i64 at', .map (some b)]] #[] (runF F) W2 (HS.out.mono h2) (by omega) callRuns (fun x W hx hW => runs_any false at' b n F x hx W (HM.out.below (h2.trans (hW.mono h2.size)) HM.out.lt)))
 have HL := Lib.hid (show W0.heap.size = w.heap.size + 3 from hs0)
 have HBW := Lib.hid (show ∀ w', Below W0.heap.size W0 w' → Mp w' b n F ∧ CBox w' B 109 #[.bool false, .int .i64 at', .map (some b)] ∧ But w w' B b from fun w' h2 => ⟨HM.out.below h2 HM.out.lt, HBX.out.below h2 HBX.out.lt, But.of_below (hb0.trans (h2.mono hb0.size)) B b⟩)
 rw [hW0] at x0 x1 x2 p0 HK HQ R0 HW HBW
 clear h hB hS hl hb0 s0 s1 s2 hbx hs0 HM HS HB0 HBX HL hr
 go_enter Tryz.func55, Tryz.ntmps55
 go_wp2_with fail
 go_region_held3 (fun w' => w'.cell? ⟨B, 0, none⟩ = some (.bool false) ∧ w'.cell? ⟨B, 1, none⟩ = some (.int .i64 at') ∧ w'.cell? ⟨B, 2, none⟩ = some (.map (some b)) ∧ w'.cell? ⟨w.heap.size, 0, none⟩ = some (.pointer (some ⟨B, 0, none⟩)) ∧ w'.cell? ⟨w.heap.size + 1, 1, none⟩ = some (.slice so S.length sc) ∧ w'.frozen? ⟨w.heap.size + 1 + 1, 0, none⟩ = false ∧ w'.frozen? ⟨w.heap.size + 1 + 1, 1, none⟩ = false) (first | exact HK.out _ _ (((R1.out.mono (by simp)).setCell (by simp) _).setCell (by simp) _) (((HQ.out _ R1.out).set 0 _).set 1 _) | exact HK.out _ _ (R1.out.mono (by simp)) (HQ.out _ R1.out) | exact HK.out _ _ (R0.out.mono (by simp)) (HQ.out _ R0.out))
  (((with_reducible refine (HW.out _ R0.out).mono ?_); rintro e w3 ⟨o, rfl, ho, hb, hlo⟩; obtain ⟨oo, oc, rfl⟩ := ho.shape; have HO := Lib.hid (And.intro ho hlo); have R1 := Lib.hid (R0.out.trans (hb.mono R0.out.size)); obtain ⟨q0, q0f⟩ := (HQ.out _ R1.out).at_ 0 _ rfl; obtain ⟨q1, q1f⟩ := (HQ.out _ R1.out).at_ 1 _ rfl; clear ho hlo hb))
 all_goals
  have BX' := Lib.hid (((HQ.out _ R1.out).set 0 (.bool false)).set 1 (.slice oo (S.filter (runF F)).length oc))
  clear q0 q0f q1 q1f
  go_wp2_with fail
  have HLO := HO.out.2.mono (lo' := w.heap.size + 3) (by simp)
  have r0 := (BX'.out.at_ 0 _ rfl).1
  have r1 := (BX'.out.at_ 1 _ rfl).1
  obtain ⟨k1, k2, k3⟩ := HBW.out _ R1.out
  refine bodyPost_ret (v := .agg #[.bool false, .slice oo (S.filter (runF F)).length oc]) (by simp [results, Tryz.results55, go_sem, r0, r1]) rfl ⟨b, _, S.filter (runF F), w.heap.size + 3, rfl, ?_, rises_filter HRISE.out _, by have := List.length_filter_le (runF F) S; omega, HLO, by omega, by omega, .inl rfl, ?_, ?_, ?_⟩
  · exact (HO.out.1.far HLO (by simp) _).far HLO (by simp) _
  · exact (k2.far (by simp; omega) _).far (by simp; omega) _
  · exact ((k1.set (by simp; omega) _).set (by simp; omega) _).up (by omega)
  · exact (k3.set (.inr (by simp; omega)) _).set (.inr (by simp; omega)) _
end Go.Proofs.YtpibmjkbebkilaaGreat
