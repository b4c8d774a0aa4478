/- Texts joined into one file: TOpen2, TLawDrops, TLawTells. -/
import Derived.Test.YtpibmjkbebkilaaU26
import Derived.Test.YtpibmjkbebkilaaU25

/- Opening what came in: a table's room and times, a script, the port that goes. -/
namespace Go.Proofs.Ytpibmjkbebkilaa
open Go.ChangeShapes Go.WideShapes Go.ChangeAt Go.RowKit Go.Joins Go.Deep
set_option maxRecDepth 20000

set_option maxRecDepth 100000

theorem open_goneC {H : Type} {enc : TypeId × Value → H} {w : World} {base : Nat} {spare : Nat → Bool} {held : Bool} {fuel : Nat} {cs : List Value} {x : DataW H × List MemPlace}
    (h : DataW.trod enc Try.prog w base spare held fuel 26 cs = some x) (hsz : (DataW.weights Try.prog 26 x.1).all (· ≤ reachBytes) = true) :
    ∃ rm m l v R pt, cs = [.int .i64 rm, .int .i64 m, .int .i64 l, v, .int .i64 pt] ∧ OpsT w v R ∧ (Lit.int .i64 rm).wf = true ∧ (Lit.int .i64 m).wf = true ∧ (Lit.int .i64 l).wf = true ∧ (Lit.int .i64 pt).wf = true := by
  obtain ⟨xs, n, _, rfl, hcl, hlen, hf⟩ := DataW.trod_struct Try.underlying26 h
  match xs, hlen with
  | [y0, y1, y2, y3], _ =>
    have hc5 : cs.length = 5 := hcl.trans (by kernel_rfl)
    match cs, hc5 with
    | [c0, c1, c2, c3, c4], _ =>
      have g0 := hf 0 _ rfl
      have g1 := hf 1 _ rfl
      have g2 := hf 2 _ rfl
      have g3 := hf 3 _ rfl
      have k1 : Try.prog.cellsOf 23 = 2 := by kernel_rfl
      have k2 : Try.prog.cellsOf 24 = 1 := by kernel_rfl
      simp [cellsIt, k1, k2] at g0 g1 g2 g3
      obtain ⟨rm, e0, _, w0⟩ := DataW.trod_int Try.underlying3 g0
      obtain ⟨m, l, e1, w1, w2⟩ := open_timesT g1
      obtain ⟨v, R, e2, hR⟩ := open_topsC g2 (weights_part Try.underlying26 hsz 2 _ _ rfl rfl)
      obtain ⟨pt, e3, _, w3⟩ := DataW.trod_int Try.underlying3 g3
      simp only [List.cons.injEq, and_true] at e0 e1 e2 e3
      obtain ⟨rfl, rfl⟩ := e1
      subst e0 e2 e3
      exact ⟨rm, m, l, _, R, pt, rfl, hR, w0, w1, w2, w3⟩
theorem open_Gone {H : Type} {enc : TypeId × Value → H} {w : World} {base : Nat} {spare : Nat → Bool} {held : Bool} {r : Reach} {b0 : Nat} {v : Value} {d : DataW H} {p : List MemPlace}
    (hv : Value.okWide Try.prog w r b0 26 v) (h : DataW.Trod enc Try.prog w base spare held 26 v d p) (hsz : (DataW.weights Try.prog 26 d).all (· ≤ reachBytes) = true) :
    ∃ (rm m l : Int) (so : Option Addr) (sc : Nat) (R : List TOp) (pt : Int), v = .agg #[.int .i64 rm, .int .i64 m, .int .i64 l, .slice so R.length sc, .int .i64 pt] ∧ OpsT w (.slice so R.length sc) R ∧ (Lit.int .i64 rm).wf = true ∧ (Lit.int .i64 m).wf = true ∧ (Lit.int .i64 l).wf = true ∧ (Lit.int .i64 pt).wf = true := by
  obtain ⟨cs, rfl, _⟩ := okWide_struct Try.underlying26 hv
  obtain ⟨fuel, hf⟩ := h
  obtain ⟨rm, m, l, u, R, pt, e, hR, hw⟩ := open_goneC hf hsz
  obtain ⟨so, sc, rfl⟩ := hR.shape
  refine ⟨rm, m, l, so, sc, R, pt, ?_, hR, hw⟩
  have : cs.toList = [.int .i64 rm, .int .i64 m, .int .i64 l, .slice so R.length sc, .int .i64 pt] := e
  congr 1
  exact Array.toList_inj.1 this
end Go.Proofs.Ytpibmjkbebkilaa

/- The walk of TableDrops. -/
namespace Go.Proofs.Ytpibmjkbebkilaa
open Go.RowKit Go.Lib Go.Maps Go.Sort
set_option maxRecDepth 20000
set_option maxRecDepth 20000
attribute [local go_sem ↓] Go.wp_at_zero Go.wp_at_succ

/-- behind so many calls of a script -/
def Scr (w : World) (p b o : Nat) (room M L : Int) (k : Nat) (wr : World) : Prop :=
  ∃ F O K, Tb wr p b o k k room M L F O ∧ TInv room F K ∧ Below w.heap.size w wr

theorem key_neq (x : TK) (w : World) : (binOp .neq 46 (encT x) (encT x)).run Try.prog w = .ok (.bool false) w := by
  obtain ⟨v, g, p⟩ := x
  unfold encT
  go_simp

theorem noPort_keys {F : Tst} {K : List TK} (h : KeysS F K) (port : Int) : KeysS (noPort F port) (K.filter fun x => !(x.2.2 == port)) := by
  refine ⟨h.1.sublist List.filter_sublist, fun x => ?_⟩
  rw [List.mem_filter, h.2 x]
  unfold noPort
  by_cases e : x.2.2 = port
  · simp [e]
  · simp [e]

theorem drop_len (port : Int) (K : List TK) : dropN port K + (K.filter fun x => !(x.2.2 == port)).length = K.length := by
  unfold dropN
  induction K with
  | nil => rfl
  | cons x K ih =>
    simp only [List.filter_cons]
    cases x.2.2 == port <;> simp <;> omega

/-- the rest, as it is passed over -/
theorem rest_step {port : Int} {K : List TK} {i : Nat} (hi : i < K.length) : 
    (dropN port (K.drop i) = dropN port (K.drop (i + 1)) + if K[i].2.2 = port then 1 else 0) ∧
    (((K.take (i + 1)).filter fun x => !(x.2.2 == port)).length = ((K.take i).filter fun x => !(x.2.2 == port)).length + if K[i].2.2 = port then 0 else 1) := by
  constructor
  · unfold dropN
    rw [List.drop_eq_getElem_cons hi, List.filter_cons]
    by_cases e : K[i].2.2 = port
    · simp [e]
    · simp [e]
  · rw [List.take_succ_eq_append_getElem hi, List.filter_append]
    by_cases e : K[i].2.2 = port
    · simp [e]
    · simp [e]
theorem rest_at {port : Int} {K : List TK} {i : Nat} (hi : i < K.length) (hne : K[i].2.2 ≠ port) (q : ((K.take i).filter fun x => !(x.2.2 == port)).length < (K.filter fun x => !(x.2.2 == port)).length) :
    (K.filter fun x => !(x.2.2 == port))[((K.take i).filter fun x => !(x.2.2 == port)).length] = K[i] := by
  have e : K.filter (fun x => !(x.2.2 == port)) = (K.take i).filter (fun x => !(x.2.2 == port)) ++ (K[i] :: (K.drop (i + 1)).filter fun x => !(x.2.2 == port)) := by
    conv => lhs; rw [← List.take_append_drop i K, List.filter_append, List.drop_eq_getElem_cons hi, List.filter_cons]
    simp [hne]
  simp only [e]
  simp
theorem rest_lt {port : Int} {K : List TK} {i : Nat} (hi : i < K.length) (hne : K[i].2.2 ≠ port) : ((K.take i).filter fun x => !(x.2.2 == port)).length < (K.filter fun x => !(x.2.2 == port)).length := by
  have e : K.filter (fun x => !(x.2.2 == port)) = (K.take i).filter (fun x => !(x.2.2 == port)) ++ (K[i] :: (K.drop (i + 1)).filter fun x => !(x.2.2 == port)) := by
    conv => lhs; rw [← List.take_append_drop i K, List.filter_append, List.drop_eq_getElem_cons hi, List.filter_cons]
    simp [hne]
  rw [e]
  simp

set_option maxHeartbeats 8000000 in
theorem tdrops_no (room M L port : Int) (so : Option Addr) (sn sc : Nat) (w : World) (hf : ¬ fitsT room M L) :
    Calls Try.prog 3 #[.agg #[.int .i64 room, .int .i64 M, .int .i64 L, .slice so sn sc, .int .i64 port]] w fun e w' => e = .returned (.bool true) ∧ Below w.heap.size w w' := by
  obtain ⟨W0, hW0⟩ : ∃ W0, W0 = w.alloc (.cells #[.int .i64 room, .int .i64 M, .int .i64 L, .slice so sn sc, .int .i64 port] 26) := ⟨_, rfl⟩
  have hb0 : Below w.heap.size w W0 := by rw [hW0]; exact (Below.refl _ _).alloc (Nat.le_refl _) _
  have b0 : CBox W0 w.heap.size 26 #[.int .i64 room, .int .i64 M, .int .i64 L, .slice so sn sc, .int .i64 port] := by rw [hW0]; exact CBox.new _ rfl
  have HF := Lib.hid (show ∀ wq, Below W0.heap.size W0 wq → wq.cell? ⟨w.heap.size, 0, none⟩ = some (.int .i64 room) ∧ wq.cell? ⟨w.heap.size, 1, none⟩ = some (.int .i64 M) ∧ wq.cell? ⟨w.heap.size, 2, none⟩ = some (.int .i64 L) ∧ wq.cell? ⟨w.heap.size, 3, none⟩ = some (.slice so sn sc) ∧ wq.cell? ⟨w.heap.size, 4, none⟩ = some (.int .i64 port) from fun wq hb =>
    have c := b0.below hb b0.lt
    ⟨(c.at_ 0 _ rfl).1, (c.at_ 1 _ rfl).1, (c.at_ 2 _ rfl).1, (c.at_ 3 _ rfl).1, (c.at_ 4 _ rfl).1⟩)
  have hd : Below W0.heap.size W0 W0.drew := Below.drew (Below.refl _ _)
  have HB := Lib.hid hb0; have B := Lib.hid b0; have HW := Lib.hid hW0
  clear hb0 b0 hW0
  go_enter Try.func3, Try.ntmps3
  go_upto_region 1 with fail
  rw [← HW.out]
  refine wp_region_held_drew (S := fun W' => Below W0.heap.size W0 W') (by kernel_rfl) hd (fun hHeld => ?_)
  refine takeL 0 (v := ?_) rfl (by kernel_rfl) (by kernel_rfl) (by kernel_rfl) (fun _ _ _ h => h) (Or.inl ⟨by rfl, ?_⟩) (by assumption) ?_
  rotate_left
  focus (intro wq hSq; obtain ⟨f0, f1, f2, f3, f4⟩ := HF.out wq hSq; go_simp <;> with_reducible rfl)
  simp only [Act.put, List.setIfInBounds_toArray, List.set_cons_zero, List.set_cons_succ]
  refine takeL 1 (v := ?_) rfl (by kernel_rfl) (by kernel_rfl) (by kernel_rfl) (fun _ _ _ h => h) (Or.inl ⟨by rfl, ?_⟩) (by assumption) ?_
  rotate_left
  focus (intro wq hSq; obtain ⟨f0, f1, f2, f3, f4⟩ := HF.out wq hSq; go_simp <;> with_reducible rfl)
  simp only [Act.put, List.setIfInBounds_toArray, List.set_cons_zero, List.set_cons_succ]
  refine takeL 2 (v := ?_) rfl (by kernel_rfl) (by kernel_rfl) (by kernel_rfl) (fun _ _ _ h => h) (Or.inl ⟨by rfl, ?_⟩) (by assumption) ?_
  rotate_left
  focus (intro wq hSq; obtain ⟨f0, f1, f2, f3, f4⟩ := HF.out wq hSq; go_simp <;> with_reducible rfl)
  simp only [Act.put, List.setIfInBounds_toArray, List.set_cons_zero, List.set_cons_succ]
  refine takeL 3 (v := ?_) rfl (by kernel_rfl) (by kernel_rfl) (by kernel_rfl) (fun _ _ _ h => h) (Or.inl ⟨by rfl, ?_⟩) (by assumption) ?_
  rotate_left
  focus (intro wq hSq; obtain ⟨f0, f1, f2, f3, f4⟩ := HF.out wq hSq; go_simp <;> with_reducible rfl)
  simp only [Act.put, List.setIfInBounds_toArray, List.set_cons_zero, List.set_cons_succ]
  refine takeL 4 (v := ?_) rfl (by kernel_rfl) (by kernel_rfl) (by kernel_rfl) (fun _ _ _ h => h) (Or.inl ⟨by rfl, ?_⟩) (by assumption) ?_
  rotate_left
  focus (intro wq hSq; obtain ⟨f0, f1, f2, f3, f4⟩ := HF.out wq hSq; go_simp <;> with_reducible rfl)
  simp only [Act.put, List.setIfInBounds_toArray, List.set_cons_zero, List.set_cons_succ]
  refine takeL 5 (v := ?_) rfl (by kernel_rfl) (by kernel_rfl) (by kernel_rfl) (fun _ _ _ h => h) (Or.inl ⟨by rfl, ?_⟩) (by assumption) ?_
  rotate_left
  focus (intro wq hSq; obtain ⟨f0, f1, f2, f3, f4⟩ := HF.out wq hSq; go_simp <;> with_reducible rfl)
  simp only [Act.put, List.setIfInBounds_toArray, List.set_cons_zero, List.set_cons_succ]
  refine takeL 6 (v := ?_) rfl (by kernel_rfl) (by kernel_rfl) (by kernel_rfl) (fun _ _ _ h => h) (Or.inl ⟨by rfl, ?_⟩) (by assumption) ?_
  rotate_left
  focus (intro wq hSq; obtain ⟨f0, f1, f2, f3, f4⟩ := HF.out wq hSq; go_simp <;> with_reducible rfl)
  simp only [Act.put, List.setIfInBounds_toArray, List.set_cons_zero, List.set_cons_succ]
  refine takeL 7 (v := ?_) rfl (by kernel_rfl) (by kernel_rfl) (by kernel_rfl) (fun _ _ _ h => h) (Or.inl ⟨by rfl, ?_⟩) (by assumption) ?_
  rotate_left
  focus (intro wq hSq; obtain ⟨f0, f1, f2, f3, f4⟩ := HF.out wq hSq; go_simp <;> with_reducible rfl)
  simp only [Act.put, List.setIfInBounds_toArray, List.set_cons_zero, List.set_cons_succ]
  refine wpAnyH_ready (rs := [8]) (by kernel_rfl) (by simp) (nextL 8 rfl (fun Kr hKr => ?_) AllReadyH.nil)
  go_simp
  refine hKr.out _ _ (hd.alloc hd.size _) (fun hHeld2 => ?_)
  clear hKr hHeld
  refine takeL 9 (v := ?_) rfl (by kernel_rfl) (by kernel_rfl) (by kernel_rfl) (fun _ _ _ h => h) (Or.inl ⟨by rfl, ?_⟩) (by assumption) ?_
  rotate_left
  focus (intro wq hSq; obtain ⟨f0, f1, f2, f3, f4⟩ := HF.out wq hSq; go_simp <;> with_reducible rfl)
  simp only [Act.put, List.setIfInBounds_toArray, List.set_cons_zero, List.set_cons_succ]
  refine wpAnyH_ready (rs := [10]) (by kernel_rfl) (by simp) (nextL 10 rfl (fun Kr hKr => ?_) AllReadyH.nil)
  go_simp
  refine hKr.out _ _ (hd.alloc hd.size _) (fun hEnd => ?_)
  clear hKr hHeld2
  refine takeL 11 (v := ?_) rfl (by kernel_rfl) (by kernel_rfl) (by kernel_rfl) (fun _ _ _ h => h) (Or.inl ⟨by rfl, ?_⟩) (by assumption) ?_
  rotate_left
  focus (intro wq hSq; obtain ⟨f0, f1, f2, f3, f4⟩ := HF.out wq hSq; go_simp <;> with_reducible rfl)
  simp only [Act.put, List.setIfInBounds_toArray, List.set_cons_zero, List.set_cons_succ]
  refine takeL 12 (v := ?_) rfl (by kernel_rfl) (by kernel_rfl) (by kernel_rfl) (fun _ _ _ h => h) (Or.inl ⟨by rfl, ?_⟩) (by assumption) ?_
  rotate_left
  focus (intro wq hSq; obtain ⟨f0, f1, f2, f3, f4⟩ := HF.out wq hSq; go_simp <;> with_reducible rfl)
  simp only [Act.put, List.setIfInBounds_toArray, List.set_cons_zero, List.set_cons_succ]
  refine wpAnyH_done (by kernel_rfl) ?_ _
  obtain ⟨W1, hW1⟩ : ∃ W1, W1 = (W0.alloc (.cells #[.int .i64 M, .int .i64 L] 23)).drew := ⟨_, rfl⟩
  have b1 : CBox W1 W0.heap.size 23 #[.int .i64 M, .int .i64 L] := by rw [hW1]; exact (show CBox (W0.alloc _) _ _ _ from CBox.new _ rfl)
  rw [← hW1] at hEnd ⊢
  have HB1 := Lib.hid (HB.out.trans (hEnd.mono HB.out.size))
  have HN := Lib.hid (tnew_no room M L W1 hf)
  obtain ⟨x0, _⟩ := b1.at_ 0 _ rfl
  obtain ⟨x1, _⟩ := b1.at_ 1 _ rfl
  clear hEnd b1 hd hW1 HF B HW
  go_wp2_with fail
  refine HN.out.mono ?_
  rintro e w2 ⟨rfl, hb⟩
  have HB2 := Lib.hid (HB1.out.trans (hb.mono HB1.out.size))
  clear hb HN HB1 x0 x1
  have HL := Lib.hid (tlive_any w2)
  go_wp2_with ((with_reducible refine HL.out.mono ?_); rintro e w3 ⟨rfl, hb3⟩; have HB3 := Lib.hid hb3; clear hb3)
  go_ret
  exact ⟨rfl, HB2.out.trans (HB3.out.mono HB2.out.size)⟩
set_option maxHeartbeats 16000000 in
theorem law_tdrops (room M L port : Int) (so : Option Addr) (sc : Nat) (R : List TOp) (w : World) (h : OpsT w (.slice so R.length sc) R) :
    Calls Try.prog 3 #[.agg #[.int .i64 room, .int .i64 M, .int .i64 L, .slice so R.length sc, .int .i64 port]] w fun e w' => e = .returned (.bool true) ∧ Below w.heap.size w w' := by
  by_cases hf : ¬ fitsT room M L
  · exact tdrops_no room M L port so _ sc w hf
  replace hf : fitsT room M L := Classical.not_not.1 hf
  obtain ⟨bs, off, src, hm, hlen, hidx, hc⟩ := h.facts
  clear h
  obtain ⟨W0, hW0⟩ : ∃ W0, W0 = w.alloc (.cells #[.int .i64 room, .int .i64 M, .int .i64 L, .slice so R.length sc, .int .i64 port] 26) := ⟨_, rfl⟩
  have hb0 : Below w.heap.size w W0 := by rw [hW0]; exact (Below.refl _ _).alloc (Nat.le_refl _) _
  have b0 : CBox W0 w.heap.size 26 #[.int .i64 room, .int .i64 M, .int .i64 L, .slice so R.length sc, .int .i64 port] := by rw [hW0]; exact CBox.new _ rfl
  have HF := Lib.hid (show ∀ wq, Below W0.heap.size W0 wq → wq.cell? ⟨w.heap.size, 0, none⟩ = some (.int .i64 room) ∧ wq.cell? ⟨w.heap.size, 1, none⟩ = some (.int .i64 M) ∧ wq.cell? ⟨w.heap.size, 2, none⟩ = some (.int .i64 L) ∧ wq.cell? ⟨w.heap.size, 3, none⟩ = some (.slice so R.length sc) ∧ wq.cell? ⟨w.heap.size, 4, none⟩ = some (.int .i64 port) from fun wq hb =>
    have c := b0.below hb b0.lt
    ⟨(c.at_ 0 _ rfl).1, (c.at_ 1 _ rfl).1, (c.at_ 2 _ rfl).1, (c.at_ 3 _ rfl).1, (c.at_ 4 _ rfl).1⟩)
  have hd : Below W0.heap.size W0 W0.drew := Below.drew (Below.refl _ _)
  have HB := Lib.hid hb0; have B := Lib.hid b0; have HW := Lib.hid hW0
  clear hb0 b0 hW0
  go_enter Try.func3, Try.ntmps3
  go_upto_region 1 with fail
  rw [← HW.out]
  refine wp_region_held_drew (S := fun W' => Below W0.heap.size W0 W') (by kernel_rfl) hd (fun hHeld => ?_)
  refine takeL 0 (v := ?_) rfl (by kernel_rfl) (by kernel_rfl) (by kernel_rfl) (fun _ _ _ h => h) (Or.inl ⟨by rfl, ?_⟩) (by assumption) ?_
  rotate_left
  focus (intro wq hSq; obtain ⟨f0, f1, f2, f3, f4⟩ := HF.out wq hSq; go_simp <;> with_reducible rfl)
  simp only [Act.put, List.setIfInBounds_toArray, List.set_cons_zero, List.set_cons_succ]
  refine takeL 1 (v := ?_) rfl (by kernel_rfl) (by kernel_rfl) (by kernel_rfl) (fun _ _ _ h => h) (Or.inl ⟨by rfl, ?_⟩) (by assumption) ?_
  rotate_left
  focus (intro wq hSq; obtain ⟨f0, f1, f2, f3, f4⟩ := HF.out wq hSq; go_simp <;> with_reducible rfl)
  simp only [Act.put, List.setIfInBounds_toArray, List.set_cons_zero, List.set_cons_succ]
  refine takeL 2 (v := ?_) rfl (by kernel_rfl) (by kernel_rfl) (by kernel_rfl) (fun _ _ _ h => h) (Or.inl ⟨by rfl, ?_⟩) (by assumption) ?_
  rotate_left
  focus (intro wq hSq; obtain ⟨f0, f1, f2, f3, f4⟩ := HF.out wq hSq; go_simp <;> with_reducible rfl)
  simp only [Act.put, List.setIfInBounds_toArray, List.set_cons_zero, List.set_cons_succ]
  refine takeL 3 (v := ?_) rfl (by kernel_rfl) (by kernel_rfl) (by kernel_rfl) (fun _ _ _ h => h) (Or.inl ⟨by rfl, ?_⟩) (by assumption) ?_
  rotate_left
  focus (intro wq hSq; obtain ⟨f0, f1, f2, f3, f4⟩ := HF.out wq hSq; go_simp <;> with_reducible rfl)
  simp only [Act.put, List.setIfInBounds_toArray, List.set_cons_zero, List.set_cons_succ]
  refine takeL 4 (v := ?_) rfl (by kernel_rfl) (by kernel_rfl) (by kernel_rfl) (fun _ _ _ h => h) (Or.inl ⟨by rfl, ?_⟩) (by assumption) ?_
  rotate_left
  focus (intro wq hSq; obtain ⟨f0, f1, f2, f3, f4⟩ := HF.out wq hSq; go_simp <;> with_reducible rfl)
  simp only [Act.put, List.setIfInBounds_toArray, List.set_cons_zero, List.set_cons_succ]
  refine takeL 5 (v := ?_) rfl (by kernel_rfl) (by kernel_rfl) (by kernel_rfl) (fun _ _ _ h => h) (Or.inl ⟨by rfl, ?_⟩) (by assumption) ?_
  rotate_left
  focus (intro wq hSq; obtain ⟨f0, f1, f2, f3, f4⟩ := HF.out wq hSq; go_simp <;> with_reducible rfl)
  simp only [Act.put, List.setIfInBounds_toArray, List.set_cons_zero, List.set_cons_succ]
  refine takeL 6 (v := ?_) rfl (by kernel_rfl) (by kernel_rfl) (by kernel_rfl) (fun _ _ _ h => h) (Or.inl ⟨by rfl, ?_⟩) (by assumption) ?_
  rotate_left
  focus (intro wq hSq; obtain ⟨f0, f1, f2, f3, f4⟩ := HF.out wq hSq; go_simp <;> with_reducible rfl)
  simp only [Act.put, List.setIfInBounds_toArray, List.set_cons_zero, List.set_cons_succ]
  refine takeL 7 (v := ?_) rfl (by kernel_rfl) (by kernel_rfl) (by kernel_rfl) (fun _ _ _ h => h) (Or.inl ⟨by rfl, ?_⟩) (by assumption) ?_
  rotate_left
  focus (intro wq hSq; obtain ⟨f0, f1, f2, f3, f4⟩ := HF.out wq hSq; go_simp <;> with_reducible rfl)
  simp only [Act.put, List.setIfInBounds_toArray, List.set_cons_zero, List.set_cons_succ]
  refine wpAnyH_ready (rs := [8]) (by kernel_rfl) (by simp) (nextL 8 rfl (fun Kr hKr => ?_) AllReadyH.nil)
  go_simp
  refine hKr.out _ _ (hd.alloc hd.size _) (fun hHeld2 => ?_)
  clear hKr hHeld
  refine takeL 9 (v := ?_) rfl (by kernel_rfl) (by kernel_rfl) (by kernel_rfl) (fun _ _ _ h => h) (Or.inl ⟨by rfl, ?_⟩) (by assumption) ?_
  rotate_left
  focus (intro wq hSq; obtain ⟨f0, f1, f2, f3, f4⟩ := HF.out wq hSq; go_simp <;> with_reducible rfl)
  simp only [Act.put, List.setIfInBounds_toArray, List.set_cons_zero, List.set_cons_succ]
  refine wpAnyH_ready (rs := [10]) (by kernel_rfl) (by simp) (nextL 10 rfl (fun Kr hKr => ?_) AllReadyH.nil)
  go_simp
  refine hKr.out _ _ (hd.alloc hd.size _) (fun hEnd => ?_)
  clear hKr hHeld2
  refine takeL 11 (v := ?_) rfl (by kernel_rfl) (by kernel_rfl) (by kernel_rfl) (fun _ _ _ h => h) (Or.inl ⟨by rfl, ?_⟩) (by assumption) ?_
  rotate_left
  focus (intro wq hSq; obtain ⟨f0, f1, f2, f3, f4⟩ := HF.out wq hSq; go_simp <;> with_reducible rfl)
  simp only [Act.put, List.setIfInBounds_toArray, List.set_cons_zero, List.set_cons_succ]
  refine takeL 12 (v := ?_) rfl (by kernel_rfl) (by kernel_rfl) (by kernel_rfl) (fun _ _ _ h => h) (Or.inl ⟨by rfl, ?_⟩) (by assumption) ?_
  rotate_left
  focus (intro wq hSq; obtain ⟨f0, f1, f2, f3, f4⟩ := HF.out wq hSq; go_simp <;> with_reducible rfl)
  simp only [Act.put, List.setIfInBounds_toArray, List.set_cons_zero, List.set_cons_succ]
  refine wpAnyH_done (by kernel_rfl) ?_ _
  obtain ⟨W1, hW1⟩ : ∃ W1, W1 = (W0.alloc (.cells #[.int .i64 M, .int .i64 L] 23)).drew := ⟨_, rfl⟩
  have b1 : CBox W1 W0.heap.size 23 #[.int .i64 M, .int .i64 L] := by rw [hW1]; exact (show CBox (W0.alloc _) _ _ _ from CBox.new _ rfl)
  rw [← hW1] at hEnd ⊢
  have HB1 := Lib.hid (HB.out.trans (hEnd.mono HB.out.size))
  have HN := Lib.hid (tnew_yes room M L W1 hf)
  obtain ⟨x0, _⟩ := b1.at_ 0 _ rfl
  obtain ⟨x1, _⟩ := b1.at_ 1 _ rfl
  clear hEnd b1 hd hW1 HF B HW
  go_wp2_with fail
  refine HN.out.mono ?_
  rintro e w2 ⟨p, b, o, rfl, hT, hpb, hpo, hb⟩
  have HNE := Lib.hid (show w.heap.size ≤ b ∧ w.heap.size ≤ o from by have := HB1.out.size; omega)
  have HS0 := Lib.hid (show Scr w p b o room M L 0 w2 from ⟨_, _, [], hT, TInv.empty hf.1.1, HB1.out.trans (hb.mono HB1.out.size)⟩)
  have HR := Lib.hid hf
  clear hb hT hpb hpo HN HB1 HB hf x0 x1
  go_wp2_with fail
  go_loopw [9] (fun i wr => ∃ k, k ≤ R.length ∧ k ≤ 40 ∧ i = .int .i64 (k : Nat) ∧ Scr w p b o room M L k wr) (fun i _ => R.length - (intOf i).toNat)
  case atStart => exact ⟨0, Nat.zero_le _, Nat.zero_le _, rfl, HS0.out⟩
  case round =>
    obtain ⟨k, hk, hk40, rfl, hsc⟩ := hrel
    have HSC := Lib.hid hsc
    clear hsc HS0
    by_cases hlt : k < R.length
    · by_cases h40 : k < 40
      · obtain ⟨hlb, hcs, hok⟩ := hc k hlt
        have hp := hidx k hlt
        obtain ⟨q, hq⟩ : ∃ q, q = R.getD k default := ⟨_, rfl⟩
        rw [← hq] at hcs hok
        obtain ⟨F, O, K, hT, hI, hbr⟩ := HSC.out
        obtain ⟨ro, rc, hrs⟩ := hok.strs.shape
        obtain ⟨c0, c1, c2, c3, c4, c5, c6, c7⟩ := TOp.row hbr hlb hcs
        rw [hrs] at c5
        have HT := Lib.hid hT; have HI := Lib.hid hI; have HBR := Lib.hid hbr
        have HST := Lib.hid (show Strs wr (.slice ro q.S.length rc) q.S from hrs ▸ hok.strs.mono hbr)
        clear hidx hc hlb hcs hok hq hrs hT hI hbr HSC
        go_upto_region 11 with fail
        obtain ⟨W3, hW3⟩ : ∃ W3, W3 = wr.alloc (.cells #[.int .i64 q.d, .int .i64 q.vl, .int .i64 q.pt, .int .i64 q.kind, .string (bstr q.g), .slice ro q.S.length rc, .string (bstr q.src), .int .i64 q.now] 37) := ⟨_, rfl⟩
        have hb3 : Below wr.heap.size wr W3 := by rw [hW3]; exact (Below.refl _ _).alloc (Nat.le_refl _) _
        have HX := Lib.hid (show CBox W3 wr.heap.size 37 #[.int .i64 q.d, .int .i64 q.vl, .int .i64 q.pt, .int .i64 q.kind, .string (bstr q.g), .slice ro q.S.length rc, .string (bstr q.src), .int .i64 q.now] from by rw [hW3]; exact CBox.new _ rfl)
        have HT3 := Lib.hid (HT.out.mono hb3)
        have HRP := Lib.hid (report_all p b o k k room M L q.vl q.pt q.kind q.now q.g _ q.S F O K W3 HT3.out HI.out (HST.out.mono hb3) (by omega) (by omega))
        have HB3 := Lib.hid (HBR.out.trans (hb3.mono HBR.out.size))
        have HW3 := Lib.hid hW3
        clear hb3 hW3 HT HST HBR c0 c1 c2 c3 c4 c5 c6 c7 hp
        rw [← HW3.out]
        clear HW3
        obtain ⟨x1, _⟩ := HX.out.at_ 1 _ rfl
        obtain ⟨x2, _⟩ := HX.out.at_ 2 _ rfl
        obtain ⟨x3, _⟩ := HX.out.at_ 3 _ rfl
        obtain ⟨x4, _⟩ := HX.out.at_ 4 _ rfl
        obtain ⟨x5, _⟩ := HX.out.at_ 5 _ rfl
        obtain ⟨x7, _⟩ := HX.out.at_ 7 _ rfl
        have xl := HX.out.lt
        cases d60 : decide ((60 : Int) < (q.S.length : Int))
        · go_wp2_with fail
          refine HRP.out.mono ?_
          rintro e w4 ⟨u, f, rs, err, F', O', K', rfl, hu, hT4, hM4, hI4, _⟩
          have HNX := Lib.hid (show Scr w p b o room M L (k + 1) w4 from ⟨F', O', K', hT4, hI4, HB3.out.trans (hM4.below HB3.out.size HNE.out.1 HNE.out.2)⟩)
          clear hu hT4 hM4 hI4 HRP HX HT3 HB3 HI x1 x2 x3 x4 x5 x7 xl
          go_wp2_with fail
          go_roundw
          case rel => exact ⟨k + 1, by omega, by omega, by go_num, HNX.out⟩
          case measure => simp [intOf]; omega
        · clear HRP
          go_wp2_with fail
          refine (tlive_any _).mono ?_
          rintro e w4 ⟨rfl, hb⟩
          have HB := Lib.hid (HB3.out.trans (hb.mono HB3.out.size))
          clear hb
          go_wp2_with fail
          go_ret
          exact ⟨rfl, HB.out⟩
      · obtain rfl : k = 40 := by omega
        clear hidx hc
        go_upto_region 14 with fail
        obtain ⟨F, O, K, hT, hI, hbr⟩ := HSC.out
        have HK1 := Lib.hid (keys_fn (some ⟨p, 0, none⟩) _ F K wr ⟨hI.keys, .inr ⟨p, b, o, _, _, _, _, _, rfl, hT⟩⟩ (by omega))
        have HT := Lib.hid hT; have HI := Lib.hid hI; have HBR := Lib.hid hbr
        clear hT hI hbr HSC
        go_wp2_with fail
        refine HK1.out.mono ?_
        rintro e w4 ⟨u, rfl, hk4, _, hb4⟩
        obtain ⟨uo, uc, rfl⟩ := hk4.shape
        have hT4 := HT.out.mono hb4
        have HD := Lib.hid (drop_any p b o _ _ room M L port F O K w4 hT4 HI.out.keys (by omega))
        have HT4 := Lib.hid hT4; have HK4 := Lib.hid hk4; have HB4 := Lib.hid (HBR.out.trans (hb4.mono HBR.out.size))
        clear hT4 hk4 hb4 HK1 HT HBR
        go_wp2_with fail
        refine HD.out.mono ?_
        rintro e w5 ⟨rfl, hT5, hM5⟩
        have HK5 := Lib.hid (HK4.out.keep (HT4.out.ckeep hM5))
        have HB5 := Lib.hid (HB4.out.trans (hM5.below HB4.out.size HNE.out.1 HNE.out.2))
        have HK2 := Lib.hid (keys_fn (some ⟨p, 0, none⟩) _ (noPort F port) (K.filter fun x => !(x.2.2 == port)) w5 ⟨noPort_keys HI.out.keys port, .inr ⟨p, b, o, _, _, _, _, _, rfl, hT5⟩⟩ (by omega))
        clear hT5 hM5 HD HT4 HK4 HB4
        go_wp2_with fail
        refine HK2.out.mono ?_
        rintro e w6 ⟨u', rfl, hk6, _, hb6⟩
        obtain ⟨vo, vc, rfl⟩ := hk6.shape
        have HB6 := Lib.hid (HB5.out.trans (hb6.mono HB5.out.size))
        obtain ⟨ba, offa, hlena, hidxa, hca⟩ := (HK5.out.mono hb6).facts
        obtain ⟨bi, offi, hleni, hidxi, hci⟩ := hk6.facts
        have hKl : K.length ≤ 4096 := by have h1 := HI.out.few; have h2 := HR.out.1.2; omega
        have hDl := dropN_le port K
        clear hk6 hb6 HK2 HK5 HB5
        go_wp2_with fail
        go_loopw [12, 14, 15] (fun n q i wq => ∃ j, j ≤ K.length ∧ i = .int .i64 (j : Nat) ∧ n = .int .i64 (dropN port (K.drop j) : Nat) ∧ q = .int .i64 ((K.take j).filter fun x => !(x.2.2 == port)).length ∧ Below w6.heap.size w6 wq) (fun _ _ i _ => K.length - (intOf i).toNat)
        case atStart => exact ⟨0, Nat.zero_le _, rfl, by simp, by simp, Below.refl _ _⟩
        case round =>
          rename_i wq
          obtain ⟨j, hj, rfl, rfl, rfl, hbq⟩ := hrel
          obtain ⟨n0, hn0⟩ : ∃ n, n = dropN port (K.drop j) := ⟨_, rfl⟩
          obtain ⟨q0, hq0⟩ : ∃ q, q = ((K.take j).filter fun x => !(x.2.2 == port)).length := ⟨_, rfl⟩
          have hnl : n0 ≤ 4096 := by rw [hn0]; have := dropN_le port (K.drop j); rw [List.length_drop] at this; omega
          have hql : q0 ≤ 4096 := by rw [hq0]; have := List.length_filter_le (fun x : TK => !(x.2.2 == port)) (K.take j); rw [List.length_take] at this; omega
          rw [← hn0, ← hq0]
          by_cases hj' : j < K.length
          · obtain ⟨h1, a0, a1, a2⟩ := hca j hj'
            have hgx : K.getD j default = K[j] := by simp [List.getD_eq_getElem?_getD, hj']
            rw [hgx] at a0 a1 a2
            have a0 := (hbq.cell (p := ⟨ba, offa + j * 3, none⟩) h1).trans a0
            have a1 := (hbq.cell (p := ⟨ba, offa + j * 3 + 1, none⟩) h1).trans a1
            have a2 := (hbq.cell (p := ⟨ba, offa + j * 3 + 2, none⟩) h1).trans a2
            have hpa := hidxa j hj'
            obtain ⟨r1, r2⟩ := rest_step (port := port) hj'
            rw [← hn0] at r1
            rw [← hq0] at r2
            have HBQ := Lib.hid hbq
            by_cases he : K[j].2.2 = port
            · rw [if_pos he] at r1 r2
              have he' : decide (K[j].2.2 = port) = true := decide_eq_true he
              clear hca hidxa hci hidxi hbq hgx h1 hq0 hn0
              go_wp2_with fail
              go_roundw
              case rel => exact ⟨j + 1, by omega, by go_num, by go_num, by rw [r2]; rfl, HBQ.out⟩
              case measure => simp [intOf]; omega
            · rw [if_neg he] at r1 r2
              have he' : decide (K[j].2.2 = port) = false := decide_eq_false he
              have hlt : q0 < (K.filter fun x => !(x.2.2 == port)).length := by rw [hq0]; exact rest_lt hj' he
              obtain ⟨h2, b0, b1, b2⟩ := hci q0 hlt
              have hgy : (K.filter fun x => !(x.2.2 == port)).getD q0 default = K[j] := by
                have := rest_at (port := port) hj' he (by rw [← hq0]; exact hlt)
                simp only [← hq0] at this
                simp [List.getD_eq_getElem?_getD, hlt, this]
              rw [hgy] at b0 b1 b2
              have b0 := (hbq.cell (p := ⟨bi, offi + q0 * 3, none⟩) h2).trans b0
              have b1 := (hbq.cell (p := ⟨bi, offi + q0 * 3 + 1, none⟩) h2).trans b1
              have b2 := (hbq.cell (p := ⟨bi, offi + q0 * 3 + 2, none⟩) h2).trans b2
              have hpb := hidxi q0 hlt
              have hge : decide ((K.filter fun x => !(x.2.2 == port)).length ≤ q0) = false := decide_eq_false (by omega)
              have HKN := key_neq K[j]
              unfold encT at HKN
              have hd : Below wr.heap.size wr wr.drew := Below.drew (Below.refl _ _)
              have HF := Lib.hid (show ∀ wq, Below wr.heap.size wr wq → wq.cell? ⟨ba, offa + j * 3, none⟩ = some (.int .i64 K[j].1) ∧ wq.cell? ⟨ba, offa + j * 3 + 1, none⟩ = some (.string (bstr K[j].2.1)) ∧ wq.cell? ⟨ba, offa + j * 3 + 2, none⟩ = some (.int .i64 K[j].2.2) ∧ wq.cell? ⟨bi, offi + q0 * 3, none⟩ = some (.int .i64 K[j].1) ∧ wq.cell? ⟨bi, offi + q0 * 3 + 1, none⟩ = some (.string (bstr K[j].2.1)) ∧ wq.cell? ⟨bi, offi + q0 * 3 + 2, none⟩ = some (.int .i64 K[j].2.2) from fun wq hb =>
                have la := Nat.lt_of_lt_of_le h1 hbq.size
                have li := Nat.lt_of_lt_of_le h2 hbq.size
                ⟨(hb.cell (p := ⟨ba, offa + j * 3, none⟩) la).trans a0, (hb.cell (p := ⟨ba, offa + j * 3 + 1, none⟩) la).trans a1, (hb.cell (p := ⟨ba, offa + j * 3 + 2, none⟩) la).trans a2, (hb.cell (p := ⟨bi, offi + q0 * 3, none⟩) li).trans b0, (hb.cell (p := ⟨bi, offi + q0 * 3 + 1, none⟩) li).trans b1, (hb.cell (p := ⟨bi, offi + q0 * 3 + 2, none⟩) li).trans b2⟩)
              have HBD := Lib.hid (hbq.trans (hd.mono hbq.size))
              clear hca hidxa hci hidxi hbq hgx hgy h1 h2 hq0 hn0
              go_upto_region 23 with fail
              refine wp_region_held_drew (S := fun W' => Below wr.heap.size wr W') (by kernel_rfl) hd (fun hHeld => ?_)
              refine takeL 0 (v := ?_) rfl (by kernel_rfl) (by kernel_rfl) (by kernel_rfl) (fun _ _ _ h => h) (Or.inl ⟨by rfl, ?_⟩) (by assumption) ?_
              rotate_left
              focus (intro wq hSq; obtain ⟨f0, f1, f2, f3, f4, f5⟩ := HF.out wq hSq; go_simp <;> with_reducible rfl)
              simp only [Act.put, List.setIfInBounds_toArray, List.set_cons_zero, List.set_cons_succ]
              refine takeL 1 (v := ?_) rfl (by kernel_rfl) (by kernel_rfl) (by kernel_rfl) (fun _ _ _ h => h) (Or.inl ⟨by rfl, ?_⟩) (by assumption) ?_
              rotate_left
              focus (intro wq hSq; obtain ⟨f0, f1, f2, f3, f4, f5⟩ := HF.out wq hSq; go_simp <;> with_reducible rfl)
              simp only [Act.put, List.setIfInBounds_toArray, List.set_cons_zero, List.set_cons_succ]
              refine takeL 2 (v := ?_) rfl (by kernel_rfl) (by kernel_rfl) (by kernel_rfl) (fun _ _ _ h => h) (Or.inl ⟨by rfl, ?_⟩) (by assumption) ?_
              rotate_left
              focus (intro wq hSq; obtain ⟨f0, f1, f2, f3, f4, f5⟩ := HF.out wq hSq; go_simp <;> with_reducible rfl)
              simp only [Act.put, List.setIfInBounds_toArray, List.set_cons_zero, List.set_cons_succ]
              refine takeL 3 (v := ?_) rfl (by kernel_rfl) (by kernel_rfl) (by kernel_rfl) (fun _ _ _ h => h) (Or.inl ⟨by rfl, ?_⟩) (by assumption) ?_
              rotate_left
              focus (intro wq hSq; obtain ⟨f0, f1, f2, f3, f4, f5⟩ := HF.out wq hSq; go_simp <;> with_reducible rfl)
              simp only [Act.put, List.setIfInBounds_toArray, List.set_cons_zero, List.set_cons_succ]
              refine takeL 4 (v := ?_) rfl (by kernel_rfl) (by kernel_rfl) (by kernel_rfl) (fun _ _ _ h => h) (Or.inl ⟨by rfl, ?_⟩) (by assumption) ?_
              rotate_left
              focus (intro wq hSq; obtain ⟨f0, f1, f2, f3, f4, f5⟩ := HF.out wq hSq; go_simp <;> with_reducible rfl)
              simp only [Act.put, List.setIfInBounds_toArray, List.set_cons_zero, List.set_cons_succ]
              refine takeL 5 (v := ?_) rfl (by kernel_rfl) (by kernel_rfl) (by kernel_rfl) (fun _ _ _ h => h) (Or.inl ⟨by rfl, ?_⟩) (by assumption) ?_
              rotate_left
              focus (intro wq hSq; obtain ⟨f0, f1, f2, f3, f4, f5⟩ := HF.out wq hSq; go_simp <;> with_reducible rfl)
              simp only [Act.put, List.setIfInBounds_toArray, List.set_cons_zero, List.set_cons_succ]
              refine takeL 6 (v := ?_) rfl (by kernel_rfl) (by kernel_rfl) (by kernel_rfl) (fun _ _ _ h => h) (Or.inl ⟨by rfl, ?_⟩) (by assumption) ?_
              rotate_left
              focus (intro wq hSq; obtain ⟨f0, f1, f2, f3, f4, f5⟩ := HF.out wq hSq; go_simp <;> with_reducible rfl)
              simp only [Act.put, List.setIfInBounds_toArray, List.set_cons_zero, List.set_cons_succ]
              refine takeL 7 (v := ?_) rfl (by kernel_rfl) (by kernel_rfl) (by kernel_rfl) (fun _ _ _ h => h) (Or.inl ⟨by rfl, ?_⟩) (by assumption) ?_
              rotate_left
              focus (intro wq hSq; obtain ⟨f0, f1, f2, f3, f4, f5⟩ := HF.out wq hSq; go_simp <;> with_reducible rfl)
              simp only [Act.put, List.setIfInBounds_toArray, List.set_cons_zero, List.set_cons_succ]
              refine takeL 8 (v := ?_) rfl (by kernel_rfl) (by kernel_rfl) (by kernel_rfl) (fun _ _ _ h => h) (Or.inl ⟨by rfl, ?_⟩) (by assumption) ?_
              rotate_left
              focus (intro wq hSq; obtain ⟨f0, f1, f2, f3, f4, f5⟩ := HF.out wq hSq; go_simp <;> with_reducible rfl)
              simp only [Act.put, List.setIfInBounds_toArray, List.set_cons_zero, List.set_cons_succ]
              refine takeL 9 (v := ?_) rfl (by kernel_rfl) (by kernel_rfl) (by kernel_rfl) (fun _ _ _ h => h) (Or.inl ⟨by rfl, ?_⟩) (by assumption) ?_
              rotate_left
              focus (intro wq hSq; obtain ⟨f0, f1, f2, f3, f4, f5⟩ := HF.out wq hSq; go_simp <;> with_reducible rfl)
              simp only [Act.put, List.setIfInBounds_toArray, List.set_cons_zero, List.set_cons_succ]
              refine takeL 10 (v := ?_) rfl (by kernel_rfl) (by kernel_rfl) (by kernel_rfl) (fun _ _ _ h => h) (Or.inl ⟨by rfl, ?_⟩) (by assumption) ?_
              rotate_left
              focus (intro wq hSq; obtain ⟨f0, f1, f2, f3, f4, f5⟩ := HF.out wq hSq; go_simp <;> with_reducible rfl)
              simp only [Act.put, List.setIfInBounds_toArray, List.set_cons_zero, List.set_cons_succ]
              refine takeL 11 (v := ?_) rfl (by kernel_rfl) (by kernel_rfl) (by kernel_rfl) (fun _ _ _ h => h) (Or.inl ⟨by rfl, ?_⟩) (by assumption) ?_
              rotate_left
              focus (intro wq hSq; obtain ⟨f0, f1, f2, f3, f4, f5⟩ := HF.out wq hSq; go_simp <;> with_reducible rfl)
              simp only [Act.put, List.setIfInBounds_toArray, List.set_cons_zero, List.set_cons_succ]
              refine takeL 12 (v := ?_) rfl (by kernel_rfl) (by kernel_rfl) (by kernel_rfl) (fun _ _ _ h => h) (Or.inl ⟨by rfl, ?_⟩) (by assumption) ?_
              rotate_left
              focus (intro wq hSq; obtain ⟨f0, f1, f2, f3, f4, f5⟩ := HF.out wq hSq; go_simp <;> with_reducible rfl)
              simp only [Act.put, List.setIfInBounds_toArray, List.set_cons_zero, List.set_cons_succ]
              refine takeL 13 (v := ?_) rfl (by kernel_rfl) (by kernel_rfl) (by kernel_rfl) (fun _ _ _ h => h) (Or.inl ⟨by rfl, ?_⟩) (by assumption) ?_
              rotate_left
              focus (intro wq hSq; obtain ⟨f0, f1, f2, f3, f4, f5⟩ := HF.out wq hSq; go_simp <;> with_reducible rfl)
              simp only [Act.put, List.setIfInBounds_toArray, List.set_cons_zero, List.set_cons_succ]
              refine takeL 14 (v := ?_) rfl (by kernel_rfl) (by kernel_rfl) (by kernel_rfl) (fun _ _ _ h => h) (Or.inl ⟨by rfl, ?_⟩) (by assumption) ?_
              rotate_left
              focus (intro wq hSq; obtain ⟨f0, f1, f2, f3, f4, f5⟩ := HF.out wq hSq; go_simp <;> with_reducible rfl)
              simp only [Act.put, List.setIfInBounds_toArray, List.set_cons_zero, List.set_cons_succ]
              refine wpAnyH_done (by kernel_rfl) ?_ _
              go_wp2_with fail
              go_roundw
              case rel => exact ⟨j + 1, by omega, by go_num, by rw [show dropN port (K.drop (j + 1)) = n0 from by omega], by rw [r2]; go_num, HBD.out⟩
              case measure => simp [intOf]; omega
          · obtain rfl : j = K.length := by omega
            rw [List.drop_length] at hn0
            rw [List.take_length] at hq0
            replace hn0 : n0 = 0 := hn0
            subst hn0
            subst hq0
            have HL := Lib.hid (tlive_any wr)
            have HBX := Lib.hid (HB6.out.trans (hbq.mono HB6.out.size))
            clear hca hidxa hci hidxi hbq
            go_wp2_with ((with_reducible refine HL.out.mono ?_); rintro e w7 ⟨rfl, hb⟩; have HB7 := Lib.hid hb; clear hb)
            go_ret
            exact ⟨rfl, HBX.out.trans (HB7.out.mono HBX.out.size)⟩
    · clear hidx hc
      go_upto_region 14 with fail
      obtain ⟨F, O, K, hT, hI, hbr⟩ := HSC.out
      have HK1 := Lib.hid (keys_fn (some ⟨p, 0, none⟩) _ F K wr ⟨hI.keys, .inr ⟨p, b, o, _, _, _, _, _, rfl, hT⟩⟩ (by omega))
      have HT := Lib.hid hT; have HI := Lib.hid hI; have HBR := Lib.hid hbr
      clear hT hI hbr HSC
      go_wp2_with fail
      refine HK1.out.mono ?_
      rintro e w4 ⟨u, rfl, hk4, _, hb4⟩
      obtain ⟨uo, uc, rfl⟩ := hk4.shape
      have hT4 := HT.out.mono hb4
      have HD := Lib.hid (drop_any p b o _ _ room M L port F O K w4 hT4 HI.out.keys (by omega))
      have HT4 := Lib.hid hT4; have HK4 := Lib.hid hk4; have HB4 := Lib.hid (HBR.out.trans (hb4.mono HBR.out.size))
      clear hT4 hk4 hb4 HK1 HT HBR
      go_wp2_with fail
      refine HD.out.mono ?_
      rintro e w5 ⟨rfl, hT5, hM5⟩
      have HK5 := Lib.hid (HK4.out.keep (HT4.out.ckeep hM5))
      have HB5 := Lib.hid (HB4.out.trans (hM5.below HB4.out.size HNE.out.1 HNE.out.2))
      have HK2 := Lib.hid (keys_fn (some ⟨p, 0, none⟩) _ (noPort F port) (K.filter fun x => !(x.2.2 == port)) w5 ⟨noPort_keys HI.out.keys port, .inr ⟨p, b, o, _, _, _, _, _, rfl, hT5⟩⟩ (by omega))
      clear hT5 hM5 HD HT4 HK4 HB4
      go_wp2_with fail
      refine HK2.out.mono ?_
      rintro e w6 ⟨u', rfl, hk6, _, hb6⟩
      obtain ⟨vo, vc, rfl⟩ := hk6.shape
      have HB6 := Lib.hid (HB5.out.trans (hb6.mono HB5.out.size))
      obtain ⟨ba, offa, hlena, hidxa, hca⟩ := (HK5.out.mono hb6).facts
      obtain ⟨bi, offi, hleni, hidxi, hci⟩ := hk6.facts
      have hKl : K.length ≤ 4096 := by have h1 := HI.out.few; have h2 := HR.out.1.2; omega
      have hDl := dropN_le port K
      clear hk6 hb6 HK2 HK5 HB5
      go_wp2_with fail
      go_loopw [12, 14, 15] (fun n q i wq => ∃ j, j ≤ K.length ∧ i = .int .i64 (j : Nat) ∧ n = .int .i64 (dropN port (K.drop j) : Nat) ∧ q = .int .i64 ((K.take j).filter fun x => !(x.2.2 == port)).length ∧ Below w6.heap.size w6 wq) (fun _ _ i _ => K.length - (intOf i).toNat)
      case atStart => exact ⟨0, Nat.zero_le _, rfl, by simp, by simp, Below.refl _ _⟩
      case round =>
        rename_i wq
        obtain ⟨j, hj, rfl, rfl, rfl, hbq⟩ := hrel
        obtain ⟨n0, hn0⟩ : ∃ n, n = dropN port (K.drop j) := ⟨_, rfl⟩
        obtain ⟨q0, hq0⟩ : ∃ q, q = ((K.take j).filter fun x => !(x.2.2 == port)).length := ⟨_, rfl⟩
        have hnl : n0 ≤ 4096 := by rw [hn0]; have := dropN_le port (K.drop j); rw [List.length_drop] at this; omega
        have hql : q0 ≤ 4096 := by rw [hq0]; have := List.length_filter_le (fun x : TK => !(x.2.2 == port)) (K.take j); rw [List.length_take] at this; omega
        rw [← hn0, ← hq0]
        by_cases hj' : j < K.length
        · obtain ⟨h1, a0, a1, a2⟩ := hca j hj'
          have hgx : K.getD j default = K[j] := by simp [List.getD_eq_getElem?_getD, hj']
          rw [hgx] at a0 a1 a2
          have a0 := (hbq.cell (p := ⟨ba, offa + j * 3, none⟩) h1).trans a0
          have a1 := (hbq.cell (p := ⟨ba, offa + j * 3 + 1, none⟩) h1).trans a1
          have a2 := (hbq.cell (p := ⟨ba, offa + j * 3 + 2, none⟩) h1).trans a2
          have hpa := hidxa j hj'
          obtain ⟨r1, r2⟩ := rest_step (port := port) hj'
          rw [← hn0] at r1
          rw [← hq0] at r2
          have HBQ := Lib.hid hbq
          by_cases he : K[j].2.2 = port
          · rw [if_pos he] at r1 r2
            have he' : decide (K[j].2.2 = port) = true := decide_eq_true he
            clear hca hidxa hci hidxi hbq hgx h1 hq0 hn0
            go_wp2_with fail
            go_roundw
            case rel => exact ⟨j + 1, by omega, by go_num, by go_num, by rw [r2]; rfl, HBQ.out⟩
            case measure => simp [intOf]; omega
          · rw [if_neg he] at r1 r2
            have he' : decide (K[j].2.2 = port) = false := decide_eq_false he
            have hlt : q0 < (K.filter fun x => !(x.2.2 == port)).length := by rw [hq0]; exact rest_lt hj' he
            obtain ⟨h2, b0, b1, b2⟩ := hci q0 hlt
            have hgy : (K.filter fun x => !(x.2.2 == port)).getD q0 default = K[j] := by
              have := rest_at (port := port) hj' he (by rw [← hq0]; exact hlt)
              simp only [← hq0] at this
              simp [List.getD_eq_getElem?_getD, hlt, this]
            rw [hgy] at b0 b1 b2
            have b0 := (hbq.cell (p := ⟨bi, offi + q0 * 3, none⟩) h2).trans b0
            have b1 := (hbq.cell (p := ⟨bi, offi + q0 * 3 + 1, none⟩) h2).trans b1
            have b2 := (hbq.cell (p := ⟨bi, offi + q0 * 3 + 2, none⟩) h2).trans b2
            have hpb := hidxi q0 hlt
            have hge : decide ((K.filter fun x => !(x.2.2 == port)).length ≤ q0) = false := decide_eq_false (by omega)
            have HKN := key_neq K[j]
            unfold encT at HKN
            have hd : Below wr.heap.size wr wr.drew := Below.drew (Below.refl _ _)
            have HF := Lib.hid (show ∀ wq, Below wr.heap.size wr wq → wq.cell? ⟨ba, offa + j * 3, none⟩ = some (.int .i64 K[j].1) ∧ wq.cell? ⟨ba, offa + j * 3 + 1, none⟩ = some (.string (bstr K[j].2.1)) ∧ wq.cell? ⟨ba, offa + j * 3 + 2, none⟩ = some (.int .i64 K[j].2.2) ∧ wq.cell? ⟨bi, offi + q0 * 3, none⟩ = some (.int .i64 K[j].1) ∧ wq.cell? ⟨bi, offi + q0 * 3 + 1, none⟩ = some (.string (bstr K[j].2.1)) ∧ wq.cell? ⟨bi, offi + q0 * 3 + 2, none⟩ = some (.int .i64 K[j].2.2) from fun wq hb =>
              have la := Nat.lt_of_lt_of_le h1 hbq.size
              have li := Nat.lt_of_lt_of_le h2 hbq.size
              ⟨(hb.cell (p := ⟨ba, offa + j * 3, none⟩) la).trans a0, (hb.cell (p := ⟨ba, offa + j * 3 + 1, none⟩) la).trans a1, (hb.cell (p := ⟨ba, offa + j * 3 + 2, none⟩) la).trans a2, (hb.cell (p := ⟨bi, offi + q0 * 3, none⟩) li).trans b0, (hb.cell (p := ⟨bi, offi + q0 * 3 + 1, none⟩) li).trans b1, (hb.cell (p := ⟨bi, offi + q0 * 3 + 2, none⟩) li).trans b2⟩)
            have HBD := Lib.hid (hbq.trans (hd.mono hbq.size))
            clear hca hidxa hci hidxi hbq hgx hgy h1 h2 hq0 hn0
            go_upto_region 23 with fail
            refine wp_region_held_drew (S := fun W' => Below wr.heap.size wr W') (by kernel_rfl) hd (fun hHeld => ?_)
            refine takeL 0 (v := ?_) rfl (by kernel_rfl) (by kernel_rfl) (by kernel_rfl) (fun _ _ _ h => h) (Or.inl ⟨by rfl, ?_⟩) (by assumption) ?_
            rotate_left
            focus (intro wq hSq; obtain ⟨f0, f1, f2, f3, f4, f5⟩ := HF.out wq hSq; go_simp <;> with_reducible rfl)
            simp only [Act.put, List.setIfInBounds_toArray, List.set_cons_zero, List.set_cons_succ]
            refine takeL 1 (v := ?_) rfl (by kernel_rfl) (by kernel_rfl) (by kernel_rfl) (fun _ _ _ h => h) (Or.inl ⟨by rfl, ?_⟩) (by assumption) ?_
            rotate_left
            focus (intro wq hSq; obtain ⟨f0, f1, f2, f3, f4, f5⟩ := HF.out wq hSq; go_simp <;> with_reducible rfl)
            simp only [Act.put, List.setIfInBounds_toArray, List.set_cons_zero, List.set_cons_succ]
            refine takeL 2 (v := ?_) rfl (by kernel_rfl) (by kernel_rfl) (by kernel_rfl) (fun _ _ _ h => h) (Or.inl ⟨by rfl, ?_⟩) (by assumption) ?_
            rotate_left
            focus (intro wq hSq; obtain ⟨f0, f1, f2, f3, f4, f5⟩ := HF.out wq hSq; go_simp <;> with_reducible rfl)
            simp only [Act.put, List.setIfInBounds_toArray, List.set_cons_zero, List.set_cons_succ]
            refine takeL 3 (v := ?_) rfl (by kernel_rfl) (by kernel_rfl) (by kernel_rfl) (fun _ _ _ h => h) (Or.inl ⟨by rfl, ?_⟩) (by assumption) ?_
            rotate_left
            focus (intro wq hSq; obtain ⟨f0, f1, f2, f3, f4, f5⟩ := HF.out wq hSq; go_simp <;> with_reducible rfl)
            simp only [Act.put, List.setIfInBounds_toArray, List.set_cons_zero, List.set_cons_succ]
            refine takeL 4 (v := ?_) rfl (by kernel_rfl) (by kernel_rfl) (by kernel_rfl) (fun _ _ _ h => h) (Or.inl ⟨by rfl, ?_⟩) (by assumption) ?_
            rotate_left
            focus (intro wq hSq; obtain ⟨f0, f1, f2, f3, f4, f5⟩ := HF.out wq hSq; go_simp <;> with_reducible rfl)
            simp only [Act.put, List.setIfInBounds_toArray, List.set_cons_zero, List.set_cons_succ]
            refine takeL 5 (v := ?_) rfl (by kernel_rfl) (by kernel_rfl) (by kernel_rfl) (fun _ _ _ h => h) (Or.inl ⟨by rfl, ?_⟩) (by assumption) ?_
            rotate_left
            focus (intro wq hSq; obtain ⟨f0, f1, f2, f3, f4, f5⟩ := HF.out wq hSq; go_simp <;> with_reducible rfl)
            simp only [Act.put, List.setIfInBounds_toArray, List.set_cons_zero, List.set_cons_succ]
            refine takeL 6 (v := ?_) rfl (by kernel_rfl) (by kernel_rfl) (by kernel_rfl) (fun _ _ _ h => h) (Or.inl ⟨by rfl, ?_⟩) (by assumption) ?_
            rotate_left
            focus (intro wq hSq; obtain ⟨f0, f1, f2, f3, f4, f5⟩ := HF.out wq hSq; go_simp <;> with_reducible rfl)
            simp only [Act.put, List.setIfInBounds_toArray, List.set_cons_zero, List.set_cons_succ]
            refine takeL 7 (v := ?_) rfl (by kernel_rfl) (by kernel_rfl) (by kernel_rfl) (fun _ _ _ h => h) (Or.inl ⟨by rfl, ?_⟩) (by assumption) ?_
            rotate_left
            focus (intro wq hSq; obtain ⟨f0, f1, f2, f3, f4, f5⟩ := HF.out wq hSq; go_simp <;> with_reducible rfl)
            simp only [Act.put, List.setIfInBounds_toArray, List.set_cons_zero, List.set_cons_succ]
            refine takeL 8 (v := ?_) rfl (by kernel_rfl) (by kernel_rfl) (by kernel_rfl) (fun _ _ _ h => h) (Or.inl ⟨by rfl, ?_⟩) (by assumption) ?_
            rotate_left
            focus (intro wq hSq; obtain ⟨f0, f1, f2, f3, f4, f5⟩ := HF.out wq hSq; go_simp <;> with_reducible rfl)
            simp only [Act.put, List.setIfInBounds_toArray, List.set_cons_zero, List.set_cons_succ]
            refine takeL 9 (v := ?_) rfl (by kernel_rfl) (by kernel_rfl) (by kernel_rfl) (fun _ _ _ h => h) (Or.inl ⟨by rfl, ?_⟩) (by assumption) ?_
            rotate_left
            focus (intro wq hSq; obtain ⟨f0, f1, f2, f3, f4, f5⟩ := HF.out wq hSq; go_simp <;> with_reducible rfl)
            simp only [Act.put, List.setIfInBounds_toArray, List.set_cons_zero, List.set_cons_succ]
            refine takeL 10 (v := ?_) rfl (by kernel_rfl) (by kernel_rfl) (by kernel_rfl) (fun _ _ _ h => h) (Or.inl ⟨by rfl, ?_⟩) (by assumption) ?_
            rotate_left
            focus (intro wq hSq; obtain ⟨f0, f1, f2, f3, f4, f5⟩ := HF.out wq hSq; go_simp <;> with_reducible rfl)
            simp only [Act.put, List.setIfInBounds_toArray, List.set_cons_zero, List.set_cons_succ]
            refine takeL 11 (v := ?_) rfl (by kernel_rfl) (by kernel_rfl) (by kernel_rfl) (fun _ _ _ h => h) (Or.inl ⟨by rfl, ?_⟩) (by assumption) ?_
            rotate_left
            focus (intro wq hSq; obtain ⟨f0, f1, f2, f3, f4, f5⟩ := HF.out wq hSq; go_simp <;> with_reducible rfl)
            simp only [Act.put, List.setIfInBounds_toArray, List.set_cons_zero, List.set_cons_succ]
            refine takeL 12 (v := ?_) rfl (by kernel_rfl) (by kernel_rfl) (by kernel_rfl) (fun _ _ _ h => h) (Or.inl ⟨by rfl, ?_⟩) (by assumption) ?_
            rotate_left
            focus (intro wq hSq; obtain ⟨f0, f1, f2, f3, f4, f5⟩ := HF.out wq hSq; go_simp <;> with_reducible rfl)
            simp only [Act.put, List.setIfInBounds_toArray, List.set_cons_zero, List.set_cons_succ]
            refine takeL 13 (v := ?_) rfl (by kernel_rfl) (by kernel_rfl) (by kernel_rfl) (fun _ _ _ h => h) (Or.inl ⟨by rfl, ?_⟩) (by assumption) ?_
            rotate_left
            focus (intro wq hSq; obtain ⟨f0, f1, f2, f3, f4, f5⟩ := HF.out wq hSq; go_simp <;> with_reducible rfl)
            simp only [Act.put, List.setIfInBounds_toArray, List.set_cons_zero, List.set_cons_succ]
            refine takeL 14 (v := ?_) rfl (by kernel_rfl) (by kernel_rfl) (by kernel_rfl) (fun _ _ _ h => h) (Or.inl ⟨by rfl, ?_⟩) (by assumption) ?_
            rotate_left
            focus (intro wq hSq; obtain ⟨f0, f1, f2, f3, f4, f5⟩ := HF.out wq hSq; go_simp <;> with_reducible rfl)
            simp only [Act.put, List.setIfInBounds_toArray, List.set_cons_zero, List.set_cons_succ]
            refine wpAnyH_done (by kernel_rfl) ?_ _
            go_wp2_with fail
            go_roundw
            case rel => exact ⟨j + 1, by omega, by go_num, by rw [show dropN port (K.drop (j + 1)) = n0 from by omega], by rw [r2]; go_num, HBD.out⟩
            case measure => simp [intOf]; omega
        · obtain rfl : j = K.length := by omega
          rw [List.drop_length] at hn0
          rw [List.take_length] at hq0
          replace hn0 : n0 = 0 := hn0
          subst hn0
          subst hq0
          have HL := Lib.hid (tlive_any wr)
          have HBX := Lib.hid (HB6.out.trans (hbq.mono HB6.out.size))
          clear hca hidxa hci hidxi hbq
          go_wp2_with ((with_reducible refine HL.out.mono ?_); rintro e w7 ⟨rfl, hb⟩; have HB7 := Lib.hid hb; clear hb)
          go_ret
          exact ⟨rfl, HBX.out.trans (HB7.out.mono HBX.out.size)⟩
end Go.Proofs.Ytpibmjkbebkilaa

/- The walk of TableTells. -/
namespace Go.Proofs.Ytpibmjkbebkilaa
open Go.RowKit Go.Lib Go.Maps Go.Sort
set_option maxRecDepth 20000
set_option maxRecDepth 20000
attribute [local go_sem ↓] Go.wp_at_zero Go.wp_at_succ

theorem padm_live {s : Stt} {src : Str} {now : Int} (h : padmS s src now = true) : liveS s now = true := by
  unfold padmS padm at h
  rw [Bool.and_eq_true] at h
  obtain ⟨h1, h2⟩ := h
  unfold liveS pexp
  rw [if_pos h1]
  dsimp only
  cases hm : (s.1 && decide (now < s.2.1))
  · rw [hm] at h2
    have hA := asc_ex false now (pcheck_asc h1)
    cases hl : exL false now s.2.2
    · rw [hl] at hA
      have : exF false now (rd s.2.2) src = none := by
        have := (hA.1.2 src)
        simp at this
        exact this
      rw [this] at h2
      simp at h2
    · rfl
  · rfl
theorem tells_has {F : Tst} {K : List TK} (hK : KeysS F K) (v : Int) (g src : Str) (now p : Int) : (portsS F src now (K.filter (inOf v g))).contains p = ((F (v, g, p)).isSome && padmS (oldS F (v, g, p)) src now) := by
  rw [Bool.eq_iff_iff, List.contains_iff_mem, Bool.and_eq_true]
  unfold portsS
  rw [List.mem_map]
  constructor
  · rintro ⟨⟨xv, xg, xp⟩, hx, rfl⟩
    rw [List.mem_filter, List.mem_filter] at hx
    obtain ⟨⟨h1, h2⟩, h3⟩ := hx
    unfold inOf at h2
    simp at h2
    obtain ⟨rfl, rfl⟩ := h2
    exact ⟨Option.isSome_iff_ne_none.2 ((hK.2 _).1 h1), h3⟩
  · rintro ⟨h1, h2⟩
    exact ⟨(v, g, p), by rw [List.mem_filter, List.mem_filter]; exact ⟨⟨(hK.2 _).2 (Option.isSome_iff_ne_none.1 h1), by simp [inOf]⟩, h2⟩, rfl⟩
theorem tells_known {F : Tst} {K : List TK} (hK : KeysS F K) {v : Int} {g src : Str} {now p : Int} (h : ((F (v, g, p)).isSome && padmS (oldS F (v, g, p)) src now) = true) : ((K.filter (inOf v g)).any fun x => liveS (oldS F x) now) = true := by
  rw [Bool.and_eq_true] at h
  rw [List.any_eq_true]
  exact ⟨(v, g, p), by rw [List.mem_filter]; exact ⟨(hK.2 _).2 (Option.isSome_iff_ne_none.1 h.1), by simp [inOf]⟩, padm_live h.2⟩

set_option maxHeartbeats 8000000 in
theorem ttells_no (room M L : Int) (v : Value) (w : World) (hf : ¬ fitsT room M L) :
    Calls Try.prog 4 #[.int .i64 room, .agg #[.int .i64 M, .int .i64 L], v] w fun e w' => e = .returned (.bool true) ∧ Below w.heap.size w w' := by
  obtain ⟨W0, hW0⟩ : ∃ W0, W0 = w.alloc (.cells #[.int .i64 M, .int .i64 L] 23) := ⟨_, rfl⟩
  have hb0 : Below w.heap.size w W0 := by rw [hW0]; exact (Below.refl _ _).alloc (Nat.le_refl _) _
  have b0 : CBox W0 w.heap.size 23 #[.int .i64 M, .int .i64 L] := by rw [hW0]; exact CBox.new _ rfl
  have HN := Lib.hid (tnew_no room M L W0 hf)
  obtain ⟨x0, _⟩ := b0.at_ 0 _ rfl
  obtain ⟨x1, _⟩ := b0.at_ 1 _ rfl
  have HB1 := Lib.hid hb0; have HW := Lib.hid hW0
  clear hb0 b0 hW0
  go_enter Try.func4, Try.ntmps4
  go_upto_region 1 with fail
  rw [← HW.out]
  go_wp2_with fail
  refine HN.out.mono ?_
  rintro e w2 ⟨rfl, hb⟩
  have HB2 := Lib.hid (HB1.out.trans (hb.mono HB1.out.size))
  clear hb HN HB1 x0 x1
  have HL := Lib.hid (tlive_any w2)
  go_wp2_with ((with_reducible refine HL.out.mono ?_); rintro e w3 ⟨rfl, hb3⟩; have HB3 := Lib.hid hb3; clear hb3)
  go_ret
  exact ⟨rfl, HB2.out.trans (HB3.out.mono HB2.out.size)⟩

set_option maxHeartbeats 16000000 in
theorem law_ttells (room M L : Int) (v : Value) (R : List TOp) (w : World) (h : OpsT w v R) :
    Calls Try.prog 4 #[.int .i64 room, .agg #[.int .i64 M, .int .i64 L], v] w fun e w' => e = .returned (.bool true) ∧ Below w.heap.size w w' := by
  by_cases hf : ¬ fitsT room M L
  · exact ttells_no room M L v w hf
  replace hf : fitsT room M L := Classical.not_not.1 hf
  obtain ⟨so, sc, rfl⟩ := h.shape
  obtain ⟨bs, off, src, hm, hlen, hidx, hc⟩ := h.facts
  clear h
  obtain ⟨W0, hW0⟩ : ∃ W0, W0 = w.alloc (.cells #[.int .i64 M, .int .i64 L] 23) := ⟨_, rfl⟩
  have hb0 : Below w.heap.size w W0 := by rw [hW0]; exact (Below.refl _ _).alloc (Nat.le_refl _) _
  have b0 : CBox W0 w.heap.size 23 #[.int .i64 M, .int .i64 L] := by rw [hW0]; exact CBox.new _ rfl
  have HN := Lib.hid (tnew_yes room M L W0 hf)
  obtain ⟨x0, _⟩ := b0.at_ 0 _ rfl
  obtain ⟨x1, _⟩ := b0.at_ 1 _ rfl
  have HB1 := Lib.hid hb0; have HW := Lib.hid hW0
  clear hb0 b0 hW0
  go_enter Try.func4, Try.ntmps4
  go_upto_region 1 with fail
  rw [← HW.out]
  go_wp2_with fail
  refine HN.out.mono ?_
  rintro e w2 ⟨p, b, o, rfl, hT, hpb, hpo, hb⟩
  have HNE := Lib.hid (show w.heap.size ≤ b ∧ w.heap.size ≤ o from by have := HB1.out.size; omega)
  have HS0 := Lib.hid (show Scr w p b o room M L 0 w2 from ⟨_, _, [], hT, TInv.empty hf.1.1, HB1.out.trans (hb.mono HB1.out.size)⟩)
  have HR := Lib.hid hf
  clear hb hT hpb hpo HN HB1 hf x0 x1 HW
  go_wp2_with fail
  go_loopw [9] (fun i wr => ∃ k, k ≤ R.length ∧ k ≤ 40 ∧ i = .int .i64 (k : Nat) ∧ Scr w p b o room M L k wr) (fun i _ => R.length - (intOf i).toNat)
  case atStart => exact ⟨0, Nat.zero_le _, Nat.zero_le _, rfl, HS0.out⟩
  case round =>
    obtain ⟨k, hk, hk40, rfl, hsc⟩ := hrel
    have HSC := Lib.hid hsc
    clear hsc HS0
    by_cases hlt : k < R.length
    · by_cases h40 : k < 40
      · obtain ⟨hlb, hcs, hok⟩ := hc k hlt
        have hp := hidx k hlt
        obtain ⟨q, hq⟩ : ∃ q, q = R.getD k default := ⟨_, rfl⟩
        rw [← hq] at hcs hok
        have HQ := Lib.hid (And.intro (And.intro hok.gl hok.sl) hok.wvl)
        obtain ⟨F, O, K, hT, hI, hbr⟩ := HSC.out
        obtain ⟨ro, rc, hrs⟩ := hok.strs.shape
        obtain ⟨c0, c1, c2, c3, c4, c5, c6, c7⟩ := TOp.row hbr hlb hcs
        rw [hrs] at c5
        have HT := Lib.hid hT; have HI := Lib.hid hI; have HBR := Lib.hid hbr
        have HST := Lib.hid (show Strs wr (.slice ro q.S.length rc) q.S from hrs ▸ hok.strs.mono hbr)
        clear hidx hc hlb hcs hok hq hrs hT hI hbr HSC
        go_upto_region 10 with fail
        obtain ⟨W3, hW3⟩ : ∃ W3, W3 = wr.alloc (.cells #[.int .i64 q.d, .int .i64 q.vl, .int .i64 q.pt, .int .i64 q.kind, .string (bstr q.g), .slice ro q.S.length rc, .string (bstr q.src), .int .i64 q.now] 37) := ⟨_, rfl⟩
        have hb3 : Below wr.heap.size wr W3 := by rw [hW3]; exact (Below.refl _ _).alloc (Nat.le_refl _) _
        have HX := Lib.hid (show CBox W3 wr.heap.size 37 #[.int .i64 q.d, .int .i64 q.vl, .int .i64 q.pt, .int .i64 q.kind, .string (bstr q.g), .slice ro q.S.length rc, .string (bstr q.src), .int .i64 q.now] from by rw [hW3]; exact CBox.new _ rfl)
        have HT3 := Lib.hid (HT.out.mono hb3)
        have HRP := Lib.hid (report_all p b o k k room M L q.vl q.pt q.kind q.now q.g _ q.S F O K W3 HT3.out HI.out (HST.out.mono hb3) (by omega) (by omega))
        have HB3 := Lib.hid (HBR.out.trans (hb3.mono HBR.out.size))
        have HW3 := Lib.hid hW3
        clear hb3 hW3 HT HST HBR c0 c1 c2 c3 c4 c5 c6 c7 hp
        rw [← HW3.out]
        clear HW3
        obtain ⟨x1, _⟩ := HX.out.at_ 1 _ rfl
        obtain ⟨x2, _⟩ := HX.out.at_ 2 _ rfl
        obtain ⟨x3, _⟩ := HX.out.at_ 3 _ rfl
        obtain ⟨x4, _⟩ := HX.out.at_ 4 _ rfl
        obtain ⟨x5, _⟩ := HX.out.at_ 5 _ rfl
        obtain ⟨x7, _⟩ := HX.out.at_ 7 _ rfl
        have xl := HX.out.lt
        cases d60 : decide ((60 : Int) < (q.S.length : Int))
        · go_wp2_with fail
          refine HRP.out.mono ?_
          rintro e w4 ⟨u, f, rs, err, F', O', K', rfl, hu, hT4, hM4, hI4, _⟩
          have HX4 := Lib.hid ((HT3.out.ckeep hM4).box HX.out)
          have HT4 := Lib.hid hT4; have HI4 := Lib.hid hI4
          have HB4 := Lib.hid (HB3.out.trans (hM4.below HB3.out.size HNE.out.1 HNE.out.2))
          obtain ⟨y1, _⟩ := HX4.out.at_ 1 _ rfl
          obtain ⟨y4, _⟩ := HX4.out.at_ 4 _ rfl
          obtain ⟨y6, _⟩ := HX4.out.at_ 6 _ rfl
          obtain ⟨y7, _⟩ := HX4.out.at_ 7 _ rfl
          have HRD := Lib.hid (show ∀ W, Below w4.heap.size w4 W → TRead W (some ⟨p, 0, none⟩) (k + 1) F' K' from fun W hW => ⟨hI4.keys, .inr ⟨p, b, o, _, _, _, _, _, rfl, hT4.mono hW⟩⟩)
          have HP := Lib.hid (ports_any (some ⟨p, 0, none⟩) (k + 1) q.vl q.now q.g q.src F' K' w4 (HRD.out w4 (Below.refl _ _)) (by omega) HQ.out.1.2)
          clear hu hT4 hM4 hI4 HRP HX HT3 HB3 HI x1 x2 x3 x4 x5 x7 xl
          go_wp2_with fail
          refine HP.out.mono ?_
          rintro e w5 ⟨u5, rfl, hu5, hb5⟩
          have hI5 : Ints w5 u5 (portsS F' q.src q.now (K'.filter (inOf q.vl q.g))) := Ints.own hu5 (by
            have h1 := portsS_len F' q.src q.now (K'.filter (inOf q.vl q.g))
            have h2 := List.length_filter_le (inOf q.vl q.g) K'
            have h3 := HI4.out.few
            have h4 := HR.out.1.2
            omega) (fun x hx => by
            obtain ⟨y, hy, rfl⟩ := List.mem_map.1 hx
            obtain ⟨K2, hK2, _, hok2, _⟩ := HT4.out.keys
            have := hK2.unique HI4.out.keys
            subst this
            exact (hok2 y (List.mem_filter.1 (List.mem_filter.1 hy).1).1).2.2)
          obtain ⟨po, pc, rfl⟩ := own_form hu5
          have HI5 := Lib.hid hI5; have HB5 := Lib.hid hb5
          clear hu5 hI5 hb5 HP y1 y4 y6 y7
          go_wp2_with fail
          go_loopw [12] (fun i wq => ∃ j : Nat, j ≤ 16 ∧ i = .int .i64 (j : Nat) ∧ Below w4.heap.size w4 wq ∧ Below w5.heap.size w5 wq) (fun i _ => 16 - (intOf i).toNat)
          case atStart => exact ⟨0, by omega, rfl, HB5.out, Below.refl _ _⟩
          case round =>
            obtain ⟨j, hj, rfl, hb4q, hb5q⟩ := hrel
            by_cases hj16 : j < 16
            · have c4q := HX4.out.below hb4q HX4.out.lt
              have HXq := Lib.hid c4q
              obtain ⟨y1, _⟩ := c4q.at_ 1 _ rfl
              obtain ⟨y4, _⟩ := c4q.at_ 4 _ rfl
              have hxk : okT (q.vl, q.g, (j : Int)) := ⟨HQ.out.2, HQ.out.1.1, by simp [Lit.wf, IntKind.min, IntKind.max, IntKind.bits, IntKind.signed]; omega⟩
              have HS := Lib.hid (tstate_any p b o _ _ room M L F' O' (q.vl, q.g, (j : Int)) wr (HT4.out.mono hb4q) hxk)
              obtain ⟨⟨sa, st, sl⟩, hss⟩ : ∃ s, oldS F' (q.vl, q.g, (j : Int)) = s := ⟨_, rfl⟩
              obtain ⟨is, his⟩ : ∃ is, (F' (q.vl, q.g, (j : Int))).isSome = is := ⟨_, rfl⟩
              have hH := tells_has HI4.out.keys q.vl q.g q.src q.now (j : Int)
              have hK := fun h => tells_known (p := (j : Int)) HI4.out.keys (v := q.vl) (g := q.g) (src := q.src) (now := q.now) h
              rw [his, hss] at hH hK
              rw [his, hss] at HS
              unfold encT at HS
              dsimp only at HS
              have H4q := Lib.hid hb4q; have H5q := Lib.hid hb5q
              have HH := Lib.hid hH; have HK := Lib.hid hK
              clear hb4q hb5q c4q hxk hss his hH hK
              go_wp2_with fail
              refine HS.out.mono ?_
              rintro e w6 ⟨sv, rfl, hs6, hb6⟩
              obtain ⟨vo, vc, rfl⟩ := hs6.shape
              unfold encS
              dsimp only
              obtain ⟨W7, hW7⟩ : ∃ W7, W7 = w6.alloc (.cells #[.bool sa, .int .i64 st, .slice vo sl.length vc] 52) := ⟨_, rfl⟩
              have hb7 : Below wr.heap.size wr W7 := hb6.trans (by rw [hW7]; exact (Below.refl _ _).alloc hb6.size _)
              have hT7 : Tms W7 (.slice vo sl.length vc) sl := hs6.mono (by rw [hW7]; exact (Below.refl _ _).alloc (Nat.le_refl _) _)
              have S7 := Lib.hid (show CBox W7 w6.heap.size 52 #[.bool sa, .int .i64 st, .slice vo sl.length vc] from by rw [hW7]; exact CBox.new _ rfl)
              have HA := Lib.hid (admits_any sa st _ sl q.now q.src HQ.out.1.2 W7 hT7)
              have hx7 := HXq.out.below hb7 HXq.out.lt
              have HX7 := Lib.hid hx7
              have H47 := Lib.hid (H4q.out.trans (hb7.mono H4q.out.size))
              have H57 := Lib.hid (H5q.out.trans (hb7.mono H5q.out.size))
              have HW7 := Lib.hid hW7
              clear hb7 hT7 hW7 hs6 hb6 HS HXq H4q H5q y1 y4
              cases is
              · have hw : (portsS F' q.src q.now (K'.filter (inOf q.vl q.g))).contains (j : Int) = false := HH.out
                have HAS := Lib.hid (has_any _ _ (j : Int) W7 (HI5.out.mono H57.out))
                rw [hw] at HAS
                clear HH HK hw HA hx7
                go_upto_region 18 with fail
                rw [← HW7.out]
                go_wp2_with ((with_reducible refine HAS.out.mono ?_); rintro e w' ⟨rfl, hw'⟩; subst w')
                go_roundw
                case rel => exact ⟨j + 1, by omega, by go_num, H47.out, H57.out⟩
                case measure => simp [intOf]; omega
              · have hx7 := HX7.out
                obtain ⟨y6, _⟩ := hx7.at_ 6 _ rfl
                obtain ⟨y7, _⟩ := hx7.at_ 7 _ rfl
                obtain ⟨s0, _⟩ := S7.out.at_ 0 _ rfl
                obtain ⟨s1, _⟩ := S7.out.at_ 1 _ rfl
                obtain ⟨s2, _⟩ := S7.out.at_ 2 _ rfl
                clear hx7
                go_upto_region 18 with fail
                rw [← HW7.out]
                go_wp2_with fail
                refine HA.out.mono ?_
                rintro e w8 ⟨rfl, hb8⟩
                obtain ⟨wn, hwn⟩ : ∃ x, x = padm sa st sl q.now q.src := ⟨_, rfl⟩
                rw [← hwn]
                have hw : (portsS F' q.src q.now (K'.filter (inOf q.vl q.g))).contains (j : Int) = wn := by
                  rw [HH.out, hwn]
                  simp [padmS]
                have HAS := Lib.hid (has_any _ _ (j : Int) w8 (HI5.out.mono (H57.out.trans (hb8.mono H57.out.size))))
                rw [hw] at HAS
                have H48 := Lib.hid (H47.out.trans (hb8.mono H47.out.size))
                have H58 := Lib.hid (H57.out.trans (hb8.mono H57.out.size))
                have hx8 := HX7.out.below hb8 HX7.out.lt
                obtain ⟨z1, _⟩ := hx8.at_ 1 _ rfl
                obtain ⟨z4, _⟩ := hx8.at_ 4 _ rfl
                obtain ⟨z7, _⟩ := hx8.at_ 7 _ rfl
                have HKT := Lib.hid (show wn = true → ((K'.filter (inOf q.vl q.g)).any fun x => liveS (oldS F' x) q.now) = true from fun h => HK.out (by simp [padmS, ← hwn, h]))
                clear hx8 hb8 hw hwn HA HX7 S7 HH HK H47 H57 s0 s1 s2 y6 y7 HW7
                cases wn
                · clear HKT
                  go_wp2_with ((with_reducible refine HAS.out.mono ?_); rintro e w' ⟨rfl, hw'⟩; subst w')
                  go_roundw
                  case rel => exact ⟨j + 1, by omega, by go_num, H48.out, H58.out⟩
                  case measure => simp [intOf]; omega
                · have HKN := Lib.hid (known_any (some ⟨p, 0, none⟩) (k + 1) q.vl q.now q.g F' K' w8 (HRD.out w8 H48.out) (by omega))
                  rw [HKT.out rfl] at HKN
                  go_wp2_with ((with_reducible refine HAS.out.mono ?_); rintro e w' ⟨rfl, hw'⟩; subst w')
                  refine HKN.out.mono ?_
                  rintro e w9 ⟨rfl, hb9⟩
                  have H49 := Lib.hid (H48.out.trans (hb9.mono H48.out.size))
                  have H59 := Lib.hid (H58.out.trans (hb9.mono H58.out.size))
                  clear hb9 z1 z4 z7 HAS
                  go_wp2_with fail
                  go_roundw
                  case rel => exact ⟨j + 1, by omega, by go_num, H49.out, H59.out⟩
                  case measure => simp [intOf]; omega
            · have HEN := Lib.hid (show Scr w p b o room M L (k + 1) wr from ⟨F', O', K', HT4.out.mono hb4q, HI4.out, HB4.out.trans (hb4q.mono HB4.out.size)⟩)
              obtain rfl : j = 16 := by omega
              clear hb4q hb5q
              go_wp2_with fail
              go_roundw
              case rel => exact ⟨k + 1, by omega, by omega, by go_num, HEN.out⟩
              case measure => simp [intOf]; omega
        · clear HRP
          go_wp2_with fail
          refine (tlive_any _).mono ?_
          rintro e w4 ⟨rfl, hb⟩
          have HB := Lib.hid (HB3.out.trans (hb.mono HB3.out.size))
          clear hb
          go_wp2_with fail
          go_ret
          exact ⟨rfl, HB.out⟩
      · obtain rfl : k = 40 := by omega
        have HL := Lib.hid (tlive_any wr)
        obtain ⟨_, _, _, _, _, hbr⟩ := HSC.out
        have HBR := Lib.hid hbr
        clear hidx hc HSC hbr
        go_wp2_with ((with_reducible refine HL.out.mono ?_); rintro e w4 ⟨rfl, hb⟩; have HB := Lib.hid (HBR.out.trans (hb.mono HBR.out.size)); clear hb)
        go_ret
        exact ⟨rfl, HB.out⟩
    · have HL := Lib.hid (tlive_any wr)
      obtain ⟨_, _, _, _, _, hbr⟩ := HSC.out
      have HBR := Lib.hid hbr
      clear hidx hc HSC hbr
      go_wp2_with ((with_reducible refine HL.out.mono ?_); rintro e w4 ⟨rfl, hb⟩; have HB := Lib.hid (HBR.out.trans (hb.mono HBR.out.size)); clear hb)
      go_ret
      exact ⟨rfl, HB.out⟩
end Go.Proofs.Ytpibmjkbebkilaa
