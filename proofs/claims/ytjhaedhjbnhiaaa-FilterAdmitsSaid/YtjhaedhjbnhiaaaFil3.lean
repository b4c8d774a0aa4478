/- filter.Or, And, Not and Norm. -/
import Derived.Test.YtjhaedhjbnhiaaaFil2
namespace Go.Proofs.Ytjhaedhjbnhiaaa
open Go.RowKit Go.Lib Go.Sort
attribute [local go_sem ↓] Go.wp_at_zero Go.wp_at_succ

theorem heap_new (w : World) (o : Obj) (b : Nat) (h : b = w.heap.size) : (w.alloc o).heap[b]? = some o := by subst h; exact heap_alloc_new w o

/-- the box of a result that is a filter -/
theorem zbox {W0 W' : World} {B : Nat} {T : TypeId} (h : W0.heap[B]? = some (.cells #[.bool false, .slice none 0 0] T (0, 0))) (hb : Below (B + 1) W0 W') :
    W'.cell? ⟨B, 0, none⟩ = some (.bool false) ∧ W'.cell? ⟨B, 1, none⟩ = some (.slice none 0 0) ∧ W'.frozen? ⟨B, 0, none⟩ = false ∧ W'.frozen? ⟨B, 1, none⟩ = false := by
  have e := hb.block B (Nat.lt_succ_self B)
  rw [h] at e
  refine ⟨by simp [World.cell?, e], by simp [World.cell?, e], by simp [World.frozen?, e], by simp [World.frozen?, e]⟩

theorem cells_pairA {w : World} {b : Nat} {x0 x1 : Value} (h0 : w.cell? ⟨b, 0, none⟩ = some x0) (h1 : w.cell? ⟨b, 1, none⟩ = some x1) :
    (∀ v0 v1, ((w.setCell ⟨b, 0, none⟩ v0).setCell ⟨b, 1, none⟩ v1).cell? ⟨b, 0, none⟩ = some v0) ∧ (∀ v0 v1, ((w.setCell ⟨b, 0, none⟩ v0).setCell ⟨b, 1, none⟩ v1).cell? ⟨b, 1, none⟩ = some v1) :=
  ⟨fun _ _ => (cells_pair h0 h1).1, fun _ _ => (cells_pair h0 h1).2⟩

set_option maxHeartbeats 2000000 in
theorem or_any (e1 e2 : Bool) (v u : Value) (A B : List Str) (w : World) (hv : Strs w v A) (hu : Strs w u B) (hl : A.length + B.length ≤ 8796093022200) :
    Calls Try.prog 22 #[.agg #[.bool e1, v], .agg #[.bool e2, u]] w (RetFil w (e1 || e2) (sasc ((A ++ B).filter (pMade (pOr e1 A e2 B) (e1 || e2))))) := by
  obtain ⟨ao, cap, rfl⟩ := hv.shape
  obtain ⟨bo, bcap, rfl⟩ := hu.shape
  obtain ⟨W0, hW0⟩ : ∃ W0, W0 = ((w.alloc (.cells #[.bool e1, .slice ao A.length cap] 24)).alloc (.cells #[.bool e2, .slice bo B.length bcap] 24)).alloc (.cells #[.bool false, .slice none 0 0] 24) := ⟨_, rfl⟩
  have hb0 : Below w.heap.size w W0 := by rw [hW0]; exact (((Below.refl _ _).alloc (Nat.le_refl _) _).alloc (by simp) _).alloc (by simp <;> omega) _
  have hs0 : W0.heap.size = w.heap.size + 3 := by rw [hW0]; simp
  have f0 : BoxF W0 w.heap.size e1 A := ⟨_, by omega, by rw [hW0]; exact cell_alloc_old (by simp <;> omega) (cell_alloc_old (by simp) (cell_alloc_new rfl rfl)), by rw [hW0]; exact cell_alloc_old (by simp <;> omega) (cell_alloc_old (by simp) (cell_alloc_new rfl rfl)), hv.mono hb0⟩
  have f1 : BoxF W0 (w.heap.size + 1) e2 B := ⟨_, by omega, by rw [hW0]; exact cell_alloc_old (by simp <;> omega) (cell_alloc_new (by simp) rfl), by rw [hW0]; exact cell_alloc_old (by simp <;> omega) (cell_alloc_new (by simp) rfl), hu.mono hb0⟩
  have HZ := Lib.hid (fun W' (hb : Below (w.heap.size + 2 + 1) W0 W') => zbox (B := w.heap.size + 2) (T := 24) (by rw [hW0]; exact heap_new _ _ _ (by simp)) hb)
  have HC := Lib.hid (made_any e1 e2 (e1 || e2) _ _ A B 39 _ _ W0 (hv.mono hb0) (hu.mono hb0) hl callFuncOr (or_tells _ _ e1 e2 A B W0 f0 f1))
  have HB0 := Lib.hid hb0
  rw [hW0] at HC HZ HB0
  generalize sasc ((A ++ B).filter (pMade (pOr e1 A e2 B) (e1 || e2))) = R at HC ⊢
  clear hv hu f0 f1 hb0 hs0 hW0 W0
  cases e1
  all_goals
    simp only [Bool.false_or, Bool.true_or] at HC ⊢
    go_enter Try.func22, Try.ntmps22
    go_wp2_with ((with_reducible refine HC.out.mono ?_); rintro e w' ⟨o, rfl, ho, hb, hlo⟩; obtain ⟨oo, oc, rfl⟩ := ho.shape; have HB1 := Lib.hid (hb.mono (B' := w.heap.size + 2 + 1) (by simp)); have HL := Lib.hid (hlo.mono (lo' := w.heap.size + 3) (by simp)); obtain ⟨z0, z1, z2, z3⟩ := HZ.out _ HB1.out; have HH := Lib.hid ho; clear hb hlo ho; obtain ⟨r0, r1⟩ := cells_pairA (w := w') (b := w.heap.size + 1 + 1) z0 z1)
    exact bodyPost_ret (v := .agg #[.bool _, .slice oo R.length oc]) (by simp [results, Try.results22, go_sem, r0, r1]) rfl ⟨_, rfl, (HH.out.far HL.out (by simp <;> omega) _).far HL.out (by simp <;> omega) _, HB0.out.trans ((HB1.out.mono (by omega)).setCell (by simp <;> omega) _ |>.setCell (by simp <;> omega) _), HL.out.mono (by omega)⟩

set_option maxHeartbeats 2000000 in
theorem and_any (e1 e2 : Bool) (v u : Value) (A B : List Str) (w : World) (hv : Strs w v A) (hu : Strs w u B) (hl : A.length + B.length ≤ 8796093022200) :
    Calls Try.prog 23 #[.agg #[.bool e1, v], .agg #[.bool e2, u]] w (RetFil w (e1 && e2) (sasc ((A ++ B).filter (pMade (pAnd e1 A e2 B) (e1 && e2))))) := by
  obtain ⟨ao, cap, rfl⟩ := hv.shape
  obtain ⟨bo, bcap, rfl⟩ := hu.shape
  obtain ⟨W0, hW0⟩ : ∃ W0, W0 = ((w.alloc (.cells #[.bool e1, .slice ao A.length cap] 24)).alloc (.cells #[.bool e2, .slice bo B.length bcap] 24)).alloc (.cells #[.bool false, .slice none 0 0] 24) := ⟨_, rfl⟩
  have hb0 : Below w.heap.size w W0 := by rw [hW0]; exact (((Below.refl _ _).alloc (Nat.le_refl _) _).alloc (by simp) _).alloc (by simp <;> omega) _
  have hs0 : W0.heap.size = w.heap.size + 3 := by rw [hW0]; simp
  have f0 : BoxF W0 w.heap.size e1 A := ⟨_, by omega, by rw [hW0]; exact cell_alloc_old (by simp <;> omega) (cell_alloc_old (by simp) (cell_alloc_new rfl rfl)), by rw [hW0]; exact cell_alloc_old (by simp <;> omega) (cell_alloc_old (by simp) (cell_alloc_new rfl rfl)), hv.mono hb0⟩
  have f1 : BoxF W0 (w.heap.size + 1) e2 B := ⟨_, by omega, by rw [hW0]; exact cell_alloc_old (by simp <;> omega) (cell_alloc_new (by simp) rfl), by rw [hW0]; exact cell_alloc_old (by simp <;> omega) (cell_alloc_new (by simp) rfl), hu.mono hb0⟩
  have HZ := Lib.hid (fun W' (hb : Below (w.heap.size + 2 + 1) W0 W') => zbox (B := w.heap.size + 2) (T := 24) (by rw [hW0]; exact heap_new _ _ _ (by simp)) hb)
  have HC := Lib.hid (made_any e1 e2 (e1 && e2) _ _ A B 40 _ _ W0 (hv.mono hb0) (hu.mono hb0) hl callFuncAnd (and_tells _ _ e1 e2 A B W0 f0 f1))
  have HB0 := Lib.hid hb0
  rw [hW0] at HC HZ HB0
  generalize sasc ((A ++ B).filter (pMade (pAnd e1 A e2 B) (e1 && e2))) = R at HC ⊢
  clear hv hu f0 f1 hb0 hs0 hW0 W0
  cases e1
  all_goals
    simp only [Bool.false_and, Bool.true_and] at HC ⊢
    go_enter Try.func23, Try.ntmps23
    go_wp2_with ((with_reducible refine HC.out.mono ?_); rintro e w' ⟨o, rfl, ho, hb, hlo⟩; obtain ⟨oo, oc, rfl⟩ := ho.shape; have HB1 := Lib.hid (hb.mono (B' := w.heap.size + 2 + 1) (by simp)); have HL := Lib.hid (hlo.mono (lo' := w.heap.size + 3) (by simp)); obtain ⟨z0, z1, z2, z3⟩ := HZ.out _ HB1.out; have HH := Lib.hid ho; clear hb hlo ho; obtain ⟨r0, r1⟩ := cells_pairA (w := w') (b := w.heap.size + 1 + 1) z0 z1)
    exact bodyPost_ret (v := .agg #[.bool _, .slice oo R.length oc]) (by simp [results, Try.results23, go_sem, r0, r1]) rfl ⟨_, rfl, (HH.out.far HL.out (by simp <;> omega) _).far HL.out (by simp <;> omega) _, HB0.out.trans ((HB1.out.mono (by omega)).setCell (by simp <;> omega) _ |>.setCell (by simp <;> omega) _), HL.out.mono (by omega)⟩

set_option maxHeartbeats 2000000 in
theorem not_any (e1 : Bool) (v : Value) (A : List Str) (w : World) (hv : Strs w v A) (hl : A.length ≤ 8796093022200) :
    Calls Try.prog 24 #[.agg #[.bool e1, v]] w (RetFil w (!e1) (sasc (A.filter (pMade (pNot e1 A) (!e1))))) := by
  obtain ⟨ao, cap, rfl⟩ := hv.shape
  obtain ⟨W0, hW0⟩ : ∃ W0, W0 = (w.alloc (.cells #[.bool e1, .slice ao A.length cap] 24)).alloc (.cells #[.bool false, .slice none 0 0] 24) := ⟨_, rfl⟩
  have hb0 : Below w.heap.size w W0 := by rw [hW0]; exact ((Below.refl _ _).alloc (Nat.le_refl _) _).alloc (by simp) _
  have hs0 : W0.heap.size = w.heap.size + 2 := by rw [hW0]; simp
  have f0 : BoxF W0 w.heap.size e1 A := ⟨_, by omega, by rw [hW0]; exact cell_alloc_old (by simp) (cell_alloc_new rfl rfl), by rw [hW0]; exact cell_alloc_old (by simp) (cell_alloc_new rfl rfl), hv.mono hb0⟩
  have HZ := Lib.hid (fun W' (hb : Below (w.heap.size + 1 + 1) W0 W') => zbox (B := w.heap.size + 1) (T := 24) (by rw [hW0]; exact heap_new _ _ _ (by simp)) hb)
  have HC := Lib.hid (made_any e1 false (!e1) _ _ A [] 41 _ _ W0 (hv.mono hb0) (Strs.nil _) (by simpa using hl) callFuncNot (not_tells _ e1 A W0 f0))
  have HB0 := Lib.hid hb0
  rw [hW0] at HC HZ HB0
  rw [List.append_nil] at HC
  generalize sasc (A.filter (pMade (pNot e1 A) (!e1))) = R at HC ⊢
  clear hv f0 hb0 hs0 hW0 W0
  cases e1
  all_goals
    simp only [Bool.not_false, Bool.not_true] at HC ⊢
    go_enter Try.func24, Try.ntmps24
    go_wp2_with ((with_reducible refine HC.out.mono ?_); rintro e w' ⟨o, rfl, ho, hb, hlo⟩; obtain ⟨oo, oc, rfl⟩ := ho.shape; have HB1 := Lib.hid (hb.mono (B' := w.heap.size + 1 + 1) (by simp)); have HL := Lib.hid (hlo.mono (lo' := w.heap.size + 2) (by simp)); obtain ⟨z0, z1, z2, z3⟩ := HZ.out _ HB1.out; have HH := Lib.hid ho; clear hb hlo ho; obtain ⟨r0, r1⟩ := cells_pairA (w := w') (b := w.heap.size + 1) z0 z1)
    exact bodyPost_ret (v := .agg #[.bool _, .slice oo R.length oc]) (by simp [results, Try.results24, go_sem, r0, r1]) rfl ⟨_, rfl, (HH.out.far HL.out (by simp <;> omega) _).far HL.out (by simp <;> omega) _, HB0.out.trans ((HB1.out.mono (by omega)).setCell (by simp <;> omega) _ |>.setCell (by simp <;> omega) _), HL.out.mono (by omega)⟩

theorem filter_true (A : List Str) : A.filter (fun _ => true) = A := by simp

set_option maxHeartbeats 2000000 in
theorem norm_any (e1 : Bool) (v : Value) (A : List Str) (w : World) (hv : Strs w v A) (hl : A.length ≤ 8796093022200) :
    Calls Try.prog 12 #[.agg #[.bool e1, v]] w (RetFil w e1 (sasc A)) := by
  obtain ⟨ao, cap, rfl⟩ := hv.shape
  obtain ⟨W0, hW0⟩ : ∃ W0, W0 = (w.alloc (.cells #[.bool e1, .slice ao A.length cap] 24)).alloc (.cells #[.bool false, .slice none 0 0] 24) := ⟨_, rfl⟩
  have hb0 : Below w.heap.size w W0 := by rw [hW0]; exact ((Below.refl _ _).alloc (Nat.le_refl _) _).alloc (by simp) _
  have k0 : W0.cell? ⟨w.heap.size, 0, none⟩ = some (.bool e1) := by rw [hW0]; exact cell_alloc_old (by simp) (cell_alloc_new rfl rfl)
  have k1 : W0.cell? ⟨w.heap.size, 1, none⟩ = some (.slice ao A.length cap) := by rw [hW0]; exact cell_alloc_old (by simp) (cell_alloc_new rfl rfl)
  have HZ := Lib.hid (fun W' (hb : Below (w.heap.size + 1 + 1) W0 W') => zbox (B := w.heap.size + 1) (T := 24) (by rw [hW0]; exact heap_new _ _ _ (by simp)) hb)
  have HC := Lib.hid (srise_any _ _ A [] 30 #[] (fun _ => true) W0.drew ((hv.mono hb0).draws 1) (Strs.nil _) (by simpa using hl) callFuncAll (fun x W hW => all_tells _ x W hW))
  have HK := Lib.hid (show ∀ W', Below (w.heap.size + 1) W0 W' → W'.cell? ⟨w.heap.size, 0, none⟩ = some (.bool e1) ∧ W'.cell? ⟨w.heap.size, 1, none⟩ = some (.slice ao A.length cap) from fun W' hb =>
    ⟨(hb.cell (p := ⟨w.heap.size, 0, none⟩) (by simp)).trans k0, (hb.cell (p := ⟨w.heap.size, 1, none⟩) (by simp)).trans k1⟩)
  have HB0 := Lib.hid hb0
  rw [hW0] at HC HZ HB0 HK
  rw [List.append_nil, filter_true] at HC
  generalize sasc A = R at HC ⊢
  clear hv k0 k1 hb0 hW0 W0
  go_enter Try.func12, Try.ntmps12
  go_wp2
  go_region_held3 (fun w' => w'.cell? ⟨w.heap.size, 0, none⟩ = some (.bool e1) ∧ w'.cell? ⟨w.heap.size, 1, none⟩ = some (.slice ao A.length cap)) (first | exact HK.out _ (Below.drew (Below.refl _ _)) | exact HK.out _ HB2.out | exact HK.out _ ((HB2.out.setCell (by simp <;> omega) _).setCell (by simp <;> omega) _)) (((with_reducible refine HC.out.mono ?_); rintro e w' ⟨o, rfl, ho, hb, hlo⟩; obtain ⟨oo, oc, rfl⟩ := ho.shape; have HL := Lib.hid (hlo.mono (lo' := w.heap.size + 2) (by simp)); have HB1 := Lib.hid ((Below.drew (Below.refl (w.heap.size + 1 + 1) _)).trans (hb.mono (B' := w.heap.size + 1 + 1) (by simp))); have HB2 := Lib.hid (HB1.out.mono (B' := w.heap.size + 1) (by omega)); have HH := Lib.hid ho; clear hb ho hlo; obtain ⟨z0, z1, z2, z3⟩ := HZ.out _ HB1.out))
  obtain ⟨r0, r1⟩ := cells_pairA (w := w') (b := w.heap.size + 1) z0 z1
  go_wp2
  exact bodyPost_ret (v := .agg #[.bool e1, .slice oo R.length oc]) (by simp [results, Try.results12, go_sem, r0, r1]) rfl ⟨_, rfl, (HH.out.far HL.out (by simp <;> omega) _).far HL.out (by simp <;> omega) _, HB0.out.trans ((HB1.out.mono (by omega)).setCell (by simp <;> omega) _ |>.setCell (by simp <;> omega) _), HL.out.mono (by omega)⟩
end Go.Proofs.Ytjhaedhjbnhiaaa
