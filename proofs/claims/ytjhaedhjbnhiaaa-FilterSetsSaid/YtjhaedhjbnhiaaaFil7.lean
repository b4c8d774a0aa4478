/- siphonlaw11.copied and same. -/
import Derived.Test.YtjhaedhjbnhiaaaFil6
namespace Go.Proofs.Ytjhaedhjbnhiaaa
open Go.RowKit Go.Lib Go.Sort

set_option maxHeartbeats 2000000 in
theorem copied_any (e1 : Bool) (v : Value) (A : List Str) (w : World) (hv : Strs w v A) :
    Calls Try.prog 11 #[.agg #[.bool e1, v]] w (RetFil w e1 A) := by
  obtain ⟨ao, cap, rfl⟩ := hv.shape
  obtain ⟨i0, hi, hz0, hz1, hz2⟩ := info_parts infoAddr
  obtain ⟨_, _, hm, _, _, _⟩ := hv.facts
  obtain ⟨W0, hW0⟩ : ∃ W0, W0 = ((w.alloc (.cells #[.bool e1, .slice ao A.length cap] 24)).alloc (.cells #[.bool false, .slice none 0 0] 24)).alloc (.cells #[.bool e1, .slice none 0 0] 24) := ⟨_, rfl⟩
  have hb0 : Below w.heap.size w W0 := by rw [hW0]; exact (((Below.refl _ _).alloc (Nat.le_refl _) _).alloc (by simp) _).alloc (by simp <;> omega) _
  have hs0 : W0.heap.size = w.heap.size + 3 := by rw [hW0]; simp
  have f1 : FBox W0 (w.heap.size + 1) false (.slice none 0 0) := by rw [hW0]; exact (FBox.new _ _ (by simp)).old _
  have f2 : FBox W0 (w.heap.size + 2) e1 (.slice none 0 0) := by rw [hW0]; exact FBox.new _ _ (by simp)
  have HV := Lib.hid (hv.mono hb0).sliceOf
  have HF := Lib.hid (And.intro f1 f2)
  have HW := Lib.hid hv.len
  have HB0 := Lib.hid hb0
  have HS := Lib.hid hs0
  have HN := Lib.hid (World.ownsRow_nil W0 W0.heap.size 25 1)
  rw [hW0] at HV HF HB0 HN HS
  clear hv hb0 hs0 f1 f2 hW0 W0
  go_enter Try.func11, Try.ntmps11
  go_wp2_with (at_builtin; refine wpList_append_vals _ rfl _ _ 22 rfl _ 25 i0 (.string ⟨#[]⟩) 1 16 Try.underlying22 hi hz0 hz1 hz2 rfl (by decide) (.slice none 0 0) 0 [] rfl HN.out _ A.length (A.map encStr) rfl HV.out (by unfold maxLen; omega) (by omega) (Nat.le_refl _) ?_; intro v1 w1 hown1 hg1 _; obtain ⟨vo, vc, rfl⟩ := own_form hown1; have hb1 := below_own (Below.refl _ _) HN.out (Nat.le_refl _) (Nat.le_refl _) hg1; rw [HS.out] at hb1 hown1; obtain ⟨x0, x1, x2, x3⟩ := (HF.out.2.below hb1 (by omega)).facts; obtain ⟨z0, z1, z2, z3⟩ := (HF.out.1.below hb1 (by omega)).facts; have HB1 := Lib.hid hb1; have HO1 := Lib.hid hown1; clear hb1 hown1 hg1)
  have y0 : (w1.setCell ⟨w.heap.size + 1 + 1, 1, none⟩ (.slice vo A.length vc)).cell? ⟨w.heap.size + 1, 0, none⟩ = some (.bool false) := (World.cell?_setCell_other w1 ⟨w.heap.size + 1 + 1, 1, none⟩ ⟨w.heap.size + 1, 0, none⟩ _ (by simp)).trans z0
  have y1 : (w1.setCell ⟨w.heap.size + 1 + 1, 1, none⟩ (.slice vo A.length vc)).cell? ⟨w.heap.size + 1, 1, none⟩ = some (.slice none 0 0) := (World.cell?_setCell_other w1 ⟨w.heap.size + 1 + 1, 1, none⟩ ⟨w.heap.size + 1, 1, none⟩ _ (by simp)).trans z1
  obtain ⟨r0, r1⟩ := cells_pair (v0 := .bool e1) (v1 := .slice vo A.length vc) y0 y1
  have hown : w1.ownsRow (w.heap.size + 3) 25 1 (.slice vo A.length vc) A.length (A.map encStr) := by simpa using HO1.out
  have hst := Strs.own hown hm HW.out
  have hli := Lies.own hown
  exact bodyPost_ret (v := .agg #[.bool e1, .slice vo A.length vc]) (by simp [results, Try.results11, go_sem, r0, r1]) rfl ⟨_, rfl, ((hst.far hli (by simp) _).far hli (by simp) _).far hli (by simp) _, HB0.out.trans ((((HB1.out.mono (by omega)).setCell (by simp <;> omega) _).setCell (by simp) _).setCell (by simp) _), hli.mono (by omega)⟩

set_option maxHeartbeats 2000000 in
theorem same_any (e1 e2 : Bool) (v u : Value) (A B : List Str) (w : World) (hv : Strs w v A) (hu : Strs w u B) :
    Calls Try.prog 15 #[.agg #[.bool e1, v], .agg #[.bool e2, u]] w fun e w' => e = .returned (.bool ((e1 == e2) && (A == B))) ∧ Below w.heap.size w w' := by
  obtain ⟨ao, cap, rfl⟩ := hv.shape
  obtain ⟨bo, bcap, rfl⟩ := hu.shape
  have hb0 : Below w.heap.size w ((w.alloc (.cells #[.bool e1, .slice ao A.length cap] 24)).alloc (.cells #[.bool e2, .slice bo B.length bcap] 24)) := ((Below.refl _ _).alloc (Nat.le_refl _) _).alloc (by simp) _
  have HC := Lib.hid (ssame_any _ _ A B _ (hv.mono hb0) (hu.mono hb0))
  have HB0 := Lib.hid hb0
  generalize (A == B) = r at HC ⊢
  clear hv hu hb0
  cases e1 <;> cases e2
  all_goals
    go_enter Try.func15, Try.ntmps15
    go_wp2_with ((with_reducible refine HC.out.mono ?_); rintro e w' ⟨rfl, nd, rfl⟩)
    go_ret
    first
    | exact ⟨ret_bool (by simp), below_draws _ HB0.out _⟩
    | exact ⟨ret_bool (by simp), HB0.out⟩
end Go.Proofs.Ytjhaedhjbnhiaaa
