/- The end of all times of a state. -/
import Derived.Test.YtkphgonbbhlnfaaGPlain2
namespace Go.Proofs.Ytkphgonbbhlnfaa
open Go.RowKit Go.Lib Go.Maps Go.Sort

def maxL (a : Int) (L : List Tmd) : Int := L.foldl (fun m t => max m t.2) a
theorem maxL_snoc (a : Int) (L : List Tmd) (k : Nat) (h : k < L.length) : maxL a (L.take (k + 1)) = max (maxL a (L.take k)) L[k].2 := by
  unfold maxL; rw [take_snoc L k h, List.foldl_append]; rfl
theorem maxL_spec : ∀ (L : List Tmd) (a : Int), a ≤ maxL a L ∧ (∀ t ∈ L, t.2 ≤ maxL a L) ∧ (maxL a L = a ∨ ∃ t ∈ L, t.2 = maxL a L)
  | [], a => ⟨Int.le_refl _, by simp, .inl rfl⟩
  | t :: L, a => by
    obtain ⟨i1, i2, i3⟩ := maxL_spec L (max a t.2)
    have e : maxL a (t :: L) = maxL (max a t.2) L := rfl
    rw [e]
    refine ⟨by omega, fun u hu => ?_, ?_⟩
    · rcases List.mem_cons.1 hu with rfl | hu
      · omega
      · exact i2 u hu
    · rcases i3 with h | ⟨u, hu, h⟩
      · rw [h]
        rcases Int.le_total a t.2 with q | q
        · exact .inr ⟨t, by simp, by omega⟩
        · exact .inl (by omega)
      · exact .inr ⟨u, List.mem_cons_of_mem _ hu, h⟩
theorem maxL_ge (a : Int) (L : List Tmd) (h : 0 ≤ a) : 0 ≤ maxL a L := Int.le_trans h (maxL_spec L a).1
theorem maxL_wf (a : Int) (L : List Tmd) (h : (Lit.int .i64 a).wf = true) (hw : ∀ t ∈ L, t.1.length ≤ maxLen ∧ (Lit.int .i64 t.2).wf = true) : (Lit.int .i64 (maxL a L)).wf = true := by
  rcases (maxL_spec L a).2.2 with e | ⟨t, ht, e⟩
  · rw [e]; exact h
  · rw [← e]; exact (hw t ht).2
theorem wrap_pred {m : Int} (h0 : 0 ≤ m) (h : (Lit.int .i64 m).wf = true) : IntKind.i64.wrap (m - 1) = m - 1 := by
  refine IntWalk.i64_in _ ?_
  simp [Lit.wf, IntKind.min, IntKind.max, IntKind.bits, IntKind.signed] at h
  omega

theorem run_max (ty : TypeId) (x y : Int) (w : World) : (Builtin.max_ #[3, 3] ty #[.int .i64 x, .int .i64 y]).run Try.prog w = .ok (.int .i64 (max x y)) w := by
  have e : (if x < y then y else x) = max x y := by rw [Int.max_def]; split <;> split <;> omega
  simp [Builtin.max_, Builtin.max2, e]

theorem ends_gone {ex : Bool} {at' : Int} {L : List Tmd} {m : Int} (hp : pcheck ex at' L = true) (hm : maxL at' L = m) : (ex && decide (m < at')) = false ∧ ∀ L2, Asc (exF false m (rd L)) L2 → L2 = [] := by
  obtain ⟨h1, h2, _⟩ := maxL_spec L at'
  rw [hm] at h1 h2
  refine ⟨by simp; intro _; omega, fun L2 hA => ?_⟩
  refine asc_unique hA (asc_nil (fun a => ?_))
  cases hF : rd L a with
  | none => exact exF_none hF
  | some z =>
    obtain ⟨t, ht, rfl⟩ := List.mem_map.1 (((pcheck_asc hp).1.2 a).2 (by simp [hF]))
    have := (pcheck_asc hp).2 t ht
    rw [hF] at this
    injection this with e
    have := h2 t ht
    unfold exF
    rw [hF]
    simp
    omega

theorem ends_ahead {ex : Bool} {at' : Int} {L : List Tmd} {m : Int} (hp : pcheck ex at' L = true) (hm : maxL at' L = m) (h0 : m ≠ 0) : ∀ e2 L3, (ex && decide (m - 1 < at')) = e2 → Asc (exF e2 (m - 1) (rd L)) L3 → (e2 || !L3.isEmpty) = true := by
  intro e2 L3 he hA
  obtain ⟨p1, p2, p3, p4, p5⟩ := pcheck_iff.1 hp
  rcases (maxL_spec L at').2.2 with e | ⟨t, ht, e⟩
  · rw [hm] at e
    have hx : ex = true := p3.2 (by omega)
    subst hx
    have : e2 = true := by rw [← he]; simp; omega
    rw [this]; rfl
  · rw [hm] at e
    have hF := (pcheck_asc hp).2 t ht
    have : exF e2 (m - 1) (rd L) t.1 ≠ none := by rw [exF_run hF (by omega)]; simp
    have hm := (hA.1.2 t.1).2 this
    cases L3
    · simp at hm
    · simp
end Go.Proofs.Ytkphgonbbhlnfaa
