/- ForwardMore: the plain law. -/
import Derived.Test.YtmjpjpdgejpeeaaMoreLaws
namespace Go.Proofs.Ytmjpjpdgejpeeaa
open Go.RowKit Go.Sort

theorem lDecide_sub (port : Int) (M O R W R' W' : List Int) (lo ov re kn fl : Bool) (hR : ∀ x, x ∈ R → x ∈ R') (hW : ∀ x, x ∈ W → x ∈ W') : ∀ x ∈ lDecide port M O R W lo ov re kn fl, x ∈ lDecide port M O R' W' lo ov re kn fl := by
  intro x hx
  unfold lDecide at hx ⊢
  split at hx
  · rename_i h; rw [if_pos h]; exact hx
  · rename_i h; rw [if_neg h]
    rw [canon_mem] at hx ⊢
    refine ⟨hx.1, ?_⟩
    have := hx.2
    unfold pDecide at this ⊢
    rw [Bool.or_eq_true, Bool.and_eq_true, List.contains_iff_mem, List.contains_iff_mem] at this ⊢
    rcases this with h | ⟨h1, h2⟩
    · exact .inl (hR x h)
    · exact .inr ⟨h1, hW x h2⟩

theorem lDecide_rising (port : Int) (M O R W : List Int) (lo ov re kn fl : Bool) : (lDecide port M O R W lo ov re kn fl).Pairwise (· < ·) := by
  unfold lDecide
  split
  · exact canon_rising _ _
  · exact canon_rising _ _

/-- a rising list whose members are all of another rising one is not longer -/
theorem rising_le {A B : List Int} (ha : A.Pairwise (· < ·)) (hb : B.Pairwise (· < ·)) (h : ∀ x ∈ A, x ∈ B) : A.length ≤ B.length := by
  have e : A = B.filter (fun x => A.contains x) := rising_eq _ _ ha (hb.filter _) (fun x => by
    rw [List.mem_filter, List.contains_iff_mem]
    exact ⟨fun k => ⟨h x k, k⟩, fun k => k.2⟩)
  rw [e]
  exact List.length_filter_le _ _

/-- .. but for one -/
theorem rising_le1 {A B : List Int} {p : Int} (ha : A.Pairwise (· < ·)) (hb : B.Pairwise (· < ·)) (h : ∀ x ∈ A, x = p ∨ x ∈ B) : A.length ≤ B.length + 1 := by
  have hn : (A.filter (fun x => x == p)).length ≤ 1 := by
    have hp : (A.filter (fun x => x == p)).Pairwise (· < ·) := ha.filter _
    have := rising_le (B := [p]) hp (by simp) (fun x hx => by have := (List.mem_filter.1 hx).2; simpa using this)
    simpa using this
  have hm : (A.filter (fun x => !(x == p))).length ≤ B.length := rising_le (ha.filter _) hb (fun x hx => by
    obtain ⟨h1, h2⟩ := List.mem_filter.1 hx
    rcases h x h1 with h3 | h3
    · subst h3; simp at h2
    · exact h3)
  have hl : ∀ l : List Int, l.length = (l.filter (fun x => x == p)).length + (l.filter (fun x => !(x == p))).length := by
    intro l
    induction l with
    | nil => rfl
    | cons a l ih =>
      rw [List.length_cons, List.filter_cons, List.filter_cons]
      cases a == p <;> simp <;> omega
  rw [hl A]
  omega

theorem lDecide_more (port : Int) (M O R W : List Int) (lo ov re kn fl : Bool) (p : Int) :
    (∀ x ∈ lDecide port M O R W lo ov re kn fl, x ∈ lDecide port M O R (W ++ [p]) lo ov re kn fl ∧ x ∈ lDecide port M O (R ++ [p]) (W ++ [p]) lo ov re kn fl) ∧
      (lDecide port M O (R ++ [p]) (W ++ [p]) lo ov re kn fl).length ≤ (lDecide port M O R W lo ov re kn fl).length + 1 ∧
      (lDecide port M O R (W ++ [p]) lo ov re kn fl).length ≤ (lDecide port M O (R ++ [p]) (W ++ [p]) lo ov re kn fl).length := by
  refine ⟨fun x hx => ⟨lDecide_sub port M O R W R (W ++ [p]) lo ov re kn fl (fun _ h => h) (fun _ h => by simp [h]) x hx, lDecide_sub port M O R W (R ++ [p]) (W ++ [p]) lo ov re kn fl (fun _ h => by simp [h]) (fun _ h => by simp [h]) x hx⟩, ?_, ?_⟩
  · refine rising_le1 (p := p) (lDecide_rising ..) (lDecide_rising ..) (fun x hx => ?_)
    unfold lDecide at hx ⊢
    split at hx
    · rename_i h; rw [if_pos h]; exact .inr hx
    · rename_i h; rw [if_neg h]
      by_cases e : x = p
      · exact .inl e
      · refine .inr ?_
        rw [canon_mem] at hx ⊢
        refine ⟨hx.1, ?_⟩
        have := hx.2
        unfold pDecide at this ⊢
        rw [Bool.or_eq_true, Bool.and_eq_true, List.contains_iff_mem, List.contains_iff_mem] at this ⊢
        simpa [e] using this
  · exact rising_le (lDecide_rising ..) (lDecide_rising ..) (lDecide_sub port M O R (W ++ [p]) (R ++ [p]) (W ++ [p]) lo ov re kn fl (fun _ h => by simp [h]) (fun _ h => h))
end Go.Proofs.Ytmjpjpdgejpeeaa
