/- slices.Compact of a list that rises: the same members, each once. -/
import Derived.Test.YtmhldokaphlppaaInts
import Derived.Sort.OwnSortedInts
namespace Go.Proofs.Ytmhldokaphlppaa
open Go.RowKit Go.Lib Go.Sort

theorem compactUpTo_mem (d : Array Int) : ∀ m x, x ∈ compactUpTo d m ↔ ∃ j, j < m ∧ x = d[j]!
  | 0, x => by simp [compactUpTo]
  | m + 1, x => by
    rw [compactUpTo_succ, List.mem_append, compactUpTo_mem d m x]
    by_cases hk : keeps d m
    · rw [if_pos hk, List.mem_singleton]
      constructor
      · rintro (⟨j, hj, e⟩ | e)
        · exact ⟨j, by omega, e⟩
        · exact ⟨m, by omega, e⟩
      · rintro ⟨j, hj, e⟩
        by_cases hjm : j = m
        · subst hjm; exact .inr e
        · exact .inl ⟨j, by omega, e⟩
    · rw [if_neg hk]
      have hk' : ¬ (m = 0 ∨ d[m]! ≠ d[m - 1]!) := by simpa [keeps] using hk
      constructor
      · rintro (⟨j, hj, e⟩ | e)
        · exact ⟨j, by omega, e⟩
        · cases e
      · rintro ⟨j, hj, e⟩
        refine .inl ?_
        by_cases hjm : j = m
        · subst hjm
          refine ⟨j - 1, by omega, ?_⟩
          rw [e]
          by_cases h0 : d[j]! = d[j - 1]!
          · exact h0
          · exact absurd (.inr h0) hk'
        · exact ⟨j, by omega, e⟩

theorem compactUpTo_rises (d : Array Int) (hs : ∀ i j, i ≤ j → j < d.size → d[i]! ≤ d[j]!) : ∀ m, m ≤ d.size → (compactUpTo d m).Pairwise (· < ·)
  | 0, _ => by simp [compactUpTo]
  | m + 1, hm => by
    rw [compactUpTo_succ]
    refine List.pairwise_append.2 ⟨compactUpTo_rises d hs m (by omega), ?_, ?_⟩
    · split <;> simp
    · intro x hx y hy
      by_cases hk : keeps d m
      · rw [if_pos hk, List.mem_singleton] at hy
        subst hy
        obtain ⟨j, hj, rfl⟩ := (compactUpTo_mem d m x).1 hx
        have hk' : m = 0 ∨ d[m]! ≠ d[m - 1]! := by simpa [keeps] using hk
        have h1 := hs j (m - 1) (by omega) (by omega)
        have h2 := hs (m - 1) m (by omega) (by omega)
        rcases hk' with h | h
        · omega
        · omega
      · rw [if_neg hk] at hy; cases hy

theorem compact_mem (zs : List Int) (x : Int) : x ∈ compact zs ↔ x ∈ zs := by
  unfold compact
  rw [compactUpTo_mem]
  constructor
  · rintro ⟨j, hj, rfl⟩
    simp [hj]
  · intro h
    obtain ⟨j, hj, e⟩ := List.getElem_of_mem h
    exact ⟨j, hj, by simp [hj, e]⟩

theorem compact_rises (zs : List Int) (h : zs.Pairwise (· ≤ ·)) : (compact zs).Pairwise (· < ·) := by
  refine compactUpTo_rises _ (fun i j hij hj => ?_) _ (by simp)
  have hj' : j < zs.length := by simpa using hj
  by_cases e : i = j
  · subst e; exact Int.le_refl _
  · simp [hj', show i < zs.length by omega]
    exact List.pairwise_iff_getElem.1 h i j (by omega) hj' (by omega)

theorem sorted_le (zs : List Int) : (zs.mergeSort fun x y => decide (x ≤ y)).Pairwise (· ≤ ·) := by
  have := List.pairwise_mergeSort (le := fun (x y : Int) => decide (x ≤ y)) (fun a b c h1 h2 => by simp at *; omega) (fun a b => by simp; omega) zs
  simpa using this

theorem Ints.cutTo {w : World} {a : Addr} {cap : Nat} {L : List Int} (n : Nat) (hn : n ≤ L.length) (h : Ints w (.slice (some a) L.length cap) L) : Ints w (.slice (some a) n cap) (L.take n) := by
  obtain ⟨ao, cap', b, off, e, h0, h1, h2, h3⟩ := h
  have hl : (L.take n).length = n := by rw [List.length_take]; omega
  by_cases hz : n = 0
  · subst hz
    exact ⟨some a, cap, b, off, by simp, .inl (by simp), by simp, by simp, fun k hk => by simp at hk⟩
  · rcases h0 with h0 | h0
    · subst h0; simp at hn; omega
    · subst h0
      simp at e
      obtain ⟨rfl, rfl⟩ := e
      refine ⟨_, cap, b, off, by rw [hl], .inr rfl, by omega, fun x hx => h2 x (List.mem_of_mem_take hx), fun k hk => ?_⟩
      rw [hl] at hk
      obtain ⟨h4, h5⟩ := h3 k (by omega)
      refine ⟨h4, ?_⟩
      rw [h5]
      simp [List.getD_eq_getElem?_getD, hk]

/-- what a call has built, sorted and made compact: the whole row stays the call's own -/
theorem sorted_compact {w : World} {base : Nat} {v : Value} {L : List Int} (hrow : w.ownsRow base 3 1 v L.length (L.map (Value.int .i64))) (hl : L.length ≤ 17592186044416) (hw : ∀ x ∈ L, (Lit.int .i64 x).wf = true) :
    Calls Try.prog 14 #[v] w fun e w' => e = .returned (.tuple #[]) ∧ Calls Try.prog 15 #[v] w' fun e w'' =>
      ∃ o R, e = .returned o ∧ Ints w'' o R ∧ R.Pairwise (· < ·) ∧ (∀ x, x ∈ R ↔ x ∈ L) ∧ w.grownBy w'' v.ownBlock := by
  rcases hrow.2 with ⟨rfl, h0⟩ | ⟨g, cap, cur, rfl, hbase, hb, h1, h2, h3, h4⟩
  · rw [List.length_eq_zero_iff] at h0
    subst h0
    refine (Try.slices_Sort_int_none none 0 w).mono ?_
    rintro e w' ⟨rfl, rfl⟩
    refine ⟨rfl, (Try.slices_Compact_int_empty none 0 w').mono ?_⟩
    rintro e w'' ⟨rfl, rfl⟩
    exact ⟨_, [], rfl, Ints.nil _, by simp, by simp, ⟨rfl, rfl, rfl, Nat.le_refl _, fun _ _ _ => rfl⟩⟩
  · refine (Try.slices_Sort_int g 0 cap L w (holds_of_blockI hb (by simpa using h4)) (Array.getElem?_eq_some_iff.1 hb).1 (by omega)).mono ?_
    rintro e w' ⟨rfl, n, os, rfl⟩
    refine ⟨rfl, ?_⟩
    obtain ⟨S, hS⟩ : ∃ S, S = L.mergeSort fun x y => decide (x ≤ y) := ⟨_, rfl⟩
    have hSl : S.length = L.length := by rw [hS]; simp
    have hSm : ∀ x, x ∈ S ↔ x ∈ L := fun x => by rw [hS]; exact List.mem_mergeSort
    have hSr : S.Pairwise (· ≤ ·) := by rw [hS]; exact sorted_le L
    rw [← hS]
    have hg1 := grownBy_sortedI (n := n) (os := os) S.toArray (w := w) (g := g)
    have hown := ownsRow_sortedI (n := n) (os := os) (ts := S) hSl hbase hb h1 h2 h3
    obtain ⟨w1, hw1⟩ : ∃ w1, w1 = grow (putRow (Value.int .i64) (Sort.ahead w n) g 0 S.toArray) os := ⟨_, rfl⟩
    rw [← hw1] at hg1 hown ⊢
    rcases hown.2 with ⟨hv, _⟩ | ⟨g', cap', cur', hv, hbase', hb', h1', h2', h3', h4'⟩
    · cases hv
    · cases hv
      rw [← hSl] at h1' h4' ⊢
      refine (Try.slices_Compact_int g 0 cap S w1 (holds_of_blockI hb' (by simpa using h4')) (by omega) h1').mono ?_
      rintro e w'' ⟨rfl, q, rfl⟩
      have hcl := compact_length_le S
      have hT : (compact S ++ List.replicate (S.length - (compact S).length) 0).length = S.length := by simp; omega
      obtain ⟨T, hTe⟩ : ∃ T, T = compact S ++ List.replicate (S.length - (compact S).length) 0 := ⟨_, rfl⟩
      rw [← hTe] at hT ⊢
      have hg2 := grownBy_sortedI (n := q) (os := #[]) T.toArray (w := w1) (g := g)
      have hown2 := ownsRow_sortedI (n := q) (os := #[]) (ts := T) hT hbase' hb' h1' h2' h3'
      rw [grow_empty] at hg2 hown2
      rw [← hT] at hown2
      refine ⟨_, compact S, rfl, ?_, compact_rises S hSr, fun x => (compact_mem S x).trans (hSm x), ?_⟩
      · have hi := Ints.own hown2 (by omega) (fun x hx => by
          rw [hTe, List.mem_append] at hx
          rcases hx with hx | hx
          · exact hw x ((hSm x).1 ((compact_mem S x).1 hx))
          · rw [(List.mem_replicate.1 hx).2]; decide)
        have := hi.cutTo (compact S).length (by omega)
        have ht : T.take (compact S).length = compact S := by rw [hTe, List.take_left]
        rwa [ht] at this
      · exact hg1.andThen hg2 (fun j hj => .inr hj)
end Go.Proofs.Ytmhldokaphlppaa
