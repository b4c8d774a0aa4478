/- Plain facts on lists of strings: the rising list of all, each once. -/
import Derived.Test.YtkphgonbbhlnfaaStrs
import Derived.Lib.RowBridge
namespace Go.Proofs.Ytkphgonbbhlnfaa
open Go.RowKit Go.Sort Go.Lib

abbrev Str := List UInt8

theorem slt_irrefl (a : Str) : ¬ a < a := List.lt_irrefl a
theorem slt_trans {a b c : Str} (h : a < b) (k : b < c) : a < c := List.lt_trans h k
theorem slt_or (a b : Str) : a < b ∨ a = b ∨ b < a := by
  by_cases h : a < b
  · exact .inl h
  · by_cases k : b < a
    · exact .inr (.inr k)
    · refine .inr (.inl ?_)
      exact List.le_antisymm (List.not_lt.1 k) (List.not_lt.1 h)
theorem sle_iff (a b : Str) : a ≤ b ↔ a < b ∨ a = b := by
  constructor
  · intro h
    rcases slt_or a b with k | k | k
    · exact .inl k
    · exact .inr k
    · exact absurd k (List.not_lt.2 h)
  · rintro (h | h)
    · exact List.le_of_lt h
    · subst h; exact List.le_refl _

theorem scompactUpTo_mem (d : Array Str) : ∀ m x, x ∈ compactUpTo d m ↔ ∃ j, j < m ∧ x = d[j]!
  | 0, x => by simp [compactUpTo]
  | m + 1, x => by
    rw [compactUpTo_succ, List.mem_append, scompactUpTo_mem d m x]
    by_cases hk : keeps d m
    · rw [if_pos hk, List.mem_singleton]
      constructor
      · rintro (⟨j, hj, e⟩ | e)
        · exact ⟨j, by omega, e⟩
        · exact ⟨m, by omega, e⟩
      · rintro ⟨j, hj, e⟩
        by_cases hjm : j = m
        · subst hjm; exact .inr e
        · exact .inl ⟨j, by omega, e⟩
    · rw [if_neg hk]
      have hk' : ¬ (m = 0 ∨ d[m]! ≠ d[m - 1]!) := by simpa [keeps] using hk
      constructor
      · rintro (⟨j, hj, e⟩ | e)
        · exact ⟨j, by omega, e⟩
        · cases e
      · rintro ⟨j, hj, e⟩
        refine .inl ?_
        by_cases hjm : j = m
        · subst hjm
          refine ⟨j - 1, by omega, ?_⟩
          rw [e]
          by_cases h0 : d[j]! = d[j - 1]!
          · exact h0
          · exact absurd (.inr h0) hk'
        · exact ⟨j, by omega, e⟩

theorem scompactUpTo_rises (d : Array Str) (hs : ∀ i j, i ≤ j → j < d.size → d[i]! ≤ d[j]!) : ∀ m, m ≤ d.size → (compactUpTo d m).Pairwise (· < ·)
  | 0, _ => by simp [compactUpTo]
  | m + 1, hm => by
    rw [compactUpTo_succ]
    refine List.pairwise_append.2 ⟨scompactUpTo_rises d hs m (by omega), ?_, ?_⟩
    · split <;> simp
    · intro x hx y hy
      by_cases hk : keeps d m
      · rw [if_pos hk, List.mem_singleton] at hy
        subst hy
        obtain ⟨j, hj, rfl⟩ := (scompactUpTo_mem d m x).1 hx
        have hk' : m = 0 ∨ d[m]! ≠ d[m - 1]! := by simpa [keeps] using hk
        have h1 := hs j (m - 1) (by omega) (by omega)
        have h2 := hs (m - 1) m (by omega) (by omega)
        rcases hk' with h | h
        · omega
        · rcases (sle_iff _ _).1 h2 with h2 | h2
          · rcases (sle_iff _ _).1 h1 with h1 | h1
            · exact slt_trans h1 h2
            · rw [h1]; exact h2
          · exact absurd h2.symm h
      · rw [if_neg hk] at hy; cases hy

theorem scompact_mem (zs : List Str) (x : Str) : x ∈ compact zs ↔ x ∈ zs := by
  unfold compact
  rw [scompactUpTo_mem]
  constructor
  · rintro ⟨j, hj, rfl⟩
    simp [hj]
  · intro h
    obtain ⟨j, hj, e⟩ := List.getElem_of_mem h
    exact ⟨j, hj, by simp [hj, e]⟩

theorem scompact_rises (zs : List Str) (h : zs.Pairwise (· ≤ ·)) : (compact zs).Pairwise (· < ·) := by
  refine scompactUpTo_rises _ (fun i j hij hj => ?_) _ (by simp)
  have hj' : j < zs.length := by simpa using hj
  by_cases e : i = j
  · subst e; exact List.le_refl _
  · simp [hj', show i < zs.length by omega]
    exact List.pairwise_iff_getElem.1 h i j (by omega) hj' (by omega)

theorem ssorted_le (zs : List Str) : (zs.mergeSort fun x y => decide (x ≤ y)).Pairwise (· ≤ ·) := by
  have := List.pairwise_mergeSort (le := fun (x y : Str) => decide (x ≤ y)) (fun a b c h1 h2 => by simp at *; exact List.le_trans h1 h2) (fun a b => by simp; exact List.le_total a b) zs
  simpa using this

/-- rising lists with the same members are one -/
theorem srising_ext : ∀ {A B : List Str}, A.Pairwise (· < ·) → B.Pairwise (· < ·) → (∀ x, x ∈ A ↔ x ∈ B) → A = B
  | [], [], _, _, _ => rfl
  | [], b :: s, _, _, h => by have := (h b).2 (by simp); simp at this
  | a :: r, [], _, _, h => by have := (h a).1 (by simp); simp at this
  | a :: r, b :: s, h1, h2, h => by
    obtain ⟨a1, a2⟩ := List.pairwise_cons.1 h1
    obtain ⟨b1, b2⟩ := List.pairwise_cons.1 h2
    have hab : a = b := by
      rcases List.mem_cons.1 ((h a).1 (by simp)) with e | ha
      · exact e
      · rcases List.mem_cons.1 ((h b).2 (by simp)) with e | hb
        · exact e.symm
        · exact absurd (slt_trans (a1 b hb) (b1 a ha)) (slt_irrefl a)
    subst hab
    rw [srising_ext a2 b2 (fun p => ⟨fun hp => by
      rcases List.mem_cons.1 ((h p).1 (by simp [hp])) with e | hp'
      · exact absurd (e ▸ a1 p hp) (slt_irrefl a)
      · exact hp', fun hp => by
      rcases List.mem_cons.1 ((h p).2 (by simp [hp])) with e | hp'
      · exact absurd (e ▸ b1 p hp) (slt_irrefl a)
      · exact hp'⟩)]

/-- the rising list of all -/
def sasc (L : List Str) : List Str := compact (L.mergeSort fun x y => decide (x ≤ y))

theorem sasc_mem (L : List Str) (y : Str) : y ∈ sasc L ↔ y ∈ L := by rw [sasc, scompact_mem]; exact List.mem_mergeSort
theorem sasc_length (L : List Str) : (sasc L).length ≤ L.length := Nat.le_trans (compact_length_le _) (by simp)
theorem sasc_rising (L : List Str) : (sasc L).Pairwise (· < ·) := scompact_rises _ (ssorted_le L)
theorem sasc_eq {A B : List Str} (h : ∀ x, x ∈ A ↔ x ∈ B) : sasc A = sasc B := srising_ext (sasc_rising A) (sasc_rising B) (fun x => by rw [sasc_mem, sasc_mem, h])
theorem sasc_of_rising {A : List Str} (h : A.Pairwise (· < ·)) : sasc A = A := srising_ext (sasc_rising A) h (fun x => sasc_mem A x)
end Go.Proofs.Ytkphgonbbhlnfaa
