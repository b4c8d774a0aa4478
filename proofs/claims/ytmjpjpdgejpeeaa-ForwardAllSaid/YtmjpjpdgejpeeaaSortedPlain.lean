/- Plain facts on the sorting by choice of siphonref22.Sorted: the list that it grows is a beginning of the rising list. -/
import Derived.Test.YtmjpjpdgejpeeaaPlain
namespace Go.Proofs.Ytmjpjpdgejpeeaa
open Go.RowKit

/-- the rising list of all -/
def asc (L : List Int) : List Int := canon (fun _ => true) L

theorem asc_mem (L : List Int) (y : Int) : y ∈ asc L ↔ y ∈ L := by rw [asc, canon_mem]; simp
theorem asc_length (L : List Int) : (asc L).length ≤ L.length := canon_length _ _
theorem asc_rising (L : List Int) : (asc L).Pairwise (· < ·) := canon_rising _ _

theorem asc_lt (L : List Int) {i j : Nat} (hj : j < (asc L).length) (hij : i < j) : (asc L)[i]'(by omega) < (asc L)[j] :=
  List.pairwise_iff_getElem.1 (asc_rising L) i j (by omega) hj hij

/-- y stands behind the first m + 1 just if it is greater than the last of them -/
theorem behind_iff (L : List Int) (m : Nat) (hm : m < (asc L).length) (y : Int) (hy : y ∈ L) : y ∉ (asc L).take (m + 1) ↔ (asc L)[m] < y := by
  obtain ⟨i, hi, rfl⟩ := List.getElem_of_mem ((asc_mem L y).2 hy)
  rw [List.mem_take_iff_getElem]
  constructor
  · intro h
    by_cases hle : i ≤ m
    · exact absurd ⟨i, by omega, rfl⟩ h
    · exact asc_lt L hi (by omega)
  · rintro h ⟨k, hk, e⟩
    have : (asc L)[k]'(by omega) ≤ (asc L)[m] := by
      by_cases hkm : k = m
      · subst hkm; exact Int.le_refl _
      · exact Int.le_of_lt (asc_lt L hm (by omega))
    rw [e] at this
    omega

/-- what the inner loop has found among the first i -/
def Found (L : List Int) (n i : Nat) (nx : Int) : Prop :=
  (nx = -1 ∧ ∀ y ∈ L.take i, y ∈ (asc L).take n) ∨ (∃ j : Nat, ∃ h : j < L.length, nx = j ∧ L[j] ∉ (asc L).take n ∧ ∀ y ∈ L.take i, y ∉ (asc L).take n → L[j] ≤ y)

theorem found_start (L : List Int) (n : Nat) : Found L n 0 (-1) := .inl ⟨rfl, by simp⟩

theorem found_seen {L : List Int} {n i : Nat} {nx : Int} (h : Found L n i nx) (hi : i < L.length) (hs : L[i] ∈ (asc L).take n) : Found L n (i + 1) nx := by
  rcases h with ⟨rfl, h⟩ | ⟨j, hj, rfl, h1, h2⟩
  · refine .inl ⟨rfl, fun y hy => ?_⟩
    rw [take_snoc L i hi, List.mem_append, List.mem_singleton] at hy
    rcases hy with hy | rfl
    · exact h y hy
    · exact hs
  · refine .inr ⟨j, hj, rfl, h1, fun y hy hn => ?_⟩
    rw [take_snoc L i hi, List.mem_append, List.mem_singleton] at hy
    rcases hy with hy | rfl
    · exact h2 y hy hn
    · exact absurd hs hn

theorem found_first {L : List Int} {n i : Nat} (h : Found L n i (-1)) (hi : i < L.length) (hs : L[i] ∉ (asc L).take n) : Found L n (i + 1) i := by
  rcases h with ⟨_, h⟩ | ⟨j, hj, e, _⟩
  · refine .inr ⟨i, hi, rfl, hs, fun y hy hn => ?_⟩
    rw [take_snoc L i hi, List.mem_append, List.mem_singleton] at hy
    rcases hy with hy | rfl
    · exact absurd (h y hy) hn
    · exact Int.le_refl _
  · omega

theorem found_less {L : List Int} {n i j : Nat} (h : Found L n i j) (hi : i < L.length) (hj : j < L.length) (hs : L[i] ∉ (asc L).take n) (hl : L[i] < L[j]) : Found L n (i + 1) i := by
  rcases h with ⟨e, _⟩ | ⟨j', hj', e, h1, h2⟩
  · omega
  · obtain rfl : j = j' := by omega
    refine .inr ⟨i, hi, rfl, hs, fun y hy hn => ?_⟩
    rw [take_snoc L i hi, List.mem_append, List.mem_singleton] at hy
    rcases hy with hy | rfl
    · have := h2 y hy hn; omega
    · exact Int.le_refl _

theorem found_more {L : List Int} {n i j : Nat} (h : Found L n i j) (hi : i < L.length) (hj : j < L.length) (hl : L[j] ≤ L[i]) : Found L n (i + 1) j := by
  rcases h with ⟨e, _⟩ | ⟨j', hj', e, h1, h2⟩
  · omega
  · obtain rfl : j = j' := by omega
    refine .inr ⟨j, hj, rfl, h1, fun y hy hn => ?_⟩
    rw [take_snoc L i hi, List.mem_append, List.mem_singleton] at hy
    rcases hy with hy | rfl
    · exact h2 y hy hn
    · exact hl

theorem found_lt {L : List Int} {n i j : Nat} (h : Found L n i j) : j < L.length := by
  rcases h with ⟨e, _⟩ | ⟨j', hj', e, _⟩
  · omega
  · omega

theorem found_cases {L : List Int} {n i : Nat} {nx : Int} (h : Found L n i nx) : nx = -1 ∨ ∃ j : Nat, nx = j ∧ j < L.length := by
  rcases h with ⟨e, _⟩ | ⟨j', hj', e, _⟩
  · exact .inl e
  · exact .inr ⟨j', e, hj'⟩

/-- none is left -/
theorem found_none {L : List Int} {n : Nat} (hn : n ≤ (asc L).length) (h : Found L n L.length (-1)) : n = (asc L).length := by
  rcases h with ⟨_, h⟩ | ⟨j', hj', e, _⟩
  · by_cases he : n = (asc L).length
    · exact he
    · have hlt : n < (asc L).length := by omega
      have hm := h ((asc L)[n]) (by rw [List.take_of_length_le (Nat.le_refl _)]; exact (asc_mem L _).1 (List.getElem_mem hlt))
      rw [List.mem_take_iff_getElem] at hm
      obtain ⟨k, hk, e⟩ := hm
      have := asc_lt L hlt (i := k) (by omega)
      omega
  · omega

/-- the next one -/
theorem found_next {L : List Int} {n j : Nat} (hn : n ≤ (asc L).length) (h : Found L n L.length j) (hj : j < L.length) : ∃ h : n < (asc L).length, L[j] = (asc L)[n] := by
  rcases h with ⟨e, _⟩ | ⟨j', hj', e, h1, h2⟩
  · omega
  · obtain rfl : j = j' := by omega
    obtain ⟨m, hm, em⟩ := List.getElem_of_mem ((asc_mem L L[j]).2 (List.getElem_mem hj))
    have hge : n ≤ m := by
      by_cases hlt : m < n
      · exact absurd (by rw [List.mem_take_iff_getElem]; exact ⟨m, by omega, em⟩) h1
      · omega
    have hlt : n < (asc L).length := by omega
    refine ⟨hlt, ?_⟩
    have h3 := h2 ((asc L)[n]) (by rw [List.take_of_length_le (Nat.le_refl _)]; exact (asc_mem L _).1 (List.getElem_mem hlt)) (by
      rw [List.mem_take_iff_getElem]
      rintro ⟨k, hk, e⟩
      have := asc_lt L hlt (i := k) (by omega)
      omega)
    by_cases hnm : n = m
    · subst hnm; exact em.symm
    · have := asc_lt L hm (i := n) (by omega)
      omega

end Go.Proofs.Ytmjpjpdgejpeeaa
