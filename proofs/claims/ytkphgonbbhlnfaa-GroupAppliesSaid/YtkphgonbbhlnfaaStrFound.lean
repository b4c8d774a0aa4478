/- Plain facts on the sorting by choice of siphonref11.Rising: the list that it grows is a beginning of the rising list. -/
import Derived.Test.YtkphgonbbhlnfaaStrPlain
namespace Go.Proofs.Ytkphgonbbhlnfaa
open Go.RowKit

theorem slt_asymm {a b : Str} (h : a < b) (k : b < a) : False := slt_irrefl a (slt_trans h k)

theorem sasc_lt (L : List Str) {i j : Nat} (hj : j < (sasc L).length) (hij : i < j) : (sasc L)[i]'(by omega) < (sasc L)[j] :=
  List.pairwise_iff_getElem.1 (sasc_rising L) i j (by omega) hj hij

/-- y stands behind the first m + 1 just if it is greater than the last of them -/
theorem sbehind_iff (L : List Str) (m : Nat) (hm : m < (sasc L).length) (y : Str) (hy : y ∈ L) : y ∉ (sasc L).take (m + 1) ↔ (sasc L)[m] < y := by
  obtain ⟨i, hi, rfl⟩ := List.getElem_of_mem ((sasc_mem L y).2 hy)
  rw [List.mem_take_iff_getElem]
  constructor
  · intro h
    by_cases hle : i ≤ m
    · exact absurd ⟨i, by omega, rfl⟩ h
    · exact sasc_lt L hi (by omega)
  · rintro h ⟨k, hk, e⟩
    by_cases hkm : k = m
    · subst hkm; rw [e] at h; exact slt_irrefl _ h
    · have := sasc_lt L hm (i := k) (by omega)
      rw [e] at this
      exact slt_asymm this h

/-- what the inner loop has found among the first i -/
def SFound (L : List Str) (n i : Nat) (nx : Int) : Prop :=
  (nx = -1 ∧ ∀ y ∈ L.take i, y ∈ (sasc L).take n) ∨ (∃ j : Nat, ∃ h : j < L.length, nx = j ∧ L[j] ∉ (sasc L).take n ∧ ∀ y ∈ L.take i, y ∉ (sasc L).take n → L[j] ≤ y)

theorem sfound_start (L : List Str) (n : Nat) : SFound L n 0 (-1) := .inl ⟨rfl, by simp⟩

theorem sfound_seen {L : List Str} {n i : Nat} {nx : Int} (h : SFound L n i nx) (hi : i < L.length) (hs : L[i] ∈ (sasc L).take n) : SFound L n (i + 1) nx := by
  rcases h with ⟨rfl, h⟩ | ⟨j, hj, rfl, h1, h2⟩
  · refine .inl ⟨rfl, fun y hy => ?_⟩
    rw [take_snoc L i hi, List.mem_append, List.mem_singleton] at hy
    rcases hy with hy | rfl
    · exact h y hy
    · exact hs
  · refine .inr ⟨j, hj, rfl, h1, fun y hy hn => ?_⟩
    rw [take_snoc L i hi, List.mem_append, List.mem_singleton] at hy
    rcases hy with hy | rfl
    · exact h2 y hy hn
    · exact absurd hs hn

theorem sfound_first {L : List Str} {n i : Nat} (h : SFound L n i (-1)) (hi : i < L.length) (hs : L[i] ∉ (sasc L).take n) : SFound L n (i + 1) i := by
  rcases h with ⟨_, h⟩ | ⟨j, hj, e, _⟩
  · refine .inr ⟨i, hi, rfl, hs, fun y hy hn => ?_⟩
    rw [take_snoc L i hi, List.mem_append, List.mem_singleton] at hy
    rcases hy with hy | rfl
    · exact absurd (h y hy) hn
    · exact List.le_refl _
  · omega

theorem sfound_less {L : List Str} {n i j : Nat} (h : SFound L n i j) (hi : i < L.length) (hj : j < L.length) (hs : L[i] ∉ (sasc L).take n) (hl : L[i] < L[j]) : SFound L n (i + 1) i := by
  rcases h with ⟨e, _⟩ | ⟨j', hj', e, h1, h2⟩
  · omega
  · obtain rfl : j = j' := by omega
    refine .inr ⟨i, hi, rfl, hs, fun y hy hn => ?_⟩
    rw [take_snoc L i hi, List.mem_append, List.mem_singleton] at hy
    rcases hy with hy | rfl
    · exact List.le_trans (List.le_of_lt hl) (h2 y hy hn)
    · exact List.le_refl _

theorem sfound_more {L : List Str} {n i j : Nat} (h : SFound L n i j) (hi : i < L.length) (hj : j < L.length) (hl : ¬ L[i] < L[j]) : SFound L n (i + 1) j := by
  rcases h with ⟨e, _⟩ | ⟨j', hj', e, h1, h2⟩
  · omega
  · obtain rfl : j = j' := by omega
    refine .inr ⟨j, hj, rfl, h1, fun y hy hn => ?_⟩
    rw [take_snoc L i hi, List.mem_append, List.mem_singleton] at hy
    rcases hy with hy | rfl
    · exact h2 y hy hn
    · exact List.not_lt.1 hl

theorem sfound_lt {L : List Str} {n i j : Nat} (h : SFound L n i j) : j < L.length := by
  rcases h with ⟨e, _⟩ | ⟨j', hj', e, _⟩
  · omega
  · omega

theorem sfound_cases {L : List Str} {n i : Nat} {nx : Int} (h : SFound L n i nx) : nx = -1 ∨ ∃ j : Nat, nx = j ∧ j < L.length := by
  rcases h with ⟨e, _⟩ | ⟨j', hj', e, _⟩
  · exact .inl e
  · exact .inr ⟨j', e, hj'⟩

/-- none is left -/
theorem sfound_none {L : List Str} {n : Nat} (hn : n ≤ (sasc L).length) (h : SFound L n L.length (-1)) : n = (sasc L).length := by
  rcases h with ⟨_, h⟩ | ⟨j', hj', e, _⟩
  · by_cases he : n = (sasc L).length
    · exact he
    · have hlt : n < (sasc L).length := by omega
      have hm := h ((sasc L)[n]) (by rw [List.take_of_length_le (Nat.le_refl _)]; exact (sasc_mem L _).1 (List.getElem_mem hlt))
      rw [List.mem_take_iff_getElem] at hm
      obtain ⟨k, hk, e⟩ := hm
      have := sasc_lt L hlt (i := k) (by omega)
      rw [e] at this
      exact absurd this (slt_irrefl _)
  · omega

/-- the next one -/
theorem sfound_next {L : List Str} {n j : Nat} (hn : n ≤ (sasc L).length) (h : SFound L n L.length j) (hj : j < L.length) : ∃ h : n < (sasc L).length, L[j] = (sasc L)[n] := by
  rcases h with ⟨e, _⟩ | ⟨j', hj', e, h1, h2⟩
  · omega
  · obtain rfl : j = j' := by omega
    obtain ⟨m, hm, em⟩ := List.getElem_of_mem ((sasc_mem L L[j]).2 (List.getElem_mem hj))
    have hge : n ≤ m := by
      by_cases hlt : m < n
      · exact absurd (by rw [List.mem_take_iff_getElem]; exact ⟨m, by omega, em⟩) h1
      · omega
    have hlt : n < (sasc L).length := by omega
    refine ⟨hlt, ?_⟩
    have h3 := h2 ((sasc L)[n]) (by rw [List.take_of_length_le (Nat.le_refl _)]; exact (sasc_mem L _).1 (List.getElem_mem hlt)) (by
      rw [List.mem_take_iff_getElem]
      rintro ⟨k, hk, e⟩
      have := sasc_lt L hlt (i := k) (by omega)
      rw [e] at this
      exact slt_irrefl _ this)
    by_cases hnm : n = m
    · subst hnm; exact em.symm
    · have := sasc_lt L hm (i := n) (by omega)
      rw [em] at this
      exact absurd this (List.not_lt.2 h3)
end Go.Proofs.Ytkphgonbbhlnfaa
