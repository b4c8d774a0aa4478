/- siphonref17.put: a source in its place. -/
import Derived.Test.YtkphgonbbhlnfaaGRef1
namespace Go.Proofs.Ytkphgonbbhlnfaa
open Go.RowKit Go.Lib Go.Maps Go.Sort

def putStep (a : Str) (z : Int) (o : List Tmd × Bool) (t : Tmd) : List Tmd × Bool :=
  ((o.1 ++ (if !o.2 && !decide (t.1 < a) then [(a, z)] else [])) ++ (if t.1 == a then [] else [t]), o.2 || !decide (t.1 < a))
theorem putStep_eq (a : Str) (z : Int) (o : List Tmd × Bool) (t : Tmd) : putStep a z o t = ((o.1 ++ (if !o.2 && !decide (t.1 < a) then [(a, z)] else [])) ++ (if t.1 == a then [] else [t]), o.2 || !decide (t.1 < a)) := rfl
def putL (L : List Tmd) (a : Str) (z : Int) : List Tmd :=
  (L.foldl (putStep a z) ([], false)).1 ++ (if (L.foldl (putStep a z) ([], false)).2 then [] else [(a, z)])

theorem put_snoc (L : List Tmd) (a : Str) (z : Int) (k : Nat) (h : k < L.length) : (L.take (k + 1)).foldl (putStep a z) ([], false) = putStep a z ((L.take k).foldl (putStep a z) ([], false)) L[k] := by
  rw [take_snoc L k h, List.foldl_append]; rfl

/-- on a rising list -/
theorem put_spec (a : Str) (z : Int) : ∀ (L : List Tmd), (L.map Prod.fst).Pairwise (· < ·) → 
    (L.foldl (putStep a z) ([], false)).1 = L.filter (fun t => decide (t.1 < a)) ++ (if L.any (fun t => !decide (t.1 < a)) then (a, z) :: L.filter (fun t => !decide (t.1 < a) && !(t.1 == a)) else []) ∧ (L.foldl (putStep a z) ([], false)).2 = L.any (fun t => !decide (t.1 < a)) := by
  intro L
  suffices hs : ∀ n, n ≤ L.length → (L.map Prod.fst).Pairwise (· < ·) → 
    ((L.take n).foldl (putStep a z) ([], false)).1 = (L.take n).filter (fun t => decide (t.1 < a)) ++ (if (L.take n).any (fun t => !decide (t.1 < a)) then (a, z) :: (L.take n).filter (fun t => !decide (t.1 < a) && !(t.1 == a)) else []) ∧ ((L.take n).foldl (putStep a z) ([], false)).2 = (L.take n).any (fun t => !decide (t.1 < a)) by
    intro hp
    have := hs L.length (Nat.le_refl _) hp
    rwa [List.take_length] at this
  intro n
  induction n with
  | zero => intro _ _; exact ⟨rfl, rfl⟩
  | succ k ih =>
    intro hk hp
    have hlt : k < L.length := by omega
    obtain ⟨i1, i2⟩ := ih (by omega) hp
    have hrise : ∀ t ∈ L.take k, t.1 < L[k].1 := by
      intro t ht
      obtain ⟨j, hj, rfl⟩ := List.getElem_of_mem ht
      simp only [List.length_take] at hj
      have hj' : j < k := by omega
      have := List.pairwise_iff_getElem.1 hp j k (by simp; omega) (by simp; omega) hj'
      simpa using this
    rw [put_snoc L a z k hlt, take_snoc L k hlt, List.any_append, List.filter_append, List.filter_append]
    rw [putStep_eq, i1, i2]
    by_cases hl : L[k].1 < a
    · have hno : (L.take k).any (fun t => !decide (t.1 < a)) = false := by
        rw [List.any_eq_false]
        intro t ht
        simp [slt_trans (hrise t ht) hl]
      have hne : (L[k].1 == a) = false := by rw [beq_eq_false_iff_ne]; intro e; rw [e] at hl; exact slt_irrefl _ hl
      simp [hno, hl, hne]
    · have hnl : L[k].1 ≠ a ∨ L[k].1 = a := by by_cases e : L[k].1 = a <;> simp [e]
      by_cases hany : (L.take k).any (fun t => !decide (t.1 < a)) = true
      · have hne : (L[k].1 == a) = false := by
          rw [beq_eq_false_iff_ne]; intro e
          rw [List.any_eq_true] at hany
          obtain ⟨t, ht, h2⟩ := hany
          have := hrise t ht
          rw [e] at this
          simp [this] at h2
        simp [hany, hl, hne]
      · have hany' : (L.take k).any (fun t => !decide (t.1 < a)) = false := by simpa using hany
        have hf : (L.take k).filter (fun t => !decide (t.1 < a) && !(t.1 == a)) = [] := by
          rw [List.filter_eq_nil_iff]
          intro t ht
          have := List.any_eq_false.1 hany' t ht
          simp at this
          simp [this]
        by_cases e : L[k].1 = a
        · have ee : (L[k].1 == a) = true := by simpa using e
          simp [hany', hl, ee, hf]
        · have ee : (L[k].1 == a) = false := by simpa using e
          simp [hany', hl, ee, hf]

theorem asc_put {F : Str → Option Int} {L : List Tmd} (h : Asc F L) (a : Str) (z : Int) : Asc (upd F a z) (putL L a z) := by
  obtain ⟨s1, s2⟩ := put_spec a z L h.1.1
  have e : putL L a z = L.filter (fun t => decide (t.1 < a)) ++ (a, z) :: L.filter (fun t => !decide (t.1 < a) && !(t.1 == a)) := by
    unfold putL
    rw [s1, s2]
    by_cases hany : L.any (fun t => !decide (t.1 < a)) = true
    · simp [hany]
    · have hany' : L.any (fun t => !decide (t.1 < a)) = false := by simpa using hany
      have hf : L.filter (fun t => !decide (t.1 < a) && !(t.1 == a)) = [] := by
        rw [List.filter_eq_nil_iff]
        intro t ht
        have := List.any_eq_false.1 hany' t ht
        simp at this
        simp [this]
      rw [hany', hf]; simp
  rw [e]
  refine ⟨⟨?_, fun x => ?_⟩, fun t ht => ?_⟩
  · rw [List.map_append, List.map_cons]
    refine List.pairwise_append.2 ⟨?_, List.pairwise_cons.2 ⟨?_, ?_⟩, ?_⟩
    · exact List.Pairwise.sublist (List.Sublist.map _ List.filter_sublist) h.1.1
    · intro y hy
      obtain ⟨t, ht, rfl⟩ := List.mem_map.1 hy
      have := (List.mem_filter.1 ht).2
      simp only [Bool.and_eq_true, Bool.not_eq_true', decide_eq_false_iff_not, beq_eq_false_iff_ne] at this
      rcases slt_or t.1 a with q | q | q
      · exact absurd q this.1
      · exact absurd q this.2
      · exact q
    · exact List.Pairwise.sublist (List.Sublist.map _ List.filter_sublist) h.1.1
    · intro x hx y hy
      obtain ⟨t, ht, rfl⟩ := List.mem_map.1 hx
      have h1 : t.1 < a := by have := (List.mem_filter.1 ht).2; simpa using this
      rcases List.mem_cons.1 hy with rfl | hy
      · exact h1
      · obtain ⟨u, hu, rfl⟩ := List.mem_map.1 hy
        have := (List.mem_filter.1 hu).2
        simp only [Bool.and_eq_true, Bool.not_eq_true', decide_eq_false_iff_not, beq_eq_false_iff_ne] at this
        rcases slt_or u.1 a with q | q | q
        · exact absurd q this.1
        · exact absurd q this.2
        · exact slt_trans h1 q
  · unfold upd
    rw [List.map_append, List.map_cons, List.mem_append, List.mem_cons]
    by_cases e : x = a
    · subst e; simp
    · rw [if_neg e, ← h.1.2 x]
      constructor
      · rintro (hm | hm | hm)
        · obtain ⟨t, ht, rfl⟩ := List.mem_map.1 hm
          exact List.mem_map.2 ⟨t, (List.mem_filter.1 ht).1, rfl⟩
        · exact absurd hm e
        · obtain ⟨t, ht, rfl⟩ := List.mem_map.1 hm
          exact List.mem_map.2 ⟨t, (List.mem_filter.1 ht).1, rfl⟩
      · intro hm
        obtain ⟨t, ht, rfl⟩ := List.mem_map.1 hm
        by_cases hl : t.1 < a
        · exact .inl (List.mem_map.2 ⟨t, List.mem_filter.2 ⟨ht, by simp [hl]⟩, rfl⟩)
        · exact .inr (.inr (List.mem_map.2 ⟨t, List.mem_filter.2 ⟨ht, by simp [hl, e]⟩, rfl⟩))
  · unfold upd
    rcases List.mem_append.1 ht with ht | ht
    · have h1 := List.mem_filter.1 ht
      have h2 : t.1 < a := by simpa using h1.2
      have hne : t.1 ≠ a := by intro e; rw [e] at h2; exact slt_irrefl _ h2
      rw [if_neg hne]; exact h.2 t h1.1
    · rcases List.mem_cons.1 ht with rfl | ht
      · simp
      · have h1 := List.mem_filter.1 ht
        have hne : t.1 ≠ a := by
          have := h1.2
          simp only [Bool.and_eq_true, Bool.not_eq_true', beq_eq_false_iff_ne] at this
          exact this.2
        rw [if_neg hne]; exact h.2 t h1.1
theorem filter_two (p : Tmd → Bool) : ∀ L : List Tmd, (L.filter p).length + (L.filter fun t => !p t).length = L.length
  | [] => rfl
  | t :: L => by
    have := filter_two p L
    cases h : p t <;> simp [h] <;> omega
theorem putL_len (L : List Tmd) (a : Str) (z : Int) {F : Str → Option Int} (h : Asc F L) : (putL L a z).length ≤ L.length + 1 := by
  obtain ⟨s1, s2⟩ := put_spec a z L h.1.1
  unfold putL
  rw [s1, s2]
  have h1 := filter_two (fun t => decide (t.1 < a)) L
  have h2 : (L.filter fun t => !decide (t.1 < a) && !(t.1 == a)).length ≤ (L.filter fun t => !decide (t.1 < a)).length := by
    rw [show (L.filter fun t => !decide (t.1 < a) && !(t.1 == a)) = (L.filter fun t => !decide (t.1 < a)).filter fun t => !(t.1 == a) from by rw [List.filter_filter]; congr 1; funext t; rw [Bool.and_comm]]
    exact List.length_filter_le _ _
  by_cases hany : L.any (fun t => !decide (t.1 < a)) = true
  · rw [hany, if_pos rfl, if_pos rfl, List.length_append, List.length_append, List.length_cons, List.length_nil]
    exact Nat.succ_le_succ (Nat.le_trans (Nat.add_le_add_left h2 _) (Nat.le_of_eq h1))
  · have hany' : L.any (fun t => !decide (t.1 < a)) = false := by simpa using hany
    simp [hany']; exact List.length_filter_le _ _

end Go.Proofs.Ytkphgonbbhlnfaa
