/- The document's answer to a record is the program's: the sources, one by one, and what is asked. -/
import Derived.Test.YtkphgonbbhlnfaaGPlain
import Derived.Test.YtkphgonbbhlnfaaGSA
namespace Go.Proofs.Ytkphgonbbhlnfaa
open Go.RowKit Go.Lib Go.Maps Go.Sort

theorem nmL_mem {F : Str → Option Int} {L : List Tmd} (h : Asc F L) (blk : Bool) (a : Str) : a ∈ nmL L blk ↔ ∃ z, F a = some z ∧ (z == 0) = blk := by
  unfold nmL
  constructor
  · intro hm
    obtain ⟨t, ht, rfl⟩ := List.mem_map.1 hm
    obtain ⟨h1, h2⟩ := List.mem_filter.1 ht
    exact ⟨t.2, h.2 t h1, by simpa using h2⟩
  · rintro ⟨z, hz, hb⟩
    obtain ⟨t, ht, rfl⟩ := List.mem_map.1 ((h.1.2 a).2 (by simp [hz]))
    have := h.2 t ht
    rw [hz] at this
    injection this with e
    exact List.mem_map.2 ⟨t, List.mem_filter.2 ⟨ht, by rw [← e]; simpa using hb⟩, rfl⟩
theorem nmL_in {F : Str → Option Int} {L : List Tmd} (h : Asc F L) (blk : Bool) (a : Str) : (nmL L blk).contains a = match F a with | none => false | some z => (z == 0) == blk := by
  rw [Bool.eq_iff_iff, List.contains_iff_mem, nmL_mem h]
  cases F a <;> simp
theorem sasc_in (C : List Str) (a : Str) : (sasc C).contains a = C.contains a := by
  rw [Bool.eq_iff_iff, List.contains_iff_mem, List.contains_iff_mem, sasc_mem]
theorem filt_in (p : Str → Bool) (C : List Str) (a : Str) : (C.filter p).contains a = (C.contains a && p a) := by
  rw [Bool.eq_iff_iff, List.contains_iff_mem, List.mem_filter, Bool.and_eq_true, List.contains_iff_mem]
theorem bothL_in (A B : List Str) (a : Str) : (bothL A B).contains a = (A.contains a && B.contains a) := by unfold bothL; rw [filt_in, sasc_in]
theorem lessF_in (A B : List Str) (a : Str) : (lessF A B).contains a = (A.contains a && !B.contains a) := by unfold lessF; rw [filt_in, sasc_in]
theorem app_in (A B : List Str) (a : Str) : (A ++ B).contains a = (A.contains a || B.contains a) := by simp

theorem rises_both {q : Str → Bool} {A B : List Str} (h : ∀ a, (A.contains a && B.contains a) = q a) : Rises q (bothL A B) :=
  ⟨(sasc_rising A).filter _, fun a => by rw [← List.contains_iff_mem, bothL_in, h]⟩
theorem rises_less {q : Str → Bool} {A B : List Str} (h : ∀ a, (A.contains a && !B.contains a) = q a) : Rises q (lessF A B) :=
  ⟨(sasc_rising A).filter _, fun a => by rw [← List.contains_iff_mem, lessF_in, h]⟩

section
variable {F : Str → Option Int} {L : List Tmd} {C : List Str} {at' m : Int}
theorem plain_keep (h : Asc F L) (hg : GoodF false F) : keepF (fun _ => none) (nmL L false) F = F := by
  funext a
  unfold keepF
  rw [nmL_in h]
  cases hF : F a
  · simp
  · rename_i z
    have := (hg a z hF).2 rfl
    simp [this]
theorem plain_some_in (h : Asc F L) (hg : GoodF false F) : setF (keepF (fun _ => none) (nmL L false) F) C m = setF F C m := by rw [plain_keep h hg]
theorem plain_some_ex (h : Asc F L) (hg : GoodF false F) : keepF (setF (fun _ => none) C 0) (bothL (nmL L false) C) F = excF F C 0 := by
  funext a
  unfold keepF setF excF
  dsimp only
  rw [bothL_in, nmL_in h]
  cases hc : C.contains a
  · cases hF : F a <;> simp
  · cases hF : F a
    · simp
    · rename_i z
      have := (hg a z hF).2 rfl
      simp [this]
theorem plain_but_in (h : Asc F L) : setF (setF (keepF (fun _ => none) (nmL L false) F) (lessF (nmL L true) C) 0) C m = setF F C m := by
  funext a
  unfold setF keepF
  dsimp only
  rw [lessF_in, nmL_in h, nmL_in h]
  cases hc : C.contains a
  · cases hF : F a
    · simp
    · rename_i z
      by_cases hz : z = 0 <;> simp [hz]
  · simp
theorem plain_but_ex (h : Asc F L) : setF (keepF (setF (fun _ => none) (bothL (nmL L true) C) 0) (bothL (nmL L false) C) F) (lessF C (sasc (nmL L false ++ nmL L true))) m = excF F C m := by
  funext a
  unfold setF keepF excF
  dsimp only
  rw [lessF_in, bothL_in, bothL_in, sasc_in, app_in, nmL_in h, nmL_in h]
  cases hc : C.contains a
  · simp
  · cases hF : F a
    · simp
    · rename_i z
      by_cases hz : z = 0 <;> simp [hz]
theorem plain_but_to (h : Asc F L) : setF (setF (keepF (setF (fun _ => none) (bothL (nmL L true) C) 0) (bothL (nmL L false) C) F) (lessF C (sasc (nmL L false ++ nmL L true))) m) (lessF C (sasc (nmL L false ++ nmL L true))) at' = excF F C at' := by
  funext a
  unfold setF keepF excF
  dsimp only
  rw [lessF_in, bothL_in, bothL_in, sasc_in, app_in, nmL_in h, nmL_in h]
  cases hc : C.contains a
  · simp
  · cases hF : F a
    · simp
    · rename_i z
      by_cases hz : z = 0 <;> simp [hz]
theorem plain_but_block (h : Asc F L) : setF (keepF (setF (fun _ => none) (nmL L true) 0) (nmL L false) F) (lessF C (sasc (nmL L false ++ nmL L true))) at' = fillF F (C.filter (notBlk F)) at' := by
  funext a
  unfold setF keepF fillF notBlk runF
  dsimp only
  rw [lessF_in, sasc_in, app_in, nmL_in h, nmL_in h, filt_in]
  cases hc : C.contains a
  · cases hF : F a
    · simp
    · rename_i z
      by_cases hz : z = 0 <;> simp [hz]
  · cases hF : F a
    · simp
    · rename_i z
      by_cases hz : z = 0 <;> simp [hz]

theorem ask_in (h : Asc F L) : Rises (fun a => runF F a && !C.contains a) (lessF (nmL L false) C) := rises_less fun a => by
  rw [nmL_in h]; unfold runF
  cases hF : F a
  · simp
  · rename_i z
    by_cases hz : z = 0 <;> simp [hz, bne]
theorem ask_block (h : Asc F L) : Rises (fun a => C.contains a && runF F a) (bothL (nmL L false) C) := rises_both fun a => by
  rw [nmL_in h, Bool.and_comm]; unfold runF
  cases hF : F a
  · simp
  · rename_i z
    by_cases hz : z = 0 <;> simp [hz, bne]
theorem ask_ex (h : Asc F L) : Rises (fun a => runF (excF F C 0) a) (bothL (nmL L false) C) := rises_both fun a => by
  rw [nmL_in h, Bool.and_comm]; unfold runF excF
  cases hc : C.contains a <;> cases hF : F a
  · simp
  · simp
  · simp
  · rename_i z
    by_cases hz : z = 0 <;> simp [hz, bne]
theorem ask_to (h : Asc F L) (ha : 1 ≤ at') : Rises (fun a => runF (excF F C at') a) (lessF C (nmL L true)) := rises_less fun a => by
  have ha' : at' ≠ 0 := by omega
  rw [nmL_in h]; unfold runF excF
  cases hc : C.contains a <;> cases hF : F a
  · simp
  · simp
  · simp [ha']
  · rename_i z
    by_cases hz : z = 0 <;> simp [hz, bne]
theorem ask_blk (h : Asc F L) : Rises (fun a => C.contains a && notBlk F a) (lessF C (nmL L true)) := rises_less fun a => by
  rw [nmL_in h]; unfold notBlk
  cases hF : F a
  · simp
  · rename_i z
    by_cases hz : z = 0 <;> simp [hz]
end
end Go.Proofs.Ytkphgonbbhlnfaa
