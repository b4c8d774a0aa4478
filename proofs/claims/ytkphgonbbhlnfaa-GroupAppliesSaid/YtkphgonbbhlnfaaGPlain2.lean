/- Plain laws of layer 17: who is let through. -/
import Derived.Test.YtkphgonbbhlnfaaGPlain
namespace Go.Proofs.Ytkphgonbbhlnfaa
open Go.RowKit Go.Lib Go.Maps Go.Sort

theorem exF_run {e : Bool} {now z : Int} {F : Str → Option Int} {a : Str} (h : F a = some z) (hz : now < z) : exF e now F a = some z := by simp [exF, h, hz]
theorem exF_none {e : Bool} {now : Int} {F : Str → Option Int} {a : Str} (h : F a = none) : exF e now F a = none := by simp [exF, h]

/-- a source that runs behind now is let through -/
theorem padm_run {ex : Bool} {at' : Int} {L : List Tmd} {now z : Int} {a : Str} (hp : pcheck ex at' L = true) (h : rd L a = some z) (hz : now < z) (h0 : 0 ≤ now) : padm ex at' L now a = true := by
  unfold padm
  rw [hp]
  have hne : z ≠ 0 := by omega
  cases hc : (ex && decide (now < at')) <;> simp [exF_run h hz, hne]
/-- one that nobody speaks of, while all are let through -/
theorem padm_free {at' : Int} {L : List Tmd} {now : Int} {a : Str} (hp : pcheck true at' L = true) (h : rd L a = none) (hz : now < at') : padm true at' L now a = true := by
  unfold padm
  rw [hp]
  simp [hz, exF_none h]
theorem padm_iff {ex : Bool} {at' : Int} {L : List Tmd} {now : Int} {a : Str} (_h0 : 0 < now) (h : padm ex at' L now a = true) : pcheck ex at' L = true ∧ ((∃ z, rd L a = some z ∧ now < z) ∨ (ex = true ∧ now < at' ∧ rd L a = none)) := by
  unfold padm at h
  rw [Bool.and_eq_true] at h
  obtain ⟨hp, h⟩ := h
  refine ⟨hp, ?_⟩
  cases hF : rd L a with
  | none =>
    cases hc : (ex && decide (now < at'))
    · rw [hc] at h; simp [exF_none hF] at h
    · rw [Bool.and_eq_true, decide_eq_true_eq] at hc
      exact .inr ⟨hc.1, hc.2, rfl⟩
  | some z =>
    by_cases hz : now < z
    · exact .inl ⟨z, rfl, hz⟩
    · exfalso
      cases hc : (ex && decide (now < at'))
      · rw [hc] at h; simp [exF, hF, hz] at h
      · rw [hc] at h; simp [exF, hF, hz] at h

theorem soon_run {F : Str → Option Int} {R : List Str} {a : Str} {z l now : Int} (h : F a = some z) (hz : now < z) (hl : now < l) : ∃ y, soonF F R l a = some y ∧ now < y := by
  unfold soonF
  split
  · exact ⟨_, rfl, by rw [h]; simp; omega⟩
  · exact ⟨z, h, hz⟩
theorem soon_not {F : Str → Option Int} {R : List Str} {a : Str} {l : Int} (h : a ∉ R) : soonF F R l a = F a := by
  unfold soonF
  simp [h]
theorem soon_none {F : Str → Option Int} {R : List Str} {a : Str} {l : Int} (h : F a = none) : soonF F R l a = none := soonF_keys a |>.2 h

/-- what a host says it wants -/
theorem wants_law {ex : Bool} {at' : Int} {L : List Tmd} {kind : Int} {C : List Str} {n : Nat} {now mem last : Int} (hv : verdict (pcheck ex at' L) kind n now mem last = 0) {R : List Str} {L' : List Tmd} (hR : Rises (inQ kind ex at' (rd L) (sasc C) (now + mem)) R)
    (hA : Asc (soonF (inF kind ex at' (rd L) (sasc C) (now + mem)) R (now + last)) L') (hp : pcheck (inEx kind ex) (if inG kind ex then min (inAt kind at' (now + mem)) (now + last) else inAt kind at' (now + mem)) L' = true)
    {a : Str} (hw : (if kind = 2 ∨ kind = 4 then !C.contains a else C.contains a) = true) (hk : kind ≠ 6) {t : Int} (ht0 : 0 ≤ t) (ht : t < now + mem) :
    padm (inEx kind ex) (if inG kind ex then min (inAt kind at' (now + mem)) (now + last) else inAt kind at' (now + mem)) L' t a = true := by
  obtain ⟨_, h1, h2, h3, h4, h5, h6, h7, h8, h9⟩ := verdict_ok hv
  have hmem : ∀ x, (sasc C).contains x = C.contains x := fun x => by rw [Bool.eq_iff_iff, List.contains_iff_mem, List.contains_iff_mem, sasc_mem]
  rcases kind_six h8 h9 with rfl | rfl | rfl | rfl | rfl | rfl
  · have hc : C.contains a = true := by simpa using hw
    refine padm_run (z := now + mem) hp ?_ ht ht0
    rw [asc_rd hA, soon_not]
    · simp [inF, setF]
      intro h; exact absurd ((sasc_mem C a).2 (List.contains_iff_mem.1 hc)) h
    · intro hm; have := (hR.2 a).1 hm; simp [inQ] at this
  · have hc : C.contains a = false := by simpa using hw
    have hp' : pcheck true (now + mem) L' = true := by simpa [inEx, inG, inAt] using hp
    have : padm true (now + mem) L' t a = true := padm_free hp' (by
      rw [asc_rd hA]; refine soon_none ?_
      have : a ∉ sasc C := by rw [sasc_mem]; simpa using hc
      simp [inF, excF, this]) ht
    simpa [inEx, inG, inAt] using this
  · have hc : C.contains a = true := by simpa using hw
    refine padm_run (z := now + mem) hp ?_ ht ht0
    rw [asc_rd hA, soon_not]
    · simp [inF, setF]
      intro h; exact absurd ((sasc_mem C a).2 (List.contains_iff_mem.1 hc)) h
    · intro hm
      have := (hR.2 a).1 hm
      simp [inQ] at this
      exact this.2 ((sasc_mem C a).2 (List.contains_iff_mem.1 hc))
  · have hc : C.contains a = false := by simpa using hw
    have hp' : pcheck true (now + mem) L' = true := by simpa [inEx, inG, inAt] using hp
    have : padm true (now + mem) L' t a = true := padm_free hp' (by
      rw [asc_rd hA]; refine soon_none ?_
      have : a ∉ sasc C := by rw [sasc_mem]; simpa using hc
      simp [inF, excF, this]) ht
    simpa [inEx, inG, inAt] using this
  · have hc : C.contains a = true := by simpa using hw
    refine padm_run (z := now + mem) hp ?_ ht ht0
    rw [asc_rd hA, soon_not]
    · simp [inF, setF]
      intro h; exact absurd ((sasc_mem C a).2 (List.contains_iff_mem.1 hc)) h
    · intro hm; have := (hR.2 a).1 hm; simp [inQ] at this
  · exact absurd rfl hk

/-- .. so there is a state -/
theorem wants_is {ex : Bool} {at' : Int} {L : List Tmd} {kind : Int} {C : List Str} {now mem last : Int} {n : Nat} (hv : verdict (pcheck ex at' L) kind n now mem last = 0) {K : List Str} (hK : KeysOf' (inF kind ex at' (rd L) (sasc C) (now + mem)) K)
    {a : Str} (hw : (if kind = 2 ∨ kind = 4 then !C.contains a else C.contains a) = true) (hk : kind ≠ 6) : ¬ (inEx kind ex = false ∧ K = []) := by
  obtain ⟨_, h1, h2, h3, h4, h5, h6, h7, h8, h9⟩ := verdict_ok hv
  rintro ⟨he, rfl⟩
  have key : C.contains a = true → kind = 1 ∨ kind = 3 ∨ kind = 5 → False := fun hc hk' => by
    have := (hK.2 a).2 (by rcases hk' with rfl | rfl | rfl <;> simp [inF, setF, (sasc_mem C a).2 (List.contains_iff_mem.1 hc)])
    simp at this
  rcases kind_six h8 h9 with rfl | rfl | rfl | rfl | rfl | rfl
  · exact key (by simpa using hw) (by simp)
  · simp [inEx] at he
  · exact key (by simpa using hw) (by simp)
  · simp [inEx] at he
  · exact key (by simpa using hw) (by simp)
  · exact hk rfl

/-- what was let through still is -/
theorem stays_law {ex : Bool} {at' : Int} {L : List Tmd} {kind : Int} {C : List Str} {n : Nat} {now mem last : Int} (hv : verdict (pcheck ex at' L) kind n now mem last = 0) (hk : kind = 1 ∨ kind = 5 ∨ kind = 6) {a : Str} (hw : padm ex at' L now a = true)
    {K : List Str} (hK : KeysOf' (inF kind ex at' (rd L) (sasc C) (now + mem)) K) : ¬ (inEx kind ex = false ∧ K = []) ∧ ∀ (R : List Str) (L' : List Tmd), Rises (inQ kind ex at' (rd L) (sasc C) (now + mem)) R → Asc (soonF (inF kind ex at' (rd L) (sasc C) (now + mem)) R (now + last)) L' →
      pcheck (inEx kind ex) (if inG kind ex then min (inAt kind at' (now + mem)) (now + last) else inAt kind at' (now + mem)) L' = true → padm (inEx kind ex) (if inG kind ex then min (inAt kind at' (now + mem)) (now + last) else inAt kind at' (now + mem)) L' now a = true ∧ (kind ≠ 6 → R = []) := by
  obtain ⟨_, h1, h2, h3, h4, h5, h6, h7, h8, h9⟩ := verdict_ok hv
  obtain ⟨hp, hc⟩ := padm_iff (by omega) hw
  obtain ⟨p1, p2, p3, _, _⟩ := pcheck_iff.1 hp
  have hE : inEx kind ex = ex := by rcases hk with rfl | rfl | rfl <;> simp [inEx]
  have hAt : (if inG kind ex then min (inAt kind at' (now + mem)) (now + last) else inAt kind at' (now + mem)) = at' := by rcases hk with rfl | rfl | rfl <;> simp [inG, inAt]
  -- what becomes of the source
  have hF : (∃ z, inF kind ex at' (rd L) (sasc C) (now + mem) a = some z ∧ now < z) ∨ (ex = true ∧ now < at' ∧ inF kind ex at' (rd L) (sasc C) (now + mem) a = none) := by
    rcases hk with rfl | rfl | rfl
    · by_cases hm : a ∈ sasc C
      · exact .inl ⟨now + mem, by simp [inF, setF, hm], by omega⟩
      · simpa [inF, setF, hm] using hc
    · by_cases hm : a ∈ sasc C
      · exact .inl ⟨now + mem, by simp [inF, setF, hm], by omega⟩
      · simpa [inF, setF, hm] using hc
    · cases ex
      · simpa [inF] using hc
      · rcases hc with ⟨z, hz, hlt⟩ | ⟨_, hlt, hn⟩
        · refine .inl ⟨z, ?_, hlt⟩
          have hr : runF (rd L) a = true := by unfold runF; rw [hz]; simp; omega
          simp [inF, fillF, hr, hz]
        · have hr : runF (rd L) a = false := by unfold runF; rw [hn]; rfl
          by_cases hm : a ∈ sasc C
          · refine .inl ⟨at', ?_, hlt⟩
            simp [inF, fillF, hr, hm, notBlk, hn]
          · refine .inr ⟨rfl, hlt, ?_⟩
            simp [inF, fillF, hm, hn]
  refine ⟨?_, fun R L' hR hA hpc => ⟨?_, fun h6' => ?_⟩⟩
  · rintro ⟨he, rfl⟩
    rw [hE] at he
    rcases hF with ⟨z, hz, _⟩ | ⟨h, _⟩
    · have := (hK.2 a).2 (by rw [hz]; simp)
      simp at this
    · rw [he] at h; cases h
  · rw [hE, hAt] at hpc ⊢
    rcases hF with ⟨z, hz, hlt⟩ | ⟨h, hlt, hn⟩
    · obtain ⟨y, hy, hly⟩ := soon_run (R := R) (l := now + last) hz hlt (by omega)
      exact padm_run hpc (by rw [asc_rd hA]; exact hy) hly (by omega)
    · subst h
      exact padm_free hpc (by rw [asc_rd hA]; exact soon_none hn) hlt
  · refine rises_unique hR (rises_nil (fun x => ?_))
    rcases hk with rfl | rfl | rfl
    · simp [inQ]
    · simp [inQ]
    · exact absurd rfl h6'

/-- what is said twice -/
theorem twice_law {ex : Bool} {at' : Int} {L : List Tmd} {kind : Int} {C : List Str} {n : Nat} {now mem last : Int} (hv : verdict (pcheck ex at' L) kind n now mem last = 0) (hk : kind = 1 ∨ kind = 2 ∨ kind = 5) {R : List Str} {L' : List Tmd} (hR : Rises (inQ kind ex at' (rd L) (sasc C) (now + mem)) R)
    (hA : Asc (soonF (inF kind ex at' (rd L) (sasc C) (now + mem)) R (now + last)) L') :
    R = [] ∧ inG kind ex = false ∧ inG kind (inEx kind ex) = false ∧ inEx kind (inEx kind ex) = inEx kind ex ∧ inAt kind (inAt kind at' (now + mem)) (now + mem) = inAt kind at' (now + mem) ∧ Asc (inF kind ex at' (rd L) (sasc C) (now + mem)) L' ∧
      inF kind (inEx kind ex) (inAt kind at' (now + mem)) (rd L') (sasc C) (now + mem) = inF kind ex at' (rd L) (sasc C) (now + mem) ∧
      ∀ R2, Rises (inQ kind (inEx kind ex) (inAt kind at' (now + mem)) (rd L') (sasc C) (now + mem)) R2 → R2 = [] := by
  have hR' : R = [] := by
    refine rises_unique hR (rises_nil (fun x => ?_))
    rcases hk with rfl | rfl | rfl <;> simp [inQ]
  subst hR'
  rw [soonF_nil] at hA
  have hrd := asc_rd hA
  refine ⟨rfl, ?_, ?_, ?_, ?_, hA, ?_, fun R2 h2 => ?_⟩
  · rcases hk with rfl | rfl | rfl <;> simp [inG]
  · rcases hk with rfl | rfl | rfl <;> simp [inG]
  · rcases hk with rfl | rfl | rfl <;> simp [inEx]
  · rcases hk with rfl | rfl | rfl <;> simp [inAt]
  · rw [hrd]
    funext a
    rcases hk with rfl | rfl | rfl
    · simp [inF, setF]
      intro h1 h2; exact absurd h1 h2
    · by_cases h : a ∈ sasc C <;> simp [inF, excF, inEx, freshOf, h]
    · simp [inF, setF]
      intro h1 h2; exact absurd h1 h2
  · refine rises_unique h2 (rises_nil (fun x => ?_))
    rcases hk with rfl | rfl | rfl <;> simp [inQ]
end Go.Proofs.Ytkphgonbbhlnfaa
