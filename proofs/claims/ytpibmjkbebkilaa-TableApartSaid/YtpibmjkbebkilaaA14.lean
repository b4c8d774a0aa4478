/- Texts joined into one file: GPlain, GPlain3, GAsk. -/
import Derived.Test.YtpibmjkbebkilaaA11
import Derived.Test.YtpibmjkbebkilaaA13
import Derived.Test.YtpibmjkbebkilaaA09
import Derived.Test.YtpibmjkbebkilaaA10

/- Plain laws of layer 17: what a state is behind a record and by time. -/
namespace Go.Proofs.Ytpibmjkbebkilaa
open Go.RowKit Go.Lib Go.Maps Go.Sort
set_option maxRecDepth 20000

theorem pw_of_next : ∀ {L : List Str}, (∀ k, k + 1 < L.length → L.getD k [] < L.getD (k + 1) []) → L.Pairwise (· < ·)
  | [], _ => List.Pairwise.nil
  | [a], _ => by simp
  | a :: b :: L, h => by
    have h0 : a < b := by have := h 0 (by simp); simpa using this
    have ih : (b :: L).Pairwise (· < ·) := pw_of_next (fun k hk => by have := h (k + 1) (by simp at hk ⊢; omega); simpa using this)
    refine List.pairwise_cons.2 ⟨fun x hx => ?_, ih⟩
    rcases List.mem_cons.1 hx with rfl | hx
    · exact h0
    · exact slt_trans h0 ((List.pairwise_cons.1 ih).1 x hx)

theorem getD_fst (L : List Tmd) (k : Nat) (h : k < L.length) : (L.map Prod.fst).getD k [] = (L.getD k default).1 := by
  simp [List.getD_eq_getElem?_getD, h]

/-- what pcheck says -/
theorem pcheck_iff {ex : Bool} {at' : Int} {L : List Tmd} : pcheck ex at' L = true ↔ L.length ≤ 60 ∧ 0 ≤ at' ∧ (ex = true ↔ 0 < at') ∧ (L.map Prod.fst).Pairwise (· < ·) ∧ ∀ t ∈ L, 0 ≤ t.2 ∧ (ex = false → t.2 ≠ 0) := by
  unfold pcheck
  simp only [Bool.and_eq_true, decide_eq_true_eq, beq_iff_eq, List.all_eq_true, List.mem_range]
  constructor
  · rintro ⟨⟨⟨h1, h2⟩, h3⟩, h4⟩
    refine ⟨h1, h2, by rw [h3]; simp, pw_of_next (fun k hk => ?_), fun t ht => ?_⟩
    · have hk' : k + 1 < L.length := by simpa using hk
      have := h4 (k + 1) hk'
      unfold okAt at this
      rw [getD_fst L k (by omega), getD_fst L (k + 1) hk']
      rw [Bool.and_eq_true] at this
      have h2 := this.2
      simp only [Bool.or_eq_true, decide_eq_true_eq, beq_iff_eq, Nat.add_sub_cancel] at h2
      rcases h2 with h2 | h2
      · omega
      · exact h2
    · obtain ⟨k, hk, rfl⟩ := List.getElem_of_mem ht
      have := h4 k hk
      unfold okAt at this
      simp only [List.getD_eq_getElem?_getD, List.getElem?_eq_getElem hk, Option.getD_some, Bool.and_eq_true, decide_eq_true_eq, Bool.or_eq_true] at this
      refine ⟨this.1.1, fun he => ?_⟩
      rcases this.1.2 with h | h
      · rw [he] at h; cases h
      · exact h
  · rintro ⟨h1, h2, h3, h4, h5⟩
    refine ⟨⟨⟨h1, h2⟩, ?_⟩, fun k hk => ?_⟩
    · cases ex
      · simp at h3; simp; omega
      · simp at h3; simp [h3]
    · unfold okAt
      have hm := h5 _ (List.getElem_mem hk)
      have e : L.getD k default = L[k] := by simp [List.getD_eq_getElem?_getD, hk]
      rw [e]
      simp only [Bool.and_eq_true, decide_eq_true_eq, Bool.or_eq_true]
      refine ⟨⟨hm.1, ?_⟩, ?_⟩
      · cases ex
        · exact .inr (hm.2 rfl)
        · exact .inl rfl
      · cases k with
        | zero => exact .inl rfl
        | succ j =>
          refine .inr ?_
          have := List.pairwise_iff_getElem.1 h4 j (j + 1) (by simp; omega) (by simpa using hk) (by omega)
          have e2 : L.getD (j + 1 - 1) default = L[j] := by simp [List.getD_eq_getElem?_getD, show j < L.length by omega]
          rw [e2]
          simpa using this

theorem pcheck_asc {ex : Bool} {at' : Int} {L : List Tmd} (h : pcheck ex at' L = true) : Asc (rd L) L := asc_of (pcheck_iff.1 h).2.2.2.1 (fun _ => rfl)

/-- the values of a state that may be -/
def GoodF (ex : Bool) (F : Str → Option Int) : Prop := ∀ a z, F a = some z → 0 ≤ z ∧ (ex = false → z ≠ 0)
theorem good_asc {ex : Bool} {F : Str → Option Int} {L : List Tmd} (hA : Asc F L) : (∀ t ∈ L, 0 ≤ t.2 ∧ (ex = false → t.2 ≠ 0)) ↔ GoodF ex F := by
  constructor
  · intro h a z hF
    obtain ⟨t, ht, rfl⟩ := List.mem_map.1 ((hA.1.2 a).2 (by simp [hF]))
    have := hA.2 t ht
    rw [hF] at this
    injection this with e
    rw [e]; exact h t ht
  · intro h t ht
    exact h t.1 t.2 (hA.2 t ht)
theorem pcheck_good {ex : Bool} {at' : Int} {L : List Tmd} (h : pcheck ex at' L = true) : GoodF ex (rd L) := (good_asc (pcheck_asc h)).1 (pcheck_iff.1 h).2.2.2.2
theorem pcheck_mk {ex : Bool} {at' : Int} {L : List Tmd} {F : Str → Option Int} (hA : Asc F L) (hl : L.length ≤ 60) (h0 : 0 ≤ at') (he : ex = true ↔ 0 < at') (hg : GoodF ex F) : pcheck ex at' L = true :=
  pcheck_iff.2 ⟨hl, h0, he, hA.1.1, (good_asc hA).2 hg⟩

theorem verdict_ok {ok : Bool} {kind : Int} {n : Nat} {now mem last : Int} (h : verdict ok kind n now mem last = 0) : ok = true ∧ 1 ≤ now ∧ now ≤ 1099511627776 ∧ 1 ≤ mem ∧ mem ≤ 1000000 ∧ 1 ≤ last ∧ last ≤ 1000000 ∧ n ≤ 60 ∧ 1 ≤ kind ∧ kind ≤ 6 := by
  unfold verdict at h
  cases ok
  · simp at h
  · simp only [if_true] at h
    by_cases hc : (may now mem last && decide (n ≤ 60) && decide (1 ≤ kind ∧ kind ≤ 6)) = true
    · unfold may at hc
      simp only [Bool.and_eq_true, decide_eq_true_eq] at hc
      obtain ⟨⟨⟨a1, a2, a3, a4, a5, a6⟩, b⟩, c, d⟩ := hc
      exact ⟨rfl, a1, a2, a3, a4, a5, a6, b, c, d⟩
    · rw [if_neg hc] at h; cases h

theorem kind_six {kind : Int} (h1 : 1 ≤ kind) (h2 : kind ≤ 6) : kind = 1 ∨ kind = 2 ∨ kind = 3 ∨ kind = 4 ∨ kind = 5 ∨ kind = 6 := by omega

theorem soonF_keys {F : Str → Option Int} {R : List Str} {z : Int} (a : Str) : soonF F R z a = none ↔ F a = none := by
  unfold soonF
  split
  · rename_i h
    rw [Bool.and_eq_true] at h
    have := runF_some h.2
    simp [this]
  · rfl

/-- the values behind a record -/
theorem good_in {kind : Int} {ex : Bool} {at' m : Int} {F : Str → Option Int} {S : List Str} (hm : 0 < m) (hk1 : 1 ≤ kind) (hk2 : kind ≤ 6) (h0 : 0 ≤ at') (he : ex = true ↔ 0 < at') (hg : GoodF ex F) : GoodF (inEx kind ex) (inF kind ex at' F S m) := by
  intro a z hz
  rcases kind_six hk1 hk2 with rfl | rfl | rfl | rfl | rfl | rfl
  · simp [inF, setF, inEx] at hz ⊢
    split at hz
    · injection hz with hz; subst hz; exact ⟨by omega, fun _ => by omega⟩
    · exact hg a z hz
  · simp [inF, excF, inEx] at hz ⊢
    obtain ⟨_, hz⟩ := hz
    cases hF : F a with
    | none => rw [hF] at hz; simp at hz; subst hz; unfold freshOf; split <;> simp <;> omega
    | some y => rw [hF] at hz; simp at hz; subst hz; exact (hg a y hF).1
  · simp [inF, setF, inEx] at hz ⊢
    split at hz
    · injection hz with hz; subst hz; exact ⟨by omega, fun _ => by omega⟩
    · exact hg a z hz
  · simp [inF, excF, inEx] at hz ⊢
    obtain ⟨_, hz⟩ := hz
    cases hF : F a with
    | none => rw [hF] at hz; simp at hz; subst hz; unfold freshOf; split <;> simp <;> omega
    | some y => rw [hF] at hz; simp at hz; subst hz; exact (hg a y hF).1
  · simp [inF, setF, inEx] at hz ⊢
    split at hz
    · injection hz with hz; subst hz; exact ⟨by omega, fun _ => by omega⟩
    · exact hg a z hz
  · cases ex
    · simp [inF, inEx] at hz ⊢
      exact ⟨(hg a z hz).1, (hg a z hz).2 rfl⟩
    · simp [inF, inEx, fillF] at hz ⊢
      split at hz
      · injection hz with hz; subst hz; exact h0
      · exact (hg a z hz).1

theorem good_soon {ex : Bool} {F : Str → Option Int} {R : List Str} {l : Int} (hl : 0 < l) (hg : GoodF ex F) : GoodF ex (soonF F R l) := by
  intro a z hz
  unfold soonF at hz
  split at hz
  · rename_i h
    rw [Bool.and_eq_true] at h
    injection hz with hz
    cases hF : F a with
    | none => exact absurd hF (runF_some h.2)
    | some y =>
      have := hg a y hF
      have hy : y ≠ 0 := by have := h.2; unfold runF at this; rw [hF] at this; simpa using this
      rw [hF] at hz
      simp at hz
      subst hz
      omega
  · exact hg a z hz

/-- the state behind a record may be -/
theorem app_check {ex : Bool} {at' : Int} {L : List Tmd} {kind : Int} {S : List Str} {n : Nat} {now mem last : Int} (hv : verdict (pcheck ex at' L) kind n now mem last = 0) {K : List Str} (hK : KeysOf' (inF kind ex at' (rd L) S (now + mem)) K) (h60 : K.length ≤ 60)
    {R : List Str} {L' : List Tmd} (hA : Asc (soonF (inF kind ex at' (rd L) S (now + mem)) R (now + last)) L') :
    pcheck (inEx kind ex) (if inG kind ex then min (inAt kind at' (now + mem)) (now + last) else inAt kind at' (now + mem)) L' = true := by
  obtain ⟨hp, h1, h2, h3, h4, h5, h6, h7, h8, h9⟩ := verdict_ok hv
  obtain ⟨p1, p2, p3, p4, p5⟩ := pcheck_iff.1 hp
  have hg := pcheck_good hp
  have hk : L'.map Prod.fst = K := keys_unique hA.1 ⟨hK.1, fun a => by rw [hK.2, Ne, Ne, soonF_keys]⟩
  have hl : L'.length ≤ 60 := by have := congrArg List.length hk; rw [List.length_map] at this; omega
  refine pcheck_mk hA hl ?_ ?_ (good_soon (by omega) (good_in (by omega) h8 h9 p2 p3 hg))
  · rcases kind_six h8 h9 with rfl | rfl | rfl | rfl | rfl | rfl <;> simp [inAt, inG] <;> first | omega | (split <;> omega)
  · rcases kind_six h8 h9 with rfl | rfl | rfl | rfl | rfl | rfl <;> simp [inAt, inG, inEx] <;> first | omega | exact p3 | skip
    cases ex
    · simp at p3 ⊢; omega
    · simp at p3 ⊢; omega

/-- by time -/
theorem exp_check {ex : Bool} {at' : Int} {L L' : List Tmd} {now : Int} (hp : pcheck ex at' L = true) (hA : Asc (exF (ex && decide (now < at')) now (rd L)) L') (hl : L'.length ≤ L.length) :
    pcheck (ex && decide (now < at')) (if (ex && decide (now < at')) then at' else 0) L' = true := by
  obtain ⟨p1, p2, p3, p4, p5⟩ := pcheck_iff.1 hp
  have hg := pcheck_good hp
  obtain ⟨e2, he2⟩ : ∃ e2, e2 = (ex && decide (now < at')) := ⟨_, rfl⟩
  rw [← he2] at hA ⊢
  refine pcheck_mk hA (by omega) ?_ ?_ (fun a z hz => ?_)
  · split <;> omega
  · cases e2
    · simp
    · have : ex = true := by
        cases ex
        · simp at he2
        · rfl
      simp [p3.1 this]
  · unfold exF at hz
    cases hF : rd L a with
    | none => rw [hF] at hz; cases hz
    | some y =>
      rw [hF] at hz
      have := hg a y hF
      simp only at hz
      split at hz
      · injection hz with hz
        subst hz
        refine ⟨this.1, fun h => ?_⟩
        cases ex
        · exact this.2 rfl
        · rename_i hn
          rw [he2] at h
          simp at h
          have := this.1
          have := p3.1 rfl
          omega
      · split at hz
        · rename_i h; injection hz with hz; subst hz; exact ⟨by omega, fun h' => by rw [h] at h'; cases h'⟩
        · cases hz

theorem exF_twice {e : Bool} {now : Int} {F : Str → Option Int} : exF e now (exF e now F) = exF e now F := by
  funext a
  unfold exF
  cases F a with
  | none => rfl
  | some z =>
    by_cases h : now < z
    · simp [h]
    · cases e
      · simp [h]
      · by_cases h0 : now < 0 <;> simp [h, h0]
end Go.Proofs.Ytpibmjkbebkilaa

/- The document's answer to a record is the program's: the sources, one by one, and what is asked. -/
namespace Go.Proofs.Ytpibmjkbebkilaa
open Go.RowKit Go.Lib Go.Maps Go.Sort
set_option maxRecDepth 20000

theorem nmL_mem {F : Str → Option Int} {L : List Tmd} (h : Asc F L) (blk : Bool) (a : Str) : a ∈ nmL L blk ↔ ∃ z, F a = some z ∧ (z == 0) = blk := by
  unfold nmL
  constructor
  · intro hm
    obtain ⟨t, ht, rfl⟩ := List.mem_map.1 hm
    obtain ⟨h1, h2⟩ := List.mem_filter.1 ht
    exact ⟨t.2, h.2 t h1, by simpa using h2⟩
  · rintro ⟨z, hz, hb⟩
    obtain ⟨t, ht, rfl⟩ := List.mem_map.1 ((h.1.2 a).2 (by simp [hz]))
    have := h.2 t ht
    rw [hz] at this
    injection this with e
    exact List.mem_map.2 ⟨t, List.mem_filter.2 ⟨ht, by rw [← e]; simpa using hb⟩, rfl⟩
theorem nmL_in {F : Str → Option Int} {L : List Tmd} (h : Asc F L) (blk : Bool) (a : Str) : (nmL L blk).contains a = match F a with | none => false | some z => (z == 0) == blk := by
  rw [Bool.eq_iff_iff, List.contains_iff_mem, nmL_mem h]
  cases F a <;> simp
theorem sasc_in (C : List Str) (a : Str) : (sasc C).contains a = C.contains a := by
  rw [Bool.eq_iff_iff, List.contains_iff_mem, List.contains_iff_mem, sasc_mem]
theorem filt_in (p : Str → Bool) (C : List Str) (a : Str) : (C.filter p).contains a = (C.contains a && p a) := by
  rw [Bool.eq_iff_iff, List.contains_iff_mem, List.mem_filter, Bool.and_eq_true, List.contains_iff_mem]
theorem bothL_in (A B : List Str) (a : Str) : (bothL A B).contains a = (A.contains a && B.contains a) := by unfold bothL; rw [filt_in, sasc_in]
theorem lessF_in (A B : List Str) (a : Str) : (lessF A B).contains a = (A.contains a && !B.contains a) := by unfold lessF; rw [filt_in, sasc_in]
theorem app_in (A B : List Str) (a : Str) : (A ++ B).contains a = (A.contains a || B.contains a) := by simp

theorem rises_both {q : Str → Bool} {A B : List Str} (h : ∀ a, (A.contains a && B.contains a) = q a) : Rises q (bothL A B) :=
  ⟨(sasc_rising A).filter _, fun a => by rw [← List.contains_iff_mem, bothL_in, h]⟩
theorem rises_less {q : Str → Bool} {A B : List Str} (h : ∀ a, (A.contains a && !B.contains a) = q a) : Rises q (lessF A B) :=
  ⟨(sasc_rising A).filter _, fun a => by rw [← List.contains_iff_mem, lessF_in, h]⟩

section
variable {F : Str → Option Int} {L : List Tmd} {C : List Str} {at' m : Int}
theorem plain_keep (h : Asc F L) (hg : GoodF false F) : keepF (fun _ => none) (nmL L false) F = F := by
  funext a
  unfold keepF
  rw [nmL_in h]
  cases hF : F a
  · simp
  · rename_i z
    have := (hg a z hF).2 rfl
    simp [this]
theorem plain_some_in (h : Asc F L) (hg : GoodF false F) : setF (keepF (fun _ => none) (nmL L false) F) C m = setF F C m := by rw [plain_keep h hg]
theorem plain_some_ex (h : Asc F L) (hg : GoodF false F) : keepF (setF (fun _ => none) C 0) (bothL (nmL L false) C) F = excF F C 0 := by
  funext a
  unfold keepF setF excF
  dsimp only
  rw [bothL_in, nmL_in h]
  cases hc : C.contains a
  · cases hF : F a <;> simp
  · cases hF : F a
    · simp
    · rename_i z
      have := (hg a z hF).2 rfl
      simp [this]
theorem plain_but_in (h : Asc F L) : setF (setF (keepF (fun _ => none) (nmL L false) F) (lessF (nmL L true) C) 0) C m = setF F C m := by
  funext a
  unfold setF keepF
  dsimp only
  rw [lessF_in, nmL_in h, nmL_in h]
  cases hc : C.contains a
  · cases hF : F a
    · simp
    · rename_i z
      by_cases hz : z = 0 <;> simp [hz]
  · simp
theorem plain_but_ex (h : Asc F L) : setF (keepF (setF (fun _ => none) (bothL (nmL L true) C) 0) (bothL (nmL L false) C) F) (lessF C (sasc (nmL L false ++ nmL L true))) m = excF F C m := by
  funext a
  unfold setF keepF excF
  dsimp only
  rw [lessF_in, bothL_in, bothL_in, sasc_in, app_in, nmL_in h, nmL_in h]
  cases hc : C.contains a
  · simp
  · cases hF : F a
    · simp
    · rename_i z
      by_cases hz : z = 0 <;> simp [hz]
theorem plain_but_to (h : Asc F L) : setF (setF (keepF (setF (fun _ => none) (bothL (nmL L true) C) 0) (bothL (nmL L false) C) F) (lessF C (sasc (nmL L false ++ nmL L true))) m) (lessF C (sasc (nmL L false ++ nmL L true))) at' = excF F C at' := by
  funext a
  unfold setF keepF excF
  dsimp only
  rw [lessF_in, bothL_in, bothL_in, sasc_in, app_in, nmL_in h, nmL_in h]
  cases hc : C.contains a
  · simp
  · cases hF : F a
    · simp
    · rename_i z
      by_cases hz : z = 0 <;> simp [hz]
theorem plain_but_block (h : Asc F L) : setF (keepF (setF (fun _ => none) (nmL L true) 0) (nmL L false) F) (lessF C (sasc (nmL L false ++ nmL L true))) at' = fillF F (C.filter (notBlk F)) at' := by
  funext a
  unfold setF keepF fillF notBlk runF
  dsimp only
  rw [lessF_in, sasc_in, app_in, nmL_in h, nmL_in h, filt_in]
  cases hc : C.contains a
  · cases hF : F a
    · simp
    · rename_i z
      by_cases hz : z = 0 <;> simp [hz]
  · cases hF : F a
    · simp
    · rename_i z
      by_cases hz : z = 0 <;> simp [hz]

theorem ask_in (h : Asc F L) : Rises (fun a => runF F a && !C.contains a) (lessF (nmL L false) C) := rises_less fun a => by
  rw [nmL_in h]; unfold runF
  cases hF : F a
  · simp
  · rename_i z
    by_cases hz : z = 0 <;> simp [hz, bne]
theorem ask_block (h : Asc F L) : Rises (fun a => C.contains a && runF F a) (bothL (nmL L false) C) := rises_both fun a => by
  rw [nmL_in h, Bool.and_comm]; unfold runF
  cases hF : F a
  · simp
  · rename_i z
    by_cases hz : z = 0 <;> simp [hz, bne]
theorem ask_ex (h : Asc F L) : Rises (fun a => runF (excF F C 0) a) (bothL (nmL L false) C) := rises_both fun a => by
  rw [nmL_in h, Bool.and_comm]; unfold runF excF
  cases hc : C.contains a <;> cases hF : F a
  · simp
  · simp
  · simp
  · rename_i z
    by_cases hz : z = 0 <;> simp [hz, bne]
theorem ask_to (h : Asc F L) (ha : 1 ≤ at') : Rises (fun a => runF (excF F C at') a) (lessF C (nmL L true)) := rises_less fun a => by
  have ha' : at' ≠ 0 := by omega
  rw [nmL_in h]; unfold runF excF
  cases hc : C.contains a <;> cases hF : F a
  · simp
  · simp
  · simp [ha']
  · rename_i z
    by_cases hz : z = 0 <;> simp [hz, bne]
theorem ask_blk (h : Asc F L) : Rises (fun a => C.contains a && notBlk F a) (lessF C (nmL L true)) := rises_less fun a => by
  rw [nmL_in h]; unfold notBlk
  cases hF : F a
  · simp
  · rename_i z
    by_cases hz : z = 0 <;> simp [hz]
end
end Go.Proofs.Ytpibmjkbebkilaa

/- siphonref17.asked, May, SameAsk. -/
namespace Go.Proofs.Ytpibmjkbebkilaa
open Go.RowKit Go.Lib Go.Maps Go.Sort
set_option maxRecDepth 20000

theorem soonF_gt (F : Str → Option Int) (Q : List Str) (z : Int) (hz : 0 < z) (k : Nat) (h : k < Q.length) (hr : z < (soonF F (Q.take k) z Q[k]).getD 0) : soonF F (Q.take (k + 1)) z = upd (soonF F (Q.take k) z) Q[k] z := by
  have h1 : runF (soonF F (Q.take k) z) Q[k] = true := by unfold runF; rw [bne_iff_ne]; omega
  rw [soonF_yes F Q z k h h1, Int.min_eq_right (by omega)]
theorem soonF_le (F : Str → Option Int) (Q : List Str) (z : Int) (hz : 0 < z) (k : Nat) (h : k < Q.length) (hr : ¬ z < (soonF F (Q.take k) z Q[k]).getD 0) : soonF F (Q.take (k + 1)) z = soonF F (Q.take k) z := by
  cases h1 : runF (soonF F (Q.take k) z) Q[k]
  · exact soonF_no F Q z hz k h h1
  · rw [soonF_yes F Q z k h h1, Int.min_eq_left (by omega)]
    funext a
    unfold upd
    by_cases e : a = Q[k]
    · subst e
      rw [if_pos rfl]
      unfold runF at h1
      cases hv : soonF F (Q.take k) z Q[k]
      · rw [hv] at h1; simp at h1
      · rfl
    · rw [if_neg e]

end Go.Proofs.Ytpibmjkbebkilaa
