/- Texts joined into one file: GPlain, GPlain3, GAsk. -/
import Derived.Test.YtpibmjkbebkilaaGreatW12
import Derived.Test.YtpibmjkbebkilaaGreatW14
import Derived.Test.YtpibmjkbebkilaaGreatW10
import Derived.Test.YtpibmjkbebkilaaGreatW11

namespace Go.Proofs.YtpibmjkbebkilaaGreat
open Go.RowKit Go.Lib Go.Maps Go.Sort
set_option maxRecDepth 20000

theorem pw_of_next : ∀ {L : List Str}, (∀ k, k + 1 < L.length → L.getD k [] < L.getD (k + 1) []) → L.Pairwise (· < ·)
 | [], _ => List.Pairwise.nil
 | [a], _ => by simp
 | a :: b :: L, h => by
   have h0 : a < b := by have := h 0 (by simp); simpa using this
   have ih : (b :: L).Pairwise (· < ·) := pw_of_next (fun k hk => by have := h (k + 1) (by simp at hk ⊢; omega); simpa using this)
   refine List.pairwise_cons.2 ⟨fun x hx => ?_, ih⟩
   rcases List.mem_cons.1 hx with rfl | hx
   · exact h0
   · exact slt_trans h0 ((List.pairwise_cons.1 ih).1 x hx)

theorem getD_fst (L : List Tmd) (k : Nat) (h : k < L.length) : (L.map Prod.fst).getD k [] = (L.getD k default).1 := by
 simp [List.getD_eq_getElem?_getD, h]

theorem pcheck_iff {ex : Bool} {at' : Int} {L : List Tmd} : pcheck ex at' L = true ↔ L.length ≤ 60 ∧ 0 ≤ at' ∧ (ex = true ↔ 0 < at') ∧ (L.map Prod.fst).Pairwise (· < ·) ∧ ∀ t ∈ L, 0 ≤ t.2 ∧ (ex = false → t.2 ≠ 0) := by
 unfold pcheck
 simp only [Bool.and_eq_true, decide_eq_true_eq, beq_iff_eq, List.all_eq_true, List.mem_range]
 constructor
 · rintro ⟨⟨⟨h1, h2⟩, h3⟩, h4⟩
   refine ⟨h1, h2, by rw [h3]; simp, pw_of_next (fun k hk => ?_), fun t ht => ?_⟩
   · have hk' : k + 1 < L.length := by simpa using hk
     have := h4 (k + 1) hk'
     unfold okAt at this
     rw [getD_fst L k (by omega), getD_fst L (k + 1) hk']
     rw [Bool.and_eq_true] at this
     have h2 := this.2
     simp only [Bool.or_eq_true, decide_eq_true_eq, beq_iff_eq, Nat.add_sub_cancel] at h2
     rcases h2 with h2 | h2
     · omega
     · exact h2
   · obtain ⟨k, hk, rfl⟩ := List.getElem_of_mem ht
     have := h4 k hk
     unfold okAt at this
     simp only [List.getD_eq_getElem?_getD, List.getElem?_eq_getElem hk, Option.getD_some, Bool.and_eq_true, decide_eq_true_eq, Bool.or_eq_true] at this
     refine ⟨this.1.1, fun he => ?_⟩
     rcases this.1.2 with h | h
     · rw [he] at h; cases h
     · exact h
 · rintro ⟨h1, h2, h3, h4, h5⟩
   refine ⟨⟨⟨h1, h2⟩, ?_⟩, fun k hk => ?_⟩
   · cases ex
     · simp at h3; simp; omega
     · simp at h3; simp [h3]
   · unfold okAt
     have hm := h5 _ (List.getElem_mem hk)
     have e : L.getD k default = L[k] := by simp [List.getD_eq_getElem?_getD, hk]
     rw [e]
     simp only [Bool.and_eq_true, decide_eq_true_eq, Bool.or_eq_true]
     refine ⟨⟨hm.1, ?_⟩, ?_⟩
     · cases ex
       · exact .inr (hm.2 rfl)
       · exact .inl rfl
     · cases k with
       | zero => exact .inl rfl
       | succ j =>
         refine .inr ?_
         have := List.pairwise_iff_getElem.1 h4 j (j + 1) (by simp; omega) (by simpa using hk) (by omega)
         have e2 : L.getD (j + 1 - 1) default = L[j] := by simp [List.getD_eq_getElem?_getD, show j < L.length by omega]
         rw [e2]
         simpa using this

theorem pcheck_asc {ex : Bool} {at' : Int} {L : List Tmd} (h : pcheck ex at' L = true) : Asc (rd L) L := asc_of (pcheck_iff.1 h).2.2.2.1 (fun _ => rfl)

def GoodF (ex : Bool) (F : Str → Option Int) : Prop := ∀ a z, F a = some z → 0 ≤ z ∧ (ex = false → z ≠ 0)
theorem good_asc {ex : Bool} {F : Str → Option Int} {L : List Tmd} (hA : Asc F L) : (∀ t ∈ L, 0 ≤ t.2 ∧ (ex = false → t.2 ≠ 0)) ↔ GoodF ex F := by
 constructor
 · intro h a z hF
   obtain ⟨t, ht, rfl⟩ := List.mem_map.1 ((hA.1.2 a).2 (by simp [hF]))
   have := hA.2 t ht
   rw [hF] at this
   injection this with e
   rw [e]; exact h t ht
 · intro h t ht
   exact h t.1 t.2 (hA.2 t ht)
theorem pcheck_good {ex : Bool} {at' : Int} {L : List Tmd} (h : pcheck ex at' L = true) : GoodF ex (rd L) := (good_asc (pcheck_asc h)).1 (pcheck_iff.1 h).2.2.2.2
theorem pcheck_mk {ex : Bool} {at' : Int} {L : List Tmd} {F : Str → Option Int} (hA : Asc F L) (hl : L.length ≤ 60) (h0 : 0 ≤ at') (he : ex = true ↔ 0 < at') (hg : GoodF ex F) : pcheck ex at' L = true :=
 pcheck_iff.2 ⟨hl, h0, he, hA.1.1, (good_asc hA).2 hg⟩

theorem verdict_ok {ok : Bool} {kind : Int} {n : Nat} {now mem last : Int} (h : verdict ok kind n now mem last = 0) : ok = true ∧ 1 ≤ now ∧ now ≤ 1099511627776 ∧ 1 ≤ mem ∧ mem ≤ 1000000 ∧ 1 ≤ last ∧ last ≤ 1000000 ∧ n ≤ 60 ∧ 1 ≤ kind ∧ kind ≤ 6 := by
 unfold verdict at h
 cases ok
 · simp at h
 · simp only [if_true] at h
   by_cases hc : (may now mem last && decide (n ≤ 60) && decide (1 ≤ kind ∧ kind ≤ 6)) = true
   · unfold may at hc
     simp only [Bool.and_eq_true, decide_eq_true_eq] at hc
     obtain ⟨⟨⟨a1, a2, a3, a4, a5, a6⟩, b⟩, c, d⟩ := hc
     exact ⟨rfl, a1, a2, a3, a4, a5, a6, b, c, d⟩
   · rw [if_neg hc] at h; cases h

theorem kind_six {kind : Int} (h1 : 1 ≤ kind) (h2 : kind ≤ 6) : kind = 1 ∨ kind = 2 ∨ kind = 3 ∨ kind = 4 ∨ kind = 5 ∨ kind = 6 := by omega

theorem soonF_keys {F : Str → Option Int} {R : List Str} {z : Int} (a : Str) : soonF F R z a = none ↔ F a = none := by
 unfold soonF
 split
 · rename_i h
   rw [Bool.and_eq_true] at h
   have := runF_some h.2
   simp [this]
 · rfl

theorem good_in {kind : Int} {ex : Bool} {at' m : Int} {F : Str → Option Int} {S : List Str} (hm : 0 < m) (hk1 : 1 ≤ kind) (hk2 : kind ≤ 6) (h0 : 0 ≤ at') (he : ex = true ↔ 0 < at') (hg : GoodF ex F) : GoodF (inEx kind ex) (inF kind ex at' F S m) := by
 intro a z hz
 rcases kind_six hk1 hk2 with rfl | rfl | rfl | rfl | rfl | rfl
 · simp [inF, setF, inEx] at hz ⊢
   split at hz
   · injection hz with hz; subst hz; exact ⟨by omega, fun _ => by omega⟩
   · exact hg a z hz
 · simp [inF, excF, inEx] at hz ⊢
   obtain ⟨_, hz⟩ := hz
   cases hF : F a with
   | none => rw [hF] at hz; simp at hz; subst hz; unfold freshOf; split <;> simp <;> omega
   | some y => rw [hF] at hz; simp at hz; subst hz; exact (hg a y hF).1
 · simp [inF, setF, inEx] at hz ⊢
   split at hz
   · injection hz with hz; subst hz; exact ⟨by omega, fun _ => by omega⟩
   · exact hg a z hz
 · simp [inF, excF, inEx] at hz ⊢
   obtain ⟨_, hz⟩ := hz
   cases hF : F a with
   | none => rw [hF] at hz; simp at hz; subst hz; unfold freshOf; split <;> simp <;> omega
   | some y => rw [hF] at hz; simp at hz; subst hz; exact (hg a y hF).1
 · simp [inF, setF, inEx] at hz ⊢
   split at hz
   · injection hz with hz; subst hz; exact ⟨by omega, fun _ => by omega⟩
   · exact hg a z hz
 · cases ex
   · simp [inF, inEx] at hz ⊢
     exact ⟨(hg a z hz).1, (hg a z hz).2 rfl⟩
   · simp [inF, inEx, fillF] at hz ⊢
     split at hz
     · injection hz with hz; subst hz; exact h0
     · exact (hg a z hz).1

theorem good_soon {ex : Bool} {F : Str → Option Int} {R : List Str} {l : Int} (hl : 0 < l) (hg : GoodF ex F) : GoodF ex (soonF F R l) := by
 intro a z hz
 unfold soonF at hz
 split at hz
 · rename_i h
   rw [Bool.and_eq_true] at h
   injection hz with hz
   cases hF : F a with
   | none => exact absurd hF (runF_some h.2)
   | some y =>
     have := hg a y hF
     have hy : y ≠ 0 := by have := h.2; unfold runF at this; rw [hF] at this; simpa using this
     rw [hF] at hz
     simp at hz
     subst hz
     omega
 · exact hg a z hz

theorem app_check {ex : Bool} {at' : Int} {L : List Tmd} {kind : Int} {S : List Str} {n : Nat} {now mem last : Int} (hv : verdict (pcheck ex at' L) kind n now mem last = 0) {K : List Str} (hK : KeysOf' (inF kind ex at' (rd L) S (now + mem)) K) (h60 : K.length ≤ 60)
 {R : List Str} {L' : List Tmd} (hA : Asc (soonF (inF kind ex at' (rd L) S (now + mem)) R (now + last)) L') :
 pcheck (inEx kind ex) (if inG kind ex then min (inAt kind at' (now + mem)) (now + last) else inAt kind at' (now + mem)) L' = true := by
 obtain ⟨hp, h1, h2, h3, h4, h5, h6, h7, h8, h9⟩ := verdict_ok hv
 obtain ⟨p1, p2, p3, p4, p5⟩ := pcheck_iff.1 hp
 have hg := pcheck_good hp
 have hk : L'.map Prod.fst = K := keys_unique hA.1 ⟨hK.1, fun a => by rw [hK.2, Ne, Ne, soonF_keys]⟩
 have hl : L'.length ≤ 60 := by have := congrArg List.length hk; rw [List.length_map] at this; omega
 refine pcheck_mk hA hl ?_ ?_ (good_soon (by omega) (good_in (by omega) h8 h9 p2 p3 hg))
 · rcases kind_six h8 h9 with rfl | rfl | rfl | rfl | rfl | rfl <;> simp [inAt, inG] <;> first | omega | (split <;> omega)
 · rcases kind_six h8 h9 with rfl | rfl | rfl | rfl | rfl | rfl <;> simp [inAt, inG, inEx] <;> first | omega | exact p3 | skip
   cases ex
   · simp at p3 ⊢; omega
   · simp at p3 ⊢; omega


theorem nmL_mem {F : Str → Option Int} {L : List Tmd} (h : Asc F L) (blk : Bool) (a : Str) : a ∈ nmL L blk ↔ ∃ z, F a = some z ∧ (z == 0) = blk := by
 unfold nmL
 constructor
 · intro hm
   obtain ⟨t, ht, rfl⟩ := List.mem_map.1 hm
   obtain ⟨h1, h2⟩ := List.mem_filter.1 ht
   exact ⟨t.2, h.2 t h1, by simpa using h2⟩
 · rintro ⟨z, hz, hb⟩
   obtain ⟨t, ht, rfl⟩ := List.mem_map.1 ((h.1.2 a).2 (by simp [hz]))
   have := h.2 t ht
   rw [hz] at this
   injection this with e
   exact List.mem_map.2 ⟨t, List.mem_filter.2 ⟨ht, by rw [← e]; simpa using hb⟩, rfl⟩
theorem nmL_in {F : Str → Option Int} {L : List Tmd} (h : Asc F L) (blk : Bool) (a : Str) : (nmL L blk).contains a = match F a with | none => false | some z => (z == 0) == blk := by
 rw [Bool.eq_iff_iff, List.contains_iff_mem, nmL_mem h]
 cases F a <;> simp
theorem sasc_in (C : List Str) (a : Str) : (sasc C).contains a = C.contains a := by
 rw [Bool.eq_iff_iff, List.contains_iff_mem, List.contains_iff_mem, sasc_mem]
theorem filt_in (p : Str → Bool) (C : List Str) (a : Str) : (C.filter p).contains a = (C.contains a && p a) := by
 rw [Bool.eq_iff_iff, List.contains_iff_mem, List.mem_filter, Bool.and_eq_true, List.contains_iff_mem]
theorem bothL_in (A B : List Str) (a : Str) : (bothL A B).contains a = (A.contains a && B.contains a) := by unfold bothL; rw [filt_in, sasc_in]
theorem lessF_in (A B : List Str) (a : Str) : (lessF A B).contains a = (A.contains a && !B.contains a) := by unfold lessF; rw [filt_in, sasc_in]
theorem app_in (A B : List Str) (a : Str) : (A ++ B).contains a = (A.contains a || B.contains a) := by simp

theorem rises_both {q : Str → Bool} {A B : List Str} (h : ∀ a, (A.contains a && B.contains a) = q a) : Rises q (bothL A B) :=
 ⟨(sasc_rising A).filter _, fun a => by rw [← List.contains_iff_mem, bothL_in, h]⟩
theorem rises_less {q : Str → Bool} {A B : List Str} (h : ∀ a, (A.contains a && !B.contains a) = q a) : Rises q (lessF A B) :=
 ⟨(sasc_rising A).filter _, fun a => by rw [← List.contains_iff_mem, lessF_in, h]⟩

section
variable {F : Str → Option Int} {L : List Tmd} {C : List Str} {at' m : Int}
theorem plain_keep (h : Asc F L) (hg : GoodF false F) : keepF (fun _ => none) (nmL L false) F = F := by
 funext a
 unfold keepF
 rw [nmL_in h]
 cases hF : F a
 · simp
 · rename_i z
   have := (hg a z hF).2 rfl
   simp [this]
theorem plain_some_in (h : Asc F L) (hg : GoodF false F) : setF (keepF (fun _ => none) (nmL L false) F) C m = setF F C m := by rw [plain_keep h hg]
theorem plain_some_ex (h : Asc F L) (hg : GoodF false F) : keepF (setF (fun _ => none) C 0) (bothL (nmL L false) C) F = excF F C 0 := by
 funext a
 unfold keepF setF excF
 dsimp only
 rw [bothL_in, nmL_in h]
 cases hc : C.contains a
 · cases hF : F a <;> simp
 · cases hF : F a
   · simp
   · rename_i z
     have := (hg a z hF).2 rfl
     simp [this]
theorem plain_but_in (h : Asc F L) : setF (setF (keepF (fun _ => none) (nmL L false) F) (lessF (nmL L true) C) 0) C m = setF F C m := by
 funext a
 unfold setF keepF
 dsimp only
 rw [lessF_in, nmL_in h, nmL_in h]
 cases hc : C.contains a
 · cases hF : F a
   · simp
   · rename_i z
     by_cases hz : z = 0 <;> simp [hz]
 · simp
theorem plain_but_ex (h : Asc F L) : setF (keepF (setF (fun _ => none) (bothL (nmL L true) C) 0) (bothL (nmL L false) C) F) (lessF C (sasc (nmL L false ++ nmL L true))) m = excF F C m := by
 funext a
 unfold setF keepF excF
 dsimp only
 rw [lessF_in, bothL_in, bothL_in, sasc_in, app_in, nmL_in h, nmL_in h]
 cases hc : C.contains a
 · simp
 · cases hF : F a
   · simp
   · rename_i z
     by_cases hz : z = 0 <;> simp [hz]
theorem plain_but_to (h : Asc F L) : setF (setF (keepF (setF (fun _ => none) (bothL (nmL L true) C) 0) (bothL (nmL L false) C) F) (lessF C (sasc (nmL L false ++ nmL L true))) m) (lessF C (sasc (nmL L false ++ nmL L true))) at' = excF F C at' := by
 funext a
 unfold setF keepF excF
 dsimp only
 rw [lessF_in, bothL_in, bothL_in, sasc_in, app_in, nmL_in h, nmL_in h]
 cases hc : C.contains a
 · simp
 · cases hF : F a
   · simp
   · rename_i z
     by_cases hz : z = 0 <;> simp [hz]
theorem plain_but_block (h : Asc F L) : setF (keepF (setF (fun _ => none) (nmL L true) 0) (nmL L false) F) (lessF C (sasc (nmL L false ++ nmL L true))) at' = fillF F (C.filter (notBlk F)) at' := by
 funext a
 unfold setF keepF fillF notBlk runF
 dsimp only
 rw [lessF_in, sasc_in, app_in, nmL_in h, nmL_in h, filt_in]
 cases hc : C.contains a
 · cases hF : F a
   · simp
   · rename_i z
     by_cases hz : z = 0 <;> simp [hz]
 · cases hF : F a
   · simp
   · rename_i z
     by_cases hz : z = 0 <;> simp [hz]

theorem ask_in (h : Asc F L) : Rises (fun a => runF F a && !C.contains a) (lessF (nmL L false) C) := rises_less fun a => by
 rw [nmL_in h]; unfold runF
 cases hF : F a
 · simp
 · rename_i z
   by_cases hz : z = 0 <;> simp [hz, bne]
theorem ask_block (h : Asc F L) : Rises (fun a => C.contains a && runF F a) (bothL (nmL L false) C) := rises_both fun a => by
 rw [nmL_in h, Bool.and_comm]; unfold runF
 cases hF : F a
 · simp
 · rename_i z
   by_cases hz : z = 0 <;> simp [hz, bne]
theorem ask_ex (h : Asc F L) : Rises (fun a => runF (excF F C 0) a) (bothL (nmL L false) C) := rises_both fun a => by
 rw [nmL_in h, Bool.and_comm]; unfold runF excF
 cases hc : C.contains a <;> cases hF : F a
 · simp
 · simp
 · simp
 · rename_i z
   by_cases hz : z = 0 <;> simp [hz, bne]
theorem ask_to (h : Asc F L) (ha : 1 ≤ at') : Rises (fun a => runF (excF F C at') a) (lessF C (nmL L true)) := rises_less fun a => by
 have ha' : at' ≠ 0 := by omega
 rw [nmL_in h]; unfold runF excF
 cases hc : C.contains a <;> cases hF : F a
 · simp
 · simp
 · simp [ha']
 · rename_i z
   by_cases hz : z = 0 <;> simp [hz, bne]
theorem ask_blk (h : Asc F L) : Rises (fun a => C.contains a && notBlk F a) (lessF C (nmL L true)) := rises_less fun a => by
 rw [nmL_in h]; unfold notBlk
 cases hF : F a
 · simp
 · rename_i z
   by_cases hz : z = 0 <;> simp [hz]
end

theorem soonF_gt (F : Str → Option Int) (Q : List Str) (z : Int) (hz : 0 < z) (k : Nat) (h : k < Q.length) (hr : z < (soonF F (Q.take k) z Q[k]).getD 0) : soonF F (Q.take (k + 1)) z = upd (soonF F (Q.take k) z) Q[k] z := by
 have h1 : runF (soonF F (Q.take k) z) Q[k] = true := by unfold runF; rw [bne_iff_ne]; omega
 rw [soonF_yes F Q z k h h1, Int.min_eq_right (by omega)]
theorem soonF_le (F : Str → Option Int) (Q : List Str) (z : Int) (hz : 0 < z) (k : Nat) (h : k < Q.length) (hr : ¬ z < (soonF F (Q.take k) z Q[k]).getD 0) : soonF F (Q.take (k + 1)) z = soonF F (Q.take k) z := by
 cases h1 : runF (soonF F (Q.take k) z) Q[k]
 · exact soonF_no F Q z hz k h h1
 · rw [soonF_yes F Q z k h h1, Int.min_eq_left (by omega)]
   funext a
   unfold upd
   by_cases e : a = Q[k]
   · subst e
     rw [if_pos rfl]
     unfold runF at h1
     cases hv : soonF F (Q.take k) z Q[k]
     · rw [hv] at h1; simp at h1
     · rfl
   · rw [if_neg e]

set_option maxRecDepth 20000 in
set_option maxHeartbeats 4000000 in
theorem asked_any (ex : Bool) (at' : Int) (v : Value) (L : List Tmd) (F : Str → Option Int) (g : Bool) (u : Value) (Q : List Str) (z : Int) (w : World) (hT : Tms w v L) (hA : Asc F L) (hU : Strs w u Q) (hn : L.length + Q.length ≤ 1000000) (hz : (Lit.int .i64 z).wf = true) (hz0 : 0 < z) :
 Calls Tryz.prog 66 #[.agg #[.bool ex, .int .i64 at', v], .agg #[.bool g, u], .int .i64 z] w fun e w' => ∃ v' L', e = .returned (.agg #[.bool ex, .int .i64 (if g then min at' z else at'), v']) ∧ Tms w' v' L' ∧ Asc (soonF F Q z) L' ∧ Below w.heap.size w w' := by
 obtain ⟨vo, vc, rfl⟩ := hT.shape
 obtain ⟨uo, uc, rfl⟩ := hU.shape
 obtain ⟨ok, hok⟩ : ∃ ok : Nat → Prop, ok = fun b => b ≠ w.heap.size ∧ b ≠ w.heap.size + 1 ∧ b ≠ w.heap.size + 1 + 1 := ⟨_, rfl⟩
 obtain ⟨W0, hW0⟩ : ∃ W0, W0 = ((w.alloc (.cells #[.bool ex, .int .i64 at', .slice vo L.length vc] 71)).alloc (.cells #[.bool g, .slice uo Q.length uc] 59)).alloc (.cells #[.bool false, .int .i64 0, .slice none 0 0] 71) := ⟨_, rfl⟩
 have hb0 : Below w.heap.size w W0 := by rw [hW0]; exact (((Below.refl _ _).alloc (Nat.le_refl _) _).alloc (by simp) _).alloc (by simp <;> omega) _
 have hs0 : W0.heap.size = w.heap.size + 1 + 1 + 1 := by rw [hW0]; simp
 have sS : CBox W0 w.heap.size 71 #[.bool ex, .int .i64 at', .slice vo L.length vc] := by rw [hW0]; exact ((CBox.new _ rfl).old _).old _
 have sK : CBox W0 (w.heap.size + 1) 59 #[.bool g, .slice uo Q.length uc] := by rw [hW0]; exact (CBox.new _ (by simp)).old _
 have sR : CBox W0 (w.heap.size + 1 + 1) 71 #[.bool false, .int .i64 0, .slice none 0 0] := by rw [hW0]; exact CBox.new _ (by simp)
 have hst0 : StBox W0 w.heap.size ok ex at' L.length F := ⟨_, L, sS, hT.mono hb0, hA, Nat.le_refl _, fun hL b hb => by rw [hok]; exact ⟨hT.ne_ge (b := w.heap.size) (Nat.le_refl _) hL b hb, hT.ne_ge (b := w.heap.size + 1) (by omega) hL b hb, hT.ne_ge (b := w.heap.size + 1 + 1) (by omega) hL b hb⟩⟩
 have HOK := Lib.hid (show ∀ b, W0.heap.size ≤ b → ok b from fun b hb => by rw [hok]; refine ⟨?_, ?_, ?_⟩ <;> omega)
 have HO1 := Lib.hid (show ∀ b, ok b → b ≠ w.heap.size ∧ b ≠ w.heap.size + 1 ∧ b ≠ w.heap.size + 1 + 1 from fun b hb => by rw [hok] at hb; exact hb)
 have HUS := Lib.hid (hU.ne_ge (b := w.heap.size) (Nat.le_refl _))
 have HU := Lib.hid (hU.mono hb0)
 have hw := hU.len
 have HZ := Lib.hid hz; have HZ0 := Lib.hid hz0
 have HB0 := Lib.hid hb0; have SK := Lib.hid sK; have SR := Lib.hid sR; have HST0 := Lib.hid hst0
 clear hT hU hA hz hz0 hok hb0 sS sK sR hst0
 go_enter Tryz.func66, Tryz.ntmps66
 go_wp2_with fail
 rw [← hW0]
 have HW0 := Lib.hid hW0
 clear hW0
 go_loopw [7] (fun i wr => ∃ k : Nat, k ≤ Q.length ∧ i = .int .i64 k ∧ StBox wr w.heap.size ok ex at' (L.length + k) (soonF F (Q.take k) z) ∧ W0.grownBy wr (some w.heap.size)) (fun i _ => Q.length - (intOf i).toNat)
 case atStart => exact ⟨0, Nat.zero_le _, rfl, by rw [List.take_zero, soonF_nil]; exact HST0.out, World.grownBy.refl _ _⟩
 case round =>
  obtain ⟨k, hk, rfl, hst, hg⟩ := hrel
  have HST := Lib.hid hst
  obtain ⟨v1, L1, c1, t1, a1, n1, o1⟩ := hst
  obtain ⟨v1o, v1c, rfl⟩ := t1.shape
  obtain ⟨b, off, hm, hlen, hidx, hc⟩ := (HU.out.grown' hg HUS.out).facts
  have hgs := hg.size
  have uK := SK.out.grown hg (fun e => by injection e with e; omega)
  have uR := SR.out.grown hg (fun e => by injection e with e; omega)
  obtain ⟨y0, _⟩ := c1.at_ 0 _ rfl
  obtain ⟨y1, _⟩ := c1.at_ 1 _ rfl
  obtain ⟨y2, _⟩ := c1.at_ 2 _ rfl
  obtain ⟨z0, _⟩ := uK.at_ 0 _ rfl
  obtain ⟨z1, _⟩ := uK.at_ 1 _ rfl
  by_cases hlt : k < Q.length
  · have hcell := (hc k hlt).2
    have hbl := (hc k hlt).1
    obtain ⟨a, ha⟩ : ∃ a, Q[k] = a := ⟨_, rfl⟩
    have hal : a.length ≤ maxLen := by rw [← ha]; exact hw _ (List.getElem_mem hlt)
    rw [show Q.getD k [] = a from by rw [← ha]; simp [List.getD_eq_getElem?_getD, hlt], enc_bstr] at hcell
    have hp := hidx k hlt
    have HGT := soonF_gt F Q z HZ0.out k hlt
    have HLE := soonF_le F Q z HZ0.out k hlt
    rw [ha] at HGT HLE
    have HAT := Lib.hid (fun W (hW : Below wr.heap.size wr W) => rat_any ex at' _ L1 a W (t1.mono hW))
    rw [atL_asc a1 a] at HAT
    obtain ⟨t, ht⟩ : ∃ t, (soonF F (Q.take k) z a).getD 0 = t := ⟨_, rfl⟩
    rw [ht] at HAT HGT HLE
    have HG := Lib.hid hg
    have CC := Lib.hid c1; have KK := Lib.hid uK
    have HC := Lib.hid (And.intro hbl hcell)
    have R0 := Lib.hid (Below.drew (Below.refl wr.heap.size wr))
    have CK := Lib.hid (show ∀ w', Below wr.heap.size wr w' → w'.cell? ⟨b, off + k, none⟩ = some (.string (bstr a)) ∧ w'.cell? ⟨w.heap.size, 0, none⟩ = some (.bool ex) ∧ w'.cell? ⟨w.heap.size, 1, none⟩ = some (.int .i64 at') ∧ w'.cell? ⟨w.heap.size, 2, none⟩ = some (.slice v1o L1.length v1c) ∧ w'.cell? ⟨w.heap.size + 1, 1, none⟩ = some (.slice uo Q.length uc) from fun w' hw' =>
     have t1 := CC.out.below hw' CC.out.lt
     have t2 := KK.out.below hw' KK.out.lt
     ⟨(hw'.cell (p := ⟨b, off + k, none⟩) HC.out.1).trans HC.out.2, (t1.at_ 0 _ rfl).1, (t1.at_ 1 _ rfl).1, (t1.at_ 2 _ rfl).1, (t2.at_ 1 _ rfl).1⟩)
    cases hd : decide (z < t)
    · have HT := Lib.hid (HLE (by simpa using hd))
      have d1 : decide (z < t) = false := hd
      clear HGT HLE hidx hc hw ha t1 a1 n1 o1 hg uK uR ht hbl
      go_wp2_with fail
      go_region_held3 (fun w' => w'.cell? ⟨b, off + k, none⟩ = some (.string (bstr a)) ∧ w'.cell? ⟨w.heap.size, 0, none⟩ = some (.bool ex) ∧ w'.cell? ⟨w.heap.size, 1, none⟩ = some (.int .i64 at') ∧ w'.cell? ⟨w.heap.size, 2, none⟩ = some (.slice v1o L1.length v1c) ∧ w'.cell? ⟨w.heap.size + 1, 1, none⟩ = some (.slice uo Q.length uc)) (first | exact CK.out _ HB2.out | exact CK.out _ R0.out) (((with_reducible refine (HAT.out _ R0.out).mono ?_); rintro e w2 ⟨rfl, hb2⟩; have HB2 := Lib.hid (R0.out.trans (hb2.mono R0.out.size)); clear hb2))
      go_wp2_with fail
      go_roundw
      case rel => exact ⟨k + 1, by omega, by go_num, by rw [HT.out]; exact (HST.out.mono HB2.out).up (by omega), grown_below HG.out HB2.out⟩
      case measure => simp [intOf]; omega
    · have HT := Lib.hid (HGT (by simpa using hd))
      have d1 : decide (z < t) = true := hd
      have HP := Lib.hid (fun W (hW : Below wr.heap.size wr W) => put_st a z (fun b hb => HOK.out b (Nat.le_trans (Nat.le_trans HG.out.size hW.size) hb)) (HST.out.mono hW) (by omega) hal HZ.out)
      clear HGT HLE hidx hc hw ha t1 a1 n1 o1 hg uK uR ht hbl
      go_wp2_with fail
      go_region_held3 (fun w' => w'.cell? ⟨b, off + k, none⟩ = some (.string (bstr a)) ∧ w'.cell? ⟨w.heap.size, 0, none⟩ = some (.bool ex) ∧ w'.cell? ⟨w.heap.size, 1, none⟩ = some (.int .i64 at') ∧ w'.cell? ⟨w.heap.size, 2, none⟩ = some (.slice v1o L1.length v1c) ∧ w'.cell? ⟨w.heap.size + 1, 1, none⟩ = some (.slice uo Q.length uc)) (first | exact CK.out _ HB2.out | exact CK.out _ R0.out) (((with_reducible refine (HAT.out _ R0.out).mono ?_); rintro e w2 ⟨rfl, hb2⟩; have HB2 := Lib.hid (R0.out.trans (hb2.mono R0.out.size)); clear hb2))
      obtain ⟨q1, q2, q3, q4, q5⟩ := CK.out _ HB2.out
      have HP2 := Lib.hid (HP.out _ HB2.out)
      clear HP HAT
      go_wp2_with ((with_reducible refine HP2.out.mono ?_); rintro e w3 ⟨rfl, hs3, hg3⟩)
      go_roundw
      case rel => exact ⟨k + 1, by omega, by go_num, by rw [HT.out]; exact hs3, (grown_below HG.out HB2.out).trans hg3⟩
      case measure => simp [intOf]; omega
  · have HT := Lib.hid (show soonF F (Q.take k) z = soonF F Q z from by rw [List.take_of_length_le (by omega)])
    have HO := Lib.hid (fun hL b hb => HO1.out b (o1 hL b hb))
    have HG := Lib.hid hg
    have hmin := fun ty W => run_min ty at' z W
    have TT := Lib.hid t1; have AA := Lib.hid a1; have CC := Lib.hid c1; have RR := Lib.hid uR
    have HBW := Lib.hid (HB0.out.grown HG.out HB0.out.size (fun j e => by injection e with e; omega))
    clear hidx hc hw hg uK t1 a1 n1 o1
    obtain ⟨r0, _⟩ := uR.at_ 0 _ rfl
    obtain ⟨r1, _⟩ := uR.at_ 1 _ rfl
    obtain ⟨r2, _⟩ := uR.at_ 2 _ rfl
    cases g
    · obtain ⟨x0, _⟩ := c1.at_ 0 _ rfl
      obtain ⟨x1, _⟩ := c1.at_ 1 _ rfl
      obtain ⟨x2, _⟩ := c1.at_ 2 _ rfl
      clear c1 uR
      go_wp2
      have R := fun u1 u2 u3 => ((RR.out.set 0 u1).set 1 u2).set 2 u3
      have r0 := fun u1 u2 u3 => ((R u1 u2 u3).at_ 0 _ rfl).1
      have r1 := fun u1 u2 u3 => ((R u1 u2 u3).at_ 1 _ rfl).1
      have r2 := fun u1 u2 u3 => ((R u1 u2 u3).at_ 2 _ rfl).1
      refine bodyPost_ret (v := .agg #[.bool ex, .int .i64 at', .slice v1o L1.length v1c]) (by simp [results, Tryz.results66, go_sem, r0, r1, r2]) rfl ⟨_, rfl, L1, ?_, by rw [← HT.out]; exact AA.out, ((HBW.out.setCell (by simp; omega) _).setCell (by simp; omega) _).setCell (by simp; omega) _⟩
      exact ((TT.out.apart (fun hL b hb => (HO.out hL b hb).2.2) _).apart (fun hL b hb => (HO.out hL b hb).2.2) _).apart (fun hL b hb => (HO.out hL b hb).2.2) _
    · obtain ⟨x0, _⟩ := c1.at_ 0 _ rfl
      obtain ⟨x1, xf1⟩ := c1.at_ 1 _ rfl
      obtain ⟨x2, _⟩ := c1.at_ 2 _ rfl
      have RR1 := Lib.hid (uR.far (p := ⟨w.heap.size, 1, none⟩) (by simp; omega) (.int .i64 (min at' z)))
      obtain ⟨s0, _⟩ := ((c1.set 1 (.int .i64 (min at' z))).at_ 0 _ rfl)
      obtain ⟨s1, _⟩ := ((c1.set 1 (.int .i64 (min at' z))).at_ 1 _ rfl)
      obtain ⟨s2, _⟩ := ((c1.set 1 (.int .i64 (min at' z))).at_ 2 _ rfl)
      clear c1 uR
      go_wp2
      have R := fun u1 u2 u3 => ((RR1.out.set 0 u1).set 1 u2).set 2 u3
      have r0 := fun u1 u2 u3 => ((R u1 u2 u3).at_ 0 _ rfl).1
      have r1 := fun u1 u2 u3 => ((R u1 u2 u3).at_ 1 _ rfl).1
      have r2 := fun u1 u2 u3 => ((R u1 u2 u3).at_ 2 _ rfl).1
      refine bodyPost_ret (v := .agg #[.bool ex, .int .i64 (min at' z), .slice v1o L1.length v1c]) (by simp [results, Tryz.results66, go_sem, r0, r1, r2]) rfl ⟨_, rfl, L1, ?_, by rw [← HT.out]; exact AA.out, (((HBW.out.setCell (by simp) _).setCell (by simp; omega) _).setCell (by simp; omega) _).setCell (by simp; omega) _⟩
      exact (((TT.out.apart (fun hL b hb => (HO.out hL b hb).1) _).apart (fun hL b hb => (HO.out hL b hb).2.2) _).apart (fun hL b hb => (HO.out hL b hb).2.2) _).apart (fun hL b hb => (HO.out hL b hb).2.2) _

theorem rmay_any (now mem last : Int) (w : World) :
 Calls Tryz.prog 62 #[.int .i64 now, .int .i64 mem, .int .i64 last] w fun e w' => e = .returned (.bool (may now mem last)) ∧ w' = w := by
 rw [may_eq]
 cases h1 : decide (1 ≤ now) <;> cases h2 : decide (now ≤ 1099511627776) <;> cases h3 : decide (1 ≤ mem) <;> cases h4 : decide (mem ≤ 1000000) <;> cases h5 : decide (1 ≤ last) <;> cases h6 : decide (last ≤ 1000000)
 all_goals
  go_enter Tryz.func62, Tryz.ntmps62
  go_wp2_with fail
  go_ret
  exact ⟨rfl, rfl⟩
theorem sameask_yes (g : Bool) (u : Value) (Q : List Str) (v : Value) (w : World) (hu : Strs w u Q) (hv : Strs w v Q) :
 Calls Tryz.prog 16 #[.agg #[.bool g, u], .bool g, v] w fun e w' => e = .returned (.bool true) ∧ Below w.heap.size w w' := by
 obtain ⟨uo, uc, rfl⟩ := hu.shape
 have hb0 : Below w.heap.size w (w.alloc (.cells #[.bool g, .slice uo Q.length uc] 59)) := (Below.refl _ _).alloc (Nat.le_refl _) _
 have HC := Lib.hid (ssame_any _ v Q Q _ (hu.mono hb0) (hv.mono hb0))
 rw [beq_self_eq_true] at HC
 have s1 : CBox (w.alloc (.cells #[.bool g, .slice uo Q.length uc] 59)) w.heap.size 59 #[.bool g, .slice uo Q.length uc] := CBox.new _ rfl
 obtain ⟨x0, _⟩ := s1.at_ 0 _ rfl
 obtain ⟨x1, _⟩ := s1.at_ 1 _ rfl
 have HB := Lib.hid hb0
 clear hu hv hb0 s1
 cases g
 all_goals
  go_enter Tryz.func16, Tryz.ntmps16
  go_wp2_with ((with_reducible refine HC.out.mono ?_); rintro e w2 ⟨rfl, n, rfl⟩)
  go_ret
  exact ⟨rfl, HB.out.trans ((below_draws _ (Below.refl _ _) n).mono HB.out.size)⟩
end Go.Proofs.YtpibmjkbebkilaaGreat
