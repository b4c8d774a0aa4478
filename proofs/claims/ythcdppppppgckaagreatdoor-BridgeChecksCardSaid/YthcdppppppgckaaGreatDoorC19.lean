/- Texts joined into one file: GBut, GPlain, GPlain3, GAsk. -/
import Derived.Test.YthcdppppppgckaaGreatDoorC18
import Derived.Test.YthcdppppppgckaaGreatDoorC17
import Derived.Test.YthcdppppppgckaaGreatDoorC15
import Derived.Test.YthcdppppppgckaaGreatDoorC16

namespace Go.Proofs.YthcdppppppgckaaGreatDoor
open Go.RowKit Go.Lib Go.Maps Go.Sort
set_option maxRecDepth 20000


theorem pw_of_next : ∀ {L : List Str}, (∀ k, k + 1 < L.length → L.getD k [] < L.getD (k + 1) []) → L.Pairwise (· < ·)
 | [], _ => List.Pairwise.nil
 | [a], _ => by simp
 | a :: b :: L, h => by
   have h0 : a < b := by have := h 0 (by simp); simpa using this
   have ih : (b :: L).Pairwise (· < ·) := pw_of_next (fun k hk => by have := h (k + 1) (by simp at hk ⊢; omega); simpa using this)
   refine List.pairwise_cons.2 ⟨fun x hx => ?_, ih⟩
   rcases List.mem_cons.1 hx with rfl | hx
   · exact h0
   · exact slt_trans h0 ((List.pairwise_cons.1 ih).1 x hx)

theorem getD_fst (L : List Tmd) (k : Nat) (h : k < L.length) : (L.map Prod.fst).getD k [] = (L.getD k default).1 := by
 simp [List.getD_eq_getElem?_getD, h]

theorem pcheck_iff {ex : Bool} {at' : Int} {L : List Tmd} : pcheck ex at' L = true ↔ L.length ≤ 60 ∧ 0 ≤ at' ∧ (ex = true ↔ 0 < at') ∧ (L.map Prod.fst).Pairwise (· < ·) ∧ ∀ t ∈ L, 0 ≤ t.2 ∧ (ex = false → t.2 ≠ 0) := by
 unfold pcheck
 simp only [Bool.and_eq_true, decide_eq_true_eq, beq_iff_eq, List.all_eq_true, List.mem_range]
 constructor
 · rintro ⟨⟨⟨h1, h2⟩, h3⟩, h4⟩
   refine ⟨h1, h2, by rw [h3]; simp, pw_of_next (fun k hk => ?_), fun t ht => ?_⟩
   · have hk' : k + 1 < L.length := by simpa using hk
     have := h4 (k + 1) hk'
     unfold okAt at this
     rw [getD_fst L k (by omega), getD_fst L (k + 1) hk']
     rw [Bool.and_eq_true] at this
     have h2 := this.2
     simp only [Bool.or_eq_true, decide_eq_true_eq, beq_iff_eq, Nat.add_sub_cancel] at h2
     rcases h2 with h2 | h2
     · omega
     · exact h2
   · obtain ⟨k, hk, rfl⟩ := List.getElem_of_mem ht
     have := h4 k hk
     unfold okAt at this
     simp only [List.getD_eq_getElem?_getD, List.getElem?_eq_getElem hk, Option.getD_some, Bool.and_eq_true, decide_eq_true_eq, Bool.or_eq_true] at this
     refine ⟨this.1.1, fun he => ?_⟩
     rcases this.1.2 with h | h
     · rw [he] at h; cases h
     · exact h
 · rintro ⟨h1, h2, h3, h4, h5⟩
   refine ⟨⟨⟨h1, h2⟩, ?_⟩, fun k hk => ?_⟩
   · cases ex
     · simp at h3; simp; omega
     · simp at h3; simp [h3]
   · unfold okAt
     have hm := h5 _ (List.getElem_mem hk)
     have e : L.getD k default = L[k] := by simp [List.getD_eq_getElem?_getD, hk]
     rw [e]
     simp only [Bool.and_eq_true, decide_eq_true_eq, Bool.or_eq_true]
     refine ⟨⟨hm.1, ?_⟩, ?_⟩
     · cases ex
       · exact .inr (hm.2 rfl)
       · exact .inl rfl
     · cases k with
       | zero => exact .inl rfl
       | succ j =>
         refine .inr ?_
         have := List.pairwise_iff_getElem.1 h4 j (j + 1) (by simp; omega) (by simpa using hk) (by omega)
         have e2 : L.getD (j + 1 - 1) default = L[j] := by simp [List.getD_eq_getElem?_getD, show j < L.length by omega]
         rw [e2]
         simpa using this

theorem pcheck_asc {ex : Bool} {at' : Int} {L : List Tmd} (h : pcheck ex at' L = true) : Asc (rd L) L := asc_of (pcheck_iff.1 h).2.2.2.1 (fun _ => rfl)

def GoodF (ex : Bool) (F : Str → Option Int) : Prop := ∀ a z, F a = some z → 0 ≤ z ∧ (ex = false → z ≠ 0)
theorem good_asc {ex : Bool} {F : Str → Option Int} {L : List Tmd} (hA : Asc F L) : (∀ t ∈ L, 0 ≤ t.2 ∧ (ex = false → t.2 ≠ 0)) ↔ GoodF ex F := by
 constructor
 · intro h a z hF
   obtain ⟨t, ht, rfl⟩ := List.mem_map.1 ((hA.1.2 a).2 (by simp [hF]))
   have := hA.2 t ht
   rw [hF] at this
   injection this with e
   rw [e]; exact h t ht
 · intro h t ht
   exact h t.1 t.2 (hA.2 t ht)
theorem pcheck_good {ex : Bool} {at' : Int} {L : List Tmd} (h : pcheck ex at' L = true) : GoodF ex (rd L) := (good_asc (pcheck_asc h)).1 (pcheck_iff.1 h).2.2.2.2
theorem pcheck_mk {ex : Bool} {at' : Int} {L : List Tmd} {F : Str → Option Int} (hA : Asc F L) (hl : L.length ≤ 60) (h0 : 0 ≤ at') (he : ex = true ↔ 0 < at') (hg : GoodF ex F) : pcheck ex at' L = true :=
 pcheck_iff.2 ⟨hl, h0, he, hA.1.1, (good_asc hA).2 hg⟩

theorem verdict_ok {ok : Bool} {kind : Int} {n : Nat} {now mem last : Int} (h : verdict ok kind n now mem last = 0) : ok = true ∧ 1 ≤ now ∧ now ≤ 1099511627776 ∧ 1 ≤ mem ∧ mem ≤ 1000000 ∧ 1 ≤ last ∧ last ≤ 1000000 ∧ n ≤ 60 ∧ 1 ≤ kind ∧ kind ≤ 6 := by
 unfold verdict at h
 cases ok
 · simp at h
 · simp only [if_true] at h
   by_cases hc : (may now mem last && decide (n ≤ 60) && decide (1 ≤ kind ∧ kind ≤ 6)) = true
   · unfold may at hc
     simp only [Bool.and_eq_true, decide_eq_true_eq] at hc
     obtain ⟨⟨⟨a1, a2, a3, a4, a5, a6⟩, b⟩, c, d⟩ := hc
     exact ⟨rfl, a1, a2, a3, a4, a5, a6, b, c, d⟩
   · rw [if_neg hc] at h; cases h

theorem kind_six {kind : Int} (h1 : 1 ≤ kind) (h2 : kind ≤ 6) : kind = 1 ∨ kind = 2 ∨ kind = 3 ∨ kind = 4 ∨ kind = 5 ∨ kind = 6 := by omega

theorem soonF_keys {F : Str → Option Int} {R : List Str} {z : Int} (a : Str) : soonF F R z a = none ↔ F a = none := by
 unfold soonF
 split
 · rename_i h
   rw [Bool.and_eq_true] at h
   have := runF_some h.2
   simp [this]
 · rfl

theorem good_in {kind : Int} {ex : Bool} {at' m : Int} {F : Str → Option Int} {S : List Str} (hm : 0 < m) (hk1 : 1 ≤ kind) (hk2 : kind ≤ 6) (h0 : 0 ≤ at') (he : ex = true ↔ 0 < at') (hg : GoodF ex F) : GoodF (inEx kind ex) (inF kind ex at' F S m) := by
 intro a z hz
 rcases kind_six hk1 hk2 with rfl | rfl | rfl | rfl | rfl | rfl
 · simp [inF, setF, inEx] at hz ⊢
   split at hz
   · injection hz with hz; subst hz; exact ⟨by omega, fun _ => by omega⟩
   · exact hg a z hz
 · simp [inF, excF, inEx] at hz ⊢
   obtain ⟨_, hz⟩ := hz
   cases hF : F a with
   | none => rw [hF] at hz; simp at hz; subst hz; unfold freshOf; split <;> simp <;> omega
   | some y => rw [hF] at hz; simp at hz; subst hz; exact (hg a y hF).1
 · simp [inF, setF, inEx] at hz ⊢
   split at hz
   · injection hz with hz; subst hz; exact ⟨by omega, fun _ => by omega⟩
   · exact hg a z hz
 · simp [inF, excF, inEx] at hz ⊢
   obtain ⟨_, hz⟩ := hz
   cases hF : F a with
   | none => rw [hF] at hz; simp at hz; subst hz; unfold freshOf; split <;> simp <;> omega
   | some y => rw [hF] at hz; simp at hz; subst hz; exact (hg a y hF).1
 · simp [inF, setF, inEx] at hz ⊢
   split at hz
   · injection hz with hz; subst hz; exact ⟨by omega, fun _ => by omega⟩
   · exact hg a z hz
 · cases ex
   · simp [inF, inEx] at hz ⊢
     exact ⟨(hg a z hz).1, (hg a z hz).2 rfl⟩
   · simp [inF, inEx, fillF] at hz ⊢
     split at hz
     · injection hz with hz; subst hz; exact h0
     · exact (hg a z hz).1

theorem good_soon {ex : Bool} {F : Str → Option Int} {R : List Str} {l : Int} (hl : 0 < l) (hg : GoodF ex F) : GoodF ex (soonF F R l) := by
 intro a z hz
 unfold soonF at hz
 split at hz
 · rename_i h
   rw [Bool.and_eq_true] at h
   injection hz with hz
   cases hF : F a with
   | none => exact absurd hF (runF_some h.2)
   | some y =>
     have := hg a y hF
     have hy : y ≠ 0 := by have := h.2; unfold runF at this; rw [hF] at this; simpa using this
     rw [hF] at hz
     simp at hz
     subst hz
     omega
 · exact hg a z hz

theorem app_check {ex : Bool} {at' : Int} {L : List Tmd} {kind : Int} {S : List Str} {n : Nat} {now mem last : Int} (hv : verdict (pcheck ex at' L) kind n now mem last = 0) {K : List Str} (hK : KeysOf' (inF kind ex at' (rd L) S (now + mem)) K) (h60 : K.length ≤ 60)
 {R : List Str} {L' : List Tmd} (hA : Asc (soonF (inF kind ex at' (rd L) S (now + mem)) R (now + last)) L') :
 pcheck (inEx kind ex) (if inG kind ex then min (inAt kind at' (now + mem)) (now + last) else inAt kind at' (now + mem)) L' = true := by
 obtain ⟨hp, h1, h2, h3, h4, h5, h6, h7, h8, h9⟩ := verdict_ok hv
 obtain ⟨p1, p2, p3, p4, p5⟩ := pcheck_iff.1 hp
 have hg := pcheck_good hp
 have hk : L'.map Prod.fst = K := keys_unique hA.1 ⟨hK.1, fun a => by rw [hK.2, Ne, Ne, soonF_keys]⟩
 have hl : L'.length ≤ 60 := by have := congrArg List.length hk; rw [List.length_map] at this; omega
 refine pcheck_mk hA hl ?_ ?_ (good_soon (by omega) (good_in (by omega) h8 h9 p2 p3 hg))
 · rcases kind_six h8 h9 with rfl | rfl | rfl | rfl | rfl | rfl <;> simp [inAt, inG] <;> first | omega | (split <;> omega)
 · rcases kind_six h8 h9 with rfl | rfl | rfl | rfl | rfl | rfl <;> simp [inAt, inG, inEx] <;> first | omega | exact p3 | skip
   cases ex
   · simp at p3 ⊢; omega
   · simp at p3 ⊢; omega


section
variable {F : Str → Option Int} {L : List Tmd} {C : List Str} {at' m : Int}
end

end Go.Proofs.YthcdppppppgckaaGreatDoor
