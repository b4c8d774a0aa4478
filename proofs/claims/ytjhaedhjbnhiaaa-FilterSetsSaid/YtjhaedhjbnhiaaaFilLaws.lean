/- Plain laws of filters; the small contracts as the statements want them. -/
import Derived.Test.YtjhaedhjbnhiaaaFil11
namespace Go.Proofs.Ytjhaedhjbnhiaaa
open Go.RowKit Go.Lib Go.Sort

theorem adm_mem {e : Bool} {L : List Str} {x : Str} (h : x ∈ L) : adm e L x = !e := by unfold adm; simp [h]
theorem adm_not {e : Bool} {L : List Str} {x : Str} (h : x ∉ L) : adm e L x = e := by unfold adm; simp [h]
theorem adm_sasc (e : Bool) (L : List Str) (x : Str) : adm e (sasc L) x = adm e L x := by
  by_cases h : x ∈ L
  · rw [adm_mem h, adm_mem ((sasc_mem L x).2 h)]
  · rw [adm_not h, adm_not (fun k => h ((sasc_mem L x).1 k))]

/-- what is made admits just what the rule says -/
theorem made_adm {L : List Str} {p : Str → Bool} {ex : Bool} (h : ∀ x, x ∉ L → p x = ex) (x : Str) : adm ex (sasc (L.filter (pMade p ex))) x = p x := by
  rw [adm_sasc]
  by_cases hm : x ∈ L
  · by_cases hp : pMade p ex x = true
    · rw [adm_mem (List.mem_filter.2 ⟨hm, hp⟩)]
      unfold pMade at hp
      cases h1 : p x <;> cases ex <;> simp_all
    · rw [adm_not (fun k => hp (List.mem_filter.1 k).2)]
      unfold pMade at hp
      cases h1 : p x <;> cases ex <;> simp_all
  · rw [adm_not (fun k => hm (List.mem_filter.1 k).1), h x hm]

theorem or_adm (e1 : Bool) (A : List Str) (e2 : Bool) (B : List Str) (x : Str) : adm (e1 || e2) (sasc ((A ++ B).filter (pMade (pOr e1 A e2 B) (e1 || e2)))) x = (adm e1 A x || adm e2 B x) :=
  made_adm (p := pOr e1 A e2 B) (fun x hx => by rw [List.mem_append] at hx; unfold pOr; rw [adm_not (fun k => hx (.inl k)), adm_not (fun k => hx (.inr k))]) x
theorem and_adm (e1 : Bool) (A : List Str) (e2 : Bool) (B : List Str) (x : Str) : adm (e1 && e2) (sasc ((A ++ B).filter (pMade (pAnd e1 A e2 B) (e1 && e2)))) x = (adm e1 A x && adm e2 B x) :=
  made_adm (p := pAnd e1 A e2 B) (fun x hx => by rw [List.mem_append] at hx; unfold pAnd; rw [adm_not (fun k => hx (.inl k)), adm_not (fun k => hx (.inr k))]) x
theorem not_adm (e1 : Bool) (A : List Str) (x : Str) : adm (!e1) (sasc (A.filter (pMade (pNot e1 A) (!e1)))) x = !adm e1 A x :=
  made_adm (p := pNot e1 A) (fun x hx => by unfold pNot; rw [adm_not hx]) x

theorem sasc_filter (L : List Str) (p : Str → Bool) : (sasc L).filter p = sasc (L.filter p) :=
  srising_ext ((sasc_rising L).filter _) (sasc_rising _) (fun x => by rw [List.mem_filter, sasc_mem, sasc_mem, List.mem_filter])

theorem not_all (e1 : Bool) (A : List Str) : sasc (A.filter (pMade (pNot e1 A) (!e1))) = sasc A :=
  sasc_eq (fun x => by
    rw [List.mem_filter]
    exact ⟨fun h => h.1, fun h => ⟨h, by unfold pMade pNot; rw [adm_mem h]; cases e1 <;> rfl⟩⟩)

/-- filters in their form that admit the same are one -/
theorem fil_ext {e : Bool} {A B : List Str} (ha : A.Pairwise (· < ·)) (hb : B.Pairwise (· < ·)) (h : ∀ x, adm e A x = adm e B x) : A = B :=
  srising_ext ha hb (fun x => by
    have := h x
    by_cases h1 : x ∈ A
    · by_cases h2 : x ∈ B
      · exact ⟨fun _ => h2, fun _ => h1⟩
      · rw [adm_mem h1, adm_not h2] at this; cases e <;> simp at this
    · by_cases h2 : x ∈ B
      · rw [adm_not h1, adm_mem h2] at this; cases e <;> simp at this
      · exact ⟨fun h => absurd h h1, fun h => absurd h h2⟩)

theorem few_yes (e1 e2 : Bool) (v u : Value) (A B : List Str) (w : World) (h : Strs w v A) (h' : Strs w u B) (ha : A.length ≤ 100) (hb : B.length ≤ 100) :
    Calls Try.prog 9 #[.agg #[.bool e1, v], .agg #[.bool e2, u]] w fun e w' => e = .returned (.bool true) ∧ Below w.heap.size w w' :=
  (few_any e1 e2 v u A B w h h').mono fun _ _ h => ⟨h.1.trans (ret_bool (by simp [ha, hb])), h.2⟩
theorem few_no (e1 e2 : Bool) (v u : Value) (A B : List Str) (w : World) (h : Strs w v A) (h' : Strs w u B) (hn : ¬ (A.length ≤ 100 ∧ B.length ≤ 100)) :
    Calls Try.prog 9 #[.agg #[.bool e1, v], .agg #[.bool e2, u]] w fun e w' => e = .returned (.bool false) ∧ Below w.heap.size w w' :=
  (few_any e1 e2 v u A B w h h').mono fun _ _ h => ⟨h.1.trans (ret_bool (by rw [Bool.and_eq_false_iff, decide_eq_false_iff_not, decide_eq_false_iff_not]; omega)), h.2⟩
theorem same_yes (e1 : Bool) (v u : Value) (A B : List Str) (w : World) (hv : Strs w v A) (hu : Strs w u B) (he : A = B) :
    Calls Try.prog 15 #[.agg #[.bool e1, v], .agg #[.bool e1, u]] w fun e w' => e = .returned (.bool true) ∧ Below w.heap.size w w' :=
  (same_any e1 e1 v u A B w hv hu).mono fun _ _ h => ⟨h.1.trans (ret_bool (by subst he; simp)), h.2⟩
theorem same_yes2 (e1 e2 : Bool) (v u : Value) (A B : List Str) (w : World) (hv : Strs w v A) (hu : Strs w u B) (he : e1 = e2 ∧ A = B) :
    Calls Try.prog 15 #[.agg #[.bool e1, v], .agg #[.bool e2, u]] w fun e w' => e = .returned (.bool true) ∧ Below w.heap.size w w' :=
  (same_any e1 e2 v u A B w hv hu).mono fun _ _ h => ⟨h.1.trans (ret_bool (by obtain ⟨rfl, rfl⟩ := he; simp)), h.2⟩
theorem sasc_flen (L : List Str) (p : Str → Bool) : (sasc (L.filter p)).length ≤ L.length := Nat.le_trans (sasc_length _) (List.length_filter_le _ _)
theorem fil_same {E1 E2 : Bool} {L1 L2 : List Str} (hE : E1 = E2) (p1 : L1.Pairwise (· < ·)) (p2 : L2.Pairwise (· < ·)) (h : ∀ x, adm E1 L1 x = adm E2 L2 x) : E1 = E2 ∧ L1 = L2 :=
  ⟨hE, by subst hE; exact fil_ext p1 p2 h⟩
theorem samerecs_yes (v u : Value) (A B : List Rec) (w : World) (h : Recs w v A) (h' : Recs w u B) (he : A = B) :
    Calls Try.prog 20 #[v, u] w fun e w' => e = .returned (.bool true) ∧ Below w.heap.size w w' :=
  (samerecs_any v u A B w h h').mono fun _ _ h => ⟨h.1.trans (ret_bool (decide_eq_true he)), by obtain ⟨n, hn⟩ := h.2; rw [hn]; exact below_draws _ (Below.refl _ _) n⟩
theorem live_yes (w : World) : Calls Try.prog 10 #[] w fun e w' => e = .returned (.bool true) ∧ Below w.heap.size w w' := live_any w
theorem check_yes (e1 : Bool) (v : Value) (L : List Str) (w : World) (h : Strs w v L) (hr : L.Pairwise (· < ·)) :
    Calls Try.prog 13 #[.agg #[.bool e1, v]] w fun e w' => e = .returned (.int .i64 0) ∧ Below w.heap.size w w' :=
  (check_any e1 v L w h).mono fun _ _ h => ⟨h.1.trans (ret_int (chk_yes ((rises_iff L).2 hr))), h.2⟩
end Go.Proofs.Ytjhaedhjbnhiaaa
