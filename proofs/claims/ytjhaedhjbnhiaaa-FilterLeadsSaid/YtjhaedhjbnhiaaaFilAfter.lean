/- siphonlaw11.after: what a filter is behind a record; and what the records of Diff lead to. -/
import Derived.Test.YtjhaedhjbnhiaaaFilLaws
import Derived.Deep.RegionWith
namespace Go.Proofs.Ytjhaedhjbnhiaaa
open Go.RowKit Go.Lib Go.Sort
attribute [local go_sem ↓] Go.wp_at_zero Go.wp_at_succ

def aftE (k : Int) (e : Bool) : Bool := if k = 3 then false else if k = 4 then true else e
def aftB (k : Int) (a c : Bool) : Bool := if k = 3 then c else if k = 4 then !c else if k = 5 then a || c else a && !c
def foldE (e : Bool) (R : List Rec) : Bool := R.foldl (fun e r => aftE r.1 e) e
def foldB (x : Str) (a : Bool) (R : List Rec) : Bool := R.foldl (fun a r => aftB r.1 a (r.2.2.contains x)) a
def kindOk (k : Int) : Prop := k = 3 ∨ k = 4 ∨ k = 5 ∨ k = 6

theorem foldB_rec1 (x : Str) (a : Bool) (k : Int) (g : Str) (L : List Str) (hk : k = 5 ∨ k = 6) : foldB x a (rec1 k g L) = aftB k a (L.contains x) := by
  unfold rec1
  by_cases h : L = []
  · subst h
    rw [if_pos rfl]
    rcases hk with rfl | rfl <;> simp [foldB, aftB]
  · rw [if_neg h]; rfl

theorem foldE_rec1 (e : Bool) (k : Int) (g : Str) (L : List Str) (hk : k = 5 ∨ k = 6) : foldE e (rec1 k g L) = e := by
  unfold rec1
  by_cases h : L = []
  · rw [if_pos h]; rfl
  · rw [if_neg h]; rcases hk with rfl | rfl <;> rfl

theorem foldB_append (x : Str) (a : Bool) (R S : List Rec) : foldB x a (R ++ S) = foldB x (foldB x a R) S := by simp [foldB]
theorem foldE_append (e : Bool) (R S : List Rec) : foldE e (R ++ S) = foldE (foldE e R) S := by simp [foldE]

theorem kind_rec1 {k : Int} {g : Str} {L : List Str} (hk : kindOk k) : ∀ r ∈ rec1 k g L, kindOk r.1 := by
  intro r hr
  unfold rec1 at hr
  split at hr
  · simp at hr
  · rw [List.mem_singleton] at hr; subst hr; exact hk

theorem leads_plain (g : Str) (e : Bool) (A : List Str) (d : Bool) (B : List Str) :
    (pdiff g e A d B).length ≤ 2 ∧ (∀ r ∈ pdiff g e A d B, kindOk r.1) ∧ foldE e (pdiff g e A d B) = d ∧ ∀ x, foldB x (adm e A x) (pdiff g e A d B) = adm d B x := by
  unfold pdiff
  by_cases h : e = d
  · subst h
    rw [if_pos rfl]
    refine ⟨?_, ?_, ?_, fun x => ?_⟩
    · have h1 := rec1_len 5 g (sasc ((A ++ B).filter (pDif e B e A)))
      have h2 := rec1_len 6 g (sasc ((A ++ B).filter (pDif e A e B)))
      rw [List.length_append]; omega
    · intro r hr
      rcases List.mem_append.1 hr with hr | hr
      · exact kind_rec1 (.inr (.inr (.inl rfl))) r hr
      · exact kind_rec1 (.inr (.inr (.inr rfl))) r hr
    · rw [foldE_append, foldE_rec1 _ _ _ _ (.inl rfl), foldE_rec1 _ _ _ _ (.inr rfl)]
    · rw [foldB_append, foldB_rec1 _ _ _ _ _ (.inl rfl), foldB_rec1 _ _ _ _ _ (.inr rfl)]
      have c : ∀ p : Str → Bool, (sasc ((A ++ B).filter p)).contains x = ((A ++ B).contains x && p x) := fun p => by
        rw [Bool.eq_iff_iff, List.contains_iff_mem, sasc_mem, List.mem_filter, Bool.and_eq_true, List.contains_iff_mem]
      rw [c, c]
      by_cases hm : x ∈ A ++ B
      · have hc : (A ++ B).contains x = true := List.contains_iff_mem.2 hm
        rw [hc]
        unfold pDif aftB
        cases adm e A x <;> cases adm e B x <;> rfl
      · have hc : (A ++ B).contains x = false := by
          cases hh : (A ++ B).contains x
          · rfl
          · exact absurd (List.contains_iff_mem.1 hh) hm
        rw [hc]
        rw [List.mem_append] at hm
        rw [adm_not (fun k => hm (.inl k)), adm_not (fun k => hm (.inr k))]
        cases e <;> rfl
  · rw [if_neg h]
    refine ⟨by simp, fun r hr => ?_, ?_, fun x => ?_⟩
    · rw [List.mem_singleton] at hr; subst hr
      unfold kindOk
      cases d <;> simp
    · cases d <;> rfl
    · have hc : (sasc B).contains x = B.contains x := by rw [Bool.eq_iff_iff, List.contains_iff_mem, List.contains_iff_mem, sasc_mem]
      show aftB (if d then 4 else 3) _ ((sasc B).contains x) = adm d B x
      rw [hc]
      unfold adm aftB
      cases d <;> simp

/-- what 'after' hands back -/
def RetAft (w : World) (e : Bool) (L : List Str) (k : Int) (S : List Str) (en : Ending) (w' : World) : Prop :=
  ∃ E' L', RetFil w E' L' en w' ∧ L'.Pairwise (· < ·) ∧ E' = aftE k e ∧ ∀ x, adm E' L' x = aftB k (adm e L x) (S.contains x)

theorem adm_false (S : List Str) (x : Str) : adm false S x = S.contains x := by unfold adm; simp

theorem RetFil.aft {w : World} {e E' : Bool} {L L' S : List Str} {k : Int} {en : Ending} {w' : World} (h : RetFil w E' L' en w') (hp : L'.Pairwise (· < ·)) (hE : E' = aftE k e) (hx : ∀ x, adm E' L' x = aftB k (adm e L x) (S.contains x)) : RetAft w e L k S en w' :=
  ⟨E', L', h, hp, hE, hx⟩

set_option maxHeartbeats 4000000 in
theorem after_any (e : Bool) (v : Value) (L : List Str) (k : Int) (g : Str) (s : Value) (S : List Str) (w : World) (hv : Strs w v L) (hs : Strs w s S) (hk : kindOk k) (hl : L.length + S.length ≤ 4398046511104) :
    Calls Try.prog 28 #[.agg #[.bool e, v], .agg #[.int .i64 k, .string (bstr g), s]] w (RetAft w e L k S) := by
  obtain ⟨ao, cap, rfl⟩ := hv.shape
  obtain ⟨so, sc, rfl⟩ := hs.shape
  obtain ⟨W0, hW0⟩ : ∃ W0, W0 = (((w.alloc (.cells #[.bool e, .slice ao L.length cap] 24)).alloc (.cells #[.int .i64 k, .string (bstr g), .slice so S.length sc] 41)).alloc (.cells #[.bool false, .slice none 0 0] 24)).alloc (.cells #[.bool false, .slice so S.length sc] 24) := ⟨_, rfl⟩
  have hb0 : Below w.heap.size w W0 := by rw [hW0]; exact ((((Below.refl _ _).alloc (Nat.le_refl _) _).alloc (by simp) _).alloc (by simp <;> omega) _).alloc (by simp <;> omega) _
  have hs0 : W0.heap.size = w.heap.size + 4 := by rw [hW0]; simp
  have HZ := Lib.hid (fun W' (hb : Below (w.heap.size + 2 + 1) W0 W') => zbox (B := w.heap.size + 2) (T := 24) (by rw [hW0]; exact (Below.heap_alloc _ _ _ (by simp)).trans (heap_new _ _ _ (by simp))) hb)
  have HB0 := Lib.hid hb0
  have hv0 := hv.mono hb0
  have hs1 := hs.mono hb0
  rcases hk with rfl | rfl | rfl | rfl
  · have HC := Lib.hid (norm_any false _ S W0 hs1 (by omega))
    rw [hW0] at HC HB0 HZ
    have HX := Lib.hid (show ∀ x, adm false (sasc S) x = aftB 3 (adm e L x) (S.contains x) from fun x => by rw [adm_sasc, adm_false]; rfl)
    have HP := Lib.hid (sasc_rising S)
    generalize sasc S = R at *
    clear hv hs hv0 hs1 hb0 hs0 hW0 W0
    go_enter Try.func28, Try.ntmps28
    go_wp2_with ((with_reducible refine HC.out.mono ?_); rintro e w' ⟨o, rfl, ho, hb, hlo⟩; obtain ⟨oo, oc, rfl⟩ := ho.shape; have HB1 := Lib.hid (hb.mono (B' := w.heap.size + 2 + 1) (by simp <;> omega)); have HL := Lib.hid (hlo.mono (lo' := w.heap.size + 3) (by simp <;> omega)); obtain ⟨z0, z1, z2, z3⟩ := HZ.out _ HB1.out; have HH := Lib.hid ho; clear hb hlo ho; obtain ⟨r0, r1⟩ := cells_pairA (w := w') (b := w.heap.size + 1 + 1) z0 z1)
    exact bodyPost_ret (v := .agg #[.bool false, .slice oo R.length oc]) (by simp [results, Try.results28, go_sem, r0, r1]) rfl (RetFil.aft ⟨_, rfl, (HH.out.far HL.out (by simp <;> omega) _).far HL.out (by simp <;> omega) _, HB0.out.trans ((HB1.out.mono (by omega)).setCell (by simp <;> omega) _ |>.setCell (by simp <;> omega) _), HL.out.mono (by omega)⟩ HP.out rfl HX.out)
  · have HC := Lib.hid (not_any false _ S W0 hs1 (by omega))
    rw [hW0] at HC HB0 HZ
    have HX := Lib.hid (show ∀ x, adm true (sasc (S.filter (pMade (pNot false S) (!false)))) x = aftB 4 (adm e L x) (S.contains x) from fun x => (not_adm false S x).trans (by rw [adm_false]; rfl))
    have HP := Lib.hid (sasc_rising (S.filter (pMade (pNot false S) (!false))))
    generalize sasc (S.filter (pMade (pNot false S) (!false))) = R at *
    simp only [Bool.not_false] at HC
    clear hv hs hv0 hs1 hb0 hs0 hW0 W0
    go_enter Try.func28, Try.ntmps28
    go_wp2_with ((with_reducible refine HC.out.mono ?_); rintro e w' ⟨o, rfl, ho, hb, hlo⟩; obtain ⟨oo, oc, rfl⟩ := ho.shape; have HB1 := Lib.hid (hb.mono (B' := w.heap.size + 2 + 1) (by simp <;> omega)); have HL := Lib.hid (hlo.mono (lo' := w.heap.size + 3) (by simp <;> omega)); obtain ⟨z0, z1, z2, z3⟩ := HZ.out _ HB1.out; have HH := Lib.hid ho; clear hb hlo ho; obtain ⟨r0, r1⟩ := cells_pairA (w := w') (b := w.heap.size + 1 + 1) z0 z1)
    exact bodyPost_ret (v := .agg #[.bool true, .slice oo R.length oc]) (by simp [results, Try.results28, go_sem, r0, r1]) rfl (RetFil.aft ⟨_, rfl, (HH.out.far HL.out (by simp <;> omega) _).far HL.out (by simp <;> omega) _, HB0.out.trans ((HB1.out.mono (by omega)).setCell (by simp <;> omega) _ |>.setCell (by simp <;> omega) _), HL.out.mono (by omega)⟩ HP.out (by simp [aftE]) HX.out)
  · have HC := Lib.hid (or_any e false _ _ L S W0 hv0 hs1 (by omega))
    rw [hW0] at HC HB0 HZ
    have HX := Lib.hid (show ∀ x, adm e (sasc ((L ++ S).filter (pMade (pOr e L false S) (e || false)))) x = aftB 5 (adm e L x) (S.contains x) from fun x => by have := or_adm e L false S x; rw [Bool.or_false] at this; rw [Bool.or_false, this, adm_false]; rfl)
    have HP := Lib.hid (sasc_rising ((L ++ S).filter (pMade (pOr e L false S) (e || false))))
    generalize sasc ((L ++ S).filter (pMade (pOr e L false S) (e || false))) = R at *
    simp only [Bool.or_false] at HC
    clear hv hs hv0 hs1 hb0 hs0 hW0 W0
    go_enter Try.func28, Try.ntmps28
    go_wp2_with ((with_reducible refine HC.out.mono ?_); rintro e w' ⟨o, rfl, ho, hb, hlo⟩; obtain ⟨oo, oc, rfl⟩ := ho.shape; have HB1 := Lib.hid (hb.mono (B' := w.heap.size + 2 + 1) (by simp <;> omega)); have HL := Lib.hid (hlo.mono (lo' := w.heap.size + 3) (by simp <;> omega)); obtain ⟨z0, z1, z2, z3⟩ := HZ.out _ HB1.out; have HH := Lib.hid ho; clear hb hlo ho; obtain ⟨r0, r1⟩ := cells_pairA (w := w') (b := w.heap.size + 1 + 1) z0 z1)
    exact bodyPost_ret (v := .agg #[.bool e, .slice oo R.length oc]) (by simp [results, Try.results28, go_sem, r0, r1]) rfl (RetFil.aft ⟨_, rfl, (HH.out.far HL.out (by simp <;> omega) _).far HL.out (by simp <;> omega) _, HB0.out.trans ((HB1.out.mono (by omega)).setCell (by simp <;> omega) _ |>.setCell (by simp <;> omega) _), HL.out.mono (by omega)⟩ HP.out (by simp [aftE]) HX.out)
  · obtain ⟨N, hN⟩ : ∃ N, N = sasc (S.filter (pMade (pNot false S) (!false))) := ⟨_, rfl⟩
    have hnl : N.length ≤ S.length := by rw [hN]; exact sasc_flen _ _
    have hnx : ∀ x, adm true N x = !S.contains x := fun x => by rw [hN]; exact (not_adm false S x).trans (by rw [adm_false])
    obtain ⟨R, hR⟩ : ∃ R, R = sasc ((L ++ N).filter (pMade (pAnd e L true N) (e && true))) := ⟨_, rfl⟩
    have HX := Lib.hid (show ∀ x, adm e R x = aftB 6 (adm e L x) (S.contains x) from fun x => by
      have := and_adm e L true N x
      rw [← hR, Bool.and_true, hnx] at this
      rw [this]; rfl)
    have HP := Lib.hid (show R.Pairwise (· < ·) by rw [hR]; exact sasc_rising _)
    have HC : Hid (Calls Try.prog 24 #[.agg #[.bool false, .slice so S.length sc]] W0.drew (RetFil W0.drew true N)) := by
      rw [hN]; exact not_any false _ S W0.drew (hs1.draws 1) (by omega)
    have HD : Hid (∀ (W' : World) (u : Value), Below w.heap.size w W' → Strs W' u N → Calls Try.prog 23 #[.agg #[.bool e, .slice ao L.length cap], .agg #[.bool true, u]] W' (RetFil W' e R)) := by
      intro W' u hb hu
      have := and_any e true _ u L N W' (hv.mono hb) hu (by omega)
      rw [← hR, Bool.and_true] at this
      exact this
    have f0 : FBox W0 w.heap.size e (.slice ao L.length cap) := by rw [hW0]; exact (((FBox.new _ _ rfl).old _).old _).old _
    have f3 : FBox W0 (w.heap.size + 3) false (.slice so S.length sc) := by rw [hW0]; exact FBox.new _ _ (by simp)
    have k1 : W0.cell? ⟨w.heap.size + 1, 0, none⟩ = some (.int .i64 6) := by rw [hW0]; exact cell_alloc_old (by simp <;> omega) (cell_alloc_old (by simp <;> omega) (cell_alloc_new (by simp) rfl))
    have HK := Lib.hid (show ∀ W', Below W0.heap.size W0 W' → W'.cell? ⟨w.heap.size, 0, none⟩ = some (.bool e) ∧ W'.cell? ⟨w.heap.size, 1, none⟩ = some (.slice ao L.length cap) ∧ W'.cell? ⟨w.heap.size + 3, 0, none⟩ = some (.bool false) ∧ W'.cell? ⟨w.heap.size + 3, 1, none⟩ = some (.slice so S.length sc) from fun W' hb =>
      ⟨(f0.below hb f0.lt).facts.1, (f0.below hb f0.lt).facts.2.1, (f3.below hb f3.lt).facts.1, (f3.below hb f3.lt).facts.2.1⟩)
    have HK2 := Lib.hid (show ∀ W', Below W0.heap.size W0 W' → ∀ u1 u2, ((W'.setCell ⟨w.heap.size + 2, 0, none⟩ u1).setCell ⟨w.heap.size + 2, 1, none⟩ u2).cell? ⟨w.heap.size, 0, none⟩ = some (.bool e) ∧ ((W'.setCell ⟨w.heap.size + 2, 0, none⟩ u1).setCell ⟨w.heap.size + 2, 1, none⟩ u2).cell? ⟨w.heap.size, 1, none⟩ = some (.slice ao L.length cap) ∧ ((W'.setCell ⟨w.heap.size + 2, 0, none⟩ u1).setCell ⟨w.heap.size + 2, 1, none⟩ u2).cell? ⟨w.heap.size + 3, 0, none⟩ = some (.bool false) ∧ ((W'.setCell ⟨w.heap.size + 2, 0, none⟩ u1).setCell ⟨w.heap.size + 2, 1, none⟩ u2).cell? ⟨w.heap.size + 3, 1, none⟩ = some (.slice so S.length sc) from fun W' hb u1 u2 => by
      have g0 := f0.below hb f0.lt
      have g3 := f3.below hb f3.lt
      refine ⟨?_, ?_, ?_, ?_⟩
      all_goals
        rw [World.cell?_setCell_other _ _ _ _ (by simp), World.cell?_setCell_other _ _ _ _ (by simp)]
      · exact g0.facts.1
      · exact g0.facts.2.1
      · exact g3.facts.1
      · exact g3.facts.2.1)
    have HS0 := Lib.hid hs0
    have R0 := Lib.hid (Below.drew (Below.refl W0.heap.size W0))
    have HW0 := Lib.hid hW0
    rw [hW0] at HC HB0 HZ HK HK2 R0 HS0
    clear hv hs hv0 hs1 hb0 hs0 f0 f3 k1 hnx hN hR hW0 HW0 W0
    go_enter Try.func28, Try.ntmps28
    go_wp2
    go_region_held3 (fun w' => w'.cell? ⟨w.heap.size, 0, none⟩ = some (.bool e) ∧ w'.cell? ⟨w.heap.size, 1, none⟩ = some (.slice ao L.length cap) ∧ w'.cell? ⟨w.heap.size + 3, 0, none⟩ = some (.bool false) ∧ w'.cell? ⟨w.heap.size + 3, 1, none⟩ = some (.slice so S.length sc)) (first | exact HK2.out _ R2.out _ _ | exact HK.out _ R2.out | exact HK.out _ R1.out | exact HK.out _ R0.out) (first | ((with_reducible refine (HD.out _ _ (HB0.out.trans (R1.out.mono HB0.out.size)) HN.out).mono ?_); rintro e w2 ⟨o, rfl, ho, hb, hlo⟩; obtain ⟨oo, oc, rfl⟩ := ho.shape; have R2 := Lib.hid (R1.out.trans (hb.mono R1.out.size)); have hrs := R1.out.size; have HB1 := Lib.hid (R2.out.mono (B' := w.heap.size + 2 + 1) (by rw [HS0.out]; omega)); have HL := Lib.hid (hlo.mono (lo' := w.heap.size + 3) (by rw [HS0.out] at hrs; omega)); obtain ⟨z0, z1, z2, z3⟩ := HZ.out _ HB1.out; have HH := Lib.hid ho; clear hb hlo ho hrs) | ((with_reducible refine HC.out.mono ?_); rintro e w1 ⟨o, rfl, ho, hb, _⟩; obtain ⟨no, nc, rfl⟩ := ho.shape; have HN := Lib.hid ho; have R1 := Lib.hid (R0.out.trans (hb.mono (by simp))); clear ho hb))
    obtain ⟨r0, r1⟩ := cells_pairA (w := w2) (b := w.heap.size + 1 + 1) z0 z1
    go_wp2
    exact bodyPost_ret (v := .agg #[.bool e, .slice oo R.length oc]) (by simp [results, Try.results28, go_sem, r0, r1]) rfl (RetFil.aft ⟨_, rfl, (HH.out.far HL.out (by simp <;> omega) _).far HL.out (by simp <;> omega) _, HB0.out.trans ((HB1.out.mono (by omega)).setCell (by simp <;> omega) _ |>.setCell (by simp <;> omega) _), HL.out.mono (by omega)⟩ HP.out (by simp [aftE]) HX.out)
end Go.Proofs.Ytjhaedhjbnhiaaa
