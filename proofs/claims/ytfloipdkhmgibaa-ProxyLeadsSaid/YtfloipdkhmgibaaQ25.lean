/- Texts joined into one file: PAfter, PLead, POpen2. -/
import Derived.Test.YtfloipdkhmgibaaQ22
import Derived.Deep.RegionWith
import Derived.Test.YtfloipdkhmgibaaQ23

/- siphonlaw21.after: what a filter is behind a record; and what the records of Diff lead to. -/
namespace Go.Proofs.Ytfloipdkhmgibaa
open Go.RowKit Go.Lib Go.Sort
set_option maxRecDepth 20000
attribute [local go_sem ↓] Go.wp_at_zero Go.wp_at_succ

def aftE (k : Int) (e : Bool) : Bool := if k = 3 then false else if k = 4 then true else e
def aftB (k : Int) (a c : Bool) : Bool := if k = 3 then c else if k = 4 then !c else if k = 5 then a || c else a && !c
def foldE (e : Bool) (R : List Rec) : Bool := R.foldl (fun e r => aftE r.1 e) e
def foldB (x : Str) (a : Bool) (R : List Rec) : Bool := R.foldl (fun a r => aftB r.1 a (r.2.2.contains x)) a
def kindOk (k : Int) : Prop := k = 3 ∨ k = 4 ∨ k = 5 ∨ k = 6

theorem foldB_rec1 (x : Str) (a : Bool) (k : Int) (g : Str) (L : List Str) (hk : k = 5 ∨ k = 6) : foldB x a (rec1 k g L) = aftB k a (L.contains x) := by
  unfold rec1
  by_cases h : L = []
  · subst h
    rw [if_pos rfl]
    rcases hk with rfl | rfl <;> simp [foldB, aftB]
  · rw [if_neg h]; rfl

theorem foldE_rec1 (e : Bool) (k : Int) (g : Str) (L : List Str) (hk : k = 5 ∨ k = 6) : foldE e (rec1 k g L) = e := by
  unfold rec1
  by_cases h : L = []
  · rw [if_pos h]; rfl
  · rw [if_neg h]; rcases hk with rfl | rfl <;> rfl

theorem foldB_append (x : Str) (a : Bool) (R S : List Rec) : foldB x a (R ++ S) = foldB x (foldB x a R) S := by simp [foldB]
theorem foldE_append (e : Bool) (R S : List Rec) : foldE e (R ++ S) = foldE (foldE e R) S := by simp [foldE]

theorem kind_rec1 {k : Int} {g : Str} {L : List Str} (hk : kindOk k) : ∀ r ∈ rec1 k g L, kindOk r.1 := by
  intro r hr
  unfold rec1 at hr
  split at hr
  · simp at hr
  · rw [List.mem_singleton] at hr; subst hr; exact hk

theorem leads_plain (g : Str) (e : Bool) (A : List Str) (d : Bool) (B : List Str) :
    (pdiff g e A d B).length ≤ 2 ∧ (∀ r ∈ pdiff g e A d B, kindOk r.1) ∧ foldE e (pdiff g e A d B) = d ∧ ∀ x, foldB x (adm e A x) (pdiff g e A d B) = adm d B x := by
  unfold pdiff
  by_cases h : e = d
  · subst h
    rw [if_pos rfl]
    refine ⟨?_, ?_, ?_, fun x => ?_⟩
    · have h1 := rec1_len 5 g (sasc ((A ++ B).filter (pDif e B e A)))
      have h2 := rec1_len 6 g (sasc ((A ++ B).filter (pDif e A e B)))
      rw [List.length_append]; omega
    · intro r hr
      rcases List.mem_append.1 hr with hr | hr
      · exact kind_rec1 (.inr (.inr (.inl rfl))) r hr
      · exact kind_rec1 (.inr (.inr (.inr rfl))) r hr
    · rw [foldE_append, foldE_rec1 _ _ _ _ (.inl rfl), foldE_rec1 _ _ _ _ (.inr rfl)]
    · rw [foldB_append, foldB_rec1 _ _ _ _ _ (.inl rfl), foldB_rec1 _ _ _ _ _ (.inr rfl)]
      have c : ∀ p : Str → Bool, (sasc ((A ++ B).filter p)).contains x = ((A ++ B).contains x && p x) := fun p => by
        rw [Bool.eq_iff_iff, List.contains_iff_mem, sasc_mem, List.mem_filter, Bool.and_eq_true, List.contains_iff_mem]
      rw [c, c]
      by_cases hm : x ∈ A ++ B
      · have hc : (A ++ B).contains x = true := List.contains_iff_mem.2 hm
        rw [hc]
        unfold pDif aftB
        cases adm e A x <;> cases adm e B x <;> rfl
      · have hc : (A ++ B).contains x = false := by
          cases hh : (A ++ B).contains x
          · rfl
          · exact absurd (List.contains_iff_mem.1 hh) hm
        rw [hc]
        rw [List.mem_append] at hm
        rw [adm_not (fun k => hm (.inl k)), adm_not (fun k => hm (.inr k))]
        cases e <;> rfl
  · rw [if_neg h]
    refine ⟨by simp, fun r hr => ?_, ?_, fun x => ?_⟩
    · rw [List.mem_singleton] at hr; subst hr
      unfold kindOk
      cases d <;> simp
    · cases d <;> rfl
    · have hc : (sasc B).contains x = B.contains x := by rw [Bool.eq_iff_iff, List.contains_iff_mem, List.contains_iff_mem, sasc_mem]
      show aftB (if d then 4 else 3) _ ((sasc B).contains x) = adm d B x
      rw [hc]
      unfold adm aftB
      cases d <;> simp

/-- what 'after' hands back -/
def RetAft (w : World) (e : Bool) (L : List Str) (k : Int) (S : List Str) (en : Ending) (w' : World) : Prop :=
  ∃ E' L', RetFil w E' L' en w' ∧ L'.Pairwise (· < ·) ∧ E' = aftE k e ∧ ∀ x, adm E' L' x = aftB k (adm e L x) (S.contains x)

theorem adm_false (S : List Str) (x : Str) : adm false S x = S.contains x := by unfold adm; simp

theorem RetFil.aft {w : World} {e E' : Bool} {L L' S : List Str} {k : Int} {en : Ending} {w' : World} (h : RetFil w E' L' en w') (hp : L'.Pairwise (· < ·)) (hE : E' = aftE k e) (hx : ∀ x, adm E' L' x = aftB k (adm e L x) (S.contains x)) : RetAft w e L k S en w' :=
  ⟨E', L', h, hp, hE, hx⟩

set_option maxHeartbeats 4000000 in
theorem after_any (e : Bool) (v : Value) (L : List Str) (k : Int) (g : Str) (s : Value) (S : List Str) (w : World) (hv : Strs w v L) (hs : Strs w s S) (hk : kindOk k) (hl : L.length + S.length ≤ 4398046511104) :
    Calls Try.prog 24 #[.agg #[.bool e, v], .agg #[.int .i64 k, .string (bstr g), s]] w (RetAft w e L k S) := by
  obtain ⟨ao, cap, rfl⟩ := hv.shape
  obtain ⟨so, sc, rfl⟩ := hs.shape
  obtain ⟨W0, hW0⟩ : ∃ W0, W0 = (((w.alloc (.cells #[.bool e, .slice ao L.length cap] 28)).alloc (.cells #[.int .i64 k, .string (bstr g), .slice so S.length sc] 54)).alloc (.cells #[.bool false, .slice none 0 0] 28)).alloc (.cells #[.bool false, .slice so S.length sc] 28) := ⟨_, rfl⟩
  have hb0 : Below w.heap.size w W0 := by rw [hW0]; exact ((((Below.refl _ _).alloc (Nat.le_refl _) _).alloc (by simp) _).alloc (by simp <;> omega) _).alloc (by simp <;> omega) _
  have hs0 : W0.heap.size = w.heap.size + 4 := by rw [hW0]; simp
  have HZ := Lib.hid (fun W' (hb : Below (w.heap.size + 2 + 1) W0 W') => zbox (B := w.heap.size + 2) (T := 28) (by rw [hW0]; exact (Below.heap_alloc _ _ _ (by simp)).trans (heap_new _ _ _ (by simp))) hb)
  have HB0 := Lib.hid hb0
  have hv0 := hv.mono hb0
  have hs1 := hs.mono hb0
  rcases hk with rfl | rfl | rfl | rfl
  · have HC := Lib.hid (norm_any false _ S W0 hs1 (by omega))
    rw [hW0] at HC HB0 HZ
    have HX := Lib.hid (show ∀ x, adm false (sasc S) x = aftB 3 (adm e L x) (S.contains x) from fun x => by rw [adm_sasc, adm_false]; rfl)
    have HP := Lib.hid (sasc_rising S)
    generalize sasc S = R at *
    clear hv hs hv0 hs1 hb0 hs0 hW0 W0
    go_enter Try.func24, Try.ntmps24
    go_wp2_with ((with_reducible refine HC.out.mono ?_); rintro e w' ⟨o, rfl, ho, hb, hlo⟩; obtain ⟨oo, oc, rfl⟩ := ho.shape; have HB1 := Lib.hid (hb.mono (B' := w.heap.size + 2 + 1) (by simp <;> omega)); have HL := Lib.hid (hlo.mono (lo' := w.heap.size + 3) (by simp <;> omega)); obtain ⟨z0, z1, z2, z3⟩ := HZ.out _ HB1.out; have HH := Lib.hid ho; clear hb hlo ho; obtain ⟨r0, r1⟩ := cells_pairA (w := w') (b := w.heap.size + 1 + 1) z0 z1)
    exact bodyPost_ret (v := .agg #[.bool false, .slice oo R.length oc]) (by simp [results, Try.results24, go_sem, r0, r1]) rfl (RetFil.aft ⟨_, rfl, (HH.out.far HL.out (by simp <;> omega) _).far HL.out (by simp <;> omega) _, HB0.out.trans ((HB1.out.mono (by omega)).setCell (by simp <;> omega) _ |>.setCell (by simp <;> omega) _), HL.out.mono (by omega)⟩ HP.out rfl HX.out)
  · have HC := Lib.hid (not_any false _ S W0 hs1 (by omega))
    rw [hW0] at HC HB0 HZ
    have HX := Lib.hid (show ∀ x, adm true (sasc (S.filter (pMade (pNot false S) (!false)))) x = aftB 4 (adm e L x) (S.contains x) from fun x => (not_adm false S x).trans (by rw [adm_false]; rfl))
    have HP := Lib.hid (sasc_rising (S.filter (pMade (pNot false S) (!false))))
    generalize sasc (S.filter (pMade (pNot false S) (!false))) = R at *
    simp only [Bool.not_false] at HC
    clear hv hs hv0 hs1 hb0 hs0 hW0 W0
    go_enter Try.func24, Try.ntmps24
    go_wp2_with ((with_reducible refine HC.out.mono ?_); rintro e w' ⟨o, rfl, ho, hb, hlo⟩; obtain ⟨oo, oc, rfl⟩ := ho.shape; have HB1 := Lib.hid (hb.mono (B' := w.heap.size + 2 + 1) (by simp <;> omega)); have HL := Lib.hid (hlo.mono (lo' := w.heap.size + 3) (by simp <;> omega)); obtain ⟨z0, z1, z2, z3⟩ := HZ.out _ HB1.out; have HH := Lib.hid ho; clear hb hlo ho; obtain ⟨r0, r1⟩ := cells_pairA (w := w') (b := w.heap.size + 1 + 1) z0 z1)
    exact bodyPost_ret (v := .agg #[.bool true, .slice oo R.length oc]) (by simp [results, Try.results24, go_sem, r0, r1]) rfl (RetFil.aft ⟨_, rfl, (HH.out.far HL.out (by simp <;> omega) _).far HL.out (by simp <;> omega) _, HB0.out.trans ((HB1.out.mono (by omega)).setCell (by simp <;> omega) _ |>.setCell (by simp <;> omega) _), HL.out.mono (by omega)⟩ HP.out (by simp [aftE]) HX.out)
  · have HC := Lib.hid (or_any e false _ _ L S W0 hv0 hs1 (by omega))
    rw [hW0] at HC HB0 HZ
    have HX := Lib.hid (show ∀ x, adm e (sasc ((L ++ S).filter (pMade (pOr e L false S) (e || false)))) x = aftB 5 (adm e L x) (S.contains x) from fun x => by have := or_adm e L false S x; rw [Bool.or_false] at this; rw [Bool.or_false, this, adm_false]; rfl)
    have HP := Lib.hid (sasc_rising ((L ++ S).filter (pMade (pOr e L false S) (e || false))))
    generalize sasc ((L ++ S).filter (pMade (pOr e L false S) (e || false))) = R at *
    simp only [Bool.or_false] at HC
    clear hv hs hv0 hs1 hb0 hs0 hW0 W0
    go_enter Try.func24, Try.ntmps24
    go_wp2_with ((with_reducible refine HC.out.mono ?_); rintro e w' ⟨o, rfl, ho, hb, hlo⟩; obtain ⟨oo, oc, rfl⟩ := ho.shape; have HB1 := Lib.hid (hb.mono (B' := w.heap.size + 2 + 1) (by simp <;> omega)); have HL := Lib.hid (hlo.mono (lo' := w.heap.size + 3) (by simp <;> omega)); obtain ⟨z0, z1, z2, z3⟩ := HZ.out _ HB1.out; have HH := Lib.hid ho; clear hb hlo ho; obtain ⟨r0, r1⟩ := cells_pairA (w := w') (b := w.heap.size + 1 + 1) z0 z1)
    exact bodyPost_ret (v := .agg #[.bool e, .slice oo R.length oc]) (by simp [results, Try.results24, go_sem, r0, r1]) rfl (RetFil.aft ⟨_, rfl, (HH.out.far HL.out (by simp <;> omega) _).far HL.out (by simp <;> omega) _, HB0.out.trans ((HB1.out.mono (by omega)).setCell (by simp <;> omega) _ |>.setCell (by simp <;> omega) _), HL.out.mono (by omega)⟩ HP.out (by simp [aftE]) HX.out)
  · obtain ⟨N, hN⟩ : ∃ N, N = sasc (S.filter (pMade (pNot false S) (!false))) := ⟨_, rfl⟩
    have hnl : N.length ≤ S.length := by rw [hN]; exact sasc_flen _ _
    have hnx : ∀ x, adm true N x = !S.contains x := fun x => by rw [hN]; exact (not_adm false S x).trans (by rw [adm_false])
    obtain ⟨R, hR⟩ : ∃ R, R = sasc ((L ++ N).filter (pMade (pAnd e L true N) (e && true))) := ⟨_, rfl⟩
    have HX := Lib.hid (show ∀ x, adm e R x = aftB 6 (adm e L x) (S.contains x) from fun x => by
      have := and_adm e L true N x
      rw [← hR, Bool.and_true, hnx] at this
      rw [this]; rfl)
    have HP := Lib.hid (show R.Pairwise (· < ·) by rw [hR]; exact sasc_rising _)
    have HC : Hid (Calls Try.prog 44 #[.agg #[.bool false, .slice so S.length sc]] W0.drew (RetFil W0.drew true N)) := by
      rw [hN]; exact not_any false _ S W0.drew (hs1.draws 1) (by omega)
    have HD : Hid (∀ (W' : World) (u : Value), Below w.heap.size w W' → Strs W' u N → Calls Try.prog 45 #[.agg #[.bool e, .slice ao L.length cap], .agg #[.bool true, u]] W' (RetFil W' e R)) := by
      intro W' u hb hu
      have := and_any e true _ u L N W' (hv.mono hb) hu (by omega)
      rw [← hR, Bool.and_true] at this
      exact this
    have f0 : FBox W0 w.heap.size e (.slice ao L.length cap) := by rw [hW0]; exact (((FBox.new _ _ rfl).old _).old _).old _
    have f3 : FBox W0 (w.heap.size + 3) false (.slice so S.length sc) := by rw [hW0]; exact FBox.new _ _ (by simp)
    have k1 : W0.cell? ⟨w.heap.size + 1, 0, none⟩ = some (.int .i64 6) := by rw [hW0]; exact cell_alloc_old (by simp <;> omega) (cell_alloc_old (by simp <;> omega) (cell_alloc_new (by simp) rfl))
    have HK := Lib.hid (show ∀ W', Below W0.heap.size W0 W' → W'.cell? ⟨w.heap.size, 0, none⟩ = some (.bool e) ∧ W'.cell? ⟨w.heap.size, 1, none⟩ = some (.slice ao L.length cap) ∧ W'.cell? ⟨w.heap.size + 3, 0, none⟩ = some (.bool false) ∧ W'.cell? ⟨w.heap.size + 3, 1, none⟩ = some (.slice so S.length sc) from fun W' hb =>
      ⟨(f0.below hb f0.lt).facts.1, (f0.below hb f0.lt).facts.2.1, (f3.below hb f3.lt).facts.1, (f3.below hb f3.lt).facts.2.1⟩)
    have HK2 := Lib.hid (show ∀ W', Below W0.heap.size W0 W' → ∀ u1 u2, ((W'.setCell ⟨w.heap.size + 2, 0, none⟩ u1).setCell ⟨w.heap.size + 2, 1, none⟩ u2).cell? ⟨w.heap.size, 0, none⟩ = some (.bool e) ∧ ((W'.setCell ⟨w.heap.size + 2, 0, none⟩ u1).setCell ⟨w.heap.size + 2, 1, none⟩ u2).cell? ⟨w.heap.size, 1, none⟩ = some (.slice ao L.length cap) ∧ ((W'.setCell ⟨w.heap.size + 2, 0, none⟩ u1).setCell ⟨w.heap.size + 2, 1, none⟩ u2).cell? ⟨w.heap.size + 3, 0, none⟩ = some (.bool false) ∧ ((W'.setCell ⟨w.heap.size + 2, 0, none⟩ u1).setCell ⟨w.heap.size + 2, 1, none⟩ u2).cell? ⟨w.heap.size + 3, 1, none⟩ = some (.slice so S.length sc) from fun W' hb u1 u2 => by
      have g0 := f0.below hb f0.lt
      have g3 := f3.below hb f3.lt
      refine ⟨?_, ?_, ?_, ?_⟩
      all_goals
        rw [World.cell?_setCell_other _ _ _ _ (by simp), World.cell?_setCell_other _ _ _ _ (by simp)]
      · exact g0.facts.1
      · exact g0.facts.2.1
      · exact g3.facts.1
      · exact g3.facts.2.1)
    have HS0 := Lib.hid hs0
    have R0 := Lib.hid (Below.drew (Below.refl W0.heap.size W0))
    have HW0 := Lib.hid hW0
    rw [hW0] at HC HB0 HZ HK HK2 R0 HS0
    clear hv hs hv0 hs1 hb0 hs0 f0 f3 k1 hnx hN hR hW0 HW0 W0
    go_enter Try.func24, Try.ntmps24
    go_wp2
    go_region_held3 (fun w' => w'.cell? ⟨w.heap.size, 0, none⟩ = some (.bool e) ∧ w'.cell? ⟨w.heap.size, 1, none⟩ = some (.slice ao L.length cap) ∧ w'.cell? ⟨w.heap.size + 3, 0, none⟩ = some (.bool false) ∧ w'.cell? ⟨w.heap.size + 3, 1, none⟩ = some (.slice so S.length sc)) (first | exact HK2.out _ R2.out _ _ | exact HK.out _ R2.out | exact HK.out _ R1.out | exact HK.out _ R0.out) (first | ((with_reducible refine (HD.out _ _ (HB0.out.trans (R1.out.mono HB0.out.size)) HN.out).mono ?_); rintro e w2 ⟨o, rfl, ho, hb, hlo⟩; obtain ⟨oo, oc, rfl⟩ := ho.shape; have R2 := Lib.hid (R1.out.trans (hb.mono R1.out.size)); have hrs := R1.out.size; have HB1 := Lib.hid (R2.out.mono (B' := w.heap.size + 2 + 1) (by rw [HS0.out]; omega)); have HL := Lib.hid (hlo.mono (lo' := w.heap.size + 3) (by rw [HS0.out] at hrs; omega)); obtain ⟨z0, z1, z2, z3⟩ := HZ.out _ HB1.out; have HH := Lib.hid ho; clear hb hlo ho hrs) | ((with_reducible refine HC.out.mono ?_); rintro e w1 ⟨o, rfl, ho, hb, _⟩; obtain ⟨no, nc, rfl⟩ := ho.shape; have HN := Lib.hid ho; have R1 := Lib.hid (R0.out.trans (hb.mono (by simp))); clear ho hb))
    obtain ⟨r0, r1⟩ := cells_pairA (w := w2) (b := w.heap.size + 1 + 1) z0 z1
    go_wp2
    exact bodyPost_ret (v := .agg #[.bool e, .slice oo R.length oc]) (by simp [results, Try.results24, go_sem, r0, r1]) rfl (RetFil.aft ⟨_, rfl, (HH.out.far HL.out (by simp <;> omega) _).far HL.out (by simp <;> omega) _, HB0.out.trans ((HB1.out.mono (by omega)).setCell (by simp <;> omega) _ |>.setCell (by simp <;> omega) _), HL.out.mono (by omega)⟩ HP.out (by simp [aftE]) HX.out)
end Go.Proofs.Ytfloipdkhmgibaa

/- What the records of a proxy lead to: the plain part; filters that came in; Tell of one group. -/
namespace Go.Proofs.Ytfloipdkhmgibaa
open Go.RowKit Go.Lib Go.Maps Go.Sort
set_option maxRecDepth 20000
set_option maxRecDepth 20000

theorem FBox.set2 {w : World} {b : Nat} {ex : Bool} {v : Value} (h : FBox w b ex v) (e : Bool) (u : Value) : FBox ((w.setCell ⟨b, 0, none⟩ (.bool e)).setCell ⟨b, 1, none⟩ u) b e u := by
  have h' : w.heap[b]? = some (.cells #[.bool ex, v] 28 (0, 0)) := h
  unfold FBox
  simp [World.setCell, Array.getElem?_modify, h']

theorem aft_len {e E' : Bool} {L L' S : List Str} {k : Int} (hk : kindOk k) (hp : L'.Pairwise (· < ·)) (hE : E' = aftE k e) (hx : ∀ x, adm E' L' x = aftB k (adm e L x) (S.contains x)) : L'.length ≤ L.length + S.length := by
  have key : L' = (sasc (L ++ S)).filter (fun x => L'.contains x) := by
    refine srising_ext hp ((sasc_rising _).filter _) (fun x => ?_)
    rw [List.mem_filter, sasc_mem, List.contains_iff_mem]
    refine ⟨fun h => ⟨?_, h⟩, fun h => h.2⟩
    by_cases hm : x ∈ L ++ S
    · exact hm
    · exfalso
      rw [List.mem_append] at hm
      have h1 := hx x
      have hc : S.contains x = false := by
        cases hh : S.contains x
        · rfl
        · exact absurd (List.contains_iff_mem.1 hh) (fun k => hm (.inr k))
      rw [adm_mem h, adm_not (fun k => hm (.inl k)), hc, hE] at h1
      rcases hk with rfl | rfl | rfl | rfl <;> cases e <;> simp [aftE, aftB] at h1
  rw [key, ← List.length_append]
  exact Nat.le_trans (List.length_filter_le _ _) (sasc_length _)

theorem pdiff_len (g : Str) (e : Bool) (A : List Str) (d : Bool) (B : List Str) : ∀ r ∈ pdiff g e A d B, r.2.2.length ≤ A.length + B.length := by
  intro r hr
  have h1 : ∀ k p, ∀ r ∈ rec1 k g (sasc ((A ++ B).filter p)), r.2.2.length ≤ A.length + B.length := by
    intro k p r hr
    unfold rec1 at hr
    split at hr
    · simp at hr
    · rw [List.mem_singleton] at hr; subst hr
      rw [← List.length_append]; exact sasc_flen _ _
  unfold pdiff at hr
  split at hr
  · rcases List.mem_append.1 hr with hr | hr
    · exact h1 _ _ r hr
    · exact h1 _ _ r hr
  · rw [List.mem_singleton] at hr; subst hr
    have := sasc_length B
    show (sasc B).length ≤ _
    omega

theorem foldE_snoc (e : Bool) (R : List Rec) (k : Nat) (hk : k < R.length) : foldE e (R.take (k + 1)) = aftE (R.getD k default).1 (foldE e (R.take k)) := by
  rw [take_snoc R k hk, foldE_append]
  simp [foldE, List.getD_eq_getElem?_getD, hk]
theorem foldB_snoc (x : Str) (a : Bool) (R : List Rec) (k : Nat) (hk : k < R.length) : foldB x a (R.take (k + 1)) = aftB (R.getD k default).1 (foldB x a (R.take k)) ((R.getD k default).2.2.contains x) := by
  rw [take_snoc R k hk, foldB_append]
  simp [foldB, List.getD_eq_getElem?_getD, hk]

set_option maxHeartbeats 16000000 in

/-- v is a slice of filters that read as R -/
def Fils (w : World) (v : Value) (R : List (Bool × List Str)) : Prop :=
  ∃ ao cap b off, ∃ src : Nat → Value, v = .slice ao R.length cap ∧ (R = [] ∨ ao = some ⟨b, off, none⟩) ∧ R.length ≤ 4398046511104 ∧
    (∀ k, k < R.length → b < w.heap.size ∧ w.cell? ⟨b, off + k * 2, none⟩ = some (.bool (R.getD k default).1) ∧ w.cell? ⟨b, off + k * 2 + 1, none⟩ = some (src k) ∧ Strs w (src k) (R.getD k default).2)
theorem Fils.mono {w w' : World} {v : Value} {R : List (Bool × List Str)} (h : Fils w v R) (hb : Below w.heap.size w w') : Fils w' v R := by
  obtain ⟨ao, cap, b, off, src, rfl, h0, h1, h2⟩ := h
  refine ⟨ao, cap, b, off, src, rfl, h0, h1, fun k hk => ?_⟩
  obtain ⟨hlt, c0, c1, hs⟩ := h2 k hk
  exact ⟨Nat.lt_of_lt_of_le hlt hb.size, (hb.cell (p := ⟨b, off + k * 2, none⟩) hlt).trans c0, (hb.cell (p := ⟨b, off + k * 2 + 1, none⟩) hlt).trans c1, hs.mono hb⟩
theorem Fils.shape {w : World} {v : Value} {R : List (Bool × List Str)} (h : Fils w v R) : ∃ ao cap, v = .slice ao R.length cap := by
  obtain ⟨ao, cap, _, _, _, h, _⟩ := h
  exact ⟨ao, cap, h⟩
theorem Fils.facts {w : World} {v : Value} {R : List (Bool × List Str)} (h : Fils w v R) :
    ∃ b off, ∃ src : Nat → Value, R.length ≤ 4398046511104 ∧ (∀ ty w', (Builtin.len_ #[57] ty #[v]).run Try.prog w' = .ok (.int .i64 R.length) w') ∧
      (∀ k, k < R.length → ∀ w', (Instr.indexAt 57 v (.int .i64 k)).run Try.prog w' = .ok (.pointer (some ⟨b, off + k * 2, none⟩)) w') ∧
      (∀ k, k < R.length → b < w.heap.size ∧ w.cell? ⟨b, off + k * 2, none⟩ = some (.bool (R.getD k default).1) ∧ w.cell? ⟨b, off + k * 2 + 1, none⟩ = some (src k) ∧ Strs w (src k) (R.getD k default).2) := by
  obtain ⟨ao, cap, b, off, src, rfl, h0, h1, h2⟩ := h
  refine ⟨b, off, src, h1, fun ty w' => run_len_any Try.underlying57 ao R.length cap ty w', fun k hk w' => ?_, h2⟩
  rcases h0 with h0 | rfl
  · subst h0; exact absurd hk (by simp)
  · exact run_index_any (P := Try.prog) (s := 2) Try.underlying57 (fun w => by kernel_rfl) b off R.length cap k hk w'

/-- the one group of ProxyLeads -/
def keyL : Int × Str := (7, pOne)
def emptyF (f : Bool × List Str) : Bool := !f.1 && decide (f.2 = [])
/-- only keyL may be told -/
def GL (f : Bool × List Str) : Told := if emptyF f then fun _ => none else updT (fun _ => none) keyL f
theorem emptyF_eq {f : Bool × List Str} (h : emptyF f = true) : f = (false, []) := by
  obtain ⟨e, l⟩ := f
  simp [emptyF] at h
  rw [h.1, h.2]
theorem GL_old (f : Bool × List Str) : oldT (GL f) keyL = f := by
  unfold GL oldT
  cases h : emptyF f
  · simp [updT]
  · simp [emptyF_eq h]
theorem GL_small {f : Bool × List Str} (h : f.2.length ≤ 60) : SmallT (GL f) := by
  unfold GL
  cases emptyF f
  · exact SmallT.upd (fun _ _ e => by cases e) _ _ h
  · exact fun _ _ e => by cases e
theorem GL_del {f g : Bool × List Str} (h : emptyF g = true) : delT (GL f) keyL = GL g := by
  unfold GL
  rw [h]
  funext x
  cases emptyF f <;> simp [delT, updT]
theorem GL_upd {f g : Bool × List Str} (h : emptyF g = false) : updT (GL f) keyL g = GL g := by
  unfold GL
  rw [h]
  funext x
  by_cases hx : x = keyL <;> cases emptyF f <;> simp [updT, hx]
theorem GL_none {f : Bool × List Str} (h : (GL f keyL).isSome = false) {L : List (Int × Str)} (hL : TKeys (GL f) L) : L = [] := by
  unfold GL at h hL
  cases he : emptyF f
  · rw [he] at h; simp [updT] at h
  · rw [he] at hL; exact TKeys.none hL
theorem GL_keys {f : Bool × List Str} {K : List (Int × Str)} (h : OfK (GL f) 7 K) : K = if emptyF f then [] else [keyL] := by
  unfold GL at h
  cases he : emptyF f
  · rw [he] at h
    exact OfK.one (k := keyL) (f := f) h
  · rw [he] at h
    exact List.eq_nil_iff_forall_not_mem.2 fun k hk => ((h.2 k).1 hk).2 rfl
theorem GL_rec (f : Bool × List Str) : recT (GL f) keyL = (if f.1 then 2 else 1, pOne, f.2) := by unfold recT; rw [GL_old]; rfl

def RetLead (p b n : Nat) (f g : Bool × List Str) (w : World) (x : Ending) (w' : World) : Prop :=
  ∃ rv, x = .returned (.tuple #[rv, .int .i64 0]) ∧ Recs w' rv (pdiff pOne f.1 f.2 g.1 g.2) ∧ Px w' p b (n + 1) 1 (GL g) ∧ CKeep w w' ∧ w.grownBy w' (some b)
theorem tell_lead (p b n : Nat) (f : Bool × List Str) (e : Bool) (u : Value) (A : List Str) (w : World) (h : Px w p b n 1 (GL f)) (hn : n < 1000000) (hv : Strs w u A) (hA : A.length ≤ 60) (hf : f.2.length ≤ 60) :
    Calls Try.prog 17 #[.pointer (some ⟨p, 0, none⟩), .int .i64 7, .string ⟨#[224, 1, 2, 3]⟩, .agg #[.bool e, u]] w (RetLead p b n f (e, sasc A) w) := by
  rw [pbOne]
  cases hE : (!e && decide (sasc A = []))
  · have hg : emptyF (e, sasc A) = false := hE
    cases hS : (GL f keyL).isSome
    · refine (tell_put2 p b n 1 7 pOne e u A (GL f) w h hn (by decide) (by decide) (by decide) hv hA (GL_small hf) hE hS (fun L hL => by rw [GL_none hS hL]; decide)).mono ?_
      rintro x w' ⟨rv, rfl, h1, h2, h3, h4⟩
      have e1 : oldT (GL f) (7, pOne) = f := GL_old f
      have e2 : updT (GL f) (7, pOne) (e, sasc A) = GL (e, sasc A) := GL_upd hg
      dsimp only at h1 h2
      rw [e1] at h1
      rw [e2] at h2
      exact ⟨rv, rfl, h1, h2, h3, h4⟩
    · refine (tell_put1 p b n 1 7 pOne e u A (GL f) w h hn (by decide) (by decide) (by decide) hv hA (GL_small hf) hE hS).mono ?_
      rintro x w' ⟨rv, rfl, h1, h2, h3, h4⟩
      have e1 : oldT (GL f) (7, pOne) = f := GL_old f
      have e2 : updT (GL f) (7, pOne) (e, sasc A) = GL (e, sasc A) := GL_upd hg
      dsimp only at h1 h2
      rw [e1] at h1
      rw [e2] at h2
      exact ⟨rv, rfl, h1, h2, h3, h4⟩
  · have hg : emptyF (e, sasc A) = true := hE
    refine (tell_del p b n 1 7 pOne e u A (GL f) w h hn (by decide) (by decide) (by decide) hv hA (GL_small hf) hE).mono ?_
    rintro x w' ⟨rv, rfl, h1, h2, h3, h4⟩
    have e1 : oldT (GL f) (7, pOne) = f := GL_old f
    have e2 : delT (GL f) (7, pOne) = GL (e, sasc A) := GL_del hg
    dsimp only at h1 h2
    rw [e1] at h1
    rw [e2] at h2
    exact ⟨rv, rfl, h1, h2, h3, h4⟩

/-- what is read as strings lies in no box of a filter -/
theorem Strs.kept_box {w w' : World} {v : Value} {L : List Str} {nb : Nat} {e : Bool} {o : Option Addr} {n c : Nat} (h : Strs w v L) (hb : CBox w nb 28 #[.bool e, .slice o n c]) (hg : w.grownBy w' (some nb)) : Strs w' v L :=
  h.grown' hg fun hL e => by
    cases hv : v.ownBlock with
    | none => rw [hv] at e; cases e
    | some c => rw [hv] at e; injection e with e; exact h.ne_box hb (ns2 _ _ _ _) hL c hv e
theorem Px.kept_box {w w' : World} {p b n nb : Nat} {room : Int} {G : Told} {e : Bool} {o : Option Addr} {m c : Nat} (h : Px w p b n room G) (hb : CBox w nb 28 #[.bool e, .slice o m c]) (hp : p ≠ nb) (hbb : b ≠ nb) (hg : w.grownBy w' (some nb)) : Px w' p b n room G := by
  obtain ⟨h1, V, h2, h3⟩ := h
  refine ⟨h1.grown hg (fun e => hp (by injection e)), V, h2.kept hg (fun e => hbb (by injection e)), fun k => ?_⟩
  have := h3 k
  cases hG : G k
  · rw [hG] at this; exact this
  · rw [hG] at this
    obtain ⟨v, e', hs⟩ := this
    exact ⟨v, e', hs.kept_box hb hg⟩
end Go.Proofs.Ytfloipdkhmgibaa

/- Opening what came in: slices of filters. -/
namespace Go.Proofs.Ytfloipdkhmgibaa
open Go.ChangeShapes Go.WideShapes Go.ChangeAt Go.RowKit Go.Joins Go.Deep
set_option maxRecDepth 20000

set_option maxRecDepth 100000

theorem bytesFi : Try.prog.bytesOf 28 = 32 := by kernel_rfl
theorem cellsFi : Try.prog.cellsOf 28 = 2 := by kernel_rfl

theorem open_FilsC {H : Type} {enc : TypeId × Value → H} {w : World} {base : Nat} {spare : Nat → Bool} {held : Bool} {fuel : Nat} {cs : List Value} {x : DataW H × List MemPlace}
    (h : DataW.trod enc Try.prog w base spare held fuel 57 cs = some x) (hsz : (DataW.weights Try.prog 57 x.1).all (· ≤ reachBytes) = true) : ∃ v R, cs = [v] ∧ Fils w v R := by
  obtain ⟨ao, cap, b, off, L, rfl, h0, h1, _, h2⟩ := open_elems (α := (Bool × List Str) × Value) (sz := 2) Try.underlying57 cellsFi (by decide)
    (fun cs' q => cs' = [.bool q.1.1, q.2] ∧ Strs w q.2 q.1.2)
    (fun n cs' y hy hw => by
      obtain ⟨e, v, L, he, hT⟩ := open_filterC hy hw
      exact ⟨((e, L), v), he, hT⟩) h hsz
  have hl : (L.map Prod.fst).length = L.length := by simp
  refine ⟨_, L.map Prod.fst, rfl, ao, cap, b, off, fun k => (L.getD k default).2, by rw [hl], ?_, ?_, fun k hk => ?_⟩
  · rcases h0 with rfl | h0
    · exact .inl rfl
    · exact .inr h0
  · rw [bytesFi] at h1
    rw [hl]
    unfold reachBytes at h1
    omega
  · rw [hl] at hk
    obtain ⟨cs', e1, e2, e3, rfl, hT⟩ := h2 k hk
    have g : (L.map Prod.fst).getD k default = L[k].1 := by simp [List.getD_eq_getElem?_getD, hk]
    have g' : L.getD k default = L[k] := by simp [List.getD_eq_getElem?_getD, hk]
    dsimp only
    rw [g, g']
    exact ⟨e3, e2 0 (by decide), e2 1 (by decide), hT⟩
theorem open_Fils {H : Type} {enc : TypeId × Value → H} {w : World} {base : Nat} {spare : Nat → Bool} {held : Bool} {r : Reach} {b0 : Nat} {v : Value} {d : DataW H} {p : List MemPlace}
    (hv : Value.okWide Try.prog w r b0 57 v) (h : DataW.Trod enc Try.prog w base spare held 57 v d p) (hsz : (DataW.weights Try.prog 57 d).all (· ≤ reachBytes) = true) :
    ∃ R, Fils w v R := by
  obtain ⟨fuel, hf⟩ := trod_cell Try.underlying57 hv h
  obtain ⟨u, R, e, hR⟩ := open_FilsC hf hsz
  simp only [List.cons.injEq, and_true] at e
  subst e
  exact ⟨R, hR⟩
end Go.Proofs.Ytfloipdkhmgibaa
