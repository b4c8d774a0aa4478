/- The walk of FilterMakes. -/
import Derived.Test.YtjhaedhjbnhiaaaFilLaws
namespace Go.Proofs.Ytjhaedhjbnhiaaa
open Go.RowKit Go.Lib Go.Sort
attribute [local go_sem ↓] Go.wp_at_zero Go.wp_at_succ

set_option maxHeartbeats 16000000 in
theorem law_makes (e : Bool) (v : Value) (A : List Str) (d : Bool) (u : Value) (B : List Str) (W : World) (hv : Strs W v A) (hu : Strs W u B) : Calls Try.prog 5 #[.agg #[.bool e, v], .agg #[.bool d, u]] W fun en W' => en = .returned (.bool true) ∧ Below W.heap.size W W' := by
  obtain ⟨ao, cap, rfl⟩ := hv.shape
  obtain ⟨bo, bcap, rfl⟩ := hu.shape
  have hv0 := Lib.hid hv
  have hu0 := Lib.hid (hu.mono ((Below.refl W.heap.size W).alloc (Nat.le_refl _) (.cells #[.bool e, .slice ao A.length cap] 24)))
  clear hv hu
  have HB := Lib.hid (Below.refl W.heap.size W)
  have hba : Below W.heap.size W (W.alloc (.cells #[.bool e, (.slice ao A.length cap)] 24)) := (Below.refl _ _).alloc (Nat.le_refl _) _
  have Xf := Lib.hid (FBox.new (w := W) (b := W.heap.size) e (.slice ao A.length cap) (by first | rfl | simp))
  have Sf := Lib.hid (hv0.out.mono hba)
  replace HB := Lib.hid (HB.out.trans (hba.mono HB.out.size))
  clear hba
  have hba : Below (W.alloc (.cells #[.bool e, (.slice ao A.length cap)] 24)).heap.size (W.alloc (.cells #[.bool e, (.slice ao A.length cap)] 24)) ((W.alloc (.cells #[.bool e, (.slice ao A.length cap)] 24)).alloc (.cells #[.bool d, (.slice bo B.length bcap)] 24)) := (Below.refl _ _).alloc (Nat.le_refl _) _
  have Xg := Lib.hid (FBox.new (w := (W.alloc (.cells #[.bool e, (.slice ao A.length cap)] 24))) (b := W.heap.size + 1) d (.slice bo B.length bcap) (by first | rfl | simp))
  have Sg := Lib.hid (hu0.out.mono hba)
  replace Xf := Lib.hid (Xf.out.below hba Xf.out.lt)
  replace Sf := Lib.hid (Sf.out.mono hba)
  replace HB := Lib.hid (HB.out.trans (hba.mono HB.out.size))
  clear hba
  by_cases hf : A.length ≤ 100 ∧ B.length ≤ 100
  · obtain ⟨ha, hb⟩ := hf
    obtain ⟨Ea, hEa⟩ : ∃ E, E = (e || d) := ⟨_, rfl⟩
    obtain ⟨La, hLa⟩ : ∃ l, l = sasc ((A ++ B).filter (pMade (pOr e A d B) (e || d))) := ⟨_, rfl⟩
    have Ha : Hid (∀ v u w, Strs w v A → Strs w u B → Calls Try.prog 22 #[.agg #[.bool e, v], .agg #[.bool d, u]] w (RetFil w Ea La)) := by rw [hEa, hLa]; exact fun v u w h h' => or_any e d v u A B w h h' (by omega)
    have Ja : Hid (∀ v u w, Strs w v A → Strs w u B → Calls Try.prog 25 #[.agg #[.bool e, v], .agg #[.bool d, u]] w (RetFil w Ea La)) := by rw [hEa, hLa, ← sasc_filter]; exact fun v u w h h' => ror_any e d v u A B w h h' (by omega)
    have Da := Lib.hid (show ∀ x, adm Ea La x = (adm e A x || adm d B x) by rw [hEa, hLa]; exact or_adm e A d B)
    have Pa := Lib.hid (show La.Pairwise (· < ·) by rw [hLa]; exact sasc_rising _)
    have Na : La.length ≤ A.length + B.length := by rw [hLa, ← List.length_append]; exact sasc_flen _ _
    replace hEa := Lib.hid hEa
    clear hLa
    obtain ⟨Eb, hEb⟩ : ∃ E, E = (e && d) := ⟨_, rfl⟩
    obtain ⟨Lb, hLb⟩ : ∃ l, l = sasc ((A ++ B).filter (pMade (pAnd e A d B) (e && d))) := ⟨_, rfl⟩
    have Hb : Hid (∀ v u w, Strs w v A → Strs w u B → Calls Try.prog 23 #[.agg #[.bool e, v], .agg #[.bool d, u]] w (RetFil w Eb Lb)) := by rw [hEb, hLb]; exact fun v u w h h' => and_any e d v u A B w h h' (by omega)
    have Jb : Hid (∀ v u w, Strs w v A → Strs w u B → Calls Try.prog 26 #[.agg #[.bool e, v], .agg #[.bool d, u]] w (RetFil w Eb Lb)) := by rw [hEb, hLb, ← sasc_filter]; exact fun v u w h h' => rand_any e d v u A B w h h' (by omega)
    have Db := Lib.hid (show ∀ x, adm Eb Lb x = (adm e A x && adm d B x) by rw [hEb, hLb]; exact and_adm e A d B)
    have Pb := Lib.hid (show Lb.Pairwise (· < ·) by rw [hLb]; exact sasc_rising _)
    have Nb : Lb.length ≤ A.length + B.length := by rw [hLb, ← List.length_append]; exact sasc_flen _ _
    replace hEb := Lib.hid hEb
    clear hLb
    obtain ⟨Ec, hEc⟩ : ∃ E, E = (!e) := ⟨_, rfl⟩
    obtain ⟨Lc, hLc⟩ : ∃ l, l = sasc (A.filter (pMade (pNot e A) (!e))) := ⟨_, rfl⟩
    have Hc : Hid (∀ v w, Strs w v A → Calls Try.prog 24 #[.agg #[.bool e, v]] w (RetFil w Ec Lc)) := by rw [hEc, hLc]; exact fun v w h => not_any e v A w h (by omega)
    have Jc : Hid (∀ v w, Strs w v A → Calls Try.prog 27 #[.agg #[.bool e, v]] w (RetFil w Ec Lc)) := by rw [hEc, hLc, not_all]; exact fun v w h => rnot_any e v A w h
    have Dc := Lib.hid (show ∀ x, adm Ec Lc x = !adm e A x by rw [hEc, hLc]; exact not_adm e A)
    have Pc := Lib.hid (show Lc.Pairwise (· < ·) by rw [hLc]; exact sasc_rising _)
    have Nc : Lc.length ≤ A.length := by rw [hLc]; exact sasc_flen _ _
    replace hEc := Lib.hid hEc
    clear hLc
    clear Na Nb Nc
    go_enter Try.func5, Try.ntmps5
    go_wp2_with fail
    refine (few_yes e d _ _ A B _ Sf.out Sg.out ha hb).mono ?_
    rintro e w1 ⟨rfl, hb⟩
    replace Xf := Lib.hid (Xf.out.below hb Xf.out.lt)
    replace Sf := Lib.hid (Sf.out.mono hb)
    replace Xg := Lib.hid (Xg.out.below hb Xg.out.lt)
    replace Sg := Lib.hid (Sg.out.mono hb)
    replace HB := Lib.hid (HB.out.trans (hb.mono HB.out.size))
    clear hb
    obtain ⟨x1a, x1b, _, _⟩ := Xf.out.facts
    go_wp2_with fail
    refine (copied_any e _ A _ Sf.out).mono ?_
    clear x1a x1b
    rintro e w2 ⟨o, rfl, ho, hb, _⟩
    obtain ⟨ox, cx, rfl⟩ := ho.shape
    have S_x := Lib.hid ho
    clear ho
    replace Xf := Lib.hid (Xf.out.below hb Xf.out.lt)
    replace Sf := Lib.hid (Sf.out.mono hb)
    replace Xg := Lib.hid (Xg.out.below hb Xg.out.lt)
    replace Sg := Lib.hid (Sg.out.mono hb)
    replace HB := Lib.hid (HB.out.trans (hb.mono HB.out.size))
    clear hb
    obtain ⟨x2a, x2b, _, _⟩ := Xg.out.facts
    have x2c := Xg.out.lt
    have hba : Below w2.heap.size w2 (w2.alloc (.cells #[.bool e, (.slice ox A.length cx)] 24)) := (Below.refl _ _).alloc (Nat.le_refl _) _
    have Xx := Lib.hid (FBox.new (w := w2) (b := w2.heap.size) e (.slice ox A.length cx) (by first | rfl | simp))
    have Sx := Lib.hid (S_x.out.mono hba)
    replace Xf := Lib.hid (Xf.out.below hba Xf.out.lt)
    replace Sf := Lib.hid (Sf.out.mono hba)
    replace Xg := Lib.hid (Xg.out.below hba Xg.out.lt)
    replace Sg := Lib.hid (Sg.out.mono hba)
    replace HB := Lib.hid (HB.out.trans (hba.mono HB.out.size))
    clear hba
    go_wp2_with fail
    refine (copied_any d _ B _ Sg.out).mono ?_
    clear x2a x2b x2c
    rintro e w3 ⟨o, rfl, ho, hb, _⟩
    obtain ⟨oy, cy, rfl⟩ := ho.shape
    have S_y := Lib.hid ho
    clear ho
    replace Xf := Lib.hid (Xf.out.below hb Xf.out.lt)
    replace Sf := Lib.hid (Sf.out.mono hb)
    replace Xg := Lib.hid (Xg.out.below hb Xg.out.lt)
    replace Sg := Lib.hid (Sg.out.mono hb)
    replace Xx := Lib.hid (Xx.out.below hb Xx.out.lt)
    replace Sx := Lib.hid (Sx.out.mono hb)
    replace HB := Lib.hid (HB.out.trans (hb.mono HB.out.size))
    clear hb
    obtain ⟨x3a, x3b, _, _⟩ := Xx.out.facts
    have x3c := Xx.out.lt
    have hba : Below w3.heap.size w3 (w3.alloc (.cells #[.bool d, (.slice oy B.length cy)] 24)) := (Below.refl _ _).alloc (Nat.le_refl _) _
    have Xy := Lib.hid (FBox.new (w := w3) (b := w3.heap.size) d (.slice oy B.length cy) (by first | rfl | simp))
    have Sy := Lib.hid (S_y.out.mono hba)
    replace Xf := Lib.hid (Xf.out.below hba Xf.out.lt)
    replace Sf := Lib.hid (Sf.out.mono hba)
    replace Xg := Lib.hid (Xg.out.below hba Xg.out.lt)
    replace Sg := Lib.hid (Sg.out.mono hba)
    replace Xx := Lib.hid (Xx.out.below hba Xx.out.lt)
    replace Sx := Lib.hid (Sx.out.mono hba)
    replace HB := Lib.hid (HB.out.trans (hba.mono HB.out.size))
    clear hba
    go_wp2_with fail
    refine (Ha.out _ _ _ Sx.out Sy.out).mono ?_
    clear x3a x3b x3c
    rintro e w4 ⟨o, rfl, ho, hb, _⟩
    obtain ⟨oa, ca, rfl⟩ := ho.shape
    have S_a := Lib.hid ho
    clear ho
    replace Xf := Lib.hid (Xf.out.below hb Xf.out.lt)
    replace Sf := Lib.hid (Sf.out.mono hb)
    replace Xg := Lib.hid (Xg.out.below hb Xg.out.lt)
    replace Sg := Lib.hid (Sg.out.mono hb)
    replace Xx := Lib.hid (Xx.out.below hb Xx.out.lt)
    replace Sx := Lib.hid (Sx.out.mono hb)
    replace Xy := Lib.hid (Xy.out.below hb Xy.out.lt)
    replace Sy := Lib.hid (Sy.out.mono hb)
    replace HB := Lib.hid (HB.out.trans (hb.mono HB.out.size))
    clear hb
    obtain ⟨x4a, x4b, _, _⟩ := Xx.out.facts
    have x4c := Xx.out.lt
    obtain ⟨x5a, x5b, _, _⟩ := Xy.out.facts
    have x5c := Xy.out.lt
    have hba : Below w4.heap.size w4 (w4.alloc (.cells #[.bool Ea, (.slice oa La.length ca)] 24)) := (Below.refl _ _).alloc (Nat.le_refl _) _
    have Xa := Lib.hid (FBox.new (w := w4) (b := w4.heap.size) Ea (.slice oa La.length ca) (by first | rfl | simp))
    have Sa := Lib.hid (S_a.out.mono hba)
    replace Xf := Lib.hid (Xf.out.below hba Xf.out.lt)
    replace Sf := Lib.hid (Sf.out.mono hba)
    replace Xg := Lib.hid (Xg.out.below hba Xg.out.lt)
    replace Sg := Lib.hid (Sg.out.mono hba)
    replace Xx := Lib.hid (Xx.out.below hba Xx.out.lt)
    replace Sx := Lib.hid (Sx.out.mono hba)
    replace Xy := Lib.hid (Xy.out.below hba Xy.out.lt)
    replace Sy := Lib.hid (Sy.out.mono hba)
    replace HB := Lib.hid (HB.out.trans (hba.mono HB.out.size))
    clear hba
    go_wp2_with fail
    refine (Hb.out _ _ _ Sx.out Sy.out).mono ?_
    clear x4a x4b x4c x5a x5b x5c
    rintro e w5 ⟨o, rfl, ho, hb, _⟩
    obtain ⟨ob, cb, rfl⟩ := ho.shape
    have S_b := Lib.hid ho
    clear ho
    replace Xf := Lib.hid (Xf.out.below hb Xf.out.lt)
    replace Sf := Lib.hid (Sf.out.mono hb)
    replace Xg := Lib.hid (Xg.out.below hb Xg.out.lt)
    replace Sg := Lib.hid (Sg.out.mono hb)
    replace Xx := Lib.hid (Xx.out.below hb Xx.out.lt)
    replace Sx := Lib.hid (Sx.out.mono hb)
    replace Xy := Lib.hid (Xy.out.below hb Xy.out.lt)
    replace Sy := Lib.hid (Sy.out.mono hb)
    replace Xa := Lib.hid (Xa.out.below hb Xa.out.lt)
    replace Sa := Lib.hid (Sa.out.mono hb)
    replace HB := Lib.hid (HB.out.trans (hb.mono HB.out.size))
    clear hb
    obtain ⟨x6a, x6b, _, _⟩ := Xx.out.facts
    have x6c := Xx.out.lt
    have hba : Below w5.heap.size w5 (w5.alloc (.cells #[.bool Eb, (.slice ob Lb.length cb)] 24)) := (Below.refl _ _).alloc (Nat.le_refl _) _
    have Xb := Lib.hid (FBox.new (w := w5) (b := w5.heap.size) Eb (.slice ob Lb.length cb) (by first | rfl | simp))
    have Sb := Lib.hid (S_b.out.mono hba)
    replace Xf := Lib.hid (Xf.out.below hba Xf.out.lt)
    replace Sf := Lib.hid (Sf.out.mono hba)
    replace Xg := Lib.hid (Xg.out.below hba Xg.out.lt)
    replace Sg := Lib.hid (Sg.out.mono hba)
    replace Xx := Lib.hid (Xx.out.below hba Xx.out.lt)
    replace Sx := Lib.hid (Sx.out.mono hba)
    replace Xy := Lib.hid (Xy.out.below hba Xy.out.lt)
    replace Sy := Lib.hid (Sy.out.mono hba)
    replace Xa := Lib.hid (Xa.out.below hba Xa.out.lt)
    replace Sa := Lib.hid (Sa.out.mono hba)
    replace HB := Lib.hid (HB.out.trans (hba.mono HB.out.size))
    clear hba
    go_wp2_with fail
    refine (Hc.out _ _ Sx.out).mono ?_
    clear x6a x6b x6c
    rintro e w6 ⟨o, rfl, ho, hb, _⟩
    obtain ⟨oc, cc, rfl⟩ := ho.shape
    have S_c := Lib.hid ho
    clear ho
    replace Xf := Lib.hid (Xf.out.below hb Xf.out.lt)
    replace Sf := Lib.hid (Sf.out.mono hb)
    replace Xg := Lib.hid (Xg.out.below hb Xg.out.lt)
    replace Sg := Lib.hid (Sg.out.mono hb)
    replace Xx := Lib.hid (Xx.out.below hb Xx.out.lt)
    replace Sx := Lib.hid (Sx.out.mono hb)
    replace Xy := Lib.hid (Xy.out.below hb Xy.out.lt)
    replace Sy := Lib.hid (Sy.out.mono hb)
    replace Xa := Lib.hid (Xa.out.below hb Xa.out.lt)
    replace Sa := Lib.hid (Sa.out.mono hb)
    replace Xb := Lib.hid (Xb.out.below hb Xb.out.lt)
    replace Sb := Lib.hid (Sb.out.mono hb)
    replace HB := Lib.hid (HB.out.trans (hb.mono HB.out.size))
    clear hb
    obtain ⟨x7a, x7b, _, _⟩ := Xx.out.facts
    have x7c := Xx.out.lt
    obtain ⟨x8a, x8b, _, _⟩ := Xf.out.facts
    have x8c := Xf.out.lt
    have hba : Below w6.heap.size w6 (w6.alloc (.cells #[.bool Ec, (.slice oc Lc.length cc)] 24)) := (Below.refl _ _).alloc (Nat.le_refl _) _
    have Xc := Lib.hid (FBox.new (w := w6) (b := w6.heap.size) Ec (.slice oc Lc.length cc) (by first | rfl | simp))
    have Sc := Lib.hid (S_c.out.mono hba)
    replace Xf := Lib.hid (Xf.out.below hba Xf.out.lt)
    replace Sf := Lib.hid (Sf.out.mono hba)
    replace Xg := Lib.hid (Xg.out.below hba Xg.out.lt)
    replace Sg := Lib.hid (Sg.out.mono hba)
    replace Xx := Lib.hid (Xx.out.below hba Xx.out.lt)
    replace Sx := Lib.hid (Sx.out.mono hba)
    replace Xy := Lib.hid (Xy.out.below hba Xy.out.lt)
    replace Sy := Lib.hid (Sy.out.mono hba)
    replace Xa := Lib.hid (Xa.out.below hba Xa.out.lt)
    replace Sa := Lib.hid (Sa.out.mono hba)
    replace Xb := Lib.hid (Xb.out.below hba Xb.out.lt)
    replace Sb := Lib.hid (Sb.out.mono hba)
    replace HB := Lib.hid (HB.out.trans (hba.mono HB.out.size))
    clear hba
    go_wp2_with fail
    refine (same_yes e _ _ A A _ Sx.out Sf.out rfl).mono ?_
    clear x7a x7b x7c x8a x8b x8c
    rintro e w7 ⟨rfl, hb⟩
    replace Xf := Lib.hid (Xf.out.below hb Xf.out.lt)
    replace Sf := Lib.hid (Sf.out.mono hb)
    replace Xg := Lib.hid (Xg.out.below hb Xg.out.lt)
    replace Sg := Lib.hid (Sg.out.mono hb)
    replace Xx := Lib.hid (Xx.out.below hb Xx.out.lt)
    replace Sx := Lib.hid (Sx.out.mono hb)
    replace Xy := Lib.hid (Xy.out.below hb Xy.out.lt)
    replace Sy := Lib.hid (Sy.out.mono hb)
    replace Xa := Lib.hid (Xa.out.below hb Xa.out.lt)
    replace Sa := Lib.hid (Sa.out.mono hb)
    replace Xb := Lib.hid (Xb.out.below hb Xb.out.lt)
    replace Sb := Lib.hid (Sb.out.mono hb)
    replace Xc := Lib.hid (Xc.out.below hb Xc.out.lt)
    replace Sc := Lib.hid (Sc.out.mono hb)
    replace HB := Lib.hid (HB.out.trans (hb.mono HB.out.size))
    clear hb
    obtain ⟨x9a, x9b, _, _⟩ := Xy.out.facts
    obtain ⟨x10a, x10b, _, _⟩ := Xg.out.facts
    go_wp2_with fail
    refine (same_yes d _ _ B B _ Sy.out Sg.out rfl).mono ?_
    clear x9a x9b x10a x10b
    rintro e w8 ⟨rfl, hb⟩
    replace Xf := Lib.hid (Xf.out.below hb Xf.out.lt)
    replace Sf := Lib.hid (Sf.out.mono hb)
    replace Xg := Lib.hid (Xg.out.below hb Xg.out.lt)
    replace Sg := Lib.hid (Sg.out.mono hb)
    replace Xx := Lib.hid (Xx.out.below hb Xx.out.lt)
    replace Sx := Lib.hid (Sx.out.mono hb)
    replace Xy := Lib.hid (Xy.out.below hb Xy.out.lt)
    replace Sy := Lib.hid (Sy.out.mono hb)
    replace Xa := Lib.hid (Xa.out.below hb Xa.out.lt)
    replace Sa := Lib.hid (Sa.out.mono hb)
    replace Xb := Lib.hid (Xb.out.below hb Xb.out.lt)
    replace Sb := Lib.hid (Sb.out.mono hb)
    replace Xc := Lib.hid (Xc.out.below hb Xc.out.lt)
    replace Sc := Lib.hid (Sc.out.mono hb)
    replace HB := Lib.hid (HB.out.trans (hb.mono HB.out.size))
    clear hb
    have HK := Lib.hid (show ∀ w', Below w8.heap.size w8 w' → w'.cell? ⟨W.heap.size, 0, none⟩ = some (.bool e) ∧ w'.cell? ⟨W.heap.size, 1, none⟩ = some (.slice ao A.length cap) ∧ w'.cell? ⟨W.heap.size + 1, 0, none⟩ = some (.bool d) ∧ w'.cell? ⟨W.heap.size + 1, 1, none⟩ = some (.slice bo B.length bcap) ∧ w'.cell? ⟨w4.heap.size, 0, none⟩ = some (.bool Ea) ∧ w'.cell? ⟨w4.heap.size, 1, none⟩ = some (.slice oa La.length ca) ∧ w'.cell? ⟨w5.heap.size, 0, none⟩ = some (.bool Eb) ∧ w'.cell? ⟨w5.heap.size, 1, none⟩ = some (.slice ob Lb.length cb) ∧ w'.cell? ⟨w6.heap.size, 0, none⟩ = some (.bool Ec) ∧ w'.cell? ⟨w6.heap.size, 1, none⟩ = some (.slice oc Lc.length cc) from fun w' hb => ⟨(Xf.out.below hb Xf.out.lt).facts.1, (Xf.out.below hb Xf.out.lt).facts.2.1, (Xg.out.below hb Xg.out.lt).facts.1, (Xg.out.below hb Xg.out.lt).facts.2.1, (Xa.out.below hb Xa.out.lt).facts.1, (Xa.out.below hb Xa.out.lt).facts.2.1, (Xb.out.below hb Xb.out.lt).facts.1, (Xb.out.below hb Xb.out.lt).facts.2.1, (Xc.out.below hb Xc.out.lt).facts.1, (Xc.out.below hb Xc.out.lt).facts.2.1⟩)
    have R0 := Lib.hid (Below.drew (Below.refl w8.heap.size w8))
    go_wp2_with fail
    go_region_held3 (fun w' => w'.cell? ⟨W.heap.size, 0, none⟩ = some (.bool e) ∧ w'.cell? ⟨W.heap.size, 1, none⟩ = some (.slice ao A.length cap) ∧ w'.cell? ⟨W.heap.size + 1, 0, none⟩ = some (.bool d) ∧ w'.cell? ⟨W.heap.size + 1, 1, none⟩ = some (.slice bo B.length bcap) ∧ w'.cell? ⟨w4.heap.size, 0, none⟩ = some (.bool Ea) ∧ w'.cell? ⟨w4.heap.size, 1, none⟩ = some (.slice oa La.length ca) ∧ w'.cell? ⟨w5.heap.size, 0, none⟩ = some (.bool Eb) ∧ w'.cell? ⟨w5.heap.size, 1, none⟩ = some (.slice ob Lb.length cb) ∧ w'.cell? ⟨w6.heap.size, 0, none⟩ = some (.bool Ec) ∧ w'.cell? ⟨w6.heap.size, 1, none⟩ = some (.slice oc Lc.length cc)) (first | exact HK.out _ R7.out | exact HK.out _ R6.out | exact HK.out _ R5.out | exact HK.out _ R4.out | exact HK.out _ R3.out | exact HK.out _ R2.out | exact HK.out _ R1.out | exact HK.out _ R0.out) (first | ((with_reducible refine (live_yes _).mono ?_); rintro e v10_7w ⟨rfl, hb⟩; replace Tp := Lib.hid (Tp.out.mono hb); replace Tq := Lib.hid (Tq.out.mono hb); replace Tr := Lib.hid (Tr.out.mono hb); have R7 := Lib.hid (R6.out.trans (hb.mono R6.out.size)); clear hb) | ((with_reducible refine (same_yes Ec _ _ Lc Lc _ (Sc.out.mono R5.out) Tr.out rfl).mono ?_); rintro e v10_6w ⟨rfl, hb⟩; replace Tp := Lib.hid (Tp.out.mono hb); replace Tq := Lib.hid (Tq.out.mono hb); replace Tr := Lib.hid (Tr.out.mono hb); have R6 := Lib.hid (R5.out.trans (hb.mono R5.out.size)); clear hb) | ((with_reducible refine (Jc.out _ _ (Sf.out.mono R4.out)).mono ?_); rintro e v10_5w ⟨o, rfl, ho, hb, _⟩; obtain ⟨or, cr, rfl⟩ := ho.shape; have Tr := Lib.hid ho; clear ho; replace Tp := Lib.hid (Tp.out.mono hb); replace Tq := Lib.hid (Tq.out.mono hb); have R5 := Lib.hid (R4.out.trans (hb.mono R4.out.size)); clear hb) | ((with_reducible refine (same_yes Eb _ _ Lb Lb _ (Sb.out.mono R3.out) Tq.out rfl).mono ?_); rintro e v10_4w ⟨rfl, hb⟩; replace Tp := Lib.hid (Tp.out.mono hb); replace Tq := Lib.hid (Tq.out.mono hb); have R4 := Lib.hid (R3.out.trans (hb.mono R3.out.size)); clear hb) | ((with_reducible refine (Jb.out _ _ _ (Sf.out.mono R2.out) (Sg.out.mono R2.out)).mono ?_); rintro e v10_3w ⟨o, rfl, ho, hb, _⟩; obtain ⟨oq, cq, rfl⟩ := ho.shape; have Tq := Lib.hid ho; clear ho; replace Tp := Lib.hid (Tp.out.mono hb); have R3 := Lib.hid (R2.out.trans (hb.mono R2.out.size)); clear hb) | ((with_reducible refine (same_yes Ea _ _ La La _ (Sa.out.mono R1.out) Tp.out rfl).mono ?_); rintro e v10_2w ⟨rfl, hb⟩; replace Tp := Lib.hid (Tp.out.mono hb); have R2 := Lib.hid (R1.out.trans (hb.mono R1.out.size)); clear hb) | ((with_reducible refine (Ja.out _ _ _ (Sf.out.mono R0.out) (Sg.out.mono R0.out)).mono ?_); rintro e v10_1w ⟨o, rfl, ho, hb, _⟩; obtain ⟨op, cp, rfl⟩ := ho.shape; have Tp := Lib.hid ho; clear ho; have R1 := Lib.hid (R0.out.trans (hb.mono R0.out.size)); clear hb))
    have hb := R7.out
    replace Xf := Lib.hid (Xf.out.below hb Xf.out.lt)
    replace Sf := Lib.hid (Sf.out.mono hb)
    replace Xg := Lib.hid (Xg.out.below hb Xg.out.lt)
    replace Sg := Lib.hid (Sg.out.mono hb)
    replace Xx := Lib.hid (Xx.out.below hb Xx.out.lt)
    replace Sx := Lib.hid (Sx.out.mono hb)
    replace Xy := Lib.hid (Xy.out.below hb Xy.out.lt)
    replace Sy := Lib.hid (Sy.out.mono hb)
    replace Xa := Lib.hid (Xa.out.below hb Xa.out.lt)
    replace Sa := Lib.hid (Sa.out.mono hb)
    replace Xb := Lib.hid (Xb.out.below hb Xb.out.lt)
    replace Sb := Lib.hid (Sb.out.mono hb)
    replace Xc := Lib.hid (Xc.out.below hb Xc.out.lt)
    replace Sc := Lib.hid (Sc.out.mono hb)
    replace HB := Lib.hid (HB.out.trans (hb.mono HB.out.size))
    clear hb HK R0 R1 R2 R3 R4 R5 R6 R7
    go_wp2
    go_ret
    exact ⟨rfl, HB.out⟩
  · go_enter Try.func5, Try.ntmps5
    go_wp2_with fail
    refine (few_no e d _ _ A B _ Sf.out Sg.out hf).mono ?_
    rintro e w1 ⟨rfl, hb⟩
    replace Xf := Lib.hid (Xf.out.below hb Xf.out.lt)
    replace Sf := Lib.hid (Sf.out.mono hb)
    replace Xg := Lib.hid (Xg.out.below hb Xg.out.lt)
    replace Sg := Lib.hid (Sg.out.mono hb)
    replace HB := Lib.hid (HB.out.trans (hb.mono HB.out.size))
    clear hb
    go_wp2_with fail
    refine (live_yes _).mono ?_
    rintro e w2 ⟨rfl, hb⟩
    replace Xf := Lib.hid (Xf.out.below hb Xf.out.lt)
    replace Sf := Lib.hid (Sf.out.mono hb)
    replace Xg := Lib.hid (Xg.out.below hb Xg.out.lt)
    replace Sg := Lib.hid (Sg.out.mono hb)
    replace HB := Lib.hid (HB.out.trans (hb.mono HB.out.size))
    clear hb
    go_wp2
    go_ret
    exact ⟨rfl, HB.out⟩
end Go.Proofs.Ytjhaedhjbnhiaaa
