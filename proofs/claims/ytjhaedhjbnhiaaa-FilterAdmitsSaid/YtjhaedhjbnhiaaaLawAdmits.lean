/- The walk of FilterAdmits. -/
import Derived.Test.YtjhaedhjbnhiaaaFilLaws
namespace Go.Proofs.Ytjhaedhjbnhiaaa
open Go.RowKit Go.Lib Go.Sort
attribute [local go_sem ↓] Go.wp_at_zero Go.wp_at_succ

set_option maxHeartbeats 16000000 in
theorem law_admits (e : Bool) (v : Value) (A : List Str) (d : Bool) (u : Value) (B : List Str) (x : Str) (W : World) (hv : Strs W v A) (hu : Strs W u B) : Calls Try.prog 6 #[.agg #[.bool e, v], .agg #[.bool d, u], .string (bstr x)] W fun en W' => en = .returned (.bool true) ∧ Below W.heap.size W W' := by
  obtain ⟨ao, cap, rfl⟩ := hv.shape
  obtain ⟨bo, bcap, rfl⟩ := hu.shape
  have hv0 := Lib.hid hv
  have hu0 := Lib.hid (hu.mono ((Below.refl W.heap.size W).alloc (Nat.le_refl _) (.cells #[.bool e, .slice ao A.length cap] 24)))
  clear hv hu
  have HB := Lib.hid (Below.refl W.heap.size W)
  have hba : Below W.heap.size W (W.alloc (.cells #[.bool e, (.slice ao A.length cap)] 24)) := (Below.refl _ _).alloc (Nat.le_refl _) _
  have Xf := Lib.hid (FBox.new (w := W) (b := W.heap.size) e (.slice ao A.length cap) (by first | rfl | simp))
  have Sf := Lib.hid (hv0.out.mono hba)
  replace HB := Lib.hid (HB.out.trans (hba.mono HB.out.size))
  clear hba
  have hba : Below (W.alloc (.cells #[.bool e, (.slice ao A.length cap)] 24)).heap.size (W.alloc (.cells #[.bool e, (.slice ao A.length cap)] 24)) ((W.alloc (.cells #[.bool e, (.slice ao A.length cap)] 24)).alloc (.cells #[.bool d, (.slice bo B.length bcap)] 24)) := (Below.refl _ _).alloc (Nat.le_refl _) _
  have Xg := Lib.hid (FBox.new (w := (W.alloc (.cells #[.bool e, (.slice ao A.length cap)] 24))) (b := W.heap.size + 1) d (.slice bo B.length bcap) (by first | rfl | simp))
  have Sg := Lib.hid (hu0.out.mono hba)
  replace Xf := Lib.hid (Xf.out.below hba Xf.out.lt)
  replace Sf := Lib.hid (Sf.out.mono hba)
  replace HB := Lib.hid (HB.out.trans (hba.mono HB.out.size))
  clear hba
  by_cases hf : A.length ≤ 100 ∧ B.length ≤ 100
  · obtain ⟨ha, hb⟩ := hf
    obtain ⟨Ea, hEa⟩ : ∃ E, E = (e || d) := ⟨_, rfl⟩
    obtain ⟨La, hLa⟩ : ∃ l, l = sasc ((A ++ B).filter (pMade (pOr e A d B) (e || d))) := ⟨_, rfl⟩
    have Ha : Hid (∀ v u w, Strs w v A → Strs w u B → Calls Try.prog 22 #[.agg #[.bool e, v], .agg #[.bool d, u]] w (RetFil w Ea La)) := by rw [hEa, hLa]; exact fun v u w h h' => or_any e d v u A B w h h' (by omega)
    have Da := Lib.hid (show ∀ x, adm Ea La x = (adm e A x || adm d B x) by rw [hEa, hLa]; exact or_adm e A d B)
    have Pa := Lib.hid (show La.Pairwise (· < ·) by rw [hLa]; exact sasc_rising _)
    have Na : La.length ≤ A.length + B.length := by rw [hLa, ← List.length_append]; exact sasc_flen _ _
    replace hEa := Lib.hid hEa
    clear hLa
    obtain ⟨Eb, hEb⟩ : ∃ E, E = (e && d) := ⟨_, rfl⟩
    obtain ⟨Lb, hLb⟩ : ∃ l, l = sasc ((A ++ B).filter (pMade (pAnd e A d B) (e && d))) := ⟨_, rfl⟩
    have Hb : Hid (∀ v u w, Strs w v A → Strs w u B → Calls Try.prog 23 #[.agg #[.bool e, v], .agg #[.bool d, u]] w (RetFil w Eb Lb)) := by rw [hEb, hLb]; exact fun v u w h h' => and_any e d v u A B w h h' (by omega)
    have Db := Lib.hid (show ∀ x, adm Eb Lb x = (adm e A x && adm d B x) by rw [hEb, hLb]; exact and_adm e A d B)
    have Pb := Lib.hid (show Lb.Pairwise (· < ·) by rw [hLb]; exact sasc_rising _)
    have Nb : Lb.length ≤ A.length + B.length := by rw [hLb, ← List.length_append]; exact sasc_flen _ _
    replace hEb := Lib.hid hEb
    clear hLb
    obtain ⟨Ec, hEc⟩ : ∃ E, E = (!e) := ⟨_, rfl⟩
    obtain ⟨Lc, hLc⟩ : ∃ l, l = sasc (A.filter (pMade (pNot e A) (!e))) := ⟨_, rfl⟩
    have Hc : Hid (∀ v w, Strs w v A → Calls Try.prog 24 #[.agg #[.bool e, v]] w (RetFil w Ec Lc)) := by rw [hEc, hLc]; exact fun v w h => not_any e v A w h (by omega)
    have Dc := Lib.hid (show ∀ x, adm Ec Lc x = !adm e A x by rw [hEc, hLc]; exact not_adm e A)
    have Pc := Lib.hid (show Lc.Pairwise (· < ·) by rw [hLc]; exact sasc_rising _)
    have Nc : Lc.length ≤ A.length := by rw [hLc]; exact sasc_flen _ _
    replace hEc := Lib.hid hEc
    clear hLc
    obtain ⟨Ln, hLn⟩ : ∃ l, l = sasc A := ⟨_, rfl⟩
    have Hn : Hid (∀ v w, Strs w v A → Calls Try.prog 12 #[.agg #[.bool e, v]] w (RetFil w e Ln)) := by rw [hLn]; exact fun v w h => norm_any e v A w h (by omega)
    have Dn := Lib.hid (show ∀ x, adm e Ln x = adm e A x by rw [hLn]; exact adm_sasc e A)
    have Pn := Lib.hid (show Ln.Pairwise (· < ·) by rw [hLn]; exact sasc_rising _)
    have Nn : Ln.length ≤ A.length := by rw [hLn]; exact sasc_length _
    clear hLn
    obtain ⟨p, hp⟩ : ∃ p, p = adm e A x := ⟨_, rfl⟩
    obtain ⟨q, hq⟩ : ∃ q, q = adm d B x := ⟨_, rfl⟩
    have Gf : Hid (∀ v w, Strs w v A → Calls Try.prog 14 #[.agg #[.bool e, v], .string (bstr x)] w fun e w' => e = .returned (.bool p) ∧ Below w.heap.size w w') := by rw [hp]; exact fun v w h => admitsB e v A x w h
    have Gg : Hid (∀ v w, Strs w v B → Calls Try.prog 14 #[.agg #[.bool d, v], .string (bstr x)] w fun e w' => e = .returned (.bool q) ∧ Below w.heap.size w w') := by rw [hq]; exact fun v w h => admitsB d v B x w h
    have Ga : Hid (∀ v w, Strs w v La → Calls Try.prog 14 #[.agg #[.bool Ea, v], .string (bstr x)] w fun e w' => e = .returned (.bool (p || q)) ∧ Below w.heap.size w w') := by rw [hp, hq, ← Da.out x]; exact fun v w h => admitsB Ea v La x w h
    have Gb : Hid (∀ v w, Strs w v Lb → Calls Try.prog 14 #[.agg #[.bool Eb, v], .string (bstr x)] w fun e w' => e = .returned (.bool (p && q)) ∧ Below w.heap.size w w') := by rw [hp, hq, ← Db.out x]; exact fun v w h => admitsB Eb v Lb x w h
    have Gc : Hid (∀ v w, Strs w v Lc → Calls Try.prog 14 #[.agg #[.bool Ec, v], .string (bstr x)] w fun e w' => e = .returned (.bool (!p)) ∧ Below w.heap.size w w') := by rw [hp, ← Dc.out x]; exact fun v w h => admitsB Ec v Lc x w h
    have Gn : Hid (∀ v w, Strs w v Ln → Calls Try.prog 14 #[.agg #[.bool e, v], .string (bstr x)] w fun e w' => e = .returned (.bool p) ∧ Below w.heap.size w w') := by rw [hp, ← Dn.out x]; exact fun v w h => admitsB e v Ln x w h
    clear Na Nb Nc Nn hp hq
    cases p <;> cases q
    all_goals
      go_enter Try.func6, Try.ntmps6
      go_wp2_with fail
      refine (few_yes e d _ _ A B _ Sf.out Sg.out ha hb).mono ?_
      rintro e w1 ⟨rfl, hb⟩
      replace Xf := Lib.hid (Xf.out.below hb Xf.out.lt)
      replace Sf := Lib.hid (Sf.out.mono hb)
      replace Xg := Lib.hid (Xg.out.below hb Xg.out.lt)
      replace Sg := Lib.hid (Sg.out.mono hb)
      replace HB := Lib.hid (HB.out.trans (hb.mono HB.out.size))
      clear hb
      obtain ⟨x1a, x1b, _, _⟩ := Xf.out.facts
      go_wp2_with fail
      refine (Gf.out _ _ Sf.out).mono ?_
      clear x1a x1b
      rintro e w2 ⟨rfl, hb⟩
      replace Xf := Lib.hid (Xf.out.below hb Xf.out.lt)
      replace Sf := Lib.hid (Sf.out.mono hb)
      replace Xg := Lib.hid (Xg.out.below hb Xg.out.lt)
      replace Sg := Lib.hid (Sg.out.mono hb)
      replace HB := Lib.hid (HB.out.trans (hb.mono HB.out.size))
      clear hb
      obtain ⟨x2a, x2b, _, _⟩ := Xg.out.facts
      go_wp2_with fail
      refine (Gg.out _ _ Sg.out).mono ?_
      clear x2a x2b
      rintro e w3 ⟨rfl, hb⟩
      replace Xf := Lib.hid (Xf.out.below hb Xf.out.lt)
      replace Sf := Lib.hid (Sf.out.mono hb)
      replace Xg := Lib.hid (Xg.out.below hb Xg.out.lt)
      replace Sg := Lib.hid (Sg.out.mono hb)
      replace HB := Lib.hid (HB.out.trans (hb.mono HB.out.size))
      clear hb
      obtain ⟨x3a, x3b, _, _⟩ := Xf.out.facts
      obtain ⟨x4a, x4b, _, _⟩ := Xg.out.facts
      go_wp2_with fail
      refine (Ha.out _ _ _ Sf.out Sg.out).mono ?_
      clear x3a x3b x4a x4b
      rintro e w4 ⟨o, rfl, ho, hb, _⟩
      obtain ⟨oa, ca, rfl⟩ := ho.shape
      have S_a := Lib.hid ho
      clear ho
      replace Xf := Lib.hid (Xf.out.below hb Xf.out.lt)
      replace Sf := Lib.hid (Sf.out.mono hb)
      replace Xg := Lib.hid (Xg.out.below hb Xg.out.lt)
      replace Sg := Lib.hid (Sg.out.mono hb)
      replace HB := Lib.hid (HB.out.trans (hb.mono HB.out.size))
      clear hb
      go_wp2_with fail
      refine (Ga.out _ _ S_a.out).mono ?_
      rintro e w5 ⟨rfl, hb⟩
      replace Xf := Lib.hid (Xf.out.below hb Xf.out.lt)
      replace Sf := Lib.hid (Sf.out.mono hb)
      replace Xg := Lib.hid (Xg.out.below hb Xg.out.lt)
      replace Sg := Lib.hid (Sg.out.mono hb)
      replace HB := Lib.hid (HB.out.trans (hb.mono HB.out.size))
      clear hb
      obtain ⟨x5a, x5b, _, _⟩ := Xf.out.facts
      obtain ⟨x6a, x6b, _, _⟩ := Xg.out.facts
      go_wp2_with fail
      refine (Hb.out _ _ _ Sf.out Sg.out).mono ?_
      clear x5a x5b x6a x6b
      rintro e w6 ⟨o, rfl, ho, hb, _⟩
      obtain ⟨ob, cb, rfl⟩ := ho.shape
      have S_b := Lib.hid ho
      clear ho
      replace Xf := Lib.hid (Xf.out.below hb Xf.out.lt)
      replace Sf := Lib.hid (Sf.out.mono hb)
      replace Xg := Lib.hid (Xg.out.below hb Xg.out.lt)
      replace Sg := Lib.hid (Sg.out.mono hb)
      replace HB := Lib.hid (HB.out.trans (hb.mono HB.out.size))
      clear hb
      go_wp2_with fail
      refine (Gb.out _ _ S_b.out).mono ?_
      rintro e w7 ⟨rfl, hb⟩
      replace Xf := Lib.hid (Xf.out.below hb Xf.out.lt)
      replace Sf := Lib.hid (Sf.out.mono hb)
      replace Xg := Lib.hid (Xg.out.below hb Xg.out.lt)
      replace Sg := Lib.hid (Sg.out.mono hb)
      replace HB := Lib.hid (HB.out.trans (hb.mono HB.out.size))
      clear hb
      obtain ⟨x7a, x7b, _, _⟩ := Xf.out.facts
      go_wp2_with fail
      refine (Hc.out _ _ Sf.out).mono ?_
      clear x7a x7b
      rintro e w8 ⟨o, rfl, ho, hb, _⟩
      obtain ⟨oc, cc, rfl⟩ := ho.shape
      have S_c := Lib.hid ho
      clear ho
      replace Xf := Lib.hid (Xf.out.below hb Xf.out.lt)
      replace Sf := Lib.hid (Sf.out.mono hb)
      replace Xg := Lib.hid (Xg.out.below hb Xg.out.lt)
      replace Sg := Lib.hid (Sg.out.mono hb)
      replace HB := Lib.hid (HB.out.trans (hb.mono HB.out.size))
      clear hb
      go_wp2_with fail
      refine (Gc.out _ _ S_c.out).mono ?_
      rintro e w9 ⟨rfl, hb⟩
      replace Xf := Lib.hid (Xf.out.below hb Xf.out.lt)
      replace Sf := Lib.hid (Sf.out.mono hb)
      replace Xg := Lib.hid (Xg.out.below hb Xg.out.lt)
      replace Sg := Lib.hid (Sg.out.mono hb)
      replace HB := Lib.hid (HB.out.trans (hb.mono HB.out.size))
      clear hb
      obtain ⟨x8a, x8b, _, _⟩ := Xf.out.facts
      go_wp2_with fail
      refine (Hn.out _ _ Sf.out).mono ?_
      clear x8a x8b
      rintro e w10 ⟨o, rfl, ho, hb, _⟩
      obtain ⟨on, cn, rfl⟩ := ho.shape
      have S_n := Lib.hid ho
      clear ho
      replace Xf := Lib.hid (Xf.out.below hb Xf.out.lt)
      replace Sf := Lib.hid (Sf.out.mono hb)
      replace Xg := Lib.hid (Xg.out.below hb Xg.out.lt)
      replace Sg := Lib.hid (Sg.out.mono hb)
      replace HB := Lib.hid (HB.out.trans (hb.mono HB.out.size))
      clear hb
      go_wp2_with fail
      refine (Gn.out _ _ S_n.out).mono ?_
      rintro e w11 ⟨rfl, hb⟩
      replace Xf := Lib.hid (Xf.out.below hb Xf.out.lt)
      replace Sf := Lib.hid (Sf.out.mono hb)
      replace Xg := Lib.hid (Xg.out.below hb Xg.out.lt)
      replace Sg := Lib.hid (Sg.out.mono hb)
      replace HB := Lib.hid (HB.out.trans (hb.mono HB.out.size))
      clear hb
      go_wp2_with fail
      refine (live_yes _).mono ?_
      rintro e w12 ⟨rfl, hb⟩
      replace Xf := Lib.hid (Xf.out.below hb Xf.out.lt)
      replace Sf := Lib.hid (Sf.out.mono hb)
      replace Xg := Lib.hid (Xg.out.below hb Xg.out.lt)
      replace Sg := Lib.hid (Sg.out.mono hb)
      replace HB := Lib.hid (HB.out.trans (hb.mono HB.out.size))
      clear hb
      go_wp2
      go_ret
      exact ⟨rfl, HB.out⟩
  · go_enter Try.func6, Try.ntmps6
    go_wp2_with fail
    refine (few_no e d _ _ A B _ Sf.out Sg.out hf).mono ?_
    rintro e w1 ⟨rfl, hb⟩
    replace Xf := Lib.hid (Xf.out.below hb Xf.out.lt)
    replace Sf := Lib.hid (Sf.out.mono hb)
    replace Xg := Lib.hid (Xg.out.below hb Xg.out.lt)
    replace Sg := Lib.hid (Sg.out.mono hb)
    replace HB := Lib.hid (HB.out.trans (hb.mono HB.out.size))
    clear hb
    go_wp2_with fail
    refine (live_yes _).mono ?_
    rintro e w2 ⟨rfl, hb⟩
    replace Xf := Lib.hid (Xf.out.below hb Xf.out.lt)
    replace Sf := Lib.hid (Sf.out.mono hb)
    replace Xg := Lib.hid (Xg.out.below hb Xg.out.lt)
    replace Sg := Lib.hid (Sg.out.mono hb)
    replace HB := Lib.hid (HB.out.trans (hb.mono HB.out.size))
    clear hb
    go_wp2
    go_ret
    exact ⟨rfl, HB.out⟩
end Go.Proofs.Ytjhaedhjbnhiaaa
