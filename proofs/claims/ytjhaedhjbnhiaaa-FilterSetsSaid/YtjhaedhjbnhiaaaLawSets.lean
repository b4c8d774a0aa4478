/- The walk of FilterSets. -/
import Derived.Test.YtjhaedhjbnhiaaaFilLaws
namespace Go.Proofs.Ytjhaedhjbnhiaaa
open Go.RowKit Go.Lib Go.Sort
attribute [local go_sem ↓] Go.wp_at_zero Go.wp_at_succ

set_option maxHeartbeats 16000000 in
theorem law_sets (e : Bool) (v : Value) (A : List Str) (d : Bool) (u : Value) (B : List Str) (c : Bool) (z : Value) (C : List Str) (W : World) (hv : Strs W v A) (hu : Strs W u B) (hz : Strs W z C) : Calls Try.prog 7 #[.agg #[.bool e, v], .agg #[.bool d, u], .agg #[.bool c, z]] W fun en W' => en = .returned (.bool true) ∧ Below W.heap.size W W' := by
  obtain ⟨ao, cap, rfl⟩ := hv.shape
  obtain ⟨bo, bcap, rfl⟩ := hu.shape
  obtain ⟨co, ccap, rfl⟩ := hz.shape
  have hv0 := Lib.hid hv
  have hu0 := Lib.hid (hu.mono ((Below.refl W.heap.size W).alloc (Nat.le_refl _) (.cells #[.bool e, .slice ao A.length cap] 24)))
  have hz0 := Lib.hid (hz.mono (((Below.refl W.heap.size W).alloc (Nat.le_refl _) (.cells #[.bool e, .slice ao A.length cap] 24)).alloc (by simp) (.cells #[.bool d, .slice bo B.length bcap] 24)))
  clear hv hu hz
  have HB := Lib.hid (Below.refl W.heap.size W)
  have hba : Below W.heap.size W (W.alloc (.cells #[.bool e, (.slice ao A.length cap)] 24)) := (Below.refl _ _).alloc (Nat.le_refl _) _
  have Xf := Lib.hid (FBox.new (w := W) (b := W.heap.size) e (.slice ao A.length cap) (by first | rfl | simp))
  have Sf := Lib.hid (hv0.out.mono hba)
  replace HB := Lib.hid (HB.out.trans (hba.mono HB.out.size))
  clear hba
  have hba : Below (W.alloc (.cells #[.bool e, (.slice ao A.length cap)] 24)).heap.size (W.alloc (.cells #[.bool e, (.slice ao A.length cap)] 24)) ((W.alloc (.cells #[.bool e, (.slice ao A.length cap)] 24)).alloc (.cells #[.bool d, (.slice bo B.length bcap)] 24)) := (Below.refl _ _).alloc (Nat.le_refl _) _
  have Xg := Lib.hid (FBox.new (w := (W.alloc (.cells #[.bool e, (.slice ao A.length cap)] 24))) (b := W.heap.size + 1) d (.slice bo B.length bcap) (by first | rfl | simp))
  have Sg := Lib.hid (hu0.out.mono hba)
  replace Xf := Lib.hid (Xf.out.below hba Xf.out.lt)
  replace Sf := Lib.hid (Sf.out.mono hba)
  replace HB := Lib.hid (HB.out.trans (hba.mono HB.out.size))
  clear hba
  have hba : Below ((W.alloc (.cells #[.bool e, (.slice ao A.length cap)] 24)).alloc (.cells #[.bool d, (.slice bo B.length bcap)] 24)).heap.size ((W.alloc (.cells #[.bool e, (.slice ao A.length cap)] 24)).alloc (.cells #[.bool d, (.slice bo B.length bcap)] 24)) (((W.alloc (.cells #[.bool e, (.slice ao A.length cap)] 24)).alloc (.cells #[.bool d, (.slice bo B.length bcap)] 24)).alloc (.cells #[.bool c, (.slice co C.length ccap)] 24)) := (Below.refl _ _).alloc (Nat.le_refl _) _
  have Xh := Lib.hid (FBox.new (w := ((W.alloc (.cells #[.bool e, (.slice ao A.length cap)] 24)).alloc (.cells #[.bool d, (.slice bo B.length bcap)] 24))) (b := W.heap.size + 1 + 1) c (.slice co C.length ccap) (by first | rfl | simp))
  have Sh := Lib.hid (hz0.out.mono hba)
  replace Xf := Lib.hid (Xf.out.below hba Xf.out.lt)
  replace Sf := Lib.hid (Sf.out.mono hba)
  replace Xg := Lib.hid (Xg.out.below hba Xg.out.lt)
  replace Sg := Lib.hid (Sg.out.mono hba)
  replace HB := Lib.hid (HB.out.trans (hba.mono HB.out.size))
  clear hba
  by_cases hf : (A.length ≤ 100 ∧ B.length ≤ 100) ∧ C.length ≤ 60
  · obtain ⟨⟨ha, hb⟩, hc⟩ := hf
    obtain ⟨Ea1, hEa1⟩ : ∃ E, E = (e || d) := ⟨_, rfl⟩
    obtain ⟨La1, hLa1⟩ : ∃ l, l = sasc ((A ++ B).filter (pMade (pOr e A d B) (e || d))) := ⟨_, rfl⟩
    have Ha1 : Hid (∀ v u w, Strs w v A → Strs w u B → Calls Try.prog 22 #[.agg #[.bool e, v], .agg #[.bool d, u]] w (RetFil w Ea1 La1)) := by rw [hEa1, hLa1]; exact fun v u w h h' => or_any e d v u A B w h h' (by omega)
    have Da1 := Lib.hid (show ∀ x, adm Ea1 La1 x = (adm e A x || adm d B x) by rw [hEa1, hLa1]; exact or_adm e A d B)
    have Pa1 := Lib.hid (show La1.Pairwise (· < ·) by rw [hLa1]; exact sasc_rising _)
    have Na1 : La1.length ≤ A.length + B.length := by rw [hLa1, ← List.length_append]; exact sasc_flen _ _
    replace hEa1 := Lib.hid hEa1
    clear hLa1
    obtain ⟨Ea2, hEa2⟩ : ∃ E, E = (d || e) := ⟨_, rfl⟩
    obtain ⟨La2, hLa2⟩ : ∃ l, l = sasc ((B ++ A).filter (pMade (pOr d B e A) (d || e))) := ⟨_, rfl⟩
    have Ha2 : Hid (∀ v u w, Strs w v B → Strs w u A → Calls Try.prog 22 #[.agg #[.bool d, v], .agg #[.bool e, u]] w (RetFil w Ea2 La2)) := by rw [hEa2, hLa2]; exact fun v u w h h' => or_any d e v u B A w h h' (by omega)
    have Da2 := Lib.hid (show ∀ x, adm Ea2 La2 x = (adm d B x || adm e A x) by rw [hEa2, hLa2]; exact or_adm d B e A)
    have Pa2 := Lib.hid (show La2.Pairwise (· < ·) by rw [hLa2]; exact sasc_rising _)
    have Na2 : La2.length ≤ B.length + A.length := by rw [hLa2, ← List.length_append]; exact sasc_flen _ _
    replace hEa2 := Lib.hid hEa2
    clear hLa2
    obtain ⟨Eb1, hEb1⟩ : ∃ E, E = (e && d) := ⟨_, rfl⟩
    obtain ⟨Lb1, hLb1⟩ : ∃ l, l = sasc ((A ++ B).filter (pMade (pAnd e A d B) (e && d))) := ⟨_, rfl⟩
    have Hb1 : Hid (∀ v u w, Strs w v A → Strs w u B → Calls Try.prog 23 #[.agg #[.bool e, v], .agg #[.bool d, u]] w (RetFil w Eb1 Lb1)) := by rw [hEb1, hLb1]; exact fun v u w h h' => and_any e d v u A B w h h' (by omega)
    have Db1 := Lib.hid (show ∀ x, adm Eb1 Lb1 x = (adm e A x && adm d B x) by rw [hEb1, hLb1]; exact and_adm e A d B)
    have Pb1 := Lib.hid (show Lb1.Pairwise (· < ·) by rw [hLb1]; exact sasc_rising _)
    have Nb1 : Lb1.length ≤ A.length + B.length := by rw [hLb1, ← List.length_append]; exact sasc_flen _ _
    replace hEb1 := Lib.hid hEb1
    clear hLb1
    obtain ⟨Eb2, hEb2⟩ : ∃ E, E = (d && e) := ⟨_, rfl⟩
    obtain ⟨Lb2, hLb2⟩ : ∃ l, l = sasc ((B ++ A).filter (pMade (pAnd d B e A) (d && e))) := ⟨_, rfl⟩
    have Hb2 : Hid (∀ v u w, Strs w v B → Strs w u A → Calls Try.prog 23 #[.agg #[.bool d, v], .agg #[.bool e, u]] w (RetFil w Eb2 Lb2)) := by rw [hEb2, hLb2]; exact fun v u w h h' => and_any d e v u B A w h h' (by omega)
    have Db2 := Lib.hid (show ∀ x, adm Eb2 Lb2 x = (adm d B x && adm e A x) by rw [hEb2, hLb2]; exact and_adm d B e A)
    have Pb2 := Lib.hid (show Lb2.Pairwise (· < ·) by rw [hLb2]; exact sasc_rising _)
    have Nb2 : Lb2.length ≤ B.length + A.length := by rw [hLb2, ← List.length_append]; exact sasc_flen _ _
    replace hEb2 := Lib.hid hEb2
    clear hLb2
    obtain ⟨Ec1, hEc1⟩ : ∃ E, E = (Ea1 || c) := ⟨_, rfl⟩
    obtain ⟨Lc1, hLc1⟩ : ∃ l, l = sasc ((La1 ++ C).filter (pMade (pOr Ea1 La1 c C) (Ea1 || c))) := ⟨_, rfl⟩
    have Hc1 : Hid (∀ v u w, Strs w v La1 → Strs w u C → Calls Try.prog 22 #[.agg #[.bool Ea1, v], .agg #[.bool c, u]] w (RetFil w Ec1 Lc1)) := by rw [hEc1, hLc1]; exact fun v u w h h' => or_any Ea1 c v u La1 C w h h' (by omega)
    have Dc1 := Lib.hid (show ∀ x, adm Ec1 Lc1 x = (adm Ea1 La1 x || adm c C x) by rw [hEc1, hLc1]; exact or_adm Ea1 La1 c C)
    have Pc1 := Lib.hid (show Lc1.Pairwise (· < ·) by rw [hLc1]; exact sasc_rising _)
    have Nc1 : Lc1.length ≤ La1.length + C.length := by rw [hLc1, ← List.length_append]; exact sasc_flen _ _
    replace hEc1 := Lib.hid hEc1
    clear hLc1
    obtain ⟨Egh, hEgh⟩ : ∃ E, E = (d || c) := ⟨_, rfl⟩
    obtain ⟨Lgh, hLgh⟩ : ∃ l, l = sasc ((B ++ C).filter (pMade (pOr d B c C) (d || c))) := ⟨_, rfl⟩
    have Hgh : Hid (∀ v u w, Strs w v B → Strs w u C → Calls Try.prog 22 #[.agg #[.bool d, v], .agg #[.bool c, u]] w (RetFil w Egh Lgh)) := by rw [hEgh, hLgh]; exact fun v u w h h' => or_any d c v u B C w h h' (by omega)
    have Dgh := Lib.hid (show ∀ x, adm Egh Lgh x = (adm d B x || adm c C x) by rw [hEgh, hLgh]; exact or_adm d B c C)
    have Pgh := Lib.hid (show Lgh.Pairwise (· < ·) by rw [hLgh]; exact sasc_rising _)
    have Ngh : Lgh.length ≤ B.length + C.length := by rw [hLgh, ← List.length_append]; exact sasc_flen _ _
    replace hEgh := Lib.hid hEgh
    clear hLgh
    obtain ⟨Ec2, hEc2⟩ : ∃ E, E = (e || Egh) := ⟨_, rfl⟩
    obtain ⟨Lc2, hLc2⟩ : ∃ l, l = sasc ((A ++ Lgh).filter (pMade (pOr e A Egh Lgh) (e || Egh))) := ⟨_, rfl⟩
    have Hc2 : Hid (∀ v u w, Strs w v A → Strs w u Lgh → Calls Try.prog 22 #[.agg #[.bool e, v], .agg #[.bool Egh, u]] w (RetFil w Ec2 Lc2)) := by rw [hEc2, hLc2]; exact fun v u w h h' => or_any e Egh v u A Lgh w h h' (by omega)
    have Dc2 := Lib.hid (show ∀ x, adm Ec2 Lc2 x = (adm e A x || adm Egh Lgh x) by rw [hEc2, hLc2]; exact or_adm e A Egh Lgh)
    have Pc2 := Lib.hid (show Lc2.Pairwise (· < ·) by rw [hLc2]; exact sasc_rising _)
    have Nc2 : Lc2.length ≤ A.length + Lgh.length := by rw [hLc2, ← List.length_append]; exact sasc_flen _ _
    replace hEc2 := Lib.hid hEc2
    clear hLc2
    obtain ⟨Enf, hEnf⟩ : ∃ E, E = (!e) := ⟨_, rfl⟩
    obtain ⟨Lnf, hLnf⟩ : ∃ l, l = sasc (A.filter (pMade (pNot e A) (!e))) := ⟨_, rfl⟩
    have Hnf : Hid (∀ v w, Strs w v A → Calls Try.prog 24 #[.agg #[.bool e, v]] w (RetFil w Enf Lnf)) := by rw [hEnf, hLnf]; exact fun v w h => not_any e v A w h (by omega)
    have Dnf := Lib.hid (show ∀ x, adm Enf Lnf x = !adm e A x by rw [hEnf, hLnf]; exact not_adm e A)
    have Pnf := Lib.hid (show Lnf.Pairwise (· < ·) by rw [hLnf]; exact sasc_rising _)
    have Nnf : Lnf.length ≤ A.length := by rw [hLnf]; exact sasc_flen _ _
    replace hEnf := Lib.hid hEnf
    clear hLnf
    obtain ⟨Enn, hEnn⟩ : ∃ E, E = (!Enf) := ⟨_, rfl⟩
    obtain ⟨Lnn, hLnn⟩ : ∃ l, l = sasc (Lnf.filter (pMade (pNot Enf Lnf) (!Enf))) := ⟨_, rfl⟩
    have Hnn : Hid (∀ v w, Strs w v Lnf → Calls Try.prog 24 #[.agg #[.bool Enf, v]] w (RetFil w Enn Lnn)) := by rw [hEnn, hLnn]; exact fun v w h => not_any Enf v Lnf w h (by omega)
    have Dnn := Lib.hid (show ∀ x, adm Enn Lnn x = !adm Enf Lnf x by rw [hEnn, hLnn]; exact not_adm Enf Lnf)
    have Pnn := Lib.hid (show Lnn.Pairwise (· < ·) by rw [hLnn]; exact sasc_rising _)
    have Nnn : Lnn.length ≤ Lnf.length := by rw [hLnn]; exact sasc_flen _ _
    replace hEnn := Lib.hid hEnn
    clear hLnn
    obtain ⟨Ln, hLn⟩ : ∃ l, l = sasc A := ⟨_, rfl⟩
    have Hn : Hid (∀ v w, Strs w v A → Calls Try.prog 12 #[.agg #[.bool e, v]] w (RetFil w e Ln)) := by rw [hLn]; exact fun v w h => norm_any e v A w h (by omega)
    have Dn := Lib.hid (show ∀ x, adm e Ln x = adm e A x by rw [hLn]; exact adm_sasc e A)
    have Pn := Lib.hid (show Ln.Pairwise (· < ·) by rw [hLn]; exact sasc_rising _)
    have Nn : Ln.length ≤ A.length := by rw [hLn]; exact sasc_length _
    clear hLn
    obtain ⟨Ek1, hEk1⟩ : ∃ E, E = (e && Egh) := ⟨_, rfl⟩
    obtain ⟨Lk1, hLk1⟩ : ∃ l, l = sasc ((A ++ Lgh).filter (pMade (pAnd e A Egh Lgh) (e && Egh))) := ⟨_, rfl⟩
    have Hk1 : Hid (∀ v u w, Strs w v A → Strs w u Lgh → Calls Try.prog 23 #[.agg #[.bool e, v], .agg #[.bool Egh, u]] w (RetFil w Ek1 Lk1)) := by rw [hEk1, hLk1]; exact fun v u w h h' => and_any e Egh v u A Lgh w h h' (by omega)
    have Dk1 := Lib.hid (show ∀ x, adm Ek1 Lk1 x = (adm e A x && adm Egh Lgh x) by rw [hEk1, hLk1]; exact and_adm e A Egh Lgh)
    have Pk1 := Lib.hid (show Lk1.Pairwise (· < ·) by rw [hLk1]; exact sasc_rising _)
    have Nk1 : Lk1.length ≤ A.length + Lgh.length := by rw [hLk1, ← List.length_append]; exact sasc_flen _ _
    replace hEk1 := Lib.hid hEk1
    clear hLk1
    obtain ⟨Efh, hEfh⟩ : ∃ E, E = (e && c) := ⟨_, rfl⟩
    obtain ⟨Lfh, hLfh⟩ : ∃ l, l = sasc ((A ++ C).filter (pMade (pAnd e A c C) (e && c))) := ⟨_, rfl⟩
    have Hfh : Hid (∀ v u w, Strs w v A → Strs w u C → Calls Try.prog 23 #[.agg #[.bool e, v], .agg #[.bool c, u]] w (RetFil w Efh Lfh)) := by rw [hEfh, hLfh]; exact fun v u w h h' => and_any e c v u A C w h h' (by omega)
    have Dfh := Lib.hid (show ∀ x, adm Efh Lfh x = (adm e A x && adm c C x) by rw [hEfh, hLfh]; exact and_adm e A c C)
    have Pfh := Lib.hid (show Lfh.Pairwise (· < ·) by rw [hLfh]; exact sasc_rising _)
    have Nfh : Lfh.length ≤ A.length + C.length := by rw [hLfh, ← List.length_append]; exact sasc_flen _ _
    replace hEfh := Lib.hid hEfh
    clear hLfh
    obtain ⟨Ek2, hEk2⟩ : ∃ E, E = (Eb1 || Efh) := ⟨_, rfl⟩
    obtain ⟨Lk2, hLk2⟩ : ∃ l, l = sasc ((Lb1 ++ Lfh).filter (pMade (pOr Eb1 Lb1 Efh Lfh) (Eb1 || Efh))) := ⟨_, rfl⟩
    have Hk2 : Hid (∀ v u w, Strs w v Lb1 → Strs w u Lfh → Calls Try.prog 22 #[.agg #[.bool Eb1, v], .agg #[.bool Efh, u]] w (RetFil w Ek2 Lk2)) := by rw [hEk2, hLk2]; exact fun v u w h h' => or_any Eb1 Efh v u Lb1 Lfh w h h' (by omega)
    have Dk2 := Lib.hid (show ∀ x, adm Ek2 Lk2 x = (adm Eb1 Lb1 x || adm Efh Lfh x) by rw [hEk2, hLk2]; exact or_adm Eb1 Lb1 Efh Lfh)
    have Pk2 := Lib.hid (show Lk2.Pairwise (· < ·) by rw [hLk2]; exact sasc_rising _)
    have Nk2 : Lk2.length ≤ Lb1.length + Lfh.length := by rw [hLk2, ← List.length_append]; exact sasc_flen _ _
    replace hEk2 := Lib.hid hEk2
    clear hLk2
    obtain ⟨Em1, hEm1⟩ : ∃ E, E = (!Ea1) := ⟨_, rfl⟩
    obtain ⟨Lm1, hLm1⟩ : ∃ l, l = sasc (La1.filter (pMade (pNot Ea1 La1) (!Ea1))) := ⟨_, rfl⟩
    have Hm1 : Hid (∀ v w, Strs w v La1 → Calls Try.prog 24 #[.agg #[.bool Ea1, v]] w (RetFil w Em1 Lm1)) := by rw [hEm1, hLm1]; exact fun v w h => not_any Ea1 v La1 w h (by omega)
    have Dm1 := Lib.hid (show ∀ x, adm Em1 Lm1 x = !adm Ea1 La1 x by rw [hEm1, hLm1]; exact not_adm Ea1 La1)
    have Pm1 := Lib.hid (show Lm1.Pairwise (· < ·) by rw [hLm1]; exact sasc_rising _)
    have Nm1 : Lm1.length ≤ La1.length := by rw [hLm1]; exact sasc_flen _ _
    replace hEm1 := Lib.hid hEm1
    clear hLm1
    obtain ⟨Eng, hEng⟩ : ∃ E, E = (!d) := ⟨_, rfl⟩
    obtain ⟨Lng, hLng⟩ : ∃ l, l = sasc (B.filter (pMade (pNot d B) (!d))) := ⟨_, rfl⟩
    have Hng : Hid (∀ v w, Strs w v B → Calls Try.prog 24 #[.agg #[.bool d, v]] w (RetFil w Eng Lng)) := by rw [hEng, hLng]; exact fun v w h => not_any d v B w h (by omega)
    have Dng := Lib.hid (show ∀ x, adm Eng Lng x = !adm d B x by rw [hEng, hLng]; exact not_adm d B)
    have Png := Lib.hid (show Lng.Pairwise (· < ·) by rw [hLng]; exact sasc_rising _)
    have Nng : Lng.length ≤ B.length := by rw [hLng]; exact sasc_flen _ _
    replace hEng := Lib.hid hEng
    clear hLng
    obtain ⟨Em2, hEm2⟩ : ∃ E, E = (Enf && Eng) := ⟨_, rfl⟩
    obtain ⟨Lm2, hLm2⟩ : ∃ l, l = sasc ((Lnf ++ Lng).filter (pMade (pAnd Enf Lnf Eng Lng) (Enf && Eng))) := ⟨_, rfl⟩
    have Hm2 : Hid (∀ v u w, Strs w v Lnf → Strs w u Lng → Calls Try.prog 23 #[.agg #[.bool Enf, v], .agg #[.bool Eng, u]] w (RetFil w Em2 Lm2)) := by rw [hEm2, hLm2]; exact fun v u w h h' => and_any Enf Eng v u Lnf Lng w h h' (by omega)
    have Dm2 := Lib.hid (show ∀ x, adm Em2 Lm2 x = (adm Enf Lnf x && adm Eng Lng x) by rw [hEm2, hLm2]; exact and_adm Enf Lnf Eng Lng)
    have Pm2 := Lib.hid (show Lm2.Pairwise (· < ·) by rw [hLm2]; exact sasc_rising _)
    have Nm2 : Lm2.length ≤ Lnf.length + Lng.length := by rw [hLm2, ← List.length_append]; exact sasc_flen _ _
    replace hEm2 := Lib.hid hEm2
    clear hLm2
    have Q1 := Lib.hid (fil_same (E1 := Ea1) (E2 := Ea2) (L1 := La1) (L2 := La2) (by rw [hEa1.out, hEa2.out]; cases e <;> cases d <;> cases c <;> rfl) Pa1.out Pa2.out (fun x => by rw [Da1.out, Da2.out]; cases adm e A x <;> cases adm d B x <;> cases adm c C x <;> rfl))
    have Q2 := Lib.hid (fil_same (E1 := Eb1) (E2 := Eb2) (L1 := Lb1) (L2 := Lb2) (by rw [hEb1.out, hEb2.out]; cases e <;> cases d <;> cases c <;> rfl) Pb1.out Pb2.out (fun x => by rw [Db1.out, Db2.out]; cases adm e A x <;> cases adm d B x <;> cases adm c C x <;> rfl))
    have Q3 := Lib.hid (fil_same (E1 := Ec1) (E2 := Ec2) (L1 := Lc1) (L2 := Lc2) (by rw [hEc1.out, hEa1.out, hEc2.out, hEgh.out]; cases e <;> cases d <;> cases c <;> rfl) Pc1.out Pc2.out (fun x => by rw [Dc1.out, Da1.out, Dc2.out, Dgh.out]; cases adm e A x <;> cases adm d B x <;> cases adm c C x <;> rfl))
    have Q4 := Lib.hid (fil_same (E1 := Enn) (E2 := e) (L1 := Lnn) (L2 := Ln) (by rw [hEnn.out, hEnf.out]; cases e <;> cases d <;> cases c <;> rfl) Pnn.out Pn.out (fun x => by rw [Dnn.out, Dnf.out, Dn.out]; cases adm e A x <;> cases adm d B x <;> cases adm c C x <;> rfl))
    have Q5 := Lib.hid (fil_same (E1 := Ek1) (E2 := Ek2) (L1 := Lk1) (L2 := Lk2) (by rw [hEk1.out, hEgh.out, hEk2.out, hEb1.out, hEfh.out]; cases e <;> cases d <;> cases c <;> rfl) Pk1.out Pk2.out (fun x => by rw [Dk1.out, Dgh.out, Dk2.out, Db1.out, Dfh.out]; cases adm e A x <;> cases adm d B x <;> cases adm c C x <;> rfl))
    have Q6 := Lib.hid (fil_same (E1 := Em1) (E2 := Em2) (L1 := Lm1) (L2 := Lm2) (by rw [hEm1.out, hEa1.out, hEm2.out, hEnf.out, hEng.out]; cases e <;> cases d <;> cases c <;> rfl) Pm1.out Pm2.out (fun x => by rw [Dm1.out, Da1.out, Dm2.out, Dnf.out, Dng.out]; cases adm e A x <;> cases adm d B x <;> cases adm c C x <;> rfl))
    clear Na1 Na2 Nb1 Nb2 Nc1 Ngh Nc2 Nnf Nnn Nn Nk1 Nfh Nk2 Nm1 Nng Nm2
    have hc6 : decide ((60 : Int) < (C.length : Int)) = false := decide_eq_false (by omega)
    go_enter Try.func7, Try.ntmps7
    go_wp2_with fail
    refine (few_yes e d _ _ A B _ Sf.out Sg.out ha hb).mono ?_
    rintro e w1 ⟨rfl, hb⟩
    replace Xf := Lib.hid (Xf.out.below hb Xf.out.lt)
    replace Sf := Lib.hid (Sf.out.mono hb)
    replace Xg := Lib.hid (Xg.out.below hb Xg.out.lt)
    replace Sg := Lib.hid (Sg.out.mono hb)
    replace Xh := Lib.hid (Xh.out.below hb Xh.out.lt)
    replace Sh := Lib.hid (Sh.out.mono hb)
    replace HB := Lib.hid (HB.out.trans (hb.mono HB.out.size))
    clear hb
    obtain ⟨x1a, x1b, _, _⟩ := Xh.out.facts
    have HK := Lib.hid (show ∀ w', Below w1.heap.size w1 w' → w'.cell? ⟨W.heap.size, 0, none⟩ = some (.bool e) ∧ w'.cell? ⟨W.heap.size, 1, none⟩ = some (.slice ao A.length cap) ∧ w'.cell? ⟨W.heap.size + 1, 0, none⟩ = some (.bool d) ∧ w'.cell? ⟨W.heap.size + 1, 1, none⟩ = some (.slice bo B.length bcap) from fun w' hb => ⟨(Xf.out.below hb Xf.out.lt).facts.1, (Xf.out.below hb Xf.out.lt).facts.2.1, (Xg.out.below hb Xg.out.lt).facts.1, (Xg.out.below hb Xg.out.lt).facts.2.1⟩)
    have R0 := Lib.hid (Below.drew (Below.refl w1.heap.size w1))
    go_wp2_with fail
    clear x1a x1b
    go_region_held3 (fun w' => w'.cell? ⟨W.heap.size, 0, none⟩ = some (.bool e) ∧ w'.cell? ⟨W.heap.size, 1, none⟩ = some (.slice ao A.length cap) ∧ w'.cell? ⟨W.heap.size + 1, 0, none⟩ = some (.bool d) ∧ w'.cell? ⟨W.heap.size + 1, 1, none⟩ = some (.slice bo B.length bcap)) (first | exact HK.out _ R6.out | exact HK.out _ R5.out | exact HK.out _ R4.out | exact HK.out _ R3.out | exact HK.out _ R2.out | exact HK.out _ R1.out | exact HK.out _ R0.out) (first | ((with_reducible refine (same_yes2 _ _ _ _ _ _ _ Tb1.out Tb2.out Q2.out).mono ?_); rintro e v1_6w ⟨rfl, hb⟩; replace Ta1 := Lib.hid (Ta1.out.mono hb); replace Ta2 := Lib.hid (Ta2.out.mono hb); replace Tb1 := Lib.hid (Tb1.out.mono hb); replace Tb2 := Lib.hid (Tb2.out.mono hb); have R6 := Lib.hid (R5.out.trans (hb.mono R5.out.size)); clear hb) | ((with_reducible refine (Hb2.out _ _ _ (Sg.out.mono R4.out) (Sf.out.mono R4.out)).mono ?_); rintro e v1_5w ⟨o, rfl, ho, hb, _⟩; obtain ⟨ob2, cb2, rfl⟩ := ho.shape; have Tb2 := Lib.hid ho; clear ho; replace Ta1 := Lib.hid (Ta1.out.mono hb); replace Ta2 := Lib.hid (Ta2.out.mono hb); replace Tb1 := Lib.hid (Tb1.out.mono hb); have R5 := Lib.hid (R4.out.trans (hb.mono R4.out.size)); clear hb) | ((with_reducible refine (Hb1.out _ _ _ (Sf.out.mono R3.out) (Sg.out.mono R3.out)).mono ?_); rintro e v1_4w ⟨o, rfl, ho, hb, _⟩; obtain ⟨ob1, cb1, rfl⟩ := ho.shape; have Tb1 := Lib.hid ho; clear ho; replace Ta1 := Lib.hid (Ta1.out.mono hb); replace Ta2 := Lib.hid (Ta2.out.mono hb); have R4 := Lib.hid (R3.out.trans (hb.mono R3.out.size)); clear hb) | ((with_reducible refine (same_yes2 _ _ _ _ _ _ _ Ta1.out Ta2.out Q1.out).mono ?_); rintro e v1_3w ⟨rfl, hb⟩; replace Ta1 := Lib.hid (Ta1.out.mono hb); replace Ta2 := Lib.hid (Ta2.out.mono hb); have R3 := Lib.hid (R2.out.trans (hb.mono R2.out.size)); clear hb) | ((with_reducible refine (Ha2.out _ _ _ (Sg.out.mono R1.out) (Sf.out.mono R1.out)).mono ?_); rintro e v1_2w ⟨o, rfl, ho, hb, _⟩; obtain ⟨oa2, ca2, rfl⟩ := ho.shape; have Ta2 := Lib.hid ho; clear ho; replace Ta1 := Lib.hid (Ta1.out.mono hb); have R2 := Lib.hid (R1.out.trans (hb.mono R1.out.size)); clear hb) | ((with_reducible refine (Ha1.out _ _ _ (Sf.out.mono R0.out) (Sg.out.mono R0.out)).mono ?_); rintro e v1_1w ⟨o, rfl, ho, hb, _⟩; obtain ⟨oa1, ca1, rfl⟩ := ho.shape; have Ta1 := Lib.hid ho; clear ho; have R1 := Lib.hid (R0.out.trans (hb.mono R0.out.size)); clear hb))
    have hb := R6.out
    replace Xf := Lib.hid (Xf.out.below hb Xf.out.lt)
    replace Sf := Lib.hid (Sf.out.mono hb)
    replace Xg := Lib.hid (Xg.out.below hb Xg.out.lt)
    replace Sg := Lib.hid (Sg.out.mono hb)
    replace Xh := Lib.hid (Xh.out.below hb Xh.out.lt)
    replace Sh := Lib.hid (Sh.out.mono hb)
    replace HB := Lib.hid (HB.out.trans (hb.mono HB.out.size))
    clear hb HK R0 R1 R2 R3 R4 R5 R6
    have HK := Lib.hid (show ∀ w', Below v1_6w.heap.size v1_6w w' → w'.cell? ⟨W.heap.size, 0, none⟩ = some (.bool e) ∧ w'.cell? ⟨W.heap.size, 1, none⟩ = some (.slice ao A.length cap) ∧ w'.cell? ⟨W.heap.size + 1, 0, none⟩ = some (.bool d) ∧ w'.cell? ⟨W.heap.size + 1, 1, none⟩ = some (.slice bo B.length bcap) ∧ w'.cell? ⟨W.heap.size + 1 + 1, 0, none⟩ = some (.bool c) ∧ w'.cell? ⟨W.heap.size + 1 + 1, 1, none⟩ = some (.slice co C.length ccap) from fun w' hb => ⟨(Xf.out.below hb Xf.out.lt).facts.1, (Xf.out.below hb Xf.out.lt).facts.2.1, (Xg.out.below hb Xg.out.lt).facts.1, (Xg.out.below hb Xg.out.lt).facts.2.1, (Xh.out.below hb Xh.out.lt).facts.1, (Xh.out.below hb Xh.out.lt).facts.2.1⟩)
    have R0 := Lib.hid (Below.drew (Below.refl v1_6w.heap.size v1_6w))
    go_wp2_with fail
    go_region_held3 (fun w' => w'.cell? ⟨W.heap.size, 0, none⟩ = some (.bool e) ∧ w'.cell? ⟨W.heap.size, 1, none⟩ = some (.slice ao A.length cap) ∧ w'.cell? ⟨W.heap.size + 1, 0, none⟩ = some (.bool d) ∧ w'.cell? ⟨W.heap.size + 1, 1, none⟩ = some (.slice bo B.length bcap) ∧ w'.cell? ⟨W.heap.size + 1 + 1, 0, none⟩ = some (.bool c) ∧ w'.cell? ⟨W.heap.size + 1 + 1, 1, none⟩ = some (.slice co C.length ccap)) (first | exact HK.out _ R9.out | exact HK.out _ R8.out | exact HK.out _ R7.out | exact HK.out _ R6.out | exact HK.out _ R5.out | exact HK.out _ R4.out | exact HK.out _ R3.out | exact HK.out _ R2.out | exact HK.out _ R1.out | exact HK.out _ R0.out) (first | ((with_reducible refine (same_yes2 _ _ _ _ _ _ _ Tnn.out Tn.out Q4.out).mono ?_); rintro e v2_9w ⟨rfl, hb⟩; replace Ta1 := Lib.hid (Ta1.out.mono hb); replace Tc1 := Lib.hid (Tc1.out.mono hb); replace Tgh := Lib.hid (Tgh.out.mono hb); replace Tc2 := Lib.hid (Tc2.out.mono hb); replace Tnf := Lib.hid (Tnf.out.mono hb); replace Tnn := Lib.hid (Tnn.out.mono hb); replace Tn := Lib.hid (Tn.out.mono hb); have R9 := Lib.hid (R8.out.trans (hb.mono R8.out.size)); clear hb) | ((with_reducible refine (Hn.out _ _ (Sf.out.mono R7.out)).mono ?_); rintro e v2_8w ⟨o, rfl, ho, hb, _⟩; obtain ⟨on, cn, rfl⟩ := ho.shape; have Tn := Lib.hid ho; clear ho; replace Ta1 := Lib.hid (Ta1.out.mono hb); replace Tc1 := Lib.hid (Tc1.out.mono hb); replace Tgh := Lib.hid (Tgh.out.mono hb); replace Tc2 := Lib.hid (Tc2.out.mono hb); replace Tnf := Lib.hid (Tnf.out.mono hb); replace Tnn := Lib.hid (Tnn.out.mono hb); have R8 := Lib.hid (R7.out.trans (hb.mono R7.out.size)); clear hb) | ((with_reducible refine (Hnn.out _ _ Tnf.out).mono ?_); rintro e v2_7w ⟨o, rfl, ho, hb, _⟩; obtain ⟨onn, cnn, rfl⟩ := ho.shape; have Tnn := Lib.hid ho; clear ho; replace Ta1 := Lib.hid (Ta1.out.mono hb); replace Tc1 := Lib.hid (Tc1.out.mono hb); replace Tgh := Lib.hid (Tgh.out.mono hb); replace Tc2 := Lib.hid (Tc2.out.mono hb); replace Tnf := Lib.hid (Tnf.out.mono hb); have R7 := Lib.hid (R6.out.trans (hb.mono R6.out.size)); clear hb) | ((with_reducible refine (Hnf.out _ _ (Sf.out.mono R5.out)).mono ?_); rintro e v2_6w ⟨o, rfl, ho, hb, _⟩; obtain ⟨onf, cnf, rfl⟩ := ho.shape; have Tnf := Lib.hid ho; clear ho; replace Ta1 := Lib.hid (Ta1.out.mono hb); replace Tc1 := Lib.hid (Tc1.out.mono hb); replace Tgh := Lib.hid (Tgh.out.mono hb); replace Tc2 := Lib.hid (Tc2.out.mono hb); have R6 := Lib.hid (R5.out.trans (hb.mono R5.out.size)); clear hb) | ((with_reducible refine (same_yes2 _ _ _ _ _ _ _ Tc1.out Tc2.out Q3.out).mono ?_); rintro e v2_5w ⟨rfl, hb⟩; replace Ta1 := Lib.hid (Ta1.out.mono hb); replace Tc1 := Lib.hid (Tc1.out.mono hb); replace Tgh := Lib.hid (Tgh.out.mono hb); replace Tc2 := Lib.hid (Tc2.out.mono hb); have R5 := Lib.hid (R4.out.trans (hb.mono R4.out.size)); clear hb) | ((with_reducible refine (Hc2.out _ _ _ (Sf.out.mono R3.out) Tgh.out).mono ?_); rintro e v2_4w ⟨o, rfl, ho, hb, _⟩; obtain ⟨oc2, cc2, rfl⟩ := ho.shape; have Tc2 := Lib.hid ho; clear ho; replace Ta1 := Lib.hid (Ta1.out.mono hb); replace Tc1 := Lib.hid (Tc1.out.mono hb); replace Tgh := Lib.hid (Tgh.out.mono hb); have R4 := Lib.hid (R3.out.trans (hb.mono R3.out.size)); clear hb) | ((with_reducible refine (Hgh.out _ _ _ (Sg.out.mono R2.out) (Sh.out.mono R2.out)).mono ?_); rintro e v2_3w ⟨o, rfl, ho, hb, _⟩; obtain ⟨ogh, cgh, rfl⟩ := ho.shape; have Tgh := Lib.hid ho; clear ho; replace Ta1 := Lib.hid (Ta1.out.mono hb); replace Tc1 := Lib.hid (Tc1.out.mono hb); have R3 := Lib.hid (R2.out.trans (hb.mono R2.out.size)); clear hb) | ((with_reducible refine (Hc1.out _ _ _ Ta1.out (Sh.out.mono R1.out)).mono ?_); rintro e v2_2w ⟨o, rfl, ho, hb, _⟩; obtain ⟨oc1, cc1, rfl⟩ := ho.shape; have Tc1 := Lib.hid ho; clear ho; replace Ta1 := Lib.hid (Ta1.out.mono hb); have R2 := Lib.hid (R1.out.trans (hb.mono R1.out.size)); clear hb) | ((with_reducible refine (Ha1.out _ _ _ (Sf.out.mono R0.out) (Sg.out.mono R0.out)).mono ?_); rintro e v2_1w ⟨o, rfl, ho, hb, _⟩; obtain ⟨oa1, ca1, rfl⟩ := ho.shape; have Ta1 := Lib.hid ho; clear ho; have R1 := Lib.hid (R0.out.trans (hb.mono R0.out.size)); clear hb))
    have hb := R9.out
    replace Xf := Lib.hid (Xf.out.below hb Xf.out.lt)
    replace Sf := Lib.hid (Sf.out.mono hb)
    replace Xg := Lib.hid (Xg.out.below hb Xg.out.lt)
    replace Sg := Lib.hid (Sg.out.mono hb)
    replace Xh := Lib.hid (Xh.out.below hb Xh.out.lt)
    replace Sh := Lib.hid (Sh.out.mono hb)
    replace HB := Lib.hid (HB.out.trans (hb.mono HB.out.size))
    clear hb HK R0 R1 R2 R3 R4 R5 R6 R7 R8 R9
    have HK := Lib.hid (show ∀ w', Below v2_9w.heap.size v2_9w w' → w'.cell? ⟨W.heap.size, 0, none⟩ = some (.bool e) ∧ w'.cell? ⟨W.heap.size, 1, none⟩ = some (.slice ao A.length cap) ∧ w'.cell? ⟨W.heap.size + 1, 0, none⟩ = some (.bool d) ∧ w'.cell? ⟨W.heap.size + 1, 1, none⟩ = some (.slice bo B.length bcap) ∧ w'.cell? ⟨W.heap.size + 1 + 1, 0, none⟩ = some (.bool c) ∧ w'.cell? ⟨W.heap.size + 1 + 1, 1, none⟩ = some (.slice co C.length ccap) from fun w' hb => ⟨(Xf.out.below hb Xf.out.lt).facts.1, (Xf.out.below hb Xf.out.lt).facts.2.1, (Xg.out.below hb Xg.out.lt).facts.1, (Xg.out.below hb Xg.out.lt).facts.2.1, (Xh.out.below hb Xh.out.lt).facts.1, (Xh.out.below hb Xh.out.lt).facts.2.1⟩)
    have R0 := Lib.hid (Below.drew (Below.refl v2_9w.heap.size v2_9w))
    go_wp2_with fail
    go_region_held3 (fun w' => w'.cell? ⟨W.heap.size, 0, none⟩ = some (.bool e) ∧ w'.cell? ⟨W.heap.size, 1, none⟩ = some (.slice ao A.length cap) ∧ w'.cell? ⟨W.heap.size + 1, 0, none⟩ = some (.bool d) ∧ w'.cell? ⟨W.heap.size + 1, 1, none⟩ = some (.slice bo B.length bcap) ∧ w'.cell? ⟨W.heap.size + 1 + 1, 0, none⟩ = some (.bool c) ∧ w'.cell? ⟨W.heap.size + 1 + 1, 1, none⟩ = some (.slice co C.length ccap)) (first | exact HK.out _ R13.out | exact HK.out _ R12.out | exact HK.out _ R11.out | exact HK.out _ R10.out | exact HK.out _ R9.out | exact HK.out _ R8.out | exact HK.out _ R7.out | exact HK.out _ R6.out | exact HK.out _ R5.out | exact HK.out _ R4.out | exact HK.out _ R3.out | exact HK.out _ R2.out | exact HK.out _ R1.out | exact HK.out _ R0.out) (first | ((with_reducible refine (live_yes _).mono ?_); rintro e v3_13w ⟨rfl, hb⟩; replace Tgh := Lib.hid (Tgh.out.mono hb); replace Tk1 := Lib.hid (Tk1.out.mono hb); replace Tb1 := Lib.hid (Tb1.out.mono hb); replace Tfh := Lib.hid (Tfh.out.mono hb); replace Tk2 := Lib.hid (Tk2.out.mono hb); replace Ta1 := Lib.hid (Ta1.out.mono hb); replace Tm1 := Lib.hid (Tm1.out.mono hb); replace Tnf := Lib.hid (Tnf.out.mono hb); replace Tng := Lib.hid (Tng.out.mono hb); replace Tm2 := Lib.hid (Tm2.out.mono hb); have R13 := Lib.hid (R12.out.trans (hb.mono R12.out.size)); clear hb) | ((with_reducible refine (same_yes2 _ _ _ _ _ _ _ Tm1.out Tm2.out Q6.out).mono ?_); rintro e v3_12w ⟨rfl, hb⟩; replace Tgh := Lib.hid (Tgh.out.mono hb); replace Tk1 := Lib.hid (Tk1.out.mono hb); replace Tb1 := Lib.hid (Tb1.out.mono hb); replace Tfh := Lib.hid (Tfh.out.mono hb); replace Tk2 := Lib.hid (Tk2.out.mono hb); replace Ta1 := Lib.hid (Ta1.out.mono hb); replace Tm1 := Lib.hid (Tm1.out.mono hb); replace Tnf := Lib.hid (Tnf.out.mono hb); replace Tng := Lib.hid (Tng.out.mono hb); replace Tm2 := Lib.hid (Tm2.out.mono hb); have R12 := Lib.hid (R11.out.trans (hb.mono R11.out.size)); clear hb) | ((with_reducible refine (Hm2.out _ _ _ Tnf.out Tng.out).mono ?_); rintro e v3_11w ⟨o, rfl, ho, hb, _⟩; obtain ⟨om2, cm2, rfl⟩ := ho.shape; have Tm2 := Lib.hid ho; clear ho; replace Tgh := Lib.hid (Tgh.out.mono hb); replace Tk1 := Lib.hid (Tk1.out.mono hb); replace Tb1 := Lib.hid (Tb1.out.mono hb); replace Tfh := Lib.hid (Tfh.out.mono hb); replace Tk2 := Lib.hid (Tk2.out.mono hb); replace Ta1 := Lib.hid (Ta1.out.mono hb); replace Tm1 := Lib.hid (Tm1.out.mono hb); replace Tnf := Lib.hid (Tnf.out.mono hb); replace Tng := Lib.hid (Tng.out.mono hb); have R11 := Lib.hid (R10.out.trans (hb.mono R10.out.size)); clear hb) | ((with_reducible refine (Hng.out _ _ (Sg.out.mono R9.out)).mono ?_); rintro e v3_10w ⟨o, rfl, ho, hb, _⟩; obtain ⟨ong, cng, rfl⟩ := ho.shape; have Tng := Lib.hid ho; clear ho; replace Tgh := Lib.hid (Tgh.out.mono hb); replace Tk1 := Lib.hid (Tk1.out.mono hb); replace Tb1 := Lib.hid (Tb1.out.mono hb); replace Tfh := Lib.hid (Tfh.out.mono hb); replace Tk2 := Lib.hid (Tk2.out.mono hb); replace Ta1 := Lib.hid (Ta1.out.mono hb); replace Tm1 := Lib.hid (Tm1.out.mono hb); replace Tnf := Lib.hid (Tnf.out.mono hb); have R10 := Lib.hid (R9.out.trans (hb.mono R9.out.size)); clear hb) | ((with_reducible refine (Hnf.out _ _ (Sf.out.mono R8.out)).mono ?_); rintro e v3_9w ⟨o, rfl, ho, hb, _⟩; obtain ⟨onf, cnf, rfl⟩ := ho.shape; have Tnf := Lib.hid ho; clear ho; replace Tgh := Lib.hid (Tgh.out.mono hb); replace Tk1 := Lib.hid (Tk1.out.mono hb); replace Tb1 := Lib.hid (Tb1.out.mono hb); replace Tfh := Lib.hid (Tfh.out.mono hb); replace Tk2 := Lib.hid (Tk2.out.mono hb); replace Ta1 := Lib.hid (Ta1.out.mono hb); replace Tm1 := Lib.hid (Tm1.out.mono hb); have R9 := Lib.hid (R8.out.trans (hb.mono R8.out.size)); clear hb) | ((with_reducible refine (Hm1.out _ _ Ta1.out).mono ?_); rintro e v3_8w ⟨o, rfl, ho, hb, _⟩; obtain ⟨om1, cm1, rfl⟩ := ho.shape; have Tm1 := Lib.hid ho; clear ho; replace Tgh := Lib.hid (Tgh.out.mono hb); replace Tk1 := Lib.hid (Tk1.out.mono hb); replace Tb1 := Lib.hid (Tb1.out.mono hb); replace Tfh := Lib.hid (Tfh.out.mono hb); replace Tk2 := Lib.hid (Tk2.out.mono hb); replace Ta1 := Lib.hid (Ta1.out.mono hb); have R8 := Lib.hid (R7.out.trans (hb.mono R7.out.size)); clear hb) | ((with_reducible refine (Ha1.out _ _ _ (Sf.out.mono R6.out) (Sg.out.mono R6.out)).mono ?_); rintro e v3_7w ⟨o, rfl, ho, hb, _⟩; obtain ⟨oa1, ca1, rfl⟩ := ho.shape; have Ta1 := Lib.hid ho; clear ho; replace Tgh := Lib.hid (Tgh.out.mono hb); replace Tk1 := Lib.hid (Tk1.out.mono hb); replace Tb1 := Lib.hid (Tb1.out.mono hb); replace Tfh := Lib.hid (Tfh.out.mono hb); replace Tk2 := Lib.hid (Tk2.out.mono hb); have R7 := Lib.hid (R6.out.trans (hb.mono R6.out.size)); clear hb) | ((with_reducible refine (same_yes2 _ _ _ _ _ _ _ Tk1.out Tk2.out Q5.out).mono ?_); rintro e v3_6w ⟨rfl, hb⟩; replace Tgh := Lib.hid (Tgh.out.mono hb); replace Tk1 := Lib.hid (Tk1.out.mono hb); replace Tb1 := Lib.hid (Tb1.out.mono hb); replace Tfh := Lib.hid (Tfh.out.mono hb); replace Tk2 := Lib.hid (Tk2.out.mono hb); have R6 := Lib.hid (R5.out.trans (hb.mono R5.out.size)); clear hb) | ((with_reducible refine (Hk2.out _ _ _ Tb1.out Tfh.out).mono ?_); rintro e v3_5w ⟨o, rfl, ho, hb, _⟩; obtain ⟨ok2, ck2, rfl⟩ := ho.shape; have Tk2 := Lib.hid ho; clear ho; replace Tgh := Lib.hid (Tgh.out.mono hb); replace Tk1 := Lib.hid (Tk1.out.mono hb); replace Tb1 := Lib.hid (Tb1.out.mono hb); replace Tfh := Lib.hid (Tfh.out.mono hb); have R5 := Lib.hid (R4.out.trans (hb.mono R4.out.size)); clear hb) | ((with_reducible refine (Hfh.out _ _ _ (Sf.out.mono R3.out) (Sh.out.mono R3.out)).mono ?_); rintro e v3_4w ⟨o, rfl, ho, hb, _⟩; obtain ⟨ofh, cfh, rfl⟩ := ho.shape; have Tfh := Lib.hid ho; clear ho; replace Tgh := Lib.hid (Tgh.out.mono hb); replace Tk1 := Lib.hid (Tk1.out.mono hb); replace Tb1 := Lib.hid (Tb1.out.mono hb); have R4 := Lib.hid (R3.out.trans (hb.mono R3.out.size)); clear hb) | ((with_reducible refine (Hb1.out _ _ _ (Sf.out.mono R2.out) (Sg.out.mono R2.out)).mono ?_); rintro e v3_3w ⟨o, rfl, ho, hb, _⟩; obtain ⟨ob1, cb1, rfl⟩ := ho.shape; have Tb1 := Lib.hid ho; clear ho; replace Tgh := Lib.hid (Tgh.out.mono hb); replace Tk1 := Lib.hid (Tk1.out.mono hb); have R3 := Lib.hid (R2.out.trans (hb.mono R2.out.size)); clear hb) | ((with_reducible refine (Hk1.out _ _ _ (Sf.out.mono R1.out) Tgh.out).mono ?_); rintro e v3_2w ⟨o, rfl, ho, hb, _⟩; obtain ⟨ok1, ck1, rfl⟩ := ho.shape; have Tk1 := Lib.hid ho; clear ho; replace Tgh := Lib.hid (Tgh.out.mono hb); have R2 := Lib.hid (R1.out.trans (hb.mono R1.out.size)); clear hb) | ((with_reducible refine (Hgh.out _ _ _ (Sg.out.mono R0.out) (Sh.out.mono R0.out)).mono ?_); rintro e v3_1w ⟨o, rfl, ho, hb, _⟩; obtain ⟨ogh, cgh, rfl⟩ := ho.shape; have Tgh := Lib.hid ho; clear ho; have R1 := Lib.hid (R0.out.trans (hb.mono R0.out.size)); clear hb))
    have hb := R13.out
    replace Xf := Lib.hid (Xf.out.below hb Xf.out.lt)
    replace Sf := Lib.hid (Sf.out.mono hb)
    replace Xg := Lib.hid (Xg.out.below hb Xg.out.lt)
    replace Sg := Lib.hid (Sg.out.mono hb)
    replace Xh := Lib.hid (Xh.out.below hb Xh.out.lt)
    replace Sh := Lib.hid (Sh.out.mono hb)
    replace HB := Lib.hid (HB.out.trans (hb.mono HB.out.size))
    clear hb HK R0 R1 R2 R3 R4 R5 R6 R7 R8 R9 R10 R11 R12 R13
    go_wp2
    go_ret
    exact ⟨rfl, HB.out⟩
  · by_cases hff : A.length ≤ 100 ∧ B.length ≤ 100
    · have hc6 : decide ((60 : Int) < (C.length : Int)) = true := decide_eq_true (by omega)
      go_enter Try.func7, Try.ntmps7
      go_wp2_with fail
      refine (few_yes e d _ _ A B _ Sf.out Sg.out hff.1 hff.2).mono ?_
      rintro e w1 ⟨rfl, hb⟩
      replace Xf := Lib.hid (Xf.out.below hb Xf.out.lt)
      replace Sf := Lib.hid (Sf.out.mono hb)
      replace Xg := Lib.hid (Xg.out.below hb Xg.out.lt)
      replace Sg := Lib.hid (Sg.out.mono hb)
      replace Xh := Lib.hid (Xh.out.below hb Xh.out.lt)
      replace Sh := Lib.hid (Sh.out.mono hb)
      replace HB := Lib.hid (HB.out.trans (hb.mono HB.out.size))
      clear hb
      obtain ⟨x1a, x1b, _, _⟩ := Xh.out.facts
      go_wp2_with fail
      refine (live_yes _).mono ?_
      clear x1a x1b
      rintro e w2 ⟨rfl, hb⟩
      replace Xf := Lib.hid (Xf.out.below hb Xf.out.lt)
      replace Sf := Lib.hid (Sf.out.mono hb)
      replace Xg := Lib.hid (Xg.out.below hb Xg.out.lt)
      replace Sg := Lib.hid (Sg.out.mono hb)
      replace Xh := Lib.hid (Xh.out.below hb Xh.out.lt)
      replace Sh := Lib.hid (Sh.out.mono hb)
      replace HB := Lib.hid (HB.out.trans (hb.mono HB.out.size))
      clear hb
      go_wp2
      go_ret
      exact ⟨rfl, HB.out⟩
    · go_enter Try.func7, Try.ntmps7
      go_wp2_with fail
      refine (few_no e d _ _ A B _ Sf.out Sg.out hff).mono ?_
      rintro e w1 ⟨rfl, hb⟩
      replace Xf := Lib.hid (Xf.out.below hb Xf.out.lt)
      replace Sf := Lib.hid (Sf.out.mono hb)
      replace Xg := Lib.hid (Xg.out.below hb Xg.out.lt)
      replace Sg := Lib.hid (Sg.out.mono hb)
      replace Xh := Lib.hid (Xh.out.below hb Xh.out.lt)
      replace Sh := Lib.hid (Sh.out.mono hb)
      replace HB := Lib.hid (HB.out.trans (hb.mono HB.out.size))
      clear hb
      go_wp2_with fail
      refine (live_yes _).mono ?_
      rintro e w2 ⟨rfl, hb⟩
      replace Xf := Lib.hid (Xf.out.below hb Xf.out.lt)
      replace Sf := Lib.hid (Sf.out.mono hb)
      replace Xg := Lib.hid (Xg.out.below hb Xg.out.lt)
      replace Sg := Lib.hid (Sg.out.mono hb)
      replace Xh := Lib.hid (Xh.out.below hb Xh.out.lt)
      replace Sh := Lib.hid (Sh.out.mono hb)
      replace HB := Lib.hid (HB.out.trans (hb.mono HB.out.size))
      clear hb
      go_wp2
      go_ret
      exact ⟨rfl, HB.out⟩
end Go.Proofs.Ytjhaedhjbnhiaaa
