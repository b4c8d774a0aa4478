/- Texts joined into one file: MEnc. -/
import Derived.Test.YthkibgdeibolfaaQ25
import Derived.Test.YthkibgdeibolfaaQ15

/- mld.Encode. -/
namespace Go.Proofs.Ythkibgdeibolfaa
open Go.RowKit Go.Sort
set_option maxRecDepth 20000
set_option maxRecDepth 20000
attribute [local go_sem] bstr_size bstr_extract bstr_toList bstr_get

theorem nyt {y : Bool} (h : true = !y) : y = false := by revert h; cases y <;> decide
theorem nyf {y : Bool} (h : false = !y) : y = true := by revert h; cases y <;> decide
theorem grpB16_len (m : Msg) (hg : (decide (m.group = []) || grp m.group 16) = true) : (grpB16 m).length = 16 := by
  unfold grpB16
  by_cases hz : m.group = []
  · rw [if_pos hz]; rfl
  · rw [if_neg hz]
    rw [decide_eq_false hz, Bool.false_or] at hg
    unfold grp at hg
    simp only [Bool.and_eq_true, decide_eq_true_eq] at hg
    exact hg.1
theorem bytes9_len (m : Msg) (h : mayM9 m = true) : 8 ≤ (bytes9 m).length ∧ (bytes9 m).length ≤ 40000 := by
  unfold mayM9 at h
  unfold bytes9
  by_cases hk : m.kind = 1
  · rw [if_pos hk] at h ⊢
    simp only [Bool.and_eq_true] at h
    have h4 := grpB16_len m h.1.1
    by_cases hv : m.version = 2
    · rw [if_pos hv] at h
      rw [if_neg (by omega)]
      simp only [Bool.and_eq_true] at h
      have hs := h.2.1.2
      unfold sized at hs
      simp only [Bool.and_eq_true, decide_eq_true_eq, List.all_eq_true] at hs
      have := flat_len m.sources 60 16 hs.1 (fun a ha => by rw [hs.2 a ha]; exact Nat.le_refl _)
      simp only [List.length_append, ofN_length, h4, List.length_cons, List.length_nil]
      omega
    · rw [if_neg hv] at h
      simp only [Bool.and_eq_true, decide_eq_true_eq] at h
      rw [if_pos h.2.1.1.1]
      simp only [List.length_append, ofN_length, h4, List.length_cons, List.length_nil]
      omega
  · rw [if_neg hk] at h ⊢
    by_cases h22 : m.kind = 2 ∧ m.version = 2
    · rw [if_pos h22] at h ⊢
      simp only [Bool.and_eq_true] at h
      have hb := h.1.2
      unfold bodyOk at hb
      simp only [Bool.and_eq_true, decide_eq_true_eq, List.all_eq_true] at hb
      have := bodyB_len 16 (by decide) m.records hb.2
      have := hb.1.2
      simp only [List.length_append, ofN_length, List.length_cons, List.length_nil]
      omega
    · rw [if_neg h22] at h ⊢
      simp only [Bool.and_eq_true] at h
      have h4 := grpB16_len m (by rw [h.1.2]; cases decide (m.group = []) <;> rfl)
      split
      all_goals
        simp only [List.length_append, h4, List.length_cons, List.length_nil]
        omega

set_option maxHeartbeats 4000000 in
theorem mencode_any (src dst : Str) (k v mx r ev : Int) (g : Str) (q : Bool) (so : Option Addr) (L : List Str) (sc : Nat) (ro : Option Addr) (R : List Rec) (rc : Nat) (w : World)
    (hs : Strs w (.slice so L.length sc) L) (hrs : Recs w (.slice ro R.length rc) R) (hg : g.length ≤ 140737488351232) (hq : k = 1 → L.length ≤ 100 ∧ (∀ x ∈ L, x.length ≤ 140737488351232) ∧ mx < 2 ^ 63 ∧ ev < 2 ^ 63) :
    Calls Try.prog 13 #[.string (bstr src), .string (bstr dst), .agg (msgCells k v g mx q r ev so L.length sc ro R.length rc)] w (RetBody w (penc9 src dst ⟨k, v, g, mx, q, r, ev, L, R⟩).1 (penc9 src dst ⟨k, v, g, mx, q, r, ev, L, R⟩).2) := by
  have b0 : (⟨#[]⟩ : ByteArray) = bstr [] := bstr_nil.symm
  obtain ⟨mb, hmb⟩ : ∃ mb, w.heap.size = mb := ⟨_, rfl⟩
  obtain ⟨wb, hwb⟩ : ∃ wb, mb + 1 = wb := ⟨_, rfl⟩
  obtain ⟨W1, hW1⟩ : ∃ W1, w.alloc (.cells (msgCells k v g mx q r ev so L.length sc ro R.length rc) 29) = W1 := ⟨_, rfl⟩
  obtain ⟨W2, hW2⟩ : ∃ W2, W1.alloc (.cells #[.string (bstr []), .bool false] 59) = W2 := ⟨_, rfl⟩
  have hs1 : W1.heap.size = wb := by rw [← hW1, World.size_alloc, hmb, hwb]
  have k1 : Below mb w W1 := by rw [← hW1]; exact (Below.refl mb w).alloc (by rw [hmb]; exact Nat.le_refl _) _
  have k2 : Below wb W1 W2 := by rw [← hW2]; exact (Below.refl wb W1).alloc (by rw [hs1]; exact Nat.le_refl _) _
  have k12 : Below w.heap.size w W2 := by rw [hmb]; exact k1.trans (k2.mono (by omega))
  have X1 : CBox W2 mb 29 (msgCells k v g mx q r ev so L.length sc ro R.length rc) := (show CBox W1 mb _ _ from by rw [← hW1]; exact CBox.new _ hmb.symm).below k2 (by omega)
  have X2 : MW W2 wb [] false := by rw [← hW2]; exact CBox.new _ hs1.symm
  have hne : L ≠ [] → (Value.slice so L.length sc).ownBlock ≠ some wb := fun hL e => by
    obtain ⟨bz, hbz, hlt⟩ := hs.block hL
    rw [hbz] at e
    injection e with e
    omega
  have HAK := Lib.hid (fun (hk : k = 1) => mask_any v mx r ev g q so L sc ro R rc wb W2 X2 (hs.mono k12) hne hg (hq hk).1 (hq hk).2.1 (hq hk).2.2.1 (hq hk).2.2.2)
  have HTL := Lib.hid (fun (hk : ¬ k = 1) => mtell_any k v mx r ev g q so L sc ro R rc wb W2 X2 (hrs.mono k12) hg hk)
  have HX1 := Lib.hid X1; have HX2 := Lib.hid X2; have HB2 := Lib.hid k12
  have HW1 := Lib.hid hW1; have HW2 := Lib.hid hW2
  have HN := Lib.hid (And.intro hmb (And.intro hwb hs1))
  have HBL := Lib.hid (bytes9_len ⟨k, v, g, mx, q, r, ev, L, R⟩)
  obtain ⟨P, hP⟩ : ∃ P, penc9 src dst ⟨k, v, g, mx, q, r, ev, L, R⟩ = P := ⟨_, rfl⟩
  rw [hP]
  have HP := Lib.hid hP
  obtain ⟨yy, hyy⟩ : ∃ y, mayM9 ⟨k, v, g, mx, q, r, ev, L, R⟩ = y := ⟨_, rfl⟩
  obtain ⟨BB, hBB⟩ : ∃ B, bytes9 ⟨k, v, g, mx, q, r, ev, L, R⟩ = B := ⟨_, rfl⟩
  have HYB := Lib.hid (And.intro hyy hBB)
  obtain ⟨ns, hns⟩ : ∃ ns, L.length = ns := ⟨_, rfl⟩
  obtain ⟨nr, hnr⟩ : ∃ nr, R.length = nr := ⟨_, rfl⟩
  rw [hns, hnr] at HX1 HW1
  unfold RetAsk9 at HAK HTL
  rw [hns, hnr] at HAK HTL
  rw [hyy, hBB] at HTL HBL
  clear hs hrs hg hq hmb hwb hW1 hW2 hs1 k1 k2 k12 X1 X2 hne hP hyy hBB
  rw [hns, hnr]
  go_enter Try.func13, Try.ntmps13
  go_upto_region 2 with fail
  rw [HW1.out, HN.out.1, HN.out.2.1, HW2.out]
  have x0 := (HX1.out.at_ 0 _ rfl).1
  go_upto_if 15 with fail
  obtain ⟨tk, htk⟩ : ∃ t, (k == 1) = t := ⟨_, rfl⟩
  rw [htk]
  clear x0
  rw [b0]
  go_cut [8] (fun s8 w' => s8 = .pointer (some ⟨wb, 0, none⟩) ∧ ∃ S z, MW w' wb S z ∧ z = !yy ∧ (z = false → S = BB) ∧ Below w.heap.size w w')
  case first =>
    have XX := HX1.out
    obtain ⟨x0, xf0⟩ := CBox.at_ XX 0 _ rfl
    obtain ⟨x1, xf1⟩ := CBox.at_ XX 1 _ rfl
    obtain ⟨x2, xf2⟩ := CBox.at_ XX 2 _ rfl
    obtain ⟨x3, xf3⟩ := CBox.at_ XX 3 _ rfl
    obtain ⟨x4, xf4⟩ := CBox.at_ XX 4 _ rfl
    obtain ⟨x5, xf5⟩ := CBox.at_ XX 5 _ rfl
    obtain ⟨x6, xf6⟩ := CBox.at_ XX 6 _ rfl
    obtain ⟨x7, xf7⟩ := CBox.at_ XX 7 _ rfl
    obtain ⟨x8, xf8⟩ := CBox.at_ XX 8 _ rfl
    clear XX
    cases tk
    rotate_left
    · have hk1 : k = 1 := beq_iff_eq.1 htk
      subst hk1
      have HA := Lib.hid (HAK.out rfl)
      rw [HYB.out.1, HYB.out.2] at HA
      clear HAK HTL htk
      go_wp2_with ((with_reducible refine HA.out.mono ?_); rintro e w3 ⟨rfl, S, z, hm, hz, hS, hgb⟩; have H3 := Lib.hid (And.intro hm (And.intro hz (And.intro hS (gb_under HB2.out hgb (by have := HN.out; omega) HB2.out.size)))); clear hm hz hS hgb)
      go_meet
      case rel => exact ⟨rfl, S, z, H3.out.1, H3.out.2.1, H3.out.2.2.1, H3.out.2.2.2⟩
    · have hk1 : ¬ k = 1 := beq_eq_false_iff_ne.1 htk
      have HA := Lib.hid (HTL.out hk1)
      clear HAK HTL htk hk1
      go_wp2_with ((with_reducible refine HA.out.mono ?_); rintro e w3 ⟨rfl, S, z, hm, hz, hS, hgb⟩; have H3 := Lib.hid (And.intro hm (And.intro hz (And.intro hS (gb_under HB2.out hgb (by have := HN.out; omega) HB2.out.size)))); clear hm hz hS hgb)
      go_meet
      case rel => exact ⟨rfl, S, z, H3.out.1, H3.out.2.1, H3.out.2.2.1, H3.out.2.2.2⟩
  case rest =>
    obtain ⟨rfl, S, z, hm, hz, hS, hb⟩ := hcut
    have HM := Lib.hid (show CBox wc wb 59 #[.string (bstr S), .bool z] from hm)
    have HB := Lib.hid hb
    have HSZ := Lib.hid (And.intro hz hS)
    clear hm hz hS hb HAK HTL htk
    obtain ⟨y0, _⟩ := HM.out.at_ 0 _ rfl
    obtain ⟨y1, _⟩ := HM.out.at_ 1 _ rfl
    have HBAD := Lib.hid (show (ways src dst && yy) = false → P = ([], 1) from fun h => by rw [← HP.out]; unfold penc9; rw [HYB.out.1, if_neg (by rw [h]; decide)])
    cases z
    rotate_left
    · have hy : yy = false := nyt HSZ.out.1
      have HPE := Lib.hid (HBAD.out (by rw [hy]; cases ways src dst <;> rfl))
      go_wp2_with fail
      go_ret2
      first | exact ⟨by rw [HPE.out]; rfl, HB.out⟩ | exact body_bad w _ P HPE.out HB.out
    · have hy : yy = true := nyf HSZ.out.1
      have hSB : S = BB := HSZ.out.2 rfl
      subst hy
      have HBD2 := Lib.hid (show ¬ (src.length = 16 ∧ dst.length = 16) → P = ([], 1) from fun h => HBAD.out (by
        unfold ways
        by_cases h1 : src.length = 16
        · rw [decide_eq_true h1, decide_eq_false (fun h2 => h ⟨h1, h2⟩)]; rfl
        · rw [decide_eq_false h1]; rfl))
      by_cases h1 : src.length = 16
      rotate_left
      · have HPE := Lib.hid (HBD2.out (fun h => h1 h.1))
        have d1 : ((src.length : Int) != 16) = true := bne_iff_ne.2 (by omega)
        clear h1 hSB
        go_wp2_with fail
        go_ret2
        first | exact ⟨by rw [HPE.out]; rfl, HB.out⟩ | exact body_bad w _ P HPE.out HB.out
      · have d1 : ((src.length : Int) != 16) = false := bne_eq_false_iff_eq.2 (by omega)
        by_cases h2 : dst.length = 16
        rotate_left
        · have HPE := Lib.hid (HBD2.out (fun h => h2 h.2))
          have d2 : ((dst.length : Int) != 16) = true := bne_iff_ne.2 (by omega)
          clear h1 h2 hSB
          go_wp2_with fail
          go_ret2
          first | exact ⟨by rw [HPE.out]; rfl, HB.out⟩ | exact body_bad w _ P HPE.out HB.out
        · have d2 : ((dst.length : Int) != 16) = false := bne_eq_false_iff_eq.2 (by omega)
          have hbl := HBL.out rfl
          rw [← hSB] at hbl
          have HPS := Lib.hid (fun W => pse_any src dst S.length W h1 h2 (by omega))
          obtain ⟨A, hA⟩ : ∃ A, pseS src dst S.length = A := ⟨_, rfl⟩
          have hAl : A.length = 40 := by rw [← hA]; exact pse_length _ _ _ h1 h2
          rw [hA] at HPS
          have HFL := Lib.hid (fun W => fill_any A S W (by rw [hAl]) (by rw [hAl]; decide) (by omega) (by omega))
          have HPE := Lib.hid (show P = (fillS A S 2, 0) from by
            rw [← HP.out]
            unfold penc9
            rw [HYB.out.1, HYB.out.2, ← hSB, show ways src dst = true from by unfold ways; rw [decide_eq_true h1, decide_eq_true h2]; rfl, if_pos (show (true && true) = true from rfl), hA])
          clear h1 h2 hSB hbl hA hAl
          go_wp2_with (first | ((with_reducible refine (HPS.out wc).mono ?_); rintro e w4 ⟨rfl, hb4⟩; have HM4 := Lib.hid (HM.out.below hb4 HM.out.lt); have HB4 := Lib.hid (HB.out.trans (hb4.mono HB.out.size)); clear y0 y1; obtain ⟨y0, _⟩ := HM4.out.at_ 0 _ rfl; clear hb4) | ((with_reducible refine (HFL.out w4).mono ?_); rintro e w5 ⟨rfl, hb5⟩; have HB5 := Lib.hid (HB4.out.trans (hb5.mono HB4.out.size)); clear hb5))
          go_ret2
          exact ⟨by rw [HPE.out]; rfl, HB5.out⟩
end Go.Proofs.Ythkibgdeibolfaa
