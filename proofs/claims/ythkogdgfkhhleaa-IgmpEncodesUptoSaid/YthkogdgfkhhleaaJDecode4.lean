/- siphonref08.Decode. -/
import Derived.Test.YthkogdgfkhhleaaJDecode3
namespace Go.Proofs.Ythkogdgfkhhleaa
open Go.RowKit Go.Sort
set_option maxRecDepth 20000
set_option maxRecDepth 20000
attribute [local go_sem] bstr_size bstr_extract bstr_toList bstr_get

theorem rnum6_any (s : Str) (N : Nat) (w : World) (hl : 8 ≤ s.length) (hm : s.length ≤ maxLen) (hN : numAt s 6 2 = N) :
    Calls Try.prog 30 #[.string (bstr s), .int .i64 6, .int .i64 2] w fun e w' => e = .returned (.int .i64 N) ∧ w = w' := by
  have h := rat_any1 s 6 2 w hm (by decide) (by decide) (by decide)
  unfold getV at h
  rw [if_pos (by omega), hN] at h
  exact h
theorem k_eq (k c : Nat) : ((k : Int) == (c : Int)) = decide (k = c) := by
  rw [Bool.eq_iff_iff, beq_iff_eq, decide_eq_true_eq]; omega

set_option maxHeartbeats 4000000 in
theorem rdecode_any (s : Str) (w : World) (hs : s.length ≤ 1000000) :
    Calls Try.prog 12 #[.string (bstr s)] w (RetMsg w (pdec s).1 (pdec s).2) := by
  have b0 : (⟨#[]⟩ : ByteArray) = bstr [] := bstr_nil.symm
  obtain ⟨rb, hrb⟩ : ∃ rb, w.heap.size = rb := ⟨_, rfl⟩
  obtain ⟨P, hP⟩ : ∃ P, P = pdec s := ⟨_, rfl⟩
  rw [← hP]
  have HRB := Lib.hid hrb
  obtain ⟨W1, hW1⟩ : ∃ W1, w.alloc (.cells mz 27) = W1 := ⟨_, rfl⟩
  have X1 : CBox W1 rb 27 mz := by rw [← hW1]; exact CBox.new _ HRB.out.symm
  have hb1 : Below rb w W1 := by rw [← hW1, ← HRB.out]; exact (Below.refl _ _).alloc (Nat.le_refl _) _
  have HX1 := Lib.hid X1; have HB1 := Lib.hid hb1; have HW1 := Lib.hid hW1
  clear X1 hb1 hW1 hrb
  by_cases h8 : s.length < 8
  · have HPE := Lib.hid (show P = (2, .zero) from by rw [hP]; unfold pdec; rw [if_pos h8])
    have d8 : decide ((s.length : Int) < 8) = true := decide_eq_true (by omega)
    have d8' : decide (s.length < 8) = true := decide_eq_true h8
    clear h8 hP hs
    go_enter Try.func12, Try.ntmps12
    go_upto_region 1 with fail
    rw [HRB.out, HW1.out]
    obtain ⟨y0, yf0⟩ := CBox.at_ HX1.out 0 _ rfl
    obtain ⟨y1, yf1⟩ := CBox.at_ HX1.out 1 _ rfl
    obtain ⟨y2, yf2⟩ := CBox.at_ HX1.out 2 _ rfl
    obtain ⟨y3, yf3⟩ := CBox.at_ HX1.out 3 _ rfl
    obtain ⟨y4, yf4⟩ := CBox.at_ HX1.out 4 _ rfl
    obtain ⟨y5, yf5⟩ := CBox.at_ HX1.out 5 _ rfl
    obtain ⟨y6, yf6⟩ := CBox.at_ HX1.out 6 _ rfl
    obtain ⟨y7, yf7⟩ := CBox.at_ HX1.out 7 _ rfl
    obtain ⟨y8, yf8⟩ := CBox.at_ HX1.out 8 _ rfl
    go_wp2_with fail
    obtain ⟨r0, r1, r2, r3, r4, r5, r6, r7, r8⟩ := ret9 (cells9 HX1.out (.int .i64 0) (.int .i64 0) (.string (bstr [])) (.int .i64 0) (.bool false) (.int .i64 0) (.int .i64 0) (.slice none 0 0) (.slice none 0 0))
    refine bodyPost_ret (v := .tuple #[.agg #[.int .i64 0, .int .i64 0, .string (bstr []), .int .i64 0, .bool false, .int .i64 0, .int .i64 0, .slice none 0 0, .slice none 0 0], .int .i64 2]) (by simp [results, Try.results12, go_sem, r0, r1, r2, r3, r4, r5, r6, r7, r8]) rfl ?_
    rw [HPE.out]
    exact retMsg_bad w _ 2 (HRB.out ▸ below9 HB1.out (Nat.le_refl _) _ _ _ _ _ _ _ _ _)
  · have d8 : decide ((s.length : Int) < 8) = false := decide_eq_false (by omega)
    have d8' : decide (s.length < 8) = false := decide_eq_false h8
    have HRT := Lib.hid (fun W => rsum_any s W (Nat.le_trans hs (by decide)))
    obtain ⟨Z, hZ⟩ : ∃ Z, psum s = Z := ⟨_, rfl⟩
    rw [hZ] at HRT
    by_cases hp : psum s = 0
    rotate_left
    · have hz : ((Z : Int) != 0) = true := bne_iff_ne.2 (by rw [hZ] at hp; omega)
      have HPE := Lib.hid (show P = (4, .zero) from by rw [hP]; unfold pdec; rw [if_neg h8, if_pos hp])
      clear h8 hP hs hp hZ
      go_enter Try.func12, Try.ntmps12
      go_upto_region 1 with fail
      rw [HRB.out, HW1.out]
      obtain ⟨y0, yf0⟩ := CBox.at_ HX1.out 0 _ rfl
      obtain ⟨y1, yf1⟩ := CBox.at_ HX1.out 1 _ rfl
      obtain ⟨y2, yf2⟩ := CBox.at_ HX1.out 2 _ rfl
      obtain ⟨y3, yf3⟩ := CBox.at_ HX1.out 3 _ rfl
      obtain ⟨y4, yf4⟩ := CBox.at_ HX1.out 4 _ rfl
      obtain ⟨y5, yf5⟩ := CBox.at_ HX1.out 5 _ rfl
      obtain ⟨y6, yf6⟩ := CBox.at_ HX1.out 6 _ rfl
      obtain ⟨y7, yf7⟩ := CBox.at_ HX1.out 7 _ rfl
      obtain ⟨y8, yf8⟩ := CBox.at_ HX1.out 8 _ rfl
      go_wp2_with ((with_reducible refine (HRT.out _).mono ?_); rintro e w2 ⟨rfl, hw2⟩; subst hw2)
      obtain ⟨r0, r1, r2, r3, r4, r5, r6, r7, r8⟩ := ret9 (cells9 HX1.out (.int .i64 0) (.int .i64 0) (.string (bstr [])) (.int .i64 0) (.bool false) (.int .i64 0) (.int .i64 0) (.slice none 0 0) (.slice none 0 0))
      refine bodyPost_ret (v := .tuple #[.agg #[.int .i64 0, .int .i64 0, .string (bstr []), .int .i64 0, .bool false, .int .i64 0, .int .i64 0, .slice none 0 0, .slice none 0 0], .int .i64 4]) (by simp [results, Try.results12, go_sem, r0, r1, r2, r3, r4, r5, r6, r7, r8]) rfl ?_
      rw [HPE.out]
      exact retMsg_bad w _ 4 (HRB.out ▸ below9 HB1.out (Nat.le_refl _) _ _ _ _ _ _ _ _ _)
    · have hz : ((Z : Int) != 0) = false := bne_eq_false_iff_eq.2 (by rw [hZ] at hp; omega)
      obtain ⟨k, hk⟩ : ∃ k, (s.getD 0 0).toNat = k := ⟨_, rfl⟩
      have hpk := pdec_kind s k h8 hp hk
      obtain ⟨G, hG⟩ : ∃ G, (s.drop 4).take 4 = G := ⟨_, rfl⟩
      rw [hG, ← hP] at hpk
      have HPK := Lib.hid hpk
      have hkk : (s[0]?.getD 0).toNat = k := by rw [← List.getD_eq_getElem?_getD]; exact hk
      have hk0 : ∀ h : 0 < s.length, (s[0]'h).toNat = k := fun h => by rw [← hkk, List.getElem?_eq_getElem h]; rfl
      have HL := Lib.hid (And.intro (show 8 ≤ s.length by omega) hs)
      have HGL := Lib.hid (show G.length ≤ maxLen from by rw [← hG]; exact Nat.le_trans (List.length_take_le _ _) (by decide))
      have HGR := Lib.hid (fun W => rgroup4 G W HGL.out)
      have q17 : ((k : Int) == 17) = decide (k = 17) := k_eq k 17
      have q34 : ((k : Int) == 34) = decide (k = 34) := k_eq k 34
      have q18 : ((k : Int) == 18) = decide (k = 18) := k_eq k 18
      have q23 : ((k : Int) == 23) = decide (k = 23) := k_eq k 23
      have q22 : ((k : Int) == 22) = decide (k = 22) := k_eq k 22
      have l0 : (0 : Int) < s.length := by omega
      have l0' : 0 < s.length := by omega
      have l8 : (8 : Int) ≤ s.length := by omega
      have l8' : 8 ≤ s.length := by omega
      have ht8 : List.take (s.length - 8) (s.drop 8) = s.drop 8 := List.take_of_length_le (by simp)
      clear hP hs hp hk hpk h8 hkk hZ
      by_cases h17 : k = 17
      · rw [decide_eq_true h17] at q17
        have HPE := Lib.hid (show P = pquery s from by rw [HPK.out, if_pos h17])
        have HAK := Lib.hid (fun W => query_any s W HL.out.1 HL.out.2)
        rw [← HPE.out] at HAK
        unfold RetMsg msgV at HAK
        obtain ⟨er, her⟩ : ∃ er, P.1 = er := ⟨_, rfl⟩
        obtain ⟨m, hm⟩ : ∃ m, P.2 = m := ⟨_, rfl⟩
        obtain ⟨mk, mv, mg, mx, mq, mr, me, ms, mrs⟩ := m
        rw [her, hm] at HAK ⊢
        clear h17 q34 q18 q23 q22 HPK her hm
        go_enter Try.func12, Try.ntmps12
        go_upto_region 1 with fail
        rw [HRB.out, HW1.out]
        go_wp2_with (first | ((with_reducible refine (HRT.out _).mono ?_); rintro e w2 ⟨rfl, hw2⟩; subst hw2) | ((with_reducible refine (HAK.out _).mono ?_); rintro e w6 ⟨vs, vr, rfl, hst, hli, hrw, hb6⟩; obtain ⟨so, sc, rfl⟩ := hst.shape; obtain ⟨ro, rc, rfl⟩ := hrw.shape; have HX6 := Lib.hid (HX1.out.below hb6 HX1.out.lt); have HB6 := Lib.hid (HB1.out.trans (hb6.mono (Nat.le_of_lt HX1.out.lt))); have HV6 := Lib.hid (And.intro hst (And.intro hli hrw)); obtain ⟨y0, yf0⟩ := CBox.at_ HX6.out 0 _ rfl; obtain ⟨y1, yf1⟩ := CBox.at_ HX6.out 1 _ rfl; obtain ⟨y2, yf2⟩ := CBox.at_ HX6.out 2 _ rfl; obtain ⟨y3, yf3⟩ := CBox.at_ HX6.out 3 _ rfl; obtain ⟨y4, yf4⟩ := CBox.at_ HX6.out 4 _ rfl; obtain ⟨y5, yf5⟩ := CBox.at_ HX6.out 5 _ rfl; obtain ⟨y6, yf6⟩ := CBox.at_ HX6.out 6 _ rfl; obtain ⟨y7, yf7⟩ := CBox.at_ HX6.out 7 _ rfl; obtain ⟨y8, yf8⟩ := CBox.at_ HX6.out 8 _ rfl; clear hst hli hrw hb6))
        obtain ⟨r0, r1, r2, r3, r4, r5, r6, r7, r8⟩ := ret9 (cells9 HX6.out (.int .i64 mk) (.int .i64 mv) (.string (bstr mg)) (.int .i64 mx) (.bool mq) (.int .i64 mr) (.int .i64 me) (.slice so ms.length sc) (.slice ro mrs.length rc))
        refine bodyPost_ret (v := .tuple #[.agg #[.int .i64 mk, .int .i64 mv, .string (bstr mg), .int .i64 mx, .bool mq, .int .i64 mr, .int .i64 me, .slice so ms.length sc, .slice ro mrs.length rc], .int .i64 er]) (by simp [results, Try.results12, go_sem, r0, r1, r2, r3, r4, r5, r6, r7, r8]) rfl ?_
        have hlt := HX1.out.lt
        exact ⟨.slice so ms.length sc, .slice ro mrs.length rc, rfl, strs9 HV6.out.1 HV6.out.2.1 hlt _ _ _ _ _ _ _ _ _, HV6.out.2.1.mono (by rw [HRB.out]; exact Nat.le_of_lt hlt), (HV6.out.2.2.far9 hlt _ _ _ _ _ _ _ _ _).mono (by rw [HRB.out]; exact Nat.le_of_lt hlt), HRB.out ▸ below9 HB6.out (Nat.le_refl _) _ _ _ _ _ _ _ _ _⟩
      · rw [decide_eq_false h17] at q17
        rw [if_neg h17] at HPK
        by_cases h34 : k = 34
        · rw [decide_eq_true h34] at q34
          rw [if_pos h34] at HPK
          obtain ⟨N, hN⟩ : ∃ N, numAt s 6 2 = N := ⟨_, rfl⟩
          have HGT := Lib.hid (fun W => rnum6_any s N W HL.out.1 (Nat.le_trans HL.out.2 (by decide)) hN)
          have HRC := Lib.hid (fun W => rrecords_any (s.drop 8) N 4 W (Nat.le_trans (by rw [List.length_drop]; exact Nat.sub_le _ _) HL.out.2))
          obtain ⟨D, hD⟩ : ∃ D, D = s.drop 8 := ⟨_, rfl⟩
          rw [hN] at HPK
          rw [← hD] at HPK HRC ht8
          obtain ⟨er, her⟩ : ∃ er, (precs D N 4).1 = er := ⟨_, rfl⟩
          obtain ⟨R, hR⟩ : ∃ R, (precs D N 4).2 = R := ⟨_, rfl⟩
          rw [her, hR] at HPK HRC
          have hDs := hD.symm
          clear h17 h34 q18 q23 q22 hN her hR hD
          by_cases h0 : er = 0
          · subst h0
            have HPE := Lib.hid (show P = (0, ⟨2, 3, [], 0, false, 0, 0, [], R⟩) from by rw [HPK.out, if_pos rfl])
            clear HPK
            go_enter Try.func12, Try.ntmps12
            go_upto_region 1 with fail
            rw [HRB.out, HW1.out]
            go_upto_region 8 with ((with_reducible refine (HRT.out _).mono ?_); rintro e w2 ⟨rfl, hw2⟩; subst hw2)
            refine wp_region_held_drew (S := fun W' => Below W1.heap.size W1 W') (by kernel_rfl) (Below.drew (Below.refl _ _)) (fun hHeld => ?_)
            refine takeL 0 (v := ?_) rfl (by kernel_rfl) (by kernel_rfl) (by kernel_rfl) (fun _ _ _ h => h) (Or.inl ⟨by rfl, ?_⟩) (by assumption) ?_
            rotate_left
            focus (intro wq hSq; go_simp <;> with_reducible rfl)
            simp only [Act.put, List.setIfInBounds_toArray, List.set_cons_zero, List.set_cons_succ]
            refine takeL 1 (v := ?_) rfl (by kernel_rfl) (by kernel_rfl) (by kernel_rfl) (fun _ _ _ h => h) (Or.inl ⟨by rfl, ?_⟩) (by assumption) ?_
            rotate_left
            focus (intro wq hSq; go_simp <;> with_reducible rfl)
            simp only [Act.put, List.setIfInBounds_toArray, List.set_cons_zero, List.set_cons_succ]
            refine takeL 2 (v := ?_) rfl (by kernel_rfl) (by kernel_rfl) (by kernel_rfl) (fun _ _ _ h => h) (Or.inl ⟨by rfl, ?_⟩) (by assumption) ?_
            rotate_left
            focus (intro wq hSq; go_simp <;> with_reducible rfl)
            simp only [Act.put, List.setIfInBounds_toArray, List.set_cons_zero, List.set_cons_succ]
            refine wpAnyH_ready (rs := [3]) (by kernel_rfl) (by simp) (nextL 3 rfl (fun Kr hKr => ?_) AllReadyH.nil)
            rw [if_pos (by rfl)]
            go_simp
            refine (HGT.out _).mono ?_
            rintro e w6 ⟨rfl, hw6⟩
            subst hw6
            refine hKr.out _ _ hHeld (fun hHeld6 => ?_)
            clear hKr
            refine wpAnyH_ready (rs := [4]) (by kernel_rfl) (by simp) (nextL 4 rfl (fun Kr hKr => ?_) AllReadyH.nil)
            rw [if_pos (by rfl)]
            go_simp
            refine (HRC.out _).mono ?_
            rintro e w7 ⟨v7, rfl, hrw, hb7⟩
            obtain ⟨ro, rc, rfl⟩ := hrw.shape
            have HR7 := Lib.hid (show Row w7 W1.heap.size (.slice ro R.length rc) R from hrw.mono hHeld.size)
            refine hKr.out _ _ (hHeld.trans (hb7.mono hHeld.size)) (fun hHeld7 => ?_)
            clear hKr hrw
            refine takeL 5 (v := ?_) rfl (by kernel_rfl) (by kernel_rfl) (by kernel_rfl) (fun _ _ _ h => h) (Or.inl ⟨by rfl, ?_⟩) (by assumption) ?_
            rotate_left
            focus (intro wq hSq; go_simp <;> with_reducible rfl)
            simp only [Act.put, List.setIfInBounds_toArray, List.set_cons_zero, List.set_cons_succ]
            refine takeL 6 (v := ?_) rfl (by kernel_rfl) (by kernel_rfl) (by kernel_rfl) (fun _ _ _ h => h) (Or.inl ⟨by rfl, ?_⟩) (by assumption) ?_
            rotate_left
            focus (intro wq hSq; go_simp <;> with_reducible rfl)
            simp only [Act.put, List.setIfInBounds_toArray, List.set_cons_zero, List.set_cons_succ]
            refine takeL 7 (v := ?_) rfl (by kernel_rfl) (by kernel_rfl) (by kernel_rfl) (fun _ _ _ h => h) (Or.inl ⟨by rfl, ?_⟩) (by assumption) ?_
            rotate_left
            focus (intro wq hSq; go_simp <;> with_reducible rfl)
            simp only [Act.put, List.setIfInBounds_toArray, List.set_cons_zero, List.set_cons_succ]
            refine takeL 8 (v := ?_) rfl (by kernel_rfl) (by kernel_rfl) (by kernel_rfl) (fun _ _ _ h => h) (Or.inl ⟨by rfl, ?_⟩) (by assumption) ?_
            rotate_left
            focus (intro wq hSq; go_simp <;> with_reducible rfl)
            simp only [Act.put, List.setIfInBounds_toArray, List.set_cons_zero, List.set_cons_succ]
            refine takeL 9 (v := ?_) rfl (by kernel_rfl) (by kernel_rfl) (by kernel_rfl) (fun _ _ _ h => h) (Or.inl ⟨by rfl, ?_⟩) (by assumption) ?_
            rotate_left
            focus (intro wq hSq; go_simp <;> with_reducible rfl)
            simp only [Act.put, List.setIfInBounds_toArray, List.set_cons_zero, List.set_cons_succ]
            refine wpAnyH_done (by kernel_rfl) ?_ _
            have HX7 := Lib.hid (HX1.out.below hHeld7 HX1.out.lt)
            have HB7 := Lib.hid (HB1.out.trans (hHeld7.mono (Nat.le_of_lt HX1.out.lt)))
            clear hHeld hHeld6 hHeld7 hb7
            obtain ⟨y0, yf0⟩ := CBox.at_ HX7.out 0 _ rfl
            obtain ⟨y1, yf1⟩ := CBox.at_ HX7.out 1 _ rfl
            obtain ⟨y2, yf2⟩ := CBox.at_ HX7.out 2 _ rfl
            obtain ⟨y3, yf3⟩ := CBox.at_ HX7.out 3 _ rfl
            obtain ⟨y4, yf4⟩ := CBox.at_ HX7.out 4 _ rfl
            obtain ⟨y5, yf5⟩ := CBox.at_ HX7.out 5 _ rfl
            obtain ⟨y6, yf6⟩ := CBox.at_ HX7.out 6 _ rfl
            obtain ⟨y7, yf7⟩ := CBox.at_ HX7.out 7 _ rfl
            obtain ⟨y8, yf8⟩ := CBox.at_ HX7.out 8 _ rfl
            go_wp2_with fail
            obtain ⟨r0, r1, r2, r3, r4, r5, r6, r7, r8⟩ := ret9 (cells9 HX7.out (.int .i64 2) (.int .i64 3) (.string (bstr [])) (.int .i64 0) (.bool false) (.int .i64 0) (.int .i64 0) (.slice none 0 0) (.slice ro R.length rc))
            refine bodyPost_ret (v := .tuple #[.agg #[.int .i64 2, .int .i64 3, .string (bstr []), .int .i64 0, .bool false, .int .i64 0, .int .i64 0, .slice none 0 0, .slice ro R.length rc], .int .i64 0]) (by simp [results, Try.results12, go_sem, r0, r1, r2, r3, r4, r5, r6, r7, r8]) rfl ?_
            rw [HPE.out]
            exact ⟨.slice none 0 0, .slice ro R.length rc, rfl, Strs.nil _, fun j hj => by simp [Value.ownBlock] at hj, (HR7.out.far9 HX1.out.lt _ _ _ _ _ _ _ _ _).mono (by rw [HRB.out]; exact Nat.le_of_lt HX1.out.lt), HRB.out ▸ below9 HB7.out (Nat.le_refl _) _ _ _ _ _ _ _ _ _⟩
          · have hne : (er != 0) = true := bne_iff_ne.2 h0
            have HPE := Lib.hid (show P = (er, .zero) from by rw [HPK.out, if_neg h0])
            clear HPK h0
            go_enter Try.func12, Try.ntmps12
            go_upto_region 1 with fail
            rw [HRB.out, HW1.out]
            go_upto_region 8 with ((with_reducible refine (HRT.out _).mono ?_); rintro e w2 ⟨rfl, hw2⟩; subst hw2)
            refine wp_region_held_drew (S := fun W' => Below W1.heap.size W1 W') (by kernel_rfl) (Below.drew (Below.refl _ _)) (fun hHeld => ?_)
            refine takeL 0 (v := ?_) rfl (by kernel_rfl) (by kernel_rfl) (by kernel_rfl) (fun _ _ _ h => h) (Or.inl ⟨by rfl, ?_⟩) (by assumption) ?_
            rotate_left
            focus (intro wq hSq; go_simp <;> with_reducible rfl)
            simp only [Act.put, List.setIfInBounds_toArray, List.set_cons_zero, List.set_cons_succ]
            refine takeL 1 (v := ?_) rfl (by kernel_rfl) (by kernel_rfl) (by kernel_rfl) (fun _ _ _ h => h) (Or.inl ⟨by rfl, ?_⟩) (by assumption) ?_
            rotate_left
            focus (intro wq hSq; go_simp <;> with_reducible rfl)
            simp only [Act.put, List.setIfInBounds_toArray, List.set_cons_zero, List.set_cons_succ]
            refine takeL 2 (v := ?_) rfl (by kernel_rfl) (by kernel_rfl) (by kernel_rfl) (fun _ _ _ h => h) (Or.inl ⟨by rfl, ?_⟩) (by assumption) ?_
            rotate_left
            focus (intro wq hSq; go_simp <;> with_reducible rfl)
            simp only [Act.put, List.setIfInBounds_toArray, List.set_cons_zero, List.set_cons_succ]
            refine wpAnyH_ready (rs := [3]) (by kernel_rfl) (by simp) (nextL 3 rfl (fun Kr hKr => ?_) AllReadyH.nil)
            rw [if_pos (by rfl)]
            go_simp
            refine (HGT.out _).mono ?_
            rintro e w6 ⟨rfl, hw6⟩
            subst hw6
            refine hKr.out _ _ hHeld (fun hHeld6 => ?_)
            clear hKr
            refine wpAnyH_ready (rs := [4]) (by kernel_rfl) (by simp) (nextL 4 rfl (fun Kr hKr => ?_) AllReadyH.nil)
            rw [if_pos (by rfl)]
            go_simp
            refine (HRC.out _).mono ?_
            rintro e w7 ⟨v7, rfl, hrw, hb7⟩
            obtain ⟨ro, rc, rfl⟩ := hrw.shape
            have HR7 := Lib.hid (show Row w7 W1.heap.size (.slice ro R.length rc) R from hrw.mono hHeld.size)
            refine hKr.out _ _ (hHeld.trans (hb7.mono hHeld.size)) (fun hHeld7 => ?_)
            clear hKr hrw
            refine takeL 5 (v := ?_) rfl (by kernel_rfl) (by kernel_rfl) (by kernel_rfl) (fun _ _ _ h => h) (Or.inl ⟨by rfl, ?_⟩) (by assumption) ?_
            rotate_left
            focus (intro wq hSq; go_simp <;> with_reducible rfl)
            simp only [Act.put, List.setIfInBounds_toArray, List.set_cons_zero, List.set_cons_succ]
            refine takeL 6 (v := ?_) rfl (by kernel_rfl) (by kernel_rfl) (by kernel_rfl) (fun _ _ _ h => h) (Or.inl ⟨by rfl, ?_⟩) (by assumption) ?_
            rotate_left
            focus (intro wq hSq; go_simp <;> with_reducible rfl)
            simp only [Act.put, List.setIfInBounds_toArray, List.set_cons_zero, List.set_cons_succ]
            refine takeL 7 (v := ?_) rfl (by kernel_rfl) (by kernel_rfl) (by kernel_rfl) (fun _ _ _ h => h) (Or.inl ⟨by rfl, ?_⟩) (by assumption) ?_
            rotate_left
            focus (intro wq hSq; go_simp <;> with_reducible rfl)
            simp only [Act.put, List.setIfInBounds_toArray, List.set_cons_zero, List.set_cons_succ]
            refine takeL 8 (v := ?_) rfl (by kernel_rfl) (by kernel_rfl) (by kernel_rfl) (fun _ _ _ h => h) (Or.inl ⟨by rfl, ?_⟩) (by assumption) ?_
            rotate_left
            focus (intro wq hSq; go_simp <;> with_reducible rfl)
            simp only [Act.put, List.setIfInBounds_toArray, List.set_cons_zero, List.set_cons_succ]
            refine takeL 9 (v := ?_) rfl (by kernel_rfl) (by kernel_rfl) (by kernel_rfl) (fun _ _ _ h => h) (Or.inl ⟨by rfl, ?_⟩) (by assumption) ?_
            rotate_left
            focus (intro wq hSq; go_simp <;> with_reducible rfl)
            simp only [Act.put, List.setIfInBounds_toArray, List.set_cons_zero, List.set_cons_succ]
            refine wpAnyH_done (by kernel_rfl) ?_ _
            have HX7 := Lib.hid (HX1.out.below hHeld7 HX1.out.lt)
            have HB7 := Lib.hid (HB1.out.trans (hHeld7.mono (Nat.le_of_lt HX1.out.lt)))
            clear hHeld hHeld6 hHeld7 hb7
            obtain ⟨y0, yf0⟩ := CBox.at_ HX7.out 0 _ rfl
            obtain ⟨y1, yf1⟩ := CBox.at_ HX7.out 1 _ rfl
            obtain ⟨y2, yf2⟩ := CBox.at_ HX7.out 2 _ rfl
            obtain ⟨y3, yf3⟩ := CBox.at_ HX7.out 3 _ rfl
            obtain ⟨y4, yf4⟩ := CBox.at_ HX7.out 4 _ rfl
            obtain ⟨y5, yf5⟩ := CBox.at_ HX7.out 5 _ rfl
            obtain ⟨y6, yf6⟩ := CBox.at_ HX7.out 6 _ rfl
            obtain ⟨y7, yf7⟩ := CBox.at_ HX7.out 7 _ rfl
            obtain ⟨y8, yf8⟩ := CBox.at_ HX7.out 8 _ rfl
            go_wp2_with fail
            obtain ⟨r0, r1, r2, r3, r4, r5, r6, r7, r8⟩ := ret9 (cells9 HX7.out (.int .i64 0) (.int .i64 0) (.string (bstr [])) (.int .i64 0) (.bool false) (.int .i64 0) (.int .i64 0) (.slice none 0 0) (.slice none 0 0))
            refine bodyPost_ret (v := .tuple #[.agg #[.int .i64 0, .int .i64 0, .string (bstr []), .int .i64 0, .bool false, .int .i64 0, .int .i64 0, .slice none 0 0, .slice none 0 0], .int .i64 er]) (by simp [results, Try.results12, go_sem, r0, r1, r2, r3, r4, r5, r6, r7, r8]) rfl ?_
            rw [HPE.out]
            exact retMsg_bad w _ er (HRB.out ▸ below9 HB7.out (Nat.le_refl _) _ _ _ _ _ _ _ _ _)
        · rw [decide_eq_false h34] at q34
          rw [if_neg h34] at HPK
          by_cases h18 : k = 18
          · rw [decide_eq_true h18] at q18
            rw [if_neg (fun h => h.1 h18), if_neg (show ¬ k = 23 by omega), if_pos h18] at HPK
            clear h17 h34 h18 q23 q22
            cases hq : grp G 4
            · rw [hq] at HGR
              have HPE := Lib.hid (show P = (3, .zero) from by rw [HPK.out, if_pos hq])
              clear hq HPK
              go_enter Try.func12, Try.ntmps12
              go_upto_region 1 with fail
              rw [HRB.out, HW1.out]
              go_upto_region 13 with ((with_reducible refine (HRT.out _).mono ?_); rintro e w2 ⟨rfl, hw2⟩; subst hw2)
              obtain ⟨W5, hW5⟩ : ∃ W5, W1.alloc (.cells #[.int .i64 2, .int .i64 2, .string (bstr G), .int .i64 0, .bool false, .int .i64 0, .int .i64 0, .slice none 0 0, .slice none 0 0] 27) = W5 := ⟨_, rfl⟩
              obtain ⟨mb, hmb⟩ : ∃ mb, W1.heap.size = mb := ⟨_, rfl⟩
              have X5 : CBox W5 mb 27 #[.int .i64 2, .int .i64 2, .string (bstr G), .int .i64 0, .bool false, .int .i64 0, .int .i64 0, .slice none 0 0, .slice none 0 0] := by rw [← hW5]; exact CBox.new _ hmb.symm
              have hb5 : Below mb W1 W5 := by rw [← hW5, ← hmb]; exact (Below.refl _ _).alloc (Nat.le_refl _) _
              rw [hW5, hmb]
              have HLT := Lib.hid (show rb < mb from hmb ▸ HX1.out.lt)
              have HX5 := Lib.hid X5
              have HXR := Lib.hid (HX1.out.below hb5 HLT.out)
              have HBR := Lib.hid (HB1.out.trans (hb5.mono (Nat.le_of_lt HLT.out)))
              clear X5 hb5 hW5 hmb
              obtain ⟨z1, zf1⟩ := HX5.out.at_ 1 _ rfl
              go_upto_region 20 with fail
              clear z1 zf1
              have HMW := Lib.hid (show CBox (W5.setCell ⟨mb, 1, none⟩ (.int .i64 1)) mb 27 #[.int .i64 2, .int .i64 1, .string (bstr G), .int .i64 0, .bool false, .int .i64 0, .int .i64 0, .slice none 0 0, .slice none 0 0] from HX5.out.set 1 (.int .i64 1))
              have HX7 := Lib.hid (show CBox (W5.setCell ⟨mb, 1, none⟩ (.int .i64 1)) rb 27 mz from HXR.out.far (p := ⟨mb, 1, none⟩) (Nat.ne_of_lt HLT.out) _)
              have HB7 := Lib.hid (show Below rb w (W5.setCell ⟨mb, 1, none⟩ (.int .i64 1)) from HBR.out.setCell (p := ⟨mb, 1, none⟩) (Nat.le_of_lt HLT.out) _)
              obtain ⟨W6, hW6⟩ : ∃ W6, (W5.setCell ⟨mb, 1, none⟩ (.int .i64 1)) = W6 := ⟨_, rfl⟩
              rw [hW6] at HMW HX7 HB7 ⊢
              clear hW6
              obtain ⟨y0, yf0⟩ := CBox.at_ HX7.out 0 _ rfl
              obtain ⟨y1, yf1⟩ := CBox.at_ HX7.out 1 _ rfl
              obtain ⟨y2, yf2⟩ := CBox.at_ HX7.out 2 _ rfl
              obtain ⟨y3, yf3⟩ := CBox.at_ HX7.out 3 _ rfl
              obtain ⟨y4, yf4⟩ := CBox.at_ HX7.out 4 _ rfl
              obtain ⟨y5, yf5⟩ := CBox.at_ HX7.out 5 _ rfl
              obtain ⟨y6, yf6⟩ := CBox.at_ HX7.out 6 _ rfl
              obtain ⟨y7, yf7⟩ := CBox.at_ HX7.out 7 _ rfl
              obtain ⟨y8, yf8⟩ := CBox.at_ HX7.out 8 _ rfl
              obtain ⟨x0, xf0⟩ := CBox.at_ HMW.out 0 _ rfl
              obtain ⟨x1, xf1⟩ := CBox.at_ HMW.out 1 _ rfl
              obtain ⟨x2, xf2⟩ := CBox.at_ HMW.out 2 _ rfl
              obtain ⟨x3, xf3⟩ := CBox.at_ HMW.out 3 _ rfl
              obtain ⟨x4, xf4⟩ := CBox.at_ HMW.out 4 _ rfl
              obtain ⟨x5, xf5⟩ := CBox.at_ HMW.out 5 _ rfl
              obtain ⟨x6, xf6⟩ := CBox.at_ HMW.out 6 _ rfl
              obtain ⟨x7, xf7⟩ := CBox.at_ HMW.out 7 _ rfl
              obtain ⟨x8, xf8⟩ := CBox.at_ HMW.out 8 _ rfl
              go_wp2_with ((with_reducible refine (HGR.out _).mono ?_); rintro e w7 ⟨rfl, hw7⟩; subst hw7)
              obtain ⟨r0, r1, r2, r3, r4, r5, r6, r7, r8⟩ := ret9 (cells9 HX7.out (.int .i64 0) (.int .i64 0) (.string (bstr [])) (.int .i64 0) (.bool false) (.int .i64 0) (.int .i64 0) (.slice none 0 0) (.slice none 0 0))
              refine bodyPost_ret (v := .tuple #[.agg #[.int .i64 0, .int .i64 0, .string (bstr []), .int .i64 0, .bool false, .int .i64 0, .int .i64 0, .slice none 0 0, .slice none 0 0], .int .i64 3]) (by simp [results, Try.results12, go_sem, r0, r1, r2, r3, r4, r5, r6, r7, r8]) rfl ?_
              rw [HPE.out]
              exact retMsg_bad w _ 3 (HRB.out ▸ below9 HB7.out (Nat.le_refl _) _ _ _ _ _ _ _ _ _)
            · rw [hq] at HGR
              have HPE := Lib.hid (show P = (0, ⟨2, 1, G, 0, false, 0, 0, [], []⟩) from by rw [HPK.out, if_neg (by rw [hq]; decide)])
              clear hq HPK
              go_enter Try.func12, Try.ntmps12
              go_upto_region 1 with fail
              rw [HRB.out, HW1.out]
              go_upto_region 13 with ((with_reducible refine (HRT.out _).mono ?_); rintro e w2 ⟨rfl, hw2⟩; subst hw2)
              obtain ⟨W5, hW5⟩ : ∃ W5, W1.alloc (.cells #[.int .i64 2, .int .i64 2, .string (bstr G), .int .i64 0, .bool false, .int .i64 0, .int .i64 0, .slice none 0 0, .slice none 0 0] 27) = W5 := ⟨_, rfl⟩
              obtain ⟨mb, hmb⟩ : ∃ mb, W1.heap.size = mb := ⟨_, rfl⟩
              have X5 : CBox W5 mb 27 #[.int .i64 2, .int .i64 2, .string (bstr G), .int .i64 0, .bool false, .int .i64 0, .int .i64 0, .slice none 0 0, .slice none 0 0] := by rw [← hW5]; exact CBox.new _ hmb.symm
              have hb5 : Below mb W1 W5 := by rw [← hW5, ← hmb]; exact (Below.refl _ _).alloc (Nat.le_refl _) _
              rw [hW5, hmb]
              have HLT := Lib.hid (show rb < mb from hmb ▸ HX1.out.lt)
              have HX5 := Lib.hid X5
              have HXR := Lib.hid (HX1.out.below hb5 HLT.out)
              have HBR := Lib.hid (HB1.out.trans (hb5.mono (Nat.le_of_lt HLT.out)))
              clear X5 hb5 hW5 hmb
              obtain ⟨z1, zf1⟩ := HX5.out.at_ 1 _ rfl
              go_upto_region 20 with fail
              clear z1 zf1
              have HMW := Lib.hid (show CBox (W5.setCell ⟨mb, 1, none⟩ (.int .i64 1)) mb 27 #[.int .i64 2, .int .i64 1, .string (bstr G), .int .i64 0, .bool false, .int .i64 0, .int .i64 0, .slice none 0 0, .slice none 0 0] from HX5.out.set 1 (.int .i64 1))
              have HX7 := Lib.hid (show CBox (W5.setCell ⟨mb, 1, none⟩ (.int .i64 1)) rb 27 mz from HXR.out.far (p := ⟨mb, 1, none⟩) (Nat.ne_of_lt HLT.out) _)
              have HB7 := Lib.hid (show Below rb w (W5.setCell ⟨mb, 1, none⟩ (.int .i64 1)) from HBR.out.setCell (p := ⟨mb, 1, none⟩) (Nat.le_of_lt HLT.out) _)
              obtain ⟨W6, hW6⟩ : ∃ W6, (W5.setCell ⟨mb, 1, none⟩ (.int .i64 1)) = W6 := ⟨_, rfl⟩
              rw [hW6] at HMW HX7 HB7 ⊢
              clear hW6
              obtain ⟨y0, yf0⟩ := CBox.at_ HX7.out 0 _ rfl
              obtain ⟨y1, yf1⟩ := CBox.at_ HX7.out 1 _ rfl
              obtain ⟨y2, yf2⟩ := CBox.at_ HX7.out 2 _ rfl
              obtain ⟨y3, yf3⟩ := CBox.at_ HX7.out 3 _ rfl
              obtain ⟨y4, yf4⟩ := CBox.at_ HX7.out 4 _ rfl
              obtain ⟨y5, yf5⟩ := CBox.at_ HX7.out 5 _ rfl
              obtain ⟨y6, yf6⟩ := CBox.at_ HX7.out 6 _ rfl
              obtain ⟨y7, yf7⟩ := CBox.at_ HX7.out 7 _ rfl
              obtain ⟨y8, yf8⟩ := CBox.at_ HX7.out 8 _ rfl
              obtain ⟨x0, xf0⟩ := CBox.at_ HMW.out 0 _ rfl
              obtain ⟨x1, xf1⟩ := CBox.at_ HMW.out 1 _ rfl
              obtain ⟨x2, xf2⟩ := CBox.at_ HMW.out 2 _ rfl
              obtain ⟨x3, xf3⟩ := CBox.at_ HMW.out 3 _ rfl
              obtain ⟨x4, xf4⟩ := CBox.at_ HMW.out 4 _ rfl
              obtain ⟨x5, xf5⟩ := CBox.at_ HMW.out 5 _ rfl
              obtain ⟨x6, xf6⟩ := CBox.at_ HMW.out 6 _ rfl
              obtain ⟨x7, xf7⟩ := CBox.at_ HMW.out 7 _ rfl
              obtain ⟨x8, xf8⟩ := CBox.at_ HMW.out 8 _ rfl
              go_wp2_with ((with_reducible refine (HGR.out _).mono ?_); rintro e w7 ⟨rfl, hw7⟩; subst hw7)
              obtain ⟨r0, r1, r2, r3, r4, r5, r6, r7, r8⟩ := ret9 (cells9 HX7.out (.int .i64 2) (.int .i64 1) (.string (bstr G)) (.int .i64 0) (.bool false) (.int .i64 0) (.int .i64 0) (.slice none 0 0) (.slice none 0 0))
              refine bodyPost_ret (v := .tuple #[.agg #[.int .i64 2, .int .i64 1, .string (bstr G), .int .i64 0, .bool false, .int .i64 0, .int .i64 0, .slice none 0 0, .slice none 0 0], .int .i64 0]) (by simp [results, Try.results12, go_sem, r0, r1, r2, r3, r4, r5, r6, r7, r8]) rfl ?_
              rw [HPE.out]
              exact ⟨.slice none 0 0, .slice none 0 0, rfl, Strs.nil _, fun j hj => by simp [Value.ownBlock] at hj, Row.nil _ _, HRB.out ▸ below9 HB7.out (Nat.le_refl _) _ _ _ _ _ _ _ _ _⟩
          · rw [decide_eq_false h18] at q18
            by_cases h23 : k = 23
            · rw [decide_eq_true h23] at q23
              rw [decide_eq_false (show ¬ k = 22 by omega)] at q22
              rw [if_neg (fun h => h.2.2 h23), if_pos h23, if_neg h18] at HPK
              clear h17 h34 h18 h23
              cases hq : grp G 4
              · rw [hq] at HGR
                have HPE := Lib.hid (show P = (3, .zero) from by rw [HPK.out, if_pos hq])
                clear hq HPK
                go_enter Try.func12, Try.ntmps12
                go_upto_region 1 with fail
                rw [HRB.out, HW1.out]
                go_upto_region 13 with ((with_reducible refine (HRT.out _).mono ?_); rintro e w2 ⟨rfl, hw2⟩; subst hw2)
                obtain ⟨W5, hW5⟩ : ∃ W5, W1.alloc (.cells #[.int .i64 2, .int .i64 2, .string (bstr G), .int .i64 0, .bool false, .int .i64 0, .int .i64 0, .slice none 0 0, .slice none 0 0] 27) = W5 := ⟨_, rfl⟩
                obtain ⟨mb, hmb⟩ : ∃ mb, W1.heap.size = mb := ⟨_, rfl⟩
                have X5 : CBox W5 mb 27 #[.int .i64 2, .int .i64 2, .string (bstr G), .int .i64 0, .bool false, .int .i64 0, .int .i64 0, .slice none 0 0, .slice none 0 0] := by rw [← hW5]; exact CBox.new _ hmb.symm
                have hb5 : Below mb W1 W5 := by rw [← hW5, ← hmb]; exact (Below.refl _ _).alloc (Nat.le_refl _) _
                rw [hW5, hmb]
                have HLT := Lib.hid (show rb < mb from hmb ▸ HX1.out.lt)
                have HX5 := Lib.hid X5
                have HXR := Lib.hid (HX1.out.below hb5 HLT.out)
                have HBR := Lib.hid (HB1.out.trans (hb5.mono (Nat.le_of_lt HLT.out)))
                clear X5 hb5 hW5 hmb
                obtain ⟨z0, zf0⟩ := HX5.out.at_ 0 _ rfl
                go_upto_region 20 with fail
                clear z0 zf0
                have HMW := Lib.hid (show CBox (W5.setCell ⟨mb, 0, none⟩ (.int .i64 3)) mb 27 #[.int .i64 3, .int .i64 2, .string (bstr G), .int .i64 0, .bool false, .int .i64 0, .int .i64 0, .slice none 0 0, .slice none 0 0] from HX5.out.set 0 (.int .i64 3))
                have HX7 := Lib.hid (show CBox (W5.setCell ⟨mb, 0, none⟩ (.int .i64 3)) rb 27 mz from HXR.out.far (p := ⟨mb, 0, none⟩) (Nat.ne_of_lt HLT.out) _)
                have HB7 := Lib.hid (show Below rb w (W5.setCell ⟨mb, 0, none⟩ (.int .i64 3)) from HBR.out.setCell (p := ⟨mb, 0, none⟩) (Nat.le_of_lt HLT.out) _)
                obtain ⟨W6, hW6⟩ : ∃ W6, (W5.setCell ⟨mb, 0, none⟩ (.int .i64 3)) = W6 := ⟨_, rfl⟩
                rw [hW6] at HMW HX7 HB7 ⊢
                clear hW6
                obtain ⟨y0, yf0⟩ := CBox.at_ HX7.out 0 _ rfl
                obtain ⟨y1, yf1⟩ := CBox.at_ HX7.out 1 _ rfl
                obtain ⟨y2, yf2⟩ := CBox.at_ HX7.out 2 _ rfl
                obtain ⟨y3, yf3⟩ := CBox.at_ HX7.out 3 _ rfl
                obtain ⟨y4, yf4⟩ := CBox.at_ HX7.out 4 _ rfl
                obtain ⟨y5, yf5⟩ := CBox.at_ HX7.out 5 _ rfl
                obtain ⟨y6, yf6⟩ := CBox.at_ HX7.out 6 _ rfl
                obtain ⟨y7, yf7⟩ := CBox.at_ HX7.out 7 _ rfl
                obtain ⟨y8, yf8⟩ := CBox.at_ HX7.out 8 _ rfl
                obtain ⟨x0, xf0⟩ := CBox.at_ HMW.out 0 _ rfl
                obtain ⟨x1, xf1⟩ := CBox.at_ HMW.out 1 _ rfl
                obtain ⟨x2, xf2⟩ := CBox.at_ HMW.out 2 _ rfl
                obtain ⟨x3, xf3⟩ := CBox.at_ HMW.out 3 _ rfl
                obtain ⟨x4, xf4⟩ := CBox.at_ HMW.out 4 _ rfl
                obtain ⟨x5, xf5⟩ := CBox.at_ HMW.out 5 _ rfl
                obtain ⟨x6, xf6⟩ := CBox.at_ HMW.out 6 _ rfl
                obtain ⟨x7, xf7⟩ := CBox.at_ HMW.out 7 _ rfl
                obtain ⟨x8, xf8⟩ := CBox.at_ HMW.out 8 _ rfl
                go_wp2_with ((with_reducible refine (HGR.out _).mono ?_); rintro e w7 ⟨rfl, hw7⟩; subst hw7)
                obtain ⟨r0, r1, r2, r3, r4, r5, r6, r7, r8⟩ := ret9 (cells9 HX7.out (.int .i64 0) (.int .i64 0) (.string (bstr [])) (.int .i64 0) (.bool false) (.int .i64 0) (.int .i64 0) (.slice none 0 0) (.slice none 0 0))
                refine bodyPost_ret (v := .tuple #[.agg #[.int .i64 0, .int .i64 0, .string (bstr []), .int .i64 0, .bool false, .int .i64 0, .int .i64 0, .slice none 0 0, .slice none 0 0], .int .i64 3]) (by simp [results, Try.results12, go_sem, r0, r1, r2, r3, r4, r5, r6, r7, r8]) rfl ?_
                rw [HPE.out]
                exact retMsg_bad w _ 3 (HRB.out ▸ below9 HB7.out (Nat.le_refl _) _ _ _ _ _ _ _ _ _)
              · rw [hq] at HGR
                have HPE := Lib.hid (show P = (0, ⟨3, 2, G, 0, false, 0, 0, [], []⟩) from by rw [HPK.out, if_neg (by rw [hq]; decide)])
                clear hq HPK
                go_enter Try.func12, Try.ntmps12
                go_upto_region 1 with fail
                rw [HRB.out, HW1.out]
                go_upto_region 13 with ((with_reducible refine (HRT.out _).mono ?_); rintro e w2 ⟨rfl, hw2⟩; subst hw2)
                obtain ⟨W5, hW5⟩ : ∃ W5, W1.alloc (.cells #[.int .i64 2, .int .i64 2, .string (bstr G), .int .i64 0, .bool false, .int .i64 0, .int .i64 0, .slice none 0 0, .slice none 0 0] 27) = W5 := ⟨_, rfl⟩
                obtain ⟨mb, hmb⟩ : ∃ mb, W1.heap.size = mb := ⟨_, rfl⟩
                have X5 : CBox W5 mb 27 #[.int .i64 2, .int .i64 2, .string (bstr G), .int .i64 0, .bool false, .int .i64 0, .int .i64 0, .slice none 0 0, .slice none 0 0] := by rw [← hW5]; exact CBox.new _ hmb.symm
                have hb5 : Below mb W1 W5 := by rw [← hW5, ← hmb]; exact (Below.refl _ _).alloc (Nat.le_refl _) _
                rw [hW5, hmb]
                have HLT := Lib.hid (show rb < mb from hmb ▸ HX1.out.lt)
                have HX5 := Lib.hid X5
                have HXR := Lib.hid (HX1.out.below hb5 HLT.out)
                have HBR := Lib.hid (HB1.out.trans (hb5.mono (Nat.le_of_lt HLT.out)))
                clear X5 hb5 hW5 hmb
                obtain ⟨z0, zf0⟩ := HX5.out.at_ 0 _ rfl
                go_upto_region 20 with fail
                clear z0 zf0
                have HMW := Lib.hid (show CBox (W5.setCell ⟨mb, 0, none⟩ (.int .i64 3)) mb 27 #[.int .i64 3, .int .i64 2, .string (bstr G), .int .i64 0, .bool false, .int .i64 0, .int .i64 0, .slice none 0 0, .slice none 0 0] from HX5.out.set 0 (.int .i64 3))
                have HX7 := Lib.hid (show CBox (W5.setCell ⟨mb, 0, none⟩ (.int .i64 3)) rb 27 mz from HXR.out.far (p := ⟨mb, 0, none⟩) (Nat.ne_of_lt HLT.out) _)
                have HB7 := Lib.hid (show Below rb w (W5.setCell ⟨mb, 0, none⟩ (.int .i64 3)) from HBR.out.setCell (p := ⟨mb, 0, none⟩) (Nat.le_of_lt HLT.out) _)
                obtain ⟨W6, hW6⟩ : ∃ W6, (W5.setCell ⟨mb, 0, none⟩ (.int .i64 3)) = W6 := ⟨_, rfl⟩
                rw [hW6] at HMW HX7 HB7 ⊢
                clear hW6
                obtain ⟨y0, yf0⟩ := CBox.at_ HX7.out 0 _ rfl
                obtain ⟨y1, yf1⟩ := CBox.at_ HX7.out 1 _ rfl
                obtain ⟨y2, yf2⟩ := CBox.at_ HX7.out 2 _ rfl
                obtain ⟨y3, yf3⟩ := CBox.at_ HX7.out 3 _ rfl
                obtain ⟨y4, yf4⟩ := CBox.at_ HX7.out 4 _ rfl
                obtain ⟨y5, yf5⟩ := CBox.at_ HX7.out 5 _ rfl
                obtain ⟨y6, yf6⟩ := CBox.at_ HX7.out 6 _ rfl
                obtain ⟨y7, yf7⟩ := CBox.at_ HX7.out 7 _ rfl
                obtain ⟨y8, yf8⟩ := CBox.at_ HX7.out 8 _ rfl
                obtain ⟨x0, xf0⟩ := CBox.at_ HMW.out 0 _ rfl
                obtain ⟨x1, xf1⟩ := CBox.at_ HMW.out 1 _ rfl
                obtain ⟨x2, xf2⟩ := CBox.at_ HMW.out 2 _ rfl
                obtain ⟨x3, xf3⟩ := CBox.at_ HMW.out 3 _ rfl
                obtain ⟨x4, xf4⟩ := CBox.at_ HMW.out 4 _ rfl
                obtain ⟨x5, xf5⟩ := CBox.at_ HMW.out 5 _ rfl
                obtain ⟨x6, xf6⟩ := CBox.at_ HMW.out 6 _ rfl
                obtain ⟨x7, xf7⟩ := CBox.at_ HMW.out 7 _ rfl
                obtain ⟨x8, xf8⟩ := CBox.at_ HMW.out 8 _ rfl
                go_wp2_with ((with_reducible refine (HGR.out _).mono ?_); rintro e w7 ⟨rfl, hw7⟩; subst hw7)
                obtain ⟨r0, r1, r2, r3, r4, r5, r6, r7, r8⟩ := ret9 (cells9 HX7.out (.int .i64 3) (.int .i64 2) (.string (bstr G)) (.int .i64 0) (.bool false) (.int .i64 0) (.int .i64 0) (.slice none 0 0) (.slice none 0 0))
                refine bodyPost_ret (v := .tuple #[.agg #[.int .i64 3, .int .i64 2, .string (bstr G), .int .i64 0, .bool false, .int .i64 0, .int .i64 0, .slice none 0 0, .slice none 0 0], .int .i64 0]) (by simp [results, Try.results12, go_sem, r0, r1, r2, r3, r4, r5, r6, r7, r8]) rfl ?_
                rw [HPE.out]
                exact ⟨.slice none 0 0, .slice none 0 0, rfl, Strs.nil _, fun j hj => by simp [Value.ownBlock] at hj, Row.nil _ _, HRB.out ▸ below9 HB7.out (Nat.le_refl _) _ _ _ _ _ _ _ _ _⟩
            · rw [decide_eq_false h23] at q23
              by_cases h22 : k = 22
              · rw [decide_eq_true h22] at q22
                rw [if_neg (fun h => h.2.1 h22), if_neg h23, if_neg h18] at HPK
                clear h17 h34 h18 h23 h22
                cases hq : grp G 4
                · rw [hq] at HGR
                  have HPE := Lib.hid (show P = (3, .zero) from by rw [HPK.out, if_pos hq])
                  clear hq HPK
                  go_enter Try.func12, Try.ntmps12
                  go_upto_region 1 with fail
                  rw [HRB.out, HW1.out]
                  go_upto_region 13 with ((with_reducible refine (HRT.out _).mono ?_); rintro e w2 ⟨rfl, hw2⟩; subst hw2)
                  obtain ⟨W5, hW5⟩ : ∃ W5, W1.alloc (.cells #[.int .i64 2, .int .i64 2, .string (bstr G), .int .i64 0, .bool false, .int .i64 0, .int .i64 0, .slice none 0 0, .slice none 0 0] 27) = W5 := ⟨_, rfl⟩
                  obtain ⟨mb, hmb⟩ : ∃ mb, W1.heap.size = mb := ⟨_, rfl⟩
                  have X5 : CBox W5 mb 27 #[.int .i64 2, .int .i64 2, .string (bstr G), .int .i64 0, .bool false, .int .i64 0, .int .i64 0, .slice none 0 0, .slice none 0 0] := by rw [← hW5]; exact CBox.new _ hmb.symm
                  have hb5 : Below mb W1 W5 := by rw [← hW5, ← hmb]; exact (Below.refl _ _).alloc (Nat.le_refl _) _
                  rw [hW5, hmb]
                  have HLT := Lib.hid (show rb < mb from hmb ▸ HX1.out.lt)
                  have HX5 := Lib.hid X5
                  have HXR := Lib.hid (HX1.out.below hb5 HLT.out)
                  have HBR := Lib.hid (HB1.out.trans (hb5.mono (Nat.le_of_lt HLT.out)))
                  clear X5 hb5 hW5 hmb
                  go_upto_region 20 with fail
                  have HMW := Lib.hid (show CBox W5 mb 27 #[.int .i64 2, .int .i64 2, .string (bstr G), .int .i64 0, .bool false, .int .i64 0, .int .i64 0, .slice none 0 0, .slice none 0 0] from HX5.out)
                  have HX7 := Lib.hid (show CBox W5 rb 27 mz from HXR.out)
                  have HB7 := Lib.hid (show Below rb w W5 from HBR.out)
                  obtain ⟨y0, yf0⟩ := CBox.at_ HX7.out 0 _ rfl
                  obtain ⟨y1, yf1⟩ := CBox.at_ HX7.out 1 _ rfl
                  obtain ⟨y2, yf2⟩ := CBox.at_ HX7.out 2 _ rfl
                  obtain ⟨y3, yf3⟩ := CBox.at_ HX7.out 3 _ rfl
                  obtain ⟨y4, yf4⟩ := CBox.at_ HX7.out 4 _ rfl
                  obtain ⟨y5, yf5⟩ := CBox.at_ HX7.out 5 _ rfl
                  obtain ⟨y6, yf6⟩ := CBox.at_ HX7.out 6 _ rfl
                  obtain ⟨y7, yf7⟩ := CBox.at_ HX7.out 7 _ rfl
                  obtain ⟨y8, yf8⟩ := CBox.at_ HX7.out 8 _ rfl
                  obtain ⟨x0, xf0⟩ := CBox.at_ HMW.out 0 _ rfl
                  obtain ⟨x1, xf1⟩ := CBox.at_ HMW.out 1 _ rfl
                  obtain ⟨x2, xf2⟩ := CBox.at_ HMW.out 2 _ rfl
                  obtain ⟨x3, xf3⟩ := CBox.at_ HMW.out 3 _ rfl
                  obtain ⟨x4, xf4⟩ := CBox.at_ HMW.out 4 _ rfl
                  obtain ⟨x5, xf5⟩ := CBox.at_ HMW.out 5 _ rfl
                  obtain ⟨x6, xf6⟩ := CBox.at_ HMW.out 6 _ rfl
                  obtain ⟨x7, xf7⟩ := CBox.at_ HMW.out 7 _ rfl
                  obtain ⟨x8, xf8⟩ := CBox.at_ HMW.out 8 _ rfl
                  go_wp2_with ((with_reducible refine (HGR.out _).mono ?_); rintro e w7 ⟨rfl, hw7⟩; subst hw7)
                  obtain ⟨r0, r1, r2, r3, r4, r5, r6, r7, r8⟩ := ret9 (cells9 HX7.out (.int .i64 0) (.int .i64 0) (.string (bstr [])) (.int .i64 0) (.bool false) (.int .i64 0) (.int .i64 0) (.slice none 0 0) (.slice none 0 0))
                  refine bodyPost_ret (v := .tuple #[.agg #[.int .i64 0, .int .i64 0, .string (bstr []), .int .i64 0, .bool false, .int .i64 0, .int .i64 0, .slice none 0 0, .slice none 0 0], .int .i64 3]) (by simp [results, Try.results12, go_sem, r0, r1, r2, r3, r4, r5, r6, r7, r8]) rfl ?_
                  rw [HPE.out]
                  exact retMsg_bad w _ 3 (HRB.out ▸ below9 HB7.out (Nat.le_refl _) _ _ _ _ _ _ _ _ _)
                · rw [hq] at HGR
                  have HPE := Lib.hid (show P = (0, ⟨2, 2, G, 0, false, 0, 0, [], []⟩) from by rw [HPK.out, if_neg (by rw [hq]; decide)])
                  clear hq HPK
                  go_enter Try.func12, Try.ntmps12
                  go_upto_region 1 with fail
                  rw [HRB.out, HW1.out]
                  go_upto_region 13 with ((with_reducible refine (HRT.out _).mono ?_); rintro e w2 ⟨rfl, hw2⟩; subst hw2)
                  obtain ⟨W5, hW5⟩ : ∃ W5, W1.alloc (.cells #[.int .i64 2, .int .i64 2, .string (bstr G), .int .i64 0, .bool false, .int .i64 0, .int .i64 0, .slice none 0 0, .slice none 0 0] 27) = W5 := ⟨_, rfl⟩
                  obtain ⟨mb, hmb⟩ : ∃ mb, W1.heap.size = mb := ⟨_, rfl⟩
                  have X5 : CBox W5 mb 27 #[.int .i64 2, .int .i64 2, .string (bstr G), .int .i64 0, .bool false, .int .i64 0, .int .i64 0, .slice none 0 0, .slice none 0 0] := by rw [← hW5]; exact CBox.new _ hmb.symm
                  have hb5 : Below mb W1 W5 := by rw [← hW5, ← hmb]; exact (Below.refl _ _).alloc (Nat.le_refl _) _
                  rw [hW5, hmb]
                  have HLT := Lib.hid (show rb < mb from hmb ▸ HX1.out.lt)
                  have HX5 := Lib.hid X5
                  have HXR := Lib.hid (HX1.out.below hb5 HLT.out)
                  have HBR := Lib.hid (HB1.out.trans (hb5.mono (Nat.le_of_lt HLT.out)))
                  clear X5 hb5 hW5 hmb
                  go_upto_region 20 with fail
                  have HMW := Lib.hid (show CBox W5 mb 27 #[.int .i64 2, .int .i64 2, .string (bstr G), .int .i64 0, .bool false, .int .i64 0, .int .i64 0, .slice none 0 0, .slice none 0 0] from HX5.out)
                  have HX7 := Lib.hid (show CBox W5 rb 27 mz from HXR.out)
                  have HB7 := Lib.hid (show Below rb w W5 from HBR.out)
                  obtain ⟨y0, yf0⟩ := CBox.at_ HX7.out 0 _ rfl
                  obtain ⟨y1, yf1⟩ := CBox.at_ HX7.out 1 _ rfl
                  obtain ⟨y2, yf2⟩ := CBox.at_ HX7.out 2 _ rfl
                  obtain ⟨y3, yf3⟩ := CBox.at_ HX7.out 3 _ rfl
                  obtain ⟨y4, yf4⟩ := CBox.at_ HX7.out 4 _ rfl
                  obtain ⟨y5, yf5⟩ := CBox.at_ HX7.out 5 _ rfl
                  obtain ⟨y6, yf6⟩ := CBox.at_ HX7.out 6 _ rfl
                  obtain ⟨y7, yf7⟩ := CBox.at_ HX7.out 7 _ rfl
                  obtain ⟨y8, yf8⟩ := CBox.at_ HX7.out 8 _ rfl
                  obtain ⟨x0, xf0⟩ := CBox.at_ HMW.out 0 _ rfl
                  obtain ⟨x1, xf1⟩ := CBox.at_ HMW.out 1 _ rfl
                  obtain ⟨x2, xf2⟩ := CBox.at_ HMW.out 2 _ rfl
                  obtain ⟨x3, xf3⟩ := CBox.at_ HMW.out 3 _ rfl
                  obtain ⟨x4, xf4⟩ := CBox.at_ HMW.out 4 _ rfl
                  obtain ⟨x5, xf5⟩ := CBox.at_ HMW.out 5 _ rfl
                  obtain ⟨x6, xf6⟩ := CBox.at_ HMW.out 6 _ rfl
                  obtain ⟨x7, xf7⟩ := CBox.at_ HMW.out 7 _ rfl
                  obtain ⟨x8, xf8⟩ := CBox.at_ HMW.out 8 _ rfl
                  go_wp2_with ((with_reducible refine (HGR.out _).mono ?_); rintro e w7 ⟨rfl, hw7⟩; subst hw7)
                  obtain ⟨r0, r1, r2, r3, r4, r5, r6, r7, r8⟩ := ret9 (cells9 HX7.out (.int .i64 2) (.int .i64 2) (.string (bstr G)) (.int .i64 0) (.bool false) (.int .i64 0) (.int .i64 0) (.slice none 0 0) (.slice none 0 0))
                  refine bodyPost_ret (v := .tuple #[.agg #[.int .i64 2, .int .i64 2, .string (bstr G), .int .i64 0, .bool false, .int .i64 0, .int .i64 0, .slice none 0 0, .slice none 0 0], .int .i64 0]) (by simp [results, Try.results12, go_sem, r0, r1, r2, r3, r4, r5, r6, r7, r8]) rfl ?_
                  rw [HPE.out]
                  exact ⟨.slice none 0 0, .slice none 0 0, rfl, Strs.nil _, fun j hj => by simp [Value.ownBlock] at hj, Row.nil _ _, HRB.out ▸ below9 HB7.out (Nat.le_refl _) _ _ _ _ _ _ _ _ _⟩
              · rw [decide_eq_false h22] at q22
                have HPE := Lib.hid (show P = (3, .zero) from by rw [HPK.out, if_pos ⟨h18, h22, h23⟩])
                clear h17 h34 h18 h23 h22 HPK
                go_enter Try.func12, Try.ntmps12
                go_upto_region 1 with fail
                rw [HRB.out, HW1.out]
                go_upto_region 13 with ((with_reducible refine (HRT.out _).mono ?_); rintro e w2 ⟨rfl, hw2⟩; subst hw2)
                obtain ⟨W5, hW5⟩ : ∃ W5, W1.alloc (.cells #[.int .i64 2, .int .i64 2, .string (bstr G), .int .i64 0, .bool false, .int .i64 0, .int .i64 0, .slice none 0 0, .slice none 0 0] 27) = W5 := ⟨_, rfl⟩
                obtain ⟨mb, hmb⟩ : ∃ mb, W1.heap.size = mb := ⟨_, rfl⟩
                have X5 : CBox W5 mb 27 #[.int .i64 2, .int .i64 2, .string (bstr G), .int .i64 0, .bool false, .int .i64 0, .int .i64 0, .slice none 0 0, .slice none 0 0] := by rw [← hW5]; exact CBox.new _ hmb.symm
                have hb5 : Below mb W1 W5 := by rw [← hW5, ← hmb]; exact (Below.refl _ _).alloc (Nat.le_refl _) _
                rw [hW5, hmb]
                have HLT := Lib.hid (show rb < mb from hmb ▸ HX1.out.lt)
                have HX5 := Lib.hid X5
                have HXR := Lib.hid (HX1.out.below hb5 HLT.out)
                have HBR := Lib.hid (HB1.out.trans (hb5.mono (Nat.le_of_lt HLT.out)))
                clear X5 hb5 hW5 hmb
                obtain ⟨y0, yf0⟩ := CBox.at_ HXR.out 0 _ rfl
                obtain ⟨y1, yf1⟩ := CBox.at_ HXR.out 1 _ rfl
                obtain ⟨y2, yf2⟩ := CBox.at_ HXR.out 2 _ rfl
                obtain ⟨y3, yf3⟩ := CBox.at_ HXR.out 3 _ rfl
                obtain ⟨y4, yf4⟩ := CBox.at_ HXR.out 4 _ rfl
                obtain ⟨y5, yf5⟩ := CBox.at_ HXR.out 5 _ rfl
                obtain ⟨y6, yf6⟩ := CBox.at_ HXR.out 6 _ rfl
                obtain ⟨y7, yf7⟩ := CBox.at_ HXR.out 7 _ rfl
                obtain ⟨y8, yf8⟩ := CBox.at_ HXR.out 8 _ rfl
                go_wp2_with fail
                obtain ⟨r0, r1, r2, r3, r4, r5, r6, r7, r8⟩ := ret9 (cells9 HXR.out (.int .i64 0) (.int .i64 0) (.string (bstr [])) (.int .i64 0) (.bool false) (.int .i64 0) (.int .i64 0) (.slice none 0 0) (.slice none 0 0))
                refine bodyPost_ret (v := .tuple #[.agg #[.int .i64 0, .int .i64 0, .string (bstr []), .int .i64 0, .bool false, .int .i64 0, .int .i64 0, .slice none 0 0, .slice none 0 0], .int .i64 3]) (by simp [results, Try.results12, go_sem, r0, r1, r2, r3, r4, r5, r6, r7, r8]) rfl ?_
                rw [HPE.out]
                exact retMsg_bad w _ 3 (HRB.out ▸ below9 HBR.out (Nat.le_refl _) _ _ _ _ _ _ _ _ _)
end Go.Proofs.Ythkogdgfkhhleaa
