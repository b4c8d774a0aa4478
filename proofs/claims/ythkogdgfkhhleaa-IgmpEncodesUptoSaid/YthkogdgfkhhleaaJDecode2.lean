/- igmp.Decode. -/
import Derived.Test.YthkogdgfkhhleaaJDecode
namespace Go.Proofs.Ythkogdgfkhhleaa
open Go.RowKit Go.Sort
set_option maxRecDepth 20000
set_option maxRecDepth 20000
attribute [local go_sem] bstr_size bstr_extract bstr_toList bstr_get

theorem Row.far9 {w : World} {v : Value} {R : List Rec} {lo b : Nat} (h : Row w lo v R) (hb : b < lo) (v0 v1 v2 v3 v4 v5 v6 v7 v8 : Value) :
    Row (((((((((w.setCell ⟨b, 0, none⟩ v0).setCell ⟨b, 1, none⟩ v1).setCell ⟨b, 2, none⟩ v2).setCell ⟨b, 3, none⟩ v3).setCell ⟨b, 4, none⟩ v4).setCell ⟨b, 5, none⟩ v5).setCell ⟨b, 6, none⟩ v6).setCell ⟨b, 7, none⟩ v7).setCell ⟨b, 8, none⟩ v8) lo v R :=
  ((((((((h.far (p := ⟨b, 0, none⟩) hb v0).far (p := ⟨b, 1, none⟩) hb v1).far (p := ⟨b, 2, none⟩) hb v2).far (p := ⟨b, 3, none⟩) hb v3).far (p := ⟨b, 4, none⟩) hb v4).far (p := ⟨b, 5, none⟩) hb v5).far (p := ⟨b, 6, none⟩) hb v6).far (p := ⟨b, 7, none⟩) hb v7).far (p := ⟨b, 8, none⟩) hb v8
theorem one_eq (x c : UInt8) : ([x] == [c]) = decide (x.toNat = c.toNat) := by
  rw [Bool.eq_iff_iff, beq_iff_eq, decide_eq_true_eq]
  constructor
  · intro h; injection h with h; rw [h]
  · intro h; rw [UInt8.toNat_inj.1 h]
theorem take_one {s : Str} (h : 0 < s.length) : s.take 1 = [s.getD 0 0] := by
  cases s with
  | nil => simp at h
  | cons a s => simp
theorem num6_any (s : Str) (N : Nat) (w : World) (hl : 8 ≤ s.length) (hm : s.length ≤ maxLen) (hN : numAt s 6 2 = N) :
    Calls Try.prog 26 #[.string (bstr s), .int .i64 6, .int .i64 2] w fun e w' => e = .returned (.tuple #[.int .i64 N, .int .i64 0]) ∧ Below w.heap.size w w' := by
  have h := get_any s 6 2 w hm (by decide) (by decide) (by decide)
  rw [if_pos (by omega), if_pos (by omega), hN] at h
  exact h
theorem pdec_kind (s : Str) (k : Nat) (h8 : ¬ s.length < 8) (hp : psum s = 0) (hk : (s.getD 0 0).toNat = k) : pdec s =
    if k = 17 then pquery s else
    if k = 34 then (if (precs (s.drop 8) (numAt s 6 2) 4).1 = 0 then (0, ⟨2, 3, [], 0, false, 0, 0, [], (precs (s.drop 8) (numAt s 6 2) 4).2⟩) else ((precs (s.drop 8) (numAt s 6 2) 4).1, .zero)) else
    if k ≠ 18 ∧ k ≠ 22 ∧ k ≠ 23 then (3, .zero) else
    if grp ((s.drop 4).take 4) 4 = false then (3, .zero) else
    (0, ⟨if k = 23 then 3 else 2, if k = 18 then 1 else 2, (s.drop 4).take 4, 0, false, 0, 0, [], []⟩) := by
  unfold pdec
  rw [if_neg h8, if_neg (fun h => h hp)]
  simp only [hk]

set_option maxHeartbeats 4000000 in
theorem decode_any (s : Str) (w : World) (hs : s.length ≤ 1000000) :
    Calls Try.prog 11 #[.string (bstr s)] w (RetMsg w (pdec s).1 (pdec s).2) := by
  have b0 : (⟨#[]⟩ : ByteArray) = bstr [] := bstr_nil.symm
  obtain ⟨rb, hrb⟩ : ∃ rb, w.heap.size = rb := ⟨_, rfl⟩
  obtain ⟨P, hP⟩ : ∃ P, P = pdec s := ⟨_, rfl⟩
  rw [← hP]
  have HRB := Lib.hid hrb
  obtain ⟨W1, hW1⟩ : ∃ W1, w.alloc (.cells mz 27) = W1 := ⟨_, rfl⟩
  have X1 : CBox W1 rb 27 mz := by rw [← hW1]; exact CBox.new _ HRB.out.symm
  have hb1 : Below rb w W1 := by rw [← hW1, ← HRB.out]; exact (Below.refl _ _).alloc (Nat.le_refl _) _
  have HX1 := Lib.hid X1; have HB1 := Lib.hid hb1; have HW1 := Lib.hid hW1
  clear X1 hb1 hW1 hrb
  by_cases h8 : s.length < 8
  · have HPE := Lib.hid (show P = (2, .zero) from by rw [hP]; unfold pdec; rw [if_pos h8])
    have d8 : decide ((s.length : Int) < 8) = true := decide_eq_true (by omega)
    have d8' : decide (s.length < 8) = true := decide_eq_true h8
    clear h8 hP hs
    go_enter Try.func11, Try.ntmps11
    go_upto_region 1 with fail
    rw [HRB.out, HW1.out]
    obtain ⟨y0, yf0⟩ := CBox.at_ HX1.out 0 _ rfl
    obtain ⟨y1, yf1⟩ := CBox.at_ HX1.out 1 _ rfl
    obtain ⟨y2, yf2⟩ := CBox.at_ HX1.out 2 _ rfl
    obtain ⟨y3, yf3⟩ := CBox.at_ HX1.out 3 _ rfl
    obtain ⟨y4, yf4⟩ := CBox.at_ HX1.out 4 _ rfl
    obtain ⟨y5, yf5⟩ := CBox.at_ HX1.out 5 _ rfl
    obtain ⟨y6, yf6⟩ := CBox.at_ HX1.out 6 _ rfl
    obtain ⟨y7, yf7⟩ := CBox.at_ HX1.out 7 _ rfl
    obtain ⟨y8, yf8⟩ := CBox.at_ HX1.out 8 _ rfl
    go_wp2_with fail
    obtain ⟨r0, r1, r2, r3, r4, r5, r6, r7, r8⟩ := ret9 (cells9 HX1.out (.int .i64 0) (.int .i64 0) (.string (bstr [])) (.int .i64 0) (.bool false) (.int .i64 0) (.int .i64 0) (.slice none 0 0) (.slice none 0 0))
    refine bodyPost_ret (v := .tuple #[.agg #[.int .i64 0, .int .i64 0, .string (bstr []), .int .i64 0, .bool false, .int .i64 0, .int .i64 0, .slice none 0 0, .slice none 0 0], .int .i64 2]) (by simp [results, Try.results11, go_sem, r0, r1, r2, r3, r4, r5, r6, r7, r8]) rfl ?_
    rw [HPE.out]
    exact retMsg_bad w _ 2 (HRB.out ▸ below9 HB1.out (Nat.le_refl _) _ _ _ _ _ _ _ _ _)
  · have d8 : decide ((s.length : Int) < 8) = false := decide_eq_false (by omega)
    have d8' : decide (s.length < 8) = false := decide_eq_false h8
    have HRT := Lib.hid (fun W => right_any s W (Nat.le_trans hs (by decide)))
    by_cases hp : psum s = 0
    rotate_left
    · rw [decide_eq_false hp] at HRT
      have HPE := Lib.hid (show P = (4, .zero) from by rw [hP]; unfold pdec; rw [if_neg h8, if_pos hp])
      clear h8 hP hs hp
      go_enter Try.func11, Try.ntmps11
      go_upto_region 1 with fail
      rw [HRB.out, HW1.out]
      go_wp2_with ((with_reducible refine (HRT.out _).mono ?_); rintro e w2 ⟨rfl, hb2⟩; have HX2 := Lib.hid (HX1.out.below hb2 HX1.out.lt); have HB2 := Lib.hid (HB1.out.trans (hb2.mono (Nat.le_of_lt HX1.out.lt))); obtain ⟨y0, yf0⟩ := CBox.at_ HX2.out 0 _ rfl; obtain ⟨y1, yf1⟩ := CBox.at_ HX2.out 1 _ rfl; obtain ⟨y2, yf2⟩ := CBox.at_ HX2.out 2 _ rfl; obtain ⟨y3, yf3⟩ := CBox.at_ HX2.out 3 _ rfl; obtain ⟨y4, yf4⟩ := CBox.at_ HX2.out 4 _ rfl; obtain ⟨y5, yf5⟩ := CBox.at_ HX2.out 5 _ rfl; obtain ⟨y6, yf6⟩ := CBox.at_ HX2.out 6 _ rfl; obtain ⟨y7, yf7⟩ := CBox.at_ HX2.out 7 _ rfl; obtain ⟨y8, yf8⟩ := CBox.at_ HX2.out 8 _ rfl; clear hb2)
      obtain ⟨r0, r1, r2, r3, r4, r5, r6, r7, r8⟩ := ret9 (cells9 HX2.out (.int .i64 0) (.int .i64 0) (.string (bstr [])) (.int .i64 0) (.bool false) (.int .i64 0) (.int .i64 0) (.slice none 0 0) (.slice none 0 0))
      refine bodyPost_ret (v := .tuple #[.agg #[.int .i64 0, .int .i64 0, .string (bstr []), .int .i64 0, .bool false, .int .i64 0, .int .i64 0, .slice none 0 0, .slice none 0 0], .int .i64 4]) (by simp [results, Try.results11, go_sem, r0, r1, r2, r3, r4, r5, r6, r7, r8]) rfl ?_
      rw [HPE.out]
      exact retMsg_bad w _ 4 (HRB.out ▸ below9 HB2.out (Nat.le_refl _) _ _ _ _ _ _ _ _ _)
    · rw [decide_eq_true hp] at HRT
      obtain ⟨k, hk⟩ : ∃ k, (s.getD 0 0).toNat = k := ⟨_, rfl⟩
      have hpk := pdec_kind s k h8 hp hk
      obtain ⟨G, hG⟩ : ∃ G, (s.drop 4).take 4 = G := ⟨_, rfl⟩
      obtain ⟨K1, hK1⟩ : ∃ K1, s.take 1 = K1 := ⟨_, rfl⟩
      rw [hG, ← hP] at hpk
      have HPK := Lib.hid hpk
      have hK1' : K1 = [s.getD 0 0] := by rw [← hK1, take_one (by omega)]
      have HQ := Lib.hid (show ∀ c : UInt8, (K1 == [c]) = decide (k = c.toNat) from fun c => by rw [hK1', one_eq, hk])
      have HL := Lib.hid (And.intro (show 8 ≤ s.length by omega) hs)
      have HGL := Lib.hid (show G.length ≤ maxLen from by rw [← hG]; exact Nat.le_trans (List.length_take_le _ _) (by decide))
      have HGR := Lib.hid (fun W => isGroup4 G W HGL.out)
      have b17 : (⟨#[17]⟩ : ByteArray) = bstr [17] := by rw [bstr_eq]
      have b34 : (⟨#[34]⟩ : ByteArray) = bstr [34] := by rw [bstr_eq]
      have b18 : (⟨#[18]⟩ : ByteArray) = bstr [18] := by rw [bstr_eq]
      have b23 : (⟨#[23]⟩ : ByteArray) = bstr [23] := by rw [bstr_eq]
      have b22 : (⟨#[22]⟩ : ByteArray) = bstr [22] := by rw [bstr_eq]
      have q17 := HQ.out 17; have q34 := HQ.out 34; have q18 := HQ.out 18; have q23 := HQ.out 23; have q22 := HQ.out 22
      have l1 : (1 : Int) ≤ s.length := by omega
      have l8 : (8 : Int) ≤ s.length := by omega
      have l8' : 8 ≤ s.length := by omega
      have ht8 : List.take (s.length - 8) (s.drop 8) = s.drop 8 := List.take_of_length_le (by simp)
      clear hP hs hp hk hpk hK1' h8 HQ
      by_cases h17 : k = 17
      · rw [decide_eq_true (show k = (17 : UInt8).toNat from h17)] at q17
        have HPE := Lib.hid (show P = pquery s from by rw [HPK.out, if_pos h17])
        have HAK := Lib.hid (fun W => asks_any s W HL.out.1 HL.out.2)
        rw [← HPE.out] at HAK
        unfold RetMsg msgV at HAK
        obtain ⟨er, her⟩ : ∃ er, P.1 = er := ⟨_, rfl⟩
        obtain ⟨m, hm⟩ : ∃ m, P.2 = m := ⟨_, rfl⟩
        obtain ⟨mk, mv, mg, mx, mq, mr, me, ms, mrs⟩ := m
        rw [her, hm] at HAK ⊢
        clear h17 q34 q18 q23 q22 b34 b18 b23 b22 HPK her hm
        go_enter Try.func11, Try.ntmps11
        go_upto_region 1 with fail
        rw [HRB.out, HW1.out]
        go_upto_region 6 with ((with_reducible refine (HRT.out _).mono ?_); rintro e w2 ⟨rfl, hb2⟩; have HX2 := Lib.hid (HX1.out.below hb2 HX1.out.lt); have HB2 := Lib.hid (HB1.out.trans (hb2.mono (Nat.le_of_lt HX1.out.lt))); clear hb2)
        obtain ⟨W5, hW5⟩ : ∃ W5, w2.alloc (.cells #[.int .i64 2, .int .i64 2, .string (bstr G), .int .i64 0, .bool false, .int .i64 0, .int .i64 0, .slice none 0 0, .slice none 0 0] 27) = W5 := ⟨_, rfl⟩
        obtain ⟨mb, hmb⟩ : ∃ mb, w2.heap.size = mb := ⟨_, rfl⟩
        have X5 : CBox W5 mb 27 #[.int .i64 2, .int .i64 2, .string (bstr G), .int .i64 0, .bool false, .int .i64 0, .int .i64 0, .slice none 0 0, .slice none 0 0] := by rw [← hW5]; exact CBox.new _ hmb.symm
        have hb5 : Below mb w2 W5 := by rw [← hW5, ← hmb]; exact (Below.refl _ _).alloc (Nat.le_refl _) _
        rw [hW5, hmb]
        have HLT := Lib.hid (show rb < mb from hmb ▸ HX2.out.lt)
        have HX5 := Lib.hid X5
        have HXR := Lib.hid (HX2.out.below hb5 HLT.out)
        have HBR := Lib.hid (HB2.out.trans (hb5.mono (Nat.le_of_lt HLT.out)))
        clear X5 hb5 hW5 hmb HX2 HB2
        go_wp2_with ((with_reducible refine (HAK.out _).mono ?_); rintro e w6 ⟨vs, vr, rfl, hst, hli, hrw, hb6⟩; obtain ⟨so, sc, rfl⟩ := hst.shape; obtain ⟨ro, rc, rfl⟩ := hrw.shape; have HX6 := Lib.hid (HXR.out.below hb6 (Nat.lt_trans HLT.out HX5.out.lt)); have HB6 := Lib.hid (HBR.out.trans (hb6.mono (Nat.le_of_lt (Nat.lt_trans HLT.out HX5.out.lt)))); have HV6 := Lib.hid (And.intro hst (And.intro hli hrw)); obtain ⟨y0, yf0⟩ := CBox.at_ HX6.out 0 _ rfl; obtain ⟨y1, yf1⟩ := CBox.at_ HX6.out 1 _ rfl; obtain ⟨y2, yf2⟩ := CBox.at_ HX6.out 2 _ rfl; obtain ⟨y3, yf3⟩ := CBox.at_ HX6.out 3 _ rfl; obtain ⟨y4, yf4⟩ := CBox.at_ HX6.out 4 _ rfl; obtain ⟨y5, yf5⟩ := CBox.at_ HX6.out 5 _ rfl; obtain ⟨y6, yf6⟩ := CBox.at_ HX6.out 6 _ rfl; obtain ⟨y7, yf7⟩ := CBox.at_ HX6.out 7 _ rfl; obtain ⟨y8, yf8⟩ := CBox.at_ HX6.out 8 _ rfl; clear hst hli hrw hb6)
        obtain ⟨r0, r1, r2, r3, r4, r5, r6, r7, r8⟩ := ret9 (cells9 HX6.out (.int .i64 mk) (.int .i64 mv) (.string (bstr mg)) (.int .i64 mx) (.bool mq) (.int .i64 mr) (.int .i64 me) (.slice so ms.length sc) (.slice ro mrs.length rc))
        refine bodyPost_ret (v := .tuple #[.agg #[.int .i64 mk, .int .i64 mv, .string (bstr mg), .int .i64 mx, .bool mq, .int .i64 mr, .int .i64 me, .slice so ms.length sc, .slice ro mrs.length rc], .int .i64 er]) (by simp [results, Try.results11, go_sem, r0, r1, r2, r3, r4, r5, r6, r7, r8]) rfl ?_
        have hlt := Nat.lt_trans HLT.out HX5.out.lt
        exact ⟨.slice so ms.length sc, .slice ro mrs.length rc, rfl, strs9 HV6.out.1 HV6.out.2.1 hlt _ _ _ _ _ _ _ _ _, HV6.out.2.1.mono (by rw [HRB.out]; exact Nat.le_of_lt hlt), (HV6.out.2.2.far9 hlt _ _ _ _ _ _ _ _ _).mono (by rw [HRB.out]; exact Nat.le_of_lt hlt), HRB.out ▸ below9 HB6.out (Nat.le_refl _) _ _ _ _ _ _ _ _ _⟩
      · rw [decide_eq_false (show ¬ k = (17 : UInt8).toNat from h17)] at q17
        rw [if_neg h17] at HPK
        by_cases h34 : k = 34
        · rw [decide_eq_true (show k = (34 : UInt8).toNat from h34)] at q34
          rw [if_pos h34] at HPK
          obtain ⟨N, hN⟩ : ∃ N, numAt s 6 2 = N := ⟨_, rfl⟩
          have HGT := Lib.hid (fun W => num6_any s N W HL.out.1 (Nat.le_trans HL.out.2 (by decide)) hN)
          have HRC := Lib.hid (fun W => records_any (s.drop 8) N 4 W (Nat.le_trans (by rw [List.length_drop]; exact Nat.sub_le _ _) HL.out.2))
          obtain ⟨D, hD⟩ : ∃ D, D = s.drop 8 := ⟨_, rfl⟩
          rw [hN] at HPK
          rw [← hD] at HPK HRC ht8
          obtain ⟨er, her⟩ : ∃ er, (precs D N 4).1 = er := ⟨_, rfl⟩
          obtain ⟨R, hR⟩ : ∃ R, (precs D N 4).2 = R := ⟨_, rfl⟩
          rw [her, hR] at HPK HRC
          have hDs := hD.symm
          clear h17 h34 q18 q23 q22 b18 b23 b22 hN her hR hD
          by_cases h0 : er = 0
          · subst h0
            have HPE := Lib.hid (show P = (0, ⟨2, 3, [], 0, false, 0, 0, [], R⟩) from by rw [HPK.out, if_pos rfl])
            clear HPK
            go_enter Try.func11, Try.ntmps11
            go_upto_region 1 with fail
            rw [HRB.out, HW1.out]
            go_upto_region 6 with ((with_reducible refine (HRT.out _).mono ?_); rintro e w2 ⟨rfl, hb2⟩; have HX2 := Lib.hid (HX1.out.below hb2 HX1.out.lt); have HB2 := Lib.hid (HB1.out.trans (hb2.mono (Nat.le_of_lt HX1.out.lt))); clear hb2)
            obtain ⟨W5, hW5⟩ : ∃ W5, w2.alloc (.cells #[.int .i64 2, .int .i64 2, .string (bstr G), .int .i64 0, .bool false, .int .i64 0, .int .i64 0, .slice none 0 0, .slice none 0 0] 27) = W5 := ⟨_, rfl⟩
            obtain ⟨mb, hmb⟩ : ∃ mb, w2.heap.size = mb := ⟨_, rfl⟩
            have X5 : CBox W5 mb 27 #[.int .i64 2, .int .i64 2, .string (bstr G), .int .i64 0, .bool false, .int .i64 0, .int .i64 0, .slice none 0 0, .slice none 0 0] := by rw [← hW5]; exact CBox.new _ hmb.symm
            have hb5 : Below mb w2 W5 := by rw [← hW5, ← hmb]; exact (Below.refl _ _).alloc (Nat.le_refl _) _
            rw [hW5, hmb]
            have HLT := Lib.hid (show rb < mb from hmb ▸ HX2.out.lt)
            have HX5 := Lib.hid X5
            have HXR := Lib.hid (HX2.out.below hb5 HLT.out)
            have HBR := Lib.hid (HB2.out.trans (hb5.mono (Nat.le_of_lt HLT.out)))
            clear X5 hb5 hW5 hmb HX2 HB2
            go_wp2_with (first | ((with_reducible refine (HGT.out _).mono ?_); rintro e w6 ⟨rfl, hb6⟩; have HX6 := Lib.hid (HXR.out.below hb6 (Nat.lt_trans HLT.out HX5.out.lt)); have HB6 := Lib.hid (HBR.out.trans (hb6.mono (Nat.le_of_lt (Nat.lt_trans HLT.out HX5.out.lt)))); clear hb6) | ((with_reducible refine (HRC.out _).mono ?_); rintro e w7 ⟨v7, rfl, hrw, hb7⟩; obtain ⟨ro, rc, rfl⟩ := hrw.shape; have HX7 := Lib.hid (HX6.out.below hb7 HX6.out.lt); have HB7 := Lib.hid (HB6.out.trans (hb7.mono (Nat.le_of_lt HX6.out.lt))); have HR7 := Lib.hid (And.intro hrw HX6.out.lt); obtain ⟨y0, yf0⟩ := CBox.at_ HX7.out 0 _ rfl; obtain ⟨y1, yf1⟩ := CBox.at_ HX7.out 1 _ rfl; obtain ⟨y2, yf2⟩ := CBox.at_ HX7.out 2 _ rfl; obtain ⟨y3, yf3⟩ := CBox.at_ HX7.out 3 _ rfl; obtain ⟨y4, yf4⟩ := CBox.at_ HX7.out 4 _ rfl; obtain ⟨y5, yf5⟩ := CBox.at_ HX7.out 5 _ rfl; obtain ⟨y6, yf6⟩ := CBox.at_ HX7.out 6 _ rfl; obtain ⟨y7, yf7⟩ := CBox.at_ HX7.out 7 _ rfl; obtain ⟨y8, yf8⟩ := CBox.at_ HX7.out 8 _ rfl; clear hrw hb7))
            obtain ⟨r0, r1, r2, r3, r4, r5, r6, r7, r8⟩ := ret9 (cells9 HX7.out (.int .i64 2) (.int .i64 3) (.string (bstr [])) (.int .i64 0) (.bool false) (.int .i64 0) (.int .i64 0) (.slice none 0 0) (.slice ro R.length rc))
            refine bodyPost_ret (v := .tuple #[.agg #[.int .i64 2, .int .i64 3, .string (bstr []), .int .i64 0, .bool false, .int .i64 0, .int .i64 0, .slice none 0 0, .slice ro R.length rc], .int .i64 0]) (by simp [results, Try.results11, go_sem, r0, r1, r2, r3, r4, r5, r6, r7, r8]) rfl ?_
            rw [HPE.out]
            exact ⟨.slice none 0 0, .slice ro R.length rc, rfl, Strs.nil _, fun j hj => by simp [Value.ownBlock] at hj, (HR7.out.1.far9 HR7.out.2 _ _ _ _ _ _ _ _ _).mono (by rw [HRB.out]; exact Nat.le_of_lt HR7.out.2), HRB.out ▸ below9 HB7.out (Nat.le_refl _) _ _ _ _ _ _ _ _ _⟩
          · have hne : (er != 0) = true := bne_iff_ne.2 h0
            have HPE := Lib.hid (show P = (er, .zero) from by rw [HPK.out, if_neg h0])
            clear HPK h0
            go_enter Try.func11, Try.ntmps11
            go_upto_region 1 with fail
            rw [HRB.out, HW1.out]
            go_upto_region 6 with ((with_reducible refine (HRT.out _).mono ?_); rintro e w2 ⟨rfl, hb2⟩; have HX2 := Lib.hid (HX1.out.below hb2 HX1.out.lt); have HB2 := Lib.hid (HB1.out.trans (hb2.mono (Nat.le_of_lt HX1.out.lt))); clear hb2)
            obtain ⟨W5, hW5⟩ : ∃ W5, w2.alloc (.cells #[.int .i64 2, .int .i64 2, .string (bstr G), .int .i64 0, .bool false, .int .i64 0, .int .i64 0, .slice none 0 0, .slice none 0 0] 27) = W5 := ⟨_, rfl⟩
            obtain ⟨mb, hmb⟩ : ∃ mb, w2.heap.size = mb := ⟨_, rfl⟩
            have X5 : CBox W5 mb 27 #[.int .i64 2, .int .i64 2, .string (bstr G), .int .i64 0, .bool false, .int .i64 0, .int .i64 0, .slice none 0 0, .slice none 0 0] := by rw [← hW5]; exact CBox.new _ hmb.symm
            have hb5 : Below mb w2 W5 := by rw [← hW5, ← hmb]; exact (Below.refl _ _).alloc (Nat.le_refl _) _
            rw [hW5, hmb]
            have HLT := Lib.hid (show rb < mb from hmb ▸ HX2.out.lt)
            have HX5 := Lib.hid X5
            have HXR := Lib.hid (HX2.out.below hb5 HLT.out)
            have HBR := Lib.hid (HB2.out.trans (hb5.mono (Nat.le_of_lt HLT.out)))
            clear X5 hb5 hW5 hmb HX2 HB2
            go_wp2_with (first | ((with_reducible refine (HGT.out _).mono ?_); rintro e w6 ⟨rfl, hb6⟩; have HX6 := Lib.hid (HXR.out.below hb6 (Nat.lt_trans HLT.out HX5.out.lt)); have HB6 := Lib.hid (HBR.out.trans (hb6.mono (Nat.le_of_lt (Nat.lt_trans HLT.out HX5.out.lt)))); clear hb6) | ((with_reducible refine (HRC.out _).mono ?_); rintro e w7 ⟨v7, rfl, hrw, hb7⟩; obtain ⟨ro, rc, rfl⟩ := hrw.shape; have HX7 := Lib.hid (HX6.out.below hb7 HX6.out.lt); have HB7 := Lib.hid (HB6.out.trans (hb7.mono (Nat.le_of_lt HX6.out.lt))); have HR7 := Lib.hid (And.intro hrw HX6.out.lt); obtain ⟨y0, yf0⟩ := CBox.at_ HX7.out 0 _ rfl; obtain ⟨y1, yf1⟩ := CBox.at_ HX7.out 1 _ rfl; obtain ⟨y2, yf2⟩ := CBox.at_ HX7.out 2 _ rfl; obtain ⟨y3, yf3⟩ := CBox.at_ HX7.out 3 _ rfl; obtain ⟨y4, yf4⟩ := CBox.at_ HX7.out 4 _ rfl; obtain ⟨y5, yf5⟩ := CBox.at_ HX7.out 5 _ rfl; obtain ⟨y6, yf6⟩ := CBox.at_ HX7.out 6 _ rfl; obtain ⟨y7, yf7⟩ := CBox.at_ HX7.out 7 _ rfl; obtain ⟨y8, yf8⟩ := CBox.at_ HX7.out 8 _ rfl; clear hrw hb7))
            obtain ⟨r0, r1, r2, r3, r4, r5, r6, r7, r8⟩ := ret9 (cells9 HX7.out (.int .i64 0) (.int .i64 0) (.string (bstr [])) (.int .i64 0) (.bool false) (.int .i64 0) (.int .i64 0) (.slice none 0 0) (.slice none 0 0))
            refine bodyPost_ret (v := .tuple #[.agg #[.int .i64 0, .int .i64 0, .string (bstr []), .int .i64 0, .bool false, .int .i64 0, .int .i64 0, .slice none 0 0, .slice none 0 0], .int .i64 er]) (by simp [results, Try.results11, go_sem, r0, r1, r2, r3, r4, r5, r6, r7, r8]) rfl ?_
            rw [HPE.out]
            exact retMsg_bad w _ er (HRB.out ▸ below9 HB7.out (Nat.le_refl _) _ _ _ _ _ _ _ _ _)
        · rw [decide_eq_false (show ¬ k = (34 : UInt8).toNat from h34)] at q34
          rw [if_neg h34] at HPK
          by_cases h18 : k = 18
          · rw [decide_eq_true (show k = (18 : UInt8).toNat from h18)] at q18
            rw [if_neg (fun h => h.1 h18), if_neg (show ¬ k = 23 by omega), if_pos h18] at HPK
            clear h17 h34 h18 q23 q22 b23 b22
            cases hq : grp G 4
            · rw [hq] at HGR
              have HPE := Lib.hid (show P = (3, .zero) from by rw [HPK.out, if_pos hq])
              clear hq HPK
              go_enter Try.func11, Try.ntmps11
              go_upto_region 1 with fail
              rw [HRB.out, HW1.out]
              go_upto_region 6 with ((with_reducible refine (HRT.out _).mono ?_); rintro e w2 ⟨rfl, hb2⟩; have HX2 := Lib.hid (HX1.out.below hb2 HX1.out.lt); have HB2 := Lib.hid (HB1.out.trans (hb2.mono (Nat.le_of_lt HX1.out.lt))); clear hb2)
              obtain ⟨W5, hW5⟩ : ∃ W5, w2.alloc (.cells #[.int .i64 2, .int .i64 2, .string (bstr G), .int .i64 0, .bool false, .int .i64 0, .int .i64 0, .slice none 0 0, .slice none 0 0] 27) = W5 := ⟨_, rfl⟩
              obtain ⟨mb, hmb⟩ : ∃ mb, w2.heap.size = mb := ⟨_, rfl⟩
              have X5 : CBox W5 mb 27 #[.int .i64 2, .int .i64 2, .string (bstr G), .int .i64 0, .bool false, .int .i64 0, .int .i64 0, .slice none 0 0, .slice none 0 0] := by rw [← hW5]; exact CBox.new _ hmb.symm
              have hb5 : Below mb w2 W5 := by rw [← hW5, ← hmb]; exact (Below.refl _ _).alloc (Nat.le_refl _) _
              rw [hW5, hmb]
              have HLT := Lib.hid (show rb < mb from hmb ▸ HX2.out.lt)
              have HX5 := Lib.hid X5
              have HXR := Lib.hid (HX2.out.below hb5 HLT.out)
              have HBR := Lib.hid (HB2.out.trans (hb5.mono (Nat.le_of_lt HLT.out)))
              clear X5 hb5 hW5 hmb HX2 HB2
              obtain ⟨z1, zf1⟩ := HX5.out.at_ 1 _ rfl
              go_upto_region 21 with fail
              clear z1 zf1
              have HMW := Lib.hid (show CBox (W5.setCell ⟨mb, 1, none⟩ (.int .i64 1)) mb 27 #[.int .i64 2, .int .i64 1, .string (bstr G), .int .i64 0, .bool false, .int .i64 0, .int .i64 0, .slice none 0 0, .slice none 0 0] from HX5.out.set 1 (.int .i64 1))
              have HXW := Lib.hid (show CBox (W5.setCell ⟨mb, 1, none⟩ (.int .i64 1)) rb 27 mz from HXR.out.far (p := ⟨mb, 1, none⟩) (Nat.ne_of_lt HLT.out) _)
              have HBW := Lib.hid (show Below rb w (W5.setCell ⟨mb, 1, none⟩ (.int .i64 1)) from HBR.out.setCell (p := ⟨mb, 1, none⟩) (Nat.le_of_lt HLT.out) _)
              obtain ⟨W6, hW6⟩ : ∃ W6, (W5.setCell ⟨mb, 1, none⟩ (.int .i64 1)) = W6 := ⟨_, rfl⟩
              rw [hW6] at HMW HXW HBW ⊢
              clear hW6
              obtain ⟨zs, zsf⟩ := HMW.out.at_ 2 _ rfl
              go_wp2_with ((with_reducible refine (HGR.out _).mono ?_); rintro e w7 ⟨rfl, hb7⟩; have HX7 := Lib.hid (HXW.out.below hb7 HXW.out.lt); have HB7 := Lib.hid (HBW.out.trans (hb7.mono (Nat.le_of_lt HXW.out.lt))); have HM7 := Lib.hid (HMW.out.below hb7 HMW.out.lt); clear zs zsf; obtain ⟨y0, yf0⟩ := CBox.at_ HX7.out 0 _ rfl; obtain ⟨y1, yf1⟩ := CBox.at_ HX7.out 1 _ rfl; obtain ⟨y2, yf2⟩ := CBox.at_ HX7.out 2 _ rfl; obtain ⟨y3, yf3⟩ := CBox.at_ HX7.out 3 _ rfl; obtain ⟨y4, yf4⟩ := CBox.at_ HX7.out 4 _ rfl; obtain ⟨y5, yf5⟩ := CBox.at_ HX7.out 5 _ rfl; obtain ⟨y6, yf6⟩ := CBox.at_ HX7.out 6 _ rfl; obtain ⟨y7, yf7⟩ := CBox.at_ HX7.out 7 _ rfl; obtain ⟨y8, yf8⟩ := CBox.at_ HX7.out 8 _ rfl; obtain ⟨x0, xf0⟩ := CBox.at_ HM7.out 0 _ rfl; obtain ⟨x1, xf1⟩ := CBox.at_ HM7.out 1 _ rfl; obtain ⟨x2, xf2⟩ := CBox.at_ HM7.out 2 _ rfl; obtain ⟨x3, xf3⟩ := CBox.at_ HM7.out 3 _ rfl; obtain ⟨x4, xf4⟩ := CBox.at_ HM7.out 4 _ rfl; obtain ⟨x5, xf5⟩ := CBox.at_ HM7.out 5 _ rfl; obtain ⟨x6, xf6⟩ := CBox.at_ HM7.out 6 _ rfl; obtain ⟨x7, xf7⟩ := CBox.at_ HM7.out 7 _ rfl; obtain ⟨x8, xf8⟩ := CBox.at_ HM7.out 8 _ rfl; clear hb7)
              obtain ⟨r0, r1, r2, r3, r4, r5, r6, r7, r8⟩ := ret9 (cells9 HX7.out (.int .i64 0) (.int .i64 0) (.string (bstr [])) (.int .i64 0) (.bool false) (.int .i64 0) (.int .i64 0) (.slice none 0 0) (.slice none 0 0))
              refine bodyPost_ret (v := .tuple #[.agg #[.int .i64 0, .int .i64 0, .string (bstr []), .int .i64 0, .bool false, .int .i64 0, .int .i64 0, .slice none 0 0, .slice none 0 0], .int .i64 3]) (by simp [results, Try.results11, go_sem, r0, r1, r2, r3, r4, r5, r6, r7, r8]) rfl ?_
              rw [HPE.out]
              exact retMsg_bad w _ 3 (HRB.out ▸ below9 HB7.out (Nat.le_refl _) _ _ _ _ _ _ _ _ _)
            · rw [hq] at HGR
              have HPE := Lib.hid (show P = (0, ⟨2, 1, G, 0, false, 0, 0, [], []⟩) from by rw [HPK.out, if_neg (by rw [hq]; decide)])
              clear hq HPK
              go_enter Try.func11, Try.ntmps11
              go_upto_region 1 with fail
              rw [HRB.out, HW1.out]
              go_upto_region 6 with ((with_reducible refine (HRT.out _).mono ?_); rintro e w2 ⟨rfl, hb2⟩; have HX2 := Lib.hid (HX1.out.below hb2 HX1.out.lt); have HB2 := Lib.hid (HB1.out.trans (hb2.mono (Nat.le_of_lt HX1.out.lt))); clear hb2)
              obtain ⟨W5, hW5⟩ : ∃ W5, w2.alloc (.cells #[.int .i64 2, .int .i64 2, .string (bstr G), .int .i64 0, .bool false, .int .i64 0, .int .i64 0, .slice none 0 0, .slice none 0 0] 27) = W5 := ⟨_, rfl⟩
              obtain ⟨mb, hmb⟩ : ∃ mb, w2.heap.size = mb := ⟨_, rfl⟩
              have X5 : CBox W5 mb 27 #[.int .i64 2, .int .i64 2, .string (bstr G), .int .i64 0, .bool false, .int .i64 0, .int .i64 0, .slice none 0 0, .slice none 0 0] := by rw [← hW5]; exact CBox.new _ hmb.symm
              have hb5 : Below mb w2 W5 := by rw [← hW5, ← hmb]; exact (Below.refl _ _).alloc (Nat.le_refl _) _
              rw [hW5, hmb]
              have HLT := Lib.hid (show rb < mb from hmb ▸ HX2.out.lt)
              have HX5 := Lib.hid X5
              have HXR := Lib.hid (HX2.out.below hb5 HLT.out)
              have HBR := Lib.hid (HB2.out.trans (hb5.mono (Nat.le_of_lt HLT.out)))
              clear X5 hb5 hW5 hmb HX2 HB2
              obtain ⟨z1, zf1⟩ := HX5.out.at_ 1 _ rfl
              go_upto_region 21 with fail
              clear z1 zf1
              have HMW := Lib.hid (show CBox (W5.setCell ⟨mb, 1, none⟩ (.int .i64 1)) mb 27 #[.int .i64 2, .int .i64 1, .string (bstr G), .int .i64 0, .bool false, .int .i64 0, .int .i64 0, .slice none 0 0, .slice none 0 0] from HX5.out.set 1 (.int .i64 1))
              have HXW := Lib.hid (show CBox (W5.setCell ⟨mb, 1, none⟩ (.int .i64 1)) rb 27 mz from HXR.out.far (p := ⟨mb, 1, none⟩) (Nat.ne_of_lt HLT.out) _)
              have HBW := Lib.hid (show Below rb w (W5.setCell ⟨mb, 1, none⟩ (.int .i64 1)) from HBR.out.setCell (p := ⟨mb, 1, none⟩) (Nat.le_of_lt HLT.out) _)
              obtain ⟨W6, hW6⟩ : ∃ W6, (W5.setCell ⟨mb, 1, none⟩ (.int .i64 1)) = W6 := ⟨_, rfl⟩
              rw [hW6] at HMW HXW HBW ⊢
              clear hW6
              obtain ⟨zs, zsf⟩ := HMW.out.at_ 2 _ rfl
              go_wp2_with ((with_reducible refine (HGR.out _).mono ?_); rintro e w7 ⟨rfl, hb7⟩; have HX7 := Lib.hid (HXW.out.below hb7 HXW.out.lt); have HB7 := Lib.hid (HBW.out.trans (hb7.mono (Nat.le_of_lt HXW.out.lt))); have HM7 := Lib.hid (HMW.out.below hb7 HMW.out.lt); clear zs zsf; obtain ⟨y0, yf0⟩ := CBox.at_ HX7.out 0 _ rfl; obtain ⟨y1, yf1⟩ := CBox.at_ HX7.out 1 _ rfl; obtain ⟨y2, yf2⟩ := CBox.at_ HX7.out 2 _ rfl; obtain ⟨y3, yf3⟩ := CBox.at_ HX7.out 3 _ rfl; obtain ⟨y4, yf4⟩ := CBox.at_ HX7.out 4 _ rfl; obtain ⟨y5, yf5⟩ := CBox.at_ HX7.out 5 _ rfl; obtain ⟨y6, yf6⟩ := CBox.at_ HX7.out 6 _ rfl; obtain ⟨y7, yf7⟩ := CBox.at_ HX7.out 7 _ rfl; obtain ⟨y8, yf8⟩ := CBox.at_ HX7.out 8 _ rfl; obtain ⟨x0, xf0⟩ := CBox.at_ HM7.out 0 _ rfl; obtain ⟨x1, xf1⟩ := CBox.at_ HM7.out 1 _ rfl; obtain ⟨x2, xf2⟩ := CBox.at_ HM7.out 2 _ rfl; obtain ⟨x3, xf3⟩ := CBox.at_ HM7.out 3 _ rfl; obtain ⟨x4, xf4⟩ := CBox.at_ HM7.out 4 _ rfl; obtain ⟨x5, xf5⟩ := CBox.at_ HM7.out 5 _ rfl; obtain ⟨x6, xf6⟩ := CBox.at_ HM7.out 6 _ rfl; obtain ⟨x7, xf7⟩ := CBox.at_ HM7.out 7 _ rfl; obtain ⟨x8, xf8⟩ := CBox.at_ HM7.out 8 _ rfl; clear hb7)
              obtain ⟨r0, r1, r2, r3, r4, r5, r6, r7, r8⟩ := ret9 (cells9 HX7.out (.int .i64 2) (.int .i64 1) (.string (bstr G)) (.int .i64 0) (.bool false) (.int .i64 0) (.int .i64 0) (.slice none 0 0) (.slice none 0 0))
              refine bodyPost_ret (v := .tuple #[.agg #[.int .i64 2, .int .i64 1, .string (bstr G), .int .i64 0, .bool false, .int .i64 0, .int .i64 0, .slice none 0 0, .slice none 0 0], .int .i64 0]) (by simp [results, Try.results11, go_sem, r0, r1, r2, r3, r4, r5, r6, r7, r8]) rfl ?_
              rw [HPE.out]
              exact ⟨.slice none 0 0, .slice none 0 0, rfl, Strs.nil _, fun j hj => by simp [Value.ownBlock] at hj, Row.nil _ _, HRB.out ▸ below9 HB7.out (Nat.le_refl _) _ _ _ _ _ _ _ _ _⟩
          · rw [decide_eq_false (show ¬ k = (18 : UInt8).toNat from h18)] at q18
            by_cases h23 : k = 23
            · rw [decide_eq_true (show k = (23 : UInt8).toNat from h23)] at q23
              rw [if_neg (fun h => h.2.2 h23), if_pos h23, if_neg h18] at HPK
              clear h17 h34 h18 h23 q22 b22
              cases hq : grp G 4
              · rw [hq] at HGR
                have HPE := Lib.hid (show P = (3, .zero) from by rw [HPK.out, if_pos hq])
                clear hq HPK
                go_enter Try.func11, Try.ntmps11
                go_upto_region 1 with fail
                rw [HRB.out, HW1.out]
                go_upto_region 6 with ((with_reducible refine (HRT.out _).mono ?_); rintro e w2 ⟨rfl, hb2⟩; have HX2 := Lib.hid (HX1.out.below hb2 HX1.out.lt); have HB2 := Lib.hid (HB1.out.trans (hb2.mono (Nat.le_of_lt HX1.out.lt))); clear hb2)
                obtain ⟨W5, hW5⟩ : ∃ W5, w2.alloc (.cells #[.int .i64 2, .int .i64 2, .string (bstr G), .int .i64 0, .bool false, .int .i64 0, .int .i64 0, .slice none 0 0, .slice none 0 0] 27) = W5 := ⟨_, rfl⟩
                obtain ⟨mb, hmb⟩ : ∃ mb, w2.heap.size = mb := ⟨_, rfl⟩
                have X5 : CBox W5 mb 27 #[.int .i64 2, .int .i64 2, .string (bstr G), .int .i64 0, .bool false, .int .i64 0, .int .i64 0, .slice none 0 0, .slice none 0 0] := by rw [← hW5]; exact CBox.new _ hmb.symm
                have hb5 : Below mb w2 W5 := by rw [← hW5, ← hmb]; exact (Below.refl _ _).alloc (Nat.le_refl _) _
                rw [hW5, hmb]
                have HLT := Lib.hid (show rb < mb from hmb ▸ HX2.out.lt)
                have HX5 := Lib.hid X5
                have HXR := Lib.hid (HX2.out.below hb5 HLT.out)
                have HBR := Lib.hid (HB2.out.trans (hb5.mono (Nat.le_of_lt HLT.out)))
                clear X5 hb5 hW5 hmb HX2 HB2
                obtain ⟨z0, zf0⟩ := HX5.out.at_ 0 _ rfl
                go_upto_region 21 with fail
                clear z0 zf0
                have HMW := Lib.hid (show CBox (W5.setCell ⟨mb, 0, none⟩ (.int .i64 3)) mb 27 #[.int .i64 3, .int .i64 2, .string (bstr G), .int .i64 0, .bool false, .int .i64 0, .int .i64 0, .slice none 0 0, .slice none 0 0] from HX5.out.set 0 (.int .i64 3))
                have HXW := Lib.hid (show CBox (W5.setCell ⟨mb, 0, none⟩ (.int .i64 3)) rb 27 mz from HXR.out.far (p := ⟨mb, 0, none⟩) (Nat.ne_of_lt HLT.out) _)
                have HBW := Lib.hid (show Below rb w (W5.setCell ⟨mb, 0, none⟩ (.int .i64 3)) from HBR.out.setCell (p := ⟨mb, 0, none⟩) (Nat.le_of_lt HLT.out) _)
                obtain ⟨W6, hW6⟩ : ∃ W6, (W5.setCell ⟨mb, 0, none⟩ (.int .i64 3)) = W6 := ⟨_, rfl⟩
                rw [hW6] at HMW HXW HBW ⊢
                clear hW6
                obtain ⟨zs, zsf⟩ := HMW.out.at_ 2 _ rfl
                go_wp2_with ((with_reducible refine (HGR.out _).mono ?_); rintro e w7 ⟨rfl, hb7⟩; have HX7 := Lib.hid (HXW.out.below hb7 HXW.out.lt); have HB7 := Lib.hid (HBW.out.trans (hb7.mono (Nat.le_of_lt HXW.out.lt))); have HM7 := Lib.hid (HMW.out.below hb7 HMW.out.lt); clear zs zsf; obtain ⟨y0, yf0⟩ := CBox.at_ HX7.out 0 _ rfl; obtain ⟨y1, yf1⟩ := CBox.at_ HX7.out 1 _ rfl; obtain ⟨y2, yf2⟩ := CBox.at_ HX7.out 2 _ rfl; obtain ⟨y3, yf3⟩ := CBox.at_ HX7.out 3 _ rfl; obtain ⟨y4, yf4⟩ := CBox.at_ HX7.out 4 _ rfl; obtain ⟨y5, yf5⟩ := CBox.at_ HX7.out 5 _ rfl; obtain ⟨y6, yf6⟩ := CBox.at_ HX7.out 6 _ rfl; obtain ⟨y7, yf7⟩ := CBox.at_ HX7.out 7 _ rfl; obtain ⟨y8, yf8⟩ := CBox.at_ HX7.out 8 _ rfl; obtain ⟨x0, xf0⟩ := CBox.at_ HM7.out 0 _ rfl; obtain ⟨x1, xf1⟩ := CBox.at_ HM7.out 1 _ rfl; obtain ⟨x2, xf2⟩ := CBox.at_ HM7.out 2 _ rfl; obtain ⟨x3, xf3⟩ := CBox.at_ HM7.out 3 _ rfl; obtain ⟨x4, xf4⟩ := CBox.at_ HM7.out 4 _ rfl; obtain ⟨x5, xf5⟩ := CBox.at_ HM7.out 5 _ rfl; obtain ⟨x6, xf6⟩ := CBox.at_ HM7.out 6 _ rfl; obtain ⟨x7, xf7⟩ := CBox.at_ HM7.out 7 _ rfl; obtain ⟨x8, xf8⟩ := CBox.at_ HM7.out 8 _ rfl; clear hb7)
                obtain ⟨r0, r1, r2, r3, r4, r5, r6, r7, r8⟩ := ret9 (cells9 HX7.out (.int .i64 0) (.int .i64 0) (.string (bstr [])) (.int .i64 0) (.bool false) (.int .i64 0) (.int .i64 0) (.slice none 0 0) (.slice none 0 0))
                refine bodyPost_ret (v := .tuple #[.agg #[.int .i64 0, .int .i64 0, .string (bstr []), .int .i64 0, .bool false, .int .i64 0, .int .i64 0, .slice none 0 0, .slice none 0 0], .int .i64 3]) (by simp [results, Try.results11, go_sem, r0, r1, r2, r3, r4, r5, r6, r7, r8]) rfl ?_
                rw [HPE.out]
                exact retMsg_bad w _ 3 (HRB.out ▸ below9 HB7.out (Nat.le_refl _) _ _ _ _ _ _ _ _ _)
              · rw [hq] at HGR
                have HPE := Lib.hid (show P = (0, ⟨3, 2, G, 0, false, 0, 0, [], []⟩) from by rw [HPK.out, if_neg (by rw [hq]; decide)])
                clear hq HPK
                go_enter Try.func11, Try.ntmps11
                go_upto_region 1 with fail
                rw [HRB.out, HW1.out]
                go_upto_region 6 with ((with_reducible refine (HRT.out _).mono ?_); rintro e w2 ⟨rfl, hb2⟩; have HX2 := Lib.hid (HX1.out.below hb2 HX1.out.lt); have HB2 := Lib.hid (HB1.out.trans (hb2.mono (Nat.le_of_lt HX1.out.lt))); clear hb2)
                obtain ⟨W5, hW5⟩ : ∃ W5, w2.alloc (.cells #[.int .i64 2, .int .i64 2, .string (bstr G), .int .i64 0, .bool false, .int .i64 0, .int .i64 0, .slice none 0 0, .slice none 0 0] 27) = W5 := ⟨_, rfl⟩
                obtain ⟨mb, hmb⟩ : ∃ mb, w2.heap.size = mb := ⟨_, rfl⟩
                have X5 : CBox W5 mb 27 #[.int .i64 2, .int .i64 2, .string (bstr G), .int .i64 0, .bool false, .int .i64 0, .int .i64 0, .slice none 0 0, .slice none 0 0] := by rw [← hW5]; exact CBox.new _ hmb.symm
                have hb5 : Below mb w2 W5 := by rw [← hW5, ← hmb]; exact (Below.refl _ _).alloc (Nat.le_refl _) _
                rw [hW5, hmb]
                have HLT := Lib.hid (show rb < mb from hmb ▸ HX2.out.lt)
                have HX5 := Lib.hid X5
                have HXR := Lib.hid (HX2.out.below hb5 HLT.out)
                have HBR := Lib.hid (HB2.out.trans (hb5.mono (Nat.le_of_lt HLT.out)))
                clear X5 hb5 hW5 hmb HX2 HB2
                obtain ⟨z0, zf0⟩ := HX5.out.at_ 0 _ rfl
                go_upto_region 21 with fail
                clear z0 zf0
                have HMW := Lib.hid (show CBox (W5.setCell ⟨mb, 0, none⟩ (.int .i64 3)) mb 27 #[.int .i64 3, .int .i64 2, .string (bstr G), .int .i64 0, .bool false, .int .i64 0, .int .i64 0, .slice none 0 0, .slice none 0 0] from HX5.out.set 0 (.int .i64 3))
                have HXW := Lib.hid (show CBox (W5.setCell ⟨mb, 0, none⟩ (.int .i64 3)) rb 27 mz from HXR.out.far (p := ⟨mb, 0, none⟩) (Nat.ne_of_lt HLT.out) _)
                have HBW := Lib.hid (show Below rb w (W5.setCell ⟨mb, 0, none⟩ (.int .i64 3)) from HBR.out.setCell (p := ⟨mb, 0, none⟩) (Nat.le_of_lt HLT.out) _)
                obtain ⟨W6, hW6⟩ : ∃ W6, (W5.setCell ⟨mb, 0, none⟩ (.int .i64 3)) = W6 := ⟨_, rfl⟩
                rw [hW6] at HMW HXW HBW ⊢
                clear hW6
                obtain ⟨zs, zsf⟩ := HMW.out.at_ 2 _ rfl
                go_wp2_with ((with_reducible refine (HGR.out _).mono ?_); rintro e w7 ⟨rfl, hb7⟩; have HX7 := Lib.hid (HXW.out.below hb7 HXW.out.lt); have HB7 := Lib.hid (HBW.out.trans (hb7.mono (Nat.le_of_lt HXW.out.lt))); have HM7 := Lib.hid (HMW.out.below hb7 HMW.out.lt); clear zs zsf; obtain ⟨y0, yf0⟩ := CBox.at_ HX7.out 0 _ rfl; obtain ⟨y1, yf1⟩ := CBox.at_ HX7.out 1 _ rfl; obtain ⟨y2, yf2⟩ := CBox.at_ HX7.out 2 _ rfl; obtain ⟨y3, yf3⟩ := CBox.at_ HX7.out 3 _ rfl; obtain ⟨y4, yf4⟩ := CBox.at_ HX7.out 4 _ rfl; obtain ⟨y5, yf5⟩ := CBox.at_ HX7.out 5 _ rfl; obtain ⟨y6, yf6⟩ := CBox.at_ HX7.out 6 _ rfl; obtain ⟨y7, yf7⟩ := CBox.at_ HX7.out 7 _ rfl; obtain ⟨y8, yf8⟩ := CBox.at_ HX7.out 8 _ rfl; obtain ⟨x0, xf0⟩ := CBox.at_ HM7.out 0 _ rfl; obtain ⟨x1, xf1⟩ := CBox.at_ HM7.out 1 _ rfl; obtain ⟨x2, xf2⟩ := CBox.at_ HM7.out 2 _ rfl; obtain ⟨x3, xf3⟩ := CBox.at_ HM7.out 3 _ rfl; obtain ⟨x4, xf4⟩ := CBox.at_ HM7.out 4 _ rfl; obtain ⟨x5, xf5⟩ := CBox.at_ HM7.out 5 _ rfl; obtain ⟨x6, xf6⟩ := CBox.at_ HM7.out 6 _ rfl; obtain ⟨x7, xf7⟩ := CBox.at_ HM7.out 7 _ rfl; obtain ⟨x8, xf8⟩ := CBox.at_ HM7.out 8 _ rfl; clear hb7)
                obtain ⟨r0, r1, r2, r3, r4, r5, r6, r7, r8⟩ := ret9 (cells9 HX7.out (.int .i64 3) (.int .i64 2) (.string (bstr G)) (.int .i64 0) (.bool false) (.int .i64 0) (.int .i64 0) (.slice none 0 0) (.slice none 0 0))
                refine bodyPost_ret (v := .tuple #[.agg #[.int .i64 3, .int .i64 2, .string (bstr G), .int .i64 0, .bool false, .int .i64 0, .int .i64 0, .slice none 0 0, .slice none 0 0], .int .i64 0]) (by simp [results, Try.results11, go_sem, r0, r1, r2, r3, r4, r5, r6, r7, r8]) rfl ?_
                rw [HPE.out]
                exact ⟨.slice none 0 0, .slice none 0 0, rfl, Strs.nil _, fun j hj => by simp [Value.ownBlock] at hj, Row.nil _ _, HRB.out ▸ below9 HB7.out (Nat.le_refl _) _ _ _ _ _ _ _ _ _⟩
            · rw [decide_eq_false (show ¬ k = (23 : UInt8).toNat from h23)] at q23
              by_cases h22 : k = 22
              · rw [decide_eq_true (show k = (22 : UInt8).toNat from h22)] at q22
                rw [if_neg (fun h => h.2.1 h22), if_neg h23, if_neg h18] at HPK
                clear h17 h34 h18 h23 h22
                cases hq : grp G 4
                · rw [hq] at HGR
                  have HPE := Lib.hid (show P = (3, .zero) from by rw [HPK.out, if_pos hq])
                  clear hq HPK
                  go_enter Try.func11, Try.ntmps11
                  go_upto_region 1 with fail
                  rw [HRB.out, HW1.out]
                  go_upto_region 6 with ((with_reducible refine (HRT.out _).mono ?_); rintro e w2 ⟨rfl, hb2⟩; have HX2 := Lib.hid (HX1.out.below hb2 HX1.out.lt); have HB2 := Lib.hid (HB1.out.trans (hb2.mono (Nat.le_of_lt HX1.out.lt))); clear hb2)
                  obtain ⟨W5, hW5⟩ : ∃ W5, w2.alloc (.cells #[.int .i64 2, .int .i64 2, .string (bstr G), .int .i64 0, .bool false, .int .i64 0, .int .i64 0, .slice none 0 0, .slice none 0 0] 27) = W5 := ⟨_, rfl⟩
                  obtain ⟨mb, hmb⟩ : ∃ mb, w2.heap.size = mb := ⟨_, rfl⟩
                  have X5 : CBox W5 mb 27 #[.int .i64 2, .int .i64 2, .string (bstr G), .int .i64 0, .bool false, .int .i64 0, .int .i64 0, .slice none 0 0, .slice none 0 0] := by rw [← hW5]; exact CBox.new _ hmb.symm
                  have hb5 : Below mb w2 W5 := by rw [← hW5, ← hmb]; exact (Below.refl _ _).alloc (Nat.le_refl _) _
                  rw [hW5, hmb]
                  have HLT := Lib.hid (show rb < mb from hmb ▸ HX2.out.lt)
                  have HX5 := Lib.hid X5
                  have HXR := Lib.hid (HX2.out.below hb5 HLT.out)
                  have HBR := Lib.hid (HB2.out.trans (hb5.mono (Nat.le_of_lt HLT.out)))
                  clear X5 hb5 hW5 hmb HX2 HB2
                  go_upto_region 21 with fail
                  have HMW := Lib.hid (show CBox W5 mb 27 #[.int .i64 2, .int .i64 2, .string (bstr G), .int .i64 0, .bool false, .int .i64 0, .int .i64 0, .slice none 0 0, .slice none 0 0] from HX5.out)
                  have HXW := Lib.hid (show CBox W5 rb 27 mz from HXR.out)
                  have HBW := Lib.hid (show Below rb w W5 from HBR.out)
                  obtain ⟨zs, zsf⟩ := HMW.out.at_ 2 _ rfl
                  go_wp2_with ((with_reducible refine (HGR.out _).mono ?_); rintro e w7 ⟨rfl, hb7⟩; have HX7 := Lib.hid (HXW.out.below hb7 HXW.out.lt); have HB7 := Lib.hid (HBW.out.trans (hb7.mono (Nat.le_of_lt HXW.out.lt))); have HM7 := Lib.hid (HMW.out.below hb7 HMW.out.lt); clear zs zsf; obtain ⟨y0, yf0⟩ := CBox.at_ HX7.out 0 _ rfl; obtain ⟨y1, yf1⟩ := CBox.at_ HX7.out 1 _ rfl; obtain ⟨y2, yf2⟩ := CBox.at_ HX7.out 2 _ rfl; obtain ⟨y3, yf3⟩ := CBox.at_ HX7.out 3 _ rfl; obtain ⟨y4, yf4⟩ := CBox.at_ HX7.out 4 _ rfl; obtain ⟨y5, yf5⟩ := CBox.at_ HX7.out 5 _ rfl; obtain ⟨y6, yf6⟩ := CBox.at_ HX7.out 6 _ rfl; obtain ⟨y7, yf7⟩ := CBox.at_ HX7.out 7 _ rfl; obtain ⟨y8, yf8⟩ := CBox.at_ HX7.out 8 _ rfl; obtain ⟨x0, xf0⟩ := CBox.at_ HM7.out 0 _ rfl; obtain ⟨x1, xf1⟩ := CBox.at_ HM7.out 1 _ rfl; obtain ⟨x2, xf2⟩ := CBox.at_ HM7.out 2 _ rfl; obtain ⟨x3, xf3⟩ := CBox.at_ HM7.out 3 _ rfl; obtain ⟨x4, xf4⟩ := CBox.at_ HM7.out 4 _ rfl; obtain ⟨x5, xf5⟩ := CBox.at_ HM7.out 5 _ rfl; obtain ⟨x6, xf6⟩ := CBox.at_ HM7.out 6 _ rfl; obtain ⟨x7, xf7⟩ := CBox.at_ HM7.out 7 _ rfl; obtain ⟨x8, xf8⟩ := CBox.at_ HM7.out 8 _ rfl; clear hb7)
                  obtain ⟨r0, r1, r2, r3, r4, r5, r6, r7, r8⟩ := ret9 (cells9 HX7.out (.int .i64 0) (.int .i64 0) (.string (bstr [])) (.int .i64 0) (.bool false) (.int .i64 0) (.int .i64 0) (.slice none 0 0) (.slice none 0 0))
                  refine bodyPost_ret (v := .tuple #[.agg #[.int .i64 0, .int .i64 0, .string (bstr []), .int .i64 0, .bool false, .int .i64 0, .int .i64 0, .slice none 0 0, .slice none 0 0], .int .i64 3]) (by simp [results, Try.results11, go_sem, r0, r1, r2, r3, r4, r5, r6, r7, r8]) rfl ?_
                  rw [HPE.out]
                  exact retMsg_bad w _ 3 (HRB.out ▸ below9 HB7.out (Nat.le_refl _) _ _ _ _ _ _ _ _ _)
                · rw [hq] at HGR
                  have HPE := Lib.hid (show P = (0, ⟨2, 2, G, 0, false, 0, 0, [], []⟩) from by rw [HPK.out, if_neg (by rw [hq]; decide)])
                  clear hq HPK
                  go_enter Try.func11, Try.ntmps11
                  go_upto_region 1 with fail
                  rw [HRB.out, HW1.out]
                  go_upto_region 6 with ((with_reducible refine (HRT.out _).mono ?_); rintro e w2 ⟨rfl, hb2⟩; have HX2 := Lib.hid (HX1.out.below hb2 HX1.out.lt); have HB2 := Lib.hid (HB1.out.trans (hb2.mono (Nat.le_of_lt HX1.out.lt))); clear hb2)
                  obtain ⟨W5, hW5⟩ : ∃ W5, w2.alloc (.cells #[.int .i64 2, .int .i64 2, .string (bstr G), .int .i64 0, .bool false, .int .i64 0, .int .i64 0, .slice none 0 0, .slice none 0 0] 27) = W5 := ⟨_, rfl⟩
                  obtain ⟨mb, hmb⟩ : ∃ mb, w2.heap.size = mb := ⟨_, rfl⟩
                  have X5 : CBox W5 mb 27 #[.int .i64 2, .int .i64 2, .string (bstr G), .int .i64 0, .bool false, .int .i64 0, .int .i64 0, .slice none 0 0, .slice none 0 0] := by rw [← hW5]; exact CBox.new _ hmb.symm
                  have hb5 : Below mb w2 W5 := by rw [← hW5, ← hmb]; exact (Below.refl _ _).alloc (Nat.le_refl _) _
                  rw [hW5, hmb]
                  have HLT := Lib.hid (show rb < mb from hmb ▸ HX2.out.lt)
                  have HX5 := Lib.hid X5
                  have HXR := Lib.hid (HX2.out.below hb5 HLT.out)
                  have HBR := Lib.hid (HB2.out.trans (hb5.mono (Nat.le_of_lt HLT.out)))
                  clear X5 hb5 hW5 hmb HX2 HB2
                  go_upto_region 21 with fail
                  have HMW := Lib.hid (show CBox W5 mb 27 #[.int .i64 2, .int .i64 2, .string (bstr G), .int .i64 0, .bool false, .int .i64 0, .int .i64 0, .slice none 0 0, .slice none 0 0] from HX5.out)
                  have HXW := Lib.hid (show CBox W5 rb 27 mz from HXR.out)
                  have HBW := Lib.hid (show Below rb w W5 from HBR.out)
                  obtain ⟨zs, zsf⟩ := HMW.out.at_ 2 _ rfl
                  go_wp2_with ((with_reducible refine (HGR.out _).mono ?_); rintro e w7 ⟨rfl, hb7⟩; have HX7 := Lib.hid (HXW.out.below hb7 HXW.out.lt); have HB7 := Lib.hid (HBW.out.trans (hb7.mono (Nat.le_of_lt HXW.out.lt))); have HM7 := Lib.hid (HMW.out.below hb7 HMW.out.lt); clear zs zsf; obtain ⟨y0, yf0⟩ := CBox.at_ HX7.out 0 _ rfl; obtain ⟨y1, yf1⟩ := CBox.at_ HX7.out 1 _ rfl; obtain ⟨y2, yf2⟩ := CBox.at_ HX7.out 2 _ rfl; obtain ⟨y3, yf3⟩ := CBox.at_ HX7.out 3 _ rfl; obtain ⟨y4, yf4⟩ := CBox.at_ HX7.out 4 _ rfl; obtain ⟨y5, yf5⟩ := CBox.at_ HX7.out 5 _ rfl; obtain ⟨y6, yf6⟩ := CBox.at_ HX7.out 6 _ rfl; obtain ⟨y7, yf7⟩ := CBox.at_ HX7.out 7 _ rfl; obtain ⟨y8, yf8⟩ := CBox.at_ HX7.out 8 _ rfl; obtain ⟨x0, xf0⟩ := CBox.at_ HM7.out 0 _ rfl; obtain ⟨x1, xf1⟩ := CBox.at_ HM7.out 1 _ rfl; obtain ⟨x2, xf2⟩ := CBox.at_ HM7.out 2 _ rfl; obtain ⟨x3, xf3⟩ := CBox.at_ HM7.out 3 _ rfl; obtain ⟨x4, xf4⟩ := CBox.at_ HM7.out 4 _ rfl; obtain ⟨x5, xf5⟩ := CBox.at_ HM7.out 5 _ rfl; obtain ⟨x6, xf6⟩ := CBox.at_ HM7.out 6 _ rfl; obtain ⟨x7, xf7⟩ := CBox.at_ HM7.out 7 _ rfl; obtain ⟨x8, xf8⟩ := CBox.at_ HM7.out 8 _ rfl; clear hb7)
                  obtain ⟨r0, r1, r2, r3, r4, r5, r6, r7, r8⟩ := ret9 (cells9 HX7.out (.int .i64 2) (.int .i64 2) (.string (bstr G)) (.int .i64 0) (.bool false) (.int .i64 0) (.int .i64 0) (.slice none 0 0) (.slice none 0 0))
                  refine bodyPost_ret (v := .tuple #[.agg #[.int .i64 2, .int .i64 2, .string (bstr G), .int .i64 0, .bool false, .int .i64 0, .int .i64 0, .slice none 0 0, .slice none 0 0], .int .i64 0]) (by simp [results, Try.results11, go_sem, r0, r1, r2, r3, r4, r5, r6, r7, r8]) rfl ?_
                  rw [HPE.out]
                  exact ⟨.slice none 0 0, .slice none 0 0, rfl, Strs.nil _, fun j hj => by simp [Value.ownBlock] at hj, Row.nil _ _, HRB.out ▸ below9 HB7.out (Nat.le_refl _) _ _ _ _ _ _ _ _ _⟩
              · rw [decide_eq_false (show ¬ k = (22 : UInt8).toNat from h22)] at q22
                have HPE := Lib.hid (show P = (3, .zero) from by rw [HPK.out, if_pos ⟨h18, h22, h23⟩])
                clear h17 h34 h18 h23 h22 HPK
                go_enter Try.func11, Try.ntmps11
                go_upto_region 1 with fail
                rw [HRB.out, HW1.out]
                go_upto_region 6 with ((with_reducible refine (HRT.out _).mono ?_); rintro e w2 ⟨rfl, hb2⟩; have HX2 := Lib.hid (HX1.out.below hb2 HX1.out.lt); have HB2 := Lib.hid (HB1.out.trans (hb2.mono (Nat.le_of_lt HX1.out.lt))); clear hb2)
                obtain ⟨W5, hW5⟩ : ∃ W5, w2.alloc (.cells #[.int .i64 2, .int .i64 2, .string (bstr G), .int .i64 0, .bool false, .int .i64 0, .int .i64 0, .slice none 0 0, .slice none 0 0] 27) = W5 := ⟨_, rfl⟩
                obtain ⟨mb, hmb⟩ : ∃ mb, w2.heap.size = mb := ⟨_, rfl⟩
                have X5 : CBox W5 mb 27 #[.int .i64 2, .int .i64 2, .string (bstr G), .int .i64 0, .bool false, .int .i64 0, .int .i64 0, .slice none 0 0, .slice none 0 0] := by rw [← hW5]; exact CBox.new _ hmb.symm
                have hb5 : Below mb w2 W5 := by rw [← hW5, ← hmb]; exact (Below.refl _ _).alloc (Nat.le_refl _) _
                rw [hW5, hmb]
                have HLT := Lib.hid (show rb < mb from hmb ▸ HX2.out.lt)
                have HX5 := Lib.hid X5
                have HXR := Lib.hid (HX2.out.below hb5 HLT.out)
                have HBR := Lib.hid (HB2.out.trans (hb5.mono (Nat.le_of_lt HLT.out)))
                clear X5 hb5 hW5 hmb HX2 HB2
                obtain ⟨y0, yf0⟩ := CBox.at_ HXR.out 0 _ rfl
                obtain ⟨y1, yf1⟩ := CBox.at_ HXR.out 1 _ rfl
                obtain ⟨y2, yf2⟩ := CBox.at_ HXR.out 2 _ rfl
                obtain ⟨y3, yf3⟩ := CBox.at_ HXR.out 3 _ rfl
                obtain ⟨y4, yf4⟩ := CBox.at_ HXR.out 4 _ rfl
                obtain ⟨y5, yf5⟩ := CBox.at_ HXR.out 5 _ rfl
                obtain ⟨y6, yf6⟩ := CBox.at_ HXR.out 6 _ rfl
                obtain ⟨y7, yf7⟩ := CBox.at_ HXR.out 7 _ rfl
                obtain ⟨y8, yf8⟩ := CBox.at_ HXR.out 8 _ rfl
                go_wp2_with fail
                obtain ⟨r0, r1, r2, r3, r4, r5, r6, r7, r8⟩ := ret9 (cells9 HXR.out (.int .i64 0) (.int .i64 0) (.string (bstr [])) (.int .i64 0) (.bool false) (.int .i64 0) (.int .i64 0) (.slice none 0 0) (.slice none 0 0))
                refine bodyPost_ret (v := .tuple #[.agg #[.int .i64 0, .int .i64 0, .string (bstr []), .int .i64 0, .bool false, .int .i64 0, .int .i64 0, .slice none 0 0, .slice none 0 0], .int .i64 3]) (by simp [results, Try.results11, go_sem, r0, r1, r2, r3, r4, r5, r6, r7, r8]) rfl ?_
                rw [HPE.out]
                exact retMsg_bad w _ 3 (HRB.out ▸ below9 HBR.out (Nat.le_refl _) _ _ _ _ _ _ _ _ _)
end Go.Proofs.Ythkogdgfkhhleaa
