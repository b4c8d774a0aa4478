/- Texts joined into one file: MLawDec. -/
import Derived.Test.YthkibgdeibolfaaQ29

/- The walk of MldDecodes. -/
namespace Go.Proofs.Ythkibgdeibolfaa
open Go.RowKit Go.Sort
set_option maxRecDepth 20000
set_option maxRecDepth 20000
attribute [local go_sem] bstr_size bstr_extract bstr_toList bstr_get

set_option maxHeartbeats 4000000 in
theorem law_mdec (A B s : Str) (w : World) : Calls Try.prog 3 #[.agg #[.string (bstr A), .string (bstr B)], .string (bstr s)] w (YesB w) := by
  have HLV := Lib.hid live9_yes
  obtain ⟨b1, hb1⟩ : ∃ b, w.heap.size = b := ⟨_, rfl⟩
  obtain ⟨W1, hW1⟩ : ∃ W1, w.alloc (.cells #[.string (bstr A), .string (bstr B)] 24) = W1 := ⟨_, rfl⟩
  have k1 : Below w.heap.size w W1 := by rw [← hW1]; exact (Below.refl _ _).alloc (Nat.le_refl _) _
  have HX1 := Lib.hid (show CBox W1 b1 24 #[.string (bstr A), .string (bstr B)] from by rw [← hW1]; exact CBox.new _ hb1.symm)
  have HB1 := Lib.hid (show Below b1 w W1 from hb1 ▸ k1)
  have HBB := Lib.hid hb1; have HW1 := Lib.hid hW1
  clear hb1 hW1 k1
  by_cases hl : s.length ≤ 20000
  rotate_left
  · have d1 : decide ((20000 : Int) < s.length) = true := decide_eq_true (by omega)
    have d1' : decide (20000 < s.length) = true := decide_eq_true (by omega)
    clear hl
    go_enter Try.func3, Try.ntmps3
    go_upto_region 1 with fail
    rw [HBB.out, HW1.out]
    obtain ⟨a0, af0⟩ := CBox.at_ HX1.out 0 _ rfl; obtain ⟨a1, af1⟩ := CBox.at_ HX1.out 1 _ rfl
    go_wp2_with ((with_reducible refine (HLV.out W1).mono ?_); rintro e w2 ⟨rfl, hb2⟩; have HB2 := Lib.hid (HB1.out.trans (hb2.mono (Nat.le_of_lt HX1.out.lt))); clear hb2)
    go_ret
    exact ⟨rfl, HBB.out ▸ HB2.out⟩
  have d1 : decide ((20000 : Int) < s.length) = false := decide_eq_false (by omega)
  have d1' : decide (20000 < s.length) = false := decide_eq_false (by omega)
  by_cases hA : A.length ≤ 100
  rotate_left
  · have d2 : decide ((100 : Int) < A.length) = true := decide_eq_true (by omega)
    have d2' : decide (100 < A.length) = true := decide_eq_true (by omega)
    clear hl hA
    go_enter Try.func3, Try.ntmps3
    go_upto_region 1 with fail
    rw [HBB.out, HW1.out]
    obtain ⟨a0, af0⟩ := CBox.at_ HX1.out 0 _ rfl; obtain ⟨a1, af1⟩ := CBox.at_ HX1.out 1 _ rfl
    go_wp2_with ((with_reducible refine (HLV.out W1).mono ?_); rintro e w2 ⟨rfl, hb2⟩; have HB2 := Lib.hid (HB1.out.trans (hb2.mono (Nat.le_of_lt HX1.out.lt))); clear hb2)
    go_ret
    exact ⟨rfl, HBB.out ▸ HB2.out⟩
  have d2 : decide ((100 : Int) < A.length) = false := decide_eq_false (by omega)
  have d2' : decide (100 < A.length) = false := decide_eq_false (by omega)
  by_cases hB : B.length ≤ 100
  rotate_left
  · have d3 : decide ((100 : Int) < B.length) = true := decide_eq_true (by omega)
    have d3' : decide (100 < B.length) = true := decide_eq_true (by omega)
    clear hl hA hB
    go_enter Try.func3, Try.ntmps3
    go_upto_region 1 with fail
    rw [HBB.out, HW1.out]
    obtain ⟨a0, af0⟩ := CBox.at_ HX1.out 0 _ rfl; obtain ⟨a1, af1⟩ := CBox.at_ HX1.out 1 _ rfl
    go_wp2_with ((with_reducible refine (HLV.out W1).mono ?_); rintro e w2 ⟨rfl, hb2⟩; have HB2 := Lib.hid (HB1.out.trans (hb2.mono (Nat.le_of_lt HX1.out.lt))); clear hb2)
    go_ret
    exact ⟨rfl, HBB.out ▸ HB2.out⟩
  have d3 : decide ((100 : Int) < B.length) = false := decide_eq_false (by omega)
  have d3' : decide (100 < B.length) = false := decide_eq_false (by omega)
  have HD := Lib.hid (fun W => (mdecode_any A B s W (Nat.le_trans hl (by decide))).mono fun _ _ h => ret_decM h)
  have HR := Lib.hid (fun W => (rdecode9_any A B s W (Nat.le_trans hl (by decide))).mono fun _ _ h => ret_decM h)
  obtain ⟨er, her⟩ : ∃ er, (mdec A B s).1 = er := ⟨_, rfl⟩
  obtain ⟨m, hm⟩ : ∃ m, (mdec A B s).2 = m := ⟨_, rfl⟩
  rw [her, hm] at HD HR
  obtain ⟨mk, mv, mg, mx, mq, mr, me, ms, mrs⟩ := m
  unfold RetDecM at HD HR
  dsimp only at HD HR
  clear her hm hl hA hB
  go_enter Try.func3, Try.ntmps3
  go_upto_region 1 with fail
  rw [HBB.out, HW1.out]
  obtain ⟨a0, af0⟩ := CBox.at_ HX1.out 0 _ rfl; obtain ⟨a1, af1⟩ := CBox.at_ HX1.out 1 _ rfl
  go_upto_region 4 with ((with_reducible refine (HD.out W1).mono ?_); rintro e w1 ⟨so, sc, ro, rc, rfl, hs1, hr1, hb1⟩; have HV1 := Lib.hid (And.intro hs1 (And.intro hr1 hb1)); have HY1 := Lib.hid (HX1.out.below hb1 HX1.out.lt); clear hs1 hr1 hb1 a0 af0 a1 af1)
  obtain ⟨W2, hW2⟩ : ∃ W2, w1.alloc (.cells (msgCells mk mv mg mx mq mr me so ms.length sc ro mrs.length rc) 29) = W2 := ⟨_, rfl⟩
  obtain ⟨b2, hb2⟩ : ∃ b, w1.heap.size = b := ⟨_, rfl⟩
  have k2 : Below w1.heap.size w1 W2 := by rw [← hW2]; exact (Below.refl _ _).alloc (Nat.le_refl _) _
  have HX2 := Lib.hid (show CBox W2 b2 29 (msgCells mk mv mg mx mq mr me so ms.length sc ro mrs.length rc) from by rw [← hW2]; exact CBox.new _ hb2.symm)
  have HY2 := Lib.hid (HY1.out.below k2 HY1.out.lt)
  have HV2 := Lib.hid (And.intro (HV1.out.1.mono k2) (And.intro (HV1.out.2.1.mono k2) (HV1.out.2.2.trans (k2.mono HV1.out.2.2.size))))
  rw [hW2, hb2]
  clear hW2 hb2 k2 HV1 HD
  obtain ⟨a0, af0⟩ := CBox.at_ HY2.out 0 _ rfl; obtain ⟨a1, af1⟩ := CBox.at_ HY2.out 1 _ rfl
  go_upto_region 5 with ((with_reducible refine (HR.out W2).mono ?_); rintro e w3 ⟨so', sc', ro', rc', rfl, hs3, hr3, hb3⟩; have HV3 := Lib.hid (And.intro hs3 (And.intro hr3 hb3)); clear hs3 hr3 hb3 a0 af0 a1 af1)
  obtain ⟨W4, hW4⟩ : ∃ W4, w3.alloc (.cells (msgCells mk mv mg mx mq mr me so' ms.length sc' ro' mrs.length rc') 29) = W4 := ⟨_, rfl⟩
  obtain ⟨b3, hb3⟩ : ∃ b, w3.heap.size = b := ⟨_, rfl⟩
  have k4 : Below w3.heap.size w3 W4 := by rw [← hW4]; exact (Below.refl _ _).alloc (Nat.le_refl _) _
  have HX4 := Lib.hid (show CBox W4 b3 29 (msgCells mk mv mg mx mq mr me so' ms.length sc' ro' mrs.length rc') from by rw [← hW4]; exact CBox.new _ hb3.symm)
  have k5 := HV3.out.2.2.trans (k4.mono HV3.out.2.2.size)
  have HX5 := Lib.hid (HX2.out.below k5 HX2.out.lt)
  have HV4 := Lib.hid (And.intro (HV2.out.1.mono k5) (And.intro (HV2.out.2.1.mono k5) (And.intro (HV3.out.1.mono k4) (And.intro (HV3.out.2.1.mono k4) (HV2.out.2.2.trans (k5.mono HV2.out.2.2.size))))))
  rw [hW4, hb3]
  clear hW4 hb3 k4 k5 HV2 HV3 HX2 HR
  have HSM := Lib.hid (same_yes mk mv mx mr me mg mq so ms sc ro mrs rc so' sc' ro' rc' W4 HV4.out.1 HV4.out.2.1 HV4.out.2.2.1 HV4.out.2.2.2.1)
  obtain ⟨x0, xf0⟩ := CBox.at_ HX5.out 0 _ rfl
  obtain ⟨x1, xf1⟩ := CBox.at_ HX5.out 1 _ rfl
  obtain ⟨x2, xf2⟩ := CBox.at_ HX5.out 2 _ rfl
  obtain ⟨x3, xf3⟩ := CBox.at_ HX5.out 3 _ rfl
  obtain ⟨x4, xf4⟩ := CBox.at_ HX5.out 4 _ rfl
  obtain ⟨x5, xf5⟩ := CBox.at_ HX5.out 5 _ rfl
  obtain ⟨x6, xf6⟩ := CBox.at_ HX5.out 6 _ rfl
  obtain ⟨x7, xf7⟩ := CBox.at_ HX5.out 7 _ rfl
  obtain ⟨x8, xf8⟩ := CBox.at_ HX5.out 8 _ rfl
  obtain ⟨y0, yf0⟩ := CBox.at_ HX4.out 0 _ rfl
  obtain ⟨y1, yf1⟩ := CBox.at_ HX4.out 1 _ rfl
  obtain ⟨y2, yf2⟩ := CBox.at_ HX4.out 2 _ rfl
  obtain ⟨y3, yf3⟩ := CBox.at_ HX4.out 3 _ rfl
  obtain ⟨y4, yf4⟩ := CBox.at_ HX4.out 4 _ rfl
  obtain ⟨y5, yf5⟩ := CBox.at_ HX4.out 5 _ rfl
  obtain ⟨y6, yf6⟩ := CBox.at_ HX4.out 6 _ rfl
  obtain ⟨y7, yf7⟩ := CBox.at_ HX4.out 7 _ rfl
  obtain ⟨y8, yf8⟩ := CBox.at_ HX4.out 8 _ rfl
  go_wp2_with (first | ((with_reducible refine HSM.out.mono ?_); rintro e w6 ⟨rfl, hb6⟩; have HB6 := Lib.hid (HV4.out.2.2.2.2.trans (hb6.mono HV4.out.2.2.2.2.size)); clear hb6 x0 xf0 x1 xf1 x2 xf2 x3 xf3 x4 xf4 x5 xf5 x6 xf6 x7 xf7 x8 xf8 y0 yf0 y1 yf1 y2 yf2 y3 yf3 y4 yf4 y5 yf5 y6 yf6 y7 yf7 y8 yf8) | ((with_reducible refine (HLV.out w6).mono ?_); rintro e w7 ⟨rfl, hb7⟩; have HB7 := Lib.hid (HB6.out.trans (hb7.mono HB6.out.size)); clear hb7))
  go_ret
  exact ⟨rfl, HBB.out ▸ HB1.out.trans (HB7.out.mono (Nat.le_of_lt HX1.out.lt))⟩
end Go.Proofs.Ythkibgdeibolfaa
