/- Texts joined into one file: MDec. -/
import Derived.Test.YthkibgdeibolfaaQ16
import Derived.Test.YthkibgdeibolfaaQ05
import Derived.Test.YthkibgdeibolfaaQ08

/- mld.tells, mld.Decode. -/
namespace Go.Proofs.Ythkibgdeibolfaa
open Go.RowKit Go.Sort
set_option maxRecDepth 20000
set_option maxRecDepth 20000
attribute [local go_sem] bstr_size bstr_extract bstr_toList bstr_get

set_option maxHeartbeats 2000000 in
theorem mtells_any (s : Str) (kind : Int) (w : World) (hs : s.length ≤ 1000000) :
    Calls Try.prog 18 #[.string (bstr s), .int .i64 kind] w (RetMsg w (mtells s kind).1 (mtells s kind).2) := by
  have b0 : (⟨#[]⟩ : ByteArray) = bstr [] := bstr_nil.symm
  obtain ⟨rb, hrb⟩ : ∃ rb, w.heap.size = rb := ⟨_, rfl⟩
  obtain ⟨P, hP⟩ : ∃ P, P = mtells s kind := ⟨_, rfl⟩
  rw [← hP]
  have HRB := Lib.hid hrb
  obtain ⟨W1, hW1⟩ : ∃ W1, w.alloc (.cells mz 29) = W1 := ⟨_, rfl⟩
  have X1 : CBox W1 rb 29 mz := by rw [← hW1]; exact CBox.new _ HRB.out.symm
  have hb1 : Below rb w W1 := by rw [← hW1, ← HRB.out]; exact (Below.refl _ _).alloc (Nat.le_refl _) _
  have HX1 := Lib.hid X1; have HB1 := Lib.hid hb1; have HW1 := Lib.hid hW1
  have HP := Lib.hid hP
  clear X1 hb1 hW1 hrb hP
  have HC := Lib.hid (fun W => show Calls Try.prog 42 #[.string (bstr s), .int .i64 8, .int .i64 16] W _ from cut_any s 8 16 W (Nat.le_trans hs (by decide)) (by decide))
  by_cases h24 : s.length < 24
  · rw [if_neg (show ¬ 8 + 16 ≤ s.length by omega), if_neg (show ¬ 8 + 16 ≤ s.length by omega)] at HC
    have HPE := Lib.hid (show P = (2, .zero) from by rw [HP.out]; unfold mtells; rw [if_pos h24])
    clear h24 hs
    go_enter Try.func18, Try.ntmps18
    go_upto_region 1 with fail
    rw [HRB.out, HW1.out]
    obtain ⟨y0, yf0⟩ := CBox.at_ HX1.out 0 _ rfl
    obtain ⟨y1, yf1⟩ := CBox.at_ HX1.out 1 _ rfl
    obtain ⟨y2, yf2⟩ := CBox.at_ HX1.out 2 _ rfl
    obtain ⟨y3, yf3⟩ := CBox.at_ HX1.out 3 _ rfl
    obtain ⟨y4, yf4⟩ := CBox.at_ HX1.out 4 _ rfl
    obtain ⟨y5, yf5⟩ := CBox.at_ HX1.out 5 _ rfl
    obtain ⟨y6, yf6⟩ := CBox.at_ HX1.out 6 _ rfl
    obtain ⟨y7, yf7⟩ := CBox.at_ HX1.out 7 _ rfl
    obtain ⟨y8, yf8⟩ := CBox.at_ HX1.out 8 _ rfl
    go_wp2_with ((with_reducible refine (HC.out _).mono ?_); rintro e w2 ⟨rfl, hw2⟩; subst w2)
    obtain ⟨r0, r1, r2, r3, r4, r5, r6, r7, r8⟩ := ret9 (cells9 HX1.out (.int .i64 0) (.int .i64 0) (.string (bstr [])) (.int .i64 0) (.bool false) (.int .i64 0) (.int .i64 0) (.slice none 0 0) (.slice none 0 0))
    refine bodyPost_ret (v := .tuple #[.agg #[.int .i64 0, .int .i64 0, .string (bstr []), .int .i64 0, .bool false, .int .i64 0, .int .i64 0, .slice none 0 0, .slice none 0 0], .int .i64 2]) (by simp [results, Try.results18, go_sem, r0, r1, r2, r3, r4, r5, r6, r7, r8]) rfl ?_
    rw [HPE.out]
    exact retMsg_bad w _ 2 (HRB.out ▸ below9 HB1.out (Nat.le_refl _) _ _ _ _ _ _ _ _ _)
  · rw [if_pos (show 8 + 16 ≤ s.length by omega), if_pos (show 8 + 16 ≤ s.length by omega)] at HC
    obtain ⟨G, hG⟩ : ∃ G, (s.drop 8).take 16 = G := ⟨_, rfl⟩
    have hpp := HP.out
    unfold mtells at hpp
    rw [if_neg h24, hG] at hpp
    rw [hG] at HC
    have HGL : G.length ≤ maxLen := by rw [← hG]; exact Nat.le_trans (List.length_take_le _ _) (by decide)
    have HGR := Lib.hid (fun W => mgroup_any G W HGL)
    have HPP := Lib.hid hpp
    clear h24 hs hG hpp HGL
    go_enter Try.func18, Try.ntmps18
    go_upto_region 1 with fail
    rw [HRB.out, HW1.out]
    go_upto_region 5 with ((with_reducible refine (HC.out _).mono ?_); rintro e w2 ⟨rfl, hw2⟩; subst w2)
    obtain ⟨W5, hW5⟩ : ∃ W5, W1.alloc (.cells #[.int .i64 kind, .int .i64 1, .string (bstr G), .int .i64 0, .bool false, .int .i64 0, .int .i64 0, .slice none 0 0, .slice none 0 0] 29) = W5 := ⟨_, rfl⟩
    obtain ⟨mb, hmb⟩ : ∃ mb, W1.heap.size = mb := ⟨_, rfl⟩
    have X5 : CBox W5 mb 29 #[.int .i64 kind, .int .i64 1, .string (bstr G), .int .i64 0, .bool false, .int .i64 0, .int .i64 0, .slice none 0 0, .slice none 0 0] := by rw [← hW5]; exact CBox.new _ hmb.symm
    have hb5 : Below mb W1 W5 := by rw [← hW5, ← hmb]; exact (Below.refl _ _).alloc (Nat.le_refl _) _
    rw [hW5, hmb]
    have HLT := Lib.hid (show rb < mb from hmb ▸ HX1.out.lt)
    have HX5 := Lib.hid X5
    have HXR := Lib.hid (HX1.out.below hb5 HLT.out)
    have HBR := Lib.hid (HB1.out.trans (hb5.mono (Nat.le_of_lt HLT.out)))
    clear X5 hb5 hW5 hmb
    have x2 := (HX5.out.at_ 2 _ rfl).1
    cases hq : grp G 16
    · rw [hq] at HGR
      have HPE := Lib.hid (show P = (3, .zero) from by rw [HPP.out, if_pos hq])
      clear hq
      go_wp2_with ((with_reducible refine (HGR.out _).mono ?_); rintro e w7 ⟨rfl, hb7⟩; have HX7 := Lib.hid (HXR.out.below hb7 HXR.out.lt); have HB7 := Lib.hid (HBR.out.trans (hb7.mono (Nat.le_of_lt HXR.out.lt))); clear x2; obtain ⟨y0, yf0⟩ := CBox.at_ HX7.out 0 _ rfl; obtain ⟨y1, yf1⟩ := CBox.at_ HX7.out 1 _ rfl; obtain ⟨y2, yf2⟩ := CBox.at_ HX7.out 2 _ rfl; obtain ⟨y3, yf3⟩ := CBox.at_ HX7.out 3 _ rfl; obtain ⟨y4, yf4⟩ := CBox.at_ HX7.out 4 _ rfl; obtain ⟨y5, yf5⟩ := CBox.at_ HX7.out 5 _ rfl; obtain ⟨y6, yf6⟩ := CBox.at_ HX7.out 6 _ rfl; obtain ⟨y7, yf7⟩ := CBox.at_ HX7.out 7 _ rfl; obtain ⟨y8, yf8⟩ := CBox.at_ HX7.out 8 _ rfl; clear hb7)
      obtain ⟨r0, r1, r2, r3, r4, r5, r6, r7, r8⟩ := ret9 (cells9 HX7.out (.int .i64 0) (.int .i64 0) (.string (bstr [])) (.int .i64 0) (.bool false) (.int .i64 0) (.int .i64 0) (.slice none 0 0) (.slice none 0 0))
      refine bodyPost_ret (v := .tuple #[.agg #[.int .i64 0, .int .i64 0, .string (bstr []), .int .i64 0, .bool false, .int .i64 0, .int .i64 0, .slice none 0 0, .slice none 0 0], .int .i64 3]) (by simp [results, Try.results18, go_sem, r0, r1, r2, r3, r4, r5, r6, r7, r8]) rfl ?_
      rw [HPE.out]
      exact retMsg_bad w _ 3 (HRB.out ▸ below9 HB7.out (Nat.le_refl _) _ _ _ _ _ _ _ _ _)
    · rw [hq] at HGR
      have HPE := Lib.hid (show P = (0, ⟨kind, 1, G, 0, false, 0, 0, [], []⟩) from by rw [HPP.out, if_neg (by rw [hq]; decide)])
      clear hq
      go_wp2_with ((with_reducible refine (HGR.out _).mono ?_); rintro e w7 ⟨rfl, hb7⟩; have HX7 := Lib.hid (HXR.out.below hb7 HXR.out.lt); have HM7 := Lib.hid (HX5.out.below hb7 HX5.out.lt); have HB7 := Lib.hid (HBR.out.trans (hb7.mono (Nat.le_of_lt HXR.out.lt))); clear x2; obtain ⟨x0, xf0⟩ := CBox.at_ HM7.out 0 _ rfl; obtain ⟨x1, xf1⟩ := CBox.at_ HM7.out 1 _ rfl; obtain ⟨x2, xf2⟩ := CBox.at_ HM7.out 2 _ rfl; obtain ⟨x3, xf3⟩ := CBox.at_ HM7.out 3 _ rfl; obtain ⟨x4, xf4⟩ := CBox.at_ HM7.out 4 _ rfl; obtain ⟨x5, xf5⟩ := CBox.at_ HM7.out 5 _ rfl; obtain ⟨x6, xf6⟩ := CBox.at_ HM7.out 6 _ rfl; obtain ⟨x7, xf7⟩ := CBox.at_ HM7.out 7 _ rfl; obtain ⟨x8, xf8⟩ := CBox.at_ HM7.out 8 _ rfl; obtain ⟨y0, yf0⟩ := CBox.at_ HX7.out 0 _ rfl; obtain ⟨y1, yf1⟩ := CBox.at_ HX7.out 1 _ rfl; obtain ⟨y2, yf2⟩ := CBox.at_ HX7.out 2 _ rfl; obtain ⟨y3, yf3⟩ := CBox.at_ HX7.out 3 _ rfl; obtain ⟨y4, yf4⟩ := CBox.at_ HX7.out 4 _ rfl; obtain ⟨y5, yf5⟩ := CBox.at_ HX7.out 5 _ rfl; obtain ⟨y6, yf6⟩ := CBox.at_ HX7.out 6 _ rfl; obtain ⟨y7, yf7⟩ := CBox.at_ HX7.out 7 _ rfl; obtain ⟨y8, yf8⟩ := CBox.at_ HX7.out 8 _ rfl; clear hb7)
      obtain ⟨r0, r1, r2, r3, r4, r5, r6, r7, r8⟩ := ret9 (cells9 HX7.out (.int .i64 kind) (.int .i64 1) (.string (bstr G)) (.int .i64 0) (.bool false) (.int .i64 0) (.int .i64 0) (.slice none 0 0) (.slice none 0 0))
      refine bodyPost_ret (v := .tuple #[.agg #[.int .i64 kind, .int .i64 1, .string (bstr G), .int .i64 0, .bool false, .int .i64 0, .int .i64 0, .slice none 0 0, .slice none 0 0], .int .i64 0]) (by simp [results, Try.results18, go_sem, r0, r1, r2, r3, r4, r5, r6, r7, r8]) rfl ?_
      rw [HPE.out]
      exact ⟨_, _, rfl, Strs.nil _, fun j hj => by simp [Value.ownBlock] at hj, Row.nil _ _, HRB.out ▸ below9 HB7.out (Nat.le_refl _) _ _ _ _ _ _ _ _ _⟩
set_option maxHeartbeats 4000000 in
theorem mdecode_any (src dst s : Str) (w : World) (hs : s.length ≤ 1000000) :
    Calls Try.prog 9 #[.string (bstr src), .string (bstr dst), .string (bstr s)] w (RetMsg w (mdec src dst s).1 (mdec src dst s).2) := by
  have b0 : (⟨#[]⟩ : ByteArray) = bstr [] := bstr_nil.symm
  obtain ⟨rb, hrb⟩ : ∃ rb, w.heap.size = rb := ⟨_, rfl⟩
  obtain ⟨P, hP⟩ : ∃ P, P = mdec src dst s := ⟨_, rfl⟩
  rw [← hP]
  have HRB := Lib.hid hrb
  obtain ⟨W1, hW1⟩ : ∃ W1, w.alloc (.cells mz 29) = W1 := ⟨_, rfl⟩
  have X1 : CBox W1 rb 29 mz := by rw [← hW1]; exact CBox.new _ HRB.out.symm
  have hb1 : Below rb w W1 := by rw [← hW1, ← HRB.out]; exact (Below.refl _ _).alloc (Nat.le_refl _) _
  have HX1 := Lib.hid X1; have HB1 := Lib.hid hb1; have HW1 := Lib.hid hW1
  have HP := Lib.hid hP
  clear X1 hb1 hW1 hrb hP
  have HBAD := Lib.hid (show src.length ≠ 16 ∨ dst.length ≠ 16 ∨ 65535 < s.length → P = (1, .zero) from fun h => by rw [HP.out]; unfold mdec; rw [if_pos h])
  by_cases h1 : src.length = 16
  rotate_left
  · have HPE := Lib.hid (HBAD.out (.inl h1))
    have d1 : ((src.length : Int) != 16) = true := bne_iff_ne.2 (by omega)
    have d1' : ((src.length : Int) == 16) = false := beq_eq_false_iff_ne.2 (by omega)
    clear h1 hs
    go_enter Try.func9, Try.ntmps9
    go_upto_region 1 with fail
    rw [HRB.out, HW1.out]
    obtain ⟨y0, yf0⟩ := CBox.at_ HX1.out 0 _ rfl
    obtain ⟨y1, yf1⟩ := CBox.at_ HX1.out 1 _ rfl
    obtain ⟨y2, yf2⟩ := CBox.at_ HX1.out 2 _ rfl
    obtain ⟨y3, yf3⟩ := CBox.at_ HX1.out 3 _ rfl
    obtain ⟨y4, yf4⟩ := CBox.at_ HX1.out 4 _ rfl
    obtain ⟨y5, yf5⟩ := CBox.at_ HX1.out 5 _ rfl
    obtain ⟨y6, yf6⟩ := CBox.at_ HX1.out 6 _ rfl
    obtain ⟨y7, yf7⟩ := CBox.at_ HX1.out 7 _ rfl
    obtain ⟨y8, yf8⟩ := CBox.at_ HX1.out 8 _ rfl
    go_wp2_with fail
    obtain ⟨r0, r1, r2, r3, r4, r5, r6, r7, r8⟩ := ret9 (cells9 HX1.out (.int .i64 0) (.int .i64 0) (.string (bstr [])) (.int .i64 0) (.bool false) (.int .i64 0) (.int .i64 0) (.slice none 0 0) (.slice none 0 0))
    refine bodyPost_ret (v := .tuple #[.agg #[.int .i64 0, .int .i64 0, .string (bstr []), .int .i64 0, .bool false, .int .i64 0, .int .i64 0, .slice none 0 0, .slice none 0 0], .int .i64 1]) (by simp [results, Try.results9, go_sem, r0, r1, r2, r3, r4, r5, r6, r7, r8]) rfl ?_
    rw [HPE.out]
    exact retMsg_bad w _ 1 (HRB.out ▸ below9 HB1.out (Nat.le_refl _) _ _ _ _ _ _ _ _ _)
  have d1 : ((src.length : Int) != 16) = false := bne_eq_false_iff_eq.2 (by omega)
  by_cases h2 : dst.length = 16
  rotate_left
  · have HPE := Lib.hid (HBAD.out (.inr (.inl h2)))
    have d2 : ((dst.length : Int) != 16) = true := bne_iff_ne.2 (by omega)
    clear h1 h2 hs
    go_enter Try.func9, Try.ntmps9
    go_upto_region 1 with fail
    rw [HRB.out, HW1.out]
    obtain ⟨y0, yf0⟩ := CBox.at_ HX1.out 0 _ rfl
    obtain ⟨y1, yf1⟩ := CBox.at_ HX1.out 1 _ rfl
    obtain ⟨y2, yf2⟩ := CBox.at_ HX1.out 2 _ rfl
    obtain ⟨y3, yf3⟩ := CBox.at_ HX1.out 3 _ rfl
    obtain ⟨y4, yf4⟩ := CBox.at_ HX1.out 4 _ rfl
    obtain ⟨y5, yf5⟩ := CBox.at_ HX1.out 5 _ rfl
    obtain ⟨y6, yf6⟩ := CBox.at_ HX1.out 6 _ rfl
    obtain ⟨y7, yf7⟩ := CBox.at_ HX1.out 7 _ rfl
    obtain ⟨y8, yf8⟩ := CBox.at_ HX1.out 8 _ rfl
    go_wp2_with fail
    obtain ⟨r0, r1, r2, r3, r4, r5, r6, r7, r8⟩ := ret9 (cells9 HX1.out (.int .i64 0) (.int .i64 0) (.string (bstr [])) (.int .i64 0) (.bool false) (.int .i64 0) (.int .i64 0) (.slice none 0 0) (.slice none 0 0))
    refine bodyPost_ret (v := .tuple #[.agg #[.int .i64 0, .int .i64 0, .string (bstr []), .int .i64 0, .bool false, .int .i64 0, .int .i64 0, .slice none 0 0, .slice none 0 0], .int .i64 1]) (by simp [results, Try.results9, go_sem, r0, r1, r2, r3, r4, r5, r6, r7, r8]) rfl ?_
    rw [HPE.out]
    exact retMsg_bad w _ 1 (HRB.out ▸ below9 HB1.out (Nat.le_refl _) _ _ _ _ _ _ _ _ _)
  have d2 : ((dst.length : Int) != 16) = false := bne_eq_false_iff_eq.2 (by omega)
  by_cases h3 : 65535 < s.length
  · have HPE := Lib.hid (HBAD.out (.inr (.inr h3)))
    have d3 : decide ((65535 : Int) < s.length) = true := decide_eq_true (by omega)
    have d3' : decide (65535 < s.length) = true := decide_eq_true h3
    clear h1 h2 h3 hs
    go_enter Try.func9, Try.ntmps9
    go_upto_region 1 with fail
    rw [HRB.out, HW1.out]
    obtain ⟨y0, yf0⟩ := CBox.at_ HX1.out 0 _ rfl
    obtain ⟨y1, yf1⟩ := CBox.at_ HX1.out 1 _ rfl
    obtain ⟨y2, yf2⟩ := CBox.at_ HX1.out 2 _ rfl
    obtain ⟨y3, yf3⟩ := CBox.at_ HX1.out 3 _ rfl
    obtain ⟨y4, yf4⟩ := CBox.at_ HX1.out 4 _ rfl
    obtain ⟨y5, yf5⟩ := CBox.at_ HX1.out 5 _ rfl
    obtain ⟨y6, yf6⟩ := CBox.at_ HX1.out 6 _ rfl
    obtain ⟨y7, yf7⟩ := CBox.at_ HX1.out 7 _ rfl
    obtain ⟨y8, yf8⟩ := CBox.at_ HX1.out 8 _ rfl
    go_wp2_with fail
    obtain ⟨r0, r1, r2, r3, r4, r5, r6, r7, r8⟩ := ret9 (cells9 HX1.out (.int .i64 0) (.int .i64 0) (.string (bstr [])) (.int .i64 0) (.bool false) (.int .i64 0) (.int .i64 0) (.slice none 0 0) (.slice none 0 0))
    refine bodyPost_ret (v := .tuple #[.agg #[.int .i64 0, .int .i64 0, .string (bstr []), .int .i64 0, .bool false, .int .i64 0, .int .i64 0, .slice none 0 0, .slice none 0 0], .int .i64 1]) (by simp [results, Try.results9, go_sem, r0, r1, r2, r3, r4, r5, r6, r7, r8]) rfl ?_
    rw [HPE.out]
    exact retMsg_bad w _ 1 (HRB.out ▸ below9 HB1.out (Nat.le_refl _) _ _ _ _ _ _ _ _ _)
  have d3 : decide ((65535 : Int) < s.length) = false := decide_eq_false (by omega)
  have d3' : decide (65535 < s.length) = false := decide_eq_false h3
  have hp1 : P = if s.length < 8 then (2, .zero) else if psum (pseS src dst s.length ++ s) ≠ 0 then (4, .zero) else mkind s := by
    rw [HP.out]; unfold mdec; rw [if_neg (by intro h; rcases h with h | h | h; exact h h1; exact h h2; exact h3 h)]
  have HPS := Lib.hid (fun W => pse_any src dst s.length W h1 h2 (Nat.le_of_not_lt h3))
  by_cases h8 : s.length < 8
  · have HPE := Lib.hid (show P = (2, .zero) from by rw [hp1, if_pos h8])
    have d8 : decide ((s.length : Int) < 8) = true := decide_eq_true (by omega)
    have d8' : decide (s.length < 8) = true := decide_eq_true h8
    clear h1 h2 h3 hs h8 hp1
    go_enter Try.func9, Try.ntmps9
    go_upto_region 1 with fail
    rw [HRB.out, HW1.out]
    obtain ⟨y0, yf0⟩ := CBox.at_ HX1.out 0 _ rfl
    obtain ⟨y1, yf1⟩ := CBox.at_ HX1.out 1 _ rfl
    obtain ⟨y2, yf2⟩ := CBox.at_ HX1.out 2 _ rfl
    obtain ⟨y3, yf3⟩ := CBox.at_ HX1.out 3 _ rfl
    obtain ⟨y4, yf4⟩ := CBox.at_ HX1.out 4 _ rfl
    obtain ⟨y5, yf5⟩ := CBox.at_ HX1.out 5 _ rfl
    obtain ⟨y6, yf6⟩ := CBox.at_ HX1.out 6 _ rfl
    obtain ⟨y7, yf7⟩ := CBox.at_ HX1.out 7 _ rfl
    obtain ⟨y8, yf8⟩ := CBox.at_ HX1.out 8 _ rfl
    go_wp2_with fail
    obtain ⟨r0, r1, r2, r3, r4, r5, r6, r7, r8⟩ := ret9 (cells9 HX1.out (.int .i64 0) (.int .i64 0) (.string (bstr [])) (.int .i64 0) (.bool false) (.int .i64 0) (.int .i64 0) (.slice none 0 0) (.slice none 0 0))
    refine bodyPost_ret (v := .tuple #[.agg #[.int .i64 0, .int .i64 0, .string (bstr []), .int .i64 0, .bool false, .int .i64 0, .int .i64 0, .slice none 0 0, .slice none 0 0], .int .i64 2]) (by simp [results, Try.results9, go_sem, r0, r1, r2, r3, r4, r5, r6, r7, r8]) rfl ?_
    rw [HPE.out]
    exact retMsg_bad w _ 2 (HRB.out ▸ below9 HB1.out (Nat.le_refl _) _ _ _ _ _ _ _ _ _)
  have d8 : decide ((s.length : Int) < 8) = false := decide_eq_false (by omega)
  have d8' : decide (s.length < 8) = false := decide_eq_false h8
  rw [if_neg h8] at hp1
  obtain ⟨A, hA⟩ : ∃ A, pseS src dst s.length = A := ⟨_, rfl⟩
  rw [hA] at hp1 HPS
  have hAl : A.length = 40 := by rw [← hA]; exact pse_length _ _ _ h1 h2
  have a1 : bstr A ++ bstr s = bstr (A ++ s) := bstr_append _ _
  have n1 : ¬ 9223372036854775807 < A.length + s.length := by omega
  obtain ⟨T, hT⟩ : ∃ T, A ++ s = T := ⟨_, rfl⟩
  have HRT := Lib.hid (fun W => right_any T W (by rw [← hT, List.length_append, hAl]; omega))
  rw [hT] at hp1 a1
  have HL := Lib.hid (And.intro (show 8 ≤ s.length by omega) hs)
  clear h1 h2 h3 hs h8 hA hT
  by_cases hp : psum T = 0
  rotate_left
  · rw [decide_eq_false hp] at HRT
    have HPE := Lib.hid (show P = (4, .zero) from by rw [hp1, if_pos hp])
    clear hp1 hp
    go_enter Try.func9, Try.ntmps9
    go_upto_region 1 with fail
    rw [HRB.out, HW1.out]
    go_wp2_with (first | ((with_reducible refine (HPS.out _).mono ?_); rintro e w2 ⟨rfl, hb2⟩; have K2 := Lib.hid hb2; clear hb2) | (((with_reducible refine (HRT.out _).mono ?_); rintro e w3 ⟨rfl, hb3⟩; have K3 := Lib.hid (K2.out.trans (hb3.mono K2.out.size)); have HX3 := Lib.hid (HX1.out.below K3.out HX1.out.lt); have HB3 := Lib.hid (HB1.out.trans (K3.out.mono (Nat.le_of_lt HX1.out.lt))); clear hb3); obtain ⟨y0, yf0⟩ := CBox.at_ HX3.out 0 _ rfl; obtain ⟨y1, yf1⟩ := CBox.at_ HX3.out 1 _ rfl; obtain ⟨y2, yf2⟩ := CBox.at_ HX3.out 2 _ rfl; obtain ⟨y3, yf3⟩ := CBox.at_ HX3.out 3 _ rfl; obtain ⟨y4, yf4⟩ := CBox.at_ HX3.out 4 _ rfl; obtain ⟨y5, yf5⟩ := CBox.at_ HX3.out 5 _ rfl; obtain ⟨y6, yf6⟩ := CBox.at_ HX3.out 6 _ rfl; obtain ⟨y7, yf7⟩ := CBox.at_ HX3.out 7 _ rfl; obtain ⟨y8, yf8⟩ := CBox.at_ HX3.out 8 _ rfl))
    obtain ⟨r0, r1, r2, r3, r4, r5, r6, r7, r8⟩ := ret9 (cells9 HX3.out (.int .i64 0) (.int .i64 0) (.string (bstr [])) (.int .i64 0) (.bool false) (.int .i64 0) (.int .i64 0) (.slice none 0 0) (.slice none 0 0))
    refine bodyPost_ret (v := .tuple #[.agg #[.int .i64 0, .int .i64 0, .string (bstr []), .int .i64 0, .bool false, .int .i64 0, .int .i64 0, .slice none 0 0, .slice none 0 0], .int .i64 4]) (by simp [results, Try.results9, go_sem, r0, r1, r2, r3, r4, r5, r6, r7, r8]) rfl ?_
    rw [HPE.out]
    exact retMsg_bad w _ 4 (HRB.out ▸ below9 HB3.out (Nat.le_refl _) _ _ _ _ _ _ _ _ _)
  · rw [decide_eq_true hp] at HRT
    rw [if_neg (fun h => h hp)] at hp1
    have hp2 : P = mkind s := hp1
    unfold mkind at hp2
    obtain ⟨K, hK⟩ : ∃ K, (s.getD 0 0).toNat = K := ⟨_, rfl⟩
    simp only [hK] at hp2
    have HPK := Lib.hid hp2
    have hn0 : 0 < s.length := by have := HL.out.1; omega
    have hn0' : (0 : Int) < s.length := by omega
    have hKe : ∀ h : 0 < s.length, (s[0]'h).toNat = K := fun h => by rw [← hK, List.getD_eq_getElem?_getD, List.getElem?_eq_getElem h]; rfl
    have hKq : (s[0]?.getD 0).toNat = K := by rw [← hK, List.getD_eq_getElem?_getD]
    have q130 : ((K : Int) == 130) = decide (K = 130) := by rw [Bool.eq_iff_iff, beq_iff_eq, decide_eq_true_eq]; omega
    have q131 : ((K : Int) == 131) = decide (K = 131) := by rw [Bool.eq_iff_iff, beq_iff_eq, decide_eq_true_eq]; omega
    have q132 : ((K : Int) == 132) = decide (K = 132) := by rw [Bool.eq_iff_iff, beq_iff_eq, decide_eq_true_eq]; omega
    have q143 : ((K : Int) == 143) = decide (K = 143) := by rw [Bool.eq_iff_iff, beq_iff_eq, decide_eq_true_eq]; omega
    clear hp hp1 hp2 hK
    by_cases h130 : K = 130
    · rw [decide_eq_true h130] at q130
      have HPE := Lib.hid (show P = mquery s from by rw [HPK.out, if_pos h130])
      have HAK := Lib.hid (fun W => masks_any s W HL.out.1 HL.out.2)
      rw [← HPE.out] at HAK
      clear h130 q131 q132 q143 HPK
      unfold RetMsg msgV at HAK
      obtain ⟨er, her⟩ : ∃ er, P.1 = er := ⟨_, rfl⟩
      obtain ⟨m, hm⟩ : ∃ m, P.2 = m := ⟨_, rfl⟩
      obtain ⟨mk, mv, mg, mx, mq, mr, me, ms, mrs⟩ := m
      rw [her, hm] at HAK ⊢
      clear her hm
      go_enter Try.func9, Try.ntmps9
      go_upto_region 1 with fail
      rw [HRB.out, HW1.out]
      go_wp2_with (first | ((with_reducible refine (HPS.out _).mono ?_); rintro e w2 ⟨rfl, hb2⟩; have K2 := Lib.hid hb2; clear hb2) | ((with_reducible refine (HRT.out _).mono ?_); rintro e w3 ⟨rfl, hb3⟩; have K3 := Lib.hid (K2.out.trans (hb3.mono K2.out.size)); have HX3 := Lib.hid (HX1.out.below K3.out HX1.out.lt); have HB3 := Lib.hid (HB1.out.trans (K3.out.mono (Nat.le_of_lt HX1.out.lt))); clear hb3) | ((with_reducible refine (HAK.out w3).mono ?_); rintro e w6 ⟨vs, vr, rfl, hst, hli, hrw, hb6⟩; obtain ⟨so, sc, rfl⟩ := hst.shape; obtain ⟨ro, rc, rfl⟩ := hrw.shape; have HX6 := Lib.hid (HX3.out.below hb6 HX3.out.lt); have HB6 := Lib.hid (HB3.out.trans (hb6.mono (Nat.le_of_lt HX3.out.lt))); have HV6 := Lib.hid (And.intro hst (And.intro hli hrw)); obtain ⟨y0, yf0⟩ := CBox.at_ HX6.out 0 _ rfl; obtain ⟨y1, yf1⟩ := CBox.at_ HX6.out 1 _ rfl; obtain ⟨y2, yf2⟩ := CBox.at_ HX6.out 2 _ rfl; obtain ⟨y3, yf3⟩ := CBox.at_ HX6.out 3 _ rfl; obtain ⟨y4, yf4⟩ := CBox.at_ HX6.out 4 _ rfl; obtain ⟨y5, yf5⟩ := CBox.at_ HX6.out 5 _ rfl; obtain ⟨y6, yf6⟩ := CBox.at_ HX6.out 6 _ rfl; obtain ⟨y7, yf7⟩ := CBox.at_ HX6.out 7 _ rfl; obtain ⟨y8, yf8⟩ := CBox.at_ HX6.out 8 _ rfl; clear hst hli hrw hb6))
      obtain ⟨r0, r1, r2, r3, r4, r5, r6, r7, r8⟩ := ret9 (cells9 HX6.out (.int .i64 mk) (.int .i64 mv) (.string (bstr mg)) (.int .i64 mx) (.bool mq) (.int .i64 mr) (.int .i64 me) (.slice so ms.length sc) (.slice ro mrs.length rc))
      refine bodyPost_ret (v := .tuple #[.agg #[.int .i64 mk, .int .i64 mv, .string (bstr mg), .int .i64 mx, .bool mq, .int .i64 mr, .int .i64 me, .slice so ms.length sc, .slice ro mrs.length rc], .int .i64 er]) (by simp [results, Try.results9, go_sem, r0, r1, r2, r3, r4, r5, r6, r7, r8]) rfl ?_
      have hlt := HX3.out.lt
      exact ⟨.slice so ms.length sc, .slice ro mrs.length rc, rfl, strs9 HV6.out.1 HV6.out.2.1 hlt _ _ _ _ _ _ _ _ _, HV6.out.2.1.mono (by rw [HRB.out]; exact Nat.le_of_lt hlt), (HV6.out.2.2.far9 hlt _ _ _ _ _ _ _ _ _).mono (by rw [HRB.out]; exact Nat.le_of_lt hlt), HRB.out ▸ below9 HB6.out (Nat.le_refl _) _ _ _ _ _ _ _ _ _⟩
    · rw [decide_eq_false h130] at q130
      rw [if_neg h130] at HPK
      by_cases h131 : K = 131
      · rw [decide_eq_true h131] at q131
        have HPE := Lib.hid (show P = mtells s 2 from by rw [HPK.out, if_pos h131])
        have HAK := Lib.hid (fun W => mtells_any s 2 W HL.out.2)
        rw [← HPE.out] at HAK
        clear h130 h131 q132 q143 HPK
        unfold RetMsg msgV at HAK
        obtain ⟨er, her⟩ : ∃ er, P.1 = er := ⟨_, rfl⟩
        obtain ⟨m, hm⟩ : ∃ m, P.2 = m := ⟨_, rfl⟩
        obtain ⟨mk, mv, mg, mx, mq, mr, me, ms, mrs⟩ := m
        rw [her, hm] at HAK ⊢
        clear her hm
        go_enter Try.func9, Try.ntmps9
        go_upto_region 1 with fail
        rw [HRB.out, HW1.out]
        go_wp2_with (first | ((with_reducible refine (HPS.out _).mono ?_); rintro e w2 ⟨rfl, hb2⟩; have K2 := Lib.hid hb2; clear hb2) | ((with_reducible refine (HRT.out _).mono ?_); rintro e w3 ⟨rfl, hb3⟩; have K3 := Lib.hid (K2.out.trans (hb3.mono K2.out.size)); have HX3 := Lib.hid (HX1.out.below K3.out HX1.out.lt); have HB3 := Lib.hid (HB1.out.trans (K3.out.mono (Nat.le_of_lt HX1.out.lt))); clear hb3) | ((with_reducible refine (HAK.out w3).mono ?_); rintro e w6 ⟨vs, vr, rfl, hst, hli, hrw, hb6⟩; obtain ⟨so, sc, rfl⟩ := hst.shape; obtain ⟨ro, rc, rfl⟩ := hrw.shape; have HX6 := Lib.hid (HX3.out.below hb6 HX3.out.lt); have HB6 := Lib.hid (HB3.out.trans (hb6.mono (Nat.le_of_lt HX3.out.lt))); have HV6 := Lib.hid (And.intro hst (And.intro hli hrw)); obtain ⟨y0, yf0⟩ := CBox.at_ HX6.out 0 _ rfl; obtain ⟨y1, yf1⟩ := CBox.at_ HX6.out 1 _ rfl; obtain ⟨y2, yf2⟩ := CBox.at_ HX6.out 2 _ rfl; obtain ⟨y3, yf3⟩ := CBox.at_ HX6.out 3 _ rfl; obtain ⟨y4, yf4⟩ := CBox.at_ HX6.out 4 _ rfl; obtain ⟨y5, yf5⟩ := CBox.at_ HX6.out 5 _ rfl; obtain ⟨y6, yf6⟩ := CBox.at_ HX6.out 6 _ rfl; obtain ⟨y7, yf7⟩ := CBox.at_ HX6.out 7 _ rfl; obtain ⟨y8, yf8⟩ := CBox.at_ HX6.out 8 _ rfl; clear hst hli hrw hb6))
        obtain ⟨r0, r1, r2, r3, r4, r5, r6, r7, r8⟩ := ret9 (cells9 HX6.out (.int .i64 mk) (.int .i64 mv) (.string (bstr mg)) (.int .i64 mx) (.bool mq) (.int .i64 mr) (.int .i64 me) (.slice so ms.length sc) (.slice ro mrs.length rc))
        refine bodyPost_ret (v := .tuple #[.agg #[.int .i64 mk, .int .i64 mv, .string (bstr mg), .int .i64 mx, .bool mq, .int .i64 mr, .int .i64 me, .slice so ms.length sc, .slice ro mrs.length rc], .int .i64 er]) (by simp [results, Try.results9, go_sem, r0, r1, r2, r3, r4, r5, r6, r7, r8]) rfl ?_
        have hlt := HX3.out.lt
        exact ⟨.slice so ms.length sc, .slice ro mrs.length rc, rfl, strs9 HV6.out.1 HV6.out.2.1 hlt _ _ _ _ _ _ _ _ _, HV6.out.2.1.mono (by rw [HRB.out]; exact Nat.le_of_lt hlt), (HV6.out.2.2.far9 hlt _ _ _ _ _ _ _ _ _).mono (by rw [HRB.out]; exact Nat.le_of_lt hlt), HRB.out ▸ below9 HB6.out (Nat.le_refl _) _ _ _ _ _ _ _ _ _⟩
      · rw [decide_eq_false h131] at q131
        rw [if_neg h131] at HPK
        by_cases h132 : K = 132
        · rw [decide_eq_true h132] at q132
          have HPE := Lib.hid (show P = mtells s 3 from by rw [HPK.out, if_pos h132])
          have HAK := Lib.hid (fun W => mtells_any s 3 W HL.out.2)
          rw [← HPE.out] at HAK
          clear h130 h131 h132 q143 HPK
          unfold RetMsg msgV at HAK
          obtain ⟨er, her⟩ : ∃ er, P.1 = er := ⟨_, rfl⟩
          obtain ⟨m, hm⟩ : ∃ m, P.2 = m := ⟨_, rfl⟩
          obtain ⟨mk, mv, mg, mx, mq, mr, me, ms, mrs⟩ := m
          rw [her, hm] at HAK ⊢
          clear her hm
          go_enter Try.func9, Try.ntmps9
          go_upto_region 1 with fail
          rw [HRB.out, HW1.out]
          go_wp2_with (first | ((with_reducible refine (HPS.out _).mono ?_); rintro e w2 ⟨rfl, hb2⟩; have K2 := Lib.hid hb2; clear hb2) | ((with_reducible refine (HRT.out _).mono ?_); rintro e w3 ⟨rfl, hb3⟩; have K3 := Lib.hid (K2.out.trans (hb3.mono K2.out.size)); have HX3 := Lib.hid (HX1.out.below K3.out HX1.out.lt); have HB3 := Lib.hid (HB1.out.trans (K3.out.mono (Nat.le_of_lt HX1.out.lt))); clear hb3) | ((with_reducible refine (HAK.out w3).mono ?_); rintro e w6 ⟨vs, vr, rfl, hst, hli, hrw, hb6⟩; obtain ⟨so, sc, rfl⟩ := hst.shape; obtain ⟨ro, rc, rfl⟩ := hrw.shape; have HX6 := Lib.hid (HX3.out.below hb6 HX3.out.lt); have HB6 := Lib.hid (HB3.out.trans (hb6.mono (Nat.le_of_lt HX3.out.lt))); have HV6 := Lib.hid (And.intro hst (And.intro hli hrw)); obtain ⟨y0, yf0⟩ := CBox.at_ HX6.out 0 _ rfl; obtain ⟨y1, yf1⟩ := CBox.at_ HX6.out 1 _ rfl; obtain ⟨y2, yf2⟩ := CBox.at_ HX6.out 2 _ rfl; obtain ⟨y3, yf3⟩ := CBox.at_ HX6.out 3 _ rfl; obtain ⟨y4, yf4⟩ := CBox.at_ HX6.out 4 _ rfl; obtain ⟨y5, yf5⟩ := CBox.at_ HX6.out 5 _ rfl; obtain ⟨y6, yf6⟩ := CBox.at_ HX6.out 6 _ rfl; obtain ⟨y7, yf7⟩ := CBox.at_ HX6.out 7 _ rfl; obtain ⟨y8, yf8⟩ := CBox.at_ HX6.out 8 _ rfl; clear hst hli hrw hb6))
          obtain ⟨r0, r1, r2, r3, r4, r5, r6, r7, r8⟩ := ret9 (cells9 HX6.out (.int .i64 mk) (.int .i64 mv) (.string (bstr mg)) (.int .i64 mx) (.bool mq) (.int .i64 mr) (.int .i64 me) (.slice so ms.length sc) (.slice ro mrs.length rc))
          refine bodyPost_ret (v := .tuple #[.agg #[.int .i64 mk, .int .i64 mv, .string (bstr mg), .int .i64 mx, .bool mq, .int .i64 mr, .int .i64 me, .slice so ms.length sc, .slice ro mrs.length rc], .int .i64 er]) (by simp [results, Try.results9, go_sem, r0, r1, r2, r3, r4, r5, r6, r7, r8]) rfl ?_
          have hlt := HX3.out.lt
          exact ⟨.slice so ms.length sc, .slice ro mrs.length rc, rfl, strs9 HV6.out.1 HV6.out.2.1 hlt _ _ _ _ _ _ _ _ _, HV6.out.2.1.mono (by rw [HRB.out]; exact Nat.le_of_lt hlt), (HV6.out.2.2.far9 hlt _ _ _ _ _ _ _ _ _).mono (by rw [HRB.out]; exact Nat.le_of_lt hlt), HRB.out ▸ below9 HB6.out (Nat.le_refl _) _ _ _ _ _ _ _ _ _⟩
        · rw [decide_eq_false h132] at q132
          rw [if_neg h132] at HPK
          by_cases h143 : K = 143
          · rw [decide_eq_true h143] at q143
            obtain ⟨N, hN⟩ : ∃ N, numAt s 6 2 = N := ⟨_, rfl⟩
            have hpe := HPK.out
            rw [if_pos h143, hN] at hpe
            have HPE0 := Lib.hid hpe
            have HNM := Lib.hid (fun W => num6_any s N W HL.out.1 (Nat.le_trans HL.out.2 (by decide)) hN)
            have HRC := Lib.hid (fun W => show Calls Try.prog 20 #[.string (bstr (s.drop 8)), .int .i64 N, .int .i64 16] W _ from records_any (s.drop 8) N 16 W (by rw [List.length_drop]; have := HL.out.2; omega))
            unfold RetRecsE at HRC
            obtain ⟨er, her⟩ : ∃ er, (precs (s.drop 8) N 16).1 = er := ⟨_, rfl⟩
            obtain ⟨R, hR⟩ : ∃ R, (precs (s.drop 8) N 16).2 = R := ⟨_, rfl⟩
            rw [her, hR] at HRC HPE0
            have l8 : (8 : Int) ≤ s.length := by have := HL.out.1; omega
            have l8' : 8 ≤ s.length := HL.out.1
            have ht8 : List.take (s.length - 8) (s.drop 8) = s.drop 8 := List.take_of_length_le (by simp)
            clear h130 h131 h132 h143 HPK her hR hN hpe
            by_cases h0 : er = 0
            · subst h0
              have HPE := Lib.hid (show P = (0, ⟨2, 2, [], 0, false, 0, 0, [], R⟩) from by rw [HPE0.out, if_pos rfl])
              clear HPE0
              go_enter Try.func9, Try.ntmps9
              go_upto_region 1 with fail
              rw [HRB.out, HW1.out]
              go_wp2_with (first | ((with_reducible refine (HPS.out _).mono ?_); rintro e w2 ⟨rfl, hb2⟩; have K2 := Lib.hid hb2; clear hb2) | ((with_reducible refine (HRT.out _).mono ?_); rintro e w3 ⟨rfl, hb3⟩; have K3 := Lib.hid (K2.out.trans (hb3.mono K2.out.size)); have HX3 := Lib.hid (HX1.out.below K3.out HX1.out.lt); have HB3 := Lib.hid (HB1.out.trans (K3.out.mono (Nat.le_of_lt HX1.out.lt))); clear hb3) | ((with_reducible refine (HNM.out _).mono ?_); rintro e w4 ⟨rfl, hb4⟩; have HX4 := Lib.hid (HX3.out.below hb4 HX3.out.lt); have HB4 := Lib.hid (HB3.out.trans (hb4.mono (Nat.le_of_lt HX3.out.lt))); clear hb4) | ((with_reducible refine (HRC.out w4).mono ?_); rintro e w6 ⟨vr, rfl, hrw, hb6⟩; obtain ⟨ro, rc, rfl⟩ := hrw.shape; have HX6 := Lib.hid (HX4.out.below hb6 HX4.out.lt); have HB6 := Lib.hid (HB4.out.trans (hb6.mono (Nat.le_of_lt HX4.out.lt))); have HV6 := Lib.hid hrw; obtain ⟨y0, yf0⟩ := CBox.at_ HX6.out 0 _ rfl; obtain ⟨y1, yf1⟩ := CBox.at_ HX6.out 1 _ rfl; obtain ⟨y2, yf2⟩ := CBox.at_ HX6.out 2 _ rfl; obtain ⟨y3, yf3⟩ := CBox.at_ HX6.out 3 _ rfl; obtain ⟨y4, yf4⟩ := CBox.at_ HX6.out 4 _ rfl; obtain ⟨y5, yf5⟩ := CBox.at_ HX6.out 5 _ rfl; obtain ⟨y6, yf6⟩ := CBox.at_ HX6.out 6 _ rfl; obtain ⟨y7, yf7⟩ := CBox.at_ HX6.out 7 _ rfl; obtain ⟨y8, yf8⟩ := CBox.at_ HX6.out 8 _ rfl; clear hrw hb6))
              obtain ⟨r0, r1, r2, r3, r4, r5, r6, r7, r8⟩ := ret9 (cells9 HX6.out (.int .i64 2) (.int .i64 2) (.string (bstr [])) (.int .i64 0) (.bool false) (.int .i64 0) (.int .i64 0) (.slice none 0 0) (.slice ro R.length rc))
              refine bodyPost_ret (v := .tuple #[.agg #[.int .i64 2, .int .i64 2, .string (bstr []), .int .i64 0, .bool false, .int .i64 0, .int .i64 0, .slice none 0 0, .slice ro R.length rc], .int .i64 0]) (by simp [results, Try.results9, go_sem, r0, r1, r2, r3, r4, r5, r6, r7, r8]) rfl ?_
              rw [HPE.out]
              have hlt := HX4.out.lt
              exact ⟨_, _, rfl, Strs.nil _, fun j hj => by simp [Value.ownBlock] at hj, (HV6.out.far9 hlt _ _ _ _ _ _ _ _ _).mono (by rw [HRB.out]; exact Nat.le_of_lt hlt), HRB.out ▸ below9 HB6.out (Nat.le_refl _) _ _ _ _ _ _ _ _ _⟩
            · have HPE := Lib.hid (show P = (er, .zero) from by rw [HPE0.out, if_neg h0])
              have e0 : (er != 0) = true := bne_iff_ne.2 h0
              clear HPE0 h0
              go_enter Try.func9, Try.ntmps9
              go_upto_region 1 with fail
              rw [HRB.out, HW1.out]
              go_wp2_with (first | ((with_reducible refine (HPS.out _).mono ?_); rintro e w2 ⟨rfl, hb2⟩; have K2 := Lib.hid hb2; clear hb2) | ((with_reducible refine (HRT.out _).mono ?_); rintro e w3 ⟨rfl, hb3⟩; have K3 := Lib.hid (K2.out.trans (hb3.mono K2.out.size)); have HX3 := Lib.hid (HX1.out.below K3.out HX1.out.lt); have HB3 := Lib.hid (HB1.out.trans (K3.out.mono (Nat.le_of_lt HX1.out.lt))); clear hb3) | ((with_reducible refine (HNM.out _).mono ?_); rintro e w4 ⟨rfl, hb4⟩; have HX4 := Lib.hid (HX3.out.below hb4 HX3.out.lt); have HB4 := Lib.hid (HB3.out.trans (hb4.mono (Nat.le_of_lt HX3.out.lt))); clear hb4) | ((with_reducible refine (HRC.out w4).mono ?_); rintro e w6 ⟨vr, rfl, hrw, hb6⟩; obtain ⟨ro, rc, rfl⟩ := hrw.shape; have HX6 := Lib.hid (HX4.out.below hb6 HX4.out.lt); have HB6 := Lib.hid (HB4.out.trans (hb6.mono (Nat.le_of_lt HX4.out.lt))); obtain ⟨y0, yf0⟩ := CBox.at_ HX6.out 0 _ rfl; obtain ⟨y1, yf1⟩ := CBox.at_ HX6.out 1 _ rfl; obtain ⟨y2, yf2⟩ := CBox.at_ HX6.out 2 _ rfl; obtain ⟨y3, yf3⟩ := CBox.at_ HX6.out 3 _ rfl; obtain ⟨y4, yf4⟩ := CBox.at_ HX6.out 4 _ rfl; obtain ⟨y5, yf5⟩ := CBox.at_ HX6.out 5 _ rfl; obtain ⟨y6, yf6⟩ := CBox.at_ HX6.out 6 _ rfl; obtain ⟨y7, yf7⟩ := CBox.at_ HX6.out 7 _ rfl; obtain ⟨y8, yf8⟩ := CBox.at_ HX6.out 8 _ rfl; clear hrw hb6))
              obtain ⟨r0, r1, r2, r3, r4, r5, r6, r7, r8⟩ := ret9 (cells9 HX6.out (.int .i64 0) (.int .i64 0) (.string (bstr [])) (.int .i64 0) (.bool false) (.int .i64 0) (.int .i64 0) (.slice none 0 0) (.slice none 0 0))
              refine bodyPost_ret (v := .tuple #[.agg #[.int .i64 0, .int .i64 0, .string (bstr []), .int .i64 0, .bool false, .int .i64 0, .int .i64 0, .slice none 0 0, .slice none 0 0], .int .i64 er]) (by simp [results, Try.results9, go_sem, r0, r1, r2, r3, r4, r5, r6, r7, r8]) rfl ?_
              rw [HPE.out]
              exact retMsg_bad w _ er (HRB.out ▸ below9 HB6.out (Nat.le_refl _) _ _ _ _ _ _ _ _ _)
          · rw [decide_eq_false h143] at q143
            rw [if_neg h143] at HPK
            have HPE := Lib.hid HPK.out
            clear h130 h131 h132 h143 HPK
            go_enter Try.func9, Try.ntmps9
            go_upto_region 1 with fail
            rw [HRB.out, HW1.out]
            go_wp2_with (first | ((with_reducible refine (HPS.out _).mono ?_); rintro e w2 ⟨rfl, hb2⟩; have K2 := Lib.hid hb2; clear hb2) | (((with_reducible refine (HRT.out _).mono ?_); rintro e w3 ⟨rfl, hb3⟩; have K3 := Lib.hid (K2.out.trans (hb3.mono K2.out.size)); have HX3 := Lib.hid (HX1.out.below K3.out HX1.out.lt); have HB3 := Lib.hid (HB1.out.trans (K3.out.mono (Nat.le_of_lt HX1.out.lt))); clear hb3); obtain ⟨y0, yf0⟩ := CBox.at_ HX3.out 0 _ rfl; obtain ⟨y1, yf1⟩ := CBox.at_ HX3.out 1 _ rfl; obtain ⟨y2, yf2⟩ := CBox.at_ HX3.out 2 _ rfl; obtain ⟨y3, yf3⟩ := CBox.at_ HX3.out 3 _ rfl; obtain ⟨y4, yf4⟩ := CBox.at_ HX3.out 4 _ rfl; obtain ⟨y5, yf5⟩ := CBox.at_ HX3.out 5 _ rfl; obtain ⟨y6, yf6⟩ := CBox.at_ HX3.out 6 _ rfl; obtain ⟨y7, yf7⟩ := CBox.at_ HX3.out 7 _ rfl; obtain ⟨y8, yf8⟩ := CBox.at_ HX3.out 8 _ rfl))
            obtain ⟨r0, r1, r2, r3, r4, r5, r6, r7, r8⟩ := ret9 (cells9 HX3.out (.int .i64 0) (.int .i64 0) (.string (bstr [])) (.int .i64 0) (.bool false) (.int .i64 0) (.int .i64 0) (.slice none 0 0) (.slice none 0 0))
            refine bodyPost_ret (v := .tuple #[.agg #[.int .i64 0, .int .i64 0, .string (bstr []), .int .i64 0, .bool false, .int .i64 0, .int .i64 0, .slice none 0 0, .slice none 0 0], .int .i64 3]) (by simp [results, Try.results9, go_sem, r0, r1, r2, r3, r4, r5, r6, r7, r8]) rfl ?_
            rw [HPE.out]
            exact retMsg_bad w _ 3 (HRB.out ▸ below9 HB3.out (Nat.le_refl _) _ _ _ _ _ _ _ _ _)
end Go.Proofs.Ythkibgdeibolfaa
