/- igmp.Encode. -/
import Derived.Test.YthkogdgfkhhleaaJTell8
import Derived.Test.YthkogdgfkhhleaaJFill
namespace Go.Proofs.Ythkogdgfkhhleaa
open Go.RowKit Go.Sort
set_option maxRecDepth 20000
set_option maxRecDepth 20000
attribute [local go_sem] bstr_size bstr_extract bstr_toList bstr_get

theorem bytesM_len (m : Msg) (h : mayM m = true) : 8 ≤ (bytesM m).length ∧ (bytesM m).length ≤ 40000 := by
  have hg4 : (decide (m.group = []) || grp m.group 4) = true → (grpB m).length = 4 := by
    intro hg
    unfold grpB
    by_cases hz : m.group = []
    · rw [if_pos hz]; rfl
    · rw [if_neg hz]
      rw [decide_eq_false hz, Bool.false_or] at hg
      unfold grp at hg
      simp only [Bool.and_eq_true, decide_eq_true_eq] at hg
      exact hg.1
  unfold mayM at h
  unfold bytesM
  by_cases hk : m.kind = 1
  · rw [if_pos hk] at h ⊢
    simp only [Bool.and_eq_true] at h
    have h4 := hg4 h.1.1
    by_cases hv : m.version = 3
    · rw [if_pos hv] at h
      rw [if_neg (by omega)]
      simp only [Bool.and_eq_true] at h
      have hs := h.2.1.2
      unfold sized at hs
      simp only [Bool.and_eq_true, decide_eq_true_eq, List.all_eq_true] at hs
      have := flat_len m.sources 60 4 hs.1 (fun a ha => by rw [hs.2 a ha]; exact Nat.le_refl _)
      simp only [List.length_append, ofN_length, h4, List.length_cons, List.length_nil]
      omega
    · by_cases hv' : m.version < 3
      · rw [if_pos hv']
        simp only [List.length_append, ofN_length, h4, List.length_cons, List.length_nil]
        omega
      · rw [if_neg hv] at h
        have := h.2
        simp only [Bool.and_eq_true, Bool.or_eq_true, decide_eq_true_eq] at this
        omega
  · rw [if_neg hk] at h ⊢
    by_cases h23 : m.kind = 2 ∧ m.version = 3
    · rw [if_pos h23] at h
      rw [if_neg (by omega), if_pos h23.2]
      simp only [Bool.and_eq_true] at h
      have hb := h.1.2
      unfold bodyOk at hb
      simp only [Bool.and_eq_true, decide_eq_true_eq, List.all_eq_true] at hb
      have := bodyB_len 4 (by decide) m.records hb.2
      have := hb.1.2
      simp only [List.length_append, ofN_length, List.length_cons, List.length_nil]
      omega
    · rw [if_neg h23] at h
      simp only [Bool.and_eq_true] at h
      have h4 := hg4 (by rw [h.1.2, Bool.or_true])
      have hh := h.1.1
      simp only [Bool.and_eq_true, Bool.or_eq_true, decide_eq_true_eq] at hh
      by_cases h3 : m.kind = 3
      · rw [if_pos h3]; simp only [List.length_append, h4, List.length_cons, List.length_nil]; omega
      · rw [if_neg h3, if_neg (by omega)]
        by_cases h1 : m.version = 1
        · rw [if_pos h1]; simp only [List.length_append, h4, List.length_cons, List.length_nil]; omega
        · rw [if_neg h1]; simp only [List.length_append, h4, List.length_cons, List.length_nil]; omega

theorem fill0_any (s : Str) (w : World) (h4 : 4 ≤ s.length) (hs : s.length ≤ 1000000) :
    Calls Try.prog 35 #[.string (bstr []), .string (bstr s), .int .i64 2] w fun e w' => e = .returned (.tuple #[.string (bstr (fillS [] s 2)), .int .i64 0]) ∧ Below w.heap.size w w' :=
  fill_any [] s w rfl (Nat.zero_le _) h4 hs

set_option maxHeartbeats 4000000 in
theorem encode_wide (k v mx r ev : Int) (g : Str) (q : Bool) (so : Option Addr) (L : List Str) (sc : Nat) (ro : Option Addr) (R : List Rec) (rc : Nat) (w : World)
    (hs : Strs w (.slice so L.length sc) L) (hrs : Recs w (.slice ro R.length rc) R) (hg : g.length ≤ 140737488351232) (hq : k = 1 → g.length ≤ 10000000 ∧ L.flatten.length ≤ 10000000 ∧ L.length ≤ 10000000 ∧ mx < 2 ^ 63 ∧ ev < 2 ^ 63) :
    Calls Try.prog 16 #[.agg (msgCells k v g mx q r ev so L.length sc ro R.length rc)] w (RetBody w (penc ⟨k, v, g, mx, q, r, ev, L, R⟩).1 (penc ⟨k, v, g, mx, q, r, ev, L, R⟩).2) := by
  have b0 : (⟨#[]⟩ : ByteArray) = bstr [] := bstr_nil.symm
  obtain ⟨W1, hW1⟩ : ∃ W1, w.alloc (.cells (msgCells k v g mx q r ev so L.length sc ro R.length rc) 27) = W1 := ⟨_, rfl⟩
  obtain ⟨mb, hmb⟩ : ∃ mb, w.heap.size = mb := ⟨_, rfl⟩
  obtain ⟨W2, hW2⟩ : ∃ W2, W1.alloc (.cells #[.pointer none, .slice none 0 0, .bool false] 62) = W2 := ⟨_, rfl⟩
  obtain ⟨b, hb⟩ : ∃ b, W1.heap.size = b := ⟨_, rfl⟩
  have hb1 : Below w.heap.size w W1 := by rw [← hW1]; exact (Below.refl _ _).alloc (Nat.le_refl _) _
  have X1 : CBox W1 mb 27 (msgCells k v g mx q r ev so L.length sc ro R.length rc) := by rw [← hW1]; exact CBox.new _ hmb.symm
  have hb2 : Below W1.heap.size W1 W2 := by rw [← hW2]; exact (Below.refl _ _).alloc (Nat.le_refl _) _
  have hw2 : Wr W2 b [] false := by rw [← hW2]; exact Wr.new hb.symm
  have X2 := X1.below hb2 X1.lt
  have hs2 := (hs.mono hb1).mono hb2
  have ha2 : Apart W2 (.slice so L.length sc) L b := Apart.of_below hs (by rw [← hb]; exact hb1.size)
  have hr2 := (hrs.mono hb1).mono hb2
  have hlt : mb < b := hb ▸ X1.lt
  have HBW := Lib.hid (show Below mb w W2 from by rw [← hmb]; exact hb1.trans (hb2.mono hb1.size))
  have HW1 := Lib.hid hW1; have HW2 := Lib.hid hW2; have HMB := Lib.hid hmb; have HBB := Lib.hid (show mb + 1 = b from by rw [← hb, ← hW1, World.size_alloc, hmb])
  have HLT := Lib.hid hlt
  have HX2 := Lib.hid X2
  obtain ⟨P, hP⟩ : ∃ P, penc ⟨k, v, g, mx, q, r, ev, L, R⟩ = P := ⟨_, rfl⟩
  have HLEN := Lib.hid (bytesM_len ⟨k, v, g, mx, q, r, ev, L, R⟩)
  obtain ⟨B, hB⟩ : ∃ B, bytesM ⟨k, v, g, mx, q, r, ev, L, R⟩ = B := ⟨_, rfl⟩
  obtain ⟨y, hy⟩ : ∃ y, mayM ⟨k, v, g, mx, q, r, ev, L, R⟩ = y := ⟨_, rfl⟩
  rw [hB, hy] at HLEN
  have HPY := Lib.hid (show P = if y then (fillS [] B 2, 0) else ([], 1) from by rw [← hP, ← hB, ← hy]; rfl)
  rw [hP]
  by_cases hk : k = 1
  · subst hk
    obtain ⟨hg1, hL, hn, hmx, hev⟩ := hq rfl
    have HAK := Lib.hid (ask_any 1 v mx r ev g q so L sc ro R.length rc b W2 hw2 hs2 ha2 hg1 hL hn hmx hev R rfl)
    unfold RetAsk at HAK
    rw [hB, hy] at HAK
    have HY := Lib.hid hy
    clear hs hrs hg hg1 hq hL hn hmx hev hW1 hW2 hmb hb hb1 X1 hb2 hw2 X2 hs2 ha2 hr2 hlt hP hB hy
    go_enter Try.func16, Try.ntmps16
    go_upto_region 2 with fail
    rw [HMB.out, HW1.out, HBB.out, HW2.out]
    obtain ⟨x0, xf0⟩ := CBox.at_ HX2.out 0 _ rfl
    obtain ⟨x1, xf1⟩ := CBox.at_ HX2.out 1 _ rfl
    obtain ⟨x2, xf2⟩ := CBox.at_ HX2.out 2 _ rfl
    obtain ⟨x3, xf3⟩ := CBox.at_ HX2.out 3 _ rfl
    obtain ⟨x4, xf4⟩ := CBox.at_ HX2.out 4 _ rfl
    obtain ⟨x5, xf5⟩ := CBox.at_ HX2.out 5 _ rfl
    obtain ⟨x6, xf6⟩ := CBox.at_ HX2.out 6 _ rfl
    obtain ⟨x7, xf7⟩ := CBox.at_ HX2.out 7 _ rfl
    obtain ⟨x8, xf8⟩ := CBox.at_ HX2.out 8 _ rfl
    go_upto_region 5 with ((with_reducible refine HAK.out.mono ?_); rintro e w3 ⟨⟨_, rfl⟩, S, bad, hw3, hb3, hbad, hS⟩; have HW3 := Lib.hid hw3; have HB3 := Lib.hid (HBW.out.trans (hb3.mono (Nat.le_of_lt HLT.out))); have HBAD := Lib.hid (And.intro hbad hS); clear hw3 hb3 hbad hS x0 xf0 x1 xf1 x2 xf2 x3 xf3 x4 xf4 x5 xf5 x6 xf6 x7 xf7 x8 xf8)
    obtain ⟨p, vv, hbk, hown⟩ := HW3.out.p
    obtain ⟨y2, yf2⟩ := hbk.at_ 2 _ rfl
    clear hbk hown
    cases bad
    · have hy1 : y = true := by
        cases y
        · exact absurd HBAD.out.1 (by decide)
        · rfl
      subst hy1
      obtain rfl : S = B := HBAD.out.2 rfl
      have HTX := Lib.hid (wtext_any b S false w3 HW3.out (Nat.le_trans (HLEN.out rfl).2 (by decide)))
      have HF := Lib.hid (fun W => fill0_any S W (Nat.le_trans (by decide) (HLEN.out rfl).1) (Nat.le_trans (HLEN.out rfl).2 (by decide)))
      rw [if_pos rfl] at HPY
      go_wp2_with (first | ((with_reducible refine HTX.out.mono ?_); rintro e w4 ⟨rfl, hb4⟩; have HB4 := Lib.hid (HB3.out.trans (hb4.mono (Nat.le_of_lt HLT.out))); have HS4 := Lib.hid (show mb ≤ w4.heap.size from Nat.le_trans (Nat.le_of_lt (Nat.lt_trans HLT.out HW3.out.lt)) hb4.size); clear hb4) | ((with_reducible refine (HF.out _).mono ?_); rintro e w5 ⟨rfl, hb5⟩; have HB5 := Lib.hid (HB4.out.trans (hb5.mono HS4.out)); clear hb5))
      go_ret2
      exact ⟨by rw [HPY.out]; rfl, HMB.out ▸ HB5.out⟩
    · have hy1 : y = false := by
        cases y
        · rfl
        · exact absurd HBAD.out.1 (by decide)
      subst hy1
      have HPE := Lib.hid (show P = ([], 1) from by rw [HPY.out]; rfl)
      go_wp2_with fail
      go_ret2
      exact body_bad w _ P HPE.out (HMB.out ▸ HB3.out)
  · have HAK := Lib.hid (tell_any k v mx r ev g q so L sc ro R rc b W2 hw2 hg hr2 hk)
    unfold RetAsk at HAK
    rw [hB, hy] at HAK
    have HY := Lib.hid hy
    have e1 : (k == 1) = false := beq_eq_false_iff_ne.2 hk
    clear hs hrs hg hq hW1 hW2 hmb hb hb1 X1 hb2 hw2 X2 hs2 ha2 hr2 hlt hP hB hy hk
    go_enter Try.func16, Try.ntmps16
    go_upto_region 2 with fail
    rw [HMB.out, HW1.out, HBB.out, HW2.out]
    obtain ⟨x0, xf0⟩ := CBox.at_ HX2.out 0 _ rfl
    obtain ⟨x1, xf1⟩ := CBox.at_ HX2.out 1 _ rfl
    obtain ⟨x2, xf2⟩ := CBox.at_ HX2.out 2 _ rfl
    obtain ⟨x3, xf3⟩ := CBox.at_ HX2.out 3 _ rfl
    obtain ⟨x4, xf4⟩ := CBox.at_ HX2.out 4 _ rfl
    obtain ⟨x5, xf5⟩ := CBox.at_ HX2.out 5 _ rfl
    obtain ⟨x6, xf6⟩ := CBox.at_ HX2.out 6 _ rfl
    obtain ⟨x7, xf7⟩ := CBox.at_ HX2.out 7 _ rfl
    obtain ⟨x8, xf8⟩ := CBox.at_ HX2.out 8 _ rfl
    go_upto_region 5 with ((with_reducible refine HAK.out.mono ?_); rintro e w3 ⟨⟨_, rfl⟩, S, bad, hw3, hb3, hbad, hS⟩; have HW3 := Lib.hid hw3; have HB3 := Lib.hid (HBW.out.trans (hb3.mono (Nat.le_of_lt HLT.out))); have HBAD := Lib.hid (And.intro hbad hS); clear hw3 hb3 hbad hS x0 xf0 x1 xf1 x2 xf2 x3 xf3 x4 xf4 x5 xf5 x6 xf6 x7 xf7 x8 xf8)
    obtain ⟨p, vv, hbk, hown⟩ := HW3.out.p
    obtain ⟨y2, yf2⟩ := hbk.at_ 2 _ rfl
    clear hbk hown
    cases bad
    · have hy1 : y = true := by
        cases y
        · exact absurd HBAD.out.1 (by decide)
        · rfl
      subst hy1
      obtain rfl : S = B := HBAD.out.2 rfl
      have HTX := Lib.hid (wtext_any b S false w3 HW3.out (Nat.le_trans (HLEN.out rfl).2 (by decide)))
      have HF := Lib.hid (fun W => fill0_any S W (Nat.le_trans (by decide) (HLEN.out rfl).1) (Nat.le_trans (HLEN.out rfl).2 (by decide)))
      rw [if_pos rfl] at HPY
      go_wp2_with (first | ((with_reducible refine HTX.out.mono ?_); rintro e w4 ⟨rfl, hb4⟩; have HB4 := Lib.hid (HB3.out.trans (hb4.mono (Nat.le_of_lt HLT.out))); have HS4 := Lib.hid (show mb ≤ w4.heap.size from Nat.le_trans (Nat.le_of_lt (Nat.lt_trans HLT.out HW3.out.lt)) hb4.size); clear hb4) | ((with_reducible refine (HF.out _).mono ?_); rintro e w5 ⟨rfl, hb5⟩; have HB5 := Lib.hid (HB4.out.trans (hb5.mono HS4.out)); clear hb5))
      go_ret2
      exact ⟨by rw [HPY.out]; rfl, HMB.out ▸ HB5.out⟩
    · have hy1 : y = false := by
        cases y
        · rfl
        · exact absurd HBAD.out.1 (by decide)
      subst hy1
      have HPE := Lib.hid (show P = ([], 1) from by rw [HPY.out]; rfl)
      go_wp2_with fail
      go_ret2
      exact body_bad w _ P HPE.out (HMB.out ▸ HB3.out)
theorem encode_any (k v mx r ev : Int) (g : Str) (q : Bool) (so : Option Addr) (L : List Str) (sc : Nat) (ro : Option Addr) (R : List Rec) (rc : Nat) (w : World)
    (hs : Strs w (.slice so L.length sc) L) (hrs : Recs w (.slice ro R.length rc) R) (hg : g.length ≤ 10000000) (hL : L.flatten.length ≤ 10000000) (hn : L.length ≤ 10000000) (hmx : mx < 2 ^ 63) (hev : ev < 2 ^ 63) :
    Calls Try.prog 16 #[.agg (msgCells k v g mx q r ev so L.length sc ro R.length rc)] w (RetBody w (penc ⟨k, v, g, mx, q, r, ev, L, R⟩).1 (penc ⟨k, v, g, mx, q, r, ev, L, R⟩).2) :=
  encode_wide k v mx r ev g q so L sc ro R rc w hs hrs (Nat.le_trans hg (by decide)) (fun _ => ⟨hg, hL, hn, hmx, hev⟩)
end Go.Proofs.Ythkogdgfkhhleaa
