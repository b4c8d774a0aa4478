/- The walk of IgmpBack. -/
import Derived.Test.YthkogdgfkhhleaaJLawDec
import Derived.Test.YthkogdgfkhhleaaJLawRecs
import Derived.Test.YthkogdgfkhhleaaJBack
namespace Go.Proofs.Ythkogdgfkhhleaa
open Go.RowKit Go.Sort
set_option maxRecDepth 20000
set_option maxRecDepth 20000
attribute [local go_sem] bstr_size bstr_extract bstr_toList bstr_get

theorem fill_len (m : Msg) (h : mayM m = true) : (fillS [] (bytesM m) 2).length ≤ 40000 ∧ 8 ≤ (fillS [] (bytesM m) 2).length := by
  have hl := bytesM_len m h
  rw [fillS_length [] _ 2 (by omega)]
  exact ⟨hl.2, hl.1⟩
set_option maxHeartbeats 4000000 in
theorem law_back (k v mx r ev : Int) (g : Str) (q : Bool) (so : Option Addr) (L : List Str) (sc : Nat) (ro : Option Addr) (R : List Rec) (rc : Nat) (w : World) (hs : Strs w (.slice so L.length sc) L) (hr : R.length ≤ 40 → Recs w (.slice ro R.length rc) R)
    (hg : g.length ≤ 1048576) (hL : L.flatten.length + L.length ≤ 1048576) (hmx : mx < 2 ^ 63) (hev : ev < 2 ^ 63) :
    Calls Try.prog 6 #[.agg (msgCells k v g mx q r ev so L.length sc ro R.length rc)] w (YesR w) := by
  have HLV := Lib.hid live_yes
  have b0 : (⟨#[]⟩ : ByteArray) = bstr [] := bstr_nil.symm
  obtain ⟨b1, hb1⟩ : ∃ b, w.heap.size = b := ⟨_, rfl⟩
  obtain ⟨W1, hW1⟩ : ∃ W1, w.alloc (.cells (msgCells k v g mx q r ev so L.length sc ro R.length rc) 27) = W1 := ⟨_, rfl⟩
  have k1 : Below w.heap.size w W1 := by rw [← hW1]; exact (Below.refl _ _).alloc (Nat.le_refl _) _
  have HX1 := Lib.hid (show CBox W1 b1 27 (msgCells k v g mx q r ev so L.length sc ro R.length rc) from by rw [← hW1]; exact CBox.new _ hb1.symm)
  have HB1 := Lib.hid (show Below b1 w W1 from hb1 ▸ k1)
  have HBB := Lib.hid hb1; have HW1 := Lib.hid hW1
  have HFR := Lib.hid (few8_any k v mx r ev g q so L sc ro R rc W1 (fun h => (hr h).mono k1))
  obtain ⟨f, hf⟩ : ∃ f, fewB L R = f := ⟨_, rfl⟩
  rw [hf] at HFR
  unfold RetF at HFR
  cases f
  · clear hs hr hg hL hmx hev hb1 hW1 k1 hf
    go_enter Try.func6, Try.ntmps6
    go_upto_region 1 with fail
    rw [HBB.out, HW1.out]
    obtain ⟨x0, xf0⟩ := CBox.at_ HX1.out 0 _ rfl
    obtain ⟨x1, xf1⟩ := CBox.at_ HX1.out 1 _ rfl
    obtain ⟨x2, xf2⟩ := CBox.at_ HX1.out 2 _ rfl
    obtain ⟨x3, xf3⟩ := CBox.at_ HX1.out 3 _ rfl
    obtain ⟨x4, xf4⟩ := CBox.at_ HX1.out 4 _ rfl
    obtain ⟨x5, xf5⟩ := CBox.at_ HX1.out 5 _ rfl
    obtain ⟨x6, xf6⟩ := CBox.at_ HX1.out 6 _ rfl
    obtain ⟨x7, xf7⟩ := CBox.at_ HX1.out 7 _ rfl
    obtain ⟨x8, xf8⟩ := CBox.at_ HX1.out 8 _ rfl
    go_wp2_with (first | ((with_reducible refine HFR.out.mono ?_); rintro e w2 ⟨rfl, hb2⟩; have HB2 := Lib.hid (HB1.out.trans (hb2.mono (Nat.le_of_lt HX1.out.lt))); have HS2 := Lib.hid (Nat.le_trans (Nat.le_of_lt HX1.out.lt) hb2.size); clear hb2) | ((with_reducible refine (HLV.out _).mono ?_); rintro e w3 ⟨rfl, hb3⟩; have HB3 := Lib.hid (HB2.out.trans (hb3.mono HS2.out)); clear hb3))
    go_ret
    exact ⟨rfl, HBB.out ▸ HB3.out⟩
  · have h40 : R.length ≤ 40 := by unfold fewB at hf; simp only [Bool.and_eq_true, decide_eq_true_eq] at hf; exact hf.1.2
    have hrr := hr h40
    have HSR := Lib.hid (fun W (hb : Below W1.heap.size W1 W) => And.intro ((hs.mono k1).mono hb) ((hrr.mono k1).mono hb))
    have HEN := Lib.hid (fun W (hb : Below W1.heap.size W1 W) => encode_any k v mx r ev g q so L sc ro R rc W ((hs.mono k1).mono hb) ((hrr.mono k1).mono hb) (by omega) (by omega) (by omega) hmx hev)
    obtain ⟨y, hy⟩ : ∃ y, mayM ⟨k, v, g, mx, q, r, ev, L, R⟩ = y := ⟨_, rfl⟩
    have RF := Lib.hid (Below.refl W1.heap.size W1)
    cases y
    · rw [show penc ⟨k, v, g, mx, q, r, ev, L, R⟩ = ([], 1) from by unfold penc; rw [hy]; rfl] at HEN
      unfold RetBody at HEN
      clear hs hr hg hL hmx hev hb1 hW1 k1 hf h40 hrr hy
      go_enter Try.func6, Try.ntmps6
      go_upto_region 1 with fail
      rw [HBB.out, HW1.out]
      obtain ⟨x0, xf0⟩ := CBox.at_ HX1.out 0 _ rfl
      obtain ⟨x1, xf1⟩ := CBox.at_ HX1.out 1 _ rfl
      obtain ⟨x2, xf2⟩ := CBox.at_ HX1.out 2 _ rfl
      obtain ⟨x3, xf3⟩ := CBox.at_ HX1.out 3 _ rfl
      obtain ⟨x4, xf4⟩ := CBox.at_ HX1.out 4 _ rfl
      obtain ⟨x5, xf5⟩ := CBox.at_ HX1.out 5 _ rfl
      obtain ⟨x6, xf6⟩ := CBox.at_ HX1.out 6 _ rfl
      obtain ⟨x7, xf7⟩ := CBox.at_ HX1.out 7 _ rfl
      obtain ⟨x8, xf8⟩ := CBox.at_ HX1.out 8 _ rfl
      go_wp2_with (first
        | ((with_reducible refine HFR.out.mono ?_); rintro e w2 ⟨rfl, hb2⟩; have K2 := Lib.hid hb2; have HX2 := Lib.hid (HX1.out.below hb2 HX1.out.lt); clear hb2 x0 xf0 x1 xf1 x2 xf2 x3 xf3 x4 xf4 x5 xf5 x6 xf6 x7 xf7 x8 xf8; obtain ⟨x0, xf0⟩ := CBox.at_ HX2.out 0 _ rfl; obtain ⟨x1, xf1⟩ := CBox.at_ HX2.out 1 _ rfl; obtain ⟨x2, xf2⟩ := CBox.at_ HX2.out 2 _ rfl; obtain ⟨x3, xf3⟩ := CBox.at_ HX2.out 3 _ rfl; obtain ⟨x4, xf4⟩ := CBox.at_ HX2.out 4 _ rfl; obtain ⟨x5, xf5⟩ := CBox.at_ HX2.out 5 _ rfl; obtain ⟨x6, xf6⟩ := CBox.at_ HX2.out 6 _ rfl; obtain ⟨x7, xf7⟩ := CBox.at_ HX2.out 7 _ rfl; obtain ⟨x8, xf8⟩ := CBox.at_ HX2.out 8 _ rfl)
        | ((with_reducible refine (HEN.out w2 K2.out).mono ?_); rintro e w3 ⟨rfl, hb3⟩; have K3 := Lib.hid (K2.out.trans (hb3.mono K2.out.size)); clear hb3 x0 xf0 x1 xf1 x2 xf2 x3 xf3 x4 xf4 x5 xf5 x6 xf6 x7 xf7 x8 xf8)
        | ((with_reducible refine (HLV.out w3).mono ?_); rintro e w4 ⟨rfl, hb4⟩; have K4 := Lib.hid (K3.out.trans (hb4.mono K3.out.size)); clear hb4))
      go_ret
      exact ⟨rfl, HBB.out ▸ HB1.out.trans (K4.out.mono (Nat.le_of_lt HX1.out.lt))⟩
    · obtain ⟨T, hT⟩ : ∃ T, fillS [] (bytesM ⟨k, v, g, mx, q, r, ev, L, R⟩) 2 = T := ⟨_, rfl⟩
      have hbk := back _ hy
      have hln := fill_len _ hy
      rw [hT] at hbk hln
      rw [show penc ⟨k, v, g, mx, q, r, ev, L, R⟩ = (T, 0) from by unfold penc; rw [hy, hT]; rfl] at HEN
      unfold RetBody at HEN
      have HDC := Lib.hid (fun W => (decode_any T W (by omega)).mono fun _ _ h => ret_decM h)
      rw [hbk.1] at HDC
      unfold RetDecM at HDC
      dsimp only at HDC
      have HRT := Lib.hid (fun W => right_any T W (by omega))
      rw [decide_eq_true hbk.2] at HRT
      have HSM := Lib.hid (fun W so' sc' ro' rc' (hb : Below W1.heap.size W1 W) (h1 : Strs W (.slice so' L.length sc') L) (h2 : Recs W (.slice ro' R.length rc') R) => same_yes k v mx r ev g q so L sc ro R rc so' sc' ro' rc' W (HSR.out W hb).1 (HSR.out W hb).2 h1 h2)
      clear hs hr hg hL hmx hev hb1 hW1 k1 hf h40 hrr hy hT hbk hln
      go_enter Try.func6, Try.ntmps6
      go_upto_region 1 with fail
      rw [HBB.out, HW1.out]
      obtain ⟨x0, xf0⟩ := CBox.at_ HX1.out 0 _ rfl
      obtain ⟨x1, xf1⟩ := CBox.at_ HX1.out 1 _ rfl
      obtain ⟨x2, xf2⟩ := CBox.at_ HX1.out 2 _ rfl
      obtain ⟨x3, xf3⟩ := CBox.at_ HX1.out 3 _ rfl
      obtain ⟨x4, xf4⟩ := CBox.at_ HX1.out 4 _ rfl
      obtain ⟨x5, xf5⟩ := CBox.at_ HX1.out 5 _ rfl
      obtain ⟨x6, xf6⟩ := CBox.at_ HX1.out 6 _ rfl
      obtain ⟨x7, xf7⟩ := CBox.at_ HX1.out 7 _ rfl
      obtain ⟨x8, xf8⟩ := CBox.at_ HX1.out 8 _ rfl
      go_upto_region 7 with (first
        | ((with_reducible refine HFR.out.mono ?_); rintro e w2 ⟨rfl, hb2⟩; have K2 := Lib.hid hb2; have HX2 := Lib.hid (HX1.out.below hb2 HX1.out.lt); clear hb2 x0 xf0 x1 xf1 x2 xf2 x3 xf3 x4 xf4 x5 xf5 x6 xf6 x7 xf7 x8 xf8; obtain ⟨x0, xf0⟩ := CBox.at_ HX2.out 0 _ rfl; obtain ⟨x1, xf1⟩ := CBox.at_ HX2.out 1 _ rfl; obtain ⟨x2, xf2⟩ := CBox.at_ HX2.out 2 _ rfl; obtain ⟨x3, xf3⟩ := CBox.at_ HX2.out 3 _ rfl; obtain ⟨x4, xf4⟩ := CBox.at_ HX2.out 4 _ rfl; obtain ⟨x5, xf5⟩ := CBox.at_ HX2.out 5 _ rfl; obtain ⟨x6, xf6⟩ := CBox.at_ HX2.out 6 _ rfl; obtain ⟨x7, xf7⟩ := CBox.at_ HX2.out 7 _ rfl; obtain ⟨x8, xf8⟩ := CBox.at_ HX2.out 8 _ rfl)
        | ((with_reducible refine (HEN.out w2 K2.out).mono ?_); rintro e w3 ⟨rfl, hb3⟩; have K3 := Lib.hid (K2.out.trans (hb3.mono K2.out.size)); clear hb3 x0 xf0 x1 xf1 x2 xf2 x3 xf3 x4 xf4 x5 xf5 x6 xf6 x7 xf7 x8 xf8)
        | ((with_reducible refine (HDC.out w3).mono ?_); rintro e w4 ⟨so', sc', ro', rc', rfl, hs4, hr4, hb4⟩; have K4 := Lib.hid (K3.out.trans (hb4.mono K3.out.size)); have HV4 := Lib.hid (And.intro hs4 hr4); clear hb4 hs4 hr4))
      obtain ⟨W5, hW5⟩ : ∃ W5, w4.alloc (.cells (msgCells k v g mx q r ev so' L.length sc' ro' R.length rc') 27) = W5 := ⟨_, rfl⟩
      obtain ⟨b5, hb5⟩ : ∃ b, w4.heap.size = b := ⟨_, rfl⟩
      have k5 : Below w4.heap.size w4 W5 := by rw [← hW5]; exact (Below.refl _ _).alloc (Nat.le_refl _) _
      have HX5 := Lib.hid (show CBox W5 b5 27 (msgCells k v g mx q r ev so' L.length sc' ro' R.length rc') from by rw [← hW5]; exact CBox.new _ hb5.symm)
      have K5 := Lib.hid (K4.out.trans (k5.mono K4.out.size))
      have HX6 := Lib.hid (HX1.out.below K5.out HX1.out.lt)
      have HS5 := Lib.hid (HSM.out W5 so' sc' ro' rc' K5.out (HV4.out.1.mono k5) (HV4.out.2.mono k5))
      rw [hW5, hb5]
      clear hW5 hb5 k5
      obtain ⟨x0, xf0⟩ := CBox.at_ HX6.out 0 _ rfl
      obtain ⟨x1, xf1⟩ := CBox.at_ HX6.out 1 _ rfl
      obtain ⟨x2, xf2⟩ := CBox.at_ HX6.out 2 _ rfl
      obtain ⟨x3, xf3⟩ := CBox.at_ HX6.out 3 _ rfl
      obtain ⟨x4, xf4⟩ := CBox.at_ HX6.out 4 _ rfl
      obtain ⟨x5, xf5⟩ := CBox.at_ HX6.out 5 _ rfl
      obtain ⟨x6, xf6⟩ := CBox.at_ HX6.out 6 _ rfl
      obtain ⟨x7, xf7⟩ := CBox.at_ HX6.out 7 _ rfl
      obtain ⟨x8, xf8⟩ := CBox.at_ HX6.out 8 _ rfl
      obtain ⟨y0, yf0⟩ := CBox.at_ HX5.out 0 _ rfl
      obtain ⟨y1, yf1⟩ := CBox.at_ HX5.out 1 _ rfl
      obtain ⟨y2, yf2⟩ := CBox.at_ HX5.out 2 _ rfl
      obtain ⟨y3, yf3⟩ := CBox.at_ HX5.out 3 _ rfl
      obtain ⟨y4, yf4⟩ := CBox.at_ HX5.out 4 _ rfl
      obtain ⟨y5, yf5⟩ := CBox.at_ HX5.out 5 _ rfl
      obtain ⟨y6, yf6⟩ := CBox.at_ HX5.out 6 _ rfl
      obtain ⟨y7, yf7⟩ := CBox.at_ HX5.out 7 _ rfl
      obtain ⟨y8, yf8⟩ := CBox.at_ HX5.out 8 _ rfl
      go_wp2_with (first
        | ((with_reducible refine HS5.out.mono ?_); rintro e w6 ⟨rfl, hb6⟩; have K6 := Lib.hid (K5.out.trans (hb6.mono K5.out.size)); clear hb6 x0 xf0 x1 xf1 x2 xf2 x3 xf3 x4 xf4 x5 xf5 x6 xf6 x7 xf7 x8 xf8 y0 yf0 y1 yf1 y2 yf2 y3 yf3 y4 yf4 y5 yf5 y6 yf6 y7 yf7 y8 yf8)
        | ((with_reducible refine (HRT.out w6).mono ?_); rintro e w7 ⟨rfl, hb7⟩; have K7 := Lib.hid (K6.out.trans (hb7.mono K6.out.size)); clear hb7)
        | ((with_reducible refine (HLV.out w7).mono ?_); rintro e w8 ⟨rfl, hb8⟩; have K8 := Lib.hid (K7.out.trans (hb8.mono K7.out.size)); clear hb8))
      go_ret
      exact ⟨rfl, HBB.out ▸ HB1.out.trans (K8.out.mono (Nat.le_of_lt HX1.out.lt))⟩
end Go.Proofs.Ythkogdgfkhhleaa
