/- Texts joined into one file: MLawBack, MLawTurn, MLawShort. -/
import Derived.Test.YthkibgdeibolfaaQ32
import Derived.Test.YthkibgdeibolfaaQ33

/- The walk of MldBack. -/
namespace Go.Proofs.Ythkibgdeibolfaa
open Go.RowKit Go.Sort
set_option maxRecDepth 20000
set_option maxRecDepth 20000
attribute [local go_sem] bstr_size bstr_extract bstr_toList bstr_get

set_option maxHeartbeats 4000000 in
theorem law_mback (A B : Str) (k v mx r ev : Int) (g : Str) (q : Bool) (so : Option Addr) (L : List Str) (sc : Nat) (ro : Option Addr) (R : List Rec) (rc : Nat) (w : World) (hs : Strs w (.slice so L.length sc) L) (hr : R.length ≤ 40 → Recs w (.slice ro R.length rc) R)
    (hg : g.length ≤ 140737488351232) (hLx : ∀ x ∈ L, x.length ≤ 140737488351232) (hmx : mx < 2 ^ 63) (hev : ev < 2 ^ 63) :
    Calls Try.prog 5 #[.agg #[.string (bstr A), .string (bstr B)], .agg (msgCells k v g mx q r ev so L.length sc ro R.length rc)] w (YesB w) := by
  have HLV := Lib.hid live9_yes
  have b0 : (⟨#[]⟩ : ByteArray) = bstr [] := bstr_nil.symm
  obtain ⟨ns, hns⟩ : ∃ ns, L.length = ns := ⟨_, rfl⟩
  obtain ⟨nr, hnr⟩ : ∃ nr, R.length = nr := ⟨_, rfl⟩
  obtain ⟨b1, hb1⟩ : ∃ b, w.heap.size = b := ⟨_, rfl⟩
  obtain ⟨b2, hb2⟩ : ∃ b, b1 + 1 = b := ⟨_, rfl⟩
  obtain ⟨W1, hW1⟩ : ∃ W1, w.alloc (.cells #[.string (bstr A), .string (bstr B)] 24) = W1 := ⟨_, rfl⟩
  obtain ⟨W2, hW2⟩ : ∃ W2, W1.alloc (.cells (msgCells k v g mx q r ev so ns sc ro nr rc) 29) = W2 := ⟨_, rfl⟩
  have hs1 : W1.heap.size = b2 := by rw [← hW1, World.size_alloc, hb1, hb2]
  have k1 : Below b1 w W1 := by rw [← hW1]; exact (Below.refl b1 w).alloc (by rw [hb1]; exact Nat.le_refl _) _
  have k2 : Below b2 W1 W2 := by rw [← hW2]; exact (Below.refl b2 W1).alloc (by rw [hs1]; exact Nat.le_refl _) _
  have k12 : Below w.heap.size w W2 := by rw [hb1]; exact k1.trans (k2.mono (by omega))
  have HX1 := Lib.hid (show CBox W2 b1 24 #[.string (bstr A), .string (bstr B)] from (show CBox W1 b1 _ _ from by rw [← hW1]; exact CBox.new _ hb1.symm).below k2 (by omega))
  have HX2 := Lib.hid (show CBox W2 b2 29 (msgCells k v g mx q r ev so ns sc ro nr rc) from by rw [← hW2]; exact CBox.new _ hs1.symm)
  have HB2 := Lib.hid (show Below b1 w W2 from hb1 ▸ k12)
  have HBB := Lib.hid (And.intro hb1 hb2); have HW1 := Lib.hid hW1; have HW2 := Lib.hid hW2
  have HNN := Lib.hid (And.intro hns hnr)
  have HFR := Lib.hid (few9_any k v mx r ev g q so L sc ro R rc W2 (fun h => (hr h).mono k12))
  obtain ⟨f, hf⟩ : ∃ f, fewB L R = f := ⟨_, rfl⟩
  rw [hf] at HFR
  unfold RetF at HFR
  cases f
  · rw [hns, hnr] at HFR ⊢
    clear hs hr hg hLx hmx hev hb1 hb2 hW1 hW2 hs1 k1 k2 k12 hf hns hnr
    go_enter Try.func5, Try.ntmps5
    go_upto_region 1 with fail
    rw [HW1.out, HBB.out.1, HBB.out.2, HW2.out]
    obtain ⟨a0, af0⟩ := CBox.at_ HX1.out 0 _ rfl; obtain ⟨a1, af1⟩ := CBox.at_ HX1.out 1 _ rfl
    obtain ⟨x0, xf0⟩ := CBox.at_ HX2.out 0 _ rfl
    obtain ⟨x1, xf1⟩ := CBox.at_ HX2.out 1 _ rfl
    obtain ⟨x2, xf2⟩ := CBox.at_ HX2.out 2 _ rfl
    obtain ⟨x3, xf3⟩ := CBox.at_ HX2.out 3 _ rfl
    obtain ⟨x4, xf4⟩ := CBox.at_ HX2.out 4 _ rfl
    obtain ⟨x5, xf5⟩ := CBox.at_ HX2.out 5 _ rfl
    obtain ⟨x6, xf6⟩ := CBox.at_ HX2.out 6 _ rfl
    obtain ⟨x7, xf7⟩ := CBox.at_ HX2.out 7 _ rfl
    obtain ⟨x8, xf8⟩ := CBox.at_ HX2.out 8 _ rfl
    go_wp2_with (first | ((with_reducible refine HFR.out.mono ?_); rintro e w3 ⟨rfl, hb3⟩; have K3 := Lib.hid hb3; have HY3 := Lib.hid (HX1.out.below hb3 HX1.out.lt); have HZ3 := Lib.hid (HX2.out.below hb3 HX2.out.lt); clear hb3 a0 af0 a1 af1 x0 xf0 x1 xf1 x2 xf2 x3 xf3 x4 xf4 x5 xf5 x6 xf6 x7 xf7 x8 xf8; obtain ⟨a0, af0⟩ := CBox.at_ HY3.out 0 _ rfl; obtain ⟨a1, af1⟩ := CBox.at_ HY3.out 1 _ rfl; obtain ⟨x0, xf0⟩ := CBox.at_ HZ3.out 0 _ rfl; obtain ⟨x1, xf1⟩ := CBox.at_ HZ3.out 1 _ rfl; obtain ⟨x2, xf2⟩ := CBox.at_ HZ3.out 2 _ rfl; obtain ⟨x3, xf3⟩ := CBox.at_ HZ3.out 3 _ rfl; obtain ⟨x4, xf4⟩ := CBox.at_ HZ3.out 4 _ rfl; obtain ⟨x5, xf5⟩ := CBox.at_ HZ3.out 5 _ rfl; obtain ⟨x6, xf6⟩ := CBox.at_ HZ3.out 6 _ rfl; obtain ⟨x7, xf7⟩ := CBox.at_ HZ3.out 7 _ rfl; obtain ⟨x8, xf8⟩ := CBox.at_ HZ3.out 8 _ rfl) | ((with_reducible refine (HLV.out w3).mono ?_); rintro e w4 ⟨rfl, hb4⟩; have K4 := Lib.hid (K3.out.trans (hb4.mono K3.out.size)); clear hb4))
    go_ret
    exact ⟨rfl, HBB.out.1 ▸ HB2.out.trans (K4.out.mono (Nat.le_of_lt HX1.out.lt))⟩
  · have hfe : L.length ≤ 100 ∧ R.length ≤ 40 := by
      unfold fewB at hf; simp only [Bool.and_eq_true, decide_eq_true_eq, List.all_eq_true] at hf; exact hf.1
    have hrr := hr hfe.2
    have HSR := Lib.hid (fun W (hb : Below W2.heap.size W2 W) => And.intro ((hs.mono k12).mono hb) ((hrr.mono k12).mono hb))
    have HEN := Lib.hid (fun W (hb : Below W2.heap.size W2 W) => mencode_any A B k v mx r ev g q so L sc ro R rc W ((hs.mono k12).mono hb) ((hrr.mono k12).mono hb) hg (fun _ => ⟨hfe.1, hLx, hmx, hev⟩))
    obtain ⟨yy, hy⟩ : ∃ yy, (ways A B && mayM9 ⟨k, v, g, mx, q, r, ev, L, R⟩) = yy := ⟨_, rfl⟩
    cases yy
    · rw [show penc9 A B ⟨k, v, g, mx, q, r, ev, L, R⟩ = ([], 1) from by unfold penc9; rw [hy]; rfl] at HEN
      unfold RetBody at HEN
      dsimp only at HEN
      rw [hns, hnr] at HFR HEN ⊢
      clear hs hr hg hLx hmx hev hb1 hb2 hW1 hW2 hs1 k1 k2 k12 hf hns hnr hfe hrr hy
      go_enter Try.func5, Try.ntmps5
      go_upto_region 1 with fail
      rw [HW1.out, HBB.out.1, HBB.out.2, HW2.out]
      obtain ⟨a0, af0⟩ := CBox.at_ HX1.out 0 _ rfl; obtain ⟨a1, af1⟩ := CBox.at_ HX1.out 1 _ rfl
      obtain ⟨x0, xf0⟩ := CBox.at_ HX2.out 0 _ rfl
      obtain ⟨x1, xf1⟩ := CBox.at_ HX2.out 1 _ rfl
      obtain ⟨x2, xf2⟩ := CBox.at_ HX2.out 2 _ rfl
      obtain ⟨x3, xf3⟩ := CBox.at_ HX2.out 3 _ rfl
      obtain ⟨x4, xf4⟩ := CBox.at_ HX2.out 4 _ rfl
      obtain ⟨x5, xf5⟩ := CBox.at_ HX2.out 5 _ rfl
      obtain ⟨x6, xf6⟩ := CBox.at_ HX2.out 6 _ rfl
      obtain ⟨x7, xf7⟩ := CBox.at_ HX2.out 7 _ rfl
      obtain ⟨x8, xf8⟩ := CBox.at_ HX2.out 8 _ rfl
      go_wp2_with (first | ((with_reducible refine HFR.out.mono ?_); rintro e w3 ⟨rfl, hb3⟩; have K3 := Lib.hid hb3; have HY3 := Lib.hid (HX1.out.below hb3 HX1.out.lt); have HZ3 := Lib.hid (HX2.out.below hb3 HX2.out.lt); clear hb3 a0 af0 a1 af1 x0 xf0 x1 xf1 x2 xf2 x3 xf3 x4 xf4 x5 xf5 x6 xf6 x7 xf7 x8 xf8; obtain ⟨a0, af0⟩ := CBox.at_ HY3.out 0 _ rfl; obtain ⟨a1, af1⟩ := CBox.at_ HY3.out 1 _ rfl; obtain ⟨x0, xf0⟩ := CBox.at_ HZ3.out 0 _ rfl; obtain ⟨x1, xf1⟩ := CBox.at_ HZ3.out 1 _ rfl; obtain ⟨x2, xf2⟩ := CBox.at_ HZ3.out 2 _ rfl; obtain ⟨x3, xf3⟩ := CBox.at_ HZ3.out 3 _ rfl; obtain ⟨x4, xf4⟩ := CBox.at_ HZ3.out 4 _ rfl; obtain ⟨x5, xf5⟩ := CBox.at_ HZ3.out 5 _ rfl; obtain ⟨x6, xf6⟩ := CBox.at_ HZ3.out 6 _ rfl; obtain ⟨x7, xf7⟩ := CBox.at_ HZ3.out 7 _ rfl; obtain ⟨x8, xf8⟩ := CBox.at_ HZ3.out 8 _ rfl) | ((with_reducible refine (HEN.out w3 K3.out).mono ?_); rintro e w4 ⟨rfl, hb4⟩; have K4 := Lib.hid (K3.out.trans (hb4.mono K3.out.size)); clear hb4 a0 af0 a1 af1 x0 xf0 x1 xf1 x2 xf2 x3 xf3 x4 xf4 x5 xf5 x6 xf6 x7 xf7 x8 xf8) | ((with_reducible refine (HLV.out w4).mono ?_); rintro e w5 ⟨rfl, hb5⟩; have K5 := Lib.hid (K4.out.trans (hb5.mono K4.out.size)); clear hb5))
      go_ret
      exact ⟨rfl, HBB.out.1 ▸ HB2.out.trans (K5.out.mono (Nat.le_of_lt HX1.out.lt))⟩
    · rw [Bool.and_eq_true] at hy
      obtain ⟨T, hT, hTl, hps, hmk⟩ := enc9_text A B ⟨k, v, g, mx, q, r, ev, L, R⟩ hy.1 hy.2
      have hbl := bytes9_len ⟨k, v, g, mx, q, r, ev, L, R⟩ hy.2
      have hdc := back9 A B ⟨k, v, g, mx, q, r, ev, L, R⟩ T hy.1 (by omega) hps hmk
      rw [hT] at HEN
      unfold RetBody at HEN
      dsimp only at HEN
      have HDC := Lib.hid (fun W => (mdecode_any A B T W (by omega)).mono fun _ _ h => ret_decM h)
      rw [hdc] at HDC
      unfold RetDecM at HDC
      dsimp only at HDC
      have HSM := Lib.hid (fun W so' sc' ro' rc' (hb : Below W2.heap.size W2 W) (h1 : Strs W (.slice so' L.length sc') L) (h2 : Recs W (.slice ro' R.length rc') R) => same_yes k v mx r ev g q so L sc ro R rc so' sc' ro' rc' W (HSR.out W hb).1 (HSR.out W hb).2 h1 h2)
      rw [hns, hnr] at HFR HEN HDC HSM ⊢
      clear hs hr hg hLx hmx hev hb1 hb2 hW1 hW2 hs1 k1 k2 k12 hf hns hnr hfe hrr hy hT hTl hps hmk hbl hdc
      go_enter Try.func5, Try.ntmps5
      go_upto_region 1 with fail
      rw [HW1.out, HBB.out.1, HBB.out.2, HW2.out]
      obtain ⟨a0, af0⟩ := CBox.at_ HX1.out 0 _ rfl; obtain ⟨a1, af1⟩ := CBox.at_ HX1.out 1 _ rfl
      obtain ⟨x0, xf0⟩ := CBox.at_ HX2.out 0 _ rfl
      obtain ⟨x1, xf1⟩ := CBox.at_ HX2.out 1 _ rfl
      obtain ⟨x2, xf2⟩ := CBox.at_ HX2.out 2 _ rfl
      obtain ⟨x3, xf3⟩ := CBox.at_ HX2.out 3 _ rfl
      obtain ⟨x4, xf4⟩ := CBox.at_ HX2.out 4 _ rfl
      obtain ⟨x5, xf5⟩ := CBox.at_ HX2.out 5 _ rfl
      obtain ⟨x6, xf6⟩ := CBox.at_ HX2.out 6 _ rfl
      obtain ⟨x7, xf7⟩ := CBox.at_ HX2.out 7 _ rfl
      obtain ⟨x8, xf8⟩ := CBox.at_ HX2.out 8 _ rfl
      go_upto_region 7 with (first | ((with_reducible refine HFR.out.mono ?_); rintro e w3 ⟨rfl, hb3⟩; have K3 := Lib.hid hb3; have HY3 := Lib.hid (HX1.out.below hb3 HX1.out.lt); have HZ3 := Lib.hid (HX2.out.below hb3 HX2.out.lt); clear hb3 a0 af0 a1 af1 x0 xf0 x1 xf1 x2 xf2 x3 xf3 x4 xf4 x5 xf5 x6 xf6 x7 xf7 x8 xf8; obtain ⟨a0, af0⟩ := CBox.at_ HY3.out 0 _ rfl; obtain ⟨a1, af1⟩ := CBox.at_ HY3.out 1 _ rfl; obtain ⟨x0, xf0⟩ := CBox.at_ HZ3.out 0 _ rfl; obtain ⟨x1, xf1⟩ := CBox.at_ HZ3.out 1 _ rfl; obtain ⟨x2, xf2⟩ := CBox.at_ HZ3.out 2 _ rfl; obtain ⟨x3, xf3⟩ := CBox.at_ HZ3.out 3 _ rfl; obtain ⟨x4, xf4⟩ := CBox.at_ HZ3.out 4 _ rfl; obtain ⟨x5, xf5⟩ := CBox.at_ HZ3.out 5 _ rfl; obtain ⟨x6, xf6⟩ := CBox.at_ HZ3.out 6 _ rfl; obtain ⟨x7, xf7⟩ := CBox.at_ HZ3.out 7 _ rfl; obtain ⟨x8, xf8⟩ := CBox.at_ HZ3.out 8 _ rfl) | ((with_reducible refine (HEN.out w3 K3.out).mono ?_); rintro e w4 ⟨rfl, hb4⟩; have K4 := Lib.hid (K3.out.trans (hb4.mono K3.out.size)); have HY4 := Lib.hid (HY3.out.below hb4 HY3.out.lt); clear hb4 a0 af0 a1 af1 x0 xf0 x1 xf1 x2 xf2 x3 xf3 x4 xf4 x5 xf5 x6 xf6 x7 xf7 x8 xf8; obtain ⟨a0, af0⟩ := CBox.at_ HY4.out 0 _ rfl; obtain ⟨a1, af1⟩ := CBox.at_ HY4.out 1 _ rfl) | ((with_reducible refine (HDC.out w4).mono ?_); rintro e w5 ⟨so', sc', ro', rc', rfl, hs5, hr5, hb5⟩; have K5 := Lib.hid (K4.out.trans (hb5.mono K4.out.size)); have HV5 := Lib.hid (And.intro hs5 hr5); clear hb5 hs5 hr5 a0 af0 a1 af1))
      obtain ⟨W6, hW6⟩ : ∃ W6, w5.alloc (.cells (msgCells k v g mx q r ev so' ns sc' ro' nr rc') 29) = W6 := ⟨_, rfl⟩
      obtain ⟨b6, hb6⟩ : ∃ b, w5.heap.size = b := ⟨_, rfl⟩
      have k6 : Below w5.heap.size w5 W6 := by rw [← hW6]; exact (Below.refl _ _).alloc (Nat.le_refl _) _
      have HX6 := Lib.hid (show CBox W6 b6 29 (msgCells k v g mx q r ev so' ns sc' ro' nr rc') from by rw [← hW6]; exact CBox.new _ hb6.symm)
      have K6 := Lib.hid (K5.out.trans (k6.mono K5.out.size))
      have HX7 := Lib.hid (HX2.out.below K6.out HX2.out.lt)
      have HS6 := Lib.hid (HSM.out W6 so' sc' ro' rc' K6.out (HV5.out.1.mono k6) (HV5.out.2.mono k6))
      rw [hW6, hb6]
      clear hW6 hb6 k6
      obtain ⟨x0, xf0⟩ := CBox.at_ HX7.out 0 _ rfl
      obtain ⟨x1, xf1⟩ := CBox.at_ HX7.out 1 _ rfl
      obtain ⟨x2, xf2⟩ := CBox.at_ HX7.out 2 _ rfl
      obtain ⟨x3, xf3⟩ := CBox.at_ HX7.out 3 _ rfl
      obtain ⟨x4, xf4⟩ := CBox.at_ HX7.out 4 _ rfl
      obtain ⟨x5, xf5⟩ := CBox.at_ HX7.out 5 _ rfl
      obtain ⟨x6, xf6⟩ := CBox.at_ HX7.out 6 _ rfl
      obtain ⟨x7, xf7⟩ := CBox.at_ HX7.out 7 _ rfl
      obtain ⟨x8, xf8⟩ := CBox.at_ HX7.out 8 _ rfl
      obtain ⟨y0, yf0⟩ := CBox.at_ HX6.out 0 _ rfl
      obtain ⟨y1, yf1⟩ := CBox.at_ HX6.out 1 _ rfl
      obtain ⟨y2, yf2⟩ := CBox.at_ HX6.out 2 _ rfl
      obtain ⟨y3, yf3⟩ := CBox.at_ HX6.out 3 _ rfl
      obtain ⟨y4, yf4⟩ := CBox.at_ HX6.out 4 _ rfl
      obtain ⟨y5, yf5⟩ := CBox.at_ HX6.out 5 _ rfl
      obtain ⟨y6, yf6⟩ := CBox.at_ HX6.out 6 _ rfl
      obtain ⟨y7, yf7⟩ := CBox.at_ HX6.out 7 _ rfl
      obtain ⟨y8, yf8⟩ := CBox.at_ HX6.out 8 _ rfl
      go_wp2_with (first | ((with_reducible refine HS6.out.mono ?_); rintro e w7 ⟨rfl, hb7⟩; have K7 := Lib.hid (K6.out.trans (hb7.mono K6.out.size)); clear hb7 x0 xf0 x1 xf1 x2 xf2 x3 xf3 x4 xf4 x5 xf5 x6 xf6 x7 xf7 x8 xf8 y0 yf0 y1 yf1 y2 yf2 y3 yf3 y4 yf4 y5 yf5 y6 yf6 y7 yf7 y8 yf8) | ((with_reducible refine (HLV.out w7).mono ?_); rintro e w8 ⟨rfl, hb8⟩; have K8 := Lib.hid (K7.out.trans (hb8.mono K7.out.size)); clear hb8))
      go_ret
      exact ⟨rfl, HBB.out.1 ▸ HB2.out.trans (K8.out.mono (Nat.le_of_lt HX1.out.lt))⟩
end Go.Proofs.Ythkibgdeibolfaa

/- The walk of MldTurned. -/
namespace Go.Proofs.Ythkibgdeibolfaa
open Go.RowKit Go.Sort
set_option maxRecDepth 20000
set_option maxRecDepth 20000
attribute [local go_sem] bstr_size bstr_extract bstr_toList bstr_get

set_option maxHeartbeats 4000000 in
theorem law_mturned (A B : Str) (k v mx r ev : Int) (g : Str) (q : Bool) (so : Option Addr) (L : List Str) (sc : Nat) (ro : Option Addr) (R : List Rec) (rc : Nat) (z : Int) (w : World) (hs : Strs w (.slice so L.length sc) L) (hr : R.length ≤ 40 → Recs w (.slice ro R.length rc) R)
    (hg : g.length ≤ 140737488351232) (hLx : ∀ x ∈ L, x.length ≤ 140737488351232) (hmx : mx < 2 ^ 63) (hev : ev < 2 ^ 63) (hz : -2 ^ 63 ≤ z ∧ z < 2 ^ 63) :
    Calls Try.prog 6 #[.agg #[.string (bstr A), .string (bstr B)], .agg (msgCells k v g mx q r ev so L.length sc ro R.length rc), .int .i64 z] w (YesB w) := by
  have HLV := Lib.hid live9_yes
  have b0 : (⟨#[]⟩ : ByteArray) = bstr [] := bstr_nil.symm
  obtain ⟨ns, hns⟩ : ∃ ns, L.length = ns := ⟨_, rfl⟩
  obtain ⟨nr, hnr⟩ : ∃ nr, R.length = nr := ⟨_, rfl⟩
  obtain ⟨b1, hb1⟩ : ∃ b, w.heap.size = b := ⟨_, rfl⟩
  obtain ⟨b2, hb2⟩ : ∃ b, b1 + 1 = b := ⟨_, rfl⟩
  obtain ⟨W1, hW1⟩ : ∃ W1, w.alloc (.cells #[.string (bstr A), .string (bstr B)] 24) = W1 := ⟨_, rfl⟩
  obtain ⟨W2, hW2⟩ : ∃ W2, W1.alloc (.cells (msgCells k v g mx q r ev so ns sc ro nr rc) 29) = W2 := ⟨_, rfl⟩
  have hs1 : W1.heap.size = b2 := by rw [← hW1, World.size_alloc, hb1, hb2]
  have k1 : Below b1 w W1 := by rw [← hW1]; exact (Below.refl b1 w).alloc (by rw [hb1]; exact Nat.le_refl _) _
  have k2 : Below b2 W1 W2 := by rw [← hW2]; exact (Below.refl b2 W1).alloc (by rw [hs1]; exact Nat.le_refl _) _
  have k12 : Below w.heap.size w W2 := by rw [hb1]; exact k1.trans (k2.mono (by omega))
  have HX1 := Lib.hid (show CBox W2 b1 24 #[.string (bstr A), .string (bstr B)] from (show CBox W1 b1 _ _ from by rw [← hW1]; exact CBox.new _ hb1.symm).below k2 (by omega))
  have HX2 := Lib.hid (show CBox W2 b2 29 (msgCells k v g mx q r ev so ns sc ro nr rc) from by rw [← hW2]; exact CBox.new _ hs1.symm)
  have HB2 := Lib.hid (show Below b1 w W2 from hb1 ▸ k12)
  have HBB := Lib.hid (And.intro hb1 hb2); have HW1 := Lib.hid hW1; have HW2 := Lib.hid hW2
  have HNN := Lib.hid (And.intro hns hnr)
  have HFR := Lib.hid (few9_any k v mx r ev g q so L sc ro R rc W2 (fun h => (hr h).mono k12))
  obtain ⟨f, hf⟩ : ∃ f, fewB L R = f := ⟨_, rfl⟩
  rw [hf] at HFR
  unfold RetF at HFR
  cases f
  · rw [hns, hnr] at HFR ⊢
    clear hs hr hg hLx hmx hev hb1 hb2 hW1 hW2 hs1 k1 k2 k12 hf hns hnr
    go_enter Try.func6, Try.ntmps6
    go_upto_region 1 with fail
    rw [HW1.out, HBB.out.1, HBB.out.2, HW2.out]
    obtain ⟨a0, af0⟩ := CBox.at_ HX1.out 0 _ rfl; obtain ⟨a1, af1⟩ := CBox.at_ HX1.out 1 _ rfl
    obtain ⟨x0, xf0⟩ := CBox.at_ HX2.out 0 _ rfl
    obtain ⟨x1, xf1⟩ := CBox.at_ HX2.out 1 _ rfl
    obtain ⟨x2, xf2⟩ := CBox.at_ HX2.out 2 _ rfl
    obtain ⟨x3, xf3⟩ := CBox.at_ HX2.out 3 _ rfl
    obtain ⟨x4, xf4⟩ := CBox.at_ HX2.out 4 _ rfl
    obtain ⟨x5, xf5⟩ := CBox.at_ HX2.out 5 _ rfl
    obtain ⟨x6, xf6⟩ := CBox.at_ HX2.out 6 _ rfl
    obtain ⟨x7, xf7⟩ := CBox.at_ HX2.out 7 _ rfl
    obtain ⟨x8, xf8⟩ := CBox.at_ HX2.out 8 _ rfl
    go_wp2_with (first | ((with_reducible refine HFR.out.mono ?_); rintro e w3 ⟨rfl, hb3⟩; have K3 := Lib.hid hb3; have HY3 := Lib.hid (HX1.out.below hb3 HX1.out.lt); have HZ3 := Lib.hid (HX2.out.below hb3 HX2.out.lt); clear hb3 a0 af0 a1 af1 x0 xf0 x1 xf1 x2 xf2 x3 xf3 x4 xf4 x5 xf5 x6 xf6 x7 xf7 x8 xf8; obtain ⟨a0, af0⟩ := CBox.at_ HY3.out 0 _ rfl; obtain ⟨a1, af1⟩ := CBox.at_ HY3.out 1 _ rfl; obtain ⟨x0, xf0⟩ := CBox.at_ HZ3.out 0 _ rfl; obtain ⟨x1, xf1⟩ := CBox.at_ HZ3.out 1 _ rfl; obtain ⟨x2, xf2⟩ := CBox.at_ HZ3.out 2 _ rfl; obtain ⟨x3, xf3⟩ := CBox.at_ HZ3.out 3 _ rfl; obtain ⟨x4, xf4⟩ := CBox.at_ HZ3.out 4 _ rfl; obtain ⟨x5, xf5⟩ := CBox.at_ HZ3.out 5 _ rfl; obtain ⟨x6, xf6⟩ := CBox.at_ HZ3.out 6 _ rfl; obtain ⟨x7, xf7⟩ := CBox.at_ HZ3.out 7 _ rfl; obtain ⟨x8, xf8⟩ := CBox.at_ HZ3.out 8 _ rfl) | ((with_reducible refine (HLV.out w3).mono ?_); rintro e w4 ⟨rfl, hb4⟩; have K4 := Lib.hid (K3.out.trans (hb4.mono K3.out.size)); clear hb4))
    go_ret
    exact ⟨rfl, HBB.out.1 ▸ HB2.out.trans (K4.out.mono (Nat.le_of_lt HX1.out.lt))⟩
  · have hfe : L.length ≤ 100 ∧ R.length ≤ 40 := by
      unfold fewB at hf; simp only [Bool.and_eq_true, decide_eq_true_eq, List.all_eq_true] at hf; exact hf.1
    have hrr := hr hfe.2
    have HSR := Lib.hid (fun W (hb : Below W2.heap.size W2 W) => And.intro ((hs.mono k12).mono hb) ((hrr.mono k12).mono hb))
    have HEN := Lib.hid (fun W (hb : Below W2.heap.size W2 W) => mencode_any A B k v mx r ev g q so L sc ro R rc W ((hs.mono k12).mono hb) ((hrr.mono k12).mono hb) hg (fun _ => ⟨hfe.1, hLx, hmx, hev⟩))
    obtain ⟨yy, hy⟩ : ∃ yy, (ways A B && mayM9 ⟨k, v, g, mx, q, r, ev, L, R⟩) = yy := ⟨_, rfl⟩
    cases yy
    · rw [show penc9 A B ⟨k, v, g, mx, q, r, ev, L, R⟩ = ([], 1) from by unfold penc9; rw [hy]; rfl] at HEN
      unfold RetBody at HEN
      dsimp only at HEN
      rw [hns, hnr] at HFR HEN ⊢
      clear hs hr hg hLx hmx hev hb1 hb2 hW1 hW2 hs1 k1 k2 k12 hf hns hnr hfe hrr hy hz
      go_enter Try.func6, Try.ntmps6
      go_upto_region 1 with fail
      rw [HW1.out, HBB.out.1, HBB.out.2, HW2.out]
      obtain ⟨a0, af0⟩ := CBox.at_ HX1.out 0 _ rfl; obtain ⟨a1, af1⟩ := CBox.at_ HX1.out 1 _ rfl
      obtain ⟨x0, xf0⟩ := CBox.at_ HX2.out 0 _ rfl
      obtain ⟨x1, xf1⟩ := CBox.at_ HX2.out 1 _ rfl
      obtain ⟨x2, xf2⟩ := CBox.at_ HX2.out 2 _ rfl
      obtain ⟨x3, xf3⟩ := CBox.at_ HX2.out 3 _ rfl
      obtain ⟨x4, xf4⟩ := CBox.at_ HX2.out 4 _ rfl
      obtain ⟨x5, xf5⟩ := CBox.at_ HX2.out 5 _ rfl
      obtain ⟨x6, xf6⟩ := CBox.at_ HX2.out 6 _ rfl
      obtain ⟨x7, xf7⟩ := CBox.at_ HX2.out 7 _ rfl
      obtain ⟨x8, xf8⟩ := CBox.at_ HX2.out 8 _ rfl
      go_wp2_with (first | ((with_reducible refine HFR.out.mono ?_); rintro e w3 ⟨rfl, hb3⟩; have K3 := Lib.hid hb3; have HY3 := Lib.hid (HX1.out.below hb3 HX1.out.lt); have HZ3 := Lib.hid (HX2.out.below hb3 HX2.out.lt); clear hb3 a0 af0 a1 af1 x0 xf0 x1 xf1 x2 xf2 x3 xf3 x4 xf4 x5 xf5 x6 xf6 x7 xf7 x8 xf8; obtain ⟨a0, af0⟩ := CBox.at_ HY3.out 0 _ rfl; obtain ⟨a1, af1⟩ := CBox.at_ HY3.out 1 _ rfl; obtain ⟨x0, xf0⟩ := CBox.at_ HZ3.out 0 _ rfl; obtain ⟨x1, xf1⟩ := CBox.at_ HZ3.out 1 _ rfl; obtain ⟨x2, xf2⟩ := CBox.at_ HZ3.out 2 _ rfl; obtain ⟨x3, xf3⟩ := CBox.at_ HZ3.out 3 _ rfl; obtain ⟨x4, xf4⟩ := CBox.at_ HZ3.out 4 _ rfl; obtain ⟨x5, xf5⟩ := CBox.at_ HZ3.out 5 _ rfl; obtain ⟨x6, xf6⟩ := CBox.at_ HZ3.out 6 _ rfl; obtain ⟨x7, xf7⟩ := CBox.at_ HZ3.out 7 _ rfl; obtain ⟨x8, xf8⟩ := CBox.at_ HZ3.out 8 _ rfl) | ((with_reducible refine (HEN.out w3 K3.out).mono ?_); rintro e w4 ⟨rfl, hb4⟩; have K4 := Lib.hid (K3.out.trans (hb4.mono K3.out.size)); clear hb4 a0 af0 a1 af1 x0 xf0 x1 xf1 x2 xf2 x3 xf3 x4 xf4 x5 xf5 x6 xf6 x7 xf7 x8 xf8) | ((with_reducible refine (HLV.out w4).mono ?_); rintro e w5 ⟨rfl, hb5⟩; have K5 := Lib.hid (K4.out.trans (hb5.mono K4.out.size)); clear hb5))
      go_ret
      exact ⟨rfl, HBB.out.1 ▸ HB2.out.trans (K5.out.mono (Nat.le_of_lt HX1.out.lt))⟩
    · rw [Bool.and_eq_true] at hy
      obtain ⟨T, hT, hTl, hps, hmk⟩ := enc9_text A B ⟨k, v, g, mx, q, r, ev, L, R⟩ hy.1 hy.2
      have hbl := bytes9_len ⟨k, v, g, mx, q, r, ev, L, R⟩ hy.2
      rw [hT] at HEN
      unfold RetBody at HEN
      dsimp only at HEN
      have hA16 : A.length = 16 := by have := hy.1; unfold ways at this; simp only [Bool.and_eq_true, decide_eq_true_eq] at this; exact this.1
      obtain ⟨a, ha0, ha1, haz⟩ : ∃ a : Int, 0 ≤ a ∧ a < 2 ^ 63 ∧ ((decide (z < 0) = true ∧ wrap64 (-wrap64 (z + 1)) = a) ∨ (decide (z < 0) = false ∧ z = a)) := at_mended z hz
      obtain ⟨n, hn⟩ : ∃ n, T.length = n := ⟨_, rfl⟩
      obtain ⟨S, hS⟩ : ∃ S, A ++ T = S := ⟨_, rfl⟩
      have hSS : bstr A ++ bstr T = bstr S := by rw [bstr_append, hS]
      obtain ⟨N, hN⟩ : ∃ N, S.length = N := ⟨_, rfl⟩
      have hNn : N = n + 16 := by rw [← hN, ← hS, List.length_append, hA16, hn]; omega
      have h8 : 8 ≤ n ∧ n ≤ 40000 := by omega
      obtain ⟨p, i, hp, hi, hdiv, hmod, hk0, hk1, hrem⟩ := at_parts a N ha0 (by omega)
      obtain ⟨M, hM⟩ : ∃ M : Int, 8 * (N : Int) = M := ⟨_, rfl⟩
      have e1 : wrap64 (8 * (N : Int)) = M := by rw [← hM]; exact w64 _ (by omega) (by omega)
      obtain ⟨Q, hQ⟩ : ∃ Q : Int, Int.tmod a M = Q := ⟨_, rfl⟩
      rw [hM, hQ] at hdiv hmod hk0 hk1
      obtain ⟨x, post, pre, hTs, hpl⟩ : ∃ (x : UInt8) (post pre : Str), S = pre ++ x :: post ∧ pre.length = p := split_at S p (by omega)
      have hne : (n == 0) = false := by rw [Bool.eq_false_iff, ne_eq, beq_iff_eq]; omega
      have hne2 : ((n : Int) == 0) = false := by rw [Bool.eq_false_iff, ne_eq, beq_iff_eq]; omega
      have hT0 : decide (T = []) = false := decide_eq_false (by rintro rfl; simp at hn; omega)
      have HSL := Lib.hid hN
      have HDM := Lib.hid (And.intro hdiv (And.intro hmod (And.intro hk0 (And.intro hk1 (And.intro hp hM)))))
      obtain ⟨y, hbx, hyx⟩ := bits_one x i hi
      have HBX := Lib.hid hbx
      have HWP := Lib.hid (show wrap64 (p : Int) = (p : Int) from w64 _ (by omega) (by omega))
      have HGD := Lib.hid (show S.getD p 0 = x from by rw [hTs]; exact getD_mid pre post x p hpl)
      have HTS := Lib.hid hTs
      obtain ⟨T2, hT2⟩ : ∃ T2 : Str, pre ++ y :: post = T2 := ⟨_, rfl⟩
      have HT2 := Lib.hid hT2
      have HLN := Lib.hid (show T2.length = N from by rw [← hN, ← hT2, hTs]; simp)
      have HPL := Lib.hid hpl
      have HNN2 := Lib.hid hNn
      have H8 := Lib.hid h8
      obtain ⟨A2, hA2⟩ : ∃ A2 : Str, (T2.drop 0).take 16 = A2 := ⟨_, rfl⟩
      obtain ⟨T3, hT3⟩ : ∃ T3 : Str, (T2.drop 16).take n = T3 := ⟨_, rfl⟩
      have hT3' : T2.drop 16 = T3 := by rw [← hT3, List.take_of_length_le]; rw [List.length_drop, HLN.out]; omega
      have HA2 := Lib.hid (And.intro hA2 hT3)
      have hT3l : T3.length ≤ 1000000 := by rw [← hT3, List.length_take]; omega
      have hpd : mdec A2 B T3 = (4, .zero) := by
        rw [← hA2, ← hT3', ← hT2]
        exact turn9 A B T pre post x y i hy.1 (by omega) hps (by rw [hS]; exact hTs) hi hyx
      have HDC := Lib.hid (fun W => (mdecode_any A2 B T3 W hT3l).mono fun _ _ h => ret_decM h)
      rw [hpd] at HDC
      unfold RetDecM Msg.zero at HDC
      dsimp only at HDC
      have hM0 : ¬ M = 0 := by omega
      rw [hns, hnr] at HFR HEN ⊢
      clear hs hr hg hLx hmx hev hb1 hb2 hW1 hW2 hs1 k1 k2 k12 hf hns hnr hfe hrr hy hT hTl hps hmk hbl hz hS hN hTs hpl hi hp hdiv hmod hk0 hk1 hrem ha0 ha1 hM hbx hyx hT2 hpd hA2 hT3 hT3' hT3l
      have hn4 : n ≤ 40000 := h8.2
      clear h8 hNn
      rcases haz with ⟨c1, c2⟩ | ⟨c1, rfl⟩
      all_goals
        go_enter Try.func6, Try.ntmps6
        go_upto_region 1 with fail
        rw [HW1.out, HBB.out.1, HBB.out.2, HW2.out]
        obtain ⟨a0, af0⟩ := CBox.at_ HX1.out 0 _ rfl; obtain ⟨a1, af1⟩ := CBox.at_ HX1.out 1 _ rfl
        obtain ⟨x0, xf0⟩ := CBox.at_ HX2.out 0 _ rfl
        obtain ⟨x1, xf1⟩ := CBox.at_ HX2.out 1 _ rfl
        obtain ⟨x2, xf2⟩ := CBox.at_ HX2.out 2 _ rfl
        obtain ⟨x3, xf3⟩ := CBox.at_ HX2.out 3 _ rfl
        obtain ⟨x4, xf4⟩ := CBox.at_ HX2.out 4 _ rfl
        obtain ⟨x5, xf5⟩ := CBox.at_ HX2.out 5 _ rfl
        obtain ⟨x6, xf6⟩ := CBox.at_ HX2.out 6 _ rfl
        obtain ⟨x7, xf7⟩ := CBox.at_ HX2.out 7 _ rfl
        obtain ⟨x8, xf8⟩ := CBox.at_ HX2.out 8 _ rfl
        go_upto_region 8 with (first | ((with_reducible refine HFR.out.mono ?_); rintro e w3 ⟨rfl, hb3⟩; have K3 := Lib.hid hb3; have HY3 := Lib.hid (HX1.out.below hb3 HX1.out.lt); have HZ3 := Lib.hid (HX2.out.below hb3 HX2.out.lt); clear hb3 a0 af0 a1 af1 x0 xf0 x1 xf1 x2 xf2 x3 xf3 x4 xf4 x5 xf5 x6 xf6 x7 xf7 x8 xf8; obtain ⟨a0, af0⟩ := CBox.at_ HY3.out 0 _ rfl; obtain ⟨a1, af1⟩ := CBox.at_ HY3.out 1 _ rfl; obtain ⟨x0, xf0⟩ := CBox.at_ HZ3.out 0 _ rfl; obtain ⟨x1, xf1⟩ := CBox.at_ HZ3.out 1 _ rfl; obtain ⟨x2, xf2⟩ := CBox.at_ HZ3.out 2 _ rfl; obtain ⟨x3, xf3⟩ := CBox.at_ HZ3.out 3 _ rfl; obtain ⟨x4, xf4⟩ := CBox.at_ HZ3.out 4 _ rfl; obtain ⟨x5, xf5⟩ := CBox.at_ HZ3.out 5 _ rfl; obtain ⟨x6, xf6⟩ := CBox.at_ HZ3.out 6 _ rfl; obtain ⟨x7, xf7⟩ := CBox.at_ HZ3.out 7 _ rfl; obtain ⟨x8, xf8⟩ := CBox.at_ HZ3.out 8 _ rfl) | ((with_reducible refine (HEN.out w3 K3.out).mono ?_); rintro e w4 ⟨rfl, hb4⟩; have K4 := Lib.hid (K3.out.trans (hb4.mono K3.out.size)); have HY4 := Lib.hid (HY3.out.below hb4 HY3.out.lt); clear hb4 a0 af0 a1 af1 x0 xf0 x1 xf1 x2 xf2 x3 xf3 x4 xf4 x5 xf5 x6 xf6 x7 xf7 x8 xf8; obtain ⟨a0, af0⟩ := CBox.at_ HY4.out 0 _ rfl; obtain ⟨a1, af1⟩ := CBox.at_ HY4.out 1 _ rfl))
        obtain ⟨cp, W8, hcp, hcv, hb8, hs8, hB8, hfz⟩ := run_bytes_c (P := Try.prog) w4 9 39 5 S Try.underlying9 Try.underlying39 Try.underlying5
        have HB8 := Lib.hid (And.intro hb8 (And.intro hs8 (And.intro hB8 (And.intro hfz hcp))))
        rw [HSL.out] at hcv
        clear hb8 hs8 hB8 hfz hcp
        go_upto_region 9 with fail
        clear a0 af0 a1 af1 hn
        go_upto_region 10 with fail
        obtain ⟨hdiv, hmod, hk0, hk1, hp, hM⟩ := HDM.out
        have r0 := (HB8.out.2.2.1 p (HSL.out ▸ hp)).2
        have rf := HB8.out.2.2.2.1 p (HSL.out ▸ hp)
        rw [HGD.out] at r0
        have wp := HWP.out
        have hbx := HBX.out
        have hpi : ((p : Int) < (N : Int)) := Int.ofNat_lt.mpr hp
        clear hk0 hk1 hM
        go_upto_region 11 with fail
        have hBT := bytes_set (y := y) (HTS.out ▸ HB8.out.2.2.1) HPL.out
        rw [HT2.out] at hBT
        have K9 := Lib.hid (show Below w4.heap.size w4 (W8.setCell ⟨w4.heap.size, p, none⟩ (.int .u8 y.toNat)) from HB8.out.1.setCell (p := ⟨w4.heap.size, p, none⟩) (Nat.le_refl _) (.int .u8 y.toNat))
        obtain ⟨W10, hW10⟩ : ∃ W10, W8.setCell ⟨w4.heap.size, p, none⟩ (.int .u8 y.toNat) = W10 := ⟨_, rfl⟩
        rw [hW10] at hBT K9 ⊢
        clear r0 rf hbx hpi hcv hW10 hdiv hmod hp e1 hQ
        have K10 := Lib.hid (K4.out.trans (K9.out.mono K4.out.size))
        have hb10 : w4.heap.size < W10.heap.size := Nat.lt_of_lt_of_le (hBT 0 (by have := HLN.out; have := HNN2.out; omega)).1 (Nat.le_refl _)
        have HY10 := Lib.hid (HY4.out.below K9.out HY4.out.lt)
        have hcp : N ≤ cp := HSL.out ▸ HB8.out.2.2.2.2
        obtain ⟨c2', hc2'⟩ : ∃ c, cp - 16 = c := ⟨_, rfl⟩
        have HF := Lib.hid (fun wq (h : Below W10.heap.size W10 wq) => And.intro (show (Instr.slice 39 (.slice (some ⟨w4.heap.size, 0, none⟩) N cp) none (some (.int .i64 16)) none).run Try.prog wq = .ok (.slice (some ⟨w4.heap.size, 0, none⟩) 16 cp) wq from run_head_c wq _ _ Try.underlying39 Try.sizeOf5 _ N cp 16 (by have := HNN2.out; omega))
          (And.intro (show (Instr.slice 39 (.slice (some ⟨w4.heap.size, 0, none⟩) N cp) (some (.int .i64 16)) none none).run Try.prog wq = .ok (.slice (some ⟨w4.heap.size, 16, none⟩) n c2') wq from by
              have h2 := run_tail_c (P := Try.prog) wq _ _ Try.underlying39 Try.sizeOf5 w4.heap.size N cp 16 (by have := HNN2.out; omega) (by decide) (by have := HNN2.out; have := H8.out; omega)
              rw [show N - 16 = n from by have := HNN2.out; omega, hc2'] at h2
              exact h2)
          (And.intro (HA2.out.1 ▸ run_string_c (P := Try.prog) wq 39 22 5 w4.heap.size 0 16 cp T2 Try.underlying39 Try.underlying5 Try.underlying22 (hBT.below h hb10) (by have := HNN2.out; have := HLN.out; omega))
          (And.intro (HA2.out.2 ▸ run_string_c (P := Try.prog) wq 39 9 5 w4.heap.size 16 n c2' T2 Try.underlying39 Try.underlying5 Try.underlying9 (hBT.below h hb10) (by have := HNN2.out; have := HLN.out; omega))
          (CBox.at_ (HY10.out.below h HY10.out.lt) 1 _ rfl).1))))
        clear hBT hc2' hcp hb10
        refine wp_region_held_drew (S := fun W' => Below W10.heap.size W10 W') (by kernel_rfl) (Below.drew (Below.refl _ _)) (fun hHeld => ?_)
        refine takeL 0 (v := ?_) rfl (by kernel_rfl) (by kernel_rfl) (by kernel_rfl) (fun _ _ _ h => h) (Or.inl ⟨by rfl, ?_⟩) (by assumption) ?_
        rotate_left
        focus (intro wq hSq; obtain ⟨f0, f1, f2, f3, f4⟩ := HF.out wq hSq; go_simp <;> with_reducible rfl)
        simp only [Act.put, List.setIfInBounds_toArray, List.set_cons_zero, List.set_cons_succ]
        refine takeL 1 (v := ?_) rfl (by kernel_rfl) (by kernel_rfl) (by kernel_rfl) (fun _ _ _ h => h) (Or.inl ⟨by rfl, ?_⟩) (by assumption) ?_
        rotate_left
        focus (intro wq hSq; obtain ⟨f0, f1, f2, f3, f4⟩ := HF.out wq hSq; go_simp <;> with_reducible rfl)
        simp only [Act.put, List.setIfInBounds_toArray, List.set_cons_zero, List.set_cons_succ]
        refine takeL 2 (v := ?_) rfl (by kernel_rfl) (by kernel_rfl) (by kernel_rfl) (fun _ _ _ h => h) (Or.inl ⟨by rfl, ?_⟩) (by assumption) ?_
        rotate_left
        focus (intro wq hSq; obtain ⟨f0, f1, f2, f3, f4⟩ := HF.out wq hSq; go_simp <;> with_reducible rfl)
        simp only [Act.put, List.setIfInBounds_toArray, List.set_cons_zero, List.set_cons_succ]
        refine takeL 3 (v := ?_) rfl (by kernel_rfl) (by kernel_rfl) (by kernel_rfl) (fun _ _ _ h => h) (Or.inl ⟨by rfl, ?_⟩) (by assumption) ?_
        rotate_left
        focus (intro wq hSq; obtain ⟨f0, f1, f2, f3, f4⟩ := HF.out wq hSq; go_simp <;> with_reducible rfl)
        simp only [Act.put, List.setIfInBounds_toArray, List.set_cons_zero, List.set_cons_succ]
        refine takeL 4 (v := ?_) rfl (by kernel_rfl) (by kernel_rfl) (by kernel_rfl) (fun _ _ _ h => h) (Or.inl ⟨by rfl, ?_⟩) (by assumption) ?_
        rotate_left
        focus (intro wq hSq; obtain ⟨f0, f1, f2, f3, f4⟩ := HF.out wq hSq; go_simp <;> with_reducible rfl)
        simp only [Act.put, List.setIfInBounds_toArray, List.set_cons_zero, List.set_cons_succ]
        refine takeL 5 (v := ?_) rfl (by kernel_rfl) (by kernel_rfl) (by kernel_rfl) (fun _ _ _ h => h) (Or.inl ⟨by rfl, ?_⟩) (by assumption) ?_
        rotate_left
        focus (intro wq hSq; obtain ⟨f0, f1, f2, f3, f4⟩ := HF.out wq hSq; go_simp <;> with_reducible rfl)
        simp only [Act.put, List.setIfInBounds_toArray, List.set_cons_zero, List.set_cons_succ]
        refine takeL 6 (v := ?_) rfl (by kernel_rfl) (by kernel_rfl) (by kernel_rfl) (fun _ _ _ h => h) (Or.inl ⟨by rfl, ?_⟩) (by assumption) ?_
        rotate_left
        focus (intro wq hSq; obtain ⟨f0, f1, f2, f3, f4⟩ := HF.out wq hSq; go_simp <;> with_reducible rfl)
        simp only [Act.put, List.setIfInBounds_toArray, List.set_cons_zero, List.set_cons_succ]
        refine takeL 7 (v := ?_) rfl (by kernel_rfl) (by kernel_rfl) (by kernel_rfl) (fun _ _ _ h => h) (Or.inl ⟨by rfl, ?_⟩) (by assumption) ?_
        rotate_left
        focus (intro wq hSq; obtain ⟨f0, f1, f2, f3, f4⟩ := HF.out wq hSq; go_simp <;> with_reducible rfl)
        simp only [Act.put, List.setIfInBounds_toArray, List.set_cons_zero, List.set_cons_succ]
        refine wpAnyH_ready (rs := [8, 12]) (by kernel_rfl) (by simp) (nextL 8 rfl (fun Kr hKr => ?_) (nextL 12 rfl (fun Kr hKr => ?_) AllReadyH.nil))
        · rw [if_pos (by rfl)]
          go_simp
          refine (HDC.out _).mono ?_
          rintro e w7 ⟨so', sc', ro', rc', rfl, hs4, hr4, hb4⟩
          have hB7 := hHeld.trans (hb4.mono hHeld.size)
          refine hKr.out _ _ hB7 (fun _ => ?_)
          clear hKr hs4 hr4
          refine takeL 9 (v := ?_) rfl (by kernel_rfl) (by kernel_rfl) (by kernel_rfl) (fun _ _ _ h => h) (Or.inl ⟨by rfl, ?_⟩) (by assumption) ?_
          rotate_left
          focus (intro wq hSq; go_simp <;> with_reducible rfl)
          simp only [Act.put, List.setIfInBounds_toArray, List.set_cons_zero, List.set_cons_succ]
          refine takeL 10 (v := ?_) rfl (by kernel_rfl) (by kernel_rfl) (by kernel_rfl) (fun _ _ _ h => h) (Or.inl ⟨by rfl, ?_⟩) (by assumption) ?_
          rotate_left
          focus (intro wq hSq; go_simp <;> with_reducible rfl)
          simp only [Act.put, List.setIfInBounds_toArray, List.set_cons_zero, List.set_cons_succ]
          refine takeL 11 (v := ?_) rfl (by kernel_rfl) (by kernel_rfl) (by kernel_rfl) (fun _ _ _ h => h) (Or.inl ⟨by rfl, ?_⟩) (by assumption) ?_
          rotate_left
          focus (intro wq hSq; go_simp <;> with_reducible rfl)
          simp only [Act.put, List.setIfInBounds_toArray, List.set_cons_zero, List.set_cons_succ]
          refine wpAnyH_ready (rs := [12]) (by kernel_rfl) (by simp) (nextL 12 rfl (fun Kr hKr => ?_) AllReadyH.nil)
          rw [if_pos (by rfl)]
          go_simp
          obtain ⟨W11, hW11⟩ : ∃ W, w7.alloc (.cells mz 29) = W := ⟨_, rfl⟩
          obtain ⟨b11, hb11⟩ : ∃ b, w7.heap.size = b := ⟨_, rfl⟩
          have X11 : CBox W11 b11 29 mz := by rw [← hW11]; exact CBox.new _ hb11.symm
          have hB11 : Below W10.heap.size W10 W11 := by rw [← hW11]; exact hB7.alloc hB7.size _
          rw [hW11, hb11]
          refine hKr.out _ _ hB11 (fun _ => ?_)
          replace hb11 := hb11 ▸ hB7.size
          clear hKr hW11 hB7 hb4
          refine wpAnyH_ready (rs := [13]) (by kernel_rfl) (by simp) (nextL 13 rfl (fun Kr hKr => ?_) AllReadyH.nil)
          rw [if_pos (by rfl)]
          obtain ⟨x0, xf0⟩ := CBox.at_ X11 0 _ rfl
          obtain ⟨x1, xf1⟩ := CBox.at_ X11 1 _ rfl
          obtain ⟨x2, xf2⟩ := CBox.at_ X11 2 _ rfl
          obtain ⟨x3, xf3⟩ := CBox.at_ X11 3 _ rfl
          obtain ⟨x4, xf4⟩ := CBox.at_ X11 4 _ rfl
          obtain ⟨x5, xf5⟩ := CBox.at_ X11 5 _ rfl
          obtain ⟨x6, xf6⟩ := CBox.at_ X11 6 _ rfl
          obtain ⟨x7, xf7⟩ := CBox.at_ X11 7 _ rfl
          obtain ⟨x8, xf8⟩ := CBox.at_ X11 8 _ rfl
          go_simp
          refine hKr.out _ _ (below9 hB11 hb11 _ _ _ _ _ _ _ _ _) (fun hH12 => ?_)
          clear hKr x0 xf0 x1 xf1 x2 xf2 x3 xf3 x4 xf4 x5 xf5 x6 xf6 x7 xf7 x8 xf8
          refine takeL 14 (v := ?_) rfl (by kernel_rfl) (by kernel_rfl) (by kernel_rfl) (fun _ _ _ h => h) (Or.inl ⟨by rfl, ?_⟩) (by assumption) ?_
          rotate_left
          focus (intro wq hSq; go_simp <;> with_reducible rfl)
          simp only [Act.put, List.setIfInBounds_toArray, List.set_cons_zero, List.set_cons_succ]
          refine wpAnyH_done (by kernel_rfl) ?_ _
          obtain ⟨W12, hW12⟩ : ∃ W, (((((((((W11.setCell ⟨b11, 0, none⟩ (.int .i64 0)).setCell ⟨b11, 1, none⟩ (.int .i64 0)).setCell ⟨b11, 2, none⟩ (.string (bstr []))).setCell ⟨b11, 3, none⟩ (.int .i64 0)).setCell ⟨b11, 4, none⟩ (.bool false)).setCell ⟨b11, 5, none⟩ (.int .i64 0)).setCell ⟨b11, 6, none⟩ (.int .i64 0)).setCell ⟨b11, 7, none⟩ (.slice so' 0 sc')).setCell ⟨b11, 8, none⟩ (.slice ro' 0 rc')) = W := ⟨_, rfl⟩
          rw [hW12] at hH12 ⊢
          have K12 := Lib.hid (K10.out.trans (hH12.mono K10.out.size))
          clear hW12 hH12 hB11 X11 hb11
          go_wp2_with ((with_reducible refine (HLV.out W12).mono ?_); rintro e w13 ⟨rfl, hb13⟩; have K13 := Lib.hid (K12.out.trans (hb13.mono K12.out.size)); clear hb13)
          go_ret
          exact ⟨rfl, HBB.out.1 ▸ HB2.out.trans (K13.out.mono (Nat.le_of_lt HX1.out.lt))⟩
        · rw [if_pos (by rfl)]
          go_simp
          obtain ⟨W6, hW6⟩ : ∃ W, (W10.alloc (.cells mz 29)).drew = W := ⟨_, rfl⟩
          obtain ⟨b11, hb11⟩ : ∃ b, W10.heap.size = b := ⟨_, rfl⟩
          have X6 : CBox W6 b11 29 mz := by rw [← hW6]; exact (CBox.new _ hb11.symm).draws 1
          have hB6 : Below W10.heap.size W10 W6 := by rw [← hW6]; exact Below.drew ((Below.refl _ _).alloc (Nat.le_refl _) _)
          rw [hW6, hb11]
          refine hKr.out _ _ hB6 (fun _ => ?_)
          clear hKr hW6
          refine wpAnyH_ready (rs := [8]) (by kernel_rfl) (by simp) (nextL 8 rfl (fun Kr hKr => ?_) AllReadyH.nil)
          rw [if_pos (by rfl)]
          go_simp
          refine (HDC.out _).mono ?_
          rintro e w7 ⟨so', sc', ro', rc', rfl, hs4, hr4, hb4⟩
          have X11 := X6.below hb4 X6.lt
          have hB11 := hB6.trans (hb4.mono hB6.size)
          replace hb11 := Nat.le_of_eq hb11
          refine hKr.out _ _ hB11 (fun _ => ?_)
          clear hKr hs4 hr4 hb4 hB6 X6
          refine takeL 9 (v := ?_) rfl (by kernel_rfl) (by kernel_rfl) (by kernel_rfl) (fun _ _ _ h => h) (Or.inl ⟨by rfl, ?_⟩) (by assumption) ?_
          rotate_left
          focus (intro wq hSq; go_simp <;> with_reducible rfl)
          simp only [Act.put, List.setIfInBounds_toArray, List.set_cons_zero, List.set_cons_succ]
          refine takeL 10 (v := ?_) rfl (by kernel_rfl) (by kernel_rfl) (by kernel_rfl) (fun _ _ _ h => h) (Or.inl ⟨by rfl, ?_⟩) (by assumption) ?_
          rotate_left
          focus (intro wq hSq; go_simp <;> with_reducible rfl)
          simp only [Act.put, List.setIfInBounds_toArray, List.set_cons_zero, List.set_cons_succ]
          refine takeL 11 (v := ?_) rfl (by kernel_rfl) (by kernel_rfl) (by kernel_rfl) (fun _ _ _ h => h) (Or.inl ⟨by rfl, ?_⟩) (by assumption) ?_
          rotate_left
          focus (intro wq hSq; go_simp <;> with_reducible rfl)
          simp only [Act.put, List.setIfInBounds_toArray, List.set_cons_zero, List.set_cons_succ]
          refine wpAnyH_ready (rs := [13]) (by kernel_rfl) (by simp) (nextL 13 rfl (fun Kr hKr => ?_) AllReadyH.nil)
          rw [if_pos (by rfl)]
          obtain ⟨x0, xf0⟩ := CBox.at_ X11 0 _ rfl
          obtain ⟨x1, xf1⟩ := CBox.at_ X11 1 _ rfl
          obtain ⟨x2, xf2⟩ := CBox.at_ X11 2 _ rfl
          obtain ⟨x3, xf3⟩ := CBox.at_ X11 3 _ rfl
          obtain ⟨x4, xf4⟩ := CBox.at_ X11 4 _ rfl
          obtain ⟨x5, xf5⟩ := CBox.at_ X11 5 _ rfl
          obtain ⟨x6, xf6⟩ := CBox.at_ X11 6 _ rfl
          obtain ⟨x7, xf7⟩ := CBox.at_ X11 7 _ rfl
          obtain ⟨x8, xf8⟩ := CBox.at_ X11 8 _ rfl
          go_simp
          refine hKr.out _ _ (below9 hB11 hb11 _ _ _ _ _ _ _ _ _) (fun hH12 => ?_)
          clear hKr x0 xf0 x1 xf1 x2 xf2 x3 xf3 x4 xf4 x5 xf5 x6 xf6 x7 xf7 x8 xf8
          refine takeL 14 (v := ?_) rfl (by kernel_rfl) (by kernel_rfl) (by kernel_rfl) (fun _ _ _ h => h) (Or.inl ⟨by rfl, ?_⟩) (by assumption) ?_
          rotate_left
          focus (intro wq hSq; go_simp <;> with_reducible rfl)
          simp only [Act.put, List.setIfInBounds_toArray, List.set_cons_zero, List.set_cons_succ]
          refine wpAnyH_done (by kernel_rfl) ?_ _
          obtain ⟨W12, hW12⟩ : ∃ W, (((((((((w7.setCell ⟨b11, 0, none⟩ (.int .i64 0)).setCell ⟨b11, 1, none⟩ (.int .i64 0)).setCell ⟨b11, 2, none⟩ (.string (bstr []))).setCell ⟨b11, 3, none⟩ (.int .i64 0)).setCell ⟨b11, 4, none⟩ (.bool false)).setCell ⟨b11, 5, none⟩ (.int .i64 0)).setCell ⟨b11, 6, none⟩ (.int .i64 0)).setCell ⟨b11, 7, none⟩ (.slice so' 0 sc')).setCell ⟨b11, 8, none⟩ (.slice ro' 0 rc')) = W := ⟨_, rfl⟩
          rw [hW12] at hH12 ⊢
          have K12 := Lib.hid (K10.out.trans (hH12.mono K10.out.size))
          clear hW12 hH12 hB11 X11 hb11
          go_wp2_with ((with_reducible refine (HLV.out W12).mono ?_); rintro e w13 ⟨rfl, hb13⟩; have K13 := Lib.hid (K12.out.trans (hb13.mono K12.out.size)); clear hb13)
          go_ret
          exact ⟨rfl, HBB.out.1 ▸ HB2.out.trans (K13.out.mono (Nat.le_of_lt HX1.out.lt))⟩
end Go.Proofs.Ythkibgdeibolfaa

/- The walk of MldShort. -/
namespace Go.Proofs.Ythkibgdeibolfaa
open Go.RowKit Go.Sort
set_option maxRecDepth 20000
set_option maxRecDepth 20000
attribute [local go_sem] bstr_size bstr_extract bstr_toList bstr_get

theorem short9 (A B T : Str) (hw : ways A B = true) (h : T.length < 8) : mdec A B T = (2, .zero) := by
  unfold ways at hw
  simp only [Bool.and_eq_true, decide_eq_true_eq] at hw
  unfold mdec
  rw [if_neg (by intro h'; rcases h' with h' | h' | h'; exact h' hw.1; exact h' hw.2; omega), if_pos h]
set_option maxHeartbeats 4000000 in
theorem law_mshort (A B : Str) (k v mx r ev : Int) (g : Str) (q : Bool) (so : Option Addr) (ns sc : Nat) (ro : Option Addr) (nr rc : Nat) (z : Int) (w : World)
    (hg : g.length ≤ 140737488351232) (hmx : mx < 2 ^ 63) (hev : ev < 2 ^ 63) (hz : -2 ^ 63 ≤ z ∧ z < 2 ^ 63) :
    Calls Try.prog 7 #[.agg #[.string (bstr A), .string (bstr B)], .agg (msgCells k v g mx q r ev so ns sc ro nr rc), .int .i64 z] w (YesB w) := by
  have HLV := Lib.hid live9_yes
  have b0 : (⟨#[]⟩ : ByteArray) = bstr [] := bstr_nil.symm
  obtain ⟨b1, hb1⟩ : ∃ b, w.heap.size = b := ⟨_, rfl⟩
  obtain ⟨b2, hb2⟩ : ∃ b, b1 + 1 = b := ⟨_, rfl⟩
  obtain ⟨W1, hW1⟩ : ∃ W1, w.alloc (.cells #[.string (bstr A), .string (bstr B)] 24) = W1 := ⟨_, rfl⟩
  obtain ⟨W2, hW2⟩ : ∃ W2, W1.alloc (.cells (msgCells k v g mx q r ev so ns sc ro nr rc) 29) = W2 := ⟨_, rfl⟩
  obtain ⟨W3, hW3⟩ : ∃ W3, (W2.setCell ⟨b2, 7, none⟩ (.slice none 0 0)).setCell ⟨b2, 8, none⟩ (.slice none 0 0) = W3 := ⟨_, rfl⟩
  have hs1 : W1.heap.size = b2 := by rw [← hW1, World.size_alloc, hb1, hb2]
  have k1 : Below b1 w W1 := by rw [← hW1]; exact (Below.refl b1 w).alloc (by rw [hb1]; exact Nat.le_refl _) _
  have k2 : Below b2 W1 W2 := by rw [← hW2]; exact (Below.refl b2 W1).alloc (by rw [hs1]; exact Nat.le_refl _) _
  have k3 : Below b2 W2 W3 := by rw [← hW3]; exact ((Below.refl b2 W2).setCell (p := ⟨b2, 7, none⟩) (Nat.le_refl _) _).setCell (p := ⟨b2, 8, none⟩) (Nat.le_refl _) _
  have X2 : CBox W2 b2 29 (msgCells k v g mx q r ev so ns sc ro nr rc) := by rw [← hW2]; exact CBox.new _ hs1.symm
  have X3 : CBox W3 b2 29 (msgCells k v g mx q r ev none 0 0 none 0 0) := by rw [← hW3]; exact (X2.set 7 (.slice none 0 0)).set 8 (.slice none 0 0)
  have HX2 := Lib.hid X2
  have HX3 := Lib.hid X3
  have HY3 := Lib.hid (show CBox W3 b1 24 #[.string (bstr A), .string (bstr B)] from ((show CBox W1 b1 _ _ from by rw [← hW1]; exact CBox.new _ hb1.symm).below k2 (by omega)).below k3 (by omega))
  have HB3 := Lib.hid (show Below b1 w W3 from k1.trans ((k2.trans k3).mono (by omega)))
  have HBB := Lib.hid (And.intro hb1 hb2); have HW1 := Lib.hid hW1; have HW2 := Lib.hid hW2; have HW3 := Lib.hid hW3
  have HEN := Lib.hid (show Calls Try.prog 13 #[.string (bstr A), .string (bstr B), .agg (msgCells k v g mx q r ev none 0 0 none 0 0)] W3 (RetBody W3 (penc9 A B ⟨k, v, g, mx, q, r, ev, [], []⟩).1 (penc9 A B ⟨k, v, g, mx, q, r, ev, [], []⟩).2) from mencode_any A B k v mx r ev g q none [] 0 none [] 0 W3 (Strs.nil W3) (Recs.nil W3) hg (fun _ => ⟨by decide, by simp, hmx, hev⟩))
  clear hg hmx hev hb1 hb2 hW1 hW2 hW3 hs1 k1 k2 k3 X2 X3
  obtain ⟨yy, hy⟩ : ∃ yy, (ways A B && mayM9 ⟨k, v, g, mx, q, r, ev, [], []⟩) = yy := ⟨_, rfl⟩
  cases yy
  · rw [show penc9 A B ⟨k, v, g, mx, q, r, ev, [], []⟩ = ([], 1) from by unfold penc9; rw [hy]; rfl] at HEN
    unfold RetBody at HEN
    dsimp only at HEN
    clear hy hz
    go_enter Try.func7, Try.ntmps7
    go_upto_region 1 with fail
    rw [HW1.out, HBB.out.1, HBB.out.2, HW2.out]
    obtain ⟨x0, xf0⟩ := CBox.at_ HX2.out 0 _ rfl
    obtain ⟨x1, xf1⟩ := CBox.at_ HX2.out 1 _ rfl
    obtain ⟨x2, xf2⟩ := CBox.at_ HX2.out 2 _ rfl
    obtain ⟨x3, xf3⟩ := CBox.at_ HX2.out 3 _ rfl
    obtain ⟨x4, xf4⟩ := CBox.at_ HX2.out 4 _ rfl
    obtain ⟨x5, xf5⟩ := CBox.at_ HX2.out 5 _ rfl
    obtain ⟨x6, xf6⟩ := CBox.at_ HX2.out 6 _ rfl
    obtain ⟨x7, xf7⟩ := CBox.at_ HX2.out 7 _ rfl
    obtain ⟨x8, xf8⟩ := CBox.at_ HX2.out 8 _ rfl
    go_upto_region 3 with fail
    rw [HW3.out]
    clear x0 xf0 x1 xf1 x2 xf2 x3 xf3 x4 xf4 x5 xf5 x6 xf6 x7 xf7 x8 xf8
    obtain ⟨a0, af0⟩ := CBox.at_ HY3.out 0 _ rfl; obtain ⟨a1, af1⟩ := CBox.at_ HY3.out 1 _ rfl
    obtain ⟨x0, xf0⟩ := CBox.at_ HX3.out 0 _ rfl
    obtain ⟨x1, xf1⟩ := CBox.at_ HX3.out 1 _ rfl
    obtain ⟨x2, xf2⟩ := CBox.at_ HX3.out 2 _ rfl
    obtain ⟨x3, xf3⟩ := CBox.at_ HX3.out 3 _ rfl
    obtain ⟨x4, xf4⟩ := CBox.at_ HX3.out 4 _ rfl
    obtain ⟨x5, xf5⟩ := CBox.at_ HX3.out 5 _ rfl
    obtain ⟨x6, xf6⟩ := CBox.at_ HX3.out 6 _ rfl
    obtain ⟨x7, xf7⟩ := CBox.at_ HX3.out 7 _ rfl
    obtain ⟨x8, xf8⟩ := CBox.at_ HX3.out 8 _ rfl
    go_wp2_with (first | ((with_reducible refine HEN.out.mono ?_); rintro e w4 ⟨rfl, hb4⟩; have HB4 := Lib.hid (HB3.out.trans (hb4.mono (Nat.le_of_lt HY3.out.lt))); have HS4 := Lib.hid (show b1 ≤ w4.heap.size from Nat.le_trans (Nat.le_of_lt HY3.out.lt) hb4.size); have HY4 := Lib.hid (HY3.out.below hb4 HY3.out.lt); clear hb4 a0 af0 a1 af1 x0 xf0 x1 xf1 x2 xf2 x3 xf3 x4 xf4 x5 xf5 x6 xf6 x7 xf7 x8 xf8) | ((with_reducible refine (HLV.out w4).mono ?_); rintro e w5 ⟨rfl, hb5⟩; have HB5 := Lib.hid (HB4.out.trans (hb5.mono HS4.out)); clear hb5))
    go_ret
    exact ⟨rfl, HBB.out.1 ▸ HB5.out⟩
  · rw [Bool.and_eq_true] at hy
    obtain ⟨T, hT, hTl, hps, hmk⟩ := enc9_text A B ⟨k, v, g, mx, q, r, ev, [], []⟩ hy.1 hy.2
    have hbl := bytes9_len ⟨k, v, g, mx, q, r, ev, [], []⟩ hy.2
    rw [hT] at HEN
    unfold RetBody at HEN
    dsimp only at HEN
    by_cases h24 : T.length < 24
    · have d1 : decide (T.length < 24) = true := decide_eq_true h24
      have d1' : decide ((T.length : Int) < 24) = true := decide_eq_true (by omega)
      clear hy hz hT hTl hps hmk hbl h24
      go_enter Try.func7, Try.ntmps7
      go_upto_region 1 with fail
      rw [HW1.out, HBB.out.1, HBB.out.2, HW2.out]
      obtain ⟨x0, xf0⟩ := CBox.at_ HX2.out 0 _ rfl
      obtain ⟨x1, xf1⟩ := CBox.at_ HX2.out 1 _ rfl
      obtain ⟨x2, xf2⟩ := CBox.at_ HX2.out 2 _ rfl
      obtain ⟨x3, xf3⟩ := CBox.at_ HX2.out 3 _ rfl
      obtain ⟨x4, xf4⟩ := CBox.at_ HX2.out 4 _ rfl
      obtain ⟨x5, xf5⟩ := CBox.at_ HX2.out 5 _ rfl
      obtain ⟨x6, xf6⟩ := CBox.at_ HX2.out 6 _ rfl
      obtain ⟨x7, xf7⟩ := CBox.at_ HX2.out 7 _ rfl
      obtain ⟨x8, xf8⟩ := CBox.at_ HX2.out 8 _ rfl
      go_upto_region 3 with fail
      rw [HW3.out]
      clear x0 xf0 x1 xf1 x2 xf2 x3 xf3 x4 xf4 x5 xf5 x6 xf6 x7 xf7 x8 xf8
      obtain ⟨a0, af0⟩ := CBox.at_ HY3.out 0 _ rfl; obtain ⟨a1, af1⟩ := CBox.at_ HY3.out 1 _ rfl
      obtain ⟨x0, xf0⟩ := CBox.at_ HX3.out 0 _ rfl
      obtain ⟨x1, xf1⟩ := CBox.at_ HX3.out 1 _ rfl
      obtain ⟨x2, xf2⟩ := CBox.at_ HX3.out 2 _ rfl
      obtain ⟨x3, xf3⟩ := CBox.at_ HX3.out 3 _ rfl
      obtain ⟨x4, xf4⟩ := CBox.at_ HX3.out 4 _ rfl
      obtain ⟨x5, xf5⟩ := CBox.at_ HX3.out 5 _ rfl
      obtain ⟨x6, xf6⟩ := CBox.at_ HX3.out 6 _ rfl
      obtain ⟨x7, xf7⟩ := CBox.at_ HX3.out 7 _ rfl
      obtain ⟨x8, xf8⟩ := CBox.at_ HX3.out 8 _ rfl
      go_wp2_with (first | ((with_reducible refine HEN.out.mono ?_); rintro e w4 ⟨rfl, hb4⟩; have HB4 := Lib.hid (HB3.out.trans (hb4.mono (Nat.le_of_lt HY3.out.lt))); have HS4 := Lib.hid (show b1 ≤ w4.heap.size from Nat.le_trans (Nat.le_of_lt HY3.out.lt) hb4.size); have HY4 := Lib.hid (HY3.out.below hb4 HY3.out.lt); clear hb4 a0 af0 a1 af1 x0 xf0 x1 xf1 x2 xf2 x3 xf3 x4 xf4 x5 xf5 x6 xf6 x7 xf7 x8 xf8) | ((with_reducible refine (HLV.out w4).mono ?_); rintro e w5 ⟨rfl, hb5⟩; have HB5 := Lib.hid (HB4.out.trans (hb5.mono HS4.out)); clear hb5))
      go_ret
      exact ⟨rfl, HBB.out.1 ▸ HB5.out⟩
    · have d1 : decide (T.length < 24) = false := decide_eq_false h24
      have d1' : decide ((T.length : Int) < 24) = false := decide_eq_false (by omega)
      obtain ⟨a, ha0, ha1, haz⟩ : ∃ a : Int, 0 ≤ a ∧ a < 2 ^ 63 ∧ ((decide (z < 0) = true ∧ wrap64 (-wrap64 (z + 1)) = a) ∨ (decide (z < 0) = false ∧ z = a)) := at_mended z hz
      obtain ⟨i, hmod, hi⟩ : ∃ i : Nat, Int.tmod a 8 = (i : Int) ∧ i < 8 := ⟨(a % 8).toNat, by rw [Int.tmod_eq_emod_of_nonneg ha0]; omega, by omega⟩
      have hT2l : (T.take i).length < 8 := by rw [List.length_take]; omega
      have hpd := short9 A B (T.take i) hy.1 hT2l
      have HDC := Lib.hid (fun W => (mdecode_any A B (T.take i) W (by omega)).mono fun _ _ h => ret_decM h)
      rw [hpd] at HDC
      unfold RetDecM Msg.zero at HDC
      dsimp only at HDC
      obtain ⟨T2, hT2⟩ : ∃ T2, T.take i = T2 := ⟨_, rfl⟩
      rw [hT2] at HDC
      have HSL := Lib.hid (fun wq => hT2 ▸ run_to_b (P := Try.prog) wq 9 Try.underlying9 T .i64 i (by omega))
      clear hy hz hT hTl hps hmk hbl h24 hi ha0 ha1 hT2l hpd hT2
      rcases haz with ⟨c1, c2⟩ | ⟨c1, rfl⟩
      all_goals
        go_enter Try.func7, Try.ntmps7
        go_upto_region 1 with fail
        rw [HW1.out, HBB.out.1, HBB.out.2, HW2.out]
        obtain ⟨x0, xf0⟩ := CBox.at_ HX2.out 0 _ rfl
        obtain ⟨x1, xf1⟩ := CBox.at_ HX2.out 1 _ rfl
        obtain ⟨x2, xf2⟩ := CBox.at_ HX2.out 2 _ rfl
        obtain ⟨x3, xf3⟩ := CBox.at_ HX2.out 3 _ rfl
        obtain ⟨x4, xf4⟩ := CBox.at_ HX2.out 4 _ rfl
        obtain ⟨x5, xf5⟩ := CBox.at_ HX2.out 5 _ rfl
        obtain ⟨x6, xf6⟩ := CBox.at_ HX2.out 6 _ rfl
        obtain ⟨x7, xf7⟩ := CBox.at_ HX2.out 7 _ rfl
        obtain ⟨x8, xf8⟩ := CBox.at_ HX2.out 8 _ rfl
        go_upto_region 3 with fail
        rw [HW3.out]
        clear x0 xf0 x1 xf1 x2 xf2 x3 xf3 x4 xf4 x5 xf5 x6 xf6 x7 xf7 x8 xf8
        obtain ⟨a0, af0⟩ := CBox.at_ HY3.out 0 _ rfl; obtain ⟨a1, af1⟩ := CBox.at_ HY3.out 1 _ rfl
        obtain ⟨x0, xf0⟩ := CBox.at_ HX3.out 0 _ rfl
        obtain ⟨x1, xf1⟩ := CBox.at_ HX3.out 1 _ rfl
        obtain ⟨x2, xf2⟩ := CBox.at_ HX3.out 2 _ rfl
        obtain ⟨x3, xf3⟩ := CBox.at_ HX3.out 3 _ rfl
        obtain ⟨x4, xf4⟩ := CBox.at_ HX3.out 4 _ rfl
        obtain ⟨x5, xf5⟩ := CBox.at_ HX3.out 5 _ rfl
        obtain ⟨x6, xf6⟩ := CBox.at_ HX3.out 6 _ rfl
        obtain ⟨x7, xf7⟩ := CBox.at_ HX3.out 7 _ rfl
        obtain ⟨x8, xf8⟩ := CBox.at_ HX3.out 8 _ rfl
        go_upto_region 8 with ((with_reducible refine HEN.out.mono ?_); rintro e w4 ⟨rfl, hb4⟩; have HB4 := Lib.hid (HB3.out.trans (hb4.mono (Nat.le_of_lt HY3.out.lt))); have HS4 := Lib.hid (show b1 ≤ w4.heap.size from Nat.le_trans (Nat.le_of_lt HY3.out.lt) hb4.size); have HY4 := Lib.hid (HY3.out.below hb4 HY3.out.lt); clear hb4 a0 af0 a1 af1 x0 xf0 x1 xf1 x2 xf2 x3 xf3 x4 xf4 x5 xf5 x6 xf6 x7 xf7 x8 xf8)
        have HF := Lib.hid (fun wq (h : Below w4.heap.size w4 wq) => And.intro (HSL.out wq) (And.intro (CBox.at_ (HY4.out.below h HY4.out.lt) 0 _ rfl).1 (CBox.at_ (HY4.out.below h HY4.out.lt) 1 _ rfl).1))
        refine wp_region_held_drew (S := fun W' => Below w4.heap.size w4 W') (by kernel_rfl) (Below.drew (Below.refl _ _)) (fun hHeld => ?_)
        refine takeL 0 (v := ?_) rfl (by kernel_rfl) (by kernel_rfl) (by kernel_rfl) (fun _ _ _ h => h) (Or.inl ⟨by rfl, ?_⟩) (by assumption) ?_
        rotate_left
        focus (intro wq hSq; obtain ⟨f0, f1, f2⟩ := HF.out wq hSq; go_simp <;> with_reducible rfl)
        simp only [Act.put, List.setIfInBounds_toArray, List.set_cons_zero, List.set_cons_succ]
        refine takeL 1 (v := ?_) rfl (by kernel_rfl) (by kernel_rfl) (by kernel_rfl) (fun _ _ _ h => h) (Or.inl ⟨by rfl, ?_⟩) (by assumption) ?_
        rotate_left
        focus (intro wq hSq; obtain ⟨f0, f1, f2⟩ := HF.out wq hSq; go_simp <;> with_reducible rfl)
        simp only [Act.put, List.setIfInBounds_toArray, List.set_cons_zero, List.set_cons_succ]
        refine takeL 2 (v := ?_) rfl (by kernel_rfl) (by kernel_rfl) (by kernel_rfl) (fun _ _ _ h => h) (Or.inl ⟨by rfl, ?_⟩) (by assumption) ?_
        rotate_left
        focus (intro wq hSq; obtain ⟨f0, f1, f2⟩ := HF.out wq hSq; go_simp <;> with_reducible rfl)
        simp only [Act.put, List.setIfInBounds_toArray, List.set_cons_zero, List.set_cons_succ]
        refine takeL 3 (v := ?_) rfl (by kernel_rfl) (by kernel_rfl) (by kernel_rfl) (fun _ _ _ h => h) (Or.inl ⟨by rfl, ?_⟩) (by assumption) ?_
        rotate_left
        focus (intro wq hSq; obtain ⟨f0, f1, f2⟩ := HF.out wq hSq; go_simp <;> with_reducible rfl)
        simp only [Act.put, List.setIfInBounds_toArray, List.set_cons_zero, List.set_cons_succ]
        refine takeL 4 (v := ?_) rfl (by kernel_rfl) (by kernel_rfl) (by kernel_rfl) (fun _ _ _ h => h) (Or.inl ⟨by rfl, ?_⟩) (by assumption) ?_
        rotate_left
        focus (intro wq hSq; obtain ⟨f0, f1, f2⟩ := HF.out wq hSq; go_simp <;> with_reducible rfl)
        simp only [Act.put, List.setIfInBounds_toArray, List.set_cons_zero, List.set_cons_succ]
        refine takeL 5 (v := ?_) rfl (by kernel_rfl) (by kernel_rfl) (by kernel_rfl) (fun _ _ _ h => h) (Or.inl ⟨by rfl, ?_⟩) (by assumption) ?_
        rotate_left
        focus (intro wq hSq; obtain ⟨f0, f1, f2⟩ := HF.out wq hSq; go_simp <;> with_reducible rfl)
        simp only [Act.put, List.setIfInBounds_toArray, List.set_cons_zero, List.set_cons_succ]
        refine takeL 6 (v := ?_) rfl (by kernel_rfl) (by kernel_rfl) (by kernel_rfl) (fun _ _ _ h => h) (Or.inl ⟨by rfl, ?_⟩) (by assumption) ?_
        rotate_left
        focus (intro wq hSq; obtain ⟨f0, f1, f2⟩ := HF.out wq hSq; go_simp <;> with_reducible rfl)
        simp only [Act.put, List.setIfInBounds_toArray, List.set_cons_zero, List.set_cons_succ]
        refine takeL 7 (v := ?_) rfl (by kernel_rfl) (by kernel_rfl) (by kernel_rfl) (fun _ _ _ h => h) (Or.inl ⟨by rfl, ?_⟩) (by assumption) ?_
        rotate_left
        focus (intro wq hSq; obtain ⟨f0, f1, f2⟩ := HF.out wq hSq; go_simp <;> with_reducible rfl)
        simp only [Act.put, List.setIfInBounds_toArray, List.set_cons_zero, List.set_cons_succ]
        refine wpAnyH_ready (rs := [8, 12]) (by kernel_rfl) (by simp) (nextL 8 rfl (fun Kr hKr => ?_) (nextL 12 rfl (fun Kr hKr => ?_) AllReadyH.nil))
        · rw [if_pos (by rfl)]
          go_simp
          refine (HDC.out _).mono ?_
          rintro e w7 ⟨so', sc', ro', rc', rfl, hs4, hr4, hb4⟩
          have hB7 := hHeld.trans (hb4.mono hHeld.size)
          refine hKr.out _ _ hB7 (fun _ => ?_)
          clear hKr hs4 hr4
          refine takeL 9 (v := ?_) rfl (by kernel_rfl) (by kernel_rfl) (by kernel_rfl) (fun _ _ _ h => h) (Or.inl ⟨by rfl, ?_⟩) (by assumption) ?_
          rotate_left
          focus (intro wq hSq; go_simp <;> with_reducible rfl)
          simp only [Act.put, List.setIfInBounds_toArray, List.set_cons_zero, List.set_cons_succ]
          refine takeL 10 (v := ?_) rfl (by kernel_rfl) (by kernel_rfl) (by kernel_rfl) (fun _ _ _ h => h) (Or.inl ⟨by rfl, ?_⟩) (by assumption) ?_
          rotate_left
          focus (intro wq hSq; go_simp <;> with_reducible rfl)
          simp only [Act.put, List.setIfInBounds_toArray, List.set_cons_zero, List.set_cons_succ]
          refine takeL 11 (v := ?_) rfl (by kernel_rfl) (by kernel_rfl) (by kernel_rfl) (fun _ _ _ h => h) (Or.inl ⟨by rfl, ?_⟩) (by assumption) ?_
          rotate_left
          focus (intro wq hSq; go_simp <;> with_reducible rfl)
          simp only [Act.put, List.setIfInBounds_toArray, List.set_cons_zero, List.set_cons_succ]
          refine wpAnyH_ready (rs := [12]) (by kernel_rfl) (by simp) (nextL 12 rfl (fun Kr hKr => ?_) AllReadyH.nil)
          rw [if_pos (by rfl)]
          go_simp
          obtain ⟨W11, hW11⟩ : ∃ W, w7.alloc (.cells mz 29) = W := ⟨_, rfl⟩
          obtain ⟨b11, hb11⟩ : ∃ b, w7.heap.size = b := ⟨_, rfl⟩
          have X11 : CBox W11 b11 29 mz := by rw [← hW11]; exact CBox.new _ hb11.symm
          have hB11 : Below w4.heap.size w4 W11 := by rw [← hW11]; exact hB7.alloc hB7.size _
          rw [hW11, hb11]
          refine hKr.out _ _ hB11 (fun _ => ?_)
          replace hb11 := hb11 ▸ hB7.size
          clear hKr hW11 hB7 hb4
          refine wpAnyH_ready (rs := [13]) (by kernel_rfl) (by simp) (nextL 13 rfl (fun Kr hKr => ?_) AllReadyH.nil)
          rw [if_pos (by rfl)]
          obtain ⟨x0, xf0⟩ := CBox.at_ X11 0 _ rfl
          obtain ⟨x1, xf1⟩ := CBox.at_ X11 1 _ rfl
          obtain ⟨x2, xf2⟩ := CBox.at_ X11 2 _ rfl
          obtain ⟨x3, xf3⟩ := CBox.at_ X11 3 _ rfl
          obtain ⟨x4, xf4⟩ := CBox.at_ X11 4 _ rfl
          obtain ⟨x5, xf5⟩ := CBox.at_ X11 5 _ rfl
          obtain ⟨x6, xf6⟩ := CBox.at_ X11 6 _ rfl
          obtain ⟨x7, xf7⟩ := CBox.at_ X11 7 _ rfl
          obtain ⟨x8, xf8⟩ := CBox.at_ X11 8 _ rfl
          go_simp
          refine hKr.out _ _ (below9 hB11 hb11 _ _ _ _ _ _ _ _ _) (fun hH12 => ?_)
          clear hKr x0 xf0 x1 xf1 x2 xf2 x3 xf3 x4 xf4 x5 xf5 x6 xf6 x7 xf7 x8 xf8
          refine takeL 14 (v := ?_) rfl (by kernel_rfl) (by kernel_rfl) (by kernel_rfl) (fun _ _ _ h => h) (Or.inl ⟨by rfl, ?_⟩) (by assumption) ?_
          rotate_left
          focus (intro wq hSq; go_simp <;> with_reducible rfl)
          simp only [Act.put, List.setIfInBounds_toArray, List.set_cons_zero, List.set_cons_succ]
          refine wpAnyH_done (by kernel_rfl) ?_ _
          obtain ⟨W12, hW12⟩ : ∃ W, (((((((((W11.setCell ⟨b11, 0, none⟩ (.int .i64 0)).setCell ⟨b11, 1, none⟩ (.int .i64 0)).setCell ⟨b11, 2, none⟩ (.string (bstr []))).setCell ⟨b11, 3, none⟩ (.int .i64 0)).setCell ⟨b11, 4, none⟩ (.bool false)).setCell ⟨b11, 5, none⟩ (.int .i64 0)).setCell ⟨b11, 6, none⟩ (.int .i64 0)).setCell ⟨b11, 7, none⟩ (.slice so' 0 sc')).setCell ⟨b11, 8, none⟩ (.slice ro' 0 rc')) = W := ⟨_, rfl⟩
          rw [hW12] at hH12 ⊢
          have K12 := Lib.hid (hH12)
          clear hW12 hH12 hB11 X11 hb11
          go_wp2_with ((with_reducible refine (HLV.out W12).mono ?_); rintro e w13 ⟨rfl, hb13⟩; have K13 := Lib.hid (K12.out.trans (hb13.mono K12.out.size)); clear hb13)
          go_ret
          exact ⟨rfl, HBB.out.1 ▸ HB4.out.trans (K13.out.mono HS4.out)⟩
        · rw [if_pos (by rfl)]
          go_simp
          obtain ⟨W6, hW6⟩ : ∃ W, (w4.alloc (.cells mz 29)).drew = W := ⟨_, rfl⟩
          obtain ⟨b11, hb11⟩ : ∃ b, w4.heap.size = b := ⟨_, rfl⟩
          have X6 : CBox W6 b11 29 mz := by rw [← hW6]; exact (CBox.new _ hb11.symm).draws 1
          have hB6 : Below w4.heap.size w4 W6 := by rw [← hW6]; exact Below.drew ((Below.refl _ _).alloc (Nat.le_refl _) _)
          rw [hW6, hb11]
          refine hKr.out _ _ hB6 (fun _ => ?_)
          clear hKr hW6
          refine wpAnyH_ready (rs := [8]) (by kernel_rfl) (by simp) (nextL 8 rfl (fun Kr hKr => ?_) AllReadyH.nil)
          rw [if_pos (by rfl)]
          go_simp
          refine (HDC.out _).mono ?_
          rintro e w7 ⟨so', sc', ro', rc', rfl, hs4, hr4, hb4⟩
          have X11 := X6.below hb4 X6.lt
          have hB11 := hB6.trans (hb4.mono hB6.size)
          replace hb11 := Nat.le_of_eq hb11
          refine hKr.out _ _ hB11 (fun _ => ?_)
          clear hKr hs4 hr4 hb4 hB6 X6
          refine takeL 9 (v := ?_) rfl (by kernel_rfl) (by kernel_rfl) (by kernel_rfl) (fun _ _ _ h => h) (Or.inl ⟨by rfl, ?_⟩) (by assumption) ?_
          rotate_left
          focus (intro wq hSq; go_simp <;> with_reducible rfl)
          simp only [Act.put, List.setIfInBounds_toArray, List.set_cons_zero, List.set_cons_succ]
          refine takeL 10 (v := ?_) rfl (by kernel_rfl) (by kernel_rfl) (by kernel_rfl) (fun _ _ _ h => h) (Or.inl ⟨by rfl, ?_⟩) (by assumption) ?_
          rotate_left
          focus (intro wq hSq; go_simp <;> with_reducible rfl)
          simp only [Act.put, List.setIfInBounds_toArray, List.set_cons_zero, List.set_cons_succ]
          refine takeL 11 (v := ?_) rfl (by kernel_rfl) (by kernel_rfl) (by kernel_rfl) (fun _ _ _ h => h) (Or.inl ⟨by rfl, ?_⟩) (by assumption) ?_
          rotate_left
          focus (intro wq hSq; go_simp <;> with_reducible rfl)
          simp only [Act.put, List.setIfInBounds_toArray, List.set_cons_zero, List.set_cons_succ]
          refine wpAnyH_ready (rs := [13]) (by kernel_rfl) (by simp) (nextL 13 rfl (fun Kr hKr => ?_) AllReadyH.nil)
          rw [if_pos (by rfl)]
          obtain ⟨x0, xf0⟩ := CBox.at_ X11 0 _ rfl
          obtain ⟨x1, xf1⟩ := CBox.at_ X11 1 _ rfl
          obtain ⟨x2, xf2⟩ := CBox.at_ X11 2 _ rfl
          obtain ⟨x3, xf3⟩ := CBox.at_ X11 3 _ rfl
          obtain ⟨x4, xf4⟩ := CBox.at_ X11 4 _ rfl
          obtain ⟨x5, xf5⟩ := CBox.at_ X11 5 _ rfl
          obtain ⟨x6, xf6⟩ := CBox.at_ X11 6 _ rfl
          obtain ⟨x7, xf7⟩ := CBox.at_ X11 7 _ rfl
          obtain ⟨x8, xf8⟩ := CBox.at_ X11 8 _ rfl
          go_simp
          refine hKr.out _ _ (below9 hB11 hb11 _ _ _ _ _ _ _ _ _) (fun hH12 => ?_)
          clear hKr x0 xf0 x1 xf1 x2 xf2 x3 xf3 x4 xf4 x5 xf5 x6 xf6 x7 xf7 x8 xf8
          refine takeL 14 (v := ?_) rfl (by kernel_rfl) (by kernel_rfl) (by kernel_rfl) (fun _ _ _ h => h) (Or.inl ⟨by rfl, ?_⟩) (by assumption) ?_
          rotate_left
          focus (intro wq hSq; go_simp <;> with_reducible rfl)
          simp only [Act.put, List.setIfInBounds_toArray, List.set_cons_zero, List.set_cons_succ]
          refine wpAnyH_done (by kernel_rfl) ?_ _
          obtain ⟨W12, hW12⟩ : ∃ W, (((((((((w7.setCell ⟨b11, 0, none⟩ (.int .i64 0)).setCell ⟨b11, 1, none⟩ (.int .i64 0)).setCell ⟨b11, 2, none⟩ (.string (bstr []))).setCell ⟨b11, 3, none⟩ (.int .i64 0)).setCell ⟨b11, 4, none⟩ (.bool false)).setCell ⟨b11, 5, none⟩ (.int .i64 0)).setCell ⟨b11, 6, none⟩ (.int .i64 0)).setCell ⟨b11, 7, none⟩ (.slice so' 0 sc')).setCell ⟨b11, 8, none⟩ (.slice ro' 0 rc')) = W := ⟨_, rfl⟩
          rw [hW12] at hH12 ⊢
          have K12 := Lib.hid (hH12)
          clear hW12 hH12 hB11 X11 hb11
          go_wp2_with ((with_reducible refine (HLV.out W12).mono ?_); rintro e w13 ⟨rfl, hb13⟩; have K13 := Lib.hid (K12.out.trans (hb13.mono K12.out.size)); clear hb13)
          go_ret
          exact ⟨rfl, HBB.out.1 ▸ HB4.out.trans (K13.out.mono HS4.out)⟩
end Go.Proofs.Ythkibgdeibolfaa
