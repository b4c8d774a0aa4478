/- Texts joined into one file: MLawEnc. -/
import Derived.Test.YthkibgdeibolfaaQ29

/- The walk of MldEncodes. -/
namespace Go.Proofs.Ythkibgdeibolfaa
open Go.RowKit Go.Sort
set_option maxRecDepth 20000
set_option maxRecDepth 20000
attribute [local go_sem] bstr_size bstr_extract bstr_toList bstr_get

set_option maxHeartbeats 4000000 in
theorem law_menc (A B : Str) (k v mx r ev : Int) (g : Str) (q : Bool) (so : Option Addr) (L : List Str) (sc : Nat) (ro : Option Addr) (R : List Rec) (rc : Nat) (w : World) (hs : Strs w (.slice so L.length sc) L) (hr : R.length ≤ 40 → Recs w (.slice ro R.length rc) R)
    (hg : g.length ≤ 140737488351232) (hLx : ∀ x ∈ L, x.length ≤ 140737488351232) (hmx : mx < 2 ^ 63) (hev : ev < 2 ^ 63) :
    Calls Try.prog 4 #[.agg #[.string (bstr A), .string (bstr B)], .agg (msgCells k v g mx q r ev so L.length sc ro R.length rc)] w (YesB w) := by
  have HLV := Lib.hid live9_yes
  obtain ⟨ns, hns⟩ : ∃ ns, L.length = ns := ⟨_, rfl⟩
  obtain ⟨nr, hnr⟩ : ∃ nr, R.length = nr := ⟨_, rfl⟩
  obtain ⟨b1, hb1⟩ : ∃ b, w.heap.size = b := ⟨_, rfl⟩
  obtain ⟨b2, hb2⟩ : ∃ b, b1 + 1 = b := ⟨_, rfl⟩
  obtain ⟨W1, hW1⟩ : ∃ W1, w.alloc (.cells #[.string (bstr A), .string (bstr B)] 24) = W1 := ⟨_, rfl⟩
  obtain ⟨W2, hW2⟩ : ∃ W2, W1.alloc (.cells (msgCells k v g mx q r ev so ns sc ro nr rc) 29) = W2 := ⟨_, rfl⟩
  have hs1 : W1.heap.size = b2 := by rw [← hW1, World.size_alloc, hb1, hb2]
  have k1 : Below b1 w W1 := by rw [← hW1]; exact (Below.refl b1 w).alloc (by rw [hb1]; exact Nat.le_refl _) _
  have k2 : Below b2 W1 W2 := by rw [← hW2]; exact (Below.refl b2 W1).alloc (by rw [hs1]; exact Nat.le_refl _) _
  have k12 : Below w.heap.size w W2 := by rw [hb1]; exact k1.trans (k2.mono (by omega))
  have HX1 := Lib.hid (show CBox W2 b1 24 #[.string (bstr A), .string (bstr B)] from (show CBox W1 b1 _ _ from by rw [← hW1]; exact CBox.new _ hb1.symm).below k2 (by omega))
  have HX2 := Lib.hid (show CBox W2 b2 29 (msgCells k v g mx q r ev so ns sc ro nr rc) from by rw [← hW2]; exact CBox.new _ hs1.symm)
  have HB2 := Lib.hid (show Below b1 w W2 from hb1 ▸ k12)
  have HBB := Lib.hid (And.intro hb1 hb2); have HW1 := Lib.hid hW1; have HW2 := Lib.hid hW2
  have HNN := Lib.hid (And.intro hns hnr)
  have HFR := Lib.hid (few9_any k v mx r ev g q so L sc ro R rc W2 (fun h => (hr h).mono k12))
  obtain ⟨f, hf⟩ : ∃ f, fewB L R = f := ⟨_, rfl⟩
  rw [hf] at HFR
  unfold RetF at HFR
  cases f
  · rw [hns, hnr] at HFR ⊢
    clear hs hr hg hLx hmx hev hb1 hb2 hW1 hW2 hs1 k1 k2 k12 hf hns hnr
    go_enter Try.func4, Try.ntmps4
    go_upto_region 1 with fail
    rw [HW1.out, HBB.out.1, HBB.out.2, HW2.out]
    obtain ⟨a0, af0⟩ := CBox.at_ HX1.out 0 _ rfl; obtain ⟨a1, af1⟩ := CBox.at_ HX1.out 1 _ rfl
    obtain ⟨x0, xf0⟩ := CBox.at_ HX2.out 0 _ rfl
    obtain ⟨x1, xf1⟩ := CBox.at_ HX2.out 1 _ rfl
    obtain ⟨x2, xf2⟩ := CBox.at_ HX2.out 2 _ rfl
    obtain ⟨x3, xf3⟩ := CBox.at_ HX2.out 3 _ rfl
    obtain ⟨x4, xf4⟩ := CBox.at_ HX2.out 4 _ rfl
    obtain ⟨x5, xf5⟩ := CBox.at_ HX2.out 5 _ rfl
    obtain ⟨x6, xf6⟩ := CBox.at_ HX2.out 6 _ rfl
    obtain ⟨x7, xf7⟩ := CBox.at_ HX2.out 7 _ rfl
    obtain ⟨x8, xf8⟩ := CBox.at_ HX2.out 8 _ rfl
    go_wp2_with (first | ((with_reducible refine HFR.out.mono ?_); rintro e w3 ⟨rfl, hb3⟩; have K3 := Lib.hid hb3; have HY3 := Lib.hid (HX1.out.below hb3 HX1.out.lt); have HZ3 := Lib.hid (HX2.out.below hb3 HX2.out.lt); clear hb3 a0 af0 a1 af1 x0 xf0 x1 xf1 x2 xf2 x3 xf3 x4 xf4 x5 xf5 x6 xf6 x7 xf7 x8 xf8; obtain ⟨a0, af0⟩ := CBox.at_ HY3.out 0 _ rfl; obtain ⟨a1, af1⟩ := CBox.at_ HY3.out 1 _ rfl; obtain ⟨x0, xf0⟩ := CBox.at_ HZ3.out 0 _ rfl; obtain ⟨x1, xf1⟩ := CBox.at_ HZ3.out 1 _ rfl; obtain ⟨x2, xf2⟩ := CBox.at_ HZ3.out 2 _ rfl; obtain ⟨x3, xf3⟩ := CBox.at_ HZ3.out 3 _ rfl; obtain ⟨x4, xf4⟩ := CBox.at_ HZ3.out 4 _ rfl; obtain ⟨x5, xf5⟩ := CBox.at_ HZ3.out 5 _ rfl; obtain ⟨x6, xf6⟩ := CBox.at_ HZ3.out 6 _ rfl; obtain ⟨x7, xf7⟩ := CBox.at_ HZ3.out 7 _ rfl; obtain ⟨x8, xf8⟩ := CBox.at_ HZ3.out 8 _ rfl) | ((with_reducible refine (HLV.out w3).mono ?_); rintro e w4 ⟨rfl, hb4⟩; have K4 := Lib.hid (K3.out.trans (hb4.mono K3.out.size)); clear hb4))
    go_ret
    exact ⟨rfl, HBB.out.1 ▸ HB2.out.trans (K4.out.mono (Nat.le_of_lt HX1.out.lt))⟩
  · have hfe : L.length ≤ 100 ∧ R.length ≤ 40 := by
      unfold fewB at hf; simp only [Bool.and_eq_true, decide_eq_true_eq, List.all_eq_true] at hf; exact hf.1
    have hrr := hr hfe.2
    have HEN := Lib.hid (fun W (hb : Below W2.heap.size W2 W) => mencode_any A B k v mx r ev g q so L sc ro R rc W ((hs.mono k12).mono hb) ((hrr.mono k12).mono hb) hg (fun _ => ⟨hfe.1, hLx, hmx, hev⟩))
    have HRE := Lib.hid (fun W (hb : Below W2.heap.size W2 W) => rencode9_any A B k v mx r ev g q so L sc ro R rc W ((hs.mono k12).mono hb) ((hrr.mono k12).mono hb) (Nat.le_trans hg (by decide)))
    obtain ⟨P, hP⟩ : ∃ P, penc9 A B ⟨k, v, g, mx, q, r, ev, L, R⟩ = P := ⟨_, rfl⟩
    obtain ⟨T, er⟩ := P
    rw [hP] at HEN HRE
    unfold RetBody at HEN HRE
    dsimp only at HEN HRE
    rw [hns, hnr] at HFR HEN HRE ⊢
    clear hs hr hg hLx hmx hev hb1 hb2 hW1 hW2 hs1 k1 k2 k12 hf hns hnr hfe hrr hP
    by_cases hA : A.length ≤ 100
    rotate_left
    · have d2 : decide ((100 : Int) < A.length) = true := decide_eq_true (by omega)
      have d2' : decide (100 < A.length) = true := decide_eq_true (by omega)
      clear hA
      go_enter Try.func4, Try.ntmps4
      go_upto_region 1 with fail
      rw [HW1.out, HBB.out.1, HBB.out.2, HW2.out]
      obtain ⟨a0, af0⟩ := CBox.at_ HX1.out 0 _ rfl; obtain ⟨a1, af1⟩ := CBox.at_ HX1.out 1 _ rfl
      obtain ⟨x0, xf0⟩ := CBox.at_ HX2.out 0 _ rfl
      obtain ⟨x1, xf1⟩ := CBox.at_ HX2.out 1 _ rfl
      obtain ⟨x2, xf2⟩ := CBox.at_ HX2.out 2 _ rfl
      obtain ⟨x3, xf3⟩ := CBox.at_ HX2.out 3 _ rfl
      obtain ⟨x4, xf4⟩ := CBox.at_ HX2.out 4 _ rfl
      obtain ⟨x5, xf5⟩ := CBox.at_ HX2.out 5 _ rfl
      obtain ⟨x6, xf6⟩ := CBox.at_ HX2.out 6 _ rfl
      obtain ⟨x7, xf7⟩ := CBox.at_ HX2.out 7 _ rfl
      obtain ⟨x8, xf8⟩ := CBox.at_ HX2.out 8 _ rfl
      go_wp2_with (first | ((with_reducible refine HFR.out.mono ?_); rintro e w3 ⟨rfl, hb3⟩; have K3 := Lib.hid hb3; have HY3 := Lib.hid (HX1.out.below hb3 HX1.out.lt); have HZ3 := Lib.hid (HX2.out.below hb3 HX2.out.lt); clear hb3 a0 af0 a1 af1 x0 xf0 x1 xf1 x2 xf2 x3 xf3 x4 xf4 x5 xf5 x6 xf6 x7 xf7 x8 xf8; obtain ⟨a0, af0⟩ := CBox.at_ HY3.out 0 _ rfl; obtain ⟨a1, af1⟩ := CBox.at_ HY3.out 1 _ rfl; obtain ⟨x0, xf0⟩ := CBox.at_ HZ3.out 0 _ rfl; obtain ⟨x1, xf1⟩ := CBox.at_ HZ3.out 1 _ rfl; obtain ⟨x2, xf2⟩ := CBox.at_ HZ3.out 2 _ rfl; obtain ⟨x3, xf3⟩ := CBox.at_ HZ3.out 3 _ rfl; obtain ⟨x4, xf4⟩ := CBox.at_ HZ3.out 4 _ rfl; obtain ⟨x5, xf5⟩ := CBox.at_ HZ3.out 5 _ rfl; obtain ⟨x6, xf6⟩ := CBox.at_ HZ3.out 6 _ rfl; obtain ⟨x7, xf7⟩ := CBox.at_ HZ3.out 7 _ rfl; obtain ⟨x8, xf8⟩ := CBox.at_ HZ3.out 8 _ rfl) | ((with_reducible refine (HLV.out w3).mono ?_); rintro e w4 ⟨rfl, hb4⟩; have K4 := Lib.hid (K3.out.trans (hb4.mono K3.out.size)); clear hb4))
      go_ret
      exact ⟨rfl, HBB.out.1 ▸ HB2.out.trans (K4.out.mono (Nat.le_of_lt HX1.out.lt))⟩
    have d2 : decide ((100 : Int) < A.length) = false := decide_eq_false (by omega)
    have d2' : decide (100 < A.length) = false := decide_eq_false (by omega)
    by_cases hB : B.length ≤ 100
    rotate_left
    · have d3 : decide ((100 : Int) < B.length) = true := decide_eq_true (by omega)
      have d3' : decide (100 < B.length) = true := decide_eq_true (by omega)
      clear hA hB
      go_enter Try.func4, Try.ntmps4
      go_upto_region 1 with fail
      rw [HW1.out, HBB.out.1, HBB.out.2, HW2.out]
      obtain ⟨a0, af0⟩ := CBox.at_ HX1.out 0 _ rfl; obtain ⟨a1, af1⟩ := CBox.at_ HX1.out 1 _ rfl
      obtain ⟨x0, xf0⟩ := CBox.at_ HX2.out 0 _ rfl
      obtain ⟨x1, xf1⟩ := CBox.at_ HX2.out 1 _ rfl
      obtain ⟨x2, xf2⟩ := CBox.at_ HX2.out 2 _ rfl
      obtain ⟨x3, xf3⟩ := CBox.at_ HX2.out 3 _ rfl
      obtain ⟨x4, xf4⟩ := CBox.at_ HX2.out 4 _ rfl
      obtain ⟨x5, xf5⟩ := CBox.at_ HX2.out 5 _ rfl
      obtain ⟨x6, xf6⟩ := CBox.at_ HX2.out 6 _ rfl
      obtain ⟨x7, xf7⟩ := CBox.at_ HX2.out 7 _ rfl
      obtain ⟨x8, xf8⟩ := CBox.at_ HX2.out 8 _ rfl
      go_wp2_with (first | ((with_reducible refine HFR.out.mono ?_); rintro e w3 ⟨rfl, hb3⟩; have K3 := Lib.hid hb3; have HY3 := Lib.hid (HX1.out.below hb3 HX1.out.lt); have HZ3 := Lib.hid (HX2.out.below hb3 HX2.out.lt); clear hb3 a0 af0 a1 af1 x0 xf0 x1 xf1 x2 xf2 x3 xf3 x4 xf4 x5 xf5 x6 xf6 x7 xf7 x8 xf8; obtain ⟨a0, af0⟩ := CBox.at_ HY3.out 0 _ rfl; obtain ⟨a1, af1⟩ := CBox.at_ HY3.out 1 _ rfl; obtain ⟨x0, xf0⟩ := CBox.at_ HZ3.out 0 _ rfl; obtain ⟨x1, xf1⟩ := CBox.at_ HZ3.out 1 _ rfl; obtain ⟨x2, xf2⟩ := CBox.at_ HZ3.out 2 _ rfl; obtain ⟨x3, xf3⟩ := CBox.at_ HZ3.out 3 _ rfl; obtain ⟨x4, xf4⟩ := CBox.at_ HZ3.out 4 _ rfl; obtain ⟨x5, xf5⟩ := CBox.at_ HZ3.out 5 _ rfl; obtain ⟨x6, xf6⟩ := CBox.at_ HZ3.out 6 _ rfl; obtain ⟨x7, xf7⟩ := CBox.at_ HZ3.out 7 _ rfl; obtain ⟨x8, xf8⟩ := CBox.at_ HZ3.out 8 _ rfl) | ((with_reducible refine (HLV.out w3).mono ?_); rintro e w4 ⟨rfl, hb4⟩; have K4 := Lib.hid (K3.out.trans (hb4.mono K3.out.size)); clear hb4))
      go_ret
      exact ⟨rfl, HBB.out.1 ▸ HB2.out.trans (K4.out.mono (Nat.le_of_lt HX1.out.lt))⟩
    have d3 : decide ((100 : Int) < B.length) = false := decide_eq_false (by omega)
    have d3' : decide (100 < B.length) = false := decide_eq_false (by omega)
    clear hA hB
    go_enter Try.func4, Try.ntmps4
    go_upto_region 1 with fail
    rw [HW1.out, HBB.out.1, HBB.out.2, HW2.out]
    obtain ⟨a0, af0⟩ := CBox.at_ HX1.out 0 _ rfl; obtain ⟨a1, af1⟩ := CBox.at_ HX1.out 1 _ rfl
    obtain ⟨x0, xf0⟩ := CBox.at_ HX2.out 0 _ rfl
    obtain ⟨x1, xf1⟩ := CBox.at_ HX2.out 1 _ rfl
    obtain ⟨x2, xf2⟩ := CBox.at_ HX2.out 2 _ rfl
    obtain ⟨x3, xf3⟩ := CBox.at_ HX2.out 3 _ rfl
    obtain ⟨x4, xf4⟩ := CBox.at_ HX2.out 4 _ rfl
    obtain ⟨x5, xf5⟩ := CBox.at_ HX2.out 5 _ rfl
    obtain ⟨x6, xf6⟩ := CBox.at_ HX2.out 6 _ rfl
    obtain ⟨x7, xf7⟩ := CBox.at_ HX2.out 7 _ rfl
    obtain ⟨x8, xf8⟩ := CBox.at_ HX2.out 8 _ rfl
    go_wp2_with (first | ((with_reducible refine HFR.out.mono ?_); rintro e w3 ⟨rfl, hb3⟩; have K3 := Lib.hid hb3; have HY3 := Lib.hid (HX1.out.below hb3 HX1.out.lt); have HZ3 := Lib.hid (HX2.out.below hb3 HX2.out.lt); clear hb3 a0 af0 a1 af1 x0 xf0 x1 xf1 x2 xf2 x3 xf3 x4 xf4 x5 xf5 x6 xf6 x7 xf7 x8 xf8; obtain ⟨a0, af0⟩ := CBox.at_ HY3.out 0 _ rfl; obtain ⟨a1, af1⟩ := CBox.at_ HY3.out 1 _ rfl; obtain ⟨x0, xf0⟩ := CBox.at_ HZ3.out 0 _ rfl; obtain ⟨x1, xf1⟩ := CBox.at_ HZ3.out 1 _ rfl; obtain ⟨x2, xf2⟩ := CBox.at_ HZ3.out 2 _ rfl; obtain ⟨x3, xf3⟩ := CBox.at_ HZ3.out 3 _ rfl; obtain ⟨x4, xf4⟩ := CBox.at_ HZ3.out 4 _ rfl; obtain ⟨x5, xf5⟩ := CBox.at_ HZ3.out 5 _ rfl; obtain ⟨x6, xf6⟩ := CBox.at_ HZ3.out 6 _ rfl; obtain ⟨x7, xf7⟩ := CBox.at_ HZ3.out 7 _ rfl; obtain ⟨x8, xf8⟩ := CBox.at_ HZ3.out 8 _ rfl) | ((with_reducible refine (HEN.out w3 K3.out).mono ?_); rintro e w4 ⟨rfl, hb4⟩; have K4 := Lib.hid (K3.out.trans (hb4.mono K3.out.size)); have HY4 := Lib.hid (HY3.out.below hb4 HY3.out.lt); have HZ4 := Lib.hid (HZ3.out.below hb4 HZ3.out.lt); clear hb4 a0 af0 a1 af1 x0 xf0 x1 xf1 x2 xf2 x3 xf3 x4 xf4 x5 xf5 x6 xf6 x7 xf7 x8 xf8; obtain ⟨a0, af0⟩ := CBox.at_ HY4.out 0 _ rfl; obtain ⟨a1, af1⟩ := CBox.at_ HY4.out 1 _ rfl; obtain ⟨x0, xf0⟩ := CBox.at_ HZ4.out 0 _ rfl; obtain ⟨x1, xf1⟩ := CBox.at_ HZ4.out 1 _ rfl; obtain ⟨x2, xf2⟩ := CBox.at_ HZ4.out 2 _ rfl; obtain ⟨x3, xf3⟩ := CBox.at_ HZ4.out 3 _ rfl; obtain ⟨x4, xf4⟩ := CBox.at_ HZ4.out 4 _ rfl; obtain ⟨x5, xf5⟩ := CBox.at_ HZ4.out 5 _ rfl; obtain ⟨x6, xf6⟩ := CBox.at_ HZ4.out 6 _ rfl; obtain ⟨x7, xf7⟩ := CBox.at_ HZ4.out 7 _ rfl; obtain ⟨x8, xf8⟩ := CBox.at_ HZ4.out 8 _ rfl) | ((with_reducible refine (HRE.out w4 K4.out).mono ?_); rintro e w5 ⟨rfl, hb5⟩; have K5 := Lib.hid (K4.out.trans (hb5.mono K4.out.size)); clear hb5 a0 af0 a1 af1 x0 xf0 x1 xf1 x2 xf2 x3 xf3 x4 xf4 x5 xf5 x6 xf6 x7 xf7 x8 xf8) | ((with_reducible refine (HLV.out w5).mono ?_); rintro e w6 ⟨rfl, hb6⟩; have K6 := Lib.hid (K5.out.trans (hb6.mono K5.out.size)); clear hb6))
    go_ret
    exact ⟨rfl, HBB.out.1 ▸ HB2.out.trans (K6.out.mono (Nat.le_of_lt HX1.out.lt))⟩
end Go.Proofs.Ythkibgdeibolfaa
