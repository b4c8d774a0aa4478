/- The walk of IgmpEncodes. -/
import Derived.Test.YthkogdgfkhhleaaJCopy
import Derived.Test.YthkogdgfkhhleaaJLawBack
import Derived.Test.YthkogdgfkhhleaaJBytes
namespace Go.Proofs.Ythkogdgfkhhleaa
open Go.RowKit Go.Sort
set_option maxRecDepth 20000
set_option maxRecDepth 20000
attribute [local go_sem] bstr_size bstr_extract bstr_toList bstr_get

set_option maxHeartbeats 4000000 in
theorem law_encodes (k v mx r ev : Int) (g : Str) (q : Bool) (so : Option Addr) (L : List Str) (sc : Nat) (ro : Option Addr) (R : List Rec) (rc : Nat) (w : World) (hs : Strs w (.slice so L.length sc) L) (hr : R.length ≤ 40 → Recs w (.slice ro R.length rc) R)
    (hg : g.length ≤ 1048576) (hL : L.flatten.length + L.length ≤ 1048576) (hmx : mx < 2 ^ 63) (hev : ev < 2 ^ 63) :
    Calls Try.prog 4 #[.agg (msgCells k v g mx q r ev so L.length sc ro R.length rc)] w (YesR w) := by
  have HLV := Lib.hid live_yes
  have b0 : (⟨#[]⟩ : ByteArray) = bstr [] := bstr_nil.symm
  obtain ⟨b1, hb1⟩ : ∃ b, w.heap.size = b := ⟨_, rfl⟩
  obtain ⟨W1, hW1⟩ : ∃ W1, w.alloc (.cells (msgCells k v g mx q r ev so L.length sc ro R.length rc) 27) = W1 := ⟨_, rfl⟩
  have k1 : Below w.heap.size w W1 := by rw [← hW1]; exact (Below.refl _ _).alloc (Nat.le_refl _) _
  have HX1 := Lib.hid (show CBox W1 b1 27 (msgCells k v g mx q r ev so L.length sc ro R.length rc) from by rw [← hW1]; exact CBox.new _ hb1.symm)
  have HB1 := Lib.hid (show Below b1 w W1 from hb1 ▸ k1)
  have HBB := Lib.hid hb1; have HW1 := Lib.hid hW1
  have HFR := Lib.hid (few8_any k v mx r ev g q so L sc ro R rc W1 (fun h => (hr h).mono k1))
  obtain ⟨f, hf⟩ : ∃ f, fewB L R = f := ⟨_, rfl⟩
  rw [hf] at HFR
  unfold RetF at HFR
  cases f
  · clear hs hr hg hL hmx hev hb1 hW1 k1 hf
    go_enter Try.func4, Try.ntmps4
    go_upto_region 1 with fail
    rw [HBB.out, HW1.out]
    obtain ⟨x0, xf0⟩ := CBox.at_ HX1.out 0 _ rfl
    obtain ⟨x1, xf1⟩ := CBox.at_ HX1.out 1 _ rfl
    obtain ⟨x2, xf2⟩ := CBox.at_ HX1.out 2 _ rfl
    obtain ⟨x3, xf3⟩ := CBox.at_ HX1.out 3 _ rfl
    obtain ⟨x4, xf4⟩ := CBox.at_ HX1.out 4 _ rfl
    obtain ⟨x5, xf5⟩ := CBox.at_ HX1.out 5 _ rfl
    obtain ⟨x6, xf6⟩ := CBox.at_ HX1.out 6 _ rfl
    obtain ⟨x7, xf7⟩ := CBox.at_ HX1.out 7 _ rfl
    obtain ⟨x8, xf8⟩ := CBox.at_ HX1.out 8 _ rfl
    go_wp2_with (first | ((with_reducible refine HFR.out.mono ?_); rintro e w2 ⟨rfl, hb2⟩; have HB2 := Lib.hid (HB1.out.trans (hb2.mono (Nat.le_of_lt HX1.out.lt))); have HS2 := Lib.hid (Nat.le_trans (Nat.le_of_lt HX1.out.lt) hb2.size); clear hb2) | ((with_reducible refine (HLV.out _).mono ?_); rintro e w3 ⟨rfl, hb3⟩; have HB3 := Lib.hid (HB2.out.trans (hb3.mono HS2.out)); clear hb3))
    go_ret
    exact ⟨rfl, HBB.out ▸ HB3.out⟩
  · have hfe : L.length ≤ 100 ∧ R.length ≤ 40 ∧ ∀ r ∈ R, r.2.2.length ≤ 100 := by
      unfold fewB at hf; simp only [Bool.and_eq_true, decide_eq_true_eq, List.all_eq_true] at hf; exact ⟨hf.1.1, hf.1.2, hf.2⟩
    have hrr := hr hfe.2.1
    have HCO := Lib.hid (fun W (hb : Below W1.heap.size W1 W) => copied_any k v mx r ev g q so L sc ro R rc W ((hs.mono k1).mono hb) ((hrr.mono k1).mono hb) hfe.1 hfe.2.1 hfe.2.2)
    unfold RetCopy at HCO
    have HEN := Lib.hid (fun so' sc' ro' rc' W (h1 : Strs W (.slice so' L.length sc') L) (h2 : Recs W (.slice ro' R.length rc') R) => encode_any k v mx r ev g q so' L sc' ro' R rc' W h1 h2 (by omega) (by omega) (by omega) hmx hev)
    have HRE := Lib.hid (fun W (hb : Below W1.heap.size W1 W) => rencode_any k v mx r ev g q so L sc ro R rc W ((hs.mono k1).mono hb) ((hrr.mono k1).mono hb) (Nat.le_trans hg (by decide)))
    have HSA := Lib.hid (fun so' sc' ro' rc' W (hb : Below W1.heap.size W1 W) (h1 : Strs W (.slice so' L.length sc') L) (h2 : Recs W (.slice ro' R.length rc') R) => same_yes k v mx r ev g q so' L sc' ro' R rc' so sc ro rc W h1 h2 ((hs.mono k1).mono hb) ((hrr.mono k1).mono hb))
    obtain ⟨P, hP⟩ : ∃ P, penc ⟨k, v, g, mx, q, r, ev, L, R⟩ = P := ⟨_, rfl⟩
    obtain ⟨T, er⟩ := P
    rw [hP] at HEN HRE
    unfold RetBody at HEN HRE
    dsimp only at HEN HRE
    obtain ⟨ns, hns⟩ : ∃ ns, L.length = ns := ⟨_, rfl⟩
    obtain ⟨nr, hnr⟩ : ∃ nr, R.length = nr := ⟨_, rfl⟩
    rw [hns] at HX1 HW1 HFR HCO HEN HRE HSA ⊢
    rw [hnr] at HX1 HW1 HFR HCO HEN HRE HSA ⊢
    have RF := Lib.hid (Below.refl W1.heap.size W1)
    clear hs hr hg hL hmx hev hb1 hW1 k1 hf hfe hrr hP hns hnr
    go_enter Try.func4, Try.ntmps4
    go_upto_region 1 with fail
    rw [HBB.out, HW1.out]
    obtain ⟨x0, xf0⟩ := CBox.at_ HX1.out 0 _ rfl
    obtain ⟨x1, xf1⟩ := CBox.at_ HX1.out 1 _ rfl
    obtain ⟨x2, xf2⟩ := CBox.at_ HX1.out 2 _ rfl
    obtain ⟨x3, xf3⟩ := CBox.at_ HX1.out 3 _ rfl
    obtain ⟨x4, xf4⟩ := CBox.at_ HX1.out 4 _ rfl
    obtain ⟨x5, xf5⟩ := CBox.at_ HX1.out 5 _ rfl
    obtain ⟨x6, xf6⟩ := CBox.at_ HX1.out 6 _ rfl
    obtain ⟨x7, xf7⟩ := CBox.at_ HX1.out 7 _ rfl
    obtain ⟨x8, xf8⟩ := CBox.at_ HX1.out 8 _ rfl
    go_upto_region 4 with (first
      | ((with_reducible refine HFR.out.mono ?_); rintro e w2 ⟨rfl, hb2⟩; have K2 := Lib.hid hb2; have HX2 := Lib.hid (HX1.out.below hb2 HX1.out.lt); clear hb2 x0 xf0 x1 xf1 x2 xf2 x3 xf3 x4 xf4 x5 xf5 x6 xf6 x7 xf7 x8 xf8; obtain ⟨x0, xf0⟩ := CBox.at_ HX2.out 0 _ rfl; obtain ⟨x1, xf1⟩ := CBox.at_ HX2.out 1 _ rfl; obtain ⟨x2, xf2⟩ := CBox.at_ HX2.out 2 _ rfl; obtain ⟨x3, xf3⟩ := CBox.at_ HX2.out 3 _ rfl; obtain ⟨x4, xf4⟩ := CBox.at_ HX2.out 4 _ rfl; obtain ⟨x5, xf5⟩ := CBox.at_ HX2.out 5 _ rfl; obtain ⟨x6, xf6⟩ := CBox.at_ HX2.out 6 _ rfl; obtain ⟨x7, xf7⟩ := CBox.at_ HX2.out 7 _ rfl; obtain ⟨x8, xf8⟩ := CBox.at_ HX2.out 8 _ rfl)
      | ((with_reducible refine (HCO.out w2 K2.out).mono ?_); rintro e w3 ⟨so', sc', ro', rc', rfl, hs3, hr3, hb3⟩; have K3 := Lib.hid (K2.out.trans (hb3.mono K2.out.size)); have HX3 := Lib.hid (HX2.out.below hb3 HX2.out.lt); have HT3 := Lib.hid (And.intro hs3 hr3); clear hs3 hr3 hb3 x0 xf0 x1 xf1 x2 xf2 x3 xf3 x4 xf4 x5 xf5 x6 xf6 x7 xf7 x8 xf8))
    obtain ⟨W4, hW4⟩ : ∃ W4, w3.alloc (.cells (msgCells k v g mx q r ev so' ns sc' ro' nr rc') 27) = W4 := ⟨_, rfl⟩
    obtain ⟨mb, hmb⟩ : ∃ mb, w3.heap.size = mb := ⟨_, rfl⟩
    have k4 : Below w3.heap.size w3 W4 := by rw [← hW4]; exact (Below.refl _ _).alloc (Nat.le_refl _) _
    have HX4 := Lib.hid (HX3.out.below k4 HX3.out.lt)
    have HY4 := Lib.hid (show CBox W4 mb 27 (msgCells k v g mx q r ev so' ns sc' ro' nr rc') from by rw [← hW4]; exact CBox.new _ hmb.symm)
    have K4 := Lib.hid (K3.out.trans (k4.mono K3.out.size))
    have HT4 := Lib.hid (And.intro (HT3.out.1.mono k4) (HT3.out.2.mono k4))
    rw [hW4, hmb]
    clear hW4 hmb k4
    obtain ⟨y0, yf0⟩ := CBox.at_ HY4.out 0 _ rfl
    obtain ⟨y1, yf1⟩ := CBox.at_ HY4.out 1 _ rfl
    obtain ⟨y2, yf2⟩ := CBox.at_ HY4.out 2 _ rfl
    obtain ⟨y3, yf3⟩ := CBox.at_ HY4.out 3 _ rfl
    obtain ⟨y4, yf4⟩ := CBox.at_ HY4.out 4 _ rfl
    obtain ⟨y5, yf5⟩ := CBox.at_ HY4.out 5 _ rfl
    obtain ⟨y6, yf6⟩ := CBox.at_ HY4.out 6 _ rfl
    obtain ⟨y7, yf7⟩ := CBox.at_ HY4.out 7 _ rfl
    obtain ⟨y8, yf8⟩ := CBox.at_ HY4.out 8 _ rfl
    go_upto_region 6 with (first
      | ((with_reducible refine (HEN.out so' sc' ro' rc' W4 HT4.out.1 HT4.out.2).mono ?_); rintro e w5 ⟨rfl, hb5⟩; have K5 := Lib.hid (K4.out.trans (hb5.mono K4.out.size)); have HX5 := Lib.hid (HX4.out.below hb5 HX4.out.lt); have HY5 := Lib.hid (HY4.out.below hb5 HY4.out.lt); have HT5 := Lib.hid (And.intro (HT4.out.1.mono hb5) (HT4.out.2.mono hb5)); clear hb5 y0 yf0 y1 yf1 y2 yf2 y3 yf3 y4 yf4 y5 yf5 y6 yf6 y7 yf7 y8 yf8; obtain ⟨x0, xf0⟩ := CBox.at_ HX5.out 0 _ rfl; obtain ⟨x1, xf1⟩ := CBox.at_ HX5.out 1 _ rfl; obtain ⟨x2, xf2⟩ := CBox.at_ HX5.out 2 _ rfl; obtain ⟨x3, xf3⟩ := CBox.at_ HX5.out 3 _ rfl; obtain ⟨x4, xf4⟩ := CBox.at_ HX5.out 4 _ rfl; obtain ⟨x5, xf5⟩ := CBox.at_ HX5.out 5 _ rfl; obtain ⟨x6, xf6⟩ := CBox.at_ HX5.out 6 _ rfl; obtain ⟨x7, xf7⟩ := CBox.at_ HX5.out 7 _ rfl; obtain ⟨x8, xf8⟩ := CBox.at_ HX5.out 8 _ rfl)
      | ((with_reducible refine (HRE.out w5 K5.out).mono ?_); rintro e w6 ⟨rfl, hb6⟩; have K6 := Lib.hid (K5.out.trans (hb6.mono K5.out.size)); have HX6 := Lib.hid (HX5.out.below hb6 HX5.out.lt); have HY6 := Lib.hid (HY5.out.below hb6 HY5.out.lt); have HT6 := Lib.hid (And.intro (HT5.out.1.mono hb6) (HT5.out.2.mono hb6)); clear hb6 x0 xf0 x1 xf1 x2 xf2 x3 xf3 x4 xf4 x5 xf5 x6 xf6 x7 xf7 x8 xf8))
    obtain ⟨x0, xf0⟩ := CBox.at_ HX6.out 0 _ rfl
    obtain ⟨x1, xf1⟩ := CBox.at_ HX6.out 1 _ rfl
    obtain ⟨x2, xf2⟩ := CBox.at_ HX6.out 2 _ rfl
    obtain ⟨x3, xf3⟩ := CBox.at_ HX6.out 3 _ rfl
    obtain ⟨x4, xf4⟩ := CBox.at_ HX6.out 4 _ rfl
    obtain ⟨x5, xf5⟩ := CBox.at_ HX6.out 5 _ rfl
    obtain ⟨x6, xf6⟩ := CBox.at_ HX6.out 6 _ rfl
    obtain ⟨x7, xf7⟩ := CBox.at_ HX6.out 7 _ rfl
    obtain ⟨x8, xf8⟩ := CBox.at_ HX6.out 8 _ rfl
    obtain ⟨y0, yf0⟩ := CBox.at_ HY6.out 0 _ rfl
    obtain ⟨y1, yf1⟩ := CBox.at_ HY6.out 1 _ rfl
    obtain ⟨y2, yf2⟩ := CBox.at_ HY6.out 2 _ rfl
    obtain ⟨y3, yf3⟩ := CBox.at_ HY6.out 3 _ rfl
    obtain ⟨y4, yf4⟩ := CBox.at_ HY6.out 4 _ rfl
    obtain ⟨y5, yf5⟩ := CBox.at_ HY6.out 5 _ rfl
    obtain ⟨y6, yf6⟩ := CBox.at_ HY6.out 6 _ rfl
    obtain ⟨y7, yf7⟩ := CBox.at_ HY6.out 7 _ rfl
    obtain ⟨y8, yf8⟩ := CBox.at_ HY6.out 8 _ rfl
    go_wp2_with (first
      | ((with_reducible refine (HSA.out so' sc' ro' rc' w6 K6.out HT6.out.1 HT6.out.2).mono ?_); rintro e w7 ⟨rfl, hb7⟩; have K7 := Lib.hid (K6.out.trans (hb7.mono K6.out.size)); clear hb7)
      | ((with_reducible refine (HLV.out w7).mono ?_); rintro e w8 ⟨rfl, hb8⟩; have K8 := Lib.hid (K7.out.trans (hb8.mono K7.out.size)); clear hb8))
    go_ret
    exact ⟨rfl, HBB.out ▸ HB1.out.trans (K8.out.mono (Nat.le_of_lt HX1.out.lt))⟩
end Go.Proofs.Ythkogdgfkhhleaa
