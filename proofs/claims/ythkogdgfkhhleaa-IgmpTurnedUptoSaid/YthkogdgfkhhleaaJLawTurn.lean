/- The walk of IgmpTurned. -/
import Derived.Test.YthkogdgfkhhleaaJLawBack
namespace Go.Proofs.Ythkogdgfkhhleaa
open Go.RowKit Go.Sort
set_option maxRecDepth 20000
attribute [local go_sem] bstr_size bstr_extract bstr_toList bstr_get

theorem at_mended (z : Int) (hz : -2 ^ 63 ≤ z ∧ z < 2 ^ 63) : ∃ a : Int, 0 ≤ a ∧ a < 2 ^ 63 ∧ ((decide (z < 0) = true ∧ wrap64 (-wrap64 (z + 1)) = a) ∨ (decide (z < 0) = false ∧ z = a)) := by
  by_cases h : z < 0
  · refine ⟨-(z + 1), by omega, by omega, .inl ⟨decide_eq_true h, ?_⟩⟩
    have e1 : wrap64 (z + 1) = z + 1 := by unfold wrap64; omega
    rw [e1]
    unfold wrap64; omega
  · exact ⟨z, by omega, hz.2, .inr ⟨decide_eq_false h, rfl⟩⟩
theorem at_parts (a : Int) (n : Nat) (ha : 0 ≤ a) (hn : 0 < n) : ∃ p i : Nat, p < n ∧ i < 8 ∧ Int.tdiv (Int.tmod a (8 * (n : Int))) 8 = (p : Int) ∧ Int.tmod (Int.tmod a (8 * (n : Int))) 8 = (i : Int) ∧ 0 ≤ Int.tmod a (8 * (n : Int)) ∧ Int.tmod a (8 * (n : Int)) < 8 * (n : Int) ∧ True := by
  have h1 : Int.tmod a (8 * (n : Int)) = a % (8 * (n : Int)) := Int.tmod_eq_emod_of_nonneg ha
  have h2 := Int.emod_nonneg a (show (8 * (n : Int)) ≠ 0 by omega)
  have h3 := Int.emod_lt_of_pos a (show (0 : Int) < 8 * (n : Int) by omega)
  rw [h1, Int.tdiv_eq_ediv_of_nonneg h2, Int.tmod_eq_emod_of_nonneg h2]
  generalize a % (8 * (n : Int)) = m at h2 h3
  exact ⟨(m / 8).toNat, (m % 8).toNat, by omega, by omega, by omega, by omega, h2, h3, trivial⟩
theorem split_at (T : Str) (p : Nat) (h : p < T.length) : ∃ (x : UInt8) (post pre : Str), T = pre ++ x :: post ∧ pre.length = p :=
  ⟨T[p], T.drop (p + 1), T.take p, by rw [← List.drop_eq_getElem_cons h, List.take_append_drop], by simp; omega⟩
theorem wrapped64 (z : Int) (h : (Lit.int .i64 z).wf = true) : -2 ^ 63 ≤ z ∧ z < 2 ^ 63 := by
  have h1 := h
  have e0 : IntKind.i64.min = -9223372036854775808 := by decide
  have e1 : IntKind.i64.max = 9223372036854775807 := by decide
  simp [Lit.wf, e0, e1] at h1
  omega
theorem wrap_idx (p n : Nat) (h : p < n) (hn : n ≤ 40000) : wrap64 (p : Int) = (p : Int) := w64 _ (by omega) (by omega)
theorem bits_all : ∀ x : Fin 256, ∀ i : Fin 8, bits .xor .u8 (((x : Nat) : Int)) (2 ^ min (IntKind.u64.wrap ((i : Nat) : Int)).toNat 8 % 256) = (((x : Nat) ^^^ 2 ^ (i : Nat) : Nat) : Int) ∧ ((x : Nat) ^^^ 2 ^ (i : Nat)) < 256 := of_decide_eq_true (by kernel_rfl)
theorem bits_one (x : UInt8) (i : Nat) (hi : i < 8) : ∃ y : UInt8, bits .xor .u8 ((x.toNat : Int)) (2 ^ min (IntKind.u64.wrap (i : Int)).toNat 8 % 256) = (y.toNat : Int) ∧ y.toNat = x.toNat ^^^ 2 ^ i := by
  obtain ⟨h1, h2⟩ := bits_all ⟨x.toNat, x.toNat_lt⟩ ⟨i, hi⟩
  refine ⟨UInt8.ofNat (x.toNat ^^^ 2 ^ i), ?_, ?_⟩
  · rw [UInt8.toNat_ofNat', Nat.mod_eq_of_lt h2]; exact h1
  · rw [UInt8.toNat_ofNat', Nat.mod_eq_of_lt h2]
theorem getD_mid (pre post : Str) (x : UInt8) (p : Nat) (hp : pre.length = p) : (pre ++ x :: post).getD p 0 = x := by
  subst hp; simp [List.getD_eq_getElem?_getD]
theorem getD_off (pre post : Str) (x y : UInt8) (p j : Nat) (hp : pre.length = p) (hj : j ≠ p) : (pre ++ y :: post).getD j 0 = (pre ++ x :: post).getD j 0 := by
  subst hp
  rcases Nat.lt_or_gt_of_ne hj with h | h
  · simp [List.getD_eq_getElem?_getD, List.getElem?_append_left h]
  · obtain ⟨m, rfl⟩ : ∃ m, j = pre.length + (m + 1) := ⟨j - pre.length - 1, by omega⟩
    simp [List.getD_eq_getElem?_getD, List.getElem?_append_right]
theorem bytes_set {W : World} {b p n : Nat} {pre post : Str} {x y : UInt8} (h : Bytes W b (pre ++ x :: post)) (hp : pre.length = p) : Bytes (W.setCell ⟨b, p, none⟩ (.int .u8 y.toNat)) b (pre ++ y :: post) := by
  intro j hj
  have hj' : j < (pre ++ x :: post).length := by simp only [List.length_append, List.length_cons] at hj ⊢; exact hj
  refine ⟨Nat.lt_of_lt_of_le (h j hj').1 ((Below.refl 0 W).setCell (Nat.zero_le _) _).size, ?_⟩
  by_cases e : j = p
  · subst e
    rw [World.cell?_setCell_same W ⟨b, j, none⟩ _ (h j hj').2, getD_mid pre post y j hp]
  · rw [World.cell?_setCell_other W ⟨b, p, none⟩ ⟨b, j, none⟩ _ (show (⟨b, p, none⟩ : Addr) ≠ ⟨b, j, none⟩ from fun hh => e (congrArg Addr.off hh).symm), (h j hj').2, getD_off pre post x y p j hp e]
theorem dec_wrong (s : Str) (h8 : 8 ≤ s.length) (h : psum s ≠ 0) : pdec s = (4, .zero) := by
  unfold pdec
  rw [if_neg (by omega), if_pos h]
set_option maxHeartbeats 4000000 in
theorem law_turned (k v mx r ev : Int) (g : Str) (q : Bool) (so : Option Addr) (L : List Str) (sc : Nat) (ro : Option Addr) (R : List Rec) (rc : Nat) (z : Int) (w : World) (hs : Strs w (.slice so L.length sc) L) (hr : R.length ≤ 40 → Recs w (.slice ro R.length rc) R)
    (hg : g.length ≤ 1048576) (hL : L.flatten.length + L.length ≤ 1048576) (hmx : mx < 2 ^ 63) (hev : ev < 2 ^ 63) (hz : -2 ^ 63 ≤ z ∧ z < 2 ^ 63) :
    Calls Try.prog 7 #[.agg (msgCells k v g mx q r ev so L.length sc ro R.length rc), .int .i64 z] w (YesR w) := by
  have HLV := Lib.hid live_yes
  have b0 : (⟨#[]⟩ : ByteArray) = bstr [] := bstr_nil.symm
  obtain ⟨b1, hb1⟩ : ∃ b, w.heap.size = b := ⟨_, rfl⟩
  obtain ⟨W1, hW1⟩ : ∃ W1, w.alloc (.cells (msgCells k v g mx q r ev so L.length sc ro R.length rc) 27) = W1 := ⟨_, rfl⟩
  have k1 : Below w.heap.size w W1 := by rw [← hW1]; exact (Below.refl _ _).alloc (Nat.le_refl _) _
  have HX1 := Lib.hid (show CBox W1 b1 27 (msgCells k v g mx q r ev so L.length sc ro R.length rc) from by rw [← hW1]; exact CBox.new _ hb1.symm)
  have HB1 := Lib.hid (show Below b1 w W1 from hb1 ▸ k1)
  have HBB := Lib.hid hb1; have HW1 := Lib.hid hW1
  have HFR := Lib.hid (few8_any k v mx r ev g q so L sc ro R rc W1 (fun h => (hr h).mono k1))
  obtain ⟨f, hf⟩ : ∃ f, fewB L R = f := ⟨_, rfl⟩
  rw [hf] at HFR
  unfold RetF at HFR
  cases f
  · clear hs hr hg hL hmx hev hb1 hW1 k1 hf
    go_enter Try.func7, Try.ntmps7
    go_upto_region 1 with fail
    rw [HBB.out, HW1.out]
    obtain ⟨x0, xf0⟩ := CBox.at_ HX1.out 0 _ rfl
    obtain ⟨x1, xf1⟩ := CBox.at_ HX1.out 1 _ rfl
    obtain ⟨x2, xf2⟩ := CBox.at_ HX1.out 2 _ rfl
    obtain ⟨x3, xf3⟩ := CBox.at_ HX1.out 3 _ rfl
    obtain ⟨x4, xf4⟩ := CBox.at_ HX1.out 4 _ rfl
    obtain ⟨x5, xf5⟩ := CBox.at_ HX1.out 5 _ rfl
    obtain ⟨x6, xf6⟩ := CBox.at_ HX1.out 6 _ rfl
    obtain ⟨x7, xf7⟩ := CBox.at_ HX1.out 7 _ rfl
    obtain ⟨x8, xf8⟩ := CBox.at_ HX1.out 8 _ rfl
    go_wp2_with (first | ((with_reducible refine HFR.out.mono ?_); rintro e w2 ⟨rfl, hb2⟩; have HB2 := Lib.hid (HB1.out.trans (hb2.mono (Nat.le_of_lt HX1.out.lt))); have HS2 := Lib.hid (Nat.le_trans (Nat.le_of_lt HX1.out.lt) hb2.size); clear hb2) | ((with_reducible refine (HLV.out _).mono ?_); rintro e w3 ⟨rfl, hb3⟩; have HB3 := Lib.hid (HB2.out.trans (hb3.mono HS2.out)); clear hb3))
    go_ret
    exact ⟨rfl, HBB.out ▸ HB3.out⟩
  · have h40 : R.length ≤ 40 := by unfold fewB at hf; simp only [Bool.and_eq_true, decide_eq_true_eq] at hf; exact hf.1.2
    have hrr := hr h40
    have HSR := Lib.hid (fun W (hb : Below W1.heap.size W1 W) => And.intro ((hs.mono k1).mono hb) ((hrr.mono k1).mono hb))
    have HEN := Lib.hid (fun W (hb : Below W1.heap.size W1 W) => encode_any k v mx r ev g q so L sc ro R rc W ((hs.mono k1).mono hb) ((hrr.mono k1).mono hb) (by omega) (by omega) (by omega) hmx hev)
    obtain ⟨yy, hy⟩ : ∃ yy, mayM ⟨k, v, g, mx, q, r, ev, L, R⟩ = yy := ⟨_, rfl⟩
    have RF := Lib.hid (Below.refl W1.heap.size W1)
    cases yy
    · rw [show penc ⟨k, v, g, mx, q, r, ev, L, R⟩ = ([], 1) from by unfold penc; rw [hy]; rfl] at HEN
      unfold RetBody at HEN
      clear hs hr hg hL hmx hev hb1 hW1 k1 hf h40 hrr hy hz
      go_enter Try.func7, Try.ntmps7
      go_upto_region 1 with fail
      rw [HBB.out, HW1.out]
      obtain ⟨x0, xf0⟩ := CBox.at_ HX1.out 0 _ rfl
      obtain ⟨x1, xf1⟩ := CBox.at_ HX1.out 1 _ rfl
      obtain ⟨x2, xf2⟩ := CBox.at_ HX1.out 2 _ rfl
      obtain ⟨x3, xf3⟩ := CBox.at_ HX1.out 3 _ rfl
      obtain ⟨x4, xf4⟩ := CBox.at_ HX1.out 4 _ rfl
      obtain ⟨x5, xf5⟩ := CBox.at_ HX1.out 5 _ rfl
      obtain ⟨x6, xf6⟩ := CBox.at_ HX1.out 6 _ rfl
      obtain ⟨x7, xf7⟩ := CBox.at_ HX1.out 7 _ rfl
      obtain ⟨x8, xf8⟩ := CBox.at_ HX1.out 8 _ rfl
      go_wp2_with (first | ((with_reducible refine HFR.out.mono ?_); rintro e w2 ⟨rfl, hb2⟩; have K2 := Lib.hid hb2; have HX2 := Lib.hid (HX1.out.below hb2 HX1.out.lt); clear hb2 x0 xf0 x1 xf1 x2 xf2 x3 xf3 x4 xf4 x5 xf5 x6 xf6 x7 xf7 x8 xf8; obtain ⟨x0, xf0⟩ := CBox.at_ HX2.out 0 _ rfl; obtain ⟨x1, xf1⟩ := CBox.at_ HX2.out 1 _ rfl; obtain ⟨x2, xf2⟩ := CBox.at_ HX2.out 2 _ rfl; obtain ⟨x3, xf3⟩ := CBox.at_ HX2.out 3 _ rfl; obtain ⟨x4, xf4⟩ := CBox.at_ HX2.out 4 _ rfl; obtain ⟨x5, xf5⟩ := CBox.at_ HX2.out 5 _ rfl; obtain ⟨x6, xf6⟩ := CBox.at_ HX2.out 6 _ rfl; obtain ⟨x7, xf7⟩ := CBox.at_ HX2.out 7 _ rfl; obtain ⟨x8, xf8⟩ := CBox.at_ HX2.out 8 _ rfl) | ((with_reducible refine (HEN.out w2 K2.out).mono ?_); rintro e w3 ⟨rfl, hb3⟩; have K3 := Lib.hid (K2.out.trans (hb3.mono K2.out.size)); clear hb3 x0 xf0 x1 xf1 x2 xf2 x3 xf3 x4 xf4 x5 xf5 x6 xf6 x7 xf7 x8 xf8) | ((with_reducible refine (HLV.out w3).mono ?_); rintro e w4 ⟨rfl, hb4⟩; have K4 := Lib.hid (K3.out.trans (hb4.mono K3.out.size)); clear hb4))
      go_ret
      exact ⟨rfl, HBB.out ▸ HB1.out.trans (K4.out.mono (Nat.le_of_lt HX1.out.lt))⟩
    · obtain ⟨T, hT⟩ : ∃ T, fillS [] (bytesM ⟨k, v, g, mx, q, r, ev, L, R⟩) 2 = T := ⟨_, rfl⟩
      have hbk := (back _ hy).2
      have hln := fill_len _ hy
      rw [hT] at hbk hln
      rw [show penc ⟨k, v, g, mx, q, r, ev, L, R⟩ = (T, 0) from by unfold penc; rw [hy, hT]; rfl] at HEN
      unfold RetBody at HEN
      obtain ⟨a, ha0, ha1, haz⟩ : ∃ a : Int, 0 ≤ a ∧ a < 2 ^ 63 ∧ ((decide (z < 0) = true ∧ wrap64 (-wrap64 (z + 1)) = a) ∨ (decide (z < 0) = false ∧ z = a)) := at_mended z hz
      obtain ⟨n, hn⟩ : ∃ n, T.length = n := ⟨_, rfl⟩
      obtain ⟨p, i, hp, hi, hdiv, hmod, hk0, hk1, hrem⟩ := at_parts a n ha0 (by omega)
      obtain ⟨M, hM⟩ : ∃ M : Int, 8 * (n : Int) = M := ⟨_, rfl⟩
      have e1 : wrap64 (8 * (n : Int)) = M := by rw [← hM]; exact w64 _ (by omega) (by omega)
      obtain ⟨Q, hQ⟩ : ∃ Q : Int, Int.tmod a M = Q := ⟨_, rfl⟩
      rw [hM, hQ] at hdiv hmod hk0 hk1
      obtain ⟨x, post, pre, hTs, hpl⟩ : ∃ (x : UInt8) (post pre : Str), T = pre ++ x :: post ∧ pre.length = p := split_at T p (by omega)
      have hne : (n == 0) = false := by rw [Bool.eq_false_iff, ne_eq, beq_iff_eq]; omega
      have hne2 : ((n : Int) == 0) = false := by rw [Bool.eq_false_iff, ne_eq, beq_iff_eq]; omega
      have hT0 : decide (T = []) = false := decide_eq_false (by rintro rfl; simp at hn; omega)
      have HDM2 := Lib.hid hn
      have HDM := Lib.hid (And.intro hdiv (And.intro hmod (And.intro hk0 (And.intro hk1 (And.intro hp hM)))))
      obtain ⟨y, hbx, hyx⟩ := bits_one x i hi
      have HBX := Lib.hid hbx
      have HWP := Lib.hid (wrap_idx p n hp (by omega))
      have HGD := Lib.hid (show T.getD p 0 = x from by rw [hTs]; exact getD_mid pre post x p hpl)
      have HTS := Lib.hid hTs
      obtain ⟨T2, hT2⟩ : ∃ T2 : Str, pre ++ y :: post = T2 := ⟨_, rfl⟩
      have HT2 := Lib.hid hT2
      have HLN := Lib.hid (show (pre ++ y :: post).length = n from by rw [← hn, hTs]; simp)
      have hT2l : T2.length = n := by rw [← hT2]; exact HLN.out
      have hpd := dec_wrong T2 (by omega) (by rw [← hT2]; rw [hTs] at hbk; exact psum_turned pre post x y i hi hyx hbk)
      have HDC := Lib.hid (fun W => (decode_any T2 W (by omega)).mono fun _ _ h => ret_decM h)
      rw [hpd] at HDC
      unfold RetDecM Msg.zero at HDC
      dsimp only at HDC
      have hM0 : ¬ M = 0 := by omega
      have HPT := Lib.hid (And.intro hbk (And.intro hTs (And.intro hpl (And.intro hi hln))))
      clear hs hr hg hL hmx hev hb1 hW1 k1 hf h40 hrr hy hT hbk hln hz hTs hpl hi hp hdiv hmod hk0 hk1 hrem ha0 ha1 hM hbx hyx hT2 hT2l hpd
      rcases haz with ⟨c1, c2⟩ | ⟨c1, rfl⟩
      all_goals
        go_enter Try.func7, Try.ntmps7
        go_upto_region 1 with fail
        rw [HBB.out, HW1.out]
        obtain ⟨x0, xf0⟩ := CBox.at_ HX1.out 0 _ rfl
        obtain ⟨x1, xf1⟩ := CBox.at_ HX1.out 1 _ rfl
        obtain ⟨x2, xf2⟩ := CBox.at_ HX1.out 2 _ rfl
        obtain ⟨x3, xf3⟩ := CBox.at_ HX1.out 3 _ rfl
        obtain ⟨x4, xf4⟩ := CBox.at_ HX1.out 4 _ rfl
        obtain ⟨x5, xf5⟩ := CBox.at_ HX1.out 5 _ rfl
        obtain ⟨x6, xf6⟩ := CBox.at_ HX1.out 6 _ rfl
        obtain ⟨x7, xf7⟩ := CBox.at_ HX1.out 7 _ rfl
        obtain ⟨x8, xf8⟩ := CBox.at_ HX1.out 8 _ rfl
        go_upto_region 8 with (first | ((with_reducible refine HFR.out.mono ?_); rintro e w2 ⟨rfl, hb2⟩; have K2 := Lib.hid hb2; have HX2 := Lib.hid (HX1.out.below hb2 HX1.out.lt); clear hb2 x0 xf0 x1 xf1 x2 xf2 x3 xf3 x4 xf4 x5 xf5 x6 xf6 x7 xf7 x8 xf8; obtain ⟨x0, xf0⟩ := CBox.at_ HX2.out 0 _ rfl; obtain ⟨x1, xf1⟩ := CBox.at_ HX2.out 1 _ rfl; obtain ⟨x2, xf2⟩ := CBox.at_ HX2.out 2 _ rfl; obtain ⟨x3, xf3⟩ := CBox.at_ HX2.out 3 _ rfl; obtain ⟨x4, xf4⟩ := CBox.at_ HX2.out 4 _ rfl; obtain ⟨x5, xf5⟩ := CBox.at_ HX2.out 5 _ rfl; obtain ⟨x6, xf6⟩ := CBox.at_ HX2.out 6 _ rfl; obtain ⟨x7, xf7⟩ := CBox.at_ HX2.out 7 _ rfl; obtain ⟨x8, xf8⟩ := CBox.at_ HX2.out 8 _ rfl) | ((with_reducible refine (HEN.out w2 K2.out).mono ?_); rintro e w3 ⟨rfl, hb3⟩; have K3 := Lib.hid (K2.out.trans (hb3.mono K2.out.size)); clear hb3 x0 xf0 x1 xf1 x2 xf2 x3 xf3 x4 xf4 x5 xf5 x6 xf6 x7 xf7 x8 xf8))
        obtain ⟨cp, W8, hcv, hb8, hs8, hB8, hfz⟩ := run_bytes_b (P := Try.prog) w3 9 44 5 T Try.underlying9 Try.underlying44 Try.underlying5
        have HB8 := Lib.hid (And.intro hb8 (And.intro hs8 (And.intro hB8 hfz)))
        rw [hn] at hcv
        clear hb8 hs8 hB8 hfz hn
        go_upto_region 10 with fail
        obtain ⟨hdiv, hmod, hk0, hk1, hp, hM⟩ := HDM.out
        have r0 := (HB8.out.2.2.1 p (HDM2.out ▸ hp)).2
        have rf := HB8.out.2.2.2 p (HDM2.out ▸ hp)
        rw [HGD.out] at r0
        have wp := HWP.out
        have hbx := HBX.out
        have hpi : ((p : Int) < (n : Int)) := Int.ofNat_lt.mpr hp
        clear hk0 hk1 hM
        go_upto_region 11 with fail
        have hBT := bytes_set (y := y) (n := n) (HTS.out ▸ HB8.out.2.2.1) HPT.out.2.2.1
        have hcv2 := run_string_b (P := Try.prog) (W8.setCell ⟨w3.heap.size, p, none⟩ (.int .u8 y.toNat)) 44 9 5 w3.heap.size cp (pre ++ y :: post) Try.underlying44 Try.underlying5 Try.underlying9 hBT
        rw [HLN.out, HT2.out] at hcv2
        have K10 := Lib.hid ((K3.out.trans (HB8.out.1.mono K3.out.size)).setCell (p := ⟨w3.heap.size, p, none⟩) K3.out.size (.int .u8 y.toNat))
        obtain ⟨W10, hW10⟩ : ∃ W10, W8.setCell ⟨w3.heap.size, p, none⟩ (.int .u8 y.toNat) = W10 := ⟨_, rfl⟩
        rw [hW10] at hcv2 K10 ⊢
        clear r0 rf hbx hpi hcv hBT hW10 hdiv hmod hp e1 hQ
        go_upto_region 12 with ((with_reducible refine (HDC.out W10).mono ?_); rintro e w7 ⟨so', sc', ro', rc', rfl, hs4, hr4, hb4⟩; have K7 := Lib.hid (K10.out.trans (hb4.mono K10.out.size)); clear hb4 hs4 hr4)
        obtain ⟨W5, hW5⟩ : ∃ W5, w7.alloc (.cells (msgCells 0 0 [] 0 false 0 0 so' 0 sc' ro' 0 rc') 27) = W5 := ⟨_, rfl⟩
        have K5 := Lib.hid (show Below W1.heap.size W1 W5 from by rw [← hW5]; exact K7.out.alloc K7.out.size _)
        rw [hW5]
        clear hW5
        go_wp2_with ((with_reducible refine (HLV.out W5).mono ?_); rintro e w4 ⟨rfl, hb4⟩; have K4 := Lib.hid (K5.out.trans (hb4.mono K5.out.size)); clear hb4)
        go_ret
        exact ⟨rfl, HBB.out ▸ HB1.out.trans (K4.out.mono (Nat.le_of_lt HX1.out.lt))⟩
end Go.Proofs.Ythkogdgfkhhleaa
