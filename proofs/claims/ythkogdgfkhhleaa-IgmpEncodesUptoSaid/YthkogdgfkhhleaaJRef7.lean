/- The document's layer 7: dec, Dec8, Enc8, Exact8. -/
import Derived.Test.YthkogdgfkhhleaaJLen
namespace Go.Proofs.Ythkogdgfkhhleaa
open Go.RowKit
set_option maxRecDepth 20000
set_option maxRecDepth 20000

theorem wrap_dbl (H : Nat) (h : H ≤ 1099511627776) : wrap64 (2 * (H : Int)) = ((2 * H : Nat) : Int) := by unfold wrap64; omega
theorem meas_up (K k : Nat) (h : k < K) : K - (intOf (.int .i64 ((k : Int) + 1))).toNat < K - (intOf (.int .i64 (k : Int))).toNat := by simp [intOf]; omega
/-- a number, doubled so many times -/
def dbl (M k : Nat) : Nat := M * 2 ^ k
theorem dbl_zero (M : Nat) : dbl M 0 = M := by simp [dbl]
theorem dbl_succ (M k : Nat) : 2 * dbl M k = dbl M (k + 1) := by rw [dbl, dbl, Nat.pow_succ, Nat.mul_comm (2 ^ k) 2, Nat.mul_left_comm]
theorem dbl_le (M k a b : Nat) (h1 : M ≤ a) (h2 : k ≤ b) : dbl M k ≤ a * 2 ^ b := Nat.mul_le_mul h1 (Nat.pow_le_pow_right (by decide) h2)
theorem dbl_84 : dbl 8 4 = 128 := rfl
theorem dbl_812 : dbl 8 12 = 32768 := rfl
theorem dbl_code (c p f : Nat) (hp : p = 2 ^ f) (h : ¬ c < 8 * p) : pdecode c f = dbl (c % p + p) (c / p % 8 + 3) := by
  subst hp
  exact if_neg h
attribute [irreducible] dbl
theorem ref_facts_4 (c Y M K m x : Nat) (hc : c < 256) (hY : Y = c / 16) (hM : M = c % 16 + 16) (hK : K = Y % 8 + 3) (hm : m = c % 16) (hx : x = Y % 8) :
    (c : Int).tmod 16 = m ∧ (c : Int) % 16 = m ∧ (c : Int).tdiv 16 = Y ∧ (c : Int) / 16 = Y ∧ wrap64 (Y : Int) = Y ∧ (Y : Int).tmod 8 = x ∧ (Y : Int) % 8 = x ∧ wrap64 ((m : Int) + 16) = M ∧ (m : Int) + 16 = M ∧ wrap64 ((x : Int) + 3) = K ∧ (x : Int) + 3 = K := by
  rw [Int.tmod_eq_emod_of_nonneg (by omega), Int.tmod_eq_emod_of_nonneg (by omega), Int.tdiv_eq_ediv_of_nonneg (by omega)]
  unfold wrap64
  omega
theorem ref_bounds_4 (c Y M K : Nat) (hY : Y = c / 16) (hM : M = c % 16 + 16) (hK : K = Y % 8 + 3) : ∀ k, k < K → dbl M k ≤ 1099511627776 := by
  intro k hk
  exact Nat.le_trans (dbl_le M k (2 * 16) 10 (by omega) (by omega)) (by decide)
set_option maxRecDepth 100000 in
set_option maxHeartbeats 1000000 in
theorem rdec_4 (c : Nat) (w : World) (hc : c < 256) :
    Calls Try.prog 72 #[.int .i64 c, .int .i64 4] w fun e w' => e = .returned (.int .i64 (pdecode c 4 : Nat)) ∧ w = w' := by
  obtain ⟨V, hV⟩ : ∃ V, V = pdecode c 4 := ⟨_, rfl⟩
  rw [← hV]
  have HC := Lib.hid (And.intro hc hV)
  clear hc hV
  go_enter Try.func72, Try.ntmps72
  go_wp2_with fail
  go_loop [5, 6] (fun h i => ∃ k : Nat, k ≤ 4 ∧ i = .int .i64 k ∧ h = .int .i64 ((dbl 8 k : Nat) : Int)) (fun _ i => 4 - (intOf i).toNat)
  case atStart => exact ⟨0, Nat.zero_le _, rfl, by rw [dbl_zero]; rfl⟩
  case round =>
    obtain ⟨k, hk, rfl, rfl⟩ := hrel
    by_cases hlt : k < 4
    · have hlt' : (k : Int) < 4 := by omega
      have HE := Lib.hid (dbl_succ 8 k)
      have hw := wrap_dbl (dbl 8 k) (Nat.le_trans (dbl_le 8 k 8 12 (Nat.le_refl _) (by omega)) (by decide))
      go_wp2_with fail
      refine ⟨⟨k + 1, hlt, rfl, ?_⟩, meas_up 4 k hlt⟩
      rw [← HE.out]
      first | rfl | exact congrArg (Value.int .i64) hw
    · obtain rfl : k = 4 := by omega
      have hc := HC.out.1
      have hV := HC.out.2
      rw [show ((dbl 8 4 : Nat) : Int) = 128 by rw [dbl_84]; rfl]
      by_cases h : c < 128
      · have d1 : decide ((c : Int) < 128) = true := decide_eq_true (by omega)
        have HD := Lib.hid (show V = c from hV.trans (if_pos h))
        clear HC hc h hlt hk hV
        go_wp2_with fail
        go_ret
        exact ⟨by rw [HD.out]; rfl, rfl⟩
      · have d1 : decide ((c : Int) < 128) = false := decide_eq_false (by omega)
        have hp := dbl_code c 16 4 rfl h
        obtain ⟨Y, hY⟩ : ∃ Y, Y = c / 16 := ⟨_, rfl⟩
        obtain ⟨M, hM⟩ : ∃ M, M = c % 16 + 16 := ⟨_, rfl⟩
        obtain ⟨K, hK⟩ : ∃ K, K = Y % 8 + 3 := ⟨_, rfl⟩
        rw [← hY, ← hM, ← hK] at hp
        have HP := Lib.hid hp
        have HB := Lib.hid (ref_bounds_4 c Y M K hY hM hK)
        obtain ⟨m, hm⟩ : ∃ m, m = c % 16 := ⟨_, rfl⟩
        obtain ⟨x, hx⟩ : ∃ x, x = Y % 8 := ⟨_, rfl⟩
        obtain ⟨t1, t2, t3, t4, t5, t6, t7, t8, t9, t10, t11⟩ := ref_facts_4 c Y M K m x hc hY hM hK hm hx
        rw [← hV] at HP
        clear HC hc h hlt hk hY hM hK hp hV hm hx
        go_wp2_with fail
        go_loop [8, 9] (fun a j => ∃ k : Nat, k ≤ K ∧ j = .int .i64 k ∧ a = .int .i64 ((dbl M k : Nat) : Int)) (fun _ j => K - (intOf j).toNat)
        case atStart => exact ⟨0, Nat.zero_le _, rfl, by rw [dbl_zero]⟩
        case round =>
          obtain ⟨k, hk, rfl, rfl⟩ := hrel
          by_cases hlt : k < K
          · have HE := Lib.hid (dbl_succ M k)
            have hw := wrap_dbl (dbl M k) (HB.out k hlt)
            go_wp2_with fail
            refine ⟨⟨k + 1, hlt, rfl, ?_⟩, meas_up K k hlt⟩
            rw [← HE.out]
            first | rfl | exact congrArg (Value.int .i64) hw
          · obtain rfl : K = k := Nat.le_antisymm (Nat.le_of_not_lt hlt) hk
            go_wp2_with fail
            go_ret
            exact ⟨by rw [HP.out]; rfl, rfl⟩
theorem ref_facts_12 (c Y M K m x : Nat) (hc : c < 65536) (hY : Y = c / 4096) (hM : M = c % 4096 + 4096) (hK : K = Y % 8 + 3) (hm : m = c % 4096) (hx : x = Y % 8) :
    (c : Int).tmod 4096 = m ∧ (c : Int) % 4096 = m ∧ (c : Int).tdiv 4096 = Y ∧ (c : Int) / 4096 = Y ∧ wrap64 (Y : Int) = Y ∧ (Y : Int).tmod 8 = x ∧ (Y : Int) % 8 = x ∧ wrap64 ((m : Int) + 4096) = M ∧ (m : Int) + 4096 = M ∧ wrap64 ((x : Int) + 3) = K ∧ (x : Int) + 3 = K := by
  rw [Int.tmod_eq_emod_of_nonneg (by omega), Int.tmod_eq_emod_of_nonneg (by omega), Int.tdiv_eq_ediv_of_nonneg (by omega)]
  unfold wrap64
  omega
theorem ref_bounds_12 (c Y M K : Nat) (hY : Y = c / 4096) (hM : M = c % 4096 + 4096) (hK : K = Y % 8 + 3) : ∀ k, k < K → dbl M k ≤ 1099511627776 := by
  intro k hk
  exact Nat.le_trans (dbl_le M k (2 * 4096) 10 (by omega) (by omega)) (by decide)
set_option maxRecDepth 100000 in
set_option maxHeartbeats 1000000 in
theorem rdec_12 (c : Nat) (w : World) (hc : c < 65536) :
    Calls Try.prog 72 #[.int .i64 c, .int .i64 12] w fun e w' => e = .returned (.int .i64 (pdecode c 12 : Nat)) ∧ w = w' := by
  obtain ⟨V, hV⟩ : ∃ V, V = pdecode c 12 := ⟨_, rfl⟩
  rw [← hV]
  have HC := Lib.hid (And.intro hc hV)
  clear hc hV
  go_enter Try.func72, Try.ntmps72
  go_wp2_with fail
  go_loop [5, 6] (fun h i => ∃ k : Nat, k ≤ 12 ∧ i = .int .i64 k ∧ h = .int .i64 ((dbl 8 k : Nat) : Int)) (fun _ i => 12 - (intOf i).toNat)
  case atStart => exact ⟨0, Nat.zero_le _, rfl, by rw [dbl_zero]; rfl⟩
  case round =>
    obtain ⟨k, hk, rfl, rfl⟩ := hrel
    by_cases hlt : k < 12
    · have hlt' : (k : Int) < 12 := by omega
      have HE := Lib.hid (dbl_succ 8 k)
      have hw := wrap_dbl (dbl 8 k) (Nat.le_trans (dbl_le 8 k 8 12 (Nat.le_refl _) (by omega)) (by decide))
      go_wp2_with fail
      refine ⟨⟨k + 1, hlt, rfl, ?_⟩, meas_up 12 k hlt⟩
      rw [← HE.out]
      first | rfl | exact congrArg (Value.int .i64) hw
    · obtain rfl : k = 12 := by omega
      have hc := HC.out.1
      have hV := HC.out.2
      rw [show ((dbl 8 12 : Nat) : Int) = 32768 by rw [dbl_812]; rfl]
      by_cases h : c < 32768
      · have d1 : decide ((c : Int) < 32768) = true := decide_eq_true (by omega)
        have HD := Lib.hid (show V = c from hV.trans (if_pos h))
        clear HC hc h hlt hk hV
        go_wp2_with fail
        go_ret
        exact ⟨by rw [HD.out]; rfl, rfl⟩
      · have d1 : decide ((c : Int) < 32768) = false := decide_eq_false (by omega)
        have hp := dbl_code c 4096 12 rfl h
        obtain ⟨Y, hY⟩ : ∃ Y, Y = c / 4096 := ⟨_, rfl⟩
        obtain ⟨M, hM⟩ : ∃ M, M = c % 4096 + 4096 := ⟨_, rfl⟩
        obtain ⟨K, hK⟩ : ∃ K, K = Y % 8 + 3 := ⟨_, rfl⟩
        rw [← hY, ← hM, ← hK] at hp
        have HP := Lib.hid hp
        have HB := Lib.hid (ref_bounds_12 c Y M K hY hM hK)
        obtain ⟨m, hm⟩ : ∃ m, m = c % 4096 := ⟨_, rfl⟩
        obtain ⟨x, hx⟩ : ∃ x, x = Y % 8 := ⟨_, rfl⟩
        obtain ⟨t1, t2, t3, t4, t5, t6, t7, t8, t9, t10, t11⟩ := ref_facts_12 c Y M K m x hc hY hM hK hm hx
        rw [← hV] at HP
        clear HC hc h hlt hk hY hM hK hp hV hm hx
        go_wp2_with fail
        go_loop [8, 9] (fun a j => ∃ k : Nat, k ≤ K ∧ j = .int .i64 k ∧ a = .int .i64 ((dbl M k : Nat) : Int)) (fun _ j => K - (intOf j).toNat)
        case atStart => exact ⟨0, Nat.zero_le _, rfl, by rw [dbl_zero]⟩
        case round =>
          obtain ⟨k, hk, rfl, rfl⟩ := hrel
          by_cases hlt : k < K
          · have HE := Lib.hid (dbl_succ M k)
            have hw := wrap_dbl (dbl M k) (HB.out k hlt)
            go_wp2_with fail
            refine ⟨⟨k + 1, hlt, rfl, ?_⟩, meas_up K k hlt⟩
            rw [← HE.out]
            first | rfl | exact congrArg (Value.int .i64) hw
          · obtain rfl : K = k := Nat.le_antisymm (Nat.le_of_not_lt hlt) hk
            go_wp2_with fail
            go_ret
            exact ⟨by rw [HP.out]; rfl, rfl⟩

theorem rdec8_any (c : Nat) (w : World) (hc : c < 256) :
    Calls Try.prog 55 #[.int .i64 c] w fun e w' => e = .returned (.tuple #[.int .i64 (pdecode c 4 : Nat), .int .i64 0]) ∧ w = w' := by
  have HD := Lib.hid (rdec_4 c w hc)
  have d1 : decide ((255 : Int) < c) = false := decide_eq_false (by omega)
  clear hc
  go_enter Try.func55, Try.ntmps55
  go_wp2_with ((with_reducible refine HD.out.mono ?_); rintro e w2 ⟨rfl, hw2⟩; subst w2)
  go_ret2
  exact ⟨rfl, rfl⟩

theorem renc8_any (n : Int) (w : World) :
    Calls Try.prog 64 #[.int .i64 n] w fun e w' => e = .returned (.tuple #[.int .i64 (encV_4 n), .int .i64 (encE n)]) ∧ w = w' := by
  unfold encV_4 encE
  by_cases h : 0 ≤ n
  · obtain ⟨m, rfl⟩ := Int.eq_ofNat_of_zero_le h
    have d1 : decide ((m : Int) < 0) = false := decide_eq_false (by omega)
    rw [if_pos h, if_pos h, Int.toNat_natCast]
    clear h
    go_enter Try.func64, Try.ntmps64
    go_wp2_with fail
    go_loop [4] (fun c => ∃ k : Nat, k ≤ 255 ∧ c = .int .i64 k ∧ ∀ d, k < d → d < 256 → m < pdecode d 4) (fun c => (intOf c).toNat)
    case atStart => exact ⟨255, Nat.le_refl _, rfl, fun d h1 h2 => by omega⟩
    case round =>
      obtain ⟨k, hk, rfl, hall⟩ := hrel
      have HD := Lib.hid (rdec_4 k w (by omega))
      have HALL := Lib.hid hall
      by_cases hlt : m < pdecode k 4
      · have hk0 : 0 < k := by
          rcases Nat.eq_zero_or_pos k with e | e
          · subst e; simp [pdecode] at hlt
          · exact e
        have d2 : decide ((m : Int) < (pdecode k 4 : Nat)) = true := decide_eq_true (by omega)
        have d3 : decide (m < pdecode k 4) = true := decide_eq_true hlt
        have HLT := Lib.hid hlt
        obtain ⟨j, rfl⟩ : ∃ j, k = j + 1 := ⟨k - 1, by omega⟩
        have hw : wrap64 (((j + 1 : Nat) : Int) - 1) = (j : Int) := by unfold wrap64; omega
        have HD : Hid (Calls Try.prog 72 #[.int .i64 ((j : Int) + 1), .int .i64 4] w fun e w' => e = .returned (.int .i64 (pdecode (j + 1) 4 : Nat)) ∧ w = w') := HD
        clear hall hlt hk0
        go_wp2_with ((with_reducible refine HD.out.mono ?_); rintro e w2 ⟨rfl, hw2⟩; subst w2)
        exact ⟨⟨j, by omega, rfl, fun d h1 h2 => by
          by_cases e : d = j + 1
          · subst e; exact HLT.out
          · exact HALL.out d (by omega) h2⟩, by simp [intOf]⟩
      · have d2 : decide ((m : Int) < (pdecode k 4 : Nat)) = false := decide_eq_false (by omega)
        have d3 : decide (m < pdecode k 4) = false := decide_eq_false hlt
        have HE := Lib.hid (pencode_unique 4 (.inl rfl) m k (by omega) (by omega) (fun d h1 h2 => hall d h1 h2))
        clear hall hlt
        go_wp2_with ((with_reducible refine HD.out.mono ?_); rintro e w2 ⟨rfl, hw2⟩; subst w2)
        go_ret2
        exact ⟨by rw [HE.out]; rfl, rfl⟩
  · have d1 : decide (n < 0) = true := decide_eq_true (by omega)
    rw [if_neg h, if_neg h]
    clear h
    go_enter Try.func64, Try.ntmps64
    go_wp2_with fail
    go_ret2
    exact ⟨rfl, rfl⟩

theorem encV4_lt (n : Int) : encV_4 n < 256 := by
  unfold encV_4
  split
  · exact (pencode_spec 4 (.inl rfl) _).1
  · decide
theorem exact8_any (n : Int) (w : World) :
    Calls Try.prog 63 #[.int .i64 n] w fun e w' => e = .returned (.bool (exact8 n)) ∧ w = w' := by
  have HE := Lib.hid (renc8_any n w)
  have HD := Lib.hid (rdec_4 (encV_4 n) w (encV4_lt n))
  unfold exact8
  unfold encE at HE
  by_cases h : 0 ≤ n
  · obtain ⟨m, rfl⟩ := Int.eq_ofNat_of_zero_le h
    rw [if_pos h] at HE
    have hv : encV_4 (m : Int) = pencode m 4 := by unfold encV_4; rw [if_pos h, Int.toNat_natCast]
    rw [hv] at HE HD
    rw [decide_eq_true h, Int.toNat_natCast]
    obtain ⟨E, hE⟩ : ∃ E, E = pencode m 4 := ⟨_, rfl⟩
    rw [← hE] at HE HD ⊢
    obtain ⟨D, hD⟩ : ∃ D, D = pdecode E 4 := ⟨_, rfl⟩
    rw [← hD] at HD ⊢
    have HB := Lib.hid (show ((D : Int) == m) = decide (D = m) from by
      by_cases e : D = m
      · rw [decide_eq_true e]; exact beq_iff_eq.2 (by omega)
      · rw [decide_eq_false e]; exact beq_eq_false_iff_ne.2 (by omega))
    have HB2 := Lib.hid (show (D == m) = decide (D = m) from by
      by_cases e : D = m
      · rw [decide_eq_true e]; exact beq_iff_eq.2 e
      · rw [decide_eq_false e]; exact beq_eq_false_iff_ne.2 e)
    clear hE hD hv h
    go_enter Try.func63, Try.ntmps63
    go_wp2_with (first | ((with_reducible refine HE.out.mono ?_); rintro e w2 ⟨rfl, hw2⟩; subst w2) | ((with_reducible refine HD.out.mono ?_); rintro e w2 ⟨rfl, hw2⟩; subst w2))
    go_ret
    first
      | exact ⟨by rw [← HB.out]; rfl, rfl⟩
      | exact ⟨by rw [← HB2.out]; rfl, rfl⟩
  · rw [if_neg h] at HE
    rw [decide_eq_false h]
    clear h
    go_enter Try.func63, Try.ntmps63
    go_wp2_with ((with_reducible refine HE.out.mono ?_); rintro e w2 ⟨rfl, hw2⟩; subst w2)
    go_ret
    exact ⟨by rw [Bool.false_and]; rfl, rfl⟩
end Go.Proofs.Ythkogdgfkhhleaa
