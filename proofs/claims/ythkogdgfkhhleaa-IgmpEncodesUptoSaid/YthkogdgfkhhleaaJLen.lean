/- code: enc, decode, encode, Dec8, Enc8 (Dec16, Enc16); bits.Len in plain words. -/
import Derived.Test.YthkogdgfkhhleaaJDec
import Derived.Test.YthkogdgfkhhleaaBitShelf
namespace Go.Proofs.Ythkogdgfkhhleaa
open Go.RowKit
set_option maxRecDepth 20000
set_option maxRecDepth 20000

theorem bitLen_log (x : Nat) : ∀ n, x ≤ n → x ≠ 0 → x < 2 ^ 64 → Lib.bitLen x = Nat.log2 x + 1 := by
  intro n
  induction n generalizing x with
  | zero => intro h h0 _; omega
  | succ n ih =>
    intro h h0 h64
    rw [Lib.bitLen_half x h0 h64]
    by_cases h1 : x = 1
    · subst h1; rfl
    · rw [ih (x / 2) (by omega) (by omega) (by omega), Nat.log2_def x, if_pos (by omega)]
      omega

def encE (n : Int) : Int := if 0 ≤ n then 0 else 1
theorem enc_parts_4 (n X : Nat) (h : ¬ n < 128) (hX : Nat.log2 n = X + 4 + 3) (hx : ¬ 7 < X) : pencode n 4 = 128 + X * 16 + n / 2 ^ (X + 3) % 16 := by
  unfold pencode
  rw [if_neg (show ¬ n < 8 * 2 ^ 4 from h), hX, show X + 4 + 3 - 4 - 3 = X from by omega, if_neg (by omega), show X + 4 + 3 - 4 = X + 3 from by omega]
theorem enc_bits_4 (n X : Nat) (hn : n < 2 ^ 63) (hx : ¬ 7 < X) : bits .or .i64 (bits .or .i64 128 (IntKind.i64.wrap ((X : Int) * 16))) (bits .and .i64 ((n : Int) / 2 ^ ((X : Int) + 3).toNat) (IntKind.i64.wrap 15)) = ((128 + X * 16 + n / 2 ^ (X + 3) % 16 : Nat) : Int) := by
  have h1 : IntKind.i64.wrap ((X : Int) * 16) = (X : Int) * 16 := by rw [IntKind.wrap_i64]; omega
  have h2 : IntKind.i64.wrap 15 = 15 := by decide
  have h3 : ((X : Int) + 3).toNat = X + 3 := by omega
  obtain ⟨q, hq⟩ : ∃ q, n / 2 ^ (X + 3) = q := ⟨_, rfl⟩
  have h4 : (n : Int) / 2 ^ (X + 3) = (q : Int) := by rw [← hq]; simp
  have hq63 : q < 2 ^ 63 := by rw [← hq]; exact Nat.lt_of_le_of_lt (Nat.div_le_self _ _) hn
  rw [h1, h2, h3, h4, hq, i64_join (4 + 3) 128 ((X : Int) * 16) (by omega) (by decide) (by omega) (by omega) (by omega) (by omega), show (15 : Int) = 2 ^ 4 - 1 from rfl, i64_mask 4 (by decide) (q : Int) (by omega) (by omega), i64_join 4 (128 + (X : Int) * 16) ((q : Int) % 2 ^ 4) (by omega) (by omega) (by omega) (by omega) (by omega) (by omega)]
  omega
set_option maxHeartbeats 1000000 in
theorem fenc_4 (n : Nat) (w : World) (hn : n < 2 ^ 63) :
    Calls Try.prog 84 #[.int .i64 4, .int .i64 n] w fun e w' => e = .returned (.int .i64 (pencode n 4 : Nat)) ∧ Below w.heap.size w w' := by
  have HH := Lib.hid (fun W => half_4 W)
  have HS := Lib.hid (fun W => small_4 W)
  by_cases h : n < 128
  · have d1 : decide ((n : Int) < 128) = true := decide_eq_true (by omega)
    have HE := Lib.hid (show pencode n 4 = n from if_pos h)
    clear h hn
    go_enter Try.func84, Try.ntmps84
    go_wp2_with ((with_reducible refine (HH.out _).mono ?_); rintro e w2 ⟨rfl, hw2⟩; subst w2)
    go_ret
    exact ⟨by rw [HE.out]; rfl, Below.refl _ _⟩
  · have d1 : decide ((n : Int) < 128) = false := decide_eq_false (by omega)
    have hlog : 4 + 3 ≤ Nat.log2 n := (Nat.le_log2 (by omega)).2 (by omega)
    obtain ⟨X, hX⟩ : ∃ X, Nat.log2 n = X + 4 + 3 := ⟨Nat.log2 n - 4 - 3, by omega⟩
    have hX62 : X ≤ 62 := by
      have h1 : Nat.log2 n < 63 := (Nat.log2_lt (by omega)).2 hn
      omega
    have hwu : IntKind.u64.wrap (n : Int) = n := by rw [IntKind.wrap_u64]; omega
    have HL := Lib.hid (show ∀ W, Calls Try.prog 86 #[.int .u64 n] W fun e w' => e = .returned (.int .i64 ((X + 4 + 4 : Nat) : Int)) ∧ w' = W from fun W => by
      have := Try.bits_Len (n : Int) W (by omega) (by omega)
      rw [Int.toNat_natCast, bitLen_log n n (Nat.le_refl _) (by omega) (by omega), hX] at this
      exact this)
    obtain ⟨Z, hZ⟩ : ∃ Z : Int, Z = ((X + 4 + 4 : Nat) : Int) := ⟨_, rfl⟩
    rw [← hZ] at HL
    have hz1 : wrap64 (wrap64 (wrap64 (Z - 4) - 1) - 3) = X := by unfold wrap64; omega
    by_cases hx : 7 < X
    · have d2 : decide ((7 : Int) < X) = true := decide_eq_true (by omega)
      have HE := Lib.hid (show pencode n 4 = 256 - 1 from by
        unfold pencode
        rw [if_neg (show ¬ n < 8 * 2 ^ 4 from h), hX, show X + 4 + 3 - 4 - 3 = X from by omega, if_pos (by omega)])
      clear h hn hlog hX hZ hX62
      go_enter Try.func84, Try.ntmps84
      go_wp2_with (first | ((with_reducible refine (HH.out _).mono ?_); rintro e w2 ⟨rfl, hw2⟩; subst w2) | ((with_reducible refine (HL.out _).mono ?_); rintro e w2 ⟨rfl, hw2⟩; subst w2))
      go_ret
      exact ⟨by rw [HE.out]; rfl, Below.refl _ _⟩
    · have d2 : decide ((7 : Int) < X) = false := decide_eq_false (by omega)
      have HE := Lib.hid (enc_parts_4 n X h hX hx)
      have HEB := Lib.hid (enc_bits_4 n X hn hx)
      have hw3 : IntKind.i64.wrap ((X : Int) + 3) = (X : Int) + 3 := by rw [IntKind.wrap_i64]; omega
      clear hlog hX hZ
      go_enter Try.func84, Try.ntmps84
      go_upto_region 6 with (first | ((with_reducible refine (HH.out _).mono ?_); rintro e w2 ⟨rfl, hw2⟩; subst w2) | ((with_reducible refine (HL.out _).mono ?_); rintro e w2 ⟨rfl, hw2⟩; subst w2))
      have hd : Below w.heap.size w w.drew := Below.drew (Below.refl _ _)
      refine wp_region_held_drew (S := fun W' => W' = w.drew) (by kernel_rfl) rfl (fun hHeld => ?_)
      refine takeL 0 (v := ?_) rfl (by kernel_rfl) (by kernel_rfl) (by kernel_rfl) (fun _ _ _ h => h) (Or.inl ⟨by rfl, ?_⟩) (by assumption) ?_
      rotate_left
      focus (intro wq hSq; go_simp <;> with_reducible rfl)
      simp only [Act.put, List.setIfInBounds_toArray, List.set_cons_zero, List.set_cons_succ]
      refine takeL 2 (v := ?_) rfl (by kernel_rfl) (by kernel_rfl) (by kernel_rfl) (fun _ _ _ h => h) (Or.inl ⟨by rfl, ?_⟩) (by assumption) ?_
      rotate_left
      focus (intro wq hSq; go_simp <;> with_reducible rfl)
      simp only [Act.put, List.setIfInBounds_toArray, List.set_cons_zero, List.set_cons_succ]
      refine takeL 3 (v := ?_) rfl (by kernel_rfl) (by kernel_rfl) (by kernel_rfl) (fun _ _ _ h => h) (Or.inl ⟨by rfl, ?_⟩) (by assumption) ?_
      rotate_left
      focus (intro wq hSq; go_simp <;> with_reducible rfl)
      simp only [Act.put, List.setIfInBounds_toArray, List.set_cons_zero, List.set_cons_succ]
      refine takeL 4 (v := ?_) rfl (by kernel_rfl) (by kernel_rfl) (by kernel_rfl) (fun _ _ _ h => h) (Or.inl ⟨by rfl, ?_⟩) (by assumption) ?_
      rotate_left
      focus (intro wq hSq; go_simp <;> with_reducible rfl)
      simp only [Act.put, List.setIfInBounds_toArray, List.set_cons_zero, List.set_cons_succ]
      refine takeL 6 (v := ?_) rfl (by kernel_rfl) (by kernel_rfl) (by kernel_rfl) (fun _ _ _ h => h) (Or.inl ⟨by rfl, ?_⟩) (by assumption) ?_
      rotate_left
      focus (intro wq hSq; go_simp <;> with_reducible rfl)
      simp only [Act.put, List.setIfInBounds_toArray, List.set_cons_zero, List.set_cons_succ]
      refine takeL 7 (v := ?_) rfl (by kernel_rfl) (by kernel_rfl) (by kernel_rfl) (fun _ _ _ h => h) (Or.inl ⟨by rfl, ?_⟩) (by assumption) ?_
      rotate_left
      focus (intro wq hSq; go_simp <;> with_reducible rfl)
      simp only [Act.put, List.setIfInBounds_toArray, List.set_cons_zero, List.set_cons_succ]
      refine takeL 8 (v := ?_) rfl (by kernel_rfl) (by kernel_rfl) (by kernel_rfl) (fun _ _ _ h => h) (Or.inl ⟨by rfl, ?_⟩) (by assumption) ?_
      rotate_left
      focus (intro wq hSq; go_simp <;> with_reducible rfl)
      simp only [Act.put, List.setIfInBounds_toArray, List.set_cons_zero, List.set_cons_succ]
      refine takeL 9 (v := ?_) rfl (by kernel_rfl) (by kernel_rfl) (by kernel_rfl) (fun _ _ _ h => h) (Or.inl ⟨by rfl, ?_⟩) (by assumption) ?_
      rotate_left
      focus (intro wq hSq; go_simp <;> with_reducible rfl)
      simp only [Act.put, List.setIfInBounds_toArray, List.set_cons_zero, List.set_cons_succ]
      refine takeL 10 (v := ?_) rfl (by kernel_rfl) (by kernel_rfl) (by kernel_rfl) (fun _ _ _ h => h) (Or.inl ⟨by rfl, ?_⟩) (by assumption) ?_
      rotate_left
      focus (intro wq hSq; go_simp <;> with_reducible rfl)
      simp only [Act.put, List.setIfInBounds_toArray, List.set_cons_zero, List.set_cons_succ]
      refine wpAnyH_ready (rs := [1]) (by kernel_rfl) (by simp) (nextL 1 rfl (fun Kr hKr => ?_) AllReadyH.nil)
      rw [if_pos (by rfl)]
      go_simp
      refine (HH.out _).mono ?_
      rintro e w3 ⟨rfl, hw3⟩
      subst w3
      refine hKr.out _ _ rfl (fun hHeld3 => ?_)
      clear hKr hHeld
      refine takeL 5 (v := ?_) rfl (by kernel_rfl) (by kernel_rfl) (by kernel_rfl) (fun _ _ _ h => h) (Or.inl ⟨by rfl, ?_⟩) (by assumption) ?_
      rotate_left
      focus (intro wq hSq; go_simp <;> with_reducible rfl)
      simp only [Act.put, List.setIfInBounds_toArray, List.set_cons_zero, List.set_cons_succ]
      refine wpAnyH_ready (rs := [11]) (by kernel_rfl) (by simp) (nextL 11 rfl (fun Kr hKr => ?_) AllReadyH.nil)
      rw [if_pos (by rfl)]
      go_simp
      refine (HS.out _).mono ?_
      rintro e w3 ⟨rfl, hw3⟩
      subst w3
      refine hKr.out _ _ rfl (fun hHeld4 => ?_)
      clear hKr hHeld3
      refine takeL 12 (v := ?_) rfl (by kernel_rfl) (by kernel_rfl) (by kernel_rfl) (fun _ _ _ h => h) (Or.inl ⟨by rfl, ?_⟩) (by assumption) ?_
      rotate_left
      focus (intro wq hSq; go_simp <;> with_reducible rfl)
      simp only [Act.put, List.setIfInBounds_toArray, List.set_cons_zero, List.set_cons_succ]
      refine takeL 13 (v := ?_) rfl (by kernel_rfl) (by kernel_rfl) (by kernel_rfl) (fun _ _ _ h => h) (Or.inl ⟨by rfl, ?_⟩) (by assumption) ?_
      rotate_left
      focus (intro wq hSq; go_simp <;> with_reducible rfl)
      simp only [Act.put, List.setIfInBounds_toArray, List.set_cons_zero, List.set_cons_succ]
      refine takeL 14 (v := ?_) rfl (by kernel_rfl) (by kernel_rfl) (by kernel_rfl) (fun _ _ _ h => h) (Or.inl ⟨by rfl, ?_⟩) (by assumption) ?_
      rotate_left
      focus (intro wq hSq; go_simp <;> with_reducible rfl)
      simp only [Act.put, List.setIfInBounds_toArray, List.set_cons_zero, List.set_cons_succ]
      refine takeL 15 (v := ?_) rfl (by kernel_rfl) (by kernel_rfl) (by kernel_rfl) (fun _ _ _ h => h) (Or.inl ⟨by rfl, ?_⟩) (by assumption) ?_
      rotate_left
      focus (intro wq hSq; go_simp <;> with_reducible rfl)
      simp only [Act.put, List.setIfInBounds_toArray, List.set_cons_zero, List.set_cons_succ]
      refine wpAnyH_done (by kernel_rfl) ?_ _
      go_wp2_with fail
      go_ret
      exact ⟨by rw [HE.out]; exact congrArg (fun x => Ending.returned (.int .i64 x)) HEB.out, hd⟩
theorem fdecode_4 (c : Nat) (w : World) (hc : c < 256) :
    Calls Try.prog 78 #[.int .i64 4, .int .i64 c] w fun e w' => e = .returned (.tuple #[.int .i64 (pdecode c 4 : Nat), .int .i64 0]) ∧ Below w.heap.size w w' := by
  have HH := Lib.hid (half_4 w)
  have HD := Lib.hid (fdec_4 c w hc)
  have d1 : decide ((256 : Int) ≤ c) = false := decide_eq_false (by omega)
  clear hc
  go_enter Try.func78, Try.ntmps78
  go_wp2_with (first | ((with_reducible refine HH.out.mono ?_); rintro e w2 ⟨rfl, hw2⟩; subst w2) | ((with_reducible refine HD.out.mono ?_); rintro e w2 ⟨rfl, hb2⟩; have HB2 := Lib.hid hb2; clear hb2))
  go_ret2
  exact ⟨rfl, HB2.out⟩
def encV_4 (n : Int) : Nat := if 0 ≤ n then pencode n.toNat 4 else 0
theorem fencode_4 (n : Int) (w : World) (hn : n < 2 ^ 63) :
    Calls Try.prog 80 #[.int .i64 4, .int .i64 n] w fun e w' => e = .returned (.tuple #[.int .i64 (encV_4 n), .int .i64 (encE n)]) ∧ Below w.heap.size w w' := by
  unfold encV_4 encE
  by_cases h : 0 ≤ n
  · obtain ⟨m, rfl⟩ := Int.eq_ofNat_of_zero_le h
    have HD := Lib.hid (fenc_4 m w (by omega))
    have d1 : decide ((m : Int) < 0) = false := decide_eq_false (by omega)
    rw [if_pos h, if_pos h, Int.toNat_natCast]
    clear h hn
    go_enter Try.func80, Try.ntmps80
    go_wp2_with ((with_reducible refine HD.out.mono ?_); rintro e w2 ⟨rfl, hb2⟩; have HB2 := Lib.hid hb2; clear hb2)
    go_ret2
    exact ⟨rfl, HB2.out⟩
  · have d1 : decide (n < 0) = true := decide_eq_true (by omega)
    rw [if_neg h, if_neg h]
    clear h hn
    go_enter Try.func80, Try.ntmps80
    go_wp2_with fail
    go_ret2
    exact ⟨rfl, Below.refl _ _⟩
theorem enc_parts_12 (n X : Nat) (h : ¬ n < 32768) (hX : Nat.log2 n = X + 12 + 3) (hx : ¬ 7 < X) : pencode n 12 = 32768 + X * 4096 + n / 2 ^ (X + 3) % 4096 := by
  unfold pencode
  rw [if_neg (show ¬ n < 8 * 2 ^ 12 from h), hX, show X + 12 + 3 - 12 - 3 = X from by omega, if_neg (by omega), show X + 12 + 3 - 12 = X + 3 from by omega]
theorem enc_bits_12 (n X : Nat) (hn : n < 2 ^ 63) (hx : ¬ 7 < X) : bits .or .i64 (bits .or .i64 32768 (IntKind.i64.wrap ((X : Int) * 4096))) (bits .and .i64 ((n : Int) / 2 ^ ((X : Int) + 3).toNat) (IntKind.i64.wrap 4095)) = ((32768 + X * 4096 + n / 2 ^ (X + 3) % 4096 : Nat) : Int) := by
  have h1 : IntKind.i64.wrap ((X : Int) * 4096) = (X : Int) * 4096 := by rw [IntKind.wrap_i64]; omega
  have h2 : IntKind.i64.wrap 4095 = 4095 := by decide
  have h3 : ((X : Int) + 3).toNat = X + 3 := by omega
  obtain ⟨q, hq⟩ : ∃ q, n / 2 ^ (X + 3) = q := ⟨_, rfl⟩
  have h4 : (n : Int) / 2 ^ (X + 3) = (q : Int) := by rw [← hq]; simp
  have hq63 : q < 2 ^ 63 := by rw [← hq]; exact Nat.lt_of_le_of_lt (Nat.div_le_self _ _) hn
  rw [h1, h2, h3, h4, hq, i64_join (12 + 3) 32768 ((X : Int) * 4096) (by omega) (by decide) (by omega) (by omega) (by omega) (by omega), show (4095 : Int) = 2 ^ 12 - 1 from rfl, i64_mask 12 (by decide) (q : Int) (by omega) (by omega), i64_join 12 (32768 + (X : Int) * 4096) ((q : Int) % 2 ^ 12) (by omega) (by omega) (by omega) (by omega) (by omega) (by omega)]
  omega
set_option maxHeartbeats 1000000 in
theorem fenc_12 (n : Nat) (w : World) (hn : n < 2 ^ 63) :
    Calls Try.prog 84 #[.int .i64 12, .int .i64 n] w fun e w' => e = .returned (.int .i64 (pencode n 12 : Nat)) ∧ Below w.heap.size w w' := by
  have HH := Lib.hid (fun W => half_12 W)
  have HS := Lib.hid (fun W => small_12 W)
  by_cases h : n < 32768
  · have d1 : decide ((n : Int) < 32768) = true := decide_eq_true (by omega)
    have HE := Lib.hid (show pencode n 12 = n from if_pos h)
    clear h hn
    go_enter Try.func84, Try.ntmps84
    go_wp2_with ((with_reducible refine (HH.out _).mono ?_); rintro e w2 ⟨rfl, hw2⟩; subst w2)
    go_ret
    exact ⟨by rw [HE.out]; rfl, Below.refl _ _⟩
  · have d1 : decide ((n : Int) < 32768) = false := decide_eq_false (by omega)
    have hlog : 12 + 3 ≤ Nat.log2 n := (Nat.le_log2 (by omega)).2 (by omega)
    obtain ⟨X, hX⟩ : ∃ X, Nat.log2 n = X + 12 + 3 := ⟨Nat.log2 n - 12 - 3, by omega⟩
    have hX62 : X ≤ 62 := by
      have h1 : Nat.log2 n < 63 := (Nat.log2_lt (by omega)).2 hn
      omega
    have hwu : IntKind.u64.wrap (n : Int) = n := by rw [IntKind.wrap_u64]; omega
    have HL := Lib.hid (show ∀ W, Calls Try.prog 86 #[.int .u64 n] W fun e w' => e = .returned (.int .i64 ((X + 12 + 4 : Nat) : Int)) ∧ w' = W from fun W => by
      have := Try.bits_Len (n : Int) W (by omega) (by omega)
      rw [Int.toNat_natCast, bitLen_log n n (Nat.le_refl _) (by omega) (by omega), hX] at this
      exact this)
    obtain ⟨Z, hZ⟩ : ∃ Z : Int, Z = ((X + 12 + 4 : Nat) : Int) := ⟨_, rfl⟩
    rw [← hZ] at HL
    have hz1 : wrap64 (wrap64 (wrap64 (Z - 12) - 1) - 3) = X := by unfold wrap64; omega
    by_cases hx : 7 < X
    · have d2 : decide ((7 : Int) < X) = true := decide_eq_true (by omega)
      have HE := Lib.hid (show pencode n 12 = 65536 - 1 from by
        unfold pencode
        rw [if_neg (show ¬ n < 8 * 2 ^ 12 from h), hX, show X + 12 + 3 - 12 - 3 = X from by omega, if_pos (by omega)])
      clear h hn hlog hX hZ hX62
      go_enter Try.func84, Try.ntmps84
      go_wp2_with (first | ((with_reducible refine (HH.out _).mono ?_); rintro e w2 ⟨rfl, hw2⟩; subst w2) | ((with_reducible refine (HL.out _).mono ?_); rintro e w2 ⟨rfl, hw2⟩; subst w2))
      go_ret
      exact ⟨by rw [HE.out]; rfl, Below.refl _ _⟩
    · have d2 : decide ((7 : Int) < X) = false := decide_eq_false (by omega)
      have HE := Lib.hid (enc_parts_12 n X h hX hx)
      have HEB := Lib.hid (enc_bits_12 n X hn hx)
      have hw3 : IntKind.i64.wrap ((X : Int) + 3) = (X : Int) + 3 := by rw [IntKind.wrap_i64]; omega
      clear hlog hX hZ
      go_enter Try.func84, Try.ntmps84
      go_upto_region 6 with (first | ((with_reducible refine (HH.out _).mono ?_); rintro e w2 ⟨rfl, hw2⟩; subst w2) | ((with_reducible refine (HL.out _).mono ?_); rintro e w2 ⟨rfl, hw2⟩; subst w2))
      have hd : Below w.heap.size w w.drew := Below.drew (Below.refl _ _)
      refine wp_region_held_drew (S := fun W' => W' = w.drew) (by kernel_rfl) rfl (fun hHeld => ?_)
      refine takeL 0 (v := ?_) rfl (by kernel_rfl) (by kernel_rfl) (by kernel_rfl) (fun _ _ _ h => h) (Or.inl ⟨by rfl, ?_⟩) (by assumption) ?_
      rotate_left
      focus (intro wq hSq; go_simp <;> with_reducible rfl)
      simp only [Act.put, List.setIfInBounds_toArray, List.set_cons_zero, List.set_cons_succ]
      refine takeL 2 (v := ?_) rfl (by kernel_rfl) (by kernel_rfl) (by kernel_rfl) (fun _ _ _ h => h) (Or.inl ⟨by rfl, ?_⟩) (by assumption) ?_
      rotate_left
      focus (intro wq hSq; go_simp <;> with_reducible rfl)
      simp only [Act.put, List.setIfInBounds_toArray, List.set_cons_zero, List.set_cons_succ]
      refine takeL 3 (v := ?_) rfl (by kernel_rfl) (by kernel_rfl) (by kernel_rfl) (fun _ _ _ h => h) (Or.inl ⟨by rfl, ?_⟩) (by assumption) ?_
      rotate_left
      focus (intro wq hSq; go_simp <;> with_reducible rfl)
      simp only [Act.put, List.setIfInBounds_toArray, List.set_cons_zero, List.set_cons_succ]
      refine takeL 4 (v := ?_) rfl (by kernel_rfl) (by kernel_rfl) (by kernel_rfl) (fun _ _ _ h => h) (Or.inl ⟨by rfl, ?_⟩) (by assumption) ?_
      rotate_left
      focus (intro wq hSq; go_simp <;> with_reducible rfl)
      simp only [Act.put, List.setIfInBounds_toArray, List.set_cons_zero, List.set_cons_succ]
      refine takeL 6 (v := ?_) rfl (by kernel_rfl) (by kernel_rfl) (by kernel_rfl) (fun _ _ _ h => h) (Or.inl ⟨by rfl, ?_⟩) (by assumption) ?_
      rotate_left
      focus (intro wq hSq; go_simp <;> with_reducible rfl)
      simp only [Act.put, List.setIfInBounds_toArray, List.set_cons_zero, List.set_cons_succ]
      refine takeL 7 (v := ?_) rfl (by kernel_rfl) (by kernel_rfl) (by kernel_rfl) (fun _ _ _ h => h) (Or.inl ⟨by rfl, ?_⟩) (by assumption) ?_
      rotate_left
      focus (intro wq hSq; go_simp <;> with_reducible rfl)
      simp only [Act.put, List.setIfInBounds_toArray, List.set_cons_zero, List.set_cons_succ]
      refine takeL 8 (v := ?_) rfl (by kernel_rfl) (by kernel_rfl) (by kernel_rfl) (fun _ _ _ h => h) (Or.inl ⟨by rfl, ?_⟩) (by assumption) ?_
      rotate_left
      focus (intro wq hSq; go_simp <;> with_reducible rfl)
      simp only [Act.put, List.setIfInBounds_toArray, List.set_cons_zero, List.set_cons_succ]
      refine takeL 9 (v := ?_) rfl (by kernel_rfl) (by kernel_rfl) (by kernel_rfl) (fun _ _ _ h => h) (Or.inl ⟨by rfl, ?_⟩) (by assumption) ?_
      rotate_left
      focus (intro wq hSq; go_simp <;> with_reducible rfl)
      simp only [Act.put, List.setIfInBounds_toArray, List.set_cons_zero, List.set_cons_succ]
      refine takeL 10 (v := ?_) rfl (by kernel_rfl) (by kernel_rfl) (by kernel_rfl) (fun _ _ _ h => h) (Or.inl ⟨by rfl, ?_⟩) (by assumption) ?_
      rotate_left
      focus (intro wq hSq; go_simp <;> with_reducible rfl)
      simp only [Act.put, List.setIfInBounds_toArray, List.set_cons_zero, List.set_cons_succ]
      refine wpAnyH_ready (rs := [1]) (by kernel_rfl) (by simp) (nextL 1 rfl (fun Kr hKr => ?_) AllReadyH.nil)
      rw [if_pos (by rfl)]
      go_simp
      refine (HH.out _).mono ?_
      rintro e w3 ⟨rfl, hw3⟩
      subst w3
      refine hKr.out _ _ rfl (fun hHeld3 => ?_)
      clear hKr hHeld
      refine takeL 5 (v := ?_) rfl (by kernel_rfl) (by kernel_rfl) (by kernel_rfl) (fun _ _ _ h => h) (Or.inl ⟨by rfl, ?_⟩) (by assumption) ?_
      rotate_left
      focus (intro wq hSq; go_simp <;> with_reducible rfl)
      simp only [Act.put, List.setIfInBounds_toArray, List.set_cons_zero, List.set_cons_succ]
      refine wpAnyH_ready (rs := [11]) (by kernel_rfl) (by simp) (nextL 11 rfl (fun Kr hKr => ?_) AllReadyH.nil)
      rw [if_pos (by rfl)]
      go_simp
      refine (HS.out _).mono ?_
      rintro e w3 ⟨rfl, hw3⟩
      subst w3
      refine hKr.out _ _ rfl (fun hHeld4 => ?_)
      clear hKr hHeld3
      refine takeL 12 (v := ?_) rfl (by kernel_rfl) (by kernel_rfl) (by kernel_rfl) (fun _ _ _ h => h) (Or.inl ⟨by rfl, ?_⟩) (by assumption) ?_
      rotate_left
      focus (intro wq hSq; go_simp <;> with_reducible rfl)
      simp only [Act.put, List.setIfInBounds_toArray, List.set_cons_zero, List.set_cons_succ]
      refine takeL 13 (v := ?_) rfl (by kernel_rfl) (by kernel_rfl) (by kernel_rfl) (fun _ _ _ h => h) (Or.inl ⟨by rfl, ?_⟩) (by assumption) ?_
      rotate_left
      focus (intro wq hSq; go_simp <;> with_reducible rfl)
      simp only [Act.put, List.setIfInBounds_toArray, List.set_cons_zero, List.set_cons_succ]
      refine takeL 14 (v := ?_) rfl (by kernel_rfl) (by kernel_rfl) (by kernel_rfl) (fun _ _ _ h => h) (Or.inl ⟨by rfl, ?_⟩) (by assumption) ?_
      rotate_left
      focus (intro wq hSq; go_simp <;> with_reducible rfl)
      simp only [Act.put, List.setIfInBounds_toArray, List.set_cons_zero, List.set_cons_succ]
      refine takeL 15 (v := ?_) rfl (by kernel_rfl) (by kernel_rfl) (by kernel_rfl) (fun _ _ _ h => h) (Or.inl ⟨by rfl, ?_⟩) (by assumption) ?_
      rotate_left
      focus (intro wq hSq; go_simp <;> with_reducible rfl)
      simp only [Act.put, List.setIfInBounds_toArray, List.set_cons_zero, List.set_cons_succ]
      refine wpAnyH_done (by kernel_rfl) ?_ _
      go_wp2_with fail
      go_ret
      exact ⟨by rw [HE.out]; exact congrArg (fun x => Ending.returned (.int .i64 x)) HEB.out, hd⟩
theorem fdecode_12 (c : Nat) (w : World) (hc : c < 65536) :
    Calls Try.prog 78 #[.int .i64 12, .int .i64 c] w fun e w' => e = .returned (.tuple #[.int .i64 (pdecode c 12 : Nat), .int .i64 0]) ∧ Below w.heap.size w w' := by
  have HH := Lib.hid (half_12 w)
  have HD := Lib.hid (fdec_12 c w hc)
  have d1 : decide ((65536 : Int) ≤ c) = false := decide_eq_false (by omega)
  clear hc
  go_enter Try.func78, Try.ntmps78
  go_wp2_with (first | ((with_reducible refine HH.out.mono ?_); rintro e w2 ⟨rfl, hw2⟩; subst w2) | ((with_reducible refine HD.out.mono ?_); rintro e w2 ⟨rfl, hb2⟩; have HB2 := Lib.hid hb2; clear hb2))
  go_ret2
  exact ⟨rfl, HB2.out⟩
def encV_12 (n : Int) : Nat := if 0 ≤ n then pencode n.toNat 12 else 0
theorem fencode_12 (n : Int) (w : World) (hn : n < 2 ^ 63) :
    Calls Try.prog 80 #[.int .i64 12, .int .i64 n] w fun e w' => e = .returned (.tuple #[.int .i64 (encV_12 n), .int .i64 (encE n)]) ∧ Below w.heap.size w w' := by
  unfold encV_12 encE
  by_cases h : 0 ≤ n
  · obtain ⟨m, rfl⟩ := Int.eq_ofNat_of_zero_le h
    have HD := Lib.hid (fenc_12 m w (by omega))
    have d1 : decide ((m : Int) < 0) = false := decide_eq_false (by omega)
    rw [if_pos h, if_pos h, Int.toNat_natCast]
    clear h hn
    go_enter Try.func80, Try.ntmps80
    go_wp2_with ((with_reducible refine HD.out.mono ?_); rintro e w2 ⟨rfl, hb2⟩; have HB2 := Lib.hid hb2; clear hb2)
    go_ret2
    exact ⟨rfl, HB2.out⟩
  · have d1 : decide (n < 0) = true := decide_eq_true (by omega)
    rw [if_neg h, if_neg h]
    clear h hn
    go_enter Try.func80, Try.ntmps80
    go_wp2_with fail
    go_ret2
    exact ⟨rfl, Below.refl _ _⟩

theorem dec8_any (c : Nat) (w : World) (hc : c < 256) :
    Calls Try.prog 70 #[.int .i64 c] w fun e w' => e = .returned (.tuple #[.int .i64 (pdecode c 4 : Nat), .int .i64 0]) ∧ Below w.heap.size w w' := by
  have HD := Lib.hid (fdecode_4 c w hc)
  clear hc
  go_enter Try.func70, Try.ntmps70
  go_wp2_with ((with_reducible refine HD.out.mono ?_); rintro e w2 ⟨rfl, hb2⟩; have HB2 := Lib.hid hb2; clear hb2)
  go_ret2
  exact ⟨rfl, HB2.out⟩
theorem enc8_any (n : Int) (w : World) (hn : n < 2 ^ 63) :
    Calls Try.prog 75 #[.int .i64 n] w fun e w' => e = .returned (.tuple #[.int .i64 (encV_4 n), .int .i64 (encE n)]) ∧ Below w.heap.size w w' := by
  have HD := Lib.hid (fencode_4 n w hn)
  clear hn
  go_enter Try.func75, Try.ntmps75
  go_wp2_with ((with_reducible refine HD.out.mono ?_); rintro e w2 ⟨rfl, hb2⟩; have HB2 := Lib.hid hb2; clear hb2)
  go_ret2
  exact ⟨rfl, HB2.out⟩
end Go.Proofs.Ythkogdgfkhhleaa
