/- Texts joined into one file: JLen, JRef7. -/
import Derived.Test.YthkibgdeibolfaaQ06
import Derived.Test.YthkibgdeibolfaaBitShelf

/- code: enc, decode, encode, Dec8, Enc8 (Dec16, Enc16); bits.Len in plain words. -/
namespace Go.Proofs.Ythkibgdeibolfaa
open Go.RowKit
set_option maxRecDepth 20000
set_option maxRecDepth 20000

theorem bitLen_log (x : Nat) : ∀ n, x ≤ n → x ≠ 0 → x < 2 ^ 64 → Lib.bitLen x = Nat.log2 x + 1 := by
  intro n
  induction n generalizing x with
  | zero => intro h h0 _; omega
  | succ n ih =>
    intro h h0 h64
    rw [Lib.bitLen_half x h0 h64]
    by_cases h1 : x = 1
    · subst h1; rfl
    · rw [ih (x / 2) (by omega) (by omega) (by omega), Nat.log2_def x, if_pos (by omega)]
      omega

def encE (n : Int) : Int := if 0 ≤ n then 0 else 1
theorem enc_parts_4 (n X : Nat) (h : ¬ n < 128) (hX : Nat.log2 n = X + 4 + 3) (hx : ¬ 7 < X) : pencode n 4 = 128 + X * 16 + n / 2 ^ (X + 3) % 16 := by
  unfold pencode
  rw [if_neg (show ¬ n < 8 * 2 ^ 4 from h), hX, show X + 4 + 3 - 4 - 3 = X from by omega, if_neg (by omega), show X + 4 + 3 - 4 = X + 3 from by omega]
theorem enc_bits_4 (n X : Nat) (hn : n < 2 ^ 63) (hx : ¬ 7 < X) : bits .or .i64 (bits .or .i64 128 (IntKind.i64.wrap ((X : Int) * 16))) (bits .and .i64 ((n : Int) / 2 ^ ((X : Int) + 3).toNat) (IntKind.i64.wrap 15)) = ((128 + X * 16 + n / 2 ^ (X + 3) % 16 : Nat) : Int) := by
  have h1 : IntKind.i64.wrap ((X : Int) * 16) = (X : Int) * 16 := by rw [IntKind.wrap_i64]; omega
  have h2 : IntKind.i64.wrap 15 = 15 := by decide
  have h3 : ((X : Int) + 3).toNat = X + 3 := by omega
  obtain ⟨q, hq⟩ : ∃ q, n / 2 ^ (X + 3) = q := ⟨_, rfl⟩
  have h4 : (n : Int) / 2 ^ (X + 3) = (q : Int) := by rw [← hq]; simp
  have hq63 : q < 2 ^ 63 := by rw [← hq]; exact Nat.lt_of_le_of_lt (Nat.div_le_self _ _) hn
  rw [h1, h2, h3, h4, hq, i64_join (4 + 3) 128 ((X : Int) * 16) (by omega) (by decide) (by omega) (by omega) (by omega) (by omega), show (15 : Int) = 2 ^ 4 - 1 from rfl, i64_mask 4 (by decide) (q : Int) (by omega) (by omega), i64_join 4 (128 + (X : Int) * 16) ((q : Int) % 2 ^ 4) (by omega) (by omega) (by omega) (by omega) (by omega) (by omega)]
  omega
set_option maxHeartbeats 1000000 in
theorem fenc_4 (n : Nat) (w : World) (hn : n < 2 ^ 63) :
    Calls Try.prog 95 #[.int .i64 4, .int .i64 n] w fun e w' => e = .returned (.int .i64 (pencode n 4 : Nat)) ∧ Below w.heap.size w w' := by
  have HH := Lib.hid (fun W => half_4 W)
  have HS := Lib.hid (fun W => small_4 W)
  by_cases h : n < 128
  · have d1 : decide ((n : Int) < 128) = true := decide_eq_true (by omega)
    have HE := Lib.hid (show pencode n 4 = n from if_pos h)
    clear h hn
    go_enter Try.func95, Try.ntmps95
    go_wp2_with ((with_reducible refine (HH.out _).mono ?_); rintro e w2 ⟨rfl, hw2⟩; subst w2)
    go_ret
    exact ⟨by rw [HE.out]; rfl, Below.refl _ _⟩
  · have d1 : decide ((n : Int) < 128) = false := decide_eq_false (by omega)
    have hlog : 4 + 3 ≤ Nat.log2 n := (Nat.le_log2 (by omega)).2 (by omega)
    obtain ⟨X, hX⟩ : ∃ X, Nat.log2 n = X + 4 + 3 := ⟨Nat.log2 n - 4 - 3, by omega⟩
    have hX62 : X ≤ 62 := by
      have h1 : Nat.log2 n < 63 := (Nat.log2_lt (by omega)).2 hn
      omega
    have hwu : IntKind.u64.wrap (n : Int) = n := by rw [IntKind.wrap_u64]; omega
    have HL := Lib.hid (show ∀ W, Calls Try.prog 98 #[.int .u64 n] W fun e w' => e = .returned (.int .i64 ((X + 4 + 4 : Nat) : Int)) ∧ w' = W from fun W => by
      have := Try.bits_Len (n : Int) W (by omega) (by omega)
      rw [Int.toNat_natCast, bitLen_log n n (Nat.le_refl _) (by omega) (by omega), hX] at this
      exact this)
    obtain ⟨Z, hZ⟩ : ∃ Z : Int, Z = ((X + 4 + 4 : Nat) : Int) := ⟨_, rfl⟩
    rw [← hZ] at HL
    have hz1 : wrap64 (wrap64 (wrap64 (Z - 4) - 1) - 3) = X := by unfold wrap64; omega
    by_cases hx : 7 < X
    · have d2 : decide ((7 : Int) < X) = true := decide_eq_true (by omega)
      have HE := Lib.hid (show pencode n 4 = 256 - 1 from by
        unfold pencode
        rw [if_neg (show ¬ n < 8 * 2 ^ 4 from h), hX, show X + 4 + 3 - 4 - 3 = X from by omega, if_pos (by omega)])
      clear h hn hlog hX hZ hX62
      go_enter Try.func95, Try.ntmps95
      go_wp2_with (first | ((with_reducible refine (HH.out _).mono ?_); rintro e w2 ⟨rfl, hw2⟩; subst w2) | ((with_reducible refine (HL.out _).mono ?_); rintro e w2 ⟨rfl, hw2⟩; subst w2))
      go_ret
      exact ⟨by rw [HE.out]; rfl, Below.refl _ _⟩
    · have d2 : decide ((7 : Int) < X) = false := decide_eq_false (by omega)
      have HE := Lib.hid (enc_parts_4 n X h hX hx)
      have HEB := Lib.hid (enc_bits_4 n X hn hx)
      have hw3 : IntKind.i64.wrap ((X : Int) + 3) = (X : Int) + 3 := by rw [IntKind.wrap_i64]; omega
      clear hlog hX hZ
      go_enter Try.func95, Try.ntmps95
      go_upto_region 6 with (first | ((with_reducible refine (HH.out _).mono ?_); rintro e w2 ⟨rfl, hw2⟩; subst w2) | ((with_reducible refine (HL.out _).mono ?_); rintro e w2 ⟨rfl, hw2⟩; subst w2))
      have hd : Below w.heap.size w w.drew := Below.drew (Below.refl _ _)
      refine wp_region_held_drew (S := fun W' => W' = w.drew) (by kernel_rfl) rfl (fun hHeld => ?_)
      refine takeL 0 (v := ?_) rfl (by kernel_rfl) (by kernel_rfl) (by kernel_rfl) (fun _ _ _ h => h) (Or.inl ⟨by rfl, ?_⟩) (by assumption) ?_
      rotate_left
      focus (intro wq hSq; go_simp <;> with_reducible rfl)
      simp only [Act.put, List.setIfInBounds_toArray, List.set_cons_zero, List.set_cons_succ]
      refine takeL 2 (v := ?_) rfl (by kernel_rfl) (by kernel_rfl) (by kernel_rfl) (fun _ _ _ h => h) (Or.inl ⟨by rfl, ?_⟩) (by assumption) ?_
      rotate_left
      focus (intro wq hSq; go_simp <;> with_reducible rfl)
      simp only [Act.put, List.setIfInBounds_toArray, List.set_cons_zero, List.set_cons_succ]
      refine takeL 3 (v := ?_) rfl (by kernel_rfl) (by kernel_rfl) (by kernel_rfl) (fun _ _ _ h => h) (Or.inl ⟨by rfl, ?_⟩) (by assumption) ?_
      rotate_left
      focus (intro wq hSq; go_simp <;> with_reducible rfl)
      simp only [Act.put, List.setIfInBounds_toArray, List.set_cons_zero, List.set_cons_succ]
      refine takeL 4 (v := ?_) rfl (by kernel_rfl) (by kernel_rfl) (by kernel_rfl) (fun _ _ _ h => h) (Or.inl ⟨by rfl, ?_⟩) (by assumption) ?_
      rotate_left
      focus (intro wq hSq; go_simp <;> with_reducible rfl)
      simp only [Act.put, List.setIfInBounds_toArray, List.set_cons_zero, List.set_cons_succ]
      refine takeL 6 (v := ?_) rfl (by kernel_rfl) (by kernel_rfl) (by kernel_rfl) (fun _ _ _ h => h) (Or.inl ⟨by rfl, ?_⟩) (by assumption) ?_
      rotate_left
      focus (intro wq hSq; go_simp <;> with_reducible rfl)
      simp only [Act.put, List.setIfInBounds_toArray, List.set_cons_zero, List.set_cons_succ]
      refine takeL 7 (v := ?_) rfl (by kernel_rfl) (by kernel_rfl) (by kernel_rfl) (fun _ _ _ h => h) (Or.inl ⟨by rfl, ?_⟩) (by assumption) ?_
      rotate_left
      focus (intro wq hSq; go_simp <;> with_reducible rfl)
      simp only [Act.put, List.setIfInBounds_toArray, List.set_cons_zero, List.set_cons_succ]
      refine takeL 8 (v := ?_) rfl (by kernel_rfl) (by kernel_rfl) (by kernel_rfl) (fun _ _ _ h => h) (Or.inl ⟨by rfl, ?_⟩) (by assumption) ?_
      rotate_left
      focus (intro wq hSq; go_simp <;> with_reducible rfl)
      simp only [Act.put, List.setIfInBounds_toArray, List.set_cons_zero, List.set_cons_succ]
      refine takeL 9 (v := ?_) rfl (by kernel_rfl) (by kernel_rfl) (by kernel_rfl) (fun _ _ _ h => h) (Or.inl ⟨by rfl, ?_⟩) (by assumption) ?_
      rotate_left
      focus (intro wq hSq; go_simp <;> with_reducible rfl)
      simp only [Act.put, List.setIfInBounds_toArray, List.set_cons_zero, List.set_cons_succ]
      refine takeL 10 (v := ?_) rfl (by kernel_rfl) (by kernel_rfl) (by kernel_rfl) (fun _ _ _ h => h) (Or.inl ⟨by rfl, ?_⟩) (by assumption) ?_
      rotate_left
      focus (intro wq hSq; go_simp <;> with_reducible rfl)
      simp only [Act.put, List.setIfInBounds_toArray, List.set_cons_zero, List.set_cons_succ]
      refine wpAnyH_ready (rs := [1]) (by kernel_rfl) (by simp) (nextL 1 rfl (fun Kr hKr => ?_) AllReadyH.nil)
      rw [if_pos (by rfl)]
      go_simp
      refine (HH.out _).mono ?_
      rintro e w3 ⟨rfl, hw3⟩
      subst w3
      refine hKr.out _ _ rfl (fun hHeld3 => ?_)
      clear hKr hHeld
      refine takeL 5 (v := ?_) rfl (by kernel_rfl) (by kernel_rfl) (by kernel_rfl) (fun _ _ _ h => h) (Or.inl ⟨by rfl, ?_⟩) (by assumption) ?_
      rotate_left
      focus (intro wq hSq; go_simp <;> with_reducible rfl)
      simp only [Act.put, List.setIfInBounds_toArray, List.set_cons_zero, List.set_cons_succ]
      refine wpAnyH_ready (rs := [11]) (by kernel_rfl) (by simp) (nextL 11 rfl (fun Kr hKr => ?_) AllReadyH.nil)
      rw [if_pos (by rfl)]
      go_simp
      refine (HS.out _).mono ?_
      rintro e w3 ⟨rfl, hw3⟩
      subst w3
      refine hKr.out _ _ rfl (fun hHeld4 => ?_)
      clear hKr hHeld3
      refine takeL 12 (v := ?_) rfl (by kernel_rfl) (by kernel_rfl) (by kernel_rfl) (fun _ _ _ h => h) (Or.inl ⟨by rfl, ?_⟩) (by assumption) ?_
      rotate_left
      focus (intro wq hSq; go_simp <;> with_reducible rfl)
      simp only [Act.put, List.setIfInBounds_toArray, List.set_cons_zero, List.set_cons_succ]
      refine takeL 13 (v := ?_) rfl (by kernel_rfl) (by kernel_rfl) (by kernel_rfl) (fun _ _ _ h => h) (Or.inl ⟨by rfl, ?_⟩) (by assumption) ?_
      rotate_left
      focus (intro wq hSq; go_simp <;> with_reducible rfl)
      simp only [Act.put, List.setIfInBounds_toArray, List.set_cons_zero, List.set_cons_succ]
      refine takeL 14 (v := ?_) rfl (by kernel_rfl) (by kernel_rfl) (by kernel_rfl) (fun _ _ _ h => h) (Or.inl ⟨by rfl, ?_⟩) (by assumption) ?_
      rotate_left
      focus (intro wq hSq; go_simp <;> with_reducible rfl)
      simp only [Act.put, List.setIfInBounds_toArray, List.set_cons_zero, List.set_cons_succ]
      refine takeL 15 (v := ?_) rfl (by kernel_rfl) (by kernel_rfl) (by kernel_rfl) (fun _ _ _ h => h) (Or.inl ⟨by rfl, ?_⟩) (by assumption) ?_
      rotate_left
      focus (intro wq hSq; go_simp <;> with_reducible rfl)
      simp only [Act.put, List.setIfInBounds_toArray, List.set_cons_zero, List.set_cons_succ]
      refine wpAnyH_done (by kernel_rfl) ?_ _
      go_wp2_with fail
      go_ret
      exact ⟨by rw [HE.out]; exact congrArg (fun x => Ending.returned (.int .i64 x)) HEB.out, hd⟩
theorem fdecode_4 (c : Nat) (w : World) (hc : c < 256) :
    Calls Try.prog 76 #[.int .i64 4, .int .i64 c] w fun e w' => e = .returned (.tuple #[.int .i64 (pdecode c 4 : Nat), .int .i64 0]) ∧ Below w.heap.size w w' := by
  have HH := Lib.hid (half_4 w)
  have HD := Lib.hid (fdec_4 c w hc)
  have d1 : decide ((256 : Int) ≤ c) = false := decide_eq_false (by omega)
  clear hc
  go_enter Try.func76, Try.ntmps76
  go_wp2_with (first | ((with_reducible refine HH.out.mono ?_); rintro e w2 ⟨rfl, hw2⟩; subst w2) | ((with_reducible refine HD.out.mono ?_); rintro e w2 ⟨rfl, hb2⟩; have HB2 := Lib.hid hb2; clear hb2))
  go_ret2
  exact ⟨rfl, HB2.out⟩
def encV_4 (n : Int) : Nat := if 0 ≤ n then pencode n.toNat 4 else 0
theorem fencode_4 (n : Int) (w : World) (hn : n < 2 ^ 63) :
    Calls Try.prog 84 #[.int .i64 4, .int .i64 n] w fun e w' => e = .returned (.tuple #[.int .i64 (encV_4 n), .int .i64 (encE n)]) ∧ Below w.heap.size w w' := by
  unfold encV_4 encE
  by_cases h : 0 ≤ n
  · obtain ⟨m, rfl⟩ := Int.eq_ofNat_of_zero_le h
    have HD := Lib.hid (fenc_4 m w (by omega))
    have d1 : decide ((m : Int) < 0) = false := decide_eq_false (by omega)
    rw [if_pos h, if_pos h, Int.toNat_natCast]
    clear h hn
    go_enter Try.func84, Try.ntmps84
    go_wp2_with ((with_reducible refine HD.out.mono ?_); rintro e w2 ⟨rfl, hb2⟩; have HB2 := Lib.hid hb2; clear hb2)
    go_ret2
    exact ⟨rfl, HB2.out⟩
  · have d1 : decide (n < 0) = true := decide_eq_true (by omega)
    rw [if_neg h, if_neg h]
    clear h hn
    go_enter Try.func84, Try.ntmps84
    go_wp2_with fail
    go_ret2
    exact ⟨rfl, Below.refl _ _⟩
theorem enc_parts_12 (n X : Nat) (h : ¬ n < 32768) (hX : Nat.log2 n = X + 12 + 3) (hx : ¬ 7 < X) : pencode n 12 = 32768 + X * 4096 + n / 2 ^ (X + 3) % 4096 := by
  unfold pencode
  rw [if_neg (show ¬ n < 8 * 2 ^ 12 from h), hX, show X + 12 + 3 - 12 - 3 = X from by omega, if_neg (by omega), show X + 12 + 3 - 12 = X + 3 from by omega]
theorem enc_bits_12 (n X : Nat) (hn : n < 2 ^ 63) (hx : ¬ 7 < X) : bits .or .i64 (bits .or .i64 32768 (IntKind.i64.wrap ((X : Int) * 4096))) (bits .and .i64 ((n : Int) / 2 ^ ((X : Int) + 3).toNat) (IntKind.i64.wrap 4095)) = ((32768 + X * 4096 + n / 2 ^ (X + 3) % 4096 : Nat) : Int) := by
  have h1 : IntKind.i64.wrap ((X : Int) * 4096) = (X : Int) * 4096 := by rw [IntKind.wrap_i64]; omega
  have h2 : IntKind.i64.wrap 4095 = 4095 := by decide
  have h3 : ((X : Int) + 3).toNat = X + 3 := by omega
  obtain ⟨q, hq⟩ : ∃ q, n / 2 ^ (X + 3) = q := ⟨_, rfl⟩
  have h4 : (n : Int) / 2 ^ (X + 3) = (q : Int) := by rw [← hq]; simp
  have hq63 : q < 2 ^ 63 := by rw [← hq]; exact Nat.lt_of_le_of_lt (Nat.div_le_self _ _) hn
  rw [h1, h2, h3, h4, hq, i64_join (12 + 3) 32768 ((X : Int) * 4096) (by omega) (by decide) (by omega) (by omega) (by omega) (by omega), show (4095 : Int) = 2 ^ 12 - 1 from rfl, i64_mask 12 (by decide) (q : Int) (by omega) (by omega), i64_join 12 (32768 + (X : Int) * 4096) ((q : Int) % 2 ^ 12) (by omega) (by omega) (by omega) (by omega) (by omega) (by omega)]
  omega
set_option maxHeartbeats 1000000 in
theorem fenc_12 (n : Nat) (w : World) (hn : n < 2 ^ 63) :
    Calls Try.prog 95 #[.int .i64 12, .int .i64 n] w fun e w' => e = .returned (.int .i64 (pencode n 12 : Nat)) ∧ Below w.heap.size w w' := by
  have HH := Lib.hid (fun W => half_12 W)
  have HS := Lib.hid (fun W => small_12 W)
  by_cases h : n < 32768
  · have d1 : decide ((n : Int) < 32768) = true := decide_eq_true (by omega)
    have HE := Lib.hid (show pencode n 12 = n from if_pos h)
    clear h hn
    go_enter Try.func95, Try.ntmps95
    go_wp2_with ((with_reducible refine (HH.out _).mono ?_); rintro e w2 ⟨rfl, hw2⟩; subst w2)
    go_ret
    exact ⟨by rw [HE.out]; rfl, Below.refl _ _⟩
  · have d1 : decide ((n : Int) < 32768) = false := decide_eq_false (by omega)
    have hlog : 12 + 3 ≤ Nat.log2 n := (Nat.le_log2 (by omega)).2 (by omega)
    obtain ⟨X, hX⟩ : ∃ X, Nat.log2 n = X + 12 + 3 := ⟨Nat.log2 n - 12 - 3, by omega⟩
    have hX62 : X ≤ 62 := by
      have h1 : Nat.log2 n < 63 := (Nat.log2_lt (by omega)).2 hn
      omega
    have hwu : IntKind.u64.wrap (n : Int) = n := by rw [IntKind.wrap_u64]; omega
    have HL := Lib.hid (show ∀ W, Calls Try.prog 98 #[.int .u64 n] W fun e w' => e = .returned (.int .i64 ((X + 12 + 4 : Nat) : Int)) ∧ w' = W from fun W => by
      have := Try.bits_Len (n : Int) W (by omega) (by omega)
      rw [Int.toNat_natCast, bitLen_log n n (Nat.le_refl _) (by omega) (by omega), hX] at this
      exact this)
    obtain ⟨Z, hZ⟩ : ∃ Z : Int, Z = ((X + 12 + 4 : Nat) : Int) := ⟨_, rfl⟩
    rw [← hZ] at HL
    have hz1 : wrap64 (wrap64 (wrap64 (Z - 12) - 1) - 3) = X := by unfold wrap64; omega
    by_cases hx : 7 < X
    · have d2 : decide ((7 : Int) < X) = true := decide_eq_true (by omega)
      have HE := Lib.hid (show pencode n 12 = 65536 - 1 from by
        unfold pencode
        rw [if_neg (show ¬ n < 8 * 2 ^ 12 from h), hX, show X + 12 + 3 - 12 - 3 = X from by omega, if_pos (by omega)])
      clear h hn hlog hX hZ hX62
      go_enter Try.func95, Try.ntmps95
      go_wp2_with (first | ((with_reducible refine (HH.out _).mono ?_); rintro e w2 ⟨rfl, hw2⟩; subst w2) | ((with_reducible refine (HL.out _).mono ?_); rintro e w2 ⟨rfl, hw2⟩; subst w2))
      go_ret
      exact ⟨by rw [HE.out]; rfl, Below.refl _ _⟩
    · have d2 : decide ((7 : Int) < X) = false := decide_eq_false (by omega)
      have HE := Lib.hid (enc_parts_12 n X h hX hx)
      have HEB := Lib.hid (enc_bits_12 n X hn hx)
      have hw3 : IntKind.i64.wrap ((X : Int) + 3) = (X : Int) + 3 := by rw [IntKind.wrap_i64]; omega
      clear hlog hX hZ
      go_enter Try.func95, Try.ntmps95
      go_upto_region 6 with (first | ((with_reducible refine (HH.out _).mono ?_); rintro e w2 ⟨rfl, hw2⟩; subst w2) | ((with_reducible refine (HL.out _).mono ?_); rintro e w2 ⟨rfl, hw2⟩; subst w2))
      have hd : Below w.heap.size w w.drew := Below.drew (Below.refl _ _)
      refine wp_region_held_drew (S := fun W' => W' = w.drew) (by kernel_rfl) rfl (fun hHeld => ?_)
      refine takeL 0 (v := ?_) rfl (by kernel_rfl) (by kernel_rfl) (by kernel_rfl) (fun _ _ _ h => h) (Or.inl ⟨by rfl, ?_⟩) (by assumption) ?_
      rotate_left
      focus (intro wq hSq; go_simp <;> with_reducible rfl)
      simp only [Act.put, List.setIfInBounds_toArray, List.set_cons_zero, List.set_cons_succ]
      refine takeL 2 (v := ?_) rfl (by kernel_rfl) (by kernel_rfl) (by kernel_rfl) (fun _ _ _ h => h) (Or.inl ⟨by rfl, ?_⟩) (by assumption) ?_
      rotate_left
      focus (intro wq hSq; go_simp <;> with_reducible rfl)
      simp only [Act.put, List.setIfInBounds_toArray, List.set_cons_zero, List.set_cons_succ]
      refine takeL 3 (v := ?_) rfl (by kernel_rfl) (by kernel_rfl) (by kernel_rfl) (fun _ _ _ h => h) (Or.inl ⟨by rfl, ?_⟩) (by assumption) ?_
      rotate_left
      focus (intro wq hSq; go_simp <;> with_reducible rfl)
      simp only [Act.put, List.setIfInBounds_toArray, List.set_cons_zero, List.set_cons_succ]
      refine takeL 4 (v := ?_) rfl (by kernel_rfl) (by kernel_rfl) (by kernel_rfl) (fun _ _ _ h => h) (Or.inl ⟨by rfl, ?_⟩) (by assumption) ?_
      rotate_left
      focus (intro wq hSq; go_simp <;> with_reducible rfl)
      simp only [Act.put, List.setIfInBounds_toArray, List.set_cons_zero, List.set_cons_succ]
      refine takeL 6 (v := ?_) rfl (by kernel_rfl) (by kernel_rfl) (by kernel_rfl) (fun _ _ _ h => h) (Or.inl ⟨by rfl, ?_⟩) (by assumption) ?_
      rotate_left
      focus (intro wq hSq; go_simp <;> with_reducible rfl)
      simp only [Act.put, List.setIfInBounds_toArray, List.set_cons_zero, List.set_cons_succ]
      refine takeL 7 (v := ?_) rfl (by kernel_rfl) (by kernel_rfl) (by kernel_rfl) (fun _ _ _ h => h) (Or.inl ⟨by rfl, ?_⟩) (by assumption) ?_
      rotate_left
      focus (intro wq hSq; go_simp <;> with_reducible rfl)
      simp only [Act.put, List.setIfInBounds_toArray, List.set_cons_zero, List.set_cons_succ]
      refine takeL 8 (v := ?_) rfl (by kernel_rfl) (by kernel_rfl) (by kernel_rfl) (fun _ _ _ h => h) (Or.inl ⟨by rfl, ?_⟩) (by assumption) ?_
      rotate_left
      focus (intro wq hSq; go_simp <;> with_reducible rfl)
      simp only [Act.put, List.setIfInBounds_toArray, List.set_cons_zero, List.set_cons_succ]
      refine takeL 9 (v := ?_) rfl (by kernel_rfl) (by kernel_rfl) (by kernel_rfl) (fun _ _ _ h => h) (Or.inl ⟨by rfl, ?_⟩) (by assumption) ?_
      rotate_left
      focus (intro wq hSq; go_simp <;> with_reducible rfl)
      simp only [Act.put, List.setIfInBounds_toArray, List.set_cons_zero, List.set_cons_succ]
      refine takeL 10 (v := ?_) rfl (by kernel_rfl) (by kernel_rfl) (by kernel_rfl) (fun _ _ _ h => h) (Or.inl ⟨by rfl, ?_⟩) (by assumption) ?_
      rotate_left
      focus (intro wq hSq; go_simp <;> with_reducible rfl)
      simp only [Act.put, List.setIfInBounds_toArray, List.set_cons_zero, List.set_cons_succ]
      refine wpAnyH_ready (rs := [1]) (by kernel_rfl) (by simp) (nextL 1 rfl (fun Kr hKr => ?_) AllReadyH.nil)
      rw [if_pos (by rfl)]
      go_simp
      refine (HH.out _).mono ?_
      rintro e w3 ⟨rfl, hw3⟩
      subst w3
      refine hKr.out _ _ rfl (fun hHeld3 => ?_)
      clear hKr hHeld
      refine takeL 5 (v := ?_) rfl (by kernel_rfl) (by kernel_rfl) (by kernel_rfl) (fun _ _ _ h => h) (Or.inl ⟨by rfl, ?_⟩) (by assumption) ?_
      rotate_left
      focus (intro wq hSq; go_simp <;> with_reducible rfl)
      simp only [Act.put, List.setIfInBounds_toArray, List.set_cons_zero, List.set_cons_succ]
      refine wpAnyH_ready (rs := [11]) (by kernel_rfl) (by simp) (nextL 11 rfl (fun Kr hKr => ?_) AllReadyH.nil)
      rw [if_pos (by rfl)]
      go_simp
      refine (HS.out _).mono ?_
      rintro e w3 ⟨rfl, hw3⟩
      subst w3
      refine hKr.out _ _ rfl (fun hHeld4 => ?_)
      clear hKr hHeld3
      refine takeL 12 (v := ?_) rfl (by kernel_rfl) (by kernel_rfl) (by kernel_rfl) (fun _ _ _ h => h) (Or.inl ⟨by rfl, ?_⟩) (by assumption) ?_
      rotate_left
      focus (intro wq hSq; go_simp <;> with_reducible rfl)
      simp only [Act.put, List.setIfInBounds_toArray, List.set_cons_zero, List.set_cons_succ]
      refine takeL 13 (v := ?_) rfl (by kernel_rfl) (by kernel_rfl) (by kernel_rfl) (fun _ _ _ h => h) (Or.inl ⟨by rfl, ?_⟩) (by assumption) ?_
      rotate_left
      focus (intro wq hSq; go_simp <;> with_reducible rfl)
      simp only [Act.put, List.setIfInBounds_toArray, List.set_cons_zero, List.set_cons_succ]
      refine takeL 14 (v := ?_) rfl (by kernel_rfl) (by kernel_rfl) (by kernel_rfl) (fun _ _ _ h => h) (Or.inl ⟨by rfl, ?_⟩) (by assumption) ?_
      rotate_left
      focus (intro wq hSq; go_simp <;> with_reducible rfl)
      simp only [Act.put, List.setIfInBounds_toArray, List.set_cons_zero, List.set_cons_succ]
      refine takeL 15 (v := ?_) rfl (by kernel_rfl) (by kernel_rfl) (by kernel_rfl) (fun _ _ _ h => h) (Or.inl ⟨by rfl, ?_⟩) (by assumption) ?_
      rotate_left
      focus (intro wq hSq; go_simp <;> with_reducible rfl)
      simp only [Act.put, List.setIfInBounds_toArray, List.set_cons_zero, List.set_cons_succ]
      refine wpAnyH_done (by kernel_rfl) ?_ _
      go_wp2_with fail
      go_ret
      exact ⟨by rw [HE.out]; exact congrArg (fun x => Ending.returned (.int .i64 x)) HEB.out, hd⟩
theorem fdecode_12 (c : Nat) (w : World) (hc : c < 65536) :
    Calls Try.prog 76 #[.int .i64 12, .int .i64 c] w fun e w' => e = .returned (.tuple #[.int .i64 (pdecode c 12 : Nat), .int .i64 0]) ∧ Below w.heap.size w w' := by
  have HH := Lib.hid (half_12 w)
  have HD := Lib.hid (fdec_12 c w hc)
  have d1 : decide ((65536 : Int) ≤ c) = false := decide_eq_false (by omega)
  clear hc
  go_enter Try.func76, Try.ntmps76
  go_wp2_with (first | ((with_reducible refine HH.out.mono ?_); rintro e w2 ⟨rfl, hw2⟩; subst w2) | ((with_reducible refine HD.out.mono ?_); rintro e w2 ⟨rfl, hb2⟩; have HB2 := Lib.hid hb2; clear hb2))
  go_ret2
  exact ⟨rfl, HB2.out⟩
def encV_12 (n : Int) : Nat := if 0 ≤ n then pencode n.toNat 12 else 0
theorem fencode_12 (n : Int) (w : World) (hn : n < 2 ^ 63) :
    Calls Try.prog 84 #[.int .i64 12, .int .i64 n] w fun e w' => e = .returned (.tuple #[.int .i64 (encV_12 n), .int .i64 (encE n)]) ∧ Below w.heap.size w w' := by
  unfold encV_12 encE
  by_cases h : 0 ≤ n
  · obtain ⟨m, rfl⟩ := Int.eq_ofNat_of_zero_le h
    have HD := Lib.hid (fenc_12 m w (by omega))
    have d1 : decide ((m : Int) < 0) = false := decide_eq_false (by omega)
    rw [if_pos h, if_pos h, Int.toNat_natCast]
    clear h hn
    go_enter Try.func84, Try.ntmps84
    go_wp2_with ((with_reducible refine HD.out.mono ?_); rintro e w2 ⟨rfl, hb2⟩; have HB2 := Lib.hid hb2; clear hb2)
    go_ret2
    exact ⟨rfl, HB2.out⟩
  · have d1 : decide (n < 0) = true := decide_eq_true (by omega)
    rw [if_neg h, if_neg h]
    clear h hn
    go_enter Try.func84, Try.ntmps84
    go_wp2_with fail
    go_ret2
    exact ⟨rfl, Below.refl _ _⟩

theorem dec8_any (c : Nat) (w : World) (hc : c < 256) :
    Calls Try.prog 40 #[.int .i64 c] w fun e w' => e = .returned (.tuple #[.int .i64 (pdecode c 4 : Nat), .int .i64 0]) ∧ Below w.heap.size w w' := by
  have HD := Lib.hid (fdecode_4 c w hc)
  clear hc
  go_enter Try.func40, Try.ntmps40
  go_wp2_with ((with_reducible refine HD.out.mono ?_); rintro e w2 ⟨rfl, hb2⟩; have HB2 := Lib.hid hb2; clear hb2)
  go_ret2
  exact ⟨rfl, HB2.out⟩
theorem enc8_any (n : Int) (w : World) (hn : n < 2 ^ 63) :
    Calls Try.prog 62 #[.int .i64 n] w fun e w' => e = .returned (.tuple #[.int .i64 (encV_4 n), .int .i64 (encE n)]) ∧ Below w.heap.size w w' := by
  have HD := Lib.hid (fencode_4 n w hn)
  clear hn
  go_enter Try.func62, Try.ntmps62
  go_wp2_with ((with_reducible refine HD.out.mono ?_); rintro e w2 ⟨rfl, hb2⟩; have HB2 := Lib.hid hb2; clear hb2)
  go_ret2
  exact ⟨rfl, HB2.out⟩
end Go.Proofs.Ythkibgdeibolfaa

/- The document's layer 7: dec, Dec8, Enc8, Exact8. -/
namespace Go.Proofs.Ythkibgdeibolfaa
open Go.RowKit
set_option maxRecDepth 20000
set_option maxRecDepth 20000

theorem wrap_dbl (H : Nat) (h : H ≤ 1099511627776) : wrap64 (2 * (H : Int)) = ((2 * H : Nat) : Int) := by unfold wrap64; omega
theorem meas_up (K k : Nat) (h : k < K) : K - (intOf (.int .i64 ((k : Int) + 1))).toNat < K - (intOf (.int .i64 (k : Int))).toNat := by simp [intOf]; omega
/-- a number, doubled so many times -/
def dbl (M k : Nat) : Nat := M * 2 ^ k
theorem dbl_zero (M : Nat) : dbl M 0 = M := by simp [dbl]
theorem dbl_succ (M k : Nat) : 2 * dbl M k = dbl M (k + 1) := by rw [dbl, dbl, Nat.pow_succ, Nat.mul_comm (2 ^ k) 2, Nat.mul_left_comm]
theorem dbl_le (M k a b : Nat) (h1 : M ≤ a) (h2 : k ≤ b) : dbl M k ≤ a * 2 ^ b := Nat.mul_le_mul h1 (Nat.pow_le_pow_right (by decide) h2)
theorem dbl_84 : dbl 8 4 = 128 := rfl
theorem dbl_812 : dbl 8 12 = 32768 := rfl
theorem dbl_code (c p f : Nat) (hp : p = 2 ^ f) (h : ¬ c < 8 * p) : pdecode c f = dbl (c % p + p) (c / p % 8 + 3) := by
  subst hp
  exact if_neg h
attribute [irreducible] dbl
theorem ref_facts_4 (c Y M K m x : Nat) (hc : c < 256) (hY : Y = c / 16) (hM : M = c % 16 + 16) (hK : K = Y % 8 + 3) (hm : m = c % 16) (hx : x = Y % 8) :
    (c : Int).tmod 16 = m ∧ (c : Int) % 16 = m ∧ (c : Int).tdiv 16 = Y ∧ (c : Int) / 16 = Y ∧ wrap64 (Y : Int) = Y ∧ (Y : Int).tmod 8 = x ∧ (Y : Int) % 8 = x ∧ wrap64 ((m : Int) + 16) = M ∧ (m : Int) + 16 = M ∧ wrap64 ((x : Int) + 3) = K ∧ (x : Int) + 3 = K := by
  rw [Int.tmod_eq_emod_of_nonneg (by omega), Int.tmod_eq_emod_of_nonneg (by omega), Int.tdiv_eq_ediv_of_nonneg (by omega)]
  unfold wrap64
  omega
theorem ref_bounds_4 (c Y M K : Nat) (hY : Y = c / 16) (hM : M = c % 16 + 16) (hK : K = Y % 8 + 3) : ∀ k, k < K → dbl M k ≤ 1099511627776 := by
  intro k hk
  exact Nat.le_trans (dbl_le M k (2 * 16) 10 (by omega) (by omega)) (by decide)
set_option maxRecDepth 100000 in
set_option maxHeartbeats 1000000 in
theorem rdec_4 (c : Nat) (w : World) (hc : c < 256) :
    Calls Try.prog 82 #[.int .i64 c, .int .i64 4] w fun e w' => e = .returned (.int .i64 (pdecode c 4 : Nat)) ∧ w = w' := by
  obtain ⟨V, hV⟩ : ∃ V, V = pdecode c 4 := ⟨_, rfl⟩
  rw [← hV]
  have HC := Lib.hid (And.intro hc hV)
  clear hc hV
  go_enter Try.func82, Try.ntmps82
  go_wp2_with fail
  go_loop [5, 6] (fun h i => ∃ k : Nat, k ≤ 4 ∧ i = .int .i64 k ∧ h = .int .i64 ((dbl 8 k : Nat) : Int)) (fun _ i => 4 - (intOf i).toNat)
  case atStart => exact ⟨0, Nat.zero_le _, rfl, by rw [dbl_zero]; rfl⟩
  case round =>
    obtain ⟨k, hk, rfl, rfl⟩ := hrel
    by_cases hlt : k < 4
    · have hlt' : (k : Int) < 4 := by omega
      have HE := Lib.hid (dbl_succ 8 k)
      have hw := wrap_dbl (dbl 8 k) (Nat.le_trans (dbl_le 8 k 8 12 (Nat.le_refl _) (by omega)) (by decide))
      go_wp2_with fail
      refine ⟨⟨k + 1, hlt, rfl, ?_⟩, meas_up 4 k hlt⟩
      rw [← HE.out]
      first | rfl | exact congrArg (Value.int .i64) hw
    · obtain rfl : k = 4 := by omega
      have hc := HC.out.1
      have hV := HC.out.2
      rw [show ((dbl 8 4 : Nat) : Int) = 128 by rw [dbl_84]; rfl]
      by_cases h : c < 128
      · have d1 : decide ((c : Int) < 128) = true := decide_eq_true (by omega)
        have HD := Lib.hid (show V = c from hV.trans (if_pos h))
        clear HC hc h hlt hk hV
        go_wp2_with fail
        go_ret
        exact ⟨by rw [HD.out]; rfl, rfl⟩
      · have d1 : decide ((c : Int) < 128) = false := decide_eq_false (by omega)
        have hp := dbl_code c 16 4 rfl h
        obtain ⟨Y, hY⟩ : ∃ Y, Y = c / 16 := ⟨_, rfl⟩
        obtain ⟨M, hM⟩ : ∃ M, M = c % 16 + 16 := ⟨_, rfl⟩
        obtain ⟨K, hK⟩ : ∃ K, K = Y % 8 + 3 := ⟨_, rfl⟩
        rw [← hY, ← hM, ← hK] at hp
        have HP := Lib.hid hp
        have HB := Lib.hid (ref_bounds_4 c Y M K hY hM hK)
        obtain ⟨m, hm⟩ : ∃ m, m = c % 16 := ⟨_, rfl⟩
        obtain ⟨x, hx⟩ : ∃ x, x = Y % 8 := ⟨_, rfl⟩
        obtain ⟨t1, t2, t3, t4, t5, t6, t7, t8, t9, t10, t11⟩ := ref_facts_4 c Y M K m x hc hY hM hK hm hx
        rw [← hV] at HP
        clear HC hc h hlt hk hY hM hK hp hV hm hx
        go_wp2_with fail
        go_loop [8, 9] (fun a j => ∃ k : Nat, k ≤ K ∧ j = .int .i64 k ∧ a = .int .i64 ((dbl M k : Nat) : Int)) (fun _ j => K - (intOf j).toNat)
        case atStart => exact ⟨0, Nat.zero_le _, rfl, by rw [dbl_zero]⟩
        case round =>
          obtain ⟨k, hk, rfl, rfl⟩ := hrel
          by_cases hlt : k < K
          · have HE := Lib.hid (dbl_succ M k)
            have hw := wrap_dbl (dbl M k) (HB.out k hlt)
            go_wp2_with fail
            refine ⟨⟨k + 1, hlt, rfl, ?_⟩, meas_up K k hlt⟩
            rw [← HE.out]
            first | rfl | exact congrArg (Value.int .i64) hw
          · obtain rfl : K = k := Nat.le_antisymm (Nat.le_of_not_lt hlt) hk
            go_wp2_with fail
            go_ret
            exact ⟨by rw [HP.out]; rfl, rfl⟩
theorem ref_facts_12 (c Y M K m x : Nat) (hc : c < 65536) (hY : Y = c / 4096) (hM : M = c % 4096 + 4096) (hK : K = Y % 8 + 3) (hm : m = c % 4096) (hx : x = Y % 8) :
    (c : Int).tmod 4096 = m ∧ (c : Int) % 4096 = m ∧ (c : Int).tdiv 4096 = Y ∧ (c : Int) / 4096 = Y ∧ wrap64 (Y : Int) = Y ∧ (Y : Int).tmod 8 = x ∧ (Y : Int) % 8 = x ∧ wrap64 ((m : Int) + 4096) = M ∧ (m : Int) + 4096 = M ∧ wrap64 ((x : Int) + 3) = K ∧ (x : Int) + 3 = K := by
  rw [Int.tmod_eq_emod_of_nonneg (by omega), Int.tmod_eq_emod_of_nonneg (by omega), Int.tdiv_eq_ediv_of_nonneg (by omega)]
  unfold wrap64
  omega
theorem ref_bounds_12 (c Y M K : Nat) (hY : Y = c / 4096) (hM : M = c % 4096 + 4096) (hK : K = Y % 8 + 3) : ∀ k, k < K → dbl M k ≤ 1099511627776 := by
  intro k hk
  exact Nat.le_trans (dbl_le M k (2 * 4096) 10 (by omega) (by omega)) (by decide)
set_option maxRecDepth 100000 in
set_option maxHeartbeats 1000000 in
theorem rdec_12 (c : Nat) (w : World) (hc : c < 65536) :
    Calls Try.prog 82 #[.int .i64 c, .int .i64 12] w fun e w' => e = .returned (.int .i64 (pdecode c 12 : Nat)) ∧ w = w' := by
  obtain ⟨V, hV⟩ : ∃ V, V = pdecode c 12 := ⟨_, rfl⟩
  rw [← hV]
  have HC := Lib.hid (And.intro hc hV)
  clear hc hV
  go_enter Try.func82, Try.ntmps82
  go_wp2_with fail
  go_loop [5, 6] (fun h i => ∃ k : Nat, k ≤ 12 ∧ i = .int .i64 k ∧ h = .int .i64 ((dbl 8 k : Nat) : Int)) (fun _ i => 12 - (intOf i).toNat)
  case atStart => exact ⟨0, Nat.zero_le _, rfl, by rw [dbl_zero]; rfl⟩
  case round =>
    obtain ⟨k, hk, rfl, rfl⟩ := hrel
    by_cases hlt : k < 12
    · have hlt' : (k : Int) < 12 := by omega
      have HE := Lib.hid (dbl_succ 8 k)
      have hw := wrap_dbl (dbl 8 k) (Nat.le_trans (dbl_le 8 k 8 12 (Nat.le_refl _) (by omega)) (by decide))
      go_wp2_with fail
      refine ⟨⟨k + 1, hlt, rfl, ?_⟩, meas_up 12 k hlt⟩
      rw [← HE.out]
      first | rfl | exact congrArg (Value.int .i64) hw
    · obtain rfl : k = 12 := by omega
      have hc := HC.out.1
      have hV := HC.out.2
      rw [show ((dbl 8 12 : Nat) : Int) = 32768 by rw [dbl_812]; rfl]
      by_cases h : c < 32768
      · have d1 : decide ((c : Int) < 32768) = true := decide_eq_true (by omega)
        have HD := Lib.hid (show V = c from hV.trans (if_pos h))
        clear HC hc h hlt hk hV
        go_wp2_with fail
        go_ret
        exact ⟨by rw [HD.out]; rfl, rfl⟩
      · have d1 : decide ((c : Int) < 32768) = false := decide_eq_false (by omega)
        have hp := dbl_code c 4096 12 rfl h
        obtain ⟨Y, hY⟩ : ∃ Y, Y = c / 4096 := ⟨_, rfl⟩
        obtain ⟨M, hM⟩ : ∃ M, M = c % 4096 + 4096 := ⟨_, rfl⟩
        obtain ⟨K, hK⟩ : ∃ K, K = Y % 8 + 3 := ⟨_, rfl⟩
        rw [← hY, ← hM, ← hK] at hp
        have HP := Lib.hid hp
        have HB := Lib.hid (ref_bounds_12 c Y M K hY hM hK)
        obtain ⟨m, hm⟩ : ∃ m, m = c % 4096 := ⟨_, rfl⟩
        obtain ⟨x, hx⟩ : ∃ x, x = Y % 8 := ⟨_, rfl⟩
        obtain ⟨t1, t2, t3, t4, t5, t6, t7, t8, t9, t10, t11⟩ := ref_facts_12 c Y M K m x hc hY hM hK hm hx
        rw [← hV] at HP
        clear HC hc h hlt hk hY hM hK hp hV hm hx
        go_wp2_with fail
        go_loop [8, 9] (fun a j => ∃ k : Nat, k ≤ K ∧ j = .int .i64 k ∧ a = .int .i64 ((dbl M k : Nat) : Int)) (fun _ j => K - (intOf j).toNat)
        case atStart => exact ⟨0, Nat.zero_le _, rfl, by rw [dbl_zero]⟩
        case round =>
          obtain ⟨k, hk, rfl, rfl⟩ := hrel
          by_cases hlt : k < K
          · have HE := Lib.hid (dbl_succ M k)
            have hw := wrap_dbl (dbl M k) (HB.out k hlt)
            go_wp2_with fail
            refine ⟨⟨k + 1, hlt, rfl, ?_⟩, meas_up K k hlt⟩
            rw [← HE.out]
            first | rfl | exact congrArg (Value.int .i64) hw
          · obtain rfl : K = k := Nat.le_antisymm (Nat.le_of_not_lt hlt) hk
            go_wp2_with fail
            go_ret
            exact ⟨by rw [HP.out]; rfl, rfl⟩

theorem rdec8_any (c : Nat) (w : World) (hc : c < 256) :
    Calls Try.prog 51 #[.int .i64 c] w fun e w' => e = .returned (.tuple #[.int .i64 (pdecode c 4 : Nat), .int .i64 0]) ∧ w = w' := by
  have HD := Lib.hid (rdec_4 c w hc)
  have d1 : decide ((255 : Int) < c) = false := decide_eq_false (by omega)
  clear hc
  go_enter Try.func51, Try.ntmps51
  go_wp2_with ((with_reducible refine HD.out.mono ?_); rintro e w2 ⟨rfl, hw2⟩; subst w2)
  go_ret2
  exact ⟨rfl, rfl⟩

theorem renc8_any (n : Int) (w : World) :
    Calls Try.prog 70 #[.int .i64 n] w fun e w' => e = .returned (.tuple #[.int .i64 (encV_4 n), .int .i64 (encE n)]) ∧ w = w' := by
  unfold encV_4 encE
  by_cases h : 0 ≤ n
  · obtain ⟨m, rfl⟩ := Int.eq_ofNat_of_zero_le h
    have d1 : decide ((m : Int) < 0) = false := decide_eq_false (by omega)
    rw [if_pos h, if_pos h, Int.toNat_natCast]
    clear h
    go_enter Try.func70, Try.ntmps70
    go_wp2_with fail
    go_loop [4] (fun c => ∃ k : Nat, k ≤ 255 ∧ c = .int .i64 k ∧ ∀ d, k < d → d < 256 → m < pdecode d 4) (fun c => (intOf c).toNat)
    case atStart => exact ⟨255, Nat.le_refl _, rfl, fun d h1 h2 => by omega⟩
    case round =>
      obtain ⟨k, hk, rfl, hall⟩ := hrel
      have HD := Lib.hid (rdec_4 k w (by omega))
      have HALL := Lib.hid hall
      by_cases hlt : m < pdecode k 4
      · have hk0 : 0 < k := by
          rcases Nat.eq_zero_or_pos k with e | e
          · subst e; simp [pdecode] at hlt
          · exact e
        have d2 : decide ((m : Int) < (pdecode k 4 : Nat)) = true := decide_eq_true (by omega)
        have d3 : decide (m < pdecode k 4) = true := decide_eq_true hlt
        have HLT := Lib.hid hlt
        obtain ⟨j, rfl⟩ : ∃ j, k = j + 1 := ⟨k - 1, by omega⟩
        have hw : wrap64 (((j + 1 : Nat) : Int) - 1) = (j : Int) := by unfold wrap64; omega
        have HD : Hid (Calls Try.prog 82 #[.int .i64 ((j : Int) + 1), .int .i64 4] w fun e w' => e = .returned (.int .i64 (pdecode (j + 1) 4 : Nat)) ∧ w = w') := HD
        clear hall hlt hk0
        go_wp2_with ((with_reducible refine HD.out.mono ?_); rintro e w2 ⟨rfl, hw2⟩; subst w2)
        exact ⟨⟨j, by omega, rfl, fun d h1 h2 => by
          by_cases e : d = j + 1
          · subst e; exact HLT.out
          · exact HALL.out d (by omega) h2⟩, by simp [intOf]⟩
      · have d2 : decide ((m : Int) < (pdecode k 4 : Nat)) = false := decide_eq_false (by omega)
        have d3 : decide (m < pdecode k 4) = false := decide_eq_false hlt
        have HE := Lib.hid (pencode_unique 4 (.inl rfl) m k (by omega) (by omega) (fun d h1 h2 => hall d h1 h2))
        clear hall hlt
        go_wp2_with ((with_reducible refine HD.out.mono ?_); rintro e w2 ⟨rfl, hw2⟩; subst w2)
        go_ret2
        exact ⟨by rw [HE.out]; rfl, rfl⟩
  · have d1 : decide (n < 0) = true := decide_eq_true (by omega)
    rw [if_neg h, if_neg h]
    clear h
    go_enter Try.func70, Try.ntmps70
    go_wp2_with fail
    go_ret2
    exact ⟨rfl, rfl⟩

theorem encV4_lt (n : Int) : encV_4 n < 256 := by
  unfold encV_4
  split
  · exact (pencode_spec 4 (.inl rfl) _).1
  · decide
theorem exact8_any (n : Int) (w : World) :
    Calls Try.prog 67 #[.int .i64 n] w fun e w' => e = .returned (.bool (exact8 n)) ∧ w = w' := by
  have HE := Lib.hid (renc8_any n w)
  have HD := Lib.hid (rdec_4 (encV_4 n) w (encV4_lt n))
  unfold exact8
  unfold encE at HE
  by_cases h : 0 ≤ n
  · obtain ⟨m, rfl⟩ := Int.eq_ofNat_of_zero_le h
    rw [if_pos h] at HE
    have hv : encV_4 (m : Int) = pencode m 4 := by unfold encV_4; rw [if_pos h, Int.toNat_natCast]
    rw [hv] at HE HD
    rw [decide_eq_true h, Int.toNat_natCast]
    obtain ⟨E, hE⟩ : ∃ E, E = pencode m 4 := ⟨_, rfl⟩
    rw [← hE] at HE HD ⊢
    obtain ⟨D, hD⟩ : ∃ D, D = pdecode E 4 := ⟨_, rfl⟩
    rw [← hD] at HD ⊢
    have HB := Lib.hid (show ((D : Int) == m) = decide (D = m) from by
      by_cases e : D = m
      · rw [decide_eq_true e]; exact beq_iff_eq.2 (by omega)
      · rw [decide_eq_false e]; exact beq_eq_false_iff_ne.2 (by omega))
    have HB2 := Lib.hid (show (D == m) = decide (D = m) from by
      by_cases e : D = m
      · rw [decide_eq_true e]; exact beq_iff_eq.2 e
      · rw [decide_eq_false e]; exact beq_eq_false_iff_ne.2 e)
    clear hE hD hv h
    go_enter Try.func67, Try.ntmps67
    go_wp2_with (first | ((with_reducible refine HE.out.mono ?_); rintro e w2 ⟨rfl, hw2⟩; subst w2) | ((with_reducible refine HD.out.mono ?_); rintro e w2 ⟨rfl, hw2⟩; subst w2))
    go_ret
    first
      | exact ⟨by rw [← HB.out]; rfl, rfl⟩
      | exact ⟨by rw [← HB2.out]; rfl, rfl⟩
  · rw [if_neg h] at HE
    rw [decide_eq_false h]
    clear h
    go_enter Try.func67, Try.ntmps67
    go_wp2_with ((with_reducible refine HE.out.mono ?_); rintro e w2 ⟨rfl, hw2⟩; subst w2)
    go_ret
    exact ⟨by rw [Bool.false_and]; rfl, rfl⟩
end Go.Proofs.Ythkibgdeibolfaa
