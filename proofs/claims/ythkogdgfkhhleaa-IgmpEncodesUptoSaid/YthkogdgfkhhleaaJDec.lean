/- code: half, small, dec, enc, decode, encode, Dec8, Enc8; bits.Len. -/
import Derived.Test.YthkogdgfkhhleaaJGrp
namespace Go.Proofs.Ythkogdgfkhhleaa
open Go.RowKit
set_option maxRecDepth 20000
set_option maxRecDepth 20000
attribute [local go_sem] bstr_size bstr_extract bstr_toList bstr_get

theorem i64_join' (i : Nat) (x y : Int) (hx₀ : 0 ≤ x) (hx : x < 2 ^ i) (hx₁ : x < 2 ^ 63) (hy : y % 2 ^ i = 0) (hy₁ : 0 ≤ y ∧ y < 2 ^ 63) : bits .or .i64 x y = x + y := by
  obtain ⟨a, rfl⟩ := Int.eq_ofNat_of_zero_le hx₀
  obtain ⟨b, rfl⟩ := Int.eq_ofNat_of_zero_le hy₁.1
  have h1 := (bits_nat .i64 63 (by decide) wraps_i64 a b (by exact_mod_cast hx₁) (by exact_mod_cast hy₁.2)).2
  have h2 := (bits_nat .i64 63 (by decide) wraps_i64 b a (by exact_mod_cast hy₁.2) (by exact_mod_cast hx₁)).2
  rw [Nat.or_comm, ← h1] at h2
  rw [← h2, i64_join i _ _ hy₁.1 hy hy₁.2 hx₀ hx hx₁, Int.add_comm]
/-- the two makes of codes: bits of the small part, and its first number -/
def Make (f p : Nat) : Prop := (f = 4 ∧ p = 16) ∨ (f = 12 ∧ p = 4096)
theorem Make.pow {f p : Nat} (h : Make f p) : 2 ^ f = p := by rcases h with ⟨rfl, rfl⟩ | ⟨rfl, rfl⟩ <;> rfl
theorem Make.or {f p : Nat} (h : Make f p) : f = 4 ∨ f = 12 := by rcases h with ⟨rfl, rfl⟩ | ⟨rfl, rfl⟩ <;> simp

theorem half_any (f p : Nat) (w : World) (h : Make f p) :
    Calls Try.prog 82 #[.int .i64 f] w fun e w' => e = .returned (.int .i64 (8 * p : Nat)) ∧ w = w' := by
  rcases h with ⟨rfl, rfl⟩ | ⟨rfl, rfl⟩
  all_goals
    go_enter Try.func82, Try.ntmps82
    go_wp2_with fail
    go_ret
    exact ⟨rfl, rfl⟩
theorem small_any (f p : Nat) (w : World) (h : Make f p) :
    Calls Try.prog 85 #[.int .i64 f] w fun e w' => e = .returned (.int .i64 (p : Nat)) ∧ w = w' := by
  rcases h with ⟨rfl, rfl⟩ | ⟨rfl, rfl⟩
  all_goals
    go_enter Try.func85, Try.ntmps85
    go_wp2_with fail
    go_ret
    exact ⟨rfl, rfl⟩

theorem half_4 (w : World) : Calls Try.prog 82 #[.int .i64 4] w fun e w' => e = .returned (.int .i64 128) ∧ w = w' := half_any 4 16 w (.inl ⟨rfl, rfl⟩)
theorem small_4 (w : World) : Calls Try.prog 85 #[.int .i64 4] w fun e w' => e = .returned (.int .i64 16) ∧ w = w' := small_any 4 16 w (.inl ⟨rfl, rfl⟩)
theorem shl_dec_4 (c : Nat) (_hc : c < 256) (h : ¬ c < 128) : IntKind.i64.wrap (((c : Int) % 16 + 16) * 2 ^ ((c : Int) / 16 % 8 + 3).toNat) = ((pdecode c 4 : Nat) : Int) := by
  have hp : pdecode c 4 = (c % 16 + 16) * 2 ^ (c / 16 % 8 + 3) := if_neg h
  rw [hp]
  obtain ⟨x, hx⟩ : ∃ x, c / 16 % 8 = x := ⟨_, rfl⟩
  rw [show ((c : Int) / 16 % 8 + 3) = ((x + 3 : Nat) : Int) by omega, show ((c : Int) % 16 + 16) = ((c % 16 + 16 : Nat) : Int) by omega, hx, Int.toNat_natCast]
  have h2 : (c % 16 + 16) * 2 ^ (x + 3) < 2 ^ 62 := by
    have : 2 ^ (x + 3) ≤ 2 ^ 10 := Nat.pow_le_pow_right (by decide) (by omega)
    calc (c % 16 + 16) * 2 ^ (x + 3) ≤ (2 * 16) * 2 ^ 10 := Nat.mul_le_mul (by omega) this
      _ < 2 ^ 62 := by decide
  rw [show ((c % 16 + 16 : Nat) : Int) * 2 ^ (x + 3) = (((c % 16 + 16) * 2 ^ (x + 3) : Nat) : Int) by simp]
  rw [wraps_i64 _ (by omega) (by omega)]
set_option maxHeartbeats 1000000 in
theorem fdec_4 (c : Nat) (w : World) (hc : c < 256) :
    Calls Try.prog 83 #[.int .i64 4, .int .i64 c] w fun e w' => e = .returned (.int .i64 (pdecode c 4 : Nat)) ∧ Below w.heap.size w w' := by
  have HH := Lib.hid (half_4 w)
  have HS := Lib.hid (fun W => small_4 W)
  by_cases h : c < 128
  · have d1 : decide ((c : Int) < 128) = true := decide_eq_true (by omega)
    have HE := Lib.hid (show pdecode c 4 = c from if_pos h)
    clear h hc
    go_enter Try.func83, Try.ntmps83
    go_wp2_with ((with_reducible refine HH.out.mono ?_); rintro e w2 ⟨rfl, hw2⟩; subst w2)
    go_ret
    exact ⟨by rw [HE.out]; rfl, Below.refl _ _⟩
  · have d1 : decide ((c : Int) < 128) = false := decide_eq_false (by omega)
    have hand : bits .and .i64 (c : Int) 15 = (c : Int) % 16 := i64_mask 4 (by decide) _ (by omega) (by omega)
    have hand7 : bits .and .i64 ((c : Int) / 16) 7 = (c : Int) / 16 % 8 := i64_mask 3 (by decide) _ (by omega) (by omega)
    have hwM : IntKind.i64.wrap 15 = 15 := by decide
    have hwx : IntKind.i64.wrap ((c : Int) / 16 % 8 + 3) = (c : Int) / 16 % 8 + 3 := by rw [IntKind.wrap_i64]; omega
    have HSH := Lib.hid (shl_dec_4 c hc h)
    have hor : bits .or .i64 ((c : Int) % 16) 16 = (c : Int) % 16 + 16 := i64_join' 4 _ _ (by omega) (by omega) (by omega) (by omega) (by omega)
    go_enter Try.func83, Try.ntmps83
    go_upto_region 3 with ((with_reducible refine HH.out.mono ?_); rintro e w2 ⟨rfl, hw2⟩; subst w2)
    have hd : Below w.heap.size w w.drew := Below.drew (Below.refl _ _)
    refine wp_region_held_drew (S := fun W' => W' = w.drew) (by kernel_rfl) rfl (fun hHeld => ?_)
    refine takeL 0 (v := ?_) rfl (by kernel_rfl) (by kernel_rfl) (by kernel_rfl) (fun _ _ _ h => h) (Or.inl ⟨by rfl, ?_⟩) (by assumption) ?_
    rotate_left
    focus (intro wq hSq; go_simp <;> with_reducible rfl)
    simp only [Act.put, List.setIfInBounds_toArray, List.set_cons_zero, List.set_cons_succ]
    refine takeL 1 (v := ?_) rfl (by kernel_rfl) (by kernel_rfl) (by kernel_rfl) (fun _ _ _ h => h) (Or.inl ⟨by rfl, ?_⟩) (by assumption) ?_
    rotate_left
    focus (intro wq hSq; go_simp <;> with_reducible rfl)
    simp only [Act.put, List.setIfInBounds_toArray, List.set_cons_zero, List.set_cons_succ]
    refine takeL 5 (v := ?_) rfl (by kernel_rfl) (by kernel_rfl) (by kernel_rfl) (fun _ _ _ h => h) (Or.inl ⟨by rfl, ?_⟩) (by assumption) ?_
    rotate_left
    focus (intro wq hSq; go_simp <;> with_reducible rfl)
    simp only [Act.put, List.setIfInBounds_toArray, List.set_cons_zero, List.set_cons_succ]
    refine takeL 8 (v := ?_) rfl (by kernel_rfl) (by kernel_rfl) (by kernel_rfl) (fun _ _ _ h => h) (Or.inl ⟨by rfl, ?_⟩) (by assumption) ?_
    rotate_left
    focus (intro wq hSq; go_simp <;> with_reducible rfl)
    simp only [Act.put, List.setIfInBounds_toArray, List.set_cons_zero, List.set_cons_succ]
    refine takeL 9 (v := ?_) rfl (by kernel_rfl) (by kernel_rfl) (by kernel_rfl) (fun _ _ _ h => h) (Or.inl ⟨by rfl, ?_⟩) (by assumption) ?_
    rotate_left
    focus (intro wq hSq; go_simp <;> with_reducible rfl)
    simp only [Act.put, List.setIfInBounds_toArray, List.set_cons_zero, List.set_cons_succ]
    refine takeL 10 (v := ?_) rfl (by kernel_rfl) (by kernel_rfl) (by kernel_rfl) (fun _ _ _ h => h) (Or.inl ⟨by rfl, ?_⟩) (by assumption) ?_
    rotate_left
    focus (intro wq hSq; go_simp <;> with_reducible rfl)
    simp only [Act.put, List.setIfInBounds_toArray, List.set_cons_zero, List.set_cons_succ]
    refine takeL 11 (v := ?_) rfl (by kernel_rfl) (by kernel_rfl) (by kernel_rfl) (fun _ _ _ h => h) (Or.inl ⟨by rfl, ?_⟩) (by assumption) ?_
    rotate_left
    focus (intro wq hSq; go_simp <;> with_reducible rfl)
    simp only [Act.put, List.setIfInBounds_toArray, List.set_cons_zero, List.set_cons_succ]
    refine takeL 12 (v := ?_) rfl (by kernel_rfl) (by kernel_rfl) (by kernel_rfl) (fun _ _ _ h => h) (Or.inl ⟨by rfl, ?_⟩) (by assumption) ?_
    rotate_left
    focus (intro wq hSq; go_simp <;> with_reducible rfl)
    simp only [Act.put, List.setIfInBounds_toArray, List.set_cons_zero, List.set_cons_succ]
    refine wpAnyH_ready (rs := [2]) (by kernel_rfl) (by simp) (nextL 2 rfl (fun Kr hKr => ?_) AllReadyH.nil)
    rw [if_pos (by rfl)]
    go_simp
    refine (HS.out _).mono ?_
    rintro e w3 ⟨rfl, hw3⟩
    subst w3
    refine hKr.out _ _ rfl (fun hHeld3 => ?_)
    clear hKr hHeld
    refine takeL 3 (v := ?_) rfl (by kernel_rfl) (by kernel_rfl) (by kernel_rfl) (fun _ _ _ h => h) (Or.inl ⟨by rfl, ?_⟩) (by assumption) ?_
    rotate_left
    focus (intro wq hSq; go_simp <;> with_reducible rfl)
    simp only [Act.put, List.setIfInBounds_toArray, List.set_cons_zero, List.set_cons_succ]
    refine takeL 4 (v := ?_) rfl (by kernel_rfl) (by kernel_rfl) (by kernel_rfl) (fun _ _ _ h => h) (Or.inl ⟨by rfl, ?_⟩) (by assumption) ?_
    rotate_left
    focus (intro wq hSq; go_simp <;> with_reducible rfl)
    simp only [Act.put, List.setIfInBounds_toArray, List.set_cons_zero, List.set_cons_succ]
    refine wpAnyH_ready (rs := [6]) (by kernel_rfl) (by simp) (nextL 6 rfl (fun Kr hKr => ?_) AllReadyH.nil)
    rw [if_pos (by rfl)]
    go_simp
    refine (HS.out _).mono ?_
    rintro e w3 ⟨rfl, hw3⟩
    subst w3
    refine hKr.out _ _ rfl (fun hHeld4 => ?_)
    clear hKr hHeld3
    refine takeL 7 (v := ?_) rfl (by kernel_rfl) (by kernel_rfl) (by kernel_rfl) (fun _ _ _ h => h) (Or.inl ⟨by rfl, ?_⟩) (by assumption) ?_
    rotate_left
    focus (intro wq hSq; go_simp <;> with_reducible rfl)
    simp only [Act.put, List.setIfInBounds_toArray, List.set_cons_zero, List.set_cons_succ]
    refine takeL 13 (v := ?_) rfl (by kernel_rfl) (by kernel_rfl) (by kernel_rfl) (fun _ _ _ h => h) (Or.inl ⟨by rfl, ?_⟩) (by assumption) ?_
    rotate_left
    focus (intro wq hSq; go_simp <;> with_reducible rfl)
    simp only [Act.put, List.setIfInBounds_toArray, List.set_cons_zero, List.set_cons_succ]
    refine takeL 14 (v := ?_) rfl (by kernel_rfl) (by kernel_rfl) (by kernel_rfl) (fun _ _ _ h => h) (Or.inl ⟨by rfl, ?_⟩) (by assumption) ?_
    rotate_left
    focus (intro wq hSq; go_simp <;> with_reducible rfl)
    simp only [Act.put, List.setIfInBounds_toArray, List.set_cons_zero, List.set_cons_succ]
    refine wpAnyH_done (by kernel_rfl) ?_ _
    go_wp2_with fail
    go_ret
    exact ⟨congrArg (fun x => Ending.returned (.int .i64 x)) HSH.out, hd⟩
theorem half_12 (w : World) : Calls Try.prog 82 #[.int .i64 12] w fun e w' => e = .returned (.int .i64 32768) ∧ w = w' := half_any 12 4096 w (.inr ⟨rfl, rfl⟩)
theorem small_12 (w : World) : Calls Try.prog 85 #[.int .i64 12] w fun e w' => e = .returned (.int .i64 4096) ∧ w = w' := small_any 12 4096 w (.inr ⟨rfl, rfl⟩)
theorem shl_dec_12 (c : Nat) (_hc : c < 65536) (h : ¬ c < 32768) : IntKind.i64.wrap (((c : Int) % 4096 + 4096) * 2 ^ ((c : Int) / 4096 % 8 + 3).toNat) = ((pdecode c 12 : Nat) : Int) := by
  have hp : pdecode c 12 = (c % 4096 + 4096) * 2 ^ (c / 4096 % 8 + 3) := if_neg h
  rw [hp]
  obtain ⟨x, hx⟩ : ∃ x, c / 4096 % 8 = x := ⟨_, rfl⟩
  rw [show ((c : Int) / 4096 % 8 + 3) = ((x + 3 : Nat) : Int) by omega, show ((c : Int) % 4096 + 4096) = ((c % 4096 + 4096 : Nat) : Int) by omega, hx, Int.toNat_natCast]
  have h2 : (c % 4096 + 4096) * 2 ^ (x + 3) < 2 ^ 62 := by
    have : 2 ^ (x + 3) ≤ 2 ^ 10 := Nat.pow_le_pow_right (by decide) (by omega)
    calc (c % 4096 + 4096) * 2 ^ (x + 3) ≤ (2 * 4096) * 2 ^ 10 := Nat.mul_le_mul (by omega) this
      _ < 2 ^ 62 := by decide
  rw [show ((c % 4096 + 4096 : Nat) : Int) * 2 ^ (x + 3) = (((c % 4096 + 4096) * 2 ^ (x + 3) : Nat) : Int) by simp]
  rw [wraps_i64 _ (by omega) (by omega)]
set_option maxHeartbeats 1000000 in
theorem fdec_12 (c : Nat) (w : World) (hc : c < 65536) :
    Calls Try.prog 83 #[.int .i64 12, .int .i64 c] w fun e w' => e = .returned (.int .i64 (pdecode c 12 : Nat)) ∧ Below w.heap.size w w' := by
  have HH := Lib.hid (half_12 w)
  have HS := Lib.hid (fun W => small_12 W)
  by_cases h : c < 32768
  · have d1 : decide ((c : Int) < 32768) = true := decide_eq_true (by omega)
    have HE := Lib.hid (show pdecode c 12 = c from if_pos h)
    clear h hc
    go_enter Try.func83, Try.ntmps83
    go_wp2_with ((with_reducible refine HH.out.mono ?_); rintro e w2 ⟨rfl, hw2⟩; subst w2)
    go_ret
    exact ⟨by rw [HE.out]; rfl, Below.refl _ _⟩
  · have d1 : decide ((c : Int) < 32768) = false := decide_eq_false (by omega)
    have hand : bits .and .i64 (c : Int) 4095 = (c : Int) % 4096 := i64_mask 12 (by decide) _ (by omega) (by omega)
    have hand7 : bits .and .i64 ((c : Int) / 4096) 7 = (c : Int) / 4096 % 8 := i64_mask 3 (by decide) _ (by omega) (by omega)
    have hwM : IntKind.i64.wrap 4095 = 4095 := by decide
    have hwx : IntKind.i64.wrap ((c : Int) / 4096 % 8 + 3) = (c : Int) / 4096 % 8 + 3 := by rw [IntKind.wrap_i64]; omega
    have HSH := Lib.hid (shl_dec_12 c hc h)
    have hor : bits .or .i64 ((c : Int) % 4096) 4096 = (c : Int) % 4096 + 4096 := i64_join' 12 _ _ (by omega) (by omega) (by omega) (by omega) (by omega)
    go_enter Try.func83, Try.ntmps83
    go_upto_region 3 with ((with_reducible refine HH.out.mono ?_); rintro e w2 ⟨rfl, hw2⟩; subst w2)
    have hd : Below w.heap.size w w.drew := Below.drew (Below.refl _ _)
    refine wp_region_held_drew (S := fun W' => W' = w.drew) (by kernel_rfl) rfl (fun hHeld => ?_)
    refine takeL 0 (v := ?_) rfl (by kernel_rfl) (by kernel_rfl) (by kernel_rfl) (fun _ _ _ h => h) (Or.inl ⟨by rfl, ?_⟩) (by assumption) ?_
    rotate_left
    focus (intro wq hSq; go_simp <;> with_reducible rfl)
    simp only [Act.put, List.setIfInBounds_toArray, List.set_cons_zero, List.set_cons_succ]
    refine takeL 1 (v := ?_) rfl (by kernel_rfl) (by kernel_rfl) (by kernel_rfl) (fun _ _ _ h => h) (Or.inl ⟨by rfl, ?_⟩) (by assumption) ?_
    rotate_left
    focus (intro wq hSq; go_simp <;> with_reducible rfl)
    simp only [Act.put, List.setIfInBounds_toArray, List.set_cons_zero, List.set_cons_succ]
    refine takeL 5 (v := ?_) rfl (by kernel_rfl) (by kernel_rfl) (by kernel_rfl) (fun _ _ _ h => h) (Or.inl ⟨by rfl, ?_⟩) (by assumption) ?_
    rotate_left
    focus (intro wq hSq; go_simp <;> with_reducible rfl)
    simp only [Act.put, List.setIfInBounds_toArray, List.set_cons_zero, List.set_cons_succ]
    refine takeL 8 (v := ?_) rfl (by kernel_rfl) (by kernel_rfl) (by kernel_rfl) (fun _ _ _ h => h) (Or.inl ⟨by rfl, ?_⟩) (by assumption) ?_
    rotate_left
    focus (intro wq hSq; go_simp <;> with_reducible rfl)
    simp only [Act.put, List.setIfInBounds_toArray, List.set_cons_zero, List.set_cons_succ]
    refine takeL 9 (v := ?_) rfl (by kernel_rfl) (by kernel_rfl) (by kernel_rfl) (fun _ _ _ h => h) (Or.inl ⟨by rfl, ?_⟩) (by assumption) ?_
    rotate_left
    focus (intro wq hSq; go_simp <;> with_reducible rfl)
    simp only [Act.put, List.setIfInBounds_toArray, List.set_cons_zero, List.set_cons_succ]
    refine takeL 10 (v := ?_) rfl (by kernel_rfl) (by kernel_rfl) (by kernel_rfl) (fun _ _ _ h => h) (Or.inl ⟨by rfl, ?_⟩) (by assumption) ?_
    rotate_left
    focus (intro wq hSq; go_simp <;> with_reducible rfl)
    simp only [Act.put, List.setIfInBounds_toArray, List.set_cons_zero, List.set_cons_succ]
    refine takeL 11 (v := ?_) rfl (by kernel_rfl) (by kernel_rfl) (by kernel_rfl) (fun _ _ _ h => h) (Or.inl ⟨by rfl, ?_⟩) (by assumption) ?_
    rotate_left
    focus (intro wq hSq; go_simp <;> with_reducible rfl)
    simp only [Act.put, List.setIfInBounds_toArray, List.set_cons_zero, List.set_cons_succ]
    refine takeL 12 (v := ?_) rfl (by kernel_rfl) (by kernel_rfl) (by kernel_rfl) (fun _ _ _ h => h) (Or.inl ⟨by rfl, ?_⟩) (by assumption) ?_
    rotate_left
    focus (intro wq hSq; go_simp <;> with_reducible rfl)
    simp only [Act.put, List.setIfInBounds_toArray, List.set_cons_zero, List.set_cons_succ]
    refine wpAnyH_ready (rs := [2]) (by kernel_rfl) (by simp) (nextL 2 rfl (fun Kr hKr => ?_) AllReadyH.nil)
    rw [if_pos (by rfl)]
    go_simp
    refine (HS.out _).mono ?_
    rintro e w3 ⟨rfl, hw3⟩
    subst w3
    refine hKr.out _ _ rfl (fun hHeld3 => ?_)
    clear hKr hHeld
    refine takeL 3 (v := ?_) rfl (by kernel_rfl) (by kernel_rfl) (by kernel_rfl) (fun _ _ _ h => h) (Or.inl ⟨by rfl, ?_⟩) (by assumption) ?_
    rotate_left
    focus (intro wq hSq; go_simp <;> with_reducible rfl)
    simp only [Act.put, List.setIfInBounds_toArray, List.set_cons_zero, List.set_cons_succ]
    refine takeL 4 (v := ?_) rfl (by kernel_rfl) (by kernel_rfl) (by kernel_rfl) (fun _ _ _ h => h) (Or.inl ⟨by rfl, ?_⟩) (by assumption) ?_
    rotate_left
    focus (intro wq hSq; go_simp <;> with_reducible rfl)
    simp only [Act.put, List.setIfInBounds_toArray, List.set_cons_zero, List.set_cons_succ]
    refine wpAnyH_ready (rs := [6]) (by kernel_rfl) (by simp) (nextL 6 rfl (fun Kr hKr => ?_) AllReadyH.nil)
    rw [if_pos (by rfl)]
    go_simp
    refine (HS.out _).mono ?_
    rintro e w3 ⟨rfl, hw3⟩
    subst w3
    refine hKr.out _ _ rfl (fun hHeld4 => ?_)
    clear hKr hHeld3
    refine takeL 7 (v := ?_) rfl (by kernel_rfl) (by kernel_rfl) (by kernel_rfl) (fun _ _ _ h => h) (Or.inl ⟨by rfl, ?_⟩) (by assumption) ?_
    rotate_left
    focus (intro wq hSq; go_simp <;> with_reducible rfl)
    simp only [Act.put, List.setIfInBounds_toArray, List.set_cons_zero, List.set_cons_succ]
    refine takeL 13 (v := ?_) rfl (by kernel_rfl) (by kernel_rfl) (by kernel_rfl) (fun _ _ _ h => h) (Or.inl ⟨by rfl, ?_⟩) (by assumption) ?_
    rotate_left
    focus (intro wq hSq; go_simp <;> with_reducible rfl)
    simp only [Act.put, List.setIfInBounds_toArray, List.set_cons_zero, List.set_cons_succ]
    refine takeL 14 (v := ?_) rfl (by kernel_rfl) (by kernel_rfl) (by kernel_rfl) (fun _ _ _ h => h) (Or.inl ⟨by rfl, ?_⟩) (by assumption) ?_
    rotate_left
    focus (intro wq hSq; go_simp <;> with_reducible rfl)
    simp only [Act.put, List.setIfInBounds_toArray, List.set_cons_zero, List.set_cons_succ]
    refine wpAnyH_done (by kernel_rfl) ?_ _
    go_wp2_with fail
    go_ret
    exact ⟨congrArg (fun x => Ending.returned (.int .i64 x)) HSH.out, hd⟩
end Go.Proofs.Ythkogdgfkhhleaa
