/- Plain words of layer 7: codes. -/
import Derived.Test.YthkogdgfkhhleaaJPlain
namespace Go.Proofs.Ythkogdgfkhhleaa

theorem pdecode_succ (f : Nat) (hf : f = 4 ∨ f = 12) (c : Nat) (hc : c + 1 < 16 * 2 ^ f) : pdecode c f < pdecode (c + 1) f := by
  have key : ∀ p, (p = 16 ∨ p = 4096) → c + 1 < 16 * p → (if c < 8 * p then c else (c % p + p) * 2 ^ (c / p % 8 + 3)) < (if c + 1 < 8 * p then c + 1 else ((c + 1) % p + p) * 2 ^ ((c + 1) / p % 8 + 3)) := by
    intro p hp hc
    by_cases h1 : c + 1 < 8 * p
    · rw [if_pos h1, if_pos (by omega)]; omega
    · rw [if_neg h1]
      by_cases h2 : c < 8 * p
      · rw [if_pos h2]
        have : c + 1 = 8 * p := by omega
        rw [this]
        rcases hp with rfl | rfl <;> simp <;> omega
      · rw [if_neg h2]
        obtain ⟨x, hx⟩ : ∃ x, c / p % 8 = x := ⟨_, rfl⟩
        obtain ⟨y, hy⟩ : ∃ y, (c + 1) / p % 8 = y := ⟨_, rfl⟩
        rw [hx, hy]
        have hxy : (y = x ∧ (c + 1) % p = c % p + 1) ∨ (y = x + 1 ∧ (c + 1) % p = 0 ∧ c % p + 1 = p) := by
          rcases hp with rfl | rfl <;> omega
        have hpos : 0 < 2 ^ (x + 3) := Nat.pow_pos (by decide)
        rcases hxy with ⟨rfl, h3⟩ | ⟨rfl, h3, h4⟩
        · rw [h3]; exact Nat.mul_lt_mul_of_pos_right (by omega) hpos
        · have e : 2 ^ (x + 1 + 3) = 2 ^ (x + 3) * 2 := by rw [show x + 1 + 3 = (x + 3) + 1 from by omega, Nat.pow_succ]
          rw [h3, e, Nat.zero_add]
          have e2 : c % p + p = 2 * p - 1 := by omega
          rw [e2]
          generalize 2 ^ (x + 3) = d at *
          rcases hp with rfl | rfl <;> omega
  unfold pdecode
  rcases hf with rfl | rfl
  · exact key 16 (.inl rfl) (by simpa using hc)
  · exact key 4096 (.inr rfl) (by simpa using hc)
theorem pdecode_lt (f : Nat) (hf : f = 4 ∨ f = 12) (c : Nat) : ∀ k, c + k + 1 < 16 * 2 ^ f → pdecode c f < pdecode (c + k + 1) f
  | 0, h => pdecode_succ f hf c h
  | k + 1, h => Nat.lt_trans (pdecode_lt f hf c k (by omega)) (pdecode_succ f hf (c + k + 1) h)

theorem div_bounds (n d : Nat) (hd : 0 < d) : n / d * d ≤ n ∧ n < n / d * d + d := by
  have h := Nat.div_add_mod n d
  have := Nat.mod_lt n hd
  rw [Nat.mul_comm] at h
  omega

theorem pencode_spec (f : Nat) (hf : f = 4 ∨ f = 12) (n : Nat) : pencode n f < 16 * 2 ^ f ∧ pdecode (pencode n f) f ≤ n ∧ (pencode n f + 1 < 16 * 2 ^ f → n < pdecode (pencode n f + 1) f) := by
  by_cases h1 : n < 8 * 2 ^ f
  · have he : pencode n f = n := by unfold pencode; rw [if_pos h1]
    have hd : pdecode n f = n := by unfold pdecode; rw [if_pos h1]
    rw [he, hd]
    refine ⟨by omega, Nat.le_refl _, fun h => ?_⟩
    have := pdecode_succ f hf n h
    omega
  · have hn0 : n ≠ 0 := by
      have : 0 < 2 ^ f := Nat.pow_pos (by decide)
      omega
    have hl := Nat.log2_self_le hn0
    have hu := Nat.lt_log2_self (n := n)
    have hlog : f + 3 ≤ Nat.log2 n := by
      refine (Nat.le_log2 hn0).2 ?_
      rw [Nat.pow_add]; omega
    obtain ⟨x, hx⟩ : ∃ x, Nat.log2 n = f + x + 3 := ⟨Nat.log2 n - f - 3, by omega⟩
    rw [hx] at hl hu
    have e1 : 2 ^ (f + x + 3) = 2 ^ f * 2 ^ (x + 3) := by rw [← Nat.pow_add, Nat.add_assoc]
    have e2 : 2 ^ (f + x + 3 + 1) = 2 ^ f * 2 ^ (x + 3) * 2 := by rw [Nat.pow_succ, e1]
    rw [e1] at hl
    rw [e2] at hu
    unfold pencode
    rw [if_neg h1, hx]
    have e3 : f + x + 3 - f - 3 = x := by omega
    have e4 : f + x + 3 - f = x + 3 := by omega
    rw [e3, e4]
    by_cases h7 : x > 7
    · rw [if_pos h7]
      have hp : 2 ^ 11 ≤ 2 ^ (x + 3) := Nat.pow_le_pow_right (by decide) (by omega)
      have hmul : 2 ^ f * 2 ^ 11 ≤ n := Nat.le_trans (Nat.mul_le_mul_left _ hp) hl
      refine ⟨by have : 0 < 2 ^ f := Nat.pow_pos (by decide); omega, ?_, fun h => by omega⟩
      unfold pdecode
      rcases hf with rfl | rfl <;> simp at hmul ⊢ <;> omega
    · rw [if_neg h7]
      have hd : 0 < 2 ^ (x + 3) := Nat.pow_pos (by decide)
      have hb := div_bounds n _ hd
      have hq1 : 2 ^ f ≤ n / 2 ^ (x + 3) := (Nat.le_div_iff_mul_le hd).2 hl
      have hq2 : n / 2 ^ (x + 3) < 2 ^ f * 2 := by
        refine (Nat.div_lt_iff_lt_mul hd).2 ?_
        rw [Nat.mul_right_comm]; exact hu
      obtain ⟨q, hq⟩ : ∃ q, n / 2 ^ (x + 3) = q := ⟨_, rfl⟩
      rw [hq] at hb hq1 hq2 ⊢
      have hc : 8 * 2 ^ f + x * 2 ^ f + q % 2 ^ f < 16 * 2 ^ f ∧ pdecode (8 * 2 ^ f + x * 2 ^ f + q % 2 ^ f) f = q * 2 ^ (x + 3) ∧ (8 * 2 ^ f + x * 2 ^ f + q % 2 ^ f + 1 < 16 * 2 ^ f → pdecode (8 * 2 ^ f + x * 2 ^ f + q % 2 ^ f + 1) f = (q + 1) * 2 ^ (x + 3)) := by
        have key : ∀ p, (p = 16 ∨ p = 4096) → p ≤ q → q < p * 2 → 8 * p + x * p + q % p < 16 * p ∧ ((8 * p + x * p + q % p) % p + p = q ∧ (8 * p + x * p + q % p) / p % 8 = x) ∧ (8 * p + x * p + q % p + 1 < 16 * p → ((8 * p + x * p + q % p + 1) % p + p = q + 1 ∧ (8 * p + x * p + q % p + 1) / p % 8 = x) ∨ (q + 1 = 2 * p ∧ (8 * p + x * p + q % p + 1) % p = 0 ∧ (8 * p + x * p + q % p + 1) / p % 8 = x + 1)) := by
          intro p hp h1 h2
          rcases hp with rfl | rfl <;> omega
        have k := key (2 ^ f) (by rcases hf with rfl | rfl <;> simp) hq1 hq2
        have hge : ∀ z, ¬ (8 * 2 ^ f + x * 2 ^ f + z < 8 * 2 ^ f) := fun z => by omega
        refine ⟨k.1, ?_, fun h => ?_⟩
        · unfold pdecode
          rw [if_neg (hge _), k.2.1.1, k.2.1.2]
        · unfold pdecode
          rw [if_neg (by have := hge (q % 2 ^ f + 1); omega)]
          rcases k.2.2 h with ⟨h1, h2⟩ | ⟨h1, h2, h3⟩
          · rw [h1, h2]
          · rw [h2, h3, h1, show x + 1 + 3 = x + 3 + 1 from by omega, Nat.pow_succ, Nat.zero_add]
            generalize 2 ^ (x + 3) = d
            generalize 2 ^ f = p
            rw [Nat.mul_comm 2 p, Nat.mul_assoc, Nat.mul_comm 2 d]
      refine ⟨hc.1, by rw [hc.2.1]; exact hb.1, fun h => ?_⟩
      rw [hc.2.2 h, Nat.add_mul, Nat.one_mul]
      exact hb.2
theorem pencode_max (f : Nat) (hf : f = 4 ∨ f = 12) (n c : Nat) (h : pencode n f < c) (hc : c < 16 * 2 ^ f) : n < pdecode c f := by
  have hs := pencode_spec f hf n
  have h1 := hs.2.2 (by omega)
  by_cases e : c = pencode n f + 1
  · rw [e]; exact h1
  · have := pdecode_lt f hf (pencode n f + 1) (c - pencode n f - 2) (by omega)
    rw [show pencode n f + 1 + (c - pencode n f - 2) + 1 = c from by omega] at this
    omega
/-- the greatest code that is not more than a number is just one -/
theorem pencode_unique (f : Nat) (hf : f = 4 ∨ f = 12) (n c : Nat) (hc : c < 16 * 2 ^ f) (h1 : pdecode c f ≤ n) (h2 : ∀ d, c < d → d < 16 * 2 ^ f → n < pdecode d f) : pencode n f = c := by
  rcases Nat.lt_trichotomy (pencode n f) c with h | h | h
  · have := pencode_max f hf n c h hc; omega
  · exact h
  · have := h2 _ h (pencode_spec f hf n).1
    have := (pencode_spec f hf n).2.1
    omega
end Go.Proofs.Ythkogdgfkhhleaa
