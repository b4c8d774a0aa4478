/- Sums: siphonref02.Plus, Total, Sum; csum.plus, words, Sum, Right. -/
import Derived.Test.YthkogdgfkhhleaaJRef1
namespace Go.Proofs.Ythkogdgfkhhleaa
open Go.RowKit
set_option maxRecDepth 20000
set_option maxRecDepth 20000
attribute [local go_sem] bstr_size bstr_extract bstr_append bstr_toList bstr_get

theorem pplus_le {a b : Nat} (ha : a ≤ 65535) (hb : b ≤ 65535) : pplus a b ≤ 65535 := (pplus_spec ha hb).1
theorem rplus_any (a b : Nat) (w : World) (ha : a ≤ 65535) (hb : b ≤ 65535) :
    Calls Try.prog 71 #[.int .i64 a, .int .i64 b] w fun e w' => e = .returned (.int .i64 (pplus a b : Nat)) ∧ w = w' := by
  have h1 : wrap64 ((a : Int) + b) = a + b := by unfold wrap64; omega
  by_cases h : a + b ≥ 65536
  · have d : decide ((65536 : Int) ≤ (a : Int) + b) = true := decide_eq_true (by omega)
    have HP := Lib.hid (show ((pplus a b : Nat) : Int) = a + b - 65535 by unfold pplus; rw [if_pos h]; omega)
    clear h
    go_enter Try.func71, Try.ntmps71
    go_wp2_with fail
    go_ret
    exact ⟨congrArg (fun x => Ending.returned (.int .i64 x)) HP.out.symm, rfl⟩
  · have d : decide ((65536 : Int) ≤ (a : Int) + b) = false := decide_eq_false (by omega)
    have HP := Lib.hid (show ((pplus a b : Nat) : Int) = a + b by unfold pplus; rw [if_neg h]; omega)
    clear h
    go_enter Try.func71, Try.ntmps71
    go_wp2_with fail
    go_ret
    exact ⟨congrArg (fun x => Ending.returned (.int .i64 x)) HP.out.symm, rfl⟩
theorem wraps_i64 (n : Int) (h₀ : 0 ≤ n) (h₁ : n < 2 ^ 63) : IntKind.i64.wrap n = n := by rw [IntKind.wrap_i64]; omega
theorem i64_mask (i : Nat) (hi : i ≤ 63) (x : Int) (h₀ : 0 ≤ x) (h₁ : x < 2 ^ 63) : bits .and .i64 x (2 ^ i - 1) = x % 2 ^ i := bits_mask .i64 63 (by decide) wraps_i64 i hi x h₀ h₁
theorem i64_join (i : Nat) (x y : Int) (hx₀ : 0 ≤ x) (hx : x % 2 ^ i = 0) (hx₁ : x < 2 ^ 63) (hy₀ : 0 ≤ y) (hy : y < 2 ^ i) (hy₁ : y < 2 ^ 63) : bits .or .i64 x y = x + y := bits_join .i64 63 (by decide) wraps_i64 i x y hx₀ hx hx₁ hy₀ hy hy₁
theorem plus_bits (a b : Nat) (ha : a ≤ 65535) (hb : b ≤ 65535) : wrap64 (bits .and .i64 ((a : Int) + b) 65535 + ((a : Int) + b) / 65536) = ((pplus a b : Nat) : Int) := by
  rw [show (65535 : Int) = 2 ^ 16 - 1 from rfl, i64_mask 16 (by decide) _ (by omega) (by omega)]
  unfold pplus wrap64
  split <;> omega
theorem plus_any (a b : Nat) (w : World) (ha : a ≤ 65535) (hb : b ≤ 65535) :
    Calls Try.prog 69 #[.int .i64 a, .int .i64 b] w fun e w' => e = .returned (.int .i64 (pplus a b : Nat)) ∧ w = w' := by
  have h1 : wrap64 ((a : Int) + b) = a + b := by unfold wrap64; omega
  go_enter Try.func69, Try.ntmps69
  go_wp2_with fail
  go_ret
  refine ⟨congrArg (fun x => Ending.returned (.int .i64 x)) ?_, rfl⟩
  exact plus_bits a b ha hb

/-- the words of a text -/
def wordAt (s : Str) (i : Nat) : Nat := 256 * (s.getD i 0).toNat + (s.getD (i + 1) 0).toNat
def wordsL (s : Str) : List Nat := (List.range ((s.length + 1) / 2)).map fun k => wordAt s (2 * k)
theorem wordsL_length (s : Str) : (wordsL s).length = (s.length + 1) / 2 := by simp [wordsL]
theorem wordAt_le (s : Str) (i : Nat) : wordAt s i ≤ 65535 := by
  have h1 := (s.getD i 0).toNat_lt
  have h2 := (s.getD (i + 1) 0).toNat_lt
  unfold wordAt; omega
theorem wordsL_at (s : Str) (k : Nat) (h : k < (wordsL s).length) : (wordsL s)[k] = wordAt s (2 * k) := by simp [wordsL]
theorem wordsL_cons (a b : UInt8) (r : Str) : wordsL (a :: b :: r) = (256 * a.toNat + b.toNat) :: wordsL r := by
  unfold wordsL
  rw [show (a :: b :: r).length = r.length + 2 from rfl, show (r.length + 2 + 1) / 2 = (r.length + 1) / 2 + 1 from by omega, List.range_succ_eq_map, List.map_cons, List.map_map]
  refine congr (congrArg _ (by simp [wordAt])) (List.map_congr_left fun k _ => ?_)
  simp [wordAt, Nat.mul_add]
theorem totG_fold : ∀ (s : Str) (n : Nat), totG n s = (wordsL s).foldl pplus n
  | [], n => by simp [totG, wordsL]
  | [a], n => by simp [totG, wordsL, wordAt]
  | a :: b :: r, n => by
    rw [wordsL_cons, List.foldl_cons, ← totG_fold r]
    rfl
/-- the sum of the first k words -/
def totK (s : Str) (k : Nat) : Nat := ((wordsL s).take k).foldl pplus 0
theorem totK_succ (s : Str) (k : Nat) (h : k < (wordsL s).length) : totK s (k + 1) = pplus (totK s k) (wordAt s (2 * k)) := by
  unfold totK
  rw [List.take_succ_eq_append_getElem h, List.foldl_append, wordsL_at]
  rfl
theorem totK_le (s : Str) : ∀ k, totK s k ≤ 65535
  | 0 => by simp [totK]
  | k + 1 => by
    by_cases h : k < (wordsL s).length
    · rw [totK_succ s k h]; exact pplus_le (totK_le s k) (wordAt_le s _)
    · have := totK_le s k
      unfold totK at *
      rw [List.take_of_length_le (by omega)] at *
      exact this
theorem totK_all (s : Str) (k : Nat) (h : (wordsL s).length ≤ k) : totK s k = tot s := by
  unfold totK tot
  rw [List.take_of_length_le h, totG_fold]

theorem wrap_two (i : Nat) (h : i < 140737488355328) : wrap64 ((i : Int) + 1) = i + 1 ∧ wrap64 ((i : Int) + 2) = i + 2 := by unfold wrap64; omega
theorem total_meas (n i : Nat) (z : Int) (h : i < n) (hz : z = i + 2) : n + 2 - (intOf (.int .i64 z)).toNat < n + 2 - (intOf (.int .i64 (i : Int))).toNat := by subst hz; simp [intOf]; omega
set_option maxHeartbeats 1000000 in
theorem rtotal_any (s : Str) (w : World) (hs : s.length ≤ 140737488355328) :
    Calls Try.prog 54 #[.string (bstr s)] w fun e w' => e = .returned (.int .i64 (tot s)) ∧ w = w' := by
  have hL := wordsL_length s
  go_enter Try.func54, Try.ntmps54
  go_wp2_with fail
  go_loop [3, 4, 5] (fun a j _ => ∃ k : Nat, k ≤ (wordsL s).length ∧ j = .int .i64 ((2 * k : Nat) : Int) ∧ a = .int .i64 (totK s k)) (fun _ j _ => s.length + 2 - (intOf j).toNat)
  case atStart => exact ⟨0, Nat.zero_le _, rfl, rfl⟩
  case round =>
    obtain ⟨k, hk, rfl, rfl⟩ := hrel
    by_cases hlt : k < (wordsL s).length
    · have HK := Lib.hid (totK_succ s k hlt)
      have HP := Lib.hid (rplus_any (totK s k) (wordAt s (2 * k)) w (totK_le s k) (wordAt_le s _))
      obtain ⟨i, hi⟩ : ∃ i, i = 2 * k := ⟨_, rfl⟩
      have hi0 : i < s.length := by omega
      rw [← hi] at HP HK ⊢
      have HI := Lib.hid hi
      obtain ⟨A, hA⟩ : ∃ A, A = totK s k := ⟨_, rfl⟩
      rw [← hA] at HP HK ⊢
      have HS47 := Lib.hid (wrap_two i (by omega))
      have HLT := Lib.hid (show k + 1 ≤ (wordsL s).length from hlt)
      clear hi hA hk hlt hL hs
      have hw1 := (HS47.out).1
      have HE := Lib.hid (And.intro (show (Value.int .i64 (wrap64 ((i : Int) + 2))) = .int .i64 ((2 * (k + 1) : Nat) : Int) from by rw [HS47.out.2, HI.out]; go_num) (total_meas s.length i (wrap64 ((i : Int) + 2)) hi0 HS47.out.2))
      have hx : wrap64 ((s[i]'hi0).toNat : Int) = (s[i]'hi0).toNat := by have := (s[i]'hi0).toNat_lt; unfold wrap64; omega
      have hx2 : wrap64 (256 * ((s[i]'hi0).toNat : Int)) = 256 * (s[i]'hi0).toNat := by have := (s[i]'hi0).toNat_lt; unfold wrap64; omega
      by_cases h1 : i + 1 < s.length
      · have HWA : ((wordAt s i : Nat) : Int) = 256 * ((s[i]'hi0).toNat : Int) + ((s[i + 1]'h1).toNat : Int) := by
          unfold wordAt
          rw [List.getD_eq_getElem?_getD, List.getElem?_eq_getElem hi0, List.getD_eq_getElem?_getD, List.getElem?_eq_getElem h1]; simp
        have h1' : (i : Int) + 1 < s.length := by omega
        have hy : wrap64 ((s[i + 1]'h1).toNat : Int) = (s[i + 1]'h1).toNat := by have := (s[i + 1]'h1).toNat_lt; unfold wrap64; omega
        have hxy : wrap64 (256 * ((s[i]'hi0).toNat : Int) + (s[i + 1]'h1).toNat) = 256 * (s[i]'hi0).toNat + (s[i + 1]'h1).toNat := by have := (s[i]'hi0).toNat_lt; have := (s[i + 1]'h1).toNat_lt; unfold wrap64; omega
        rw [HWA] at HP
        clear HWA
        go_wp2_with (first | ((with_reducible refine HP.out.mono ?_); rintro e w2 ⟨rfl, hw2⟩; subst w2))
        exact ⟨⟨k + 1, HLT.out, HE.out.1, by rw [HK.out]⟩, HE.out.2⟩
      · have HWA : ((wordAt s i : Nat) : Int) = 256 * ((s[i]'hi0).toNat : Int) := by
          unfold wordAt
          rw [List.getD_eq_getElem?_getD, List.getElem?_eq_getElem hi0, List.getD_eq_getElem?_getD, List.getElem?_eq_none (by omega)]; simp
        have h1' : ¬ ((i : Int) + 1 < s.length) := by omega
        rw [HWA] at HP
        clear HWA
        go_wp2_with (first | ((with_reducible refine HP.out.mono ?_); rintro e w2 ⟨rfl, hw2⟩; subst w2))
        exact ⟨⟨k + 1, HLT.out, HE.out.1, by rw [HK.out]⟩, HE.out.2⟩
    · have HT := Lib.hid (totK_all s k (by omega))
      have hk2 : ¬ (2 * (k : Int) < s.length) := by omega
      clear hs hL hk hlt
      go_wp2_with fail
      go_ret
      exact ⟨by rw [← HT.out]; rfl, rfl⟩
end Go.Proofs.Ythkogdgfkhhleaa
