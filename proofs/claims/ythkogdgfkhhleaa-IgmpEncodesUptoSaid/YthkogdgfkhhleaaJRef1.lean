/- The document's layer 1: fits, Get, At, Put, Of. -/
import Derived.Test.YthkogdgfkhhleaaJOct
namespace Go.Proofs.Ythkogdgfkhhleaa
open Go.RowKit
set_option maxRecDepth 20000
set_option maxRecDepth 20000
attribute [local go_sem] bstr_size bstr_extract bstr_append bstr_toList bstr_get

theorem rfits_any (s : Str) (i n : Nat) (w : World) (hs : s.length ≤ maxLen) (hi : i ≤ maxLen) :
    Calls Try.prog 73 #[.string (bstr s), .int .i64 i, .int .i64 n] w fun e w' => e = .returned (.bool (decide (i + n ≤ s.length))) ∧ w = w' := by
  have hmm : maxLen = 9223372036854775807 := rfl
  by_cases h : i ≤ s.length
  · have h' : decide ((i : Int) ≤ s.length) = true := decide_eq_true (by omega)
    have HE := Lib.hid (show decide ((n : Int) ≤ s.length - i) = decide (i + n ≤ s.length) from decide_eq_decide.2 (by omega))
    go_enter Try.func73, Try.ntmps73
    go_wp2_with fail
    go_ret
    exact ⟨ret_bool HE.out, rfl⟩
  · have h' : decide ((i : Int) ≤ s.length) = false := decide_eq_false (by omega)
    have HE := Lib.hid (show false = decide (i + n ≤ s.length) from (decide_eq_false (by omega)).symm)
    go_enter Try.func73, Try.ntmps73
    go_wp2_with fail
    go_ret
    exact ⟨ret_bool HE.out, rfl⟩

theorem get_step (a : Nat) (b : UInt8) (ha : a < 256 ^ 3) : wrap64 (wrap64 (256 * (a : Int)) + wrap64 (b.toNat : Int)) = ((a * 256 + b.toNat : Nat) : Int) := by
  have := b.toNat_lt
  unfold wrap64
  omega
theorem numAt_lt3 (s : Str) (i k : Nat) (h : k ≤ 3) : numAt s i k < 256 ^ 3 := Nat.lt_of_lt_of_le (numAt_lt s i k) (Nat.pow_le_pow_right (by decide) h)
def getV (s : Str) (i n : Nat) : Nat := if i + n ≤ s.length then numAt s i n else 0
def getE (s : Str) (i n : Nat) : Int := if i + n ≤ s.length then 0 else 2

set_option maxHeartbeats 1000000 in
theorem rget_any (s : Str) (i n : Nat) (w : World) (hs : s.length ≤ maxLen) (hi : i ≤ maxLen) (h1 : 1 ≤ n) (h4 : n ≤ 4) :
    Calls Try.prog 56 #[.string (bstr s), .int .i64 i, .int .i64 n] w fun e w' => e = .returned (.tuple #[.int .i64 (getV s i n), .int .i64 (getE s i n)]) ∧ w = w' := by
  have hmm : maxLen = 9223372036854775807 := rfl
  have HS := Lib.hid (rfits_any s i n w hs hi)
  have d1 : decide ((n : Int) < 1) = false := decide_eq_false (by omega)
  have d2 : decide ((4 : Int) < n) = false := decide_eq_false (by omega)
  unfold getV getE
  by_cases h : i + n ≤ s.length
  · rw [decide_eq_true h] at HS
    rw [if_pos h, if_pos h]
    go_enter Try.func56, Try.ntmps56
    go_wp2_with (first | ((with_reducible refine HS.out.mono ?_); rintro e w2 ⟨rfl, hw2⟩; subst w2))
    go_loop [8, 9] (fun a j => ∃ k : Nat, k ≤ n ∧ j = .int .i64 k ∧ a = .int .i64 (numAt s i k)) (fun _ j => n - (intOf j).toNat)
    case atStart => exact ⟨0, Nat.zero_le _, rfl, rfl⟩
    case round =>
      obtain ⟨k, hk, rfl, rfl⟩ := hrel
      by_cases hlt : k < n
      · have HK := Lib.hid (numAt_succ s i k (by omega))
        have hlt2 : (i : Int) + k < s.length := by omega
        have hlt3 : i + k < s.length := by omega
        have HA := Lib.hid (numAt_lt3 s i k (by omega))
        go_wp2_with fail
        refine ⟨⟨k + 1, by omega, by go_num, ?_⟩, by simp [intOf]; omega⟩
        rw [HK.out]
        refine congrArg (Value.int .i64) ?_
        rw [List.getD_eq_getElem?_getD, List.getElem?_eq_getElem hlt3]
        exact get_step _ _ HA.out
      · obtain rfl : k = n := by omega
        go_wp2_with fail
        go_ret2
        exact ⟨rfl, rfl⟩
  · rw [decide_eq_false h] at HS
    rw [if_neg h, if_neg h]
    clear h hs hi
    go_enter Try.func56, Try.ntmps56
    go_wp2_with (first | ((with_reducible refine HS.out.mono ?_); rintro e w2 ⟨rfl, hw2⟩; subst w2))
    go_ret2
    exact ⟨rfl, rfl⟩

theorem rat_any1 (s : Str) (i n : Nat) (w : World) (hs : s.length ≤ maxLen) (hi : i ≤ maxLen) (h1 : 1 ≤ n) (h4 : n ≤ 4) :
    Calls Try.prog 30 #[.string (bstr s), .int .i64 i, .int .i64 n] w fun e w' => e = .returned (.int .i64 (getV s i n)) ∧ w = w' := by
  have HC := Lib.hid (rget_any s i n w hs hi h1 h4)
  go_enter Try.func30, Try.ntmps30
  go_wp2_with ((with_reducible refine HC.out.mono ?_); rintro e w2 ⟨rfl, hw2⟩; subst w2)
  go_ret
  exact ⟨rfl, rfl⟩

/-- a row of n bytes of which those from k on are told by f -/
def rowD (f : Nat → Int) (k n : Nat) : Array Value := ((List.range n).map fun j => Value.int .u8 (if k ≤ j then f j else 0)).toArray
theorem rowD_at (f : Nat → Int) (k n j : Nat) (h : j < n) : (rowD f k n)[j]? = some (.int .u8 (if k ≤ j then f j else 0)) := by simp [rowD, h]
theorem rowD_set (f : Nat → Int) (k n : Nat) (_hk : k < n) : (rowD f (k + 1) n).setIfInBounds k (.int .u8 (f k)) = rowD f k n := by
  apply Array.ext
  · simp [rowD]
  · intro j h1 h2
    simp [rowD]
    by_cases h : k = j
    · subst h; simp
    · simp [h]
      by_cases h3 : k ≤ j
      · simp [h3, show k + 1 ≤ j by omega]
      · simp [h3, show ¬ k + 1 ≤ j by omega]
theorem made_rowD (f : Nat → Int) (n : Nat) : madeCells #[Value.int .u8 0] n = rowD f n n := by
  apply Array.ext
  · simp [madeCells, rowD]
  · intro j h1 h2
    have : ¬ n ≤ j := by simp [madeCells] at h1; omega
    simp [madeCells, rowD, Nat.mod_one, this]

theorem wrap_div (M : Nat) (h : M < 256 ^ 4) : wrap64 ((M : Int) / 256) = ((M / 256 : Nat) : Int) := by unfold wrap64; omega
theorem div_step (m k : Nat) : m / 256 ^ k / 256 = m / 256 ^ (k + 1) := by rw [Nat.div_div_eq_div_mul, Nat.pow_succ]
set_option maxHeartbeats 1000000 in
theorem rput_any (m width : Nat) (w : World) (h1 : 1 ≤ width) (h4 : width ≤ 4) (hm : m < 256 ^ width) :
    Calls Try.prog 67 #[.int .i64 m, .int .i64 width] w fun e w' => e = .returned (.tuple #[.string (bstr (ofN m width)), .int .i64 0]) ∧ Below w.heap.size w w' := by
  have d1 : decide ((width : Int) < 1) = false := decide_eq_false (by omega)
  have d2 : decide ((4 : Int) < width) = false := decide_eq_false (by omega)
  obtain ⟨i0, hi, hz0, hz1, hz2⟩ := info_parts infoByte8
  have hmk := fun w => run_make (P := Try.prog) w 44 5 i0 _ Try.underlying44 hi hz0 .i64 .i64 (width : Int) width (by omega) (by omega) (by rw [hz2]; omega) (by omega)
  simp only [hz1, Nat.mul_one, Int.toNat_natCast] at hmk
  have HM := Lib.hid hm
  have h44 : 256 ^ width ≤ 256 ^ 4 := Nat.pow_le_pow_right (by decide) h4
  have HM4 := Lib.hid (show ∀ k, m / 256 ^ k < 256 ^ 4 from fun k => Nat.lt_of_le_of_lt (Nat.div_le_self _ _) (by omega))
  clear hm h44
  go_enter Try.func67, Try.ntmps67
  go_wp2_with fail
  rw [made_rowD (byteF m width) width]
  go_loopw [0, 7] (fun a j wr => ∃ k, k ≤ width ∧ j = .int .i64 ((k : Int) - 1) ∧ a = .int .i64 (m / 256 ^ (width - k) : Nat) ∧ CBox wr w.heap.size 5 (rowD (byteF m width) k width) ∧ Below w.heap.size w wr) (fun _ j _ => (intOf j + 1).toNat)
  case atStart => exact ⟨width, Nat.le_refl _, by go_num, by simp, CBox.new _ rfl, (Below.refl _ _).alloc (Nat.le_refl _) _⟩
  case round =>
    obtain ⟨k, hk, rfl, rfl, hr, hb⟩ := hrel
    have HR := Lib.hid hr; have HB := Lib.hid hb
    by_cases hlt : 0 < k
    · obtain ⟨k, rfl⟩ : ∃ j, k = j + 1 := ⟨k - 1, by omega⟩
      obtain ⟨r0, rf⟩ := hr.at_ k _ (rowD_at _ _ _ _ (by omega))
      clear hr hb
      have HD := Lib.hid (div_step m (width - (k + 1)))
      obtain ⟨M, hM⟩ : ∃ M, M = m / 256 ^ (width - (k + 1)) := ⟨_, rfl⟩
      rw [← hM] at HD
      have HMB := Lib.hid (show M < 256 ^ 4 by rw [hM]; exact HM4.out _)
      have HF := Lib.hid (show ((M : Int) % 256) = byteF m width k by rw [hM]; unfold byteF; rw [show width - 1 - k = width - (k + 1) from by omega]; simp)
      have HW := Lib.hid (show width - k = width - (k + 1) + 1 from by omega)
      rw [← hM]
      clear hM
      go_wp2_with fail
      refine ⟨⟨k, by omega, rfl, ?_, by have h9 := HR.out.set k (.int .u8 (byteF m width k)); rw [rowD_set (byteF m width) k width (by omega)] at h9; rw [HF.out]; exact h9, HB.out.setCell (by simp) _⟩, by simp [intOf] <;> omega⟩
      refine congrArg (Value.int .i64) ?_
      rw [HW.out, ← HD.out]
      exact wrap_div _ HMB.out
    · obtain rfl : k = 0 := by omega
      have h0 : (m : Int) / 256 ^ width = 0 := by
        have h := HM.out
        rw [show (256 : Int) ^ width = ((256 ^ width : Nat) : Int) by simp, show (m : Int) / ((256 ^ width : Nat) : Int) = ((m / 256 ^ width : Nat) : Int) from rfl, Nat.div_eq_of_lt h]; rfl
      have hst : (convert 44 9 (.slice (some ⟨w.heap.size, 0, none⟩) width width)).run Try.prog wr = .ok (.string (bstr (ofN m width))) wr := by
        have h := run_string_b (P := Try.prog) wr 44 9 5 w.heap.size width (ofN m width) Try.underlying44 Try.underlying5 Try.underlying9 (fun j hj => ⟨hr.lt, by
          rw [ofN_length] at hj
          rw [(hr.at_ j _ (rowD_at _ _ _ _ hj)).1, if_pos (Nat.zero_le _), ofN_getD _ _ _ hj, UInt8.toNat_ofNat', byteF]⟩)
        rw [ofN_length] at h
        exact h
      clear hr hb
      go_wp2_with fail
      go_ret2
      exact ⟨rfl, HB.out⟩

theorem of_any (m width : Nat) (w : World) (h1 : 1 ≤ width) (h4 : width ≤ 4) (hm : m < 256 ^ width) :
    Calls Try.prog 47 #[.int .i64 m, .int .i64 width] w fun e w' => e = .returned (.string (bstr (ofN m width))) ∧ Below w.heap.size w w' := by
  have HC := Lib.hid (rput_any m width w h1 h4 hm)
  clear hm h1 h4
  go_enter Try.func47, Try.ntmps47
  go_wp2_with ((with_reducible refine HC.out.mono ?_); rintro e w2 ⟨rfl, hb2⟩; have HB2 := Lib.hid hb2; clear hb2)
  go_ret
  exact ⟨rfl, HB2.out⟩
end Go.Proofs.Ythkogdgfkhhleaa
