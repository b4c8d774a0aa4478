/- octet: number, stands, Get, bytes, Put, Cut. -/
import Derived.Test.YthkogdgfkhhleaaJMem
import Derived.Test.YthkogdgfkhhleaaBoxes
import Derived.LoopN
import Derived.Deep.DeepCutAuto
import Derived.Laws.BitsAllLaws
import Derived.Laws.Bits64
namespace Go.Proofs.Ythkogdgfkhhleaa
open Go.RowKit
set_option maxRecDepth 20000
set_option maxRecDepth 20000
attribute [local go_sem] bstr_size bstr_extract bstr_append bstr_toList

theorem numAt_succ (s : Str) (i k : Nat) (h : i + k < s.length) : numAt s i (k + 1) = numAt s i k * 256 + (s.getD (i + k) 0).toNat := by
  unfold numAt
  rw [List.take_succ_eq_append_getElem (by rw [List.length_drop]; omega), big_snoc]
  simp [List.getD_eq_getElem?_getD, h]
theorem numAt_lt (s : Str) (i k : Nat) : numAt s i k < 256 ^ k := by
  unfold numAt
  refine Nat.lt_of_lt_of_le (big_lt _) (Nat.pow_le_pow_right (by decide) ?_)
  rw [List.length_take]; omega

set_option maxHeartbeats 1000000 in
theorem number_any (s : Str) (i n : Nat) (w : World) (hin : i + n ≤ s.length) (hs : s.length ≤ maxLen) (hn : n ≤ 8) :
    Calls Try.prog 52 #[.string (bstr s), .int .i64 i, .int .i64 n] w fun e w' => e = .returned (.int .u64 (numAt s i n)) ∧ Below w.heap.size w w' := by
  have hmm : maxLen = 9223372036854775807 := rfl
  have hl : ((s.drop i).take n).length = n := by rw [List.length_take, List.length_drop]; omega
  have hin' : (i : Int) + n ≤ s.length := by omega
  obtain ⟨l, hL⟩ : ∃ l, l = (s.drop i).take n := ⟨_, rfl⟩
  obtain ⟨cap, w1, hrun, hb1, hsz, hby, _⟩ := run_bytes_b (P := Try.prog) w 9 44 5 l Try.underlying9 Try.underlying44 Try.underlying5
  rw [hL, hl, ← hL] at hrun
  have HN := Lib.hid (show ∀ k, k < n → numAt s i (k + 1) = numAt s i k * 256 + (l[k]?.getD 0).toNat from fun k hk => by
    rw [numAt_succ s i k (by omega), hL]
    simp [List.getD_eq_getElem?_getD, hk])
  have hby' := fun k (hk : k < n) => (hby k (by rw [hL, hl]; exact hk)).2
  have HB1 := Lib.hid hb1
  rw [hL] at hrun
  clear hby hb1 hsz hL hl
  go_enter Try.func52, Try.ntmps52
  go_wp2_with fail
  go_loop [6, 8, 17] (fun a _ j => ∃ k : Nat, k ≤ n ∧ j = .int .i64 k ∧ a = .int .u64 (numAt s i k)) (fun _ _ j => n - (intOf j).toNat)
  case atStart => exact ⟨0, Nat.zero_le _, rfl, rfl⟩
  case round =>
    obtain ⟨k, hk, rfl, rfl⟩ := hrel
    by_cases hlt : k < n
    · have hc := hby' k hlt
      have HK := Lib.hid (HN.out k hlt)
      have HA := Lib.hid (numAt_lt s i k)
      clear hby' HN
      go_wp2_with fail
      refine ⟨⟨k + 1, by omega, by go_num, ?_⟩, by simp [intOf]; omega⟩
      rw [HK.out, Int.natCast_add, Int.natCast_mul]
      have h2 : 256 ^ k ≤ 256 ^ 7 := Nat.pow_le_pow_right (by decide) (by omega)
      have h1 := HA.out
      have h3 := (l[k]?.getD 0).toNat_lt
      rw [show ((numAt s i k : Nat) : Int) * 256 = ((numAt s i k * 256 : Nat) : Int) by simp, IntKind.wrap_u64, IntKind.wrap_u64, Int.emod_eq_of_lt (by omega) (by omega), Int.emod_eq_of_lt (by omega) (by omega)]
      refine congrArg (Value.int .u64) ?_
      refine (u64_or_nat _ _ (by omega) (by omega)).trans ?_
      rw [nat_join 8 _ _ (by omega) (by omega)]
      simp
    · obtain rfl : k = n := by omega
      clear hby' HN
      go_wp2_with fail
      go_ret
      exact ⟨rfl, HB1.out⟩

theorem stands_any (s : Str) (i n : Nat) (w : World) (hs : s.length ≤ maxLen) (hi : i ≤ maxLen) :
    Calls Try.prog 51 #[.string (bstr s), .int .i64 i, .int .i64 n] w fun e w' => e = .returned (.bool (decide (i + n ≤ s.length))) ∧ w = w' := by
  have hmm : maxLen = 9223372036854775807 := rfl
  by_cases h : i ≤ s.length
  · have h' : decide ((i : Int) ≤ s.length) = true := decide_eq_true (by omega)
    have HE := Lib.hid (show decide ((n : Int) ≤ s.length - i) = decide (i + n ≤ s.length) from decide_eq_decide.2 (by omega))
    go_enter Try.func51, Try.ntmps51
    go_wp2_with fail
    go_ret
    exact ⟨ret_bool HE.out, rfl⟩
  · have h' : decide ((i : Int) ≤ s.length) = false := decide_eq_false (by omega)
    have HE := Lib.hid (show false = decide (i + n ≤ s.length) from (decide_eq_false (by omega)).symm)
    go_enter Try.func51, Try.ntmps51
    go_wp2_with fail
    go_ret
    exact ⟨ret_bool HE.out, rfl⟩

set_option maxRecDepth 100000 in
theorem get_any (s : Str) (i n : Nat) (w : World) (hs : s.length ≤ maxLen) (hi : i ≤ maxLen) (h1 : 1 ≤ n) (h4 : n ≤ 4) :
    Calls Try.prog 26 #[.string (bstr s), .int .i64 i, .int .i64 n] w fun e w' => e = .returned (.tuple #[.int .i64 (if i + n ≤ s.length then numAt s i n else 0 : Nat), .int .i64 (if i + n ≤ s.length then 0 else 2)]) ∧ Below w.heap.size w w' := by
  have hmm : maxLen = 9223372036854775807 := rfl
  have HS := Lib.hid (stands_any s i n w hs hi)
  have d1 : decide ((n : Int) < 1) = false := decide_eq_false (by omega)
  have d2 : decide ((4 : Int) < n) = false := decide_eq_false (by omega)
  by_cases h : i + n ≤ s.length
  · have HC := Lib.hid (number_any s i n w h hs (by omega))
    rw [decide_eq_true h] at HS
    have HW := Lib.hid (show (numAt s i n : Int) < 4294967296 from by have h5 := numAt_lt s i n; have h6 : 256 ^ n ≤ 256 ^ 4 := Nat.pow_le_pow_right (by decide) h4; omega)
    rw [if_pos h, if_pos h]
    obtain ⟨N, hN⟩ : ∃ N, N = numAt s i n := ⟨_, rfl⟩
    rw [← hN] at HC HW ⊢
    have HNW := Lib.hid (show IntKind.i64.wrap (N : Int) = N by rw [IntKind.wrap_i64]; have := HW.out; omega)
    clear hN HW
    clear h hs hi
    go_enter Try.func26, Try.ntmps26
    go_upto_region 5 with (first | ((with_reducible refine HS.out.mono ?_); rintro e w2 ⟨rfl, hw2⟩; subst w2))
    have hNw := HNW.out
    go_wp2_with (first | ((with_reducible refine HC.out.mono ?_); rintro e w2 ⟨rfl, hb2⟩; have HB2 := Lib.hid hb2; clear hb2))
    go_ret2
    exact ⟨rfl, HB2.out⟩
  · rw [decide_eq_false h] at HS
    rw [if_neg h, if_neg h]
    clear h hs hi
    go_enter Try.func26, Try.ntmps26
    go_wp2_with (first | ((with_reducible refine HS.out.mono ?_); rintro e w2 ⟨rfl, hw2⟩; subst w2))
    go_ret2
    exact ⟨rfl, Below.refl _ _⟩

theorem cut_any (s : Str) (i n : Nat) (w : World) (hs : s.length ≤ maxLen) (hi : i ≤ maxLen) :
    Calls Try.prog 65 #[.string (bstr s), .int .i64 i, .int .i64 n] w fun e w' => e = .returned (.tuple #[.string (bstr (if i + n ≤ s.length then (s.drop i).take n else [])), .int .i64 (if i + n ≤ s.length then 0 else 2)]) ∧ w = w' := by
  have hmm : maxLen = 9223372036854775807 := rfl
  have HS := Lib.hid (stands_any s i n w hs hi)
  by_cases h : i + n ≤ s.length
  · rw [decide_eq_true h] at HS
    rw [if_pos h, if_pos h]
    have h' : (i : Int) + n ≤ s.length := by omega
    go_enter Try.func65, Try.ntmps65
    go_wp2_with (first | ((with_reducible refine HS.out.mono ?_); rintro e w2 ⟨rfl, hw2⟩; subst w2))
    go_ret2
    exact ⟨by show Ending.returned (.tuple #[.string (bstr (List.take (i + n - i) (List.drop i s))), .int .i64 0]) = _; rw [Nat.add_sub_cancel_left], rfl⟩
  · rw [decide_eq_false h] at HS
    rw [if_neg h, if_neg h]
    clear h hs hi
    go_enter Try.func65, Try.ntmps65
    go_wp2_with (first | ((with_reducible refine HS.out.mono ?_); rintro e w2 ⟨rfl, hw2⟩; subst w2))
    go_ret2
    exact ⟨by rw [bstr_nil]; rfl, rfl⟩

/-- a row of n bytes of which the first k are told by f -/
def rowK (f : Nat → Int) (k n : Nat) : Array Value := ((List.range n).map fun j => Value.int .u8 (if j < k then f j else 0)).toArray
theorem rowK_size (f : Nat → Int) (k n : Nat) : (rowK f k n).size = n := by simp [rowK]
theorem rowK_at (f : Nat → Int) (k n j : Nat) (h : j < n) : (rowK f k n)[j]? = some (.int .u8 (if j < k then f j else 0)) := by simp [rowK, h]
theorem rowK_set (f : Nat → Int) (k n : Nat) (_hk : k < n) : (rowK f k n).setIfInBounds k (.int .u8 (f k)) = rowK f (k + 1) n := by
  apply Array.ext
  · simp [rowK]
  · intro j h1 h2
    simp [rowK]
    by_cases h : k = j
    · subst h; simp
    · simp [h]
      by_cases h3 : j < k
      · simp [h3, show j < k + 1 by omega]
      · simp [h3, show ¬ j < k + 1 by omega]
theorem made_rowK (f : Nat → Int) (n : Nat) : madeCells #[Value.int .u8 0] n = rowK f 0 n := by
  apply Array.ext
  · simp [madeCells, rowK]
  · intro j h1 h2
    simp [madeCells, rowK, Nat.mod_one]
theorem ofN_getD (k : Nat) : ∀ (n j : Nat), j < k → (ofN n k).getD j 0 = UInt8.ofNat (n / 256 ^ (k - 1 - j)) := by
  induction k with
  | zero => intro n j h; omega
  | succ k ih =>
    intro n j h
    unfold ofN
    by_cases e : j = k
    · subst e
      have : (ofN (n / 256) j).length = j := ofN_length _ _
      simp [List.getD_eq_getElem?_getD, this]
    · have hl : j < (ofN (n / 256) k).length := by rw [ofN_length]; omega
      have hi := ih (n / 256) j (by omega)
      rw [List.getD_eq_getElem?_getD] at hi ⊢
      rw [List.getElem?_append_left hl, hi, Nat.div_div_eq_div_mul, show k + 1 - 1 - j = (k - 1 - j) + 1 from by omega, Nat.pow_succ, Nat.mul_comm 256]

theorem infoByte8 : (Try.prog.info? 5).map (fun i => (i.zero, i.size, i.bytes)) = some (some (.int .u8 0), 1, 1) := by kernel_rfl

def byteF (n width j : Nat) : Int := ((n / 256 ^ (width - 1 - j) % 256 : Nat) : Int)
theorem byteOf_any (n width j b c : Nat) (w : World) (_hn : n < 18446744073709551616) (hw : width ≤ 8) (hj : j < width) (h1 : CBox w b 79 #[.int .u64 n]) (h2 : CBox w c 3 #[.int .i64 width]) :
    Calls Try.prog 81 #[.int .i64 j, .pointer (some ⟨b, 0, none⟩), .pointer (some ⟨c, 0, none⟩)] w fun e w' => e = .returned (.int .u8 (byteF n width j)) ∧ w = w' := by
  obtain ⟨x0, _⟩ := h1.at_ 0 _ rfl
  obtain ⟨y0, _⟩ := h2.at_ 0 _ rfl
  clear h1 h2
  go_enter Try.func81, Try.ntmps81
  go_wp2_with fail
  go_ret
  refine ⟨?_, rfl⟩
  show Ending.returned (.int .u8 ((n : Int) / 2 ^ (8 * (width - 1 - j)) % 256)) = _
  have : (2 : Int) ^ (8 * (width - 1 - j)) = ((256 ^ (width - 1 - j) : Nat) : Int) := by rw [Int.pow_mul]; simp
  rw [this]
  rfl

set_option maxHeartbeats 1000000 in
theorem bytes_any (n width : Nat) (w : World) (hn : n < 18446744073709551616) (hw : width ≤ 8) :
    Calls Try.prog 76 #[.int .u64 n, .int .i64 width] w fun e w' => e = .returned (.string (bstr (ofN n width))) ∧ Below w.heap.size w w' := by
  have hmm : maxLen = 9223372036854775807 := rfl
  obtain ⟨i0, hi, hz0, hz1, hz2⟩ := info_parts infoByte8
  have hmk := fun w => run_make (P := Try.prog) w 44 5 i0 _ Try.underlying44 hi hz0 .i64 .i64 (width : Int) width (by omega) (by omega) (by rw [hz2]; omega) (by omega)
  simp only [hz1, Nat.mul_one, Int.toNat_natCast] at hmk
  go_enter Try.func76, Try.ntmps76
  go_wp2_with fail
  rw [made_rowK (byteF n width) width]
  go_loopw [7, 13] (fun _ j wr => ∃ k, k ≤ width ∧ j = .int .i64 (k : Nat) ∧ CBox wr (w.heap.size + 1 + 1) 5 (rowK (byteF n width) k width) ∧ CBox wr w.heap.size 79 #[.int .u64 n] ∧ CBox wr (w.heap.size + 1) 3 #[.int .i64 width] ∧ Below w.heap.size w wr) (fun _ j _ => width - (intOf j).toNat)
  case atStart => exact ⟨0, Nat.zero_le _, rfl, CBox.new _ (by simp), ((CBox.new _ rfl).old _).old _, (CBox.new _ (by simp)).old _, (((Below.refl _ _).alloc (Nat.le_refl _) _).alloc (by simp) _).alloc (by simp; omega) _⟩
  case round =>
    obtain ⟨k, hk, rfl, hr, h1, h2, hb⟩ := hrel
    have HR := Lib.hid hr; have HB := Lib.hid hb
    by_cases hlt : k < width
    · have HC := Lib.hid (byteOf_any n width k _ _ wr hn hw hlt h1 h2)
      have H1 := Lib.hid h1; have H2 := Lib.hid h2
      obtain ⟨r0, rf⟩ := hr.at_ k _ (rowK_at _ _ _ _ hlt)
      clear hr hb h1 h2
      go_wp2_with ((with_reducible refine HC.out.mono ?_); rintro e w2 ⟨rfl, hw2⟩; subst w2)
      go_roundw
      case rel => exact ⟨k + 1, by omega, by go_num, by have h9 := HR.out.set k (.int .u8 (byteF n width k)); rw [rowK_set (byteF n width) k width hlt] at h9; exact h9, H1.out.far (by simp <;> omega) _, H2.out.far (by simp <;> omega) _, HB.out.setCell (by simp <;> omega) _⟩
      case measure => simp [intOf]; omega
    · obtain rfl : k = width := by omega
      have hst : (convert 44 9 (.slice (some ⟨w.heap.size + 1 + 1, 0, none⟩) k k)).run Try.prog wr = .ok (.string (bstr (ofN n k))) wr := by
        have h := run_string_b (P := Try.prog) wr 44 9 5 (w.heap.size + 1 + 1) k (ofN n k) Try.underlying44 Try.underlying5 Try.underlying9 (fun j hj => ⟨hr.lt, by
          rw [ofN_length] at hj
          rw [(hr.at_ j _ (rowK_at _ _ _ _ hj)).1, if_pos hj, ofN_getD _ _ _ hj, UInt8.toNat_ofNat', byteF]⟩)
        rw [ofN_length] at h
        exact h
      clear hr hb h1 h2
      go_wp2_with fail
      go_ret
      exact ⟨rfl, HB.out⟩

def okPut (n : Int) (width : Nat) : Bool := decide (0 ≤ n) && decide (n < 256 ^ width)
def putS (n : Int) (width : Nat) : Str := if okPut n width then ofN n.toNat width else []
set_option maxHeartbeats 1000000 in
theorem put_any (n : Int) (width : Nat) (w : World) (h1 : 1 ≤ width) (h4 : width ≤ 4) :
    Calls Try.prog 61 #[.int .i64 n, .int .i64 width] w fun e w' => e = .returned (.tuple #[.string (bstr (putS n width)), .int .i64 (if okPut n width then 0 else 1)]) ∧ Below w.heap.size w w' := by
  have d1 : decide ((width : Int) < 1) = false := decide_eq_false (by omega)
  have d2 : decide ((4 : Int) < width) = false := decide_eq_false (by omega)
  by_cases h0 : n < 0
  · have d3 : decide (n < 0) = true := decide_eq_true h0
    have hf : okPut n width = false := by unfold okPut; rw [decide_eq_false (by omega)]; rfl
    unfold putS
    rw [hf]
    clear hf h0
    go_enter Try.func61, Try.ntmps61
    go_wp2_with fail
    go_ret2
    exact ⟨by rw [bstr_nil]; rfl, Below.refl _ _⟩
  · obtain ⟨m, rfl⟩ : ∃ m : Nat, n = m := ⟨n.toNat, by omega⟩
    have d3 : decide ((m : Int) < 0) = false := decide_eq_false (by omega)
    have e8 : (2 : Int) ^ (8 * width) = ((256 ^ width : Nat) : Int) := by rw [Int.pow_mul]; simp
    by_cases hm : m < 256 ^ width
    · have ho : okPut m width = true := by unfold okPut; rw [decide_eq_true (by omega)]; simp; exact_mod_cast hm
      have HB := Lib.hid (bytes_any m width w (by have : 256 ^ width ≤ 256 ^ 4 := Nat.pow_le_pow_right (by decide) h4; omega) (by omega))
      have d4 : ((m : Int) / 2 ^ (8 * width) != 0) = false := by
        rw [e8, show (m : Int) / ((256 ^ width : Nat) : Int) = ((m / 256 ^ width : Nat) : Int) from rfl, Nat.div_eq_of_lt hm]; rfl
      have HM := Lib.hid (show IntKind.u64.wrap (m : Int) = m by rw [IntKind.wrap_u64]; have : 256 ^ width ≤ 256 ^ 4 := Nat.pow_le_pow_right (by decide) h4; omega)
      unfold putS
      rw [ho, Int.toNat_natCast]
      clear hm h0 ho e8
      go_enter Try.func61, Try.ntmps61
      go_upto_region 3 with fail
      have hM := HM.out
      go_wp2_with ((with_reducible refine HB.out.mono ?_); rintro e w2 ⟨rfl, hb2⟩; have HB2 := Lib.hid hb2; clear hb2)
      go_ret2
      exact ⟨rfl, HB2.out⟩
    · have ho : okPut m width = false := by unfold okPut; rw [decide_eq_true (by omega)]; simp; exact_mod_cast Nat.le_of_not_lt hm
      have d4 : ((m : Int) / 2 ^ (8 * width) != 0) = true := by
        rw [e8, show (m : Int) / ((256 ^ width : Nat) : Int) = ((m / 256 ^ width : Nat) : Int) from rfl]
        have : 0 < m / 256 ^ width := Nat.div_pos (by omega) (Nat.pow_pos (by decide))
        obtain ⟨d, hd⟩ : ∃ d, m / 256 ^ width = d := ⟨_, rfl⟩
        rw [hd] at this ⊢
        exact bne_iff_ne.2 (by omega)
      unfold putS
      rw [ho]
      clear hm h0 ho e8
      go_enter Try.func61, Try.ntmps61
      go_wp2_with fail
      go_ret2
      exact ⟨by rw [bstr_nil]; rfl, Below.refl _ _⟩
end Go.Proofs.Ythkogdgfkhhleaa
