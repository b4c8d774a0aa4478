/- Texts joined into one file: JOct, JRef1, BEth, BWb. -/
import Derived.Test.YthcdppppppgckaaGreatDoorC27
import Derived.Test.YthcdppppppgckaaGreatDoorC04
import Derived.LoopN
import Derived.Deep.DeepCutAuto
import Derived.Laws.BitsAllLaws
import Derived.Laws.Bits64
import Derived.Lib.Strings
import Derived.Lib.Builder
import Derived.Lib.AppendStr
import Derived.Lib.UnsafeStr
import Derived.Laws.Externs

namespace Go.Proofs.YthcdppppppgckaaGreatDoor
open Go.RowKit
set_option maxRecDepth 20000
set_option maxRecDepth 20000
attribute [local go_sem] bstr_size bstr_extract bstr_append bstr_toList

theorem numAt_succ (s : Str) (i k : Nat) (h : i + k < s.length) : numAt s i (k + 1) = numAt s i k * 256 + (s.getD (i + k) 0).toNat := by
 unfold numAt
 rw [List.take_succ_eq_append_getElem (by rw [List.length_drop]; omega), big_snoc]
 simp [List.getD_eq_getElem?_getD, h]
theorem numAt_lt (s : Str) (i k : Nat) : numAt s i k < 256 ^ k := by
 unfold numAt
 refine Nat.lt_of_lt_of_le (big_lt _) (Nat.pow_le_pow_right (by decide) ?_)
 rw [List.length_take]; omega

set_option maxHeartbeats 1000000 in
theorem number_any (s : Str) (i n : Nat) (w : World) (hin : i + n ≤ s.length) (hs : s.length ≤ maxLen) (hn : n ≤ 8) :
 Calls Tryz.prog 165 #[.string (bstr s), .int .i64 i, .int .i64 n] w fun e w' => e = .returned (.int .u64 (numAt s i n)) ∧ Below w.heap.size w w' := by
 have hmm : maxLen = 9223372036854775807 := rfl
 have hl : ((s.drop i).take n).length = n := by rw [List.length_take, List.length_drop]; omega
 have hin' : (i : Int) + n ≤ s.length := by omega
 obtain ⟨l, hL⟩ : ∃ l, l = (s.drop i).take n := ⟨_, rfl⟩
 obtain ⟨cap, w1, hrun, hb1, hsz, hby, _⟩ := run_bytes_b (P := Tryz.prog) w 9 234 5 l Tryz.underlying9 Tryz.underlying234 Tryz.underlying5
 rw [hL, hl, ← hL] at hrun
 have HN := Lib.hid (show ∀ k, k < n → numAt s i (k + 1) = numAt s i k * 256 + (l[k]?.getD 0).toNat from fun k hk => by
  rw [numAt_succ s i k (by omega), hL]
  simp [List.getD_eq_getElem?_getD, hk])
 have hby' := fun k (hk : k < n) => (hby k (by rw [hL, hl]; exact hk)).2
 have HB1 := Lib.hid hb1
 rw [hL] at hrun
 clear hby hb1 hsz hL hl
 go_enter Tryz.func165, Tryz.ntmps165
 go_wp2_with fail
 go_loop [6, 8, 17] (fun a _ j => ∃ k : Nat, k ≤ n ∧ j = .int .i64 k ∧ a = .int .u64 (numAt s i k)) (fun _ _ j => n - (intOf j).toNat)
 case atStart => exact ⟨0, Nat.zero_le _, rfl, rfl⟩
 case round =>
  obtain ⟨k, hk, rfl, rfl⟩ := hrel
  by_cases hlt : k < n
  · have hc := hby' k hlt
    have HK := Lib.hid (HN.out k hlt)
    have HA := Lib.hid (numAt_lt s i k)
    clear hby' HN
    go_wp2_with fail
    refine ⟨⟨k + 1, by omega, by go_num, ?_⟩, by simp [intOf]; omega⟩
    rw [HK.out, Int.natCast_add, Int.natCast_mul]
    have h2 : 256 ^ k ≤ 256 ^ 7 := Nat.pow_le_pow_right (by decide) (by omega)
    have h1 := HA.out
    have h3 := (l[k]?.getD 0).toNat_lt
    rw [show ((numAt s i k : Nat) : Int) * 256 = ((numAt s i k * 256 : Nat) : Int) by simp, IntKind.wrap_u64, IntKind.wrap_u64, Int.emod_eq_of_lt (by omega) (by omega), Int.emod_eq_of_lt (by omega) (by omega)]
    refine congrArg (Value.int .u64) ?_
    refine (u64_or_nat _ _ (by omega) (by omega)).trans ?_
    rw [nat_join 8 _ _ (by omega) (by omega)]
    simp
  · obtain rfl : k = n := by omega
    clear hby' HN
    go_wp2_with fail
    go_ret
    exact ⟨rfl, HB1.out⟩

theorem stands_any (s : Str) (i n : Nat) (w : World) (hs : s.length ≤ maxLen) (hi : i ≤ maxLen) :
 Calls Tryz.prog 164 #[.string (bstr s), .int .i64 i, .int .i64 n] w fun e w' => e = .returned (.bool (decide (i + n ≤ s.length))) ∧ w = w' := by
 have hmm : maxLen = 9223372036854775807 := rfl
 by_cases h : i ≤ s.length
 · have h' : decide ((i : Int) ≤ s.length) = true := decide_eq_true (by omega)
   have HE := Lib.hid (show decide ((n : Int) ≤ s.length - i) = decide (i + n ≤ s.length) from decide_eq_decide.2 (by omega))
   go_enter Tryz.func164, Tryz.ntmps164
   go_wp2_with fail
   go_ret
   exact ⟨ret_bool HE.out, rfl⟩
 · have h' : decide ((i : Int) ≤ s.length) = false := decide_eq_false (by omega)
   have HE := Lib.hid (show false = decide (i + n ≤ s.length) from (decide_eq_false (by omega)).symm)
   go_enter Tryz.func164, Tryz.ntmps164
   go_wp2_with fail
   go_ret
   exact ⟨ret_bool HE.out, rfl⟩

set_option maxRecDepth 100000 in
theorem get_any (s : Str) (i n : Nat) (w : World) (hs : s.length ≤ maxLen) (hi : i ≤ maxLen) (h1 : 1 ≤ n) (h4 : n ≤ 4) :
 Calls Tryz.prog 103 #[.string (bstr s), .int .i64 i, .int .i64 n] w fun e w' => e = .returned (.tuple #[.int .i64 (if i + n ≤ s.length then numAt s i n else 0 : Nat), .int .i64 (if i + n ≤ s.length then 0 else 2)]) ∧ Below w.heap.size w w' := by
 have hmm : maxLen = 9223372036854775807 := rfl
 have HS := Lib.hid (stands_any s i n w hs hi)
 have d1 : decide ((n : Int) < 1) = false := decide_eq_false (by omega)
 have d2 : decide ((4 : Int) < n) = false := decide_eq_false (by omega)
 by_cases h : i + n ≤ s.length
 · have HC := Lib.hid (number_any s i n w h hs (by omega))
   rw [decide_eq_true h] at HS
   have HW := Lib.hid (show (numAt s i n : Int) < 4294967296 from by have h5 := numAt_lt s i n; have h6 : 256 ^ n ≤ 256 ^ 4 := Nat.pow_le_pow_right (by decide) h4; omega)
   rw [if_pos h, if_pos h]
   obtain ⟨N, hN⟩ : ∃ N, N = numAt s i n := ⟨_, rfl⟩
   rw [← hN] at HC HW ⊢
   have HNW := Lib.hid (show IntKind.i64.wrap (N : Int) = N by rw [IntKind.wrap_i64]; have := HW.out; omega)
   clear hN HW
   clear h hs hi
   go_enter Tryz.func103, Tryz.ntmps103
   go_upto_region 5 with (first | ((with_reducible refine HS.out.mono ?_); rintro e w2 ⟨rfl, hw2⟩; subst w2))
   have hNw := HNW.out
   go_wp2_with (first | ((with_reducible refine HC.out.mono ?_); rintro e w2 ⟨rfl, hb2⟩; have HB2 := Lib.hid hb2; clear hb2))
   go_ret2
   exact ⟨rfl, HB2.out⟩
 · rw [decide_eq_false h] at HS
   rw [if_neg h, if_neg h]
   clear h hs hi
   go_enter Tryz.func103, Tryz.ntmps103
   go_wp2_with (first | ((with_reducible refine HS.out.mono ?_); rintro e w2 ⟨rfl, hw2⟩; subst w2))
   go_ret2
   exact ⟨rfl, Below.refl _ _⟩

def rowK (f : Nat → Int) (k n : Nat) : Array Value := ((List.range n).map fun j => Value.int .u8 (if j < k then f j else 0)).toArray
theorem rowK_at (f : Nat → Int) (k n j : Nat) (h : j < n) : (rowK f k n)[j]? = some (.int .u8 (if j < k then f j else 0)) := by simp [rowK, h]
theorem rowK_set (f : Nat → Int) (k n : Nat) (_hk : k < n) : (rowK f k n).setIfInBounds k (.int .u8 (f k)) = rowK f (k + 1) n := by
 apply Array.ext
 · simp [rowK]
 · intro j h1 h2
   simp [rowK]
   by_cases h : k = j
   · subst h; simp
   · simp [h]
     by_cases h3 : j < k
     · simp [h3, show j < k + 1 by omega]
     · simp [h3, show ¬ j < k + 1 by omega]
theorem made_rowK (f : Nat → Int) (n : Nat) : madeCells #[Value.int .u8 0] n = rowK f 0 n := by
 apply Array.ext
 · simp [madeCells, rowK]
 · intro j h1 h2
   simp [madeCells, rowK, Nat.mod_one]
theorem ofN_getD (k : Nat) : ∀ (n j : Nat), j < k → (ofN n k).getD j 0 = UInt8.ofNat (n / 256 ^ (k - 1 - j)) := by
 induction k with
 | zero => intro n j h; omega
 | succ k ih =>
   intro n j h
   unfold ofN
   by_cases e : j = k
   · subst e
     have : (ofN (n / 256) j).length = j := ofN_length _ _
     simp [List.getD_eq_getElem?_getD, this]
   · have hl : j < (ofN (n / 256) k).length := by rw [ofN_length]; omega
     have hi := ih (n / 256) j (by omega)
     rw [List.getD_eq_getElem?_getD] at hi ⊢
     rw [List.getElem?_append_left hl, hi, Nat.div_div_eq_div_mul, show k + 1 - 1 - j = (k - 1 - j) + 1 from by omega, Nat.pow_succ, Nat.mul_comm 256]

theorem infoByte8 : (Tryz.prog.info? 5).map (fun i => (i.zero, i.size, i.bytes)) = some (some (.int .u8 0), 1, 1) := by kernel_rfl

def byteF (n width j : Nat) : Int := ((n / 256 ^ (width - 1 - j) % 256 : Nat) : Int)
theorem byteOf_any (n width j b c : Nat) (w : World) (_hn : n < 18446744073709551616) (hw : width ≤ 8) (hj : j < width) (h1 : CBox w b 22 #[.int .u64 n]) (h2 : CBox w c 3 #[.int .i64 width]) :
 Calls Tryz.prog 253 #[.int .i64 j, .pointer (some ⟨b, 0, none⟩), .pointer (some ⟨c, 0, none⟩)] w fun e w' => e = .returned (.int .u8 (byteF n width j)) ∧ w = w' := by
 obtain ⟨x0, _⟩ := h1.at_ 0 _ rfl
 obtain ⟨y0, _⟩ := h2.at_ 0 _ rfl
 clear h1 h2
 go_enter Tryz.func253, Tryz.ntmps253
 go_wp2_with fail
 go_ret
 refine ⟨?_, rfl⟩
 show Ending.returned (.int .u8 ((n : Int) / 2 ^ (8 * (width - 1 - j)) % 256)) = _
 have : (2 : Int) ^ (8 * (width - 1 - j)) = ((256 ^ (width - 1 - j) : Nat) : Int) := by rw [Int.pow_mul]; simp
 rw [this]
 rfl

set_option maxHeartbeats 1000000 in
theorem bytes_any (n width : Nat) (w : World) (hn : n < 18446744073709551616) (hw : width ≤ 8) :
 Calls Tryz.prog 195 #[.int .u64 n, .int .i64 width] w fun e w' => e = .returned (.string (bstr (ofN n width))) ∧ Below w.heap.size w w' := by
 have hmm : maxLen = 9223372036854775807 := rfl
 obtain ⟨i0, hi, hz0, hz1, hz2⟩ := info_parts infoByte8
 have hmk := fun w => run_make (P := Tryz.prog) w 234 5 i0 _ Tryz.underlying234 hi hz0 .i64 .i64 (width : Int) width (by omega) (by omega) (by rw [hz2]; omega) (by omega)
 simp only [hz1, Nat.mul_one, Int.toNat_natCast] at hmk
 go_enter Tryz.func195, Tryz.ntmps195
 go_wp2_with fail
 rw [made_rowK (byteF n width) width]
 go_loopw [7, 13] (fun _ j wr => ∃ k, k ≤ width ∧ j = .int .i64 (k : Nat) ∧ CBox wr (w.heap.size + 1 + 1) 5 (rowK (byteF n width) k width) ∧ CBox wr w.heap.size 22 #[.int .u64 n] ∧ CBox wr (w.heap.size + 1) 3 #[.int .i64 width] ∧ Below w.heap.size w wr) (fun _ j _ => width - (intOf j).toNat)
 case atStart => exact ⟨0, Nat.zero_le _, rfl, CBox.new _ (by simp), ((CBox.new _ rfl).old _).old _, (CBox.new _ (by simp)).old _, (((Below.refl _ _).alloc (Nat.le_refl _) _).alloc (by simp) _).alloc (by simp; omega) _⟩
 case round =>
  obtain ⟨k, hk, rfl, hr, h1, h2, hb⟩ := hrel
  have HR := Lib.hid hr; have HB := Lib.hid hb
  by_cases hlt : k < width
  · have HC := Lib.hid (byteOf_any n width k _ _ wr hn hw hlt h1 h2)
    have H1 := Lib.hid h1; have H2 := Lib.hid h2
    obtain ⟨r0, rf⟩ := hr.at_ k _ (rowK_at _ _ _ _ hlt)
    clear hr hb h1 h2
    go_wp2_with ((with_reducible refine HC.out.mono ?_); rintro e w2 ⟨rfl, hw2⟩; subst w2)
    go_roundw
    case rel => exact ⟨k + 1, by omega, by go_num, by have h9 := HR.out.set k (.int .u8 (byteF n width k)); rw [rowK_set (byteF n width) k width hlt] at h9; exact h9, H1.out.far (by simp <;> omega) _, H2.out.far (by simp <;> omega) _, HB.out.setCell (by simp <;> omega) _⟩
    case measure => simp [intOf]; omega
  · obtain rfl : k = width := by omega
    have hst : (convert 234 9 (.slice (some ⟨w.heap.size + 1 + 1, 0, none⟩) k k)).run Tryz.prog wr = .ok (.string (bstr (ofN n k))) wr := by
     have h := run_string_b (P := Tryz.prog) wr 234 9 5 (w.heap.size + 1 + 1) k (ofN n k) Tryz.underlying234 Tryz.underlying5 Tryz.underlying9 (fun j hj => ⟨hr.lt, by
      rw [ofN_length] at hj
      rw [(hr.at_ j _ (rowK_at _ _ _ _ hj)).1, if_pos hj, ofN_getD _ _ _ hj, UInt8.toNat_ofNat', byteF]⟩)
     rw [ofN_length] at h
     exact h
    clear hr hb h1 h2
    go_wp2_with fail
    go_ret
    exact ⟨rfl, HB.out⟩

def okPut (n : Int) (width : Nat) : Bool := decide (0 ≤ n) && decide (n < 256 ^ width)
def putS (n : Int) (width : Nat) : Str := if okPut n width then ofN n.toNat width else []
set_option maxHeartbeats 1000000 in
theorem put_any (n : Int) (width : Nat) (w : World) (h1 : 1 ≤ width) (h4 : width ≤ 4) :
 Calls Tryz.prog 134 #[.int .i64 n, .int .i64 width] w fun e w' => e = .returned (.tuple #[.string (bstr (putS n width)), .int .i64 (if okPut n width then 0 else 1)]) ∧ Below w.heap.size w w' := by
 have d1 : decide ((width : Int) < 1) = false := decide_eq_false (by omega)
 have d2 : decide ((4 : Int) < width) = false := decide_eq_false (by omega)
 by_cases h0 : n < 0
 · have d3 : decide (n < 0) = true := decide_eq_true h0
   have hf : okPut n width = false := by unfold okPut; rw [decide_eq_false (by omega)]; rfl
   unfold putS
   rw [hf]
   clear hf h0
   go_enter Tryz.func134, Tryz.ntmps134
   go_wp2_with fail
   go_ret2
   exact ⟨by rw [bstr_nil]; rfl, Below.refl _ _⟩
 · obtain ⟨m, rfl⟩ : ∃ m : Nat, n = m := ⟨n.toNat, by omega⟩
   have d3 : decide ((m : Int) < 0) = false := decide_eq_false (by omega)
   have e8 : (2 : Int) ^ (8 * width) = ((256 ^ width : Nat) : Int) := by rw [Int.pow_mul]; simp
   by_cases hm : m < 256 ^ width
   · have ho : okPut m width = true := by unfold okPut; rw [decide_eq_true (by omega)]; simp; exact_mod_cast hm
     have HB := Lib.hid (bytes_any m width w (by have : 256 ^ width ≤ 256 ^ 4 := Nat.pow_le_pow_right (by decide) h4; omega) (by omega))
     have d4 : ((m : Int) / 2 ^ (8 * width) != 0) = false := by
      rw [e8, show (m : Int) / ((256 ^ width : Nat) : Int) = ((m / 256 ^ width : Nat) : Int) from rfl, Nat.div_eq_of_lt hm]; rfl
     have HM := Lib.hid (show IntKind.u64.wrap (m : Int) = m by rw [IntKind.wrap_u64]; have : 256 ^ width ≤ 256 ^ 4 := Nat.pow_le_pow_right (by decide) h4; omega)
     unfold putS
     rw [ho, Int.toNat_natCast]
     clear hm h0 ho e8
     go_enter Tryz.func134, Tryz.ntmps134
     go_upto_region 3 with fail
     have hM := HM.out
     go_wp2_with ((with_reducible refine HB.out.mono ?_); rintro e w2 ⟨rfl, hb2⟩; have HB2 := Lib.hid hb2; clear hb2)
     go_ret2
     exact ⟨rfl, HB2.out⟩
   · have ho : okPut m width = false := by unfold okPut; rw [decide_eq_true (by omega)]; simp; exact_mod_cast Nat.le_of_not_lt hm
     have d4 : ((m : Int) / 2 ^ (8 * width) != 0) = true := by
      rw [e8, show (m : Int) / ((256 ^ width : Nat) : Int) = ((m / 256 ^ width : Nat) : Int) from rfl]
      have : 0 < m / 256 ^ width := Nat.div_pos (by omega) (Nat.pow_pos (by decide))
      obtain ⟨d, hd⟩ : ∃ d, m / 256 ^ width = d := ⟨_, rfl⟩
      rw [hd] at this ⊢
      exact bne_iff_ne.2 (by omega)
     unfold putS
     rw [ho]
     clear hm h0 ho e8
     go_enter Tryz.func134, Tryz.ntmps134
     go_wp2_with fail
     go_ret2
     exact ⟨by rw [bstr_nil]; rfl, Below.refl _ _⟩

attribute [local go_sem] bstr_size bstr_extract bstr_append bstr_toList bstr_get

def rowD (f : Nat → Int) (k n : Nat) : Array Value := ((List.range n).map fun j => Value.int .u8 (if k ≤ j then f j else 0)).toArray
theorem rowD_at (f : Nat → Int) (k n j : Nat) (h : j < n) : (rowD f k n)[j]? = some (.int .u8 (if k ≤ j then f j else 0)) := by simp [rowD, h]
theorem rowD_set (f : Nat → Int) (k n : Nat) (_hk : k < n) : (rowD f (k + 1) n).setIfInBounds k (.int .u8 (f k)) = rowD f k n := by
 apply Array.ext
 · simp [rowD]
 · intro j h1 h2
   simp [rowD]
   by_cases h : k = j
   · subst h; simp
   · simp [h]
     by_cases h3 : k ≤ j
     · simp [h3, show k + 1 ≤ j by omega]
     · simp [h3, show ¬ k + 1 ≤ j by omega]
theorem made_rowD (f : Nat → Int) (n : Nat) : madeCells #[Value.int .u8 0] n = rowD f n n := by
 apply Array.ext
 · simp [madeCells, rowD]
 · intro j h1 h2
   have : ¬ n ≤ j := by simp [madeCells] at h1; omega
   simp [madeCells, rowD, Nat.mod_one, this]

theorem wrap_div (M : Nat) (h : M < 256 ^ 4) : wrap64 ((M : Int) / 256) = ((M / 256 : Nat) : Int) := by unfold wrap64; omega
theorem div_step (m k : Nat) : m / 256 ^ k / 256 = m / 256 ^ (k + 1) := by rw [Nat.div_div_eq_div_mul, Nat.pow_succ]
set_option maxHeartbeats 1000000 in
theorem rput_any (m width : Nat) (w : World) (h1 : 1 ≤ width) (h4 : width ≤ 4) (hm : m < 256 ^ width) :
 Calls Tryz.prog 102 #[.int .i64 m, .int .i64 width] w fun e w' => e = .returned (.tuple #[.string (bstr (ofN m width)), .int .i64 0]) ∧ Below w.heap.size w w' := by
 have d1 : decide ((width : Int) < 1) = false := decide_eq_false (by omega)
 have d2 : decide ((4 : Int) < width) = false := decide_eq_false (by omega)
 obtain ⟨i0, hi, hz0, hz1, hz2⟩ := info_parts infoByte8
 have hmk := fun w => run_make (P := Tryz.prog) w 234 5 i0 _ Tryz.underlying234 hi hz0 .i64 .i64 (width : Int) width (by omega) (by omega) (by rw [hz2]; omega) (by omega)
 simp only [hz1, Nat.mul_one, Int.toNat_natCast] at hmk
 have HM := Lib.hid hm
 have h44 : 256 ^ width ≤ 256 ^ 4 := Nat.pow_le_pow_right (by decide) h4
 have HM4 := Lib.hid (show ∀ k, m / 256 ^ k < 256 ^ 4 from fun k => Nat.lt_of_le_of_lt (Nat.div_le_self _ _) (by omega))
 clear hm h44
 go_enter Tryz.func102, Tryz.ntmps102
 go_wp2_with fail
 rw [made_rowD (byteF m width) width]
 go_loopw [0, 7] (fun a j wr => ∃ k, k ≤ width ∧ j = .int .i64 ((k : Int) - 1) ∧ a = .int .i64 (m / 256 ^ (width - k) : Nat) ∧ CBox wr w.heap.size 5 (rowD (byteF m width) k width) ∧ Below w.heap.size w wr) (fun _ j _ => (intOf j + 1).toNat)
 case atStart => exact ⟨width, Nat.le_refl _, by go_num, by simp, CBox.new _ rfl, (Below.refl _ _).alloc (Nat.le_refl _) _⟩
 case round =>
  obtain ⟨k, hk, rfl, rfl, hr, hb⟩ := hrel
  have HR := Lib.hid hr; have HB := Lib.hid hb
  by_cases hlt : 0 < k
  · obtain ⟨k, rfl⟩ : ∃ j, k = j + 1 := ⟨k - 1, by omega⟩
    obtain ⟨r0, rf⟩ := hr.at_ k _ (rowD_at _ _ _ _ (by omega))
    clear hr hb
    have HD := Lib.hid (div_step m (width - (k + 1)))
    obtain ⟨M, hM⟩ : ∃ M, M = m / 256 ^ (width - (k + 1)) := ⟨_, rfl⟩
    rw [← hM] at HD
    have HMB := Lib.hid (show M < 256 ^ 4 by rw [hM]; exact HM4.out _)
    have HF := Lib.hid (show ((M : Int) % 256) = byteF m width k by rw [hM]; unfold byteF; rw [show width - 1 - k = width - (k + 1) from by omega]; simp)
    have HW := Lib.hid (show width - k = width - (k + 1) + 1 from by omega)
    rw [← hM]
    clear hM
    go_wp2_with fail
    refine ⟨⟨k, by omega, rfl, ?_, by have h9 := HR.out.set k (.int .u8 (byteF m width k)); rw [rowD_set (byteF m width) k width (by omega)] at h9; rw [HF.out]; exact h9, HB.out.setCell (by simp) _⟩, by simp [intOf] <;> omega⟩
    refine congrArg (Value.int .i64) ?_
    rw [HW.out, ← HD.out]
    exact wrap_div _ HMB.out
  · obtain rfl : k = 0 := by omega
    have h0 : (m : Int) / 256 ^ width = 0 := by
     have h := HM.out
     rw [show (256 : Int) ^ width = ((256 ^ width : Nat) : Int) by simp, show (m : Int) / ((256 ^ width : Nat) : Int) = ((m / 256 ^ width : Nat) : Int) from rfl, Nat.div_eq_of_lt h]; rfl
    have hst : (convert 234 9 (.slice (some ⟨w.heap.size, 0, none⟩) width width)).run Tryz.prog wr = .ok (.string (bstr (ofN m width))) wr := by
     have h := run_string_b (P := Tryz.prog) wr 234 9 5 w.heap.size width (ofN m width) Tryz.underlying234 Tryz.underlying5 Tryz.underlying9 (fun j hj => ⟨hr.lt, by
      rw [ofN_length] at hj
      rw [(hr.at_ j _ (rowD_at _ _ _ _ hj)).1, if_pos (Nat.zero_le _), ofN_getD _ _ _ hj, UInt8.toNat_ofNat', byteF]⟩)
     rw [ofN_length] at h
     exact h
    clear hr hb
    go_wp2_with fail
    go_ret2
    exact ⟨rfl, HB.out⟩

theorem of_any (m width : Nat) (w : World) (h1 : 1 ≤ width) (h4 : width ≤ 4) (hm : m < 256 ^ width) :
 Calls Tryz.prog 55 #[.int .i64 m, .int .i64 width] w fun e w' => e = .returned (.string (bstr (ofN m width))) ∧ Below w.heap.size w w' := by
 have HC := Lib.hid (rput_any m width w h1 h4 hm)
 clear hm h1 h4
 go_enter Tryz.func55, Tryz.ntmps55
 go_wp2_with ((with_reducible refine HC.out.mono ?_); rintro e w2 ⟨rfl, hb2⟩; have HB2 := Lib.hid hb2; clear hb2)
 go_ret
 exact ⟨rfl, HB2.out⟩
end Go.Proofs.YthcdppppppgckaaGreatDoor

namespace Go.Proofs.YthcdppppppgckaaGreatDoor

structure Fr where
 dst : Str
 src : Str
 tagged : Bool
 vlan : Int
 prio : Int
 typ : Int
 data : Str
deriving DecidableEq
def frZero : Fr := ⟨[], [], false, 0, 0, 0, []⟩
instance : Inhabited Fr := ⟨frZero⟩
def inTo (n most : Int) : Bool := decide (0 ≤ n) && decide (n ≤ most)
def fineF (f : Fr) : Bool := decide (f.dst.length = 6) && decide (f.src.length = 6) && decide (f.data.length ≤ 2000) && inTo f.vlan 4094 && inTo f.prio 7 && inTo f.typ 65535 && (f.tagged || ((f.vlan == 0) && (f.prio == 0) && !(f.typ == 33024)))
def eEncS (f : Fr) : Str := f.dst ++ f.src ++ (if f.tagged then ofN 33024 2 ++ ofN (f.prio.toNat * 8192 + f.vlan.toNat) 2 else []) ++ ofN f.typ.toNat 2 ++ f.data
def eEnc (f : Fr) : Str × Int := if fineF f then (eEncS f, 0) else ([], 1)
def eDec (s : Str) : Fr × Int :=
 if s.length < 14 then (frZero, 2)
 else if numAt s 12 2 = 33024 then
  if s.length < 18 then (frZero, 2)
  else if numAt s 14 4 / 65536 / 4096 % 2 = 1 ∨ numAt s 14 4 / 65536 % 4096 = 4095 then (frZero, 3)
  else if 2000 < (s.drop 18).length then (frZero, 3)
  else (⟨s.take 6, (s.drop 6).take 6, true, (numAt s 14 4 / 65536 % 4096 : Nat), (numAt s 14 4 / 65536 / 8192 : Nat), (numAt s 14 4 % 65536 : Nat), s.drop 18⟩, 0)
 else if 2000 < (s.drop 14).length then (frZero, 3)
 else (⟨s.take 6, (s.drop 6).take 6, false, 0, 0, (numAt s 12 2 : Nat), s.drop 14⟩, 0)
def isMany (m : Str) : Bool := decide (m.length = 6) && decide ((m.getD 0 0).toNat % 2 = 1)

structure Pt where
 default_ : Int
 tagged : List Int
 plain : List Int
deriving DecidableEq
instance : Inhabited Pt := ⟨⟨0, [], []⟩⟩
def Pt.member (p : Pt) (v : Int) : Bool := p.tagged.contains v || p.plain.contains v
def risesGo : Int → List Int → Bool
 | _, [] => true
 | last, v :: l => decide (last < v) && decide (v ≤ 4094) && risesGo v l
def risesV (l : List Int) : Bool := risesGo 0 l
def Pt.fine (p : Pt) : Bool := risesV p.tagged && risesV p.plain && !(p.tagged.any fun v => p.plain.contains v) && ((p.default_ == 0) || p.member p.default_)
def vCheck (l : List Pt) : Int := if 1 ≤ l.length ∧ l.length ≤ 16 ∧ l.all Pt.fine = true then 0 else 3
def vIn (l : List Pt) (port : Int) (f : Fr) : Fr × Int :=
 if vCheck l ≠ 0 then (frZero, vCheck l)
 else if port < 0 ∨ (l.length : Int) ≤ port ∨ fineF f = false then (frZero, 1)
 else
  let p := l.getD port.toNat default
  let f := if f.vlan = 0 then { f with tagged := true, vlan := p.default_ } else f
  if f.vlan = 0 ∨ p.member f.vlan = false then (frZero, 6) else (f, 0)
def vOut (l : List Pt) (port : Int) (f : Fr) : Fr × Int :=
 if vCheck l ≠ 0 then (frZero, vCheck l)
 else if port < 0 ∨ (l.length : Int) ≤ port ∨ fineF f = false then (frZero, 1)
 else
  let p := l.getD port.toNat default
  if f.vlan = 0 then (frZero, 1)
  else if p.tagged.contains f.vlan then (f, 0)
  else if p.member f.vlan = false then (frZero, 6)
  else
   let g := { f with tagged := false, vlan := 0, prio := 0 }
   if fineF g then (g, 0) else (frZero, 6)
def vMembers (l : List Pt) (v : Int) : List Int := ((List.range l.length).filter fun i => (l.getD i default).member v).map Int.ofNat
end Go.Proofs.YthcdppppppgckaaGreatDoor

namespace Go.Proofs.YthcdppppppgckaaGreatDoor
open Go.RowKit Go.Sort
set_option maxRecDepth 20000
set_option maxRecDepth 20000
attribute [local go_sem] bstr_size bstr_extract bstr_toList bstr_get

def U8b (w : World) (j : Nat) : Prop := ∃ cs fr, w.heap[j]? = some (.cells cs 5 fr)
def Tub (w w' : World) (b : Nat) : Prop := Below b w w' ∧ ∀ j, j < w.heap.size → j ≠ b → ¬ U8b w j → w'.heap[j]? = w.heap[j]?
theorem Tub.refl (w : World) (b : Nat) : Tub w w b := ⟨Below.refl _ _, fun _ _ _ _ => rfl⟩
theorem Tub.trans {w w' w'' : World} {b : Nat} (h : Tub w w' b) (k : Tub w' w'' b) : Tub w w'' b := by
 refine ⟨h.1.trans k.1, fun j hj hb hu => ?_⟩
 have e := h.2 j hj hb hu
 exact (k.2 j (Nat.lt_of_lt_of_le hj h.1.size) hb (fun ⟨cs, fr, hc⟩ => hu ⟨cs, fr, e ▸ hc⟩)).trans e
theorem Tub.of_below {w w' : World} (h : Below w.heap.size w w') {b : Nat} (hb : b ≤ w.heap.size) : Tub w w' b := ⟨h.mono hb, fun j hj _ _ => h.block j hj⟩
theorem Tub.box {w w' : World} {b j : Nat} {T : TypeId} {cs : Array Value} (h : Tub w w' b) (hc : CBox w j T cs) (hj : j ≠ b) (hT : T ≠ 5) : CBox w' j T cs :=
 (h.2 j hc.lt hj (fun ⟨cs', fr, e⟩ => by rw [hc] at e; injection e with e; injection e with e1 e2; exact hT e2)).trans hc
theorem Tub.set {w w' : World} {b : Nat} (h : Tub w w' b) (i : Nat) (v : Value) : Tub w (w'.setCell ⟨b, i, none⟩ v) b :=
 ⟨h.1.setCell (p := ⟨b, i, none⟩) (Nat.le_refl _) v, fun j hj hb hu => (Below.heap_setCell w' ⟨b, i, none⟩ v j hb).trans (h.2 j hj hb hu)⟩

def WbP (w : World) (b : Nat) (p : Value) (S : Str) : Prop :=
 ∃ v, CBox w b 236 #[p, v] ∧ w.ownsRow b 5 1 v S.length (Lib.byteCells S)
def Wb (w : World) (b : Nat) (S : Str) : Prop := WbP w b (.pointer none) S ∨ WbP w b (.pointer (some ⟨b, 0, none⟩)) S
theorem WbP.lt {w : World} {b : Nat} {p : Value} {S : Str} (h : WbP w b p S) : b < w.heap.size := by obtain ⟨v, h, _⟩ := h; exact h.lt
theorem Wb.lt {w : World} {b : Nat} {S : Str} (h : Wb w b S) : b < w.heap.size := by rcases h with h | h <;> exact h.lt
theorem WbP.kept {w w' : World} {b : Nat} {p : Value} {S : Str} (h : WbP w b p S) (hb : Below w.heap.size w w') : WbP w' b p S := by
 obtain ⟨v, h1, h2⟩ := h
 exact ⟨v, h1.below hb h1.lt, h2.kept (row := none) ⟨hb.os, hb.tape, hb.output, hb.size, fun k hk _ => hb.block k hk⟩ (by cases v.ownBlock <;> simp)⟩
theorem Wb.kept {w w' : World} {b : Nat} {S : Str} (h : Wb w b S) (hb : Below w.heap.size w w') : Wb w' b S := h.imp (·.kept hb) (·.kept hb)
theorem Wb.p {w : World} {b : Nat} {S : Str} (h : Wb w b S) : ∃ p, WbP w b p S := by rcases h with h | h <;> exact ⟨_, h⟩
theorem WbP.set {w : World} {b : Nat} {p v : Value} {S : Str} (h1 : CBox w b 236 #[p, v]) (h2 : w.ownsRow b 5 1 v S.length (Lib.byteCells S)) (i : Nat) (u : Value) :
 (w.setCell ⟨b, i, none⟩ u).ownsRow b 5 1 v S.length (Lib.byteCells S) := by
 have hne : v.ownBlock ≠ some b := own_box h2 h1 (by decide)
 exact h2.kept (row := some b) ⟨rfl, rfl, rfl, by simp [World.setCell], fun k _ hk => Below.heap_setCell _ _ _ _ (fun e => hk (by simp [e]))⟩ (.inr hne)
theorem WbP.used {w : World} {b : Nat} {p : Value} {S : Str} (h : WbP w b p S) (q : Value) : WbP (w.setCell ⟨b, 0, none⟩ q) b q S := by
 obtain ⟨v, h1, h2⟩ := h
 exact ⟨v, h1.set 0 _, WbP.set h1 h2 0 _⟩
theorem Wb.new {w : World} {b : Nat} (h : b = w.heap.size) : Wb (w.alloc (.cells #[.pointer none, .slice none 0 0] 236)) b [] :=
 .inl ⟨_, CBox.new _ h, World.ownsRow_nil _ _ _ _⟩
theorem infoBuilderB : (Tryz.prog.info? 236).map (·.size) = some 2 := by kernel_rfl
theorem liesBuilder : liesAt Tryz.prog Tryz.prog.depth 236 (2 / Tryz.prog.cellsOf 236) 0 236 1 = true := by kernel_rfl

set_option maxHeartbeats 1000000 in
theorem bcopy_used (b : Nat) (S : Str) (w : World) (h : WbP w b (.pointer (some ⟨b, 0, none⟩)) S) :
 Calls Tryz.prog 197 #[.pointer (some ⟨b, 0, none⟩)] w fun e w' => e = .returned (.tuple #[]) ∧ w = w' := by
 obtain ⟨j, hj, _⟩ := Option.map_eq_some_iff.1 infoBuilderB
 obtain ⟨v, h1, h2⟩ := h
 obtain ⟨c0, f0⟩ := h1.at_ 0 _ rfl
 clear h1 h2
 go_enter Tryz.func197, Tryz.ntmps197
 go_wp2_with fail
 rw [Lib.run_neq_ptr_same w _ Tryz.underlying233 hj]
 go_wp2_with fail
 go_end0
 exact ⟨rfl, rfl⟩

set_option maxHeartbeats 1000000 in
theorem bcopy_fresh (b : Nat) (S : Str) (w : World) (h : WbP w b (.pointer none) S) :
 Calls Tryz.prog 197 #[.pointer (some ⟨b, 0, none⟩)] w fun e w' => e = .returned (.tuple #[]) ∧ w' = w.setCell ⟨b, 0, none⟩ (.pointer (some ⟨b, 0, none⟩)) := by
 obtain ⟨j, hj, hjs⟩ := Option.map_eq_some_iff.1 infoBuilderB
 obtain ⟨v, h1, h2⟩ := h
 obtain ⟨c0, f0⟩ := h1.at_ 0 _ rfl
 have hsh : w.shape? b = some (236, 2) := by have h' : w.heap[b]? = _ := h1; simp [World.shape?, h']
 clear h1 h2
 go_enter Tryz.func197, Tryz.ntmps197
 go_wp2_with fail
 rw [Lib.run_to_unsafe w ⟨b, 0, none⟩ Tryz.underlying233 Tryz.underlying364 hj (by rw [hjs]; decide) hsh (Nat.zero_lt_succ 1)]
 simp only [Result.andThen]
 rw [Oper.upon_value]
 go_wp2_with fail
 rw [run_callFunc_extern Tryz.func254 (by kernel_rfl) (by kernel_rfl) (by kernel_rfl) (e := Extern.AbiNoEscape.same) (by kernel_rfl)]
 rw [Lib.run_noEscape]
 simp only [Result.andThen]
 rw [Oper.upon_value]
 go_wp2_with fail
 rw [Lib.run_from_unsafe w ⟨b, 0, none⟩ Tryz.underlying364 Tryz.underlying233 hj hsh liesBuilder]
 simp only [Result.andThen]
 rw [Oper.upon_value]
 go_wp2_with fail
 go_end0
 exact ⟨rfl, rfl⟩

def RetUsedB (w : World) (b : Nat) (S : Str) (e : Ending) (w' : World) : Prop := e = .returned (.tuple #[]) ∧ WbP w' b (.pointer (some ⟨b, 0, none⟩)) S ∧ Tub w w' b
theorem bcopy_any (b : Nat) (S : Str) (w : World) (h : Wb w b S) :
 Calls Tryz.prog 197 #[.pointer (some ⟨b, 0, none⟩)] w (RetUsedB w b S) := by
 rcases h with h | h
 · refine (bcopy_fresh b S w h).mono ?_
   rintro e w' ⟨rfl, rfl⟩
   exact ⟨rfl, h.used _, (Tub.refl w b).set 0 _⟩
 · refine (bcopy_used b S w h).mono ?_
   rintro e w' ⟨rfl, rfl⟩
   exact ⟨rfl, h, Tub.refl w b⟩

theorem infoByteWb : (Tryz.prog.info? 5).map (fun i => (i.zero, i.size, i.bytes)) = some (some (.int .u8 0), 1, 1) := by kernel_rfl
theorem Tub.grown {w w1 : World} {b : Nat} {v : Value} {S : Str} {w' : World} (h : Tub w w1 b) (ho : w1.ownsRow b 5 1 v S.length (Lib.byteCells S)) (hb : b ≤ w1.heap.size) (hg : w1.grownBy w' v.ownBlock) : Tub w w' b := by
 refine ⟨h.1.grown hg hb (fun k hk => (ho.lt k hk).1), fun j hj hb' hu => ?_⟩
 refine (hg.block j (Nat.lt_of_lt_of_le hj h.1.size) (fun e => ?_)).trans (h.2 j hj hb' hu)
 rcases ho.2 with ⟨rfl, _⟩ | ⟨g, cap, cur, rfl, _, hg', _⟩
 · simp [Value.ownBlock] at e
 · have e' : j = g := by simpa [Value.ownBlock] using e
   subst e'
   exact hu ⟨cur, _, (h.2 j hj hb' hu).symm.trans hg'⟩
def RetWsB (w : World) (b : Nat) (S : Str) (e : Ending) (w' : World) : Prop := (∃ n, e = .returned (.tuple #[.int .i64 n, .nilIface])) ∧ Wb w' b S ∧ Tub w w' b
set_option maxHeartbeats 2000000 in
theorem bstring_any (b : Nat) (S x : Str) (w : World) (h : Wb w b S) (hlen : S.length + x.length ≤ 140737488355328) :
 Calls Tryz.prog 138 #[.pointer (some ⟨b, 0, none⟩), .string (bstr x)] w (RetWsB w b (S ++ x)) := by
 obtain ⟨i0, hi, hz0, hz1, hz2⟩ := info_parts infoByteWb
 have HC := Lib.hid (bcopy_any b S w h)
 have HL := Lib.hid hlen
 clear h hlen
 go_enter Tryz.func138, Tryz.ntmps138
 have hc3 : S.length + (bstr x).size ≤ maxLen := by have := HL.out; rw [bstr_size]; unfold maxLen; omega
 have hc4 : S.length + (bstr x).size ≤ 140737488355328 := by have := HL.out; rw [bstr_size]; omega
 have HC3 := Lib.hid hc3; have HC4 := Lib.hid hc4
 clear hc3 hc4
 go_wp2_with (first | ((with_reducible refine HC.out.mono ?_); rintro e w1 ⟨rfl, hp, ht⟩; obtain ⟨v, hbk, hown⟩ := hp; obtain ⟨c1, f1⟩ := hbk.at_ 1 _ rfl; have HT := Lib.hid ht; have HB := Lib.hid hbk; have HO := Lib.hid hown; clear ht hbk hown) | (at_builtin; refine Lib.wpList_append_own_string _ rfl _ _ 234 9 rfl b 5 i0 Tryz.underlying234 Tryz.underlying9 hi hz0 hz1 hz2 _ _ _ rfl HO.out (bstr x) rfl HC3.out HC4.out (Nat.le_of_lt HB.out.lt) ?_; intro v' w2 hown' hgrow _; have HX := Lib.hid (HB.out.grown hgrow (fun e => own_box HO.out HB.out (by decide) e.symm)); have HT2 := Lib.hid (HT.out.grown HO.out (Nat.le_of_lt HB.out.lt) hgrow); rw [bstr_size] at hown'; have HO2 := Lib.hid hown'; obtain ⟨ao, cc, rfl⟩ := own_form hown'; clear c1 f1; obtain ⟨d1, g1⟩ := HX.out.at_ 1 _ rfl; clear hown' hgrow))
 go_ret2
 have hx : CBox (w2.setCell ⟨b, 1, none⟩ (.slice ao (S.length + x.length) cc)) b 236 #[.pointer (some ⟨b, 0, none⟩), (.slice ao (S.length + x.length) cc)] := HX.out.set 1 _
 have hne2 := own_box HO2.out HX.out (by decide)
 refine ⟨⟨_, rfl⟩, .inr ⟨_, hx, ?_⟩, HT2.out.set 1 _⟩
 have e1 : Lib.byteCells (S ++ x) = Lib.byteCells S ++ Lib.strCells (bstr x) := by
  unfold Lib.byteCells Lib.strCells
  rw [List.map_append, bstr_data]
 rw [e1, List.length_append]
 exact HO2.out.kept (row := some b) ⟨rfl, rfl, rfl, by simp [World.setCell], fun k _ hk => Below.heap_setCell _ _ _ _ (fun e => hk (by simp [e]))⟩ (.inr hne2)

def RetTextB (w : World) (b : Nat) (S : Str) (e : Ending) (w' : World) : Prop := e = .returned (.string (bstr S)) ∧ Below b w w'
set_option maxHeartbeats 1000000 in
theorem btext_some (b : Nat) (S : Str) (w : World) (h : Wb w b S) (h0 : S ≠ []) (hm : S.length ≤ 100000000) :
 Calls Tryz.prog 139 #[.pointer (some ⟨b, 0, none⟩)] w (RetTextB w b S) := by
 obtain ⟨p, v, hbk, hown⟩ := h.p
 have hl0 : S.length ≠ 0 := by simpa using h0
 obtain ⟨g, cap, cur, rfl, hbg, hg, hnc, hcm, hcs, htake⟩ : ∃ g cap cur, v = .slice (some ⟨g, 0, none⟩) S.length cap ∧ b ≤ g ∧ w.heap[g]? = some (.cells cur 5 (0, 0)) ∧ S.length ≤ cap ∧ cap ≤ maxLen ∧ cur.size = cap * 1 ∧ cur.toList.take (S.length * 1) = Lib.byteCells S := by
  rcases hown.2 with ⟨_, hz⟩ | ⟨g, cap, cur, hv, r⟩
  · exact absurd hz hl0
  · exact ⟨g, cap, cur, hv, r⟩
 have c1 : w.drew.cell? ⟨b, 1, none⟩ = some (.slice (some ⟨g, 0, none⟩) S.length cap) := (hbk.at_ 1 _ rfl).1
 have hSD : (Builtin.unsafeSliceData_ #[234] 299 #[.slice (some ⟨g, 0, none⟩) S.length cap]).run Tryz.prog w.drew = .ok (.pointer (some ⟨g, 0, none⟩)) w.drew :=
  Lib.run_unsafeSliceData_row _ _ _ _ _ _ (by omega)
 have hUS : (Builtin.unsafeString_ #[299, 3] 9 #[.pointer (some ⟨g, 0, none⟩), .int .i64 S.length]).run Tryz.prog w.drew = .ok (.string (bstr S)) (w.drew.freeze ⟨g, 0, none⟩ S.length) := by
  rw [bstr_eq]
  refine Lib.run_unsafeString_row w.drew 299 3 9 5 Tryz.underlying299 (by kernel_rfl) g cur.size (by have hg' : w.drew.heap[g]? = some (.cells cur 5 (0, 0)) := hg; simp [World.shape?, hg']) S h0 (by omega) (by unfold maxLen at hcm; omega) ?_
  intro j x hx
  have := hown.cells (g := g) rfl j (.int .u8 x.toNat) (by simp [Lib.byteCells, hx])
  exact this
 have HF := Lib.hid (Lib.below_freeze (Below.drew (Below.refl b w)) (p := ⟨g, 0, none⟩) hbg S.length)
 clear h hbk hown hl0 h0 hbg hg hnc hcm hcs htake hm
 go_enter Tryz.func139, Tryz.ntmps139
 go_wp2_with fail
 go_region
 all_goals (go_wp2_with fail; go_ret; exact ⟨rfl, HF.out⟩)

theorem bunsafe_none (W : World) (q : Option Addr) : (Builtin.unsafeString_ #[299, 3] 9 #[.pointer q, .int .i64 0]).run Tryz.prog W = .ok (.string ⟨#[]⟩) W := Lib.run_unsafeString_none W _ _ _ q
set_option maxHeartbeats 1000000 in
theorem btext_nil (b : Nat) (p : Value) (w : World) (hbk : CBox w b 236 #[p, .slice none 0 0]) :
 Calls Tryz.prog 139 #[.pointer (some ⟨b, 0, none⟩)] w (RetTextB w b []) := by
 have c1 : w.drew.cell? ⟨b, 1, none⟩ = some (.slice none 0 0) := (hbk.at_ 1 _ rfl).1
 have hSD : (Builtin.unsafeSliceData_ #[234] 299 #[.slice none 0 0]).run Tryz.prog w.drew = .ok (.pointer none) w.drew := rfl
 have HF := Lib.hid (Below.drew (Below.refl b w))
 have hUS := bunsafe_none
 clear hbk
 go_enter Tryz.func139, Tryz.ntmps139
 go_wp2_with fail
 go_region
 all_goals (go_wp2_with fail; go_ret; exact ⟨by rw [bstr_nil]; rfl, HF.out⟩)
set_option maxHeartbeats 1000000 in
theorem btext_room (b g cap : Nat) (p : Value) (w : World) (hc0 : cap ≠ 0) (hbk : CBox w b 236 #[p, .slice (some ⟨g, 0, none⟩) 0 cap]) :
 Calls Tryz.prog 139 #[.pointer (some ⟨b, 0, none⟩)] w (RetTextB w b []) := by
 have c1 : w.drew.cell? ⟨b, 1, none⟩ = some (.slice (some ⟨g, 0, none⟩) 0 cap) := (hbk.at_ 1 _ rfl).1
 have hSD : (Builtin.unsafeSliceData_ #[234] 299 #[.slice (some ⟨g, 0, none⟩) 0 cap]).run Tryz.prog w.drew = .ok (.pointer (some ⟨g, 0, none⟩)) w.drew :=
  Lib.run_unsafeSliceData_row _ _ _ _ _ _ hc0
 clear hc0
 have HF := Lib.hid (Below.drew (Below.refl b w))
 have hUS := bunsafe_none
 clear hbk
 go_enter Tryz.func139, Tryz.ntmps139
 go_wp2_with fail
 go_region
 all_goals (go_wp2_with fail; go_ret; exact ⟨by rw [bstr_nil]; rfl, HF.out⟩)
set_option maxHeartbeats 1000000 in
theorem btext_noroom (b g : Nat) (p : Value) (cur : Array Value) (w : World) (hbk : CBox w b 236 #[p, .slice (some ⟨g, 0, none⟩) 0 0]) (hg : w.heap[g]? = some (.cells cur 5 (0, 0))) :
 Calls Tryz.prog 139 #[.pointer (some ⟨b, 0, none⟩)] w (RetTextB w b []) := by
 have c1 : w.drew.cell? ⟨b, 1, none⟩ = some (.slice (some ⟨g, 0, none⟩) 0 0) := (hbk.at_ 1 _ rfl).1
 have hSD : (Builtin.unsafeSliceData_ #[234] 299 #[.slice (some ⟨g, 0, none⟩) 0 0]).run Tryz.prog w.drew = .ok (.pointer (some ⟨w.drew.heap.size, 0, none⟩)) (w.drew.alloc (.view ⟨g, 0, none⟩ 5)) :=
  Lib.run_unsafeSliceData_zero w.drew _ _ 5 Tryz.underlying299 ⟨g, 0, none⟩ 0 (5, cur.size) (by have hg' : w.drew.heap[g]? = some (.cells cur 5 (0, 0)) := hg; simp [World.shape?, hg'])
 have c2 : (w.drew.alloc (.view ⟨g, 0, none⟩ 5)).cell? ⟨b, 1, none⟩ = some (.slice (some ⟨g, 0, none⟩) 0 0) := ((hbk.draws 1).old _ |>.at_ 1 _ rfl).1
 have c3 : (w.alloc (.view ⟨g, 0, none⟩ 5)).drew.cell? ⟨b, 1, none⟩ = some (.slice (some ⟨g, 0, none⟩) 0 0) := c2
 have c0 : w.cell? ⟨b, 1, none⟩ = some (.slice (some ⟨g, 0, none⟩) 0 0) := c1
 have HF := Lib.hid ((Below.drew (Below.refl b w)).alloc (Nat.le_of_lt hbk.lt) (.view ⟨g, 0, none⟩ 5))
 clear hg
 have hUS := bunsafe_none
 clear hbk
 go_enter Tryz.func139, Tryz.ntmps139
 go_wp2_with fail
 go_region
 all_goals (go_wp2_with fail; go_ret; exact ⟨by rw [bstr_nil]; rfl, HF.out⟩)
theorem btext_any (b : Nat) (S : Str) (w : World) (h : Wb w b S) (hm : S.length ≤ 100000000) :
 Calls Tryz.prog 139 #[.pointer (some ⟨b, 0, none⟩)] w (RetTextB w b S) := by
 by_cases h0 : S = []
 · subst h0
   obtain ⟨p, v, hbk, hown⟩ := h.p
   rcases hown.2 with ⟨rfl, _⟩ | ⟨g, cap, cur, rfl, _, hg, _⟩
   · exact btext_nil b p w hbk
   · by_cases hc : cap = 0
     · subst hc; exact btext_noroom b g p cur w hbk hg
     · exact btext_room b g cap p w hc hbk
 · exact btext_some b S w h h0 hm

end Go.Proofs.YthcdppppppgckaaGreatDoor
