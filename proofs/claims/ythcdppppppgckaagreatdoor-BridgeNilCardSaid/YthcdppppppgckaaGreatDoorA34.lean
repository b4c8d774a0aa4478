/- Texts joined into one file: JOct, JRef1, BEth. -/
import Derived.Test.YthcdppppppgckaaGreatDoorA33
import Derived.Test.YthcdppppppgckaaGreatDoorA04
import Derived.LoopN
import Derived.Deep.DeepCutAuto
import Derived.Laws.BitsAllLaws
import Derived.Laws.Bits64

namespace Go.Proofs.YthcdppppppgckaaGreatDoor
open Go.RowKit
set_option maxRecDepth 20000
set_option maxRecDepth 20000
attribute [local go_sem] bstr_size bstr_extract bstr_append bstr_toList

theorem numAt_succ (s : Str) (i k : Nat) (h : i + k < s.length) : numAt s i (k + 1) = numAt s i k * 256 + (s.getD (i + k) 0).toNat := by
 unfold numAt
 rw [List.take_succ_eq_append_getElem (by rw [List.length_drop]; omega), big_snoc]
 simp [List.getD_eq_getElem?_getD, h]
theorem numAt_lt (s : Str) (i k : Nat) : numAt s i k < 256 ^ k := by
 unfold numAt
 refine Nat.lt_of_lt_of_le (big_lt _) (Nat.pow_le_pow_right (by decide) ?_)
 rw [List.length_take]; omega

set_option maxHeartbeats 1000000 in
theorem number_any (s : Str) (i n : Nat) (w : World) (hin : i + n ≤ s.length) (hs : s.length ≤ maxLen) (hn : n ≤ 8) :
 Calls Tryz.prog 165 #[.string (bstr s), .int .i64 i, .int .i64 n] w fun e w' => e = .returned (.int .u64 (numAt s i n)) ∧ Below w.heap.size w w' := by
 have hmm : maxLen = 9223372036854775807 := rfl
 have hl : ((s.drop i).take n).length = n := by rw [List.length_take, List.length_drop]; omega
 have hin' : (i : Int) + n ≤ s.length := by omega
 obtain ⟨l, hL⟩ : ∃ l, l = (s.drop i).take n := ⟨_, rfl⟩
 obtain ⟨cap, w1, hrun, hb1, hsz, hby, _⟩ := run_bytes_b (P := Tryz.prog) w 9 234 5 l Tryz.underlying9 Tryz.underlying234 Tryz.underlying5
 rw [hL, hl, ← hL] at hrun
 have HN := Lib.hid (show ∀ k, k < n → numAt s i (k + 1) = numAt s i k * 256 + (l[k]?.getD 0).toNat from fun k hk => by
  rw [numAt_succ s i k (by omega), hL]
  simp [List.getD_eq_getElem?_getD, hk])
 have hby' := fun k (hk : k < n) => (hby k (by rw [hL, hl]; exact hk)).2
 have HB1 := Lib.hid hb1
 rw [hL] at hrun
 clear hby hb1 hsz hL hl
 go_enter Tryz.func165, Tryz.ntmps165
 go_wp2_with fail
 go_loop [6, 8, 17] (fun a _ j => ∃ k : Nat, k ≤ n ∧ j = .int .i64 k ∧ a = .int .u64 (numAt s i k)) (fun _ _ j => n - (intOf j).toNat)
 case atStart => exact ⟨0, Nat.zero_le _, rfl, rfl⟩
 case round =>
  obtain ⟨k, hk, rfl, rfl⟩ := hrel
  by_cases hlt : k < n
  · have hc := hby' k hlt
    have HK := Lib.hid (HN.out k hlt)
    have HA := Lib.hid (numAt_lt s i k)
    clear hby' HN
    go_wp2_with fail
    refine ⟨⟨k + 1, by omega, by go_num, ?_⟩, by simp [intOf]; omega⟩
    rw [HK.out, Int.natCast_add, Int.natCast_mul]
    have h2 : 256 ^ k ≤ 256 ^ 7 := Nat.pow_le_pow_right (by decide) (by omega)
    have h1 := HA.out
    have h3 := (l[k]?.getD 0).toNat_lt
    rw [show ((numAt s i k : Nat) : Int) * 256 = ((numAt s i k * 256 : Nat) : Int) by simp, IntKind.wrap_u64, IntKind.wrap_u64, Int.emod_eq_of_lt (by omega) (by omega), Int.emod_eq_of_lt (by omega) (by omega)]
    refine congrArg (Value.int .u64) ?_
    refine (u64_or_nat _ _ (by omega) (by omega)).trans ?_
    rw [nat_join 8 _ _ (by omega) (by omega)]
    simp
  · obtain rfl : k = n := by omega
    clear hby' HN
    go_wp2_with fail
    go_ret
    exact ⟨rfl, HB1.out⟩

theorem stands_any (s : Str) (i n : Nat) (w : World) (hs : s.length ≤ maxLen) (hi : i ≤ maxLen) :
 Calls Tryz.prog 164 #[.string (bstr s), .int .i64 i, .int .i64 n] w fun e w' => e = .returned (.bool (decide (i + n ≤ s.length))) ∧ w = w' := by
 have hmm : maxLen = 9223372036854775807 := rfl
 by_cases h : i ≤ s.length
 · have h' : decide ((i : Int) ≤ s.length) = true := decide_eq_true (by omega)
   have HE := Lib.hid (show decide ((n : Int) ≤ s.length - i) = decide (i + n ≤ s.length) from decide_eq_decide.2 (by omega))
   go_enter Tryz.func164, Tryz.ntmps164
   go_wp2_with fail
   go_ret
   exact ⟨ret_bool HE.out, rfl⟩
 · have h' : decide ((i : Int) ≤ s.length) = false := decide_eq_false (by omega)
   have HE := Lib.hid (show false = decide (i + n ≤ s.length) from (decide_eq_false (by omega)).symm)
   go_enter Tryz.func164, Tryz.ntmps164
   go_wp2_with fail
   go_ret
   exact ⟨ret_bool HE.out, rfl⟩

set_option maxRecDepth 100000 in
theorem get_any (s : Str) (i n : Nat) (w : World) (hs : s.length ≤ maxLen) (hi : i ≤ maxLen) (h1 : 1 ≤ n) (h4 : n ≤ 4) :
 Calls Tryz.prog 103 #[.string (bstr s), .int .i64 i, .int .i64 n] w fun e w' => e = .returned (.tuple #[.int .i64 (if i + n ≤ s.length then numAt s i n else 0 : Nat), .int .i64 (if i + n ≤ s.length then 0 else 2)]) ∧ Below w.heap.size w w' := by
 have hmm : maxLen = 9223372036854775807 := rfl
 have HS := Lib.hid (stands_any s i n w hs hi)
 have d1 : decide ((n : Int) < 1) = false := decide_eq_false (by omega)
 have d2 : decide ((4 : Int) < n) = false := decide_eq_false (by omega)
 by_cases h : i + n ≤ s.length
 · have HC := Lib.hid (number_any s i n w h hs (by omega))
   rw [decide_eq_true h] at HS
   have HW := Lib.hid (show (numAt s i n : Int) < 4294967296 from by have h5 := numAt_lt s i n; have h6 : 256 ^ n ≤ 256 ^ 4 := Nat.pow_le_pow_right (by decide) h4; omega)
   rw [if_pos h, if_pos h]
   obtain ⟨N, hN⟩ : ∃ N, N = numAt s i n := ⟨_, rfl⟩
   rw [← hN] at HC HW ⊢
   have HNW := Lib.hid (show IntKind.i64.wrap (N : Int) = N by rw [IntKind.wrap_i64]; have := HW.out; omega)
   clear hN HW
   clear h hs hi
   go_enter Tryz.func103, Tryz.ntmps103
   go_upto_region 5 with (first | ((with_reducible refine HS.out.mono ?_); rintro e w2 ⟨rfl, hw2⟩; subst w2))
   have hNw := HNW.out
   go_wp2_with (first | ((with_reducible refine HC.out.mono ?_); rintro e w2 ⟨rfl, hb2⟩; have HB2 := Lib.hid hb2; clear hb2))
   go_ret2
   exact ⟨rfl, HB2.out⟩
 · rw [decide_eq_false h] at HS
   rw [if_neg h, if_neg h]
   clear h hs hi
   go_enter Tryz.func103, Tryz.ntmps103
   go_wp2_with (first | ((with_reducible refine HS.out.mono ?_); rintro e w2 ⟨rfl, hw2⟩; subst w2))
   go_ret2
   exact ⟨rfl, Below.refl _ _⟩

def rowK (f : Nat → Int) (k n : Nat) : Array Value := ((List.range n).map fun j => Value.int .u8 (if j < k then f j else 0)).toArray
theorem rowK_at (f : Nat → Int) (k n j : Nat) (h : j < n) : (rowK f k n)[j]? = some (.int .u8 (if j < k then f j else 0)) := by simp [rowK, h]
theorem rowK_set (f : Nat → Int) (k n : Nat) (_hk : k < n) : (rowK f k n).setIfInBounds k (.int .u8 (f k)) = rowK f (k + 1) n := by
 apply Array.ext
 · simp [rowK]
 · intro j h1 h2
   simp [rowK]
   by_cases h : k = j
   · subst h; simp
   · simp [h]
     by_cases h3 : j < k
     · simp [h3, show j < k + 1 by omega]
     · simp [h3, show ¬ j < k + 1 by omega]
theorem made_rowK (f : Nat → Int) (n : Nat) : madeCells #[Value.int .u8 0] n = rowK f 0 n := by
 apply Array.ext
 · simp [madeCells, rowK]
 · intro j h1 h2
   simp [madeCells, rowK, Nat.mod_one]
theorem ofN_getD (k : Nat) : ∀ (n j : Nat), j < k → (ofN n k).getD j 0 = UInt8.ofNat (n / 256 ^ (k - 1 - j)) := by
 induction k with
 | zero => intro n j h; omega
 | succ k ih =>
   intro n j h
   unfold ofN
   by_cases e : j = k
   · subst e
     have : (ofN (n / 256) j).length = j := ofN_length _ _
     simp [List.getD_eq_getElem?_getD, this]
   · have hl : j < (ofN (n / 256) k).length := by rw [ofN_length]; omega
     have hi := ih (n / 256) j (by omega)
     rw [List.getD_eq_getElem?_getD] at hi ⊢
     rw [List.getElem?_append_left hl, hi, Nat.div_div_eq_div_mul, show k + 1 - 1 - j = (k - 1 - j) + 1 from by omega, Nat.pow_succ, Nat.mul_comm 256]

theorem infoByte8 : (Tryz.prog.info? 5).map (fun i => (i.zero, i.size, i.bytes)) = some (some (.int .u8 0), 1, 1) := by kernel_rfl

def byteF (n width j : Nat) : Int := ((n / 256 ^ (width - 1 - j) % 256 : Nat) : Int)
theorem byteOf_any (n width j b c : Nat) (w : World) (_hn : n < 18446744073709551616) (hw : width ≤ 8) (hj : j < width) (h1 : CBox w b 22 #[.int .u64 n]) (h2 : CBox w c 3 #[.int .i64 width]) :
 Calls Tryz.prog 253 #[.int .i64 j, .pointer (some ⟨b, 0, none⟩), .pointer (some ⟨c, 0, none⟩)] w fun e w' => e = .returned (.int .u8 (byteF n width j)) ∧ w = w' := by
 obtain ⟨x0, _⟩ := h1.at_ 0 _ rfl
 obtain ⟨y0, _⟩ := h2.at_ 0 _ rfl
 clear h1 h2
 go_enter Tryz.func253, Tryz.ntmps253
 go_wp2_with fail
 go_ret
 refine ⟨?_, rfl⟩
 show Ending.returned (.int .u8 ((n : Int) / 2 ^ (8 * (width - 1 - j)) % 256)) = _
 have : (2 : Int) ^ (8 * (width - 1 - j)) = ((256 ^ (width - 1 - j) : Nat) : Int) := by rw [Int.pow_mul]; simp
 rw [this]
 rfl

set_option maxHeartbeats 1000000 in
theorem bytes_any (n width : Nat) (w : World) (hn : n < 18446744073709551616) (hw : width ≤ 8) :
 Calls Tryz.prog 195 #[.int .u64 n, .int .i64 width] w fun e w' => e = .returned (.string (bstr (ofN n width))) ∧ Below w.heap.size w w' := by
 have hmm : maxLen = 9223372036854775807 := rfl
 obtain ⟨i0, hi, hz0, hz1, hz2⟩ := info_parts infoByte8
 have hmk := fun w => run_make (P := Tryz.prog) w 234 5 i0 _ Tryz.underlying234 hi hz0 .i64 .i64 (width : Int) width (by omega) (by omega) (by rw [hz2]; omega) (by omega)
 simp only [hz1, Nat.mul_one, Int.toNat_natCast] at hmk
 go_enter Tryz.func195, Tryz.ntmps195
 go_wp2_with fail
 rw [made_rowK (byteF n width) width]
 go_loopw [7, 13] (fun _ j wr => ∃ k, k ≤ width ∧ j = .int .i64 (k : Nat) ∧ CBox wr (w.heap.size + 1 + 1) 5 (rowK (byteF n width) k width) ∧ CBox wr w.heap.size 22 #[.int .u64 n] ∧ CBox wr (w.heap.size + 1) 3 #[.int .i64 width] ∧ Below w.heap.size w wr) (fun _ j _ => width - (intOf j).toNat)
 case atStart => exact ⟨0, Nat.zero_le _, rfl, CBox.new _ (by simp), ((CBox.new _ rfl).old _).old _, (CBox.new _ (by simp)).old _, (((Below.refl _ _).alloc (Nat.le_refl _) _).alloc (by simp) _).alloc (by simp; omega) _⟩
 case round =>
  obtain ⟨k, hk, rfl, hr, h1, h2, hb⟩ := hrel
  have HR := Lib.hid hr; have HB := Lib.hid hb
  by_cases hlt : k < width
  · have HC := Lib.hid (byteOf_any n width k _ _ wr hn hw hlt h1 h2)
    have H1 := Lib.hid h1; have H2 := Lib.hid h2
    obtain ⟨r0, rf⟩ := hr.at_ k _ (rowK_at _ _ _ _ hlt)
    clear hr hb h1 h2
    go_wp2_with ((with_reducible refine HC.out.mono ?_); rintro e w2 ⟨rfl, hw2⟩; subst w2)
    go_roundw
    case rel => exact ⟨k + 1, by omega, by go_num, by have h9 := HR.out.set k (.int .u8 (byteF n width k)); rw [rowK_set (byteF n width) k width hlt] at h9; exact h9, H1.out.far (by simp <;> omega) _, H2.out.far (by simp <;> omega) _, HB.out.setCell (by simp <;> omega) _⟩
    case measure => simp [intOf]; omega
  · obtain rfl : k = width := by omega
    have hst : (convert 234 9 (.slice (some ⟨w.heap.size + 1 + 1, 0, none⟩) k k)).run Tryz.prog wr = .ok (.string (bstr (ofN n k))) wr := by
     have h := run_string_b (P := Tryz.prog) wr 234 9 5 (w.heap.size + 1 + 1) k (ofN n k) Tryz.underlying234 Tryz.underlying5 Tryz.underlying9 (fun j hj => ⟨hr.lt, by
      rw [ofN_length] at hj
      rw [(hr.at_ j _ (rowK_at _ _ _ _ hj)).1, if_pos hj, ofN_getD _ _ _ hj, UInt8.toNat_ofNat', byteF]⟩)
     rw [ofN_length] at h
     exact h
    clear hr hb h1 h2
    go_wp2_with fail
    go_ret
    exact ⟨rfl, HB.out⟩

def okPut (n : Int) (width : Nat) : Bool := decide (0 ≤ n) && decide (n < 256 ^ width)
def putS (n : Int) (width : Nat) : Str := if okPut n width then ofN n.toNat width else []
set_option maxHeartbeats 1000000 in
theorem put_any (n : Int) (width : Nat) (w : World) (h1 : 1 ≤ width) (h4 : width ≤ 4) :
 Calls Tryz.prog 134 #[.int .i64 n, .int .i64 width] w fun e w' => e = .returned (.tuple #[.string (bstr (putS n width)), .int .i64 (if okPut n width then 0 else 1)]) ∧ Below w.heap.size w w' := by
 have d1 : decide ((width : Int) < 1) = false := decide_eq_false (by omega)
 have d2 : decide ((4 : Int) < width) = false := decide_eq_false (by omega)
 by_cases h0 : n < 0
 · have d3 : decide (n < 0) = true := decide_eq_true h0
   have hf : okPut n width = false := by unfold okPut; rw [decide_eq_false (by omega)]; rfl
   unfold putS
   rw [hf]
   clear hf h0
   go_enter Tryz.func134, Tryz.ntmps134
   go_wp2_with fail
   go_ret2
   exact ⟨by rw [bstr_nil]; rfl, Below.refl _ _⟩
 · obtain ⟨m, rfl⟩ : ∃ m : Nat, n = m := ⟨n.toNat, by omega⟩
   have d3 : decide ((m : Int) < 0) = false := decide_eq_false (by omega)
   have e8 : (2 : Int) ^ (8 * width) = ((256 ^ width : Nat) : Int) := by rw [Int.pow_mul]; simp
   by_cases hm : m < 256 ^ width
   · have ho : okPut m width = true := by unfold okPut; rw [decide_eq_true (by omega)]; simp; exact_mod_cast hm
     have HB := Lib.hid (bytes_any m width w (by have : 256 ^ width ≤ 256 ^ 4 := Nat.pow_le_pow_right (by decide) h4; omega) (by omega))
     have d4 : ((m : Int) / 2 ^ (8 * width) != 0) = false := by
      rw [e8, show (m : Int) / ((256 ^ width : Nat) : Int) = ((m / 256 ^ width : Nat) : Int) from rfl, Nat.div_eq_of_lt hm]; rfl
     have HM := Lib.hid (show IntKind.u64.wrap (m : Int) = m by rw [IntKind.wrap_u64]; have : 256 ^ width ≤ 256 ^ 4 := Nat.pow_le_pow_right (by decide) h4; omega)
     unfold putS
     rw [ho, Int.toNat_natCast]
     clear hm h0 ho e8
     go_enter Tryz.func134, Tryz.ntmps134
     go_upto_region 3 with fail
     have hM := HM.out
     go_wp2_with ((with_reducible refine HB.out.mono ?_); rintro e w2 ⟨rfl, hb2⟩; have HB2 := Lib.hid hb2; clear hb2)
     go_ret2
     exact ⟨rfl, HB2.out⟩
   · have ho : okPut m width = false := by unfold okPut; rw [decide_eq_true (by omega)]; simp; exact_mod_cast Nat.le_of_not_lt hm
     have d4 : ((m : Int) / 2 ^ (8 * width) != 0) = true := by
      rw [e8, show (m : Int) / ((256 ^ width : Nat) : Int) = ((m / 256 ^ width : Nat) : Int) from rfl]
      have : 0 < m / 256 ^ width := Nat.div_pos (by omega) (Nat.pow_pos (by decide))
      obtain ⟨d, hd⟩ : ∃ d, m / 256 ^ width = d := ⟨_, rfl⟩
      rw [hd] at this ⊢
      exact bne_iff_ne.2 (by omega)
     unfold putS
     rw [ho]
     clear hm h0 ho e8
     go_enter Tryz.func134, Tryz.ntmps134
     go_wp2_with fail
     go_ret2
     exact ⟨by rw [bstr_nil]; rfl, Below.refl _ _⟩

attribute [local go_sem] bstr_size bstr_extract bstr_append bstr_toList bstr_get

def rowD (f : Nat → Int) (k n : Nat) : Array Value := ((List.range n).map fun j => Value.int .u8 (if k ≤ j then f j else 0)).toArray
theorem rowD_at (f : Nat → Int) (k n j : Nat) (h : j < n) : (rowD f k n)[j]? = some (.int .u8 (if k ≤ j then f j else 0)) := by simp [rowD, h]
theorem rowD_set (f : Nat → Int) (k n : Nat) (_hk : k < n) : (rowD f (k + 1) n).setIfInBounds k (.int .u8 (f k)) = rowD f k n := by
 apply Array.ext
 · simp [rowD]
 · intro j h1 h2
   simp [rowD]
   by_cases h : k = j
   · subst h; simp
   · simp [h]
     by_cases h3 : k ≤ j
     · simp [h3, show k + 1 ≤ j by omega]
     · simp [h3, show ¬ k + 1 ≤ j by omega]
theorem made_rowD (f : Nat → Int) (n : Nat) : madeCells #[Value.int .u8 0] n = rowD f n n := by
 apply Array.ext
 · simp [madeCells, rowD]
 · intro j h1 h2
   have : ¬ n ≤ j := by simp [madeCells] at h1; omega
   simp [madeCells, rowD, Nat.mod_one, this]

theorem wrap_div (M : Nat) (h : M < 256 ^ 4) : wrap64 ((M : Int) / 256) = ((M / 256 : Nat) : Int) := by unfold wrap64; omega
theorem div_step (m k : Nat) : m / 256 ^ k / 256 = m / 256 ^ (k + 1) := by rw [Nat.div_div_eq_div_mul, Nat.pow_succ]
set_option maxHeartbeats 1000000 in
theorem rput_any (m width : Nat) (w : World) (h1 : 1 ≤ width) (h4 : width ≤ 4) (hm : m < 256 ^ width) :
 Calls Tryz.prog 102 #[.int .i64 m, .int .i64 width] w fun e w' => e = .returned (.tuple #[.string (bstr (ofN m width)), .int .i64 0]) ∧ Below w.heap.size w w' := by
 have d1 : decide ((width : Int) < 1) = false := decide_eq_false (by omega)
 have d2 : decide ((4 : Int) < width) = false := decide_eq_false (by omega)
 obtain ⟨i0, hi, hz0, hz1, hz2⟩ := info_parts infoByte8
 have hmk := fun w => run_make (P := Tryz.prog) w 234 5 i0 _ Tryz.underlying234 hi hz0 .i64 .i64 (width : Int) width (by omega) (by omega) (by rw [hz2]; omega) (by omega)
 simp only [hz1, Nat.mul_one, Int.toNat_natCast] at hmk
 have HM := Lib.hid hm
 have h44 : 256 ^ width ≤ 256 ^ 4 := Nat.pow_le_pow_right (by decide) h4
 have HM4 := Lib.hid (show ∀ k, m / 256 ^ k < 256 ^ 4 from fun k => Nat.lt_of_le_of_lt (Nat.div_le_self _ _) (by omega))
 clear hm h44
 go_enter Tryz.func102, Tryz.ntmps102
 go_wp2_with fail
 rw [made_rowD (byteF m width) width]
 go_loopw [0, 7] (fun a j wr => ∃ k, k ≤ width ∧ j = .int .i64 ((k : Int) - 1) ∧ a = .int .i64 (m / 256 ^ (width - k) : Nat) ∧ CBox wr w.heap.size 5 (rowD (byteF m width) k width) ∧ Below w.heap.size w wr) (fun _ j _ => (intOf j + 1).toNat)
 case atStart => exact ⟨width, Nat.le_refl _, by go_num, by simp, CBox.new _ rfl, (Below.refl _ _).alloc (Nat.le_refl _) _⟩
 case round =>
  obtain ⟨k, hk, rfl, rfl, hr, hb⟩ := hrel
  have HR := Lib.hid hr; have HB := Lib.hid hb
  by_cases hlt : 0 < k
  · obtain ⟨k, rfl⟩ : ∃ j, k = j + 1 := ⟨k - 1, by omega⟩
    obtain ⟨r0, rf⟩ := hr.at_ k _ (rowD_at _ _ _ _ (by omega))
    clear hr hb
    have HD := Lib.hid (div_step m (width - (k + 1)))
    obtain ⟨M, hM⟩ : ∃ M, M = m / 256 ^ (width - (k + 1)) := ⟨_, rfl⟩
    rw [← hM] at HD
    have HMB := Lib.hid (show M < 256 ^ 4 by rw [hM]; exact HM4.out _)
    have HF := Lib.hid (show ((M : Int) % 256) = byteF m width k by rw [hM]; unfold byteF; rw [show width - 1 - k = width - (k + 1) from by omega]; simp)
    have HW := Lib.hid (show width - k = width - (k + 1) + 1 from by omega)
    rw [← hM]
    clear hM
    go_wp2_with fail
    refine ⟨⟨k, by omega, rfl, ?_, by have h9 := HR.out.set k (.int .u8 (byteF m width k)); rw [rowD_set (byteF m width) k width (by omega)] at h9; rw [HF.out]; exact h9, HB.out.setCell (by simp) _⟩, by simp [intOf] <;> omega⟩
    refine congrArg (Value.int .i64) ?_
    rw [HW.out, ← HD.out]
    exact wrap_div _ HMB.out
  · obtain rfl : k = 0 := by omega
    have h0 : (m : Int) / 256 ^ width = 0 := by
     have h := HM.out
     rw [show (256 : Int) ^ width = ((256 ^ width : Nat) : Int) by simp, show (m : Int) / ((256 ^ width : Nat) : Int) = ((m / 256 ^ width : Nat) : Int) from rfl, Nat.div_eq_of_lt h]; rfl
    have hst : (convert 234 9 (.slice (some ⟨w.heap.size, 0, none⟩) width width)).run Tryz.prog wr = .ok (.string (bstr (ofN m width))) wr := by
     have h := run_string_b (P := Tryz.prog) wr 234 9 5 w.heap.size width (ofN m width) Tryz.underlying234 Tryz.underlying5 Tryz.underlying9 (fun j hj => ⟨hr.lt, by
      rw [ofN_length] at hj
      rw [(hr.at_ j _ (rowD_at _ _ _ _ hj)).1, if_pos (Nat.zero_le _), ofN_getD _ _ _ hj, UInt8.toNat_ofNat', byteF]⟩)
     rw [ofN_length] at h
     exact h
    clear hr hb
    go_wp2_with fail
    go_ret2
    exact ⟨rfl, HB.out⟩

theorem of_any (m width : Nat) (w : World) (h1 : 1 ≤ width) (h4 : width ≤ 4) (hm : m < 256 ^ width) :
 Calls Tryz.prog 55 #[.int .i64 m, .int .i64 width] w fun e w' => e = .returned (.string (bstr (ofN m width))) ∧ Below w.heap.size w w' := by
 have HC := Lib.hid (rput_any m width w h1 h4 hm)
 clear hm h1 h4
 go_enter Tryz.func55, Tryz.ntmps55
 go_wp2_with ((with_reducible refine HC.out.mono ?_); rintro e w2 ⟨rfl, hb2⟩; have HB2 := Lib.hid hb2; clear hb2)
 go_ret
 exact ⟨rfl, HB2.out⟩
end Go.Proofs.YthcdppppppgckaaGreatDoor

namespace Go.Proofs.YthcdppppppgckaaGreatDoor

structure Fr where
 dst : Str
 src : Str
 tagged : Bool
 vlan : Int
 prio : Int
 typ : Int
 data : Str
deriving DecidableEq
def frZero : Fr := ⟨[], [], false, 0, 0, 0, []⟩
instance : Inhabited Fr := ⟨frZero⟩
def inTo (n most : Int) : Bool := decide (0 ≤ n) && decide (n ≤ most)
def fineF (f : Fr) : Bool := decide (f.dst.length = 6) && decide (f.src.length = 6) && decide (f.data.length ≤ 2000) && inTo f.vlan 4094 && inTo f.prio 7 && inTo f.typ 65535 && (f.tagged || ((f.vlan == 0) && (f.prio == 0) && !(f.typ == 33024)))
def eEncS (f : Fr) : Str := f.dst ++ f.src ++ (if f.tagged then ofN 33024 2 ++ ofN (f.prio.toNat * 8192 + f.vlan.toNat) 2 else []) ++ ofN f.typ.toNat 2 ++ f.data
def eEnc (f : Fr) : Str × Int := if fineF f then (eEncS f, 0) else ([], 1)
def eDec (s : Str) : Fr × Int :=
 if s.length < 14 then (frZero, 2)
 else if numAt s 12 2 = 33024 then
  if s.length < 18 then (frZero, 2)
  else if numAt s 14 4 / 65536 / 4096 % 2 = 1 ∨ numAt s 14 4 / 65536 % 4096 = 4095 then (frZero, 3)
  else if 2000 < (s.drop 18).length then (frZero, 3)
  else (⟨s.take 6, (s.drop 6).take 6, true, (numAt s 14 4 / 65536 % 4096 : Nat), (numAt s 14 4 / 65536 / 8192 : Nat), (numAt s 14 4 % 65536 : Nat), s.drop 18⟩, 0)
 else if 2000 < (s.drop 14).length then (frZero, 3)
 else (⟨s.take 6, (s.drop 6).take 6, false, 0, 0, (numAt s 12 2 : Nat), s.drop 14⟩, 0)
def isMany (m : Str) : Bool := decide (m.length = 6) && decide ((m.getD 0 0).toNat % 2 = 1)

structure Pt where
 default_ : Int
 tagged : List Int
 plain : List Int
deriving DecidableEq
instance : Inhabited Pt := ⟨⟨0, [], []⟩⟩
def Pt.member (p : Pt) (v : Int) : Bool := p.tagged.contains v || p.plain.contains v
def risesGo : Int → List Int → Bool
 | _, [] => true
 | last, v :: l => decide (last < v) && decide (v ≤ 4094) && risesGo v l
def risesV (l : List Int) : Bool := risesGo 0 l
def Pt.fine (p : Pt) : Bool := risesV p.tagged && risesV p.plain && !(p.tagged.any fun v => p.plain.contains v) && ((p.default_ == 0) || p.member p.default_)
def vCheck (l : List Pt) : Int := if 1 ≤ l.length ∧ l.length ≤ 16 ∧ l.all Pt.fine = true then 0 else 3
def vIn (l : List Pt) (port : Int) (f : Fr) : Fr × Int :=
 if vCheck l ≠ 0 then (frZero, vCheck l)
 else if port < 0 ∨ (l.length : Int) ≤ port ∨ fineF f = false then (frZero, 1)
 else
  let p := l.getD port.toNat default
  let f := if f.vlan = 0 then { f with tagged := true, vlan := p.default_ } else f
  if f.vlan = 0 ∨ p.member f.vlan = false then (frZero, 6) else (f, 0)
def vOut (l : List Pt) (port : Int) (f : Fr) : Fr × Int :=
 if vCheck l ≠ 0 then (frZero, vCheck l)
 else if port < 0 ∨ (l.length : Int) ≤ port ∨ fineF f = false then (frZero, 1)
 else
  let p := l.getD port.toNat default
  if f.vlan = 0 then (frZero, 1)
  else if p.tagged.contains f.vlan then (f, 0)
  else if p.member f.vlan = false then (frZero, 6)
  else
   let g := { f with tagged := false, vlan := 0, prio := 0 }
   if fineF g then (g, 0) else (frZero, 6)
def vMembers (l : List Pt) (v : Int) : List Int := ((List.range l.length).filter fun i => (l.getD i default).member v).map Int.ofNat
end Go.Proofs.YthcdppppppgckaaGreatDoor
