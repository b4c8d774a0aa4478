/- Check of both packages. -/
import Derived.Test.YtjhaedhjbnhiaaaFil3
namespace Go.Proofs.Ytjhaedhjbnhiaaa
open Go.RowKit Go.Lib Go.Sort

def RisesTo (L : List Str) (k : Nat) : Prop := ∀ j, j + 1 < k → L.getD j [] < L.getD (j + 1) []
open Classical in
noncomputable def chk (L : List Str) : Int := if RisesTo L L.length then 0 else 3

theorem chk_yes {L : List Str} (h : RisesTo L L.length) : chk L = 0 := if_pos h
theorem chk_no {L : List Str} {k : Nat} (hk : k + 1 < L.length) (h : ¬ L.getD k [] < L.getD (k + 1) []) : chk L = 3 := if_neg fun H => h (H k hk)
theorem rises_zero (L : List Str) : RisesTo L 0 := fun j hj => by omega
theorem rises_one (L : List Str) : RisesTo L 1 := fun j hj => by omega
theorem rises_succ {L : List Str} {k : Nat} (h : RisesTo L (k + 1)) (hl : L.getD k [] < L.getD (k + 1) []) : RisesTo L (k + 2) := fun j hj => by
  by_cases e : j = k
  · subst e; exact hl
  · exact h j (by omega)
theorem rises_iff (L : List Str) : RisesTo L L.length ↔ L.Pairwise (· < ·) := by
  constructor
  · intro h
    rw [List.pairwise_iff_getElem]
    intro i j hi hj hij
    have key : ∀ d, ∀ hd : i + d + 1 < L.length, L[i] < L[i + d + 1] := by
      intro d
      induction d with
      | zero =>
        intro hd
        have := h i hd
        simpa [List.getD_eq_getElem?_getD, hi, hd] using this
      | succ d ih =>
        intro hd
        have h1 := ih (by omega)
        have h2 := h (i + d + 1) hd
        have h3 : L[i + d + 1] < L[i + d + 1 + 1] := by
          rw [List.getD_eq_getElem?_getD, List.getD_eq_getElem?_getD, List.getElem?_eq_getElem (show i + d + 1 < L.length by omega), List.getElem?_eq_getElem (show i + d + 1 + 1 < L.length by omega)] at h2
          exact h2
        exact slt_trans h1 h3
    obtain ⟨d, rfl⟩ : ∃ d, j = i + d + 1 := ⟨j - i - 1, by omega⟩
    exact key d hj
  · intro h j hj
    have := List.pairwise_iff_getElem.1 h j (j + 1) (by omega) hj (by omega)
    simpa [List.getD_eq_getElem?_getD, show j < L.length by omega, hj] using this

theorem ret_int {k : IntKind} {a b : Int} (h : a = b) : Ending.returned (.int k a) = .returned (.int k b) := by rw [h]

set_option maxHeartbeats 1000000 in
theorem check_any (e1 : Bool) (v : Value) (L : List Str) (w : World) (h : Strs w v L) :
    Calls Try.prog 13 #[.agg #[.bool e1, v]] w fun e w' => e = .returned (.int .i64 (chk L)) ∧ Below w.heap.size w w' := by
  have hm := h
  obtain ⟨ao, cap, rfl⟩ := h.shape
  have hba : Below w.heap.size w (w.alloc (.cells #[.bool e1, .slice ao L.length cap] 24)) := (Below.refl _ _).alloc (Nat.le_refl _) _
  obtain ⟨b, off, hml, hlen, hidx, hc⟩ := (h.mono hba).facts
  have HB := Lib.hid hba
  clear h hm hba
  have hbt := bstr_toList
  go_enter Try.func13, Try.ntmps13
  go_wp2
  go_loop [8] (fun i => ∃ k : Nat, k ≤ L.length ∧ i = .int .i64 k ∧ RisesTo L k) (fun i => L.length - (intOf i).toNat)
  case atStart => exact ⟨0, Nat.zero_le _, rfl, rises_zero _⟩
  case round =>
    obtain ⟨k, hk, rfl, hr⟩ := hrel
    have HR := Lib.hid hr
    clear hr
    by_cases hlt : k < L.length
    · have hp := hidx k hlt
      have hcell := (hc k hlt).2
      obtain ⟨x, hx⟩ : ∃ x, L.getD k [] = x := ⟨_, rfl⟩
      rw [hx, enc_bstr] at hcell
      by_cases hz : k = 0
      · subst hz
        have hp0 : ∀ w', (Instr.indexAt 22 (.slice ao L.length cap) (.int .i64 0)).run Try.prog w' = .ok (.pointer (some ⟨b, off, none⟩)) w' := fun w' => by simpa using hp w'
        rw [Nat.add_zero] at hcell
        clear hidx hc hx hp
        go_wp2
        go_round
        case rel => exact ⟨1, by omega, by go_num, rises_one _⟩
        case measure => simp [intOf]; omega
      · obtain ⟨m, rfl⟩ : ∃ m, k = m + 1 := ⟨k - 1, by omega⟩
        have hpo : ∀ w', (Instr.indexAt 22 (.slice ao L.length cap) (.int .i64 (((m + 1 : Nat) : Int) - 1))).run Try.prog w' = .ok (.pointer (some ⟨b, off + m, none⟩)) w' := by
          have := hidx m (by omega)
          rwa [show (m : Int) = ((m + 1 : Nat) : Int) - 1 from by omega] at this
        have hpm := hidx m (by omega)
        have hpk : ∀ w', (Instr.indexAt 22 (.slice ao L.length cap) (.int .i64 ((m : Int) + 1))).run Try.prog w' = .ok (.pointer (some ⟨b, off + (m + 1), none⟩)) w' := by
          rwa [show ((m + 1 : Nat) : Int) = (m : Int) + 1 from by omega] at hp
        have hcell' := (hc m (by omega)).2
        obtain ⟨y, hy⟩ : ∃ y, L.getD m [] = y := ⟨_, rfl⟩
        rw [hy, enc_bstr] at hcell'
        have HX := Lib.hid (And.intro hx hy)
        clear hidx hc hx hy
        by_cases hyx : y < x
        · have hd : Op.bytesLess y x = true := by rw [Go.Proofs.bytesLess_eq]; exact decide_eq_true hyx
          have HN := Lib.hid (rises_succ HR.out (by rw [HX.out.1, HX.out.2]; exact hyx))
          clear hyx hz
          go_wp2
          go_round
          case rel => exact ⟨m + 1 + 1, by omega, by go_num, HN.out⟩
          case measure => simp [intOf]; omega
        · have hd : Op.bytesLess y x = false := by rw [Go.Proofs.bytesLess_eq]; exact decide_eq_false hyx
          have HN := Lib.hid (chk_no hlt (by rw [HX.out.1, HX.out.2]; exact hyx))
          clear hyx hz
          go_wp2
          go_ret
          exact ⟨ret_int (by rw [HN.out]), HB.out⟩
    · have HN := Lib.hid (chk_yes (show RisesTo L L.length from fun j hj => HR.out j (by omega)))
      clear hidx hc
      go_wp2
      go_ret
      exact ⟨ret_int (by rw [HN.out]), HB.out⟩

set_option maxHeartbeats 1000000 in
theorem rcheck_any (e1 : Bool) (v : Value) (L : List Str) (w : World) (h : Strs w v L) :
    Calls Try.prog 17 #[.agg #[.bool e1, v]] w fun e w' => e = .returned (.int .i64 (chk L)) ∧ Below w.heap.size w w' := by
  have hm := h
  obtain ⟨ao, cap, rfl⟩ := h.shape
  have hba : Below w.heap.size w (w.alloc (.cells #[.bool e1, .slice ao L.length cap] 24)) := (Below.refl _ _).alloc (Nat.le_refl _) _
  obtain ⟨b, off, hml, hlen, hidx, hc⟩ := (h.mono hba).facts
  have HB := Lib.hid hba
  clear h hm hba
  have hbt := bstr_toList
  go_enter Try.func17, Try.ntmps17
  go_wp2
  go_loopw [3] (fun i wr => ∃ k : Nat, (k = L.length ∨ k < L.length) ∧ i = .int .i64 ((k : Int) + 1) ∧ RisesTo L (k + 1) ∧ ∃ n, wr = (w.alloc (.cells #[.bool e1, .slice ao L.length cap] 24)).drewN n) (fun i _ => L.length + 1 - (intOf i).toNat)
  case atStart => exact ⟨0, by omega, rfl, rises_one _, 0, rfl⟩
  case round =>
    obtain ⟨m, hk, rfl, hr, n, rfl⟩ := hrel
    have HR := Lib.hid hr
    clear hr
    by_cases hlt : m + 1 < L.length
    · have hp : ∀ w', (Instr.indexAt 22 (.slice ao L.length cap) (.int .i64 ((m : Int) + 1))).run Try.prog w' = .ok (.pointer (some ⟨b, off + (m + 1), none⟩)) w' := by
        have := hidx (m + 1) hlt
        rwa [show ((m + 1 : Nat) : Int) = (m : Int) + 1 from by omega] at this
      have hpo : ∀ w', (Instr.indexAt 22 (.slice ao L.length cap) (.int .i64 ((m : Int) + 1 - 1))).run Try.prog w' = .ok (.pointer (some ⟨b, off + m, none⟩)) w' := by
        have := hidx m (by omega)
        rwa [show (m : Int) = (m : Int) + 1 - 1 from by omega] at this
      have hpo' := hidx m (by omega)
      have hcell := (hc (m + 1) hlt).2
      have hcell' := (hc m (by omega)).2
      obtain ⟨x, hx⟩ : ∃ x, L.getD (m + 1) [] = x := ⟨_, rfl⟩
      rw [hx, enc_bstr] at hcell
      obtain ⟨y, hy⟩ : ∃ y, L.getD m [] = y := ⟨_, rfl⟩
      rw [hy, enc_bstr] at hcell'
      have HX := Lib.hid (And.intro hx hy)
      have hk' : m ≤ L.length := by omega
      clear hidx hc hx hy hk
      by_cases hyx : y < x
      · have hd : Op.bytesLess y x = true := by rw [Go.Proofs.bytesLess_eq]; exact decide_eq_true hyx
        have HN := Lib.hid (rises_succ HR.out (by rw [HX.out.1, HX.out.2]; exact hyx))
        clear hyx
        go_wp2
        go_quiet (fail)
        go_wp2
        go_roundw
        case rel => exact ⟨m + 1, by omega, by go_num, HN.out, _, rfl⟩
        case measure => simp [intOf]; omega
      · have hd : Op.bytesLess y x = false := by rw [Go.Proofs.bytesLess_eq]; exact decide_eq_false hyx
        have HN := Lib.hid (chk_no hlt (by rw [HX.out.1, HX.out.2]; exact hyx))
        clear hyx
        go_wp2
        go_quiet (fail)
        go_wp2
        go_ret
        exact ⟨ret_int (by rw [HN.out]), below_draws _ (below_draws _ HB.out _) _⟩
    · have HN := Lib.hid (chk_yes (show RisesTo L L.length from fun j hj => HR.out j (by omega)))
      have hk' : m ≤ L.length := by omega
      clear hidx hc hk
      go_wp2
      go_ret
      exact ⟨ret_int (by rw [HN.out]), below_draws _ HB.out _⟩
end Go.Proofs.Ytjhaedhjbnhiaaa
