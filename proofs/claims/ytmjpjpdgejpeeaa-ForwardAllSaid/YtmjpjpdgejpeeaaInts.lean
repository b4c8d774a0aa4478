/- Contracts of the small functions on slices of ints: siphonref12.Has, siphonref12.SameInts, slices.Contains, each for every slice. -/
import Derived.Test.YtmjpjpdgejpeeaaBase
import Derived.Test.YtmjpjpdgejpeeaaShelf
namespace Go.Proofs.Ytmjpjpdgejpeeaa
open Go.RowKit

theorem contains_snoc (L : List Int) (x : Int) (k : Nat) (h : k < L.length) : (L.take (k + 1)).contains x = ((L.take k).contains x || L[k] == x) := by
  rw [take_snoc L k h, Bool.eq_iff_iff, List.contains_iff_mem, List.mem_append, Bool.or_eq_true, List.contains_iff_mem, List.mem_singleton, beq_iff_eq, eq_comm (a := x)]

set_option maxHeartbeats 400000 in
theorem has_any (v : Value) (L : List Int) (x : Int) (w : World) (h : Ints w v L) :
    Calls Try.prog 18 #[v, .int .i64 x] w fun e w' => e = .returned (.bool (L.contains x)) ∧ w = w' := by
  obtain ⟨b, off, hm, hlen, hidx, hc⟩ := h.facts
  clear h
  go_enter Try.func18, Try.ntmps18
  go_wp2
  go_loop [5] (fun i => ∃ k : Nat, k ≤ L.length ∧ i = .int .i64 k ∧ (L.take k).contains x = false) (fun i => L.length - (intOf i).toNat)
  case atStart => exact ⟨0, Nat.zero_le _, rfl, by simp⟩
  case round =>
    obtain ⟨k, hk, rfl, hn⟩ := hrel
    by_cases hlt : k < L.length
    · have HN : Hid ((L.take (k + 1)).contains x = (L[k] == x)) := by rw [contains_snoc L x k hlt, hn]; rfl
      have HF : Hid ((L[k] == x) = true → L.contains x = true) := by
        intro h
        have : L[k] = x := by simpa using h
        simp [← this]
      have hp := hidx k hlt
      have hcell := (hc k hlt).2
      clear hidx hc hn
      go_wp2
      · go_ret
        have h : (L[k] == x) = true := by assumption
        exact ⟨by simpa using HF.out h, rfl⟩
      · go_round
        case rel => 
          have h : (L[k] == x) = false := by assumption
          exact ⟨k + 1, by omega, by go_num, HN.out.trans h⟩
        case measure => simp [intOf]; omega
    · have HN : Hid (L.contains x = false) := by rw [List.take_of_length_le (by omega)] at hn; exact hn
      clear hidx hc hn
      go_wp2
      go_ret
      exact ⟨by simpa using HN.out, rfl⟩

theorem contains_any (v : Value) (L : List Int) (x : Int) (w : World) (h : Ints w v L) :
    Calls Try.prog 21 #[v, .int .i64 x] w fun e w' => e = .returned (.bool (L.contains x)) ∧ w = w' := by
  obtain ⟨ao, cap, b, off, rfl, h0, h1, h2, h3⟩ := h
  rcases h0 with rfl | rfl
  · exact (Try.slices_Contains_int_empty ao cap x w).mono fun e w' h => ⟨by rw [h.1]; simp, h.2.symm⟩
  · refine (Try.slices_Contains_int b off L.length cap L x w (Nat.le_refl _) (by omega) (fun j hj => (h3 j hj).2)).mono fun e w' h => ⟨by rw [h.1, List.take_length], h.2.symm⟩

theorem take_eq_snoc (A B : List Int) (k : Nat) (ha : k < A.length) (hb : k < B.length) (h : A.take k = B.take k) : (A.take (k + 1) = B.take (k + 1)) ↔ A[k] = B[k] := by
  rw [take_snoc A k ha, take_snoc B k hb, h, List.append_cancel_left_eq]
  simp only [List.cons.injEq, and_true]

set_option maxHeartbeats 800000 in
theorem same_any (v u : Value) (A B : List Int) (w : World) (h : Ints w v A) (h' : Ints w u B) :
    Calls Try.prog 13 #[v, u] w fun e w' => e = .returned (.bool (A == B)) ∧ ∃ n, w' = w.drewN n := by
  obtain ⟨b, off, hm, hlen, hidx, hc⟩ := h.facts
  obtain ⟨b', off', hm', hlen', hidx', hc'⟩ := h'.facts
  clear h h'
  by_cases hl : A.length = B.length
  · have hne : ((A.length : Int) != (B.length : Int)) = false := by rw [hl]; simp
    have HL := Lib.hid hl
    have hle : A.length ≤ B.length := by omega
    have hle' : B.length ≤ A.length := by omega
    clear hl
    go_enter Try.func13, Try.ntmps13
    go_wp2
    go_loopw [5] (fun i wr => ∃ k : Nat, k ≤ A.length ∧ i = .int .i64 k ∧ A.take k = B.take k ∧ ∃ n, wr = w.drewN n) (fun i _ => A.length - (intOf i).toNat)
    case atStart => exact ⟨0, Nat.zero_le _, rfl, by simp, 0, rfl⟩
    case round =>
      obtain ⟨k, hk, rfl, hn, n, rfl⟩ := hrel
      have HN := Lib.hid hn
      by_cases hlt : k < A.length
      · have hlt' : k < B.length := by omega
        have HS := Lib.hid (take_eq_snoc A B k hlt hlt' hn)
        have hp := hidx k hlt
        have hcell := (hc k hlt).2
        have hp' := hidx' k hlt'
        have hcell' := (hc' k hlt').2
        clear hidx hc hidx' hc' hn
        go_wp2
        go_quiet (fail)
        go_wp2
        · go_ret
          have h : (A[k] != B[k]) = true := by assumption
          refine ⟨ret_bool ?_, n + nq, by simp⟩
          symm
          rw [beq_eq_false_iff_ne]
          rintro rfl
          simp at h
        · go_roundw
          case rel =>
            have h : (A[k] != B[k]) = false := by assumption
            exact ⟨k + 1, by omega, by go_num, HS.out.2 (by simpa using h), n + nq, rfl⟩
          case measure => simp [intOf]; omega
      · have HE : Hid (A = B) := by
          rw [List.take_of_length_le (by omega), List.take_of_length_le (by omega)] at hn
          exact hn
        clear hidx hc hidx' hc' hn
        go_wp2
        go_ret
        exact ⟨ret_bool (by simp [HE.out]), n, rfl⟩
  · have hne : ((A.length : Int) != (B.length : Int)) = true := by rw [bne_iff_ne]; omega
    have HL := Lib.hid hl
    clear hl
    go_enter Try.func13, Try.ntmps13
    go_wp2
    go_ret
    refine ⟨ret_bool ?_, 0, rfl⟩
    symm
    rw [beq_eq_false_iff_ne]
    rintro rfl
    exact HL.out rfl

end Go.Proofs.Ytmjpjpdgejpeeaa
