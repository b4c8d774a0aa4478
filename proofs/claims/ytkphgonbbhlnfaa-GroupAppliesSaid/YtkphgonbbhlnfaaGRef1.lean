/- siphonref17.Names, at. -/
import Derived.Test.YtkphgonbbhlnfaaGAdm
namespace Go.Proofs.Ytkphgonbbhlnfaa
open Go.RowKit Go.Lib Go.Maps Go.Sort

def nmL (L : List Tmd) (blk : Bool) : List Str := (L.filter fun t => (t.2 == 0) == blk).map Prod.fst
theorem nmL_snoc (L : List Tmd) (blk : Bool) (k : Nat) (h : k < L.length) : nmL (L.take (k + 1)) blk = nmL (L.take k) blk ++ (if (L[k].2 == 0) == blk then [L[k].1] else []) := by
  unfold nmL
  rw [take_snoc L k h, List.filter_append, List.map_append, List.filter_cons, List.filter_nil]
  split <;> rfl
theorem nmL_len (L : List Tmd) (blk : Bool) : (nmL L blk).length ≤ L.length := by unfold nmL; rw [List.length_map]; exact List.length_filter_le _ _

set_option maxHeartbeats 4000000 in
theorem rnames_any (ex : Bool) (at' : Int) (v : Value) (L : List Tmd) (blk : Bool) (w : World) (h : Tms w v L) :
    Calls Try.prog 28 #[.agg #[.bool ex, .int .i64 at', v], .bool blk] w (RetStrs w (nmL L blk)) := by
  obtain ⟨ao, cap, rfl⟩ := h.shape
  obtain ⟨i0, hi, hz0, hz1, hz2⟩ := info_parts infoAddr
  obtain ⟨W0, hW0⟩ : ∃ W0, W0 = w.alloc (.cells #[.bool ex, .int .i64 at', .slice ao L.length cap] 24) := ⟨_, rfl⟩
  have hb0 : Below w.heap.size w W0 := by rw [hW0]; exact (Below.refl _ _).alloc (Nat.le_refl _) _
  have s1 : CBox W0 w.heap.size 24 #[.bool ex, .int .i64 at', .slice ao L.length cap] := by rw [hW0]; exact CBox.new _ rfl
  obtain ⟨b, off, hm, hlen, hidx, hc⟩ := (h.mono hb0).facts
  have HWF := Lib.hid h.wfs
  have S1 := Lib.hid s1
  have HB := Lib.hid hb0
  have hs0 : w.heap.size < W0.heap.size := s1.lt
  clear h hb0 s1
  go_enter Try.func28, Try.ntmps28
  go_wp2_with fail
  rw [← hW0]
  have HW0 := Lib.hid hW0
  clear hW0
  go_loopw [5, 6] (fun o i wr => ∃ k : Nat, k ≤ L.length ∧ i = .int .i64 k ∧ wr.ownsRow W0.heap.size 25 1 o (nmL (L.take k) blk).length ((nmL (L.take k) blk).map encStr) ∧ Below W0.heap.size W0 wr) (fun _ i _ => L.length - (intOf i).toNat)
  case atStart => exact ⟨0, Nat.zero_le _, rfl, World.ownsRow_nil _ _ _ _, Below.refl _ _⟩
  case round =>
    obtain ⟨k, hk, rfl, hown, hbel⟩ := hrel
    obtain ⟨x2, _⟩ := (S1.out.below hbel hs0).at_ 2 _ rfl
    by_cases hlt : k < L.length
    · obtain ⟨⟨s, n⟩, hs⟩ : ∃ s, L.getD k default = s := ⟨_, rfl⟩
      obtain ⟨hlb, c0, c1⟩ := hc k hlt
      rw [hs] at c0 c1
      have d0 := (hbel.cell (p := ⟨b, off + k * 2, none⟩) hlb).trans c0
      have d1 := (hbel.cell (p := ⟨b, off + k * 2 + 1, none⟩) hlb).trans c1
      have hp := hidx k hlt
      have hL : L[k] = (s, n) := by rw [← hs]; simp [List.getD_eq_getElem?_getD, hlt]
      have HT := Lib.hid (show nmL (L.take (k + 1)) blk = nmL (L.take k) blk ++ (if (n == 0) == blk then [s] else []) from by rw [nmL_snoc L blk k hlt, hL])
      have hfl : (nmL (L.take k) blk).length ≤ k := Nat.le_trans (nmL_len _ _) (by simp; omega)
      have hsz := hbel.size
      clear hidx hc c0 c1 hs hL
      cases hb : ((n == 0) == blk)
      · have HE := Lib.hid (show nmL (L.take (k + 1)) blk = nmL (L.take k) blk from by rw [HT.out, hb]; simp)
        clear HT
        go_wp2_with fail
        go_roundw
        case rel => exact ⟨k + 1, by omega, by go_num, by rw [HE.out]; exact hown, hbel⟩
        case measure => simp [intOf]; omega
      · have HE := Lib.hid (show nmL (L.take (k + 1)) blk = nmL (L.take k) blk ++ [s] from by rw [HT.out, hb]; simp)
        have hc3 : (nmL (L.take k) blk).length + 1 ≤ maxLen := by unfold maxLen; omega
        have hc4 : ((nmL (L.take k) blk).length + 1) * 16 ≤ 140737488355328 := by omega
        have HO := Lib.hid hown
        clear hown hfl HT
        go_wp2_with (at_builtin; refine wpList_append_own _ rfl _ _ 35 rfl W0.heap.size 25 i0 (.string ⟨#[]⟩) 1 16 Try.underlying35 hi hz0 hz1 hz2 rfl (by decide) _ _ _ rfl (HO.out.alloc _) ⟨wr.heap.size, 0, none⟩ 1 1 [.string (bstr s)] rfl rfl (cell_one_new _ _ _) (ones_str s) hc3 hc4 (by simp; omega) ?_; intro v' w3 hown3 hg3 _)
        go_roundw
        case rel =>
          refine ⟨k + 1, by omega, by go_num, ?_, below_own (hbel.alloc hsz _) (HO.out.alloc _) (Nat.le_refl _) (by simp; omega) hg3⟩
          rw [HE.out, List.length_append, List.map_append]
          rw [← enc_bstr] at hown3
          exact hown3
        case measure => simp [intOf]; omega
    · have HL := Lib.hid (show L.take k = L from List.take_of_length_le (by omega))
      rw [HL.out] at hown
      have hfl := nmL_len L blk
      have HO := Lib.hid hown
      clear hidx hc hown HL
      go_wp2_with fail
      go_ret
      refine ⟨_, rfl, Strs.own HO.out (by omega) (fun x hx => ?_), HB.out.trans (hbel.mono HB.out.size), (Lies.own HO.out).mono HB.out.size⟩
      obtain ⟨t, ht, rfl⟩ := List.mem_map.1 hx
      exact (HWF.out t (List.mem_filter.1 ht).1).1

def atL (L : List Tmd) (a : Str) : Int := ((L.find? fun t => t.1 == a).map Prod.snd).getD 0

set_option maxHeartbeats 2000000 in
theorem rat_any (ex : Bool) (at' : Int) (v : Value) (L : List Tmd) (a : Str) (w : World) (h : Tms w v L) :
    Calls Try.prog 56 #[.agg #[.bool ex, .int .i64 at', v], .string (bstr a)] w fun e w' => e = .returned (.int .i64 (atL L a)) ∧ Below w.heap.size w w' := by
  obtain ⟨ao, cap, rfl⟩ := h.shape
  obtain ⟨W0, hW0⟩ : ∃ W0, W0 = w.alloc (.cells #[.bool ex, .int .i64 at', .slice ao L.length cap] 24) := ⟨_, rfl⟩
  have hb0 : Below w.heap.size w W0 := by rw [hW0]; exact (Below.refl _ _).alloc (Nat.le_refl _) _
  have s1 : CBox W0 w.heap.size 24 #[.bool ex, .int .i64 at', .slice ao L.length cap] := by rw [hW0]; exact CBox.new _ rfl
  obtain ⟨b, off, hm, hlen, hidx, hc⟩ := (h.mono hb0).facts
  have HB := Lib.hid hb0
  obtain ⟨x2, _⟩ := s1.at_ 2 _ rfl
  have hbt := bstr_toList
  clear h hb0 s1
  go_enter Try.func56, Try.ntmps56
  go_wp2_with fail
  rw [← hW0]
  have HW0 := Lib.hid hW0
  clear hW0
  go_loop [5] (fun i => ∃ k : Nat, k ≤ L.length ∧ i = .int .i64 k ∧ (L.take k).find? (fun t => t.1 == a) = none) (fun i => L.length - (intOf i).toNat)
  case atStart => exact ⟨0, Nat.zero_le _, rfl, rfl⟩
  case round =>
    obtain ⟨k, hk, rfl, hn⟩ := hrel
    by_cases hlt : k < L.length
    · obtain ⟨⟨s, n⟩, hs⟩ : ∃ s, L.getD k default = s := ⟨_, rfl⟩
      obtain ⟨hlb, c0, c1⟩ := hc k hlt
      rw [hs] at c0 c1
      have hp := hidx k hlt
      have hL : L[k] = (s, n) := by rw [← hs]; simp [List.getD_eq_getElem?_getD, hlt]
      have HT := Lib.hid (show (L.take (k + 1)).find? (fun t => t.1 == a) = if s == a then some (s, n) else none from by
        rw [take_snoc L k hlt, List.find?_append, hn, hL]; simp [List.find?_cons]; split <;> simp_all)
      have HD := Lib.hid (show (L.take (k + 1)).find? (fun t => t.1 == a) = some (s, n) → atL L a = n from fun hf => by
        unfold atL
        have h2 : L.find? (fun t => t.1 == a) = some (s, n) := by
          rw [← List.take_append_drop (k + 1) L, List.find?_append, hf]; rfl
        rw [h2]; rfl)
      clear hidx hc hs hL hn
      cases hsa : (s == a)
      · have HN := Lib.hid (show (L.take (k + 1)).find? (fun t => t.1 == a) = none from by rw [HT.out, hsa]; rfl)
        clear HT HD
        go_wp2_with fail
        go_round
        case rel => exact ⟨k + 1, by omega, by go_num, HN.out⟩
        case measure => simp [intOf]; omega
      · have HN := Lib.hid (show atL L a = n from HD.out (by rw [HT.out, hsa]; rfl))
        clear HT HD
        go_wp2_with fail
        go_ret
        exact ⟨by rw [HN.out]; rfl, HB.out⟩
    · have HN := Lib.hid (show atL L a = 0 from by rw [List.take_of_length_le (by omega)] at hn; unfold atL; rw [hn]; rfl)
      clear hidx hc hn
      go_wp2_with fail
      go_ret
      exact ⟨by rw [HN.out]; rfl, HB.out⟩

theorem atL_asc {F : Str → Option Int} {L : List Tmd} (h : Asc F L) (a : Str) : atL L a = (F a).getD 0 := by
  unfold atL
  cases hf : L.find? fun t => t.1 == a
  · cases hF : F a
    · rfl
    · rename_i z
      obtain ⟨t, ht, e⟩ := List.mem_map.1 ((h.1.2 a).2 (by simp [hF]))
      have := List.find?_eq_none.1 hf t ht
      simp [e] at this
  · rename_i t
    have h1 := List.mem_of_find?_eq_some hf
    have h2 := List.find?_some hf
    have h3 : t.1 = a := by simpa using h2
    rw [← h3, h.2 t h1]
    rfl
end Go.Proofs.Ytkphgonbbhlnfaa
