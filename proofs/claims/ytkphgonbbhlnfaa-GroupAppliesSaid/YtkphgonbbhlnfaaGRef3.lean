/- siphonref11.Less, Both; siphonref17.join. -/
import Derived.Test.YtkphgonbbhlnfaaGRef2
namespace Go.Proofs.Ytkphgonbbhlnfaa
open Go.RowKit Go.Lib Go.Sort

set_option maxHeartbeats 2000000 in
theorem less_any (v u : Value) (A B : List Str) (w : World) (hv : Strs w v A) (hu : Strs w u B) :
    Calls Try.prog 54 #[v, u] w (RetStrs w ((sasc A).filter fun x => !B.contains x)) := by
  obtain ⟨i0, hi, hz0, hz1, hz2⟩ := info_parts infoAddr
  have HR := Lib.hid (srising_any v A w hv)
  have HW := Lib.hid (show ∀ x ∈ sasc A, x.length ≤ maxLen from fun x hx => hv.len x ((sasc_mem A x).1 hx))
  have HU := Lib.hid (fun x W (hb : Below w.heap.size w W) => shas_any u B x W (hu.mono hb))
  generalize sasc A = C at *
  obtain ⟨p, hp⟩ : ∃ p : Str → Bool, p = fun x => !B.contains x := ⟨_, rfl⟩
  have HP := Lib.hid (show ∀ x, p x = !B.contains x from fun x => by rw [hp])
  rw [← hp]
  clear hp
  clear hv hu
  go_enter Try.func54, Try.ntmps54
  go_wp2_with ((with_reducible refine HR.out.mono ?_); rintro e w1 ⟨o, rfl, hC, hb1, _⟩; obtain ⟨bb, off, hm, hlen, hidx, hcell⟩ := hC.facts)
  have HB1 := Lib.hid hb1
  clear hb1 hC HR
  go_loopw [5, 7] (fun l i wr => ∃ k : Nat, k ≤ C.length ∧ i = .int .i64 k ∧ wr.ownsRow w1.heap.size 25 1 l ((C.take k).filter p).length (((C.take k).filter p).map encStr) ∧ Below w1.heap.size w1 wr) (fun _ i _ => C.length - (intOf i).toNat)
  case atStart => exact ⟨0, Nat.zero_le _, rfl, World.ownsRow_nil _ _ _ _, Below.refl _ _⟩
  case round =>
    obtain ⟨k, hk, rfl, hown, hbel⟩ := hrel
    by_cases hlt : k < C.length
    · have hpk := hidx k hlt
      have hce := (hbel.cell (p := ⟨bb, off + k, none⟩) (hcell k hlt).1).trans (hcell k hlt).2
      obtain ⟨x, hx⟩ : ∃ x, x = C.getD k [] := ⟨_, rfl⟩
      rw [← hx, enc_bstr] at hce
      have hxk : C[k] = x := by rw [hx]; simp [List.getD_eq_getElem?_getD, hlt]
      have HT := Lib.hid (show (C.take (k + 1)).filter p = (C.take k).filter p ++ (if p x then [x] else []) by
        rw [take_snoc C k hlt, hxk, List.filter_append, List.filter_cons, List.filter_nil])
      have hfl : ((C.take k).filter p).length ≤ k := Nat.le_trans (List.length_filter_le _ _) (by simp; omega)
      have HX := Lib.hid (HU.out x wr (HB1.out.trans (hbel.mono HB1.out.size)))
      clear hidx hcell hx hxk
      cases hpx : B.contains x
      · rw [hpx] at HX
        have HE := Lib.hid (show (C.take (k + 1)).filter p = (C.take k).filter p ++ [x] by rw [HT.out, HP.out, hpx]; simp)
        clear hpx HT
        have hc3 : ((C.take k).filter p).length + 1 ≤ maxLen := by unfold maxLen; omega
        have hc4 : (((C.take k).filter p).length + 1) * 16 ≤ 140737488355328 := by omega
        have HO := Lib.hid hown
        have hsz := hbel.size
        clear hown hfl
        go_wp2_with (first | (at_builtin; refine wpList_append_own _ rfl _ _ 35 rfl w1.heap.size 25 i0 (.string ⟨#[]⟩) 1 16 Try.underlying35 hi hz0 hz1 hz2 rfl (by decide) _ _ _ rfl (HO.out.alloc _) ⟨wr.heap.size, 0, none⟩ 1 1 [.string (bstr x)] rfl rfl (cell_one_new _ _ _) (ones_str x) hc3 hc4 (by simp; omega) ?_; intro v' w3 hown3 hg3 _) | ((with_reducible refine HX.out.mono ?_); rintro e w2 ⟨rfl, rfl⟩))
        go_roundw
        case rel =>
          refine ⟨k + 1, by omega, by go_num, ?_, below_own (hbel.alloc hbel.size _) (HO.out.alloc _) (Nat.le_refl _) (by simp; omega) hg3⟩
          rw [HE.out, List.length_append, List.map_append]
          rw [← enc_bstr] at hown3
          exact hown3
        case measure => simp [intOf]; omega
      · rw [hpx] at HX
        have HE := Lib.hid (show (C.take (k + 1)).filter p = (C.take k).filter p by rw [HT.out, HP.out, hpx]; simp)
        clear hpx HT
        go_wp2_with ((with_reducible refine HX.out.mono ?_); rintro e w2 ⟨rfl, rfl⟩)
        go_roundw
        case rel => exact ⟨k + 1, by omega, by go_num, by rw [HE.out]; exact hown, hbel⟩
        case measure => simp [intOf]; omega
    · have HL := Lib.hid (show C.take k = C from List.take_of_length_le (by omega))
      rw [HL.out] at hown
      have hfl : (C.filter p).length ≤ C.length := List.length_filter_le _ _
      clear hidx hcell HL
      go_wp2
      go_ret
      exact ⟨_, rfl, Strs.own hown (by omega) (fun x hx => HW.out x (List.mem_filter.1 hx).1), HB1.out.trans (hbel.mono HB1.out.size), (Lies.own hown).mono HB1.out.size⟩
set_option maxHeartbeats 2000000 in
theorem rboth_any (v u : Value) (A B : List Str) (w : World) (hv : Strs w v A) (hu : Strs w u B) :
    Calls Try.prog 51 #[v, u] w (RetStrs w ((sasc A).filter fun x => B.contains x)) := by
  obtain ⟨i0, hi, hz0, hz1, hz2⟩ := info_parts infoAddr
  have HR := Lib.hid (srising_any v A w hv)
  have HW := Lib.hid (show ∀ x ∈ sasc A, x.length ≤ maxLen from fun x hx => hv.len x ((sasc_mem A x).1 hx))
  have HU := Lib.hid (fun x W (hb : Below w.heap.size w W) => shas_any u B x W (hu.mono hb))
  generalize sasc A = C at *
  obtain ⟨p, hp⟩ : ∃ p : Str → Bool, p = fun x => B.contains x := ⟨_, rfl⟩
  have HP := Lib.hid (show ∀ x, p x = B.contains x from fun x => by rw [hp])
  rw [← hp]
  clear hp
  clear hv hu
  go_enter Try.func51, Try.ntmps51
  go_wp2_with ((with_reducible refine HR.out.mono ?_); rintro e w1 ⟨o, rfl, hC, hb1, _⟩; obtain ⟨bb, off, hm, hlen, hidx, hcell⟩ := hC.facts)
  have HB1 := Lib.hid hb1
  clear hb1 hC HR
  go_loopw [5, 7] (fun l i wr => ∃ k : Nat, k ≤ C.length ∧ i = .int .i64 k ∧ wr.ownsRow w1.heap.size 25 1 l ((C.take k).filter p).length (((C.take k).filter p).map encStr) ∧ Below w1.heap.size w1 wr) (fun _ i _ => C.length - (intOf i).toNat)
  case atStart => exact ⟨0, Nat.zero_le _, rfl, World.ownsRow_nil _ _ _ _, Below.refl _ _⟩
  case round =>
    obtain ⟨k, hk, rfl, hown, hbel⟩ := hrel
    by_cases hlt : k < C.length
    · have hpk := hidx k hlt
      have hce := (hbel.cell (p := ⟨bb, off + k, none⟩) (hcell k hlt).1).trans (hcell k hlt).2
      obtain ⟨x, hx⟩ : ∃ x, x = C.getD k [] := ⟨_, rfl⟩
      rw [← hx, enc_bstr] at hce
      have hxk : C[k] = x := by rw [hx]; simp [List.getD_eq_getElem?_getD, hlt]
      have HT := Lib.hid (show (C.take (k + 1)).filter p = (C.take k).filter p ++ (if p x then [x] else []) by
        rw [take_snoc C k hlt, hxk, List.filter_append, List.filter_cons, List.filter_nil])
      have hfl : ((C.take k).filter p).length ≤ k := Nat.le_trans (List.length_filter_le _ _) (by simp; omega)
      have HX := Lib.hid (HU.out x wr (HB1.out.trans (hbel.mono HB1.out.size)))
      clear hidx hcell hx hxk
      cases hpx : B.contains x
      · rw [hpx] at HX
        have HE := Lib.hid (show (C.take (k + 1)).filter p = (C.take k).filter p by rw [HT.out, HP.out, hpx]; simp)
        clear hpx HT
        go_wp2_with ((with_reducible refine HX.out.mono ?_); rintro e w2 ⟨rfl, rfl⟩)
        go_roundw
        case rel => exact ⟨k + 1, by omega, by go_num, by rw [HE.out]; exact hown, hbel⟩
        case measure => simp [intOf]; omega
      · rw [hpx] at HX
        have HE := Lib.hid (show (C.take (k + 1)).filter p = (C.take k).filter p ++ [x] by rw [HT.out, HP.out, hpx]; simp)
        clear hpx HT
        have hc3 : ((C.take k).filter p).length + 1 ≤ maxLen := by unfold maxLen; omega
        have hc4 : (((C.take k).filter p).length + 1) * 16 ≤ 140737488355328 := by omega
        have HO := Lib.hid hown
        have hsz := hbel.size
        clear hown hfl
        go_wp2_with (first | (at_builtin; refine wpList_append_own _ rfl _ _ 35 rfl w1.heap.size 25 i0 (.string ⟨#[]⟩) 1 16 Try.underlying35 hi hz0 hz1 hz2 rfl (by decide) _ _ _ rfl (HO.out.alloc _) ⟨wr.heap.size, 0, none⟩ 1 1 [.string (bstr x)] rfl rfl (cell_one_new _ _ _) (ones_str x) hc3 hc4 (by simp; omega) ?_; intro v' w3 hown3 hg3 _) | ((with_reducible refine HX.out.mono ?_); rintro e w2 ⟨rfl, rfl⟩))
        go_roundw
        case rel =>
          refine ⟨k + 1, by omega, by go_num, ?_, below_own (hbel.alloc hbel.size _) (HO.out.alloc _) (Nat.le_refl _) (by simp; omega) hg3⟩
          rw [HE.out, List.length_append, List.map_append]
          rw [← enc_bstr] at hown3
          exact hown3
        case measure => simp [intOf]; omega
    · have HL := Lib.hid (show C.take k = C from List.take_of_length_le (by omega))
      rw [HL.out] at hown
      have hfl : (C.filter p).length ≤ C.length := List.length_filter_le _ _
      clear hidx hcell HL
      go_wp2
      go_ret
      exact ⟨_, rfl, Strs.own hown (by omega) (fun x hx => HW.out x (List.mem_filter.1 hx).1), HB1.out.trans (hbel.mono HB1.out.size), (Lies.own hown).mono HB1.out.size⟩
set_option maxHeartbeats 2000000 in
theorem rjoin_any (v u : Value) (A B : List Str) (w : World) (hv : Strs w v A) (hu : Strs w u B) (hl : A.length + B.length ≤ 8796093022200) :
    Calls Try.prog 55 #[v, u] w (RetStrs w (sasc (A ++ B))) := by
  obtain ⟨ao, cap, rfl⟩ := hv.shape
  obtain ⟨bo, bcap, rfl⟩ := hu.shape
  obtain ⟨i0, hi, hz0, hz1, hz2⟩ := info_parts infoAddr
  have HV := Lib.hid hv.sliceOf
  have HU := Lib.hid (fun W' (hb : Below w.heap.size w W') => (hu.mono hb).sliceOf)
  have HW := Lib.hid (show ∀ x ∈ A ++ B, x.length ≤ maxLen from fun x hx => (List.mem_append.1 hx).elim (hv.len x) (hu.len x))
  have HN := Lib.hid (World.ownsRow_nil w w.heap.size 25 1)
  clear hv hu
  go_enter Try.func55, Try.ntmps55
  go_wp2_with (first | (at_builtin; refine wpList_append_vals _ rfl _ _ 35 rfl w.heap.size 25 i0 (.string ⟨#[]⟩) 1 16 Try.underlying35 hi hz0 hz1 hz2 rfl (by decide) (.slice none 0 0) 0 [] rfl HN.out _ A.length (A.map encStr) rfl HV.out (by unfold maxLen; omega) (by omega) (by simp) ?_; intro v1 w1 hown1 hg1 _; have hb1 := below_own (Below.refl w.heap.size _) HN.out (Nat.le_refl _) (by simp) hg1; have hs1 := hb1.size; have HB1 := Lib.hid hb1; have HO1 := Lib.hid hown1; clear hown1 hg1 hb1) | (at_builtin; refine wpList_append_vals _ rfl _ _ 35 rfl w.heap.size 25 i0 (.string ⟨#[]⟩) 1 16 Try.underlying35 hi hz0 hz1 hz2 rfl (by decide) v1 _ _ rfl HO1.out _ B.length (B.map encStr) rfl (HU.out _ HB1.out) (by unfold maxLen; omega) (by omega) hs1 ?_; intro v2 w2 hown2 hg2 _; have HS := Lib.hid (srising_any v2 (A ++ B) w2 (Strs.own (base := w.heap.size) (e := 25) (by simpa using hown2) (by simp; omega) HW.out)); have HB2 := Lib.hid (below_own HB1.out HO1.out (Nat.le_refl _) hs1 hg2); clear hown2 hg2) | ((with_reducible refine HS.out.mono ?_); rintro e w3 ⟨v3, rfl, hs3, hb3, hl3⟩; have HR := Lib.hid hs3; have HB3 := Lib.hid hb3; have HL := Lib.hid hl3; clear hs3 hb3 hl3))
  go_ret
  exact ⟨_, rfl, HR.out, HB2.out.trans (HB3.out.mono HB2.out.size), HL.out.mono HB2.out.size⟩
end Go.Proofs.Ytkphgonbbhlnfaa
