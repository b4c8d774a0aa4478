/- group.which: those of a list of which something holds. -/
import Derived.Test.YtkphgonbbhlnfaaGSmall
namespace Go.Proofs.Ytkphgonbbhlnfaa
open Go.RowKit Go.Lib Go.Sort

set_option maxHeartbeats 1000000 in
theorem which_any (v : Value) (C : List Str) (f : Nat) (bs lb : Array Value) (p : Str → Bool) (w : World) (hv : Strs w v C) (hl : C.length ≤ 8796093022200) (hcf : ∀ args w', (callFunc f args).run Try.prog w' = .ok (.enter f args) w')
    (hf : ∀ x W, x.length ≤ maxLen → Below w.heap.size w W → Calls Try.prog f (bs.push (.string (bstr x)) ++ lb) W fun e W' => e = .returned (.bool (p x)) ∧ Below W.heap.size W W') :
    Calls Try.prog 47 #[v, .func (.func f) bs lb] w (RetStrs w (C.filter p)) := by
  obtain ⟨bb, off, hm, hlen, hidx, hcell⟩ := hv.facts
  have HW := Lib.hid hv.len
  have HF := Lib.hid hf
  obtain ⟨i0, hi, hz0, hz1, hz2⟩ := info_parts infoAddr
  clear hv hf
  go_enter Try.func47, Try.ntmps47
  go_wp2
  go_loopw [5, 10] (fun l i wr => ∃ k : Nat, k ≤ C.length ∧ i = .int .i64 k ∧ wr.ownsRow w.heap.size 25 1 l ((C.take k).filter p).length (((C.take k).filter p).map encStr) ∧ Below w.heap.size w wr) (fun _ i _ => C.length - (intOf i).toNat)
  case atStart => exact ⟨0, Nat.zero_le _, rfl, World.ownsRow_nil _ _ _ _, Below.refl _ _⟩
  case round =>
    obtain ⟨k, hk, rfl, hown, hbel⟩ := hrel
    by_cases hlt : k < C.length
    · have hp := hidx k hlt
      have hce := (hbel.cell (p := ⟨bb, off + k, none⟩) (hcell k hlt).1).trans (hcell k hlt).2
      obtain ⟨x, hx⟩ : ∃ x, x = C.getD k [] := ⟨_, rfl⟩
      rw [← hx, enc_bstr] at hce
      have hxk : C[k] = x := by rw [hx]; simp [List.getD_eq_getElem?_getD, hlt]
      have HT := Lib.hid (show (C.take (k + 1)).filter p = (C.take k).filter p ++ (if p x then [x] else []) by
        rw [take_snoc C k hlt, hxk, List.filter_append, List.filter_cons, List.filter_nil])
      have hfl : ((C.take k).filter p).length ≤ k := Nat.le_trans (List.length_filter_le _ _) (by simp; omega)
      have HX := Lib.hid (HF.out x wr (HW.out x (hxk ▸ List.getElem_mem hlt)) hbel)
      clear hidx hcell hx hxk
      cases hpx : p x
      · rw [hpx] at HX HT
        have HE := Lib.hid (show (C.take (k + 1)).filter p = (C.take k).filter p by rw [HT.out]; simp)
        clear hpx HT
        go_wp2_with ((with_reducible refine HX.out.mono ?_); rintro e w2 ⟨rfl, hb2⟩)
        go_roundw
        case rel => exact ⟨k + 1, by omega, by go_num, by rw [HE.out]; exact own_below hown hb2, hbel.trans (hb2.mono hbel.size)⟩
        case measure => simp [intOf]; omega
      · rw [hpx] at HX HT
        have HE := Lib.hid (show (C.take (k + 1)).filter p = (C.take k).filter p ++ [x] by rw [HT.out]; simp)
        clear hpx HT
        have hc3 : ((C.take k).filter p).length + 1 ≤ maxLen := by unfold maxLen; omega
        have hc4 : (((C.take k).filter p).length + 1) * 16 ≤ 140737488355328 := by omega
        have HO := Lib.hid hown
        clear hown hfl
        go_wp2_with (first | (at_builtin; refine wpList_append_own _ rfl _ _ 35 rfl w.heap.size 25 i0 (.string ⟨#[]⟩) 1 16 Try.underlying35 hi hz0 hz1 hz2 rfl (by decide) _ _ _ rfl ((own_below HO.out hb2).alloc _) ⟨w2.heap.size, 0, none⟩ 1 1 [.string (bstr x)] rfl rfl (cell_one_new _ _ _) (ones_str x) hc3 hc4 (by have h1 := hbel.size; have h2 := hb2.size; simp; omega) ?_; intro v' w3 hown3 hg3 _) | ((with_reducible refine HX.out.mono ?_); rintro e w2 ⟨rfl, hb2⟩))
        go_roundw
        case rel =>
          have hb12 := hbel.trans (hb2.mono hbel.size)
          have ho2 := own_below HO.out hb2
          refine ⟨k + 1, by omega, by go_num, ?_, below_own (hb12.alloc hb12.size _) (ho2.alloc _) (Nat.le_refl _) (by have := hb12.size; simp; omega) hg3⟩
          rw [HE.out, List.length_append, List.map_append]
          rw [← enc_bstr] at hown3
          exact hown3
        case measure => simp [intOf]; omega
    · have HL := Lib.hid (show C.take k = C from List.take_of_length_le (by omega))
      rw [HL.out] at hown
      have hfl : (C.filter p).length ≤ C.length := List.length_filter_le _ _
      have HO := Lib.hid hown
      have HB := Lib.hid hbel
      clear hidx hcell hown HL hbel
      go_wp2
      go_ret
      exact ⟨_, rfl, Strs.own HO.out (by omega) (fun x hx => HW.out x (List.mem_filter.1 hx).1), HB.out, Lies.own HO.out⟩
end Go.Proofs.Ytkphgonbbhlnfaa
