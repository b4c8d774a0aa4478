/- slices.Concat of two slices of strings, and filter.rising: the rising list of those of both that may stay. -/
import Derived.Test.YtjhaedhjbnhiaaaStrSort
import Derived.Test.YtjhaedhjbnhiaaaStrRising
import Derived.LoopN
namespace Go.Proofs.Ytjhaedhjbnhiaaa
open Go.RowKit Go.Lib Go.Sort

/-- the cells of a new block read as they were laid, in every world that has kept what was there -/
theorem box_cell {w w' : World} {c : Array Value} {t : TypeId} (hb : Below (w.alloc (.cells c t)).heap.size (w.alloc (.cells c t)) w') (j : Nat) (v : Value) (hj : c[j]? = some v) : w'.cell? ⟨w.heap.size, j, none⟩ = some v := by
  rw [hb.cell (p := ⟨w.heap.size, j, none⟩) (by simp)]
  rw [cell_of_row _ w.heap.size j c t (0, 0) (heap_alloc_new w _)]
  exact hj

theorem box_below {w w' : World} {o : Obj} (hb : Below (w.alloc o).heap.size (w.alloc o) w') : Below w.heap.size w w' :=
  ((Below.refl _ _).alloc (Nat.le_refl _) o).trans (hb.mono (by simp))

theorem own_below {w w' : World} {base : Nat} {e : TypeId} {size : Nat} {v : Value} {n : Nat} {xs : List Value} (h : w.ownsRow base e size v n xs) (hb : Below w.heap.size w w') : w'.ownsRow base e size v n xs :=
  h.kept (row := none) ⟨hb.os, hb.tape, hb.output, hb.size, fun k hk _ => hb.block k hk⟩ (by cases v.ownBlock <;> simp)

theorem sgrow_any (n : Nat) (x : Int) (hx : x = n) (w : World) (hn : n ≤ 8796093022208) :
    Calls Try.prog 48 #[.slice none 0 0, .int .i64 x] w fun e w' => ∃ v, e = .returned v ∧ w'.ownsRow w.heap.size 25 1 v 0 [] ∧ Below w.heap.size w w' := by
  subst hx
  by_cases hz : n = 0
  · subst hz
    exact (Try.slices_Grow_addr_none w).mono fun e w' h => ⟨_, h.1, by rw [h.2]; exact World.ownsRow_nil _ _ _ _, by rw [h.2]; exact Below.refl _ _⟩
  · obtain ⟨i0, hi, hz0, hz1, hz2⟩ := info_parts infoAddr
    refine (Try.slices_Grow_addr i0 _ hi hz0 (by rw [hz1]; omega) n w (by omega) (by rw [hz2]; omega) (by omega)).mono fun e w' h => ⟨_, h.1, ?_, ?_⟩
    · rw [h.2]
      have hge := grownCap_ge w n 0 25
      have hle := grownCap_le_maxLen w n 0 25 (by unfold maxLen; omega)
      simp only [Nat.zero_add, Nat.sub_zero]
      refine ⟨by simp, .inr ⟨w.heap.size, _, _, rfl, Nat.le_refl _, heap_alloc_new w.drew _, by omega, hle, ?_, by simp⟩⟩
      have hzc : ∀ k, (Builtin.zeroCells (Value.string ⟨#[]⟩).cells k).size = k := fun k => by simp [Builtin.zeroCells, Value.cells]
      simp only [Array.size_append, hzc]
      simp
      omega
    · rw [h.2]
      exact (Below.refl _ w).drew.alloc (by simp) _

set_option maxHeartbeats 1000000 in
theorem sconcat_any (b : Nat) (v u : Value) (A B : List Str) (w : World) (hv : Strs w v A) (hu : Strs w u B) (hb : b < w.heap.size) (h0 : w.cell? ⟨b, 0, none⟩ = some v) (h1 : w.cell? ⟨b, 1, none⟩ = some u) (hl : A.length + B.length ≤ 8796093022208) :
    Calls Try.prog 43 #[.slice (some ⟨b, 0, none⟩) 2 2] w (RetStrs w (A ++ B)) := by
  obtain ⟨_, _, _, hlenA, _, _⟩ := hv.facts
  obtain ⟨_, _, _, hlenB, _, _⟩ := hu.facts
  obtain ⟨i0, hi, hz0, hz1, hz2⟩ := info_parts infoAddr
  have HA := Lib.hid hv; have HB := Lib.hid hu; clear hv hu
  have HC := Lib.hid (And.intro h0 h1)
  go_enter Try.func43, Try.ntmps43
  go_wp2
  refine wp_loop_rounds 3 ?_
  rw [rounds_succ]
  go_wp2
  rw [rounds_succ]
  go_wp2
  rw [rounds_succ]
  go_wp2_with ((with_reducible refine (sgrow_any (A.length + B.length) _ (by omega) _ hl).mono ?_); rintro e w1 ⟨v0, rfl, hown, hbel⟩)
  have hs1 := hbel.size
  have c0 := (hbel.cell (p := ⟨b, 0, none⟩) hb).trans HC.out.1
  have c1 := (hbel.cell (p := ⟨b, 1, none⟩) hb).trans HC.out.2
  have HA1 := Lib.hid (HA.out.mono hbel); have HB1 := Lib.hid (HB.out.mono hbel)
  have HO := Lib.hid hown; have HBL := Lib.hid hbel
  clear h0 h1 hown hbel
  refine wp_loop_rounds 3 ?_
  rw [rounds_succ]
  go_wp2_with (at_builtin; refine wpList_append_vals _ rfl _ _ 22 rfl w.heap.size 25 i0 (.string ⟨#[]⟩) 1 16 Try.underlying22 hi hz0 hz1 hz2 rfl (by decide) _ _ _ rfl HO.out v A.length (A.map encStr) rfl HA1.out.sliceOf (by unfold maxLen; omega) (by omega) hs1 ?_; intro v1 w2 hown2 hg2 _)
  have hb2 := below_own HBL.out HO.out (Nat.le_refl _) hs1 hg2
  have hs2 := hb2.size
  have d1 := (hb2.cell (p := ⟨b, 1, none⟩) hb).trans HC.out.2
  have HB2 := Lib.hid (HB.out.mono hb2)
  have HO2 := Lib.hid hown2; have HBL2 := Lib.hid hb2
  clear c0 c1 hown2 hg2 hb2
  rw [rounds_succ]
  go_wp2_with (at_builtin; refine wpList_append_vals _ rfl _ _ 22 rfl w.heap.size 25 i0 (.string ⟨#[]⟩) 1 16 Try.underlying22 hi hz0 hz1 hz2 rfl (by decide) _ _ _ rfl HO2.out u B.length (B.map encStr) rfl HB2.out.sliceOf (by unfold maxLen; omega) (by omega) hs2 ?_; intro v2 w3 hown3 hg3 _)
  have HB3 := Lib.hid (below_own HBL2.out HO2.out (Nat.le_refl _) hs2 hg3)
  have HO3 := Lib.hid hown3
  clear d1 hown3 hg3
  rw [rounds_succ]
  go_wp2
  go_ret
  refine ⟨_, rfl, Strs.own (base := w.heap.size) (e := 25) ?_ (by simp; omega) ?_, HB3.out, Lies.own HO3.out⟩
  · have := HO3.out
    simpa using this
  · intro x hx
    rcases List.mem_append.1 hx with hx | hx
    · exact HA.out.len x hx
    · exact HB.out.len x hx

set_option maxHeartbeats 2000000 in
theorem srise_any (v u : Value) (A B : List Str) (f : Nat) (lb : Array Value) (p : Str → Bool) (w : World) (hv : Strs w v A) (hu : Strs w u B) (hl : A.length + B.length ≤ 8796093022200) (hcf : ∀ args w', (callFunc f args).run Try.prog w' = .ok (.enter f args) w')
    (hf : ∀ x W, Below w.heap.size w W → Calls Try.prog f (#[.string (bstr x)] ++ lb) W fun e W' => e = .returned (.bool (p x)) ∧ Below W.heap.size W W') :
    Calls Try.prog 29 #[v, u, .func (.func f) #[] lb] w (RetStrs w (sasc ((A ++ B).filter p))) := by
  obtain ⟨ao, cap, rfl⟩ := hv.shape
  obtain ⟨bo, bcap, rfl⟩ := hu.shape
  have hba : Below w.heap.size w (w.alloc (.cells #[.slice ao A.length cap, .slice bo B.length bcap] 22)) := (Below.refl _ _).alloc (Nat.le_refl _) _
  have HC := Lib.hid (sconcat_any w.heap.size _ _ A B _ (hv.mono hba) (hu.mono hba) (by simp) (cell_of_row _ w.heap.size 0 _ _ (0, 0) (heap_alloc_new w _)) (cell_of_row _ w.heap.size 1 _ _ (0, 0) (heap_alloc_new w _)) (by omega))
  have HW := Lib.hid (show ∀ x ∈ A ++ B, x.length ≤ maxLen from fun x hx => (List.mem_append.1 hx).elim (hv.len x) (hu.len x))
  have HF := Lib.hid hf
  have HBA := Lib.hid hba
  obtain ⟨i0, hi, hz0, hz1, hz2⟩ := info_parts infoAddr
  clear hv hu hf hba
  generalize A ++ B = C at *
  go_enter Try.func29, Try.ntmps29
  go_wp2_with ((with_reducible refine HC.out.mono ?_); rintro e w1 ⟨o, rfl, hC, hb1, _⟩; obtain ⟨bb, off, hm, hlen, hidx, hcell⟩ := hC.facts)
  have HB1 := Lib.hid (box_below hb1)
  clear hb1 hC HC HBA
  go_loopw [7, 15] (fun l i wr => ∃ k : Nat, k ≤ C.length ∧ i = .int .i64 k ∧ wr.ownsRow w1.heap.size 25 1 l ((C.take k).filter p).length (((C.take k).filter p).map encStr) ∧ Below w1.heap.size w1 wr) (fun _ i _ => C.length - (intOf i).toNat)
  case atStart => exact ⟨0, Nat.zero_le _, rfl, World.ownsRow_nil _ _ _ _, Below.refl _ _⟩
  case round =>
    obtain ⟨k, hk, rfl, hown, hbel⟩ := hrel
    by_cases hlt : k < C.length
    · have hp := hidx k hlt
      have hce := (hbel.cell (p := ⟨bb, off + k, none⟩) (hcell k hlt).1).trans (hcell k hlt).2
      obtain ⟨x, hx⟩ : ∃ x, x = C.getD k [] := ⟨_, rfl⟩
      rw [← hx, enc_bstr] at hce
      have hxk : C[k] = x := by rw [hx]; simp [List.getD_eq_getElem?_getD, hlt]
      have HT := Lib.hid (show (C.take (k + 1)).filter p = (C.take k).filter p ++ (if p x then [x] else []) by
        rw [take_snoc C k hlt, hxk, List.filter_append, List.filter_cons, List.filter_nil])
      have hfl : ((C.take k).filter p).length ≤ k := Nat.le_trans (List.length_filter_le _ _) (by simp; omega)
      have HX := Lib.hid (HF.out x wr (HB1.out.trans (hbel.mono HB1.out.size)))
      clear hidx hcell hx hxk
      cases hpx : p x
      · rw [hpx] at HX HT
        have HE := Lib.hid (show (C.take (k + 1)).filter p = (C.take k).filter p by rw [HT.out]; simp)
        clear hpx HT
        go_wp2_with ((with_reducible refine HX.out.mono ?_); rintro e w2 ⟨rfl, hb2⟩)
        go_roundw
        case rel => exact ⟨k + 1, by omega, by go_num, by rw [HE.out]; exact own_below hown hb2, hbel.trans (hb2.mono hbel.size)⟩
        case measure => simp [intOf]; omega
      · rw [hpx] at HX HT
        have HE := Lib.hid (show (C.take (k + 1)).filter p = (C.take k).filter p ++ [x] by rw [HT.out]; simp)
        clear hpx HT
        have hc3 : ((C.take k).filter p).length + 1 ≤ maxLen := by unfold maxLen; omega
        have hc4 : (((C.take k).filter p).length + 1) * 16 ≤ 140737488355328 := by omega
        have HO := Lib.hid hown
        clear hown hfl
        go_wp2_with (first | (at_builtin; refine wpList_append_own _ rfl _ _ 22 rfl w1.heap.size 25 i0 (.string ⟨#[]⟩) 1 16 Try.underlying22 hi hz0 hz1 hz2 rfl (by decide) _ _ _ rfl ((own_below HO.out hb2).alloc _) ⟨w2.heap.size, 0, none⟩ 1 1 [.string (bstr x)] rfl rfl (cell_one_new _ _ _) (ones_str x) hc3 hc4 (by have h1 := hbel.size; have h2 := hb2.size; simp; omega) ?_; intro v' w3 hown3 hg3 _) | ((with_reducible refine HX.out.mono ?_); rintro e w2 ⟨rfl, hb2⟩))
        go_roundw
        case rel =>
          have hb12 := hbel.trans (hb2.mono hbel.size)
          have ho2 := own_below HO.out hb2
          refine ⟨k + 1, by omega, by go_num, ?_, below_own (hb12.alloc hb12.size _) (ho2.alloc _) (Nat.le_refl _) (by have := hb12.size; simp; omega) hg3⟩
          rw [HE.out, List.length_append, List.map_append]
          rw [← enc_bstr] at hown3
          exact hown3
        case measure => simp [intOf]; omega
    · have HL := Lib.hid (show C.take k = C from List.take_of_length_le (by omega))
      rw [HL.out] at hown
      have hfl : (C.filter p).length ≤ C.length := List.length_filter_le _ _
      have HS := Lib.hid (ssorted_compact hown (by omega) (fun x hx => HW.out x (List.mem_filter.1 hx).1))
      have HO := Lib.hid hown
      clear hidx hcell hown HL
      go_wp2_with (first | ((with_reducible refine HS.out.mono ?_); rintro e w2 ⟨rfl, hc2⟩; have HC2 := Lib.hid hc2; clear hc2) | ((with_reducible refine HC2.out.mono ?_); rintro e w3 ⟨o3, rfl, hs3, hg3, ho3⟩))
      go_ret
      exact ⟨_, rfl, hs3, HB1.out.trans ((below_own hbel HO.out (Nat.le_refl _) hbel.size hg3).mono HB1.out.size), fun b hb => Nat.le_trans HB1.out.size ((Lies.own HO.out) b (ho3 ▸ hb))⟩
end Go.Proofs.Ytjhaedhjbnhiaaa
