/- slices.Sorted over slices.Values of a slice of strings, and over maps.Keys of a map by strings. -/
import Derived.Test.YtkphgonbbhlnfaaStrSort
import Derived.Test.YtkphgonbbhlnfaaStrRising
import Derived.Test.YtkphgonbbhlnfaaIterShelf
import Derived.RangeFuncBox
import Derived.RangeFuncLeaves
import Derived.Shelf.Abstract
import Derived.WalkKit
import Derived.OwnWalkIn
import Derived.TacticsInMore
import Derived.LoopNIn
import Derived.LoopIn
import Derived.Maps.AppendAt
namespace Go.Proofs.Ytkphgonbbhlnfaa
open Go.RowKit Go.Shelf Go.Maps Go.Sort
attribute [local go_sem] Oper.semAt_some

/-- slices.Values' iterator: each element, in order -/
theorem vals_stops (n : Nat) (hn : 1 ≤ n) (w0 : World) (Bs : Nat) (sl : Value) (L : List (List UInt8)) (hS : Strs w0 sl L) (w : World) (hB : Below w0.heap.size w0 w) (hBs : Bs < w.heap.size) (hc : w.cell? ⟨Bs, 0, none⟩ = some sl) :
    SeqStopsK Fence.wide n Try.prog 46 #[.pointer (some ⟨Bs, 0, none⟩)] (fun x : List UInt8 => #[encStr x]) (Below w0.heap.size) (fun ys => ys = L) (fun pre => pre <+: L) L.length w := fun l J Jx W hW _ _ hY h0 => by
  have hc' := (hW.cell (p := ⟨Bs, 0, none⟩) hBs).trans hc
  have hB' : Below w0.heap.size w0 W := hB.trans (hW.mono hB.size)
  obtain ⟨b, off, hm, hlen, hidx, hcs⟩ := hS.facts
  clear hS hc
  refine callsIn_of_wp Try.func46 rfl trivial ?_ rfl
  simp only [Try.ntmps46, List.size_toArray, List.length_cons, List.length_nil, Nat.reduceAdd, Nat.reduceSub, Array.replicate_succ, Array.replicate_zero, List.push_toArray, List.append_toArray, List.nil_append, List.cons_append]
  gi_wp2
  gi_loopw [7] (fun i wr => ∃ k : Nat, k ≤ L.length ∧ i = .int .i64 k ∧ J (L.take k) wr ∧ Below w0.heap.size w0 wr) (fun i _ => L.length - (intOf i).toNat)
  case atStart => exact ⟨0, Nat.zero_le _, rfl, h0, hB'⟩
  case round =>
    obtain ⟨k, hk, rfl, hJs, hnx⟩ := hrel
    by_cases hlt : k < L.length
    · obtain ⟨t, ht⟩ : ∃ t, t = L.getD k [] := ⟨_, rfl⟩
      have htk : L[k] = t := by rw [ht]; simp [List.getD_eq_getElem?_getD, hlt]
      have hp := hidx k hlt
      have hcx : wr.cell? ⟨b, off + k, none⟩ = some (encStr t) := by rw [ht]; exact (hnx.cell (p := ⟨b, off + k, none⟩) (hcs k hlt).1).trans (hcs k hlt).2
      have HT := Lib.hid (show L.take (k + 1) = L.take k ++ [t] from by rw [take_snoc L k hlt, htk])
      obtain ⟨fn, tmps, assign, body, hy, hR⟩ := hY _ t wr hJs (by simp; omega)
      clear hidx hcs ht htk
      gi_wp2
      refine hR.mono ?_
      rintro e W3 (⟨rfl, hJ3, hk3⟩ | ⟨rfl, hJx3⟩)
      · gi_wp2
        go_roundw
        case rel => exact ⟨k + 1, by omega, by simp, by rw [HT.out]; exact hJ3, hnx.trans hk3⟩
        case measure => simp [intOf]; omega
      · gi_wp2
        refine bodyPost_ret (results_none rfl _ _ _) rfl ?_
        exact ⟨⟨_, rfl⟩, .inr ⟨_, List.take_prefix (k + 1) _, by rw [HT.out]; exact hJx3⟩⟩
    · obtain rfl : k = L.length := by omega
      gi_wp2
      go_end0
      exact ⟨⟨_, rfl⟩, .inl ⟨_, rfl, by simpa using hJs⟩⟩

theorem vals_in (n : Nat) (ao : Option Addr) (m c : Nat) (w : World) :
    CallsIn Fence.wide n Try.prog 32 #[.slice ao m c] w fun e w' => e = .returned (.func (.func 46) #[] #[.pointer (some ⟨w.heap.size, 0, none⟩)]) ∧ w' = w.alloc (.cells #[.slice ao m c] 35) := by
  refine callsIn_of_wp Try.func32 rfl trivial ?_ rfl
  simp only [Try.ntmps32, List.size_toArray, List.length_cons, List.length_nil, Nat.reduceAdd, Nat.reduceSub, Array.replicate_succ, Array.replicate_zero, List.push_toArray, List.append_toArray, List.nil_append, List.cons_append]
  gi_wp2
  go_ret
  exact ⟨rfl, rfl⟩

set_option maxRecDepth 100000 in
set_option maxHeartbeats 2000000 in
theorem appendVals (n : Nat) (hn : 3 ≤ n) (w0 : World) (Bs : Nat) (sl : Value) (L : List (List UInt8)) (hS : Strs w0 sl L) (w : World) (hB : Below w0.heap.size w0 w) (hBs : Bs < w.heap.size) (hc : w.cell? ⟨Bs, 0, none⟩ = some sl) :
    CallsIn Fence.wide n Try.prog 59 #[.slice none 0 0, .func (.func 46) #[] #[.pointer (some ⟨Bs, 0, none⟩)]] w
      fun e W' => ∃ v, e = .returned v ∧ W'.ownsRow w.heap.size 25 1 v L.length (L.map encStr) ∧ (v = .slice none 0 0 ↔ L = []) ∧ Below w.heap.size w W' := by
  have h1 : 1 ≤ n := by omega
  obtain ⟨i0, hi, hz0, hz1, hz2⟩ := info_parts infoAddr
  have hLm : L.length ≤ 8796093022208 := by obtain ⟨_, _, _, _, _, _, h, _⟩ := hS; exact h
  have hmm : maxLen = 9223372036854775807 := rfl
  refine callsIn_of_wp_marks Try.func59 rfl trivial ?_ rfl
  simp only [Try.ntmps59, List.size_toArray, List.length_cons, List.length_nil, Nat.reduceAdd, Nat.reduceSub, Array.replicate_succ, Array.replicate_zero, List.push_toArray, List.append_toArray, List.nil_append, List.cons_append]
  gi_wp2
  have bO := Boxed.new w 35 (.slice none 0 0)
  have hB0 : Below w.heap.size w (w.alloc (.cells #[.slice none 0 0] 35)) := (Below.refl _ w).alloc (Nat.le_refl _) _
  refine wpIn_rangeFunc_ownG rfl h1 (gf := 46) (lb := #[.pointer (some ⟨Bs, 0, none⟩)]) rfl trivial (enters_of Try.func46 (by kernel_rfl) rfl)
    (vals_stops (n - 1) (by omega) w0 Bs sl L hS (w.alloc (.cells #[.slice none 0 0] 35)) (hB.trans (hB0.mono hB.size)) (by simp; omega) ((hB0.cell (p := ⟨Bs, 0, none⟩) hBs).trans hc)) belowK_t (belowK_b (by have := hB.size; simp; omega)) (Below.refl _ _) (fun _ => rfl)
    (fun pre W => (∃ v, Boxed W w.heap.size 35 v ∧ W.ownsRow w.heap.size 25 1 v pre.length (pre.map encStr) ∧ (v = .slice none 0 0 ↔ pre = [])) ∧ Below w.heap.size w W)
    (fun _ _ _ => False)
    (OwnFrom.and (Own.from (holdsRow_own w.heap.size w.heap.size 35 25 1 (fun pre => pre.length) (fun pre => pre.map encStr) (fun pre v => v = .slice none 0 0 ↔ pre = [])) _) (ownFrom_below (Nat.le_refl _) (by simp)))
    (fun _ _ _ _ _ hs _ _ => hs)
    ⟨⟨_, bO, World.ownsRow_nil _ _ _ _, by simp⟩, hB0⟩
    (fun x => { tmps := #[.slice none 0 0, .func (.func 46) #[] #[.pointer (some ⟨Bs, 0, none⟩)], .pointer (some ⟨w.heap.size, 0, none⟩), undef, .slice none 0 0, encStr x, .func (.func 46) #[] #[.pointer (some ⟨Bs, 0, none⟩)], encStr x, undef, undef, undef, undef, undef], defers := [] }) ?assign ?body ?done ?stop
  case assign =>
    intro l x W K hK
    gi_wp2
    exact hK
  case body =>
    rintro l pre x W ⟨⟨v, hv, hrow, hnil⟩, hW⟩ hlt
    have hcb := hv.cell
    gi_wp2_with (gi_at_builtin; refine wpListIn_append_own _ rfl _ _ 35 rfl w.heap.size 25 i0 (.string ⟨#[]⟩) 1 16 Try.underlying35 hi hz0 hz1 hz2 rfl (by decide) _ _ _ rfl (hrow.alloc _) ⟨W.heap.size, 0, none⟩ 1 1 [encStr x] rfl rfl (cell_one_new _ _ _) (by simp [Value.oneCell', encStr]) (by omega) (by omega) (by have := hW.size; simp; omega) ?_; intro v' w1 hown' hgrow _; obtain ⟨g', cap', rfl⟩ := ownsRow_succ hown'; obtain ⟨hv1, hv2, hr2, hk2, hb2⟩ := hv.appended (by decide) hrow hW.size (Nat.le_refl _) hown' hgrow; have hc1 := hv1.cell; have hf1 := hv1.frozen)
    exact ⟨hk2.from _, hb2.mono hB.size, ⟨_, hv2, by simpa using hr2, by simp⟩, hW.trans hb2⟩
  case done =>
    rintro D ys W hD rfl ⟨⟨v, hv, hrow, hnil⟩, hW⟩ hK
    have hcb := hv.cell
    gi_wp2
    refine ⟨by simp, .inl ⟨_, _, rfl, run_takeDeferred hK, ?_⟩⟩
    exact ⟨_, results_tmp rfl _ _ _, v, rfl, ownsRow_putObj hrow _ hK rfl, hnil, hW.trans (belowK_b (w := w) (Nat.le_refl _) W D _ _ (by simp at hD; omega) hK rfl rfl)⟩
  case stop =>
    rintro D c pre W _ _ h _
    exact h.elim

theorem box_cell {w w' : World} {c : Array Value} {t : TypeId} (hb : Below (w.alloc (.cells c t)).heap.size (w.alloc (.cells c t)) w') (j : Nat) (v : Value) (hj : c[j]? = some v) : w'.cell? ⟨w.heap.size, j, none⟩ = some v := by
  rw [hb.cell (p := ⟨w.heap.size, j, none⟩) (by simp)]
  rw [cell_of_row _ w.heap.size j c t (0, 0) (heap_alloc_new w _)]
  exact hj

theorem box_below {w w' : World} {o : Obj} (hb : Below (w.alloc o).heap.size (w.alloc o) w') : Below w.heap.size w w' :=
  ((Below.refl _ _).alloc (Nat.le_refl _) o).trans (hb.mono (by simp))

theorem own_below {w w' : World} {base : Nat} {e : TypeId} {size : Nat} {v : Value} {n : Nat} {xs : List Value} (h : w.ownsRow base e size v n xs) (hb : Below w.heap.size w w') : w'.ownsRow base e size v n xs :=
  h.kept (row := none) ⟨hb.os, hb.tape, hb.output, hb.size, fun k hk _ => hb.block k hk⟩ (by cases v.ownBlock <;> simp)

/-- slices.Sorted of slices.Values: sorted; with slices.Compact behind it, in whatever world: the rising list of all -/
theorem sortedVals (w0 : World) (Bs : Nat) (sl : Value) (L : List Str) (hS : Strs w0 sl L) (w : World) (hB : Below w0.heap.size w0 w) (hBs : Bs < w.heap.size) (hc : w.cell? ⟨Bs, 0, none⟩ = some sl) :
    Calls Try.prog 31 #[.func (.func 46) #[] #[.pointer (some ⟨Bs, 0, none⟩)]] w
      fun e W' => ∃ v, e = .returned v ∧ Below w.heap.size w W' ∧ (∀ b, v.ownBlock = some b → w.heap.size ≤ b ∧ b < W'.heap.size) ∧ ∀ W, Below W'.heap.size W' W → Calls Try.prog 30 #[v] W fun e w'' =>
        ∃ o, e = .returned o ∧ Strs w'' o (sasc L) ∧ W.grownBy w'' v.ownBlock ∧ o.ownBlock = v.ownBlock := by
  refine (callsIn_wide (n := 6)).1 ?_
  refine callsIn_of_wp Try.func31 rfl trivial ?_ rfl
  simp only [Try.ntmps31, List.size_toArray, List.length_cons, List.length_nil, Nat.reduceAdd, Nat.reduceSub, Array.replicate_succ, Array.replicate_zero, List.push_toArray, List.append_toArray, List.nil_append, List.cons_append]
  have HC : Hid (CallsIn Fence.wide 5 Try.prog 44 #[.func (.func 46) #[] #[.pointer (some ⟨Bs, 0, none⟩)]] w fun e W' => ∃ v, e = .returned v ∧ W'.ownsRow w.heap.size 25 1 v L.length (L.map encStr) ∧ (v = .slice none 0 0 ↔ L = []) ∧ Below w.heap.size w W') := by
    refine callsIn_of_wp Try.func44 rfl trivial ?_ rfl
    simp only [Try.ntmps44, List.size_toArray, List.length_cons, List.length_nil, Nat.reduceAdd, Nat.reduceSub, Array.replicate_succ, Array.replicate_zero, List.push_toArray, List.append_toArray, List.nil_append, List.cons_append]
    gi_wp2_with (refine ⟨trivial, ?_⟩; gi_at_call 59; refine (appendVals _ (by omega) w0 Bs sl L hS w hB hBs hc).mono ?_; rintro e w1 ⟨v, rfl, h1, h2, h3⟩)
    go_ret
    exact ⟨v, rfl, h1, h2, h3⟩
  have hLl : L.length ≤ 8796093022208 := by obtain ⟨_, _, _, _, _, _, h, _⟩ := hS; exact h
  have hLm := hS.len
  gi_wp2_with (refine ⟨trivial, ?_⟩; gi_at_call 44; refine HC.out.mono ?_; rintro e w1 ⟨v, rfl, h1, h2, h3⟩)
  have HS := Lib.hid (ssorted_compact' h1 hLl hLm)
  obtain ⟨ao, cap, rfl⟩ : ∃ ao cap, v = .slice ao L.length cap := (Strs.own h1 hLl hLm).shape
  gi_wp2_with (refine ⟨trivial, ?_⟩; gi_at_call 45; refine (callsIn_wide.2 HS.out).mono ?_; rintro e w2 ⟨rfl, hg12, hcp⟩)
  go_ret
  exact ⟨_, rfl, h3.grown hg12 h3.size (fun k e => (h1.lt k e).1), fun b e => ⟨(h1.lt b e).1, Nat.lt_of_lt_of_le (h1.lt b e).2 hg12.size⟩, hcp⟩
end Go.Proofs.Ytkphgonbbhlnfaa
