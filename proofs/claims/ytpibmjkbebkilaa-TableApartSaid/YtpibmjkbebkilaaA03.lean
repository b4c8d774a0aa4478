/- Texts joined into one file: StrRising, Values, Boxes. -/
import Derived.Test.YtpibmjkbebkilaaA02
import Derived.Sort.Walk0
import Derived.Test.YtpibmjkbebkilaaIterShelf
import Derived.RangeFuncBox
import Derived.RangeFuncLeaves
import Derived.Shelf.Abstract
import Derived.WalkKit
import Derived.OwnWalkIn
import Derived.TacticsInMore
import Derived.LoopNIn
import Derived.LoopIn
import Derived.Maps.AppendAt
import Derived.Test.YtpibmjkbebkilaaA01

/- siphonref11.Rising, for every slice of strings: it hands back the rising list of its strings. -/
namespace Go.Proofs.Ytpibmjkbebkilaa
open Go.RowKit Go.Sort
set_option maxRecDepth 20000

def lenOf : Value → Nat
  | .slice _ n _ => n
  | _ => 0

theorem own_len {w : World} {base : Nat} {e : TypeId} {size : Nat} {v : Value} {n : Nat} {xs : List Value} (h : w.ownsRow base e size v n xs) : lenOf v = n := by
  rcases h.2 with ⟨rfl, rfl⟩ | ⟨g, cap, cur, rfl, _⟩ <;> rfl

/-- a call that hands back a slice of the strings L, and writes nothing that was there -/
def RetStrs (w : World) (L : List Str) (e : Ending) (w' : World) : Prop := ∃ v, e = .returned v ∧ Strs w' v L ∧ Below w.heap.size w w' ∧ Lies w.heap.size v

theorem slen_asc {L : List Str} (h : ∀ x ∈ L, x.length ≤ maxLen) (n : Nat) : ∀ x ∈ (sasc L).take n, x.length ≤ maxLen :=
  fun x hx => h x ((sasc_mem L x).1 (List.mem_of_mem_take hx))

theorem infoAddr : (Try.prog.info? 32).map (fun i => (i.zero, i.size, i.bytes)) = some (some (.string ⟨#[]⟩), 1, 16) := by kernel_rfl

theorem ones_str (x : Str) : ∀ u ∈ [Value.string (bstr x)], u.oneCell' = true := by simp [Value.oneCell']

end Go.Proofs.Ytpibmjkbebkilaa

/- slices.Sorted over slices.Values of a slice of strings, and over maps.Keys of a map by strings. -/
namespace Go.Proofs.Ytpibmjkbebkilaa
open Go.RowKit Go.Shelf Go.Maps Go.Sort
set_option maxRecDepth 20000
attribute [local go_sem] Oper.semAt_some

/-- slices.Values' iterator: each element, in order -/
theorem vals_stops (n : Nat) (hn : 1 ≤ n) (w0 : World) (Bs : Nat) (sl : Value) (L : List (List UInt8)) (hS : Strs w0 sl L) (w : World) (hB : Below w0.heap.size w0 w) (hBs : Bs < w.heap.size) (hc : w.cell? ⟨Bs, 0, none⟩ = some sl) :
    SeqStopsK Fence.wide n Try.prog 53 #[.pointer (some ⟨Bs, 0, none⟩)] (fun x : List UInt8 => #[encStr x]) (Below w0.heap.size) (fun ys => ys = L) (fun pre => pre <+: L) L.length w := fun l J Jx W hW _ _ hY h0 => by
  have hc' := (hW.cell (p := ⟨Bs, 0, none⟩) hBs).trans hc
  have hB' : Below w0.heap.size w0 W := hB.trans (hW.mono hB.size)
  obtain ⟨b, off, hm, hlen, hidx, hcs⟩ := hS.facts
  clear hS hc
  refine callsIn_of_wp Try.func53 rfl trivial ?_ rfl
  simp only [Try.ntmps53, List.size_toArray, List.length_cons, List.length_nil, Nat.reduceAdd, Nat.reduceSub, Array.replicate_succ, Array.replicate_zero, List.push_toArray, List.append_toArray, List.nil_append, List.cons_append]
  gi_wp2
  gi_loopw [7] (fun i wr => ∃ k : Nat, k ≤ L.length ∧ i = .int .i64 k ∧ J (L.take k) wr ∧ Below w0.heap.size w0 wr) (fun i _ => L.length - (intOf i).toNat)
  case atStart => exact ⟨0, Nat.zero_le _, rfl, h0, hB'⟩
  case round =>
    obtain ⟨k, hk, rfl, hJs, hnx⟩ := hrel
    by_cases hlt : k < L.length
    · obtain ⟨t, ht⟩ : ∃ t, t = L.getD k [] := ⟨_, rfl⟩
      have htk : L[k] = t := by rw [ht]; simp [List.getD_eq_getElem?_getD, hlt]
      have hp := hidx k hlt
      have hcx : wr.cell? ⟨b, off + k, none⟩ = some (encStr t) := by rw [ht]; exact (hnx.cell (p := ⟨b, off + k, none⟩) (hcs k hlt).1).trans (hcs k hlt).2
      have HT := Lib.hid (show L.take (k + 1) = L.take k ++ [t] from by rw [take_snoc L k hlt, htk])
      obtain ⟨fn, tmps, assign, body, hy, hR⟩ := hY _ t wr hJs (by simp; omega)
      clear hidx hcs ht htk
      gi_wp2
      refine hR.mono ?_
      rintro e W3 (⟨rfl, hJ3, hk3⟩ | ⟨rfl, hJx3⟩)
      · gi_wp2
        go_roundw
        case rel => exact ⟨k + 1, by omega, by simp, by rw [HT.out]; exact hJ3, hnx.trans hk3⟩
        case measure => simp [intOf]; omega
      · gi_wp2
        refine bodyPost_ret (results_none rfl _ _ _) rfl ?_
        exact ⟨⟨_, rfl⟩, .inr ⟨_, List.take_prefix (k + 1) _, by rw [HT.out]; exact hJx3⟩⟩
    · obtain rfl : k = L.length := by omega
      gi_wp2
      go_end0
      exact ⟨⟨_, rfl⟩, .inl ⟨_, rfl, by simpa using hJs⟩⟩

theorem vals_in (n : Nat) (ao : Option Addr) (m c : Nat) (w : World) :
    CallsIn Fence.wide n Try.prog 38 #[.slice ao m c] w fun e w' => e = .returned (.func (.func 53) #[] #[.pointer (some ⟨w.heap.size, 0, none⟩)]) ∧ w' = w.alloc (.cells #[.slice ao m c] 33) := by
  refine callsIn_of_wp Try.func38 rfl trivial ?_ rfl
  simp only [Try.ntmps38, List.size_toArray, List.length_cons, List.length_nil, Nat.reduceAdd, Nat.reduceSub, Array.replicate_succ, Array.replicate_zero, List.push_toArray, List.append_toArray, List.nil_append, List.cons_append]
  gi_wp2
  go_ret
  exact ⟨rfl, rfl⟩

set_option maxRecDepth 100000 in
set_option maxHeartbeats 2000000 in
theorem appendVals (n : Nat) (hn : 3 ≤ n) (w0 : World) (Bs : Nat) (sl : Value) (L : List (List UInt8)) (hS : Strs w0 sl L) (w : World) (hB : Below w0.heap.size w0 w) (hBs : Bs < w.heap.size) (hc : w.cell? ⟨Bs, 0, none⟩ = some sl) :
    CallsIn Fence.wide n Try.prog 64 #[.slice none 0 0, .func (.func 53) #[] #[.pointer (some ⟨Bs, 0, none⟩)]] w
      fun e W' => ∃ v, e = .returned v ∧ W'.ownsRow w.heap.size 32 1 v L.length (L.map encStr) ∧ (v = .slice none 0 0 ↔ L = []) ∧ Below w.heap.size w W' := by
  have h1 : 1 ≤ n := by omega
  obtain ⟨i0, hi, hz0, hz1, hz2⟩ := info_parts infoAddr
  have hLm : L.length ≤ 8796093022208 := by obtain ⟨_, _, _, _, _, _, h, _⟩ := hS; exact h
  have hmm : maxLen = 9223372036854775807 := rfl
  refine callsIn_of_wp_marks Try.func64 rfl trivial ?_ rfl
  simp only [Try.ntmps64, List.size_toArray, List.length_cons, List.length_nil, Nat.reduceAdd, Nat.reduceSub, Array.replicate_succ, Array.replicate_zero, List.push_toArray, List.append_toArray, List.nil_append, List.cons_append]
  gi_wp2
  have bO := Boxed.new w 33 (.slice none 0 0)
  have hB0 : Below w.heap.size w (w.alloc (.cells #[.slice none 0 0] 33)) := (Below.refl _ w).alloc (Nat.le_refl _) _
  refine wpIn_rangeFunc_ownG rfl h1 (gf := 53) (lb := #[.pointer (some ⟨Bs, 0, none⟩)]) rfl trivial (enters_of Try.func53 (by kernel_rfl) rfl)
    (vals_stops (n - 1) (by omega) w0 Bs sl L hS (w.alloc (.cells #[.slice none 0 0] 33)) (hB.trans (hB0.mono hB.size)) (by simp; omega) ((hB0.cell (p := ⟨Bs, 0, none⟩) hBs).trans hc)) belowK_t (belowK_b (by have := hB.size; simp; omega)) (Below.refl _ _) (fun _ => rfl)
    (fun pre W => (∃ v, Boxed W w.heap.size 33 v ∧ W.ownsRow w.heap.size 32 1 v pre.length (pre.map encStr) ∧ (v = .slice none 0 0 ↔ pre = [])) ∧ Below w.heap.size w W)
    (fun _ _ _ => False)
    (OwnFrom.and (Own.from (holdsRow_own w.heap.size w.heap.size 33 32 1 (fun pre => pre.length) (fun pre => pre.map encStr) (fun pre v => v = .slice none 0 0 ↔ pre = [])) _) (ownFrom_below (Nat.le_refl _) (by simp)))
    (fun _ _ _ _ _ hs _ _ => hs)
    ⟨⟨_, bO, World.ownsRow_nil _ _ _ _, by simp⟩, hB0⟩
    (fun x => { tmps := #[.slice none 0 0, .func (.func 53) #[] #[.pointer (some ⟨Bs, 0, none⟩)], .pointer (some ⟨w.heap.size, 0, none⟩), undef, .slice none 0 0, encStr x, .func (.func 53) #[] #[.pointer (some ⟨Bs, 0, none⟩)], encStr x, undef, undef, undef, undef, undef], defers := [] }) ?assign ?body ?done ?stop
  case assign =>
    intro l x W K hK
    gi_wp2
    exact hK
  case body =>
    rintro l pre x W ⟨⟨v, hv, hrow, hnil⟩, hW⟩ hlt
    have hcb := hv.cell
    gi_wp2_with (gi_at_builtin; refine wpListIn_append_own _ rfl _ _ 33 rfl w.heap.size 32 i0 (.string ⟨#[]⟩) 1 16 Try.underlying33 hi hz0 hz1 hz2 rfl (by decide) _ _ _ rfl (hrow.alloc _) ⟨W.heap.size, 0, none⟩ 1 1 [encStr x] rfl rfl (cell_one_new _ _ _) (by simp [Value.oneCell', encStr]) (by omega) (by omega) (by have := hW.size; simp; omega) ?_; intro v' w1 hown' hgrow _; obtain ⟨g', cap', rfl⟩ := ownsRow_succ hown'; obtain ⟨hv1, hv2, hr2, hk2, hb2⟩ := hv.appended (by decide) hrow hW.size (Nat.le_refl _) hown' hgrow; have hc1 := hv1.cell; have hf1 := hv1.frozen)
    exact ⟨hk2.from _, hb2.mono hB.size, ⟨_, hv2, by simpa using hr2, by simp⟩, hW.trans hb2⟩
  case done =>
    rintro D ys W hD rfl ⟨⟨v, hv, hrow, hnil⟩, hW⟩ hK
    have hcb := hv.cell
    gi_wp2
    refine ⟨by simp, .inl ⟨_, _, rfl, run_takeDeferred hK, ?_⟩⟩
    exact ⟨_, results_tmp rfl _ _ _, v, rfl, ownsRow_putObj hrow _ hK rfl, hnil, hW.trans (belowK_b (w := w) (Nat.le_refl _) W D _ _ (by simp at hD; omega) hK rfl rfl)⟩
  case stop =>
    rintro D c pre W _ _ h _
    exact h.elim

theorem box_cell {w w' : World} {c : Array Value} {t : TypeId} (hb : Below (w.alloc (.cells c t)).heap.size (w.alloc (.cells c t)) w') (j : Nat) (v : Value) (hj : c[j]? = some v) : w'.cell? ⟨w.heap.size, j, none⟩ = some v := by
  rw [hb.cell (p := ⟨w.heap.size, j, none⟩) (by simp)]
  rw [cell_of_row _ w.heap.size j c t (0, 0) (heap_alloc_new w _)]
  exact hj

theorem box_below {w w' : World} {o : Obj} (hb : Below (w.alloc o).heap.size (w.alloc o) w') : Below w.heap.size w w' :=
  ((Below.refl _ _).alloc (Nat.le_refl _) o).trans (hb.mono (by simp))

theorem own_below {w w' : World} {base : Nat} {e : TypeId} {size : Nat} {v : Value} {n : Nat} {xs : List Value} (h : w.ownsRow base e size v n xs) (hb : Below w.heap.size w w') : w'.ownsRow base e size v n xs :=
  h.kept (row := none) ⟨hb.os, hb.tape, hb.output, hb.size, fun k hk _ => hb.block k hk⟩ (by cases v.ownBlock <;> simp)

/-- slices.Sorted of slices.Values: sorted; with slices.Compact behind it, in whatever world: the rising list of all -/
theorem sortedVals (w0 : World) (Bs : Nat) (sl : Value) (L : List Str) (hS : Strs w0 sl L) (w : World) (hB : Below w0.heap.size w0 w) (hBs : Bs < w.heap.size) (hc : w.cell? ⟨Bs, 0, none⟩ = some sl) :
    Calls Try.prog 37 #[.func (.func 53) #[] #[.pointer (some ⟨Bs, 0, none⟩)]] w
      fun e W' => ∃ v, e = .returned v ∧ Below w.heap.size w W' ∧ (∀ b, v.ownBlock = some b → w.heap.size ≤ b ∧ b < W'.heap.size) ∧ ∀ W, Below W'.heap.size W' W → Calls Try.prog 36 #[v] W fun e w'' =>
        ∃ o, e = .returned o ∧ Strs w'' o (sasc L) ∧ W.grownBy w'' v.ownBlock ∧ o.ownBlock = v.ownBlock := by
  refine (callsIn_wide (n := 6)).1 ?_
  refine callsIn_of_wp Try.func37 rfl trivial ?_ rfl
  simp only [Try.ntmps37, List.size_toArray, List.length_cons, List.length_nil, Nat.reduceAdd, Nat.reduceSub, Array.replicate_succ, Array.replicate_zero, List.push_toArray, List.append_toArray, List.nil_append, List.cons_append]
  have HC : Hid (CallsIn Fence.wide 5 Try.prog 51 #[.func (.func 53) #[] #[.pointer (some ⟨Bs, 0, none⟩)]] w fun e W' => ∃ v, e = .returned v ∧ W'.ownsRow w.heap.size 32 1 v L.length (L.map encStr) ∧ (v = .slice none 0 0 ↔ L = []) ∧ Below w.heap.size w W') := by
    refine callsIn_of_wp Try.func51 rfl trivial ?_ rfl
    simp only [Try.ntmps51, List.size_toArray, List.length_cons, List.length_nil, Nat.reduceAdd, Nat.reduceSub, Array.replicate_succ, Array.replicate_zero, List.push_toArray, List.append_toArray, List.nil_append, List.cons_append]
    gi_wp2_with (refine ⟨trivial, ?_⟩; gi_at_call 64; refine (appendVals _ (by omega) w0 Bs sl L hS w hB hBs hc).mono ?_; rintro e w1 ⟨v, rfl, h1, h2, h3⟩)
    go_ret
    exact ⟨v, rfl, h1, h2, h3⟩
  have hLl : L.length ≤ 8796093022208 := by obtain ⟨_, _, _, _, _, _, h, _⟩ := hS; exact h
  have hLm := hS.len
  gi_wp2_with (refine ⟨trivial, ?_⟩; gi_at_call 51; refine HC.out.mono ?_; rintro e w1 ⟨v, rfl, h1, h2, h3⟩)
  have HS := Lib.hid (ssorted_compact' h1 hLl hLm)
  obtain ⟨ao, cap, rfl⟩ : ∃ ao cap, v = .slice ao L.length cap := (Strs.own h1 hLl hLm).shape
  gi_wp2_with (refine ⟨trivial, ?_⟩; gi_at_call 52; refine (callsIn_wide.2 HS.out).mono ?_; rintro e w2 ⟨rfl, hg12, hcp⟩)
  go_ret
  exact ⟨_, rfl, h3.grown hg12 h3.size (fun k e => (h1.lt k e).1), fun b e => ⟨(h1.lt b e).1, Nat.lt_of_lt_of_le (h1.lt b e).2 hg12.size⟩, hcp⟩
end Go.Proofs.Ytpibmjkbebkilaa

/- Blocks of cells, whole ('CBox'): what keeps them, what turns them. -/
namespace Go.Proofs.Ytpibmjkbebkilaa
open Go.RowKit
set_option maxRecDepth 20000

/-- block b is cells of type T that read as cs -/
def CBox (w : World) (b : Nat) (T : TypeId) (cs : Array Value) : Prop := w.heap[b]? = some (.cells cs T (0, 0))
section
variable {w w' : World} {b B : Nat} {T : TypeId} {cs : Array Value}
theorem CBox.lt (h : CBox w b T cs) : b < w.heap.size := (Array.getElem?_eq_some_iff.1 h).1
theorem CBox.at_ (h : CBox w b T cs) (i : Nat) (v : Value) (hi : cs[i]? = some v) : w.cell? ⟨b, i, none⟩ = some v ∧ w.frozen? ⟨b, i, none⟩ = false := by
  have h' : w.heap[b]? = some (.cells cs T (0, 0)) := h
  exact ⟨by simp [World.cell?, h', hi], by simp [World.frozen?, h']⟩
theorem CBox.below (h : CBox w b T cs) (hb : Below B w w') (hB : b < B) : CBox w' b T cs := (hb.block b hB).trans h
theorem CBox.grown {row : Option Nat} (h : CBox w b T cs) (hg : w.grownBy w' row) (hne : some b ≠ row) : CBox w' b T cs := (hg.block b h.lt hne).trans h
theorem CBox.set (h : CBox w b T cs) (i : Nat) (u : Value) : CBox (w.setCell ⟨b, i, none⟩ u) b T (cs.setIfInBounds i u) := by
  have h' : w.heap[b]? = some (.cells cs T (0, 0)) := h
  unfold CBox
  simp [World.setCell, Array.getElem?_modify, h']
theorem CBox.far (h : CBox w b T cs) {p : Addr} (hp : b ≠ p.block) (u : Value) : CBox (w.setCell p u) b T cs := (Below.heap_setCell w p u b hp).trans h
theorem CBox.new (cs : Array Value) (hb : b = w.heap.size) : CBox (w.alloc (.cells cs T)) b T cs := by subst hb; exact heap_alloc_new w _
theorem CBox.old (h : CBox w b T cs) (o : Obj) : CBox (w.alloc o) b T cs := h.below ((Below.refl _ w).alloc (Nat.le_refl _) o) h.lt
theorem CBox.draws (h : CBox w b T cs) (n : Nat) : CBox (w.drewN n) b T cs := h.below (below_draws _ (Below.refl _ _) n) h.lt
end

theorem own_form {w : World} {base : Nat} {e : TypeId} {size : Nat} {v : Value} {n : Nat} {xs : List Value} (h : w.ownsRow base e size v n xs) : ∃ ao c, v = .slice ao n c := by
  rcases h.2 with ⟨rfl, rfl⟩ | ⟨g, cap, cur, rfl, _⟩
  · exact ⟨_, _, rfl⟩
  · exact ⟨_, _, rfl⟩

theorem grown_below {w1 wr w2 : World} {row : Option Nat} (hg : w1.grownBy wr row) (hb : Below wr.heap.size wr w2) : w1.grownBy w2 row :=
  ⟨hb.os.trans hg.os, hb.tape.trans hg.tape, hb.output.trans hg.output, Nat.le_trans hg.size hb.size, fun k hk hne => (hb.block k (Nat.lt_of_lt_of_le hk hg.size)).trans (hg.block k hk hne)⟩

theorem heap_new (w : World) (o : Obj) (b : Nat) (h : b = w.heap.size) : (w.alloc o).heap[b]? = some o := by subst h; exact heap_alloc_new w o

/-- a row of the call's own is no block of another type -/
theorem own_box {w : World} {base : Nat} {e : TypeId} {size : Nat} {v : Value} {n : Nat} {xs : List Value} {b : Nat} {T : TypeId} {cs : Array Value} (h : w.ownsRow base e size v n xs) (hd : CBox w b T cs) (hne : e ≠ T) : v.ownBlock ≠ some b := by
  rcases h.2 with ⟨rfl, _⟩ | ⟨g, cap, cur, rfl, _, hg, _⟩
  · simp [Value.ownBlock]
  · intro e'
    have : g = b := by simpa [Value.ownBlock] using e'
    subst this
    have hd' : w.heap[g]? = some (.cells cs T (0, 0)) := hd
    rw [hg] at hd'
    simp at hd'
    exact hne hd'.2
end Go.Proofs.Ytpibmjkbebkilaa
