/- siphonref17.put: the walk. -/
import Derived.Test.YtkphgonbbhlnfaaGPut
namespace Go.Proofs.Ytkphgonbbhlnfaa
open Go.RowKit Go.Lib Go.Maps Go.Sort

theorem sliceOf_block {w : World} {b : Nat} {cs : List Value} {T : TypeId} {fr : Nat × Nat} {size m c : Nat} (h : w.heap[b]? = some (.cells cs.toArray T fr)) (hl : cs.length = m * size) (h1 : ∀ x ∈ cs, x.oneCell' = true) :
    SliceOf w size (.slice (some ⟨b, 0, none⟩) m c) m cs := by
  refine ⟨_, _, rfl, hl, h1, .inr ⟨_, rfl, fun j x hj => ?_⟩⟩
  rw [add_lit, Nat.zero_add]
  simp [World.cell?, h, hj]

theorem putStep_len (a : Str) (z : Int) (L : List Tmd) : ∀ k, ((L.take k).foldl (putStep a z) ([], false)).1.length ≤ 2 * k
  | 0 => by simp
  | k + 1 => by
    by_cases h : k < L.length
    · have i := putStep_len a z L k
      rw [put_snoc L a z k h, putStep_eq]
      simp only [List.length_append]
      split <;> split <;> simp <;> omega
    · have i := putStep_len a z L k
      rw [List.take_of_length_le (by omega)] at i ⊢
      omega
theorem putL_wfs {L : List Tmd} (a : Str) (z : Int) (ha : a.length ≤ maxLen) (hz : (Lit.int .i64 z).wf = true) (h : ∀ t ∈ L, t.1.length ≤ maxLen ∧ (Lit.int .i64 t.2).wf = true) : ∀ t ∈ putL L a z, t.1.length ≤ maxLen ∧ (Lit.int .i64 t.2).wf = true := by
  have key : ∀ (L : List Tmd) (o : List Tmd × Bool), (∀ t ∈ L, t.1.length ≤ maxLen ∧ (Lit.int .i64 t.2).wf = true) → (∀ t ∈ o.1, t.1.length ≤ maxLen ∧ (Lit.int .i64 t.2).wf = true) → ∀ t ∈ (L.foldl (putStep a z) o).1, t.1.length ≤ maxLen ∧ (Lit.int .i64 t.2).wf = true := by
    intro L
    induction L with
    | nil => intro o _ h; exact h
    | cons u L ih =>
      intro o hL ho
      rw [List.foldl_cons]
      refine ih _ (fun t ht => hL t (List.mem_cons_of_mem _ ht)) (fun t ht => ?_)
      rw [putStep_eq] at ht
      simp only [List.mem_append] at ht
      rcases ht with (ht | ht) | ht
      · exact ho t ht
      · split at ht
        · rw [List.mem_singleton] at ht; subst ht; exact ⟨ha, hz⟩
        · cases ht
      · split at ht
        · cases ht
        · rw [List.mem_singleton] at ht; subst ht; exact hL _ (by simp)
  intro t ht
  unfold putL at ht
  rcases List.mem_append.1 ht with ht | ht
  · exact key L ([], false) h (by simp) t ht
  · split at ht
    · cases ht
    · rw [List.mem_singleton] at ht; subst ht; exact ⟨ha, hz⟩

set_option maxRecDepth 20000 in
set_option maxHeartbeats 8000000 in
theorem put_any (ex : Bool) (at' : Int) (v : Value) (L : List Tmd) (S : Nat) (a : Str) (z : Int) (w : World) (hS : CBox w S 24 #[.bool ex, .int .i64 at', v]) (h : Tms w v L) (hn : L.length ≤ 1000000) (ha : a.length ≤ maxLen) (hz : (Lit.int .i64 z).wf = true) :
    Calls Try.prog 57 #[.pointer (some ⟨S, 0, none⟩), .string (bstr a), .int .i64 z] w fun e w' => e = .returned (.tuple #[]) ∧ ∃ v', CBox w' S 24 #[.bool ex, .int .i64 at', v'] ∧ Tms w' v' (putL L a z) ∧ Lies w.heap.size v' ∧ w.grownBy w' (some S) := by
  obtain ⟨ao, cap, rfl⟩ := h.shape
  obtain ⟨i0, hi, hz0, hz1, hz2⟩ := info_parts infoTmd
  obtain ⟨b, off, hm, hlen, hidx, hc⟩ := h.facts
  have HWF := Lib.hid (putL_wfs a z ha hz h.wfs)
  have hSl := hS.lt
  have S1 := Lib.hid hS
  have hbt := bstr_toList
  clear h hS
  go_enter Try.func57, Try.ntmps57
  go_wp2_with fail
  go_loopw [6, 7, 8] (fun vo d i wr => ∃ (k : Nat) (o : List Tmd) (dn : Bool), k ≤ L.length ∧ i = .int .i64 k ∧ (L.take k).foldl (putStep a z) ([], false) = (o, dn) ∧ d = .bool dn ∧ wr.ownsRow w.heap.size 56 2 vo o.length (o.flatMap tcells) ∧ Below w.heap.size w wr) (fun _ _ i _ => L.length - (intOf i).toNat)
  case atStart => exact ⟨0, [], false, Nat.zero_le _, rfl, rfl, rfl, World.ownsRow_nil _ _ _ _, Below.refl _ _⟩
  case round =>
    obtain ⟨k, o, dn, hk, rfl, hst, rfl, hown, hbel⟩ := hrel
    have hol : o.length ≤ 2 * k := by have := putStep_len a z L k; rw [hst] at this; exact this
    have tS := S1.out.below hbel hSl
    obtain ⟨x2, x2f⟩ := tS.at_ 2 (.slice ao L.length cap) rfl
    have TS := Lib.hid tS
    have hszz := hbel.size
    obtain ⟨vo, vc, rfl⟩ := own_form hown
    have HO := Lib.hid hown; have HB := Lib.hid hbel
    by_cases hlt : k < L.length
    · obtain ⟨⟨s, n⟩, hs⟩ : ∃ s, L.getD k default = s := ⟨_, rfl⟩
      obtain ⟨hlb, c0, c1⟩ := hc k hlt
      rw [hs] at c0 c1
      have q0 := (hbel.cell (p := ⟨b, off + k * 2, none⟩) hlb).trans c0
      have q1 := (hbel.cell (p := ⟨b, off + k * 2 + 1, none⟩) hlb).trans c1
      have hp := hidx k hlt
      have hL : L[k] = (s, n) := by rw [← hs]; simp [List.getD_eq_getElem?_getD, hlt]
      have HT := Lib.hid (show (L.take (k + 1)).foldl (putStep a z) ([], false) = putStep a z (o, dn) (s, n) from by rw [put_snoc L a z k hlt, hst, hL])
      have hbl : Op.bytesLess s a = decide (s < a) := Go.Proofs.bytesLess_eq s a
      clear hidx hc c0 c1 hs hL hst hown hbel tS
      cases dn <;> cases hd0 : decide (s < a) <;> cases hd1 : (s == a)
      all_goals rw [hd0] at hbl
      · have HE := Lib.hid (show (L.take (k + 1)).foldl (putStep a z) ([], false) = (o ++ [(a, z), (s, n)], true) from by rw [HT.out, putStep_eq, hd0, hd1]; simp)
        clear HT hd0
        go_wp2_with (first | (at_builtin; refine wpList_append_vals _ rfl _ _ 22 rfl w.heap.size 56 i0 (.agg #[.string ⟨#[]⟩, .int .i64 0]) 2 24 Try.underlying22 hi hz0 hz1 hz2 rfl (by decide) (.slice vo o.length vc) _ _ rfl ((HO.out.alloc _).alloc _) _ 1 [.string (bstr a), .int .i64 z] rfl (sliceOf_block (heap_new _ _ _ (by simp)) rfl (by simp [Value.oneCell'])) (by unfold maxLen; omega) (by omega) (by have := hszz; simp; omega) ?_; intro v2 w3 hown3 hg3 _; have tb3 := ((CBox.new (w := wr) (T := 56) #[.string (bstr s), .int .i64 n] rfl).old _).grown hg3 (fun e => by have := (HO.out.lt _ e.symm).2; omega); have e0 := (tb3.at_ 0 (.string (bstr s)) rfl).1; have e1 := (tb3.at_ 1 (.int .i64 n) rfl).1; have HO3 := Lib.hid hown3; have HB3 := Lib.hid (below_own ((HB.out.alloc HB.out.size _).alloc (by have := HB.out.size; simp; omega) _) ((HO.out.alloc _).alloc _) (Nat.le_refl _) (by have := HB.out.size; simp; omega) hg3); have hl3 := tb3.lt; clear tb3 hown3 hg3) | (at_builtin; refine wpList_append_vals _ rfl _ _ 22 rfl w.heap.size 56 i0 (.agg #[.string ⟨#[]⟩, .int .i64 0]) 2 24 Try.underlying22 hi hz0 hz1 hz2 rfl (by decide) (v2) _ _ rfl (HO3.out.alloc _) _ 1 [.string (bstr s), .int .i64 n] rfl (sliceOf_block (heap_new _ _ _ (by simp)) rfl (by simp [Value.oneCell'])) (by unfold maxLen; omega) (by omega) (by have := HB3.out.size; simp; omega) ?_; intro v4 w4 hown4 hg4 _))
        go_roundw
        case rel => exact ⟨k + 1, _, _, by omega, by go_num, HE.out, by simp, by simpa [tcells] using hown4, below_own (HB3.out.alloc HB3.out.size _) (HO3.out.alloc _) (Nat.le_refl _) (by have := HB3.out.size; simp; omega) hg4⟩
        case measure => simp [intOf]; omega
      · have HE := Lib.hid (show (L.take (k + 1)).foldl (putStep a z) ([], false) = (o ++ [(a, z)], true) from by rw [HT.out, putStep_eq, hd0, hd1]; simp)
        clear HT hd0
        go_wp2_with (at_builtin; refine wpList_append_vals _ rfl _ _ 22 rfl w.heap.size 56 i0 (.agg #[.string ⟨#[]⟩, .int .i64 0]) 2 24 Try.underlying22 hi hz0 hz1 hz2 rfl (by decide) (.slice vo o.length vc) _ _ rfl ((HO.out.alloc _).alloc _) _ 1 [.string (bstr a), .int .i64 z] rfl (sliceOf_block (heap_new _ _ _ (by simp)) rfl (by simp [Value.oneCell'])) (by unfold maxLen; omega) (by omega) (by have := hszz; simp; omega) ?_; intro v2 w3 hown3 hg3 _; have tb3 := ((CBox.new (w := wr) (T := 56) #[.string (bstr s), .int .i64 n] rfl).old _).grown hg3 (fun e => by have := (HO.out.lt _ e.symm).2; omega); have e0 := (tb3.at_ 0 (.string (bstr s)) rfl).1; have e1 := (tb3.at_ 1 (.int .i64 n) rfl).1; have HO3 := Lib.hid hown3; have HB3 := Lib.hid (below_own ((HB.out.alloc HB.out.size _).alloc (by have := HB.out.size; simp; omega) _) ((HO.out.alloc _).alloc _) (Nat.le_refl _) (by have := HB.out.size; simp; omega) hg3); have hl3 := tb3.lt; clear tb3 hown3 hg3)
        go_roundw
        case rel => exact ⟨k + 1, _, _, by omega, by go_num, HE.out, by simp, by simpa [tcells] using HO3.out, HB3.out⟩
        case measure => simp [intOf]; omega
      · have HE := Lib.hid (show (L.take (k + 1)).foldl (putStep a z) ([], false) = (o ++ [(s, n)], false) from by rw [HT.out, putStep_eq, hd0, hd1]; simp)
        clear HT hd0
        go_wp2_with (at_builtin; refine wpList_append_vals _ rfl _ _ 22 rfl w.heap.size 56 i0 (.agg #[.string ⟨#[]⟩, .int .i64 0]) 2 24 Try.underlying22 hi hz0 hz1 hz2 rfl (by decide) (.slice vo o.length vc) _ _ rfl ((HO.out.alloc _).alloc _) _ 1 [.string (bstr s), .int .i64 n] rfl (sliceOf_block (heap_new _ _ _ (by simp)) rfl (by simp [Value.oneCell'])) (by unfold maxLen; omega) (by omega) (by have := hszz; simp; omega) ?_; intro v2 w3 hown3 hg3 _)
        go_roundw
        case rel => exact ⟨k + 1, _, _, by omega, by go_num, HE.out, by simp, by simpa [tcells] using hown3, below_own ((HB.out.alloc HB.out.size _).alloc (by have := HB.out.size; simp; omega) _) ((HO.out.alloc _).alloc _) (Nat.le_refl _) (by have := HB.out.size; simp; omega) hg3⟩
        case measure => simp [intOf]; omega
      · have HE := Lib.hid (show (L.take (k + 1)).foldl (putStep a z) ([], false) = (o, false) from by rw [HT.out, putStep_eq, hd0, hd1]; simp)
        clear HT hd0
        go_wp2_with fail
        go_roundw
        case rel => exact ⟨k + 1, o, _, by omega, by go_num, HE.out, by simp, HO.out.alloc _, HB.out.alloc HB.out.size _⟩
        case measure => simp [intOf]; omega
      · have HE := Lib.hid (show (L.take (k + 1)).foldl (putStep a z) ([], false) = (o ++ [(s, n)], true) from by rw [HT.out, putStep_eq, hd0, hd1]; simp)
        clear HT hd0
        go_wp2_with (at_builtin; refine wpList_append_vals _ rfl _ _ 22 rfl w.heap.size 56 i0 (.agg #[.string ⟨#[]⟩, .int .i64 0]) 2 24 Try.underlying22 hi hz0 hz1 hz2 rfl (by decide) (.slice vo o.length vc) _ _ rfl ((HO.out.alloc _).alloc _) _ 1 [.string (bstr s), .int .i64 n] rfl (sliceOf_block (heap_new _ _ _ (by simp)) rfl (by simp [Value.oneCell'])) (by unfold maxLen; omega) (by omega) (by have := hszz; simp; omega) ?_; intro v2 w3 hown3 hg3 _)
        go_roundw
        case rel => exact ⟨k + 1, _, _, by omega, by go_num, HE.out, by simp, by simpa [tcells] using hown3, below_own ((HB.out.alloc HB.out.size _).alloc (by have := HB.out.size; simp; omega) _) ((HO.out.alloc _).alloc _) (Nat.le_refl _) (by have := HB.out.size; simp; omega) hg3⟩
        case measure => simp [intOf]; omega
      · have HE := Lib.hid (show (L.take (k + 1)).foldl (putStep a z) ([], false) = (o, true) from by rw [HT.out, putStep_eq, hd0, hd1]; simp)
        clear HT hd0
        go_wp2_with fail
        go_roundw
        case rel => exact ⟨k + 1, o, _, by omega, by go_num, HE.out, by simp, HO.out.alloc _, HB.out.alloc HB.out.size _⟩
        case measure => simp [intOf]; omega
      · have HE := Lib.hid (show (L.take (k + 1)).foldl (putStep a z) ([], false) = (o ++ [(s, n)], true) from by rw [HT.out, putStep_eq, hd0, hd1]; simp)
        clear HT hd0
        go_wp2_with (at_builtin; refine wpList_append_vals _ rfl _ _ 22 rfl w.heap.size 56 i0 (.agg #[.string ⟨#[]⟩, .int .i64 0]) 2 24 Try.underlying22 hi hz0 hz1 hz2 rfl (by decide) (.slice vo o.length vc) _ _ rfl ((HO.out.alloc _).alloc _) _ 1 [.string (bstr s), .int .i64 n] rfl (sliceOf_block (heap_new _ _ _ (by simp)) rfl (by simp [Value.oneCell'])) (by unfold maxLen; omega) (by omega) (by have := hszz; simp; omega) ?_; intro v2 w3 hown3 hg3 _)
        go_roundw
        case rel => exact ⟨k + 1, _, _, by omega, by go_num, HE.out, by simp, by simpa [tcells] using hown3, below_own ((HB.out.alloc HB.out.size _).alloc (by have := HB.out.size; simp; omega) _) ((HO.out.alloc _).alloc _) (Nat.le_refl _) (by have := HB.out.size; simp; omega) hg3⟩
        case measure => simp [intOf]; omega
      · have HE := Lib.hid (show (L.take (k + 1)).foldl (putStep a z) ([], false) = (o, true) from by rw [HT.out, putStep_eq, hd0, hd1]; simp)
        clear HT hd0
        go_wp2_with fail
        go_roundw
        case rel => exact ⟨k + 1, o, _, by omega, by go_num, HE.out, by simp, HO.out.alloc _, HB.out.alloc HB.out.size _⟩
        case measure => simp [intOf]; omega
    · have hL : L.take k = L := List.take_of_length_le (by omega)
      rw [hL] at hst
      have HP := Lib.hid (show putL L a z = o ++ (if dn then [] else [(a, z)]) from by unfold putL; rw [hst])
      have HU := Lib.hid (HP.out ▸ HWF.out)
      clear hidx hc hst hown hbel tS hL
      cases dn
      · go_wp2_with (at_builtin; refine wpList_append_vals _ rfl _ _ 22 rfl w.heap.size 56 i0 (.agg #[.string ⟨#[]⟩, .int .i64 0]) 2 24 Try.underlying22 hi hz0 hz1 hz2 rfl (by decide) (.slice vo o.length vc) _ _ rfl (HO.out.alloc _) _ 1 [.string (bstr a), .int .i64 z] rfl (sliceOf_block (heap_new _ _ _ (by simp)) rfl (by simp [Value.oneCell'])) (by unfold maxLen; omega) (by omega) (by have := hszz; simp; omega) ?_; intro v2 w3 hown3 hg3 _; obtain ⟨v2o, v2c, rfl⟩ := own_form hown3; have tb3 := (TS.out.old (.cells #[.string (bstr a), .int .i64 z] 56)).grown hg3 (fun e => by have := (HO.out.lt _ e.symm).1; omega); obtain ⟨e2, e2f⟩ := tb3.at_ 2 (.slice ao L.length cap) rfl; have HT3 := Lib.hid tb3; have HO3 := Lib.hid hown3; have HB3 := Lib.hid (below_own (HB.out.alloc HB.out.size _) (HO.out.alloc _) (Nat.le_refl _) (by have := HB.out.size; simp; omega) hg3); clear tb3 hown3 hg3)
        go_end0
        have hrow : w3.ownsRow w.heap.size 56 2 (.slice v2o (o.length + 1) v2c) (o ++ [(a, z)]).length ((o ++ [(a, z)]).flatMap tcells) := by simpa [tcells] using HO3.out
        have hT : Tms w3 (.slice v2o (o.length + 1) v2c) (o ++ [(a, z)]) := Tms.own hrow (by simp; omega) (by simpa using HU.out)
        have hL3 : Lies w.heap.size (.slice v2o (o.length + 1) v2c) := Lies.own hrow
        exact ⟨rfl, _, by simpa using HT3.out.set 2 (.slice v2o (o.length + 1) v2c), by rw [HP.out]; exact hT.far hL3 (by simp; omega) _, hL3, ((World.grownBy.but ⟨HB3.out.os, HB3.out.tape, HB3.out.output, HB3.out.size, fun i hi _ => HB3.out.block i hi⟩ _)).andThen (row' := some S) ⟨rfl, rfl, rfl, by simp, fun i hi hne => Below.heap_setCell _ _ _ i (fun e => hne (by rw [e]))⟩ (fun j e => .inr e)⟩
      · go_wp2_with fail
        go_end0
        have hT : Tms wr (.slice vo o.length vc) o := Tms.own HO.out (by omega) (by simpa using HU.out)
        have hL3 : Lies w.heap.size (.slice vo o.length vc) := Lies.own HO.out
        refine ⟨rfl, _, by simpa using TS.out.set 2 (.slice vo o.length vc), by rw [HP.out]; simpa using hT.far hL3 (p := ⟨S, 2, none⟩) (by simp; omega) (.slice vo o.length vc), hL3, ((World.grownBy.but ⟨HB.out.os, HB.out.tape, HB.out.output, HB.out.size, fun i hi _ => HB.out.block i hi⟩ _)).andThen (row' := some S) ⟨rfl, rfl, rfl, by simp, fun i hi hne => Below.heap_setCell _ _ _ i (fun e => hne (by rw [e]))⟩ (fun j e => .inr e)⟩
end Go.Proofs.Ytkphgonbbhlnfaa
