/- Texts joined into one file: GPutW, GRef2, GRef3. -/
import Derived.Test.YtpibmjkbebkilaaGreatW12
import Derived.Test.YtpibmjkbebkilaaGreatW11

namespace Go.Proofs.YtpibmjkbebkilaaGreat
open Go.RowKit Go.Lib Go.Maps Go.Sort
set_option maxRecDepth 20000

theorem sliceOf_block {w : World} {b : Nat} {cs : List Value} {T : TypeId} {fr : Nat × Nat} {size m c : Nat} (h : w.heap[b]? = some (.cells cs.toArray T fr)) (hl : cs.length = m * size) (h1 : ∀ x ∈ cs, x.oneCell' = true) :
 SliceOf w size (.slice (some ⟨b, 0, none⟩) m c) m cs := by
 refine ⟨_, _, rfl, hl, h1, .inr ⟨_, rfl, fun j x hj => ?_⟩⟩
 rw [add_lit, Nat.zero_add]
 simp [World.cell?, h, hj]

theorem putStep_len (a : Str) (z : Int) (L : List Tmd) : ∀ k, ((L.take k).foldl (putStep a z) ([], false)).1.length ≤ 2 * k
 | 0 => by simp
 | k + 1 => by
   by_cases h : k < L.length
   · have i := putStep_len a z L k
     rw [put_snoc L a z k h, putStep_eq]
     simp only [List.length_append]
     split <;> split <;> simp <;> omega
   · have i := putStep_len a z L k
     rw [List.take_of_length_le (by omega)] at i ⊢
     omega
theorem putL_wfs {L : List Tmd} (a : Str) (z : Int) (ha : a.length ≤ maxLen) (hz : (Lit.int .i64 z).wf = true) (h : ∀ t ∈ L, t.1.length ≤ maxLen ∧ (Lit.int .i64 t.2).wf = true) : ∀ t ∈ putL L a z, t.1.length ≤ maxLen ∧ (Lit.int .i64 t.2).wf = true := by
 have key : ∀ (L : List Tmd) (o : List Tmd × Bool), (∀ t ∈ L, t.1.length ≤ maxLen ∧ (Lit.int .i64 t.2).wf = true) → (∀ t ∈ o.1, t.1.length ≤ maxLen ∧ (Lit.int .i64 t.2).wf = true) → ∀ t ∈ (L.foldl (putStep a z) o).1, t.1.length ≤ maxLen ∧ (Lit.int .i64 t.2).wf = true := by
  intro L
  induction L with
  | nil => intro o _ h; exact h
  | cons u L ih =>
    intro o hL ho
    rw [List.foldl_cons]
    refine ih _ (fun t ht => hL t (List.mem_cons_of_mem _ ht)) (fun t ht => ?_)
    rw [putStep_eq] at ht
    simp only [List.mem_append] at ht
    rcases ht with (ht | ht) | ht
    · exact ho t ht
    · split at ht
      · rw [List.mem_singleton] at ht; subst ht; exact ⟨ha, hz⟩
      · cases ht
    · split at ht
      · cases ht
      · rw [List.mem_singleton] at ht; subst ht; exact hL _ (by simp)
 intro t ht
 unfold putL at ht
 rcases List.mem_append.1 ht with ht | ht
 · exact key L ([], false) h (by simp) t ht
 · split at ht
   · cases ht
   · rw [List.mem_singleton] at ht; subst ht; exact ⟨ha, hz⟩

set_option maxRecDepth 20000 in
set_option maxHeartbeats 8000000 in
theorem put_any (ex : Bool) (at' : Int) (v : Value) (L : List Tmd) (S : Nat) (a : Str) (z : Int) (w : World) (hS : CBox w S 71 #[.bool ex, .int .i64 at', v]) (h : Tms w v L) (hn : L.length ≤ 1000000) (ha : a.length ≤ maxLen) (hz : (Lit.int .i64 z).wf = true) :
 Calls Tryz.prog 90 #[.pointer (some ⟨S, 0, none⟩), .string (bstr a), .int .i64 z] w fun e w' => e = .returned (.tuple #[]) ∧ ∃ v', CBox w' S 71 #[.bool ex, .int .i64 at', v'] ∧ Tms w' v' (putL L a z) ∧ Lies w.heap.size v' ∧ w.grownBy w' (some S) := by
 obtain ⟨ao, cap, rfl⟩ := h.shape
 obtain ⟨i0, hi, hz0, hz1, hz2⟩ := info_parts infoTmd
 obtain ⟨b, off, hm, hlen, hidx, hc⟩ := h.facts
 have HWF := Lib.hid (putL_wfs a z ha hz h.wfs)
 have hSl := hS.lt
 have S1 := Lib.hid hS
 have hbt := bstr_toList
 clear h hS
 go_enter Tryz.func90, Tryz.ntmps90
 go_wp2_with fail
 go_loopw [6, 7, 8] (fun vo d i wr => ∃ (k : Nat) (o : List Tmd) (dn : Bool), k ≤ L.length ∧ i = .int .i64 k ∧ (L.take k).foldl (putStep a z) ([], false) = (o, dn) ∧ d = .bool dn ∧ wr.ownsRow w.heap.size 103 2 vo o.length (o.flatMap tcells) ∧ Below w.heap.size w wr) (fun _ _ i _ => L.length - (intOf i).toNat)
 case atStart => exact ⟨0, [], false, Nat.zero_le _, rfl, rfl, rfl, World.ownsRow_nil _ _ _ _, Below.refl _ _⟩
 case round =>
  obtain ⟨k, o, dn, hk, rfl, hst, rfl, hown, hbel⟩ := hrel
  have hol : o.length ≤ 2 * k := by have := putStep_len a z L k; rw [hst] at this; exact this
  have tS := S1.out.below hbel hSl
  obtain ⟨x2, x2f⟩ := tS.at_ 2 (.slice ao L.length cap) rfl
  have TS := Lib.hid tS
  have hszz := hbel.size
  obtain ⟨vo, vc, rfl⟩ := own_form hown
  have HO := Lib.hid hown; have HB := Lib.hid hbel
  by_cases hlt : k < L.length
  · obtain ⟨⟨s, n⟩, hs⟩ : ∃ s, L.getD k default = s := ⟨_, rfl⟩
    obtain ⟨hlb, c0, c1⟩ := hc k hlt
    rw [hs] at c0 c1
    have q0 := (hbel.cell (p := ⟨b, off + k * 2, none⟩) hlb).trans c0
    have q1 := (hbel.cell (p := ⟨b, off + k * 2 + 1, none⟩) hlb).trans c1
    have hp := hidx k hlt
    have hL : L[k] = (s, n) := by rw [← hs]; simp [List.getD_eq_getElem?_getD, hlt]
    have HT := Lib.hid (show (L.take (k + 1)).foldl (putStep a z) ([], false) = putStep a z (o, dn) (s, n) from by rw [put_snoc L a z k hlt, hst, hL])
    have hbl : Op.bytesLess s a = decide (s < a) := Go.Proofs.bytesLess_eq s a
    clear hidx hc c0 c1 hs hL hst hown hbel tS
    cases dn <;> cases hd0 : decide (s < a) <;> cases hd1 : (s == a)
    all_goals rw [hd0] at hbl
    · have HE := Lib.hid (show (L.take (k + 1)).foldl (putStep a z) ([], false) = (o ++ [(a, z), (s, n)], true) from by rw [HT.out, putStep_eq, hd0, hd1]; simp)
      clear HT hd0
      go_wp2_with (first | (at_builtin; refine wpList_append_vals _ rfl _ _ 69 rfl w.heap.size 103 i0 (.agg #[.string ⟨#[]⟩, .int .i64 0]) 2 24 Tryz.underlying69 hi hz0 hz1 hz2 rfl (by decide) (.slice vo o.length vc) _ _ rfl ((HO.out.alloc _).alloc _) _ 1 [.string (bstr a), .int .i64 z] rfl (sliceOf_block (heap_new _ _ _ (by simp)) rfl (by simp [Value.oneCell'])) (by unfold maxLen; omega) (by omega) (by have := hszz; simp; omega) ?_; intro v2 w3 hown3 hg3 _; have tb3 := ((CBox.new (w := wr) (T := 103) #[.string (bstr s), .int .i64 n] rfl).old _).grown hg3 (fun e => by have := (HO.out.lt _ e.symm).2; omega); have e0 := (tb3.at_ 0 (.string (bstr s)) rfl).1; have e1 := (tb3.at_ 1 (.int .i64 n) rfl).1; have HO3 := Lib.hid hown3; have HB3 := Lib.hid (below_own ((HB.out.alloc HB.out.size _).alloc (by have := HB.out.size; simp; omega) _) ((HO.out.alloc _).alloc _) (Nat.le_refl _) (by have := HB.out.size; simp; omega) hg3); have hl3 := tb3.lt; clear tb3 hown3 hg3) | (at_builtin; refine wpList_append_vals _ rfl _ _ 69 rfl w.heap.size 103 i0 (.agg #[.string ⟨#[]⟩, .int .i64 0]) 2 24 Tryz.underlying69 hi hz0 hz1 hz2 rfl (by decide) (v2) _ _ rfl (HO3.out.alloc _) _ 1 [.string (bstr s), .int .i64 n] rfl (sliceOf_block (heap_new _ _ _ (by simp)) rfl (by simp [Value.oneCell'])) (by unfold maxLen; omega) (by omega) (by have := HB3.out.size; simp; omega) ?_; intro v4 w4 hown4 hg4 _))
      go_roundw
      case rel => exact ⟨k + 1, _, _, by omega, by go_num, HE.out, by simp, by simpa [tcells] using hown4, below_own (HB3.out.alloc HB3.out.size _) (HO3.out.alloc _) (Nat.le_refl _) (by have := HB3.out.size; simp; omega) hg4⟩
      case measure => simp [intOf]; omega
    · have HE := Lib.hid (show (L.take (k + 1)).foldl (putStep a z) ([], false) = (o ++ [(a, z)], true) from by rw [HT.out, putStep_eq, hd0, hd1]; simp)
      clear HT hd0
      go_wp2_with (at_builtin; refine wpList_append_vals _ rfl _ _ 69 rfl w.heap.size 103 i0 (.agg #[.string ⟨#[]⟩, .int .i64 0]) 2 24 Tryz.underlying69 hi hz0 hz1 hz2 rfl (by decide) (.slice vo o.length vc) _ _ rfl ((HO.out.alloc _).alloc _) _ 1 [.string (bstr a), .int .i64 z] rfl (sliceOf_block (heap_new _ _ _ (by simp)) rfl (by simp [Value.oneCell'])) (by unfold maxLen; omega) (by omega) (by have := hszz; simp; omega) ?_; intro v2 w3 hown3 hg3 _; have tb3 := ((CBox.new (w := wr) (T := 103) #[.string (bstr s), .int .i64 n] rfl).old _).grown hg3 (fun e => by have := (HO.out.lt _ e.symm).2; omega); have e0 := (tb3.at_ 0 (.string (bstr s)) rfl).1; have e1 := (tb3.at_ 1 (.int .i64 n) rfl).1; have HO3 := Lib.hid hown3; have HB3 := Lib.hid (below_own ((HB.out.alloc HB.out.size _).alloc (by have := HB.out.size; simp; omega) _) ((HO.out.alloc _).alloc _) (Nat.le_refl _) (by have := HB.out.size; simp; omega) hg3); have hl3 := tb3.lt; clear tb3 hown3 hg3)
      go_roundw
      case rel => exact ⟨k + 1, _, _, by omega, by go_num, HE.out, by simp, by simpa [tcells] using HO3.out, HB3.out⟩
      case measure => simp [intOf]; omega
    · have HE := Lib.hid (show (L.take (k + 1)).foldl (putStep a z) ([], false) = (o ++ [(s, n)], false) from by rw [HT.out, putStep_eq, hd0, hd1]; simp)
      clear HT hd0
      go_wp2_with (at_builtin; refine wpList_append_vals _ rfl _ _ 69 rfl w.heap.size 103 i0 (.agg #[.string ⟨#[]⟩, .int .i64 0]) 2 24 Tryz.underlying69 hi hz0 hz1 hz2 rfl (by decide) (.slice vo o.length vc) _ _ rfl ((HO.out.alloc _).alloc _) _ 1 [.string (bstr s), .int .i64 n] rfl (sliceOf_block (heap_new _ _ _ (by simp)) rfl (by simp [Value.oneCell'])) (by unfold maxLen; omega) (by omega) (by have := hszz; simp; omega) ?_; intro v2 w3 hown3 hg3 _)
      go_roundw
      case rel => exact ⟨k + 1, _, _, by omega, by go_num, HE.out, by simp, by simpa [tcells] using hown3, below_own ((HB.out.alloc HB.out.size _).alloc (by have := HB.out.size; simp; omega) _) ((HO.out.alloc _).alloc _) (Nat.le_refl _) (by have := HB.out.size; simp; omega) hg3⟩
      case measure => simp [intOf]; omega
    · have HE := Lib.hid (show (L.take (k + 1)).foldl (putStep a z) ([], false) = (o, false) from by rw [HT.out, putStep_eq, hd0, hd1]; simp)
      clear HT hd0
      go_wp2_with fail
      go_roundw
      case rel => exact ⟨k + 1, o, _, by omega, by go_num, HE.out, by simp, HO.out.alloc _, HB.out.alloc HB.out.size _⟩
      case measure => simp [intOf]; omega
    · have HE := Lib.hid (show (L.take (k + 1)).foldl (putStep a z) ([], false) = (o ++ [(s, n)], true) from by rw [HT.out, putStep_eq, hd0, hd1]; simp)
      clear HT hd0
      go_wp2_with (at_builtin; refine wpList_append_vals _ rfl _ _ 69 rfl w.heap.size 103 i0 (.agg #[.string ⟨#[]⟩, .int .i64 0]) 2 24 Tryz.underlying69 hi hz0 hz1 hz2 rfl (by decide) (.slice vo o.length vc) _ _ rfl ((HO.out.alloc _).alloc _) _ 1 [.string (bstr s), .int .i64 n] rfl (sliceOf_block (heap_new _ _ _ (by simp)) rfl (by simp [Value.oneCell'])) (by unfold maxLen; omega) (by omega) (by have := hszz; simp; omega) ?_; intro v2 w3 hown3 hg3 _)
      go_roundw
      case rel => exact ⟨k + 1, _, _, by omega, by go_num, HE.out, by simp, by simpa [tcells] using hown3, below_own ((HB.out.alloc HB.out.size _).alloc (by have := HB.out.size; simp; omega) _) ((HO.out.alloc _).alloc _) (Nat.le_refl _) (by have := HB.out.size; simp; omega) hg3⟩
      case measure => simp [intOf]; omega
    · have HE := Lib.hid (show (L.take (k + 1)).foldl (putStep a z) ([], false) = (o, true) from by rw [HT.out, putStep_eq, hd0, hd1]; simp)
      clear HT hd0
      go_wp2_with fail
      go_roundw
      case rel => exact ⟨k + 1, o, _, by omega, by go_num, HE.out, by simp, HO.out.alloc _, HB.out.alloc HB.out.size _⟩
      case measure => simp [intOf]; omega
    · have HE := Lib.hid (show (L.take (k + 1)).foldl (putStep a z) ([], false) = (o ++ [(s, n)], true) from by rw [HT.out, putStep_eq, hd0, hd1]; simp)
      clear HT hd0
      go_wp2_with (at_builtin; refine wpList_append_vals _ rfl _ _ 69 rfl w.heap.size 103 i0 (.agg #[.string ⟨#[]⟩, .int .i64 0]) 2 24 Tryz.underlying69 hi hz0 hz1 hz2 rfl (by decide) (.slice vo o.length vc) _ _ rfl ((HO.out.alloc _).alloc _) _ 1 [.string (bstr s), .int .i64 n] rfl (sliceOf_block (heap_new _ _ _ (by simp)) rfl (by simp [Value.oneCell'])) (by unfold maxLen; omega) (by omega) (by have := hszz; simp; omega) ?_; intro v2 w3 hown3 hg3 _)
      go_roundw
      case rel => exact ⟨k + 1, _, _, by omega, by go_num, HE.out, by simp, by simpa [tcells] using hown3, below_own ((HB.out.alloc HB.out.size _).alloc (by have := HB.out.size; simp; omega) _) ((HO.out.alloc _).alloc _) (Nat.le_refl _) (by have := HB.out.size; simp; omega) hg3⟩
      case measure => simp [intOf]; omega
    · have HE := Lib.hid (show (L.take (k + 1)).foldl (putStep a z) ([], false) = (o, true) from by rw [HT.out, putStep_eq, hd0, hd1]; simp)
      clear HT hd0
      go_wp2_with fail
      go_roundw
      case rel => exact ⟨k + 1, o, _, by omega, by go_num, HE.out, by simp, HO.out.alloc _, HB.out.alloc HB.out.size _⟩
      case measure => simp [intOf]; omega
  · have hL : L.take k = L := List.take_of_length_le (by omega)
    rw [hL] at hst
    have HP := Lib.hid (show putL L a z = o ++ (if dn then [] else [(a, z)]) from by unfold putL; rw [hst])
    have HU := Lib.hid (HP.out ▸ HWF.out)
    clear hidx hc hst hown hbel tS hL
    cases dn
    · go_wp2_with (at_builtin; refine wpList_append_vals _ rfl _ _ 69 rfl w.heap.size 103 i0 (.agg #[.string ⟨#[]⟩, .int .i64 0]) 2 24 Tryz.underlying69 hi hz0 hz1 hz2 rfl (by decide) (.slice vo o.length vc) _ _ rfl (HO.out.alloc _) _ 1 [.string (bstr a), .int .i64 z] rfl (sliceOf_block (heap_new _ _ _ (by simp)) rfl (by simp [Value.oneCell'])) (by unfold maxLen; omega) (by omega) (by have := hszz; simp; omega) ?_; intro v2 w3 hown3 hg3 _; obtain ⟨v2o, v2c, rfl⟩ := own_form hown3; have tb3 := (TS.out.old (.cells #[.string (bstr a), .int .i64 z] 103)).grown hg3 (fun e => by have := (HO.out.lt _ e.symm).1; omega); obtain ⟨e2, e2f⟩ := tb3.at_ 2 (.slice ao L.length cap) rfl; have HT3 := Lib.hid tb3; have HO3 := Lib.hid hown3; have HB3 := Lib.hid (below_own (HB.out.alloc HB.out.size _) (HO.out.alloc _) (Nat.le_refl _) (by have := HB.out.size; simp; omega) hg3); clear tb3 hown3 hg3)
      go_end0
      have hrow : w3.ownsRow w.heap.size 103 2 (.slice v2o (o.length + 1) v2c) (o ++ [(a, z)]).length ((o ++ [(a, z)]).flatMap tcells) := by simpa [tcells] using HO3.out
      have hT : Tms w3 (.slice v2o (o.length + 1) v2c) (o ++ [(a, z)]) := Tms.own hrow (by simp; omega) (by simpa using HU.out)
      have hL3 : Lies w.heap.size (.slice v2o (o.length + 1) v2c) := Lies.own hrow
      exact ⟨rfl, _, by simpa using HT3.out.set 2 (.slice v2o (o.length + 1) v2c), by rw [HP.out]; exact hT.far hL3 (by simp; omega) _, hL3, ((World.grownBy.but ⟨HB3.out.os, HB3.out.tape, HB3.out.output, HB3.out.size, fun i hi _ => HB3.out.block i hi⟩ _)).andThen (row' := some S) ⟨rfl, rfl, rfl, by simp, fun i hi hne => Below.heap_setCell _ _ _ i (fun e => hne (by rw [e]))⟩ (fun j e => .inr e)⟩
    · go_wp2_with fail
      go_end0
      have hT : Tms wr (.slice vo o.length vc) o := Tms.own HO.out (by omega) (by simpa using HU.out)
      have hL3 : Lies w.heap.size (.slice vo o.length vc) := Lies.own HO.out
      refine ⟨rfl, _, by simpa using TS.out.set 2 (.slice vo o.length vc), by rw [HP.out]; simpa using hT.far hL3 (p := ⟨S, 2, none⟩) (by simp; omega) (.slice vo o.length vc), hL3, ((World.grownBy.but ⟨HB.out.os, HB.out.tape, HB.out.output, HB.out.size, fun i hi _ => HB.out.block i hi⟩ _)).andThen (row' := some S) ⟨rfl, rfl, rfl, by simp, fun i hi hne => Below.heap_setCell _ _ _ i (fun e => hne (by rw [e]))⟩ (fun j e => .inr e)⟩

def StBox (w : World) (S : Nat) (ok : Nat → Prop) (ex : Bool) (at' : Int) (n : Nat) (F : Str → Option Int) : Prop :=
 ∃ v L, CBox w S 71 #[.bool ex, .int .i64 at', v] ∧ Tms w v L ∧ Asc F L ∧ L.length ≤ n ∧ (L ≠ [] → ∀ b, v.ownBlock = some b → ok b)
theorem StBox.lt {w : World} {S n : Nat} {ok : Nat → Prop} {ex : Bool} {at' : Int} {F : Str → Option Int} (h : StBox w S ok ex at' n F) : S < w.heap.size := by
 obtain ⟨v, L, h1, _⟩ := h; exact h1.lt
theorem StBox.mono {w w' : World} {S n : Nat} {ok : Nat → Prop} {ex : Bool} {at' : Int} {F : Str → Option Int} (h : StBox w S ok ex at' n F) (hb : Below w.heap.size w w') : StBox w' S ok ex at' n F := by
 obtain ⟨v, L, h1, h2, h3, h4⟩ := h
 exact ⟨v, L, h1.below hb h1.lt, h2.mono hb, h3, h4⟩
theorem StBox.up {w : World} {S n m : Nat} {ok : Nat → Prop} {ex : Bool} {at' : Int} {F : Str → Option Int} (h : StBox w S ok ex at' n F) (hm : n ≤ m) : StBox w S ok ex at' m F := by
 obtain ⟨v, L, h1, h2, h3, h4, h5⟩ := h
 exact ⟨v, L, h1, h2, h3, by omega, h5⟩
theorem put_st {w : World} {S n : Nat} {ok : Nat → Prop} {ex : Bool} {at' : Int} {F : Str → Option Int} (a : Str) (z : Int) (hok : ∀ b, w.heap.size ≤ b → ok b) (h : StBox w S ok ex at' n F) (hn : n ≤ 1000000) (ha : a.length ≤ maxLen) (hz : (Lit.int .i64 z).wf = true) :
 Calls Tryz.prog 90 #[.pointer (some ⟨S, 0, none⟩), .string (bstr a), .int .i64 z] w fun e w' => e = .returned (.tuple #[]) ∧ StBox w' S ok ex at' (n + 1) (upd F a z) ∧ w.grownBy w' (some S) := by
 obtain ⟨v, L, h1, h2, h3, h4, _⟩ := h
 refine (put_any ex at' v L S a z w h1 h2 (by omega) ha hz).mono ?_
 rintro e w' ⟨rfl, v', k1, k2, k3, k4⟩
 exact ⟨rfl, ⟨v', _, k1, k2, asc_put h3 a z, by have := putL_len L a z h3; omega, fun _ b hb => hok b (k3 b hb)⟩, k4⟩

set_option maxHeartbeats 2000000 in
theorem all_any {w : World} {S n : Nat} {ok : Nat → Prop} {ex : Bool} {at' : Int} {F : Str → Option Int} (lv : Value) (C : List Str) (z : Int) (hok : ∀ b, w.heap.size ≤ b → ok b) (h : StBox w S ok ex at' n F) (hn : n + C.length ≤ 1000000) (hC : Strs w lv C) (hne : C ≠ [] → lv.ownBlock ≠ some S) (hz : (Lit.int .i64 z).wf = true) :
 Calls Tryz.prog 86 #[.pointer (some ⟨S, 0, none⟩), lv, .int .i64 z] w fun e w' => e = .returned (.tuple #[]) ∧ StBox w' S ok ex at' (n + C.length) (setF F C z) ∧ w.grownBy w' (some S) := by
 obtain ⟨lo, lc, rfl⟩ := hC.shape
 have HC := Lib.hid hC; have HN := Lib.hid hne; have H := Lib.hid h; have HZ := Lib.hid hz
 have hw := hC.len
 clear hC hne h hz
 go_enter Tryz.func86, Tryz.ntmps86
 go_wp2_with fail
 go_loopw [6] (fun i wr => ∃ k : Nat, k ≤ C.length ∧ i = .int .i64 k ∧ StBox wr S ok ex at' (n + k) (setF F (C.take k) z) ∧ w.grownBy wr (some S)) (fun i _ => C.length - (intOf i).toNat)
 case atStart => exact ⟨0, Nat.zero_le _, rfl, by rw [List.take_zero, setF_nil]; exact H.out, World.grownBy.refl _ _⟩
 case round =>
  obtain ⟨k, hk, rfl, hst, hg⟩ := hrel
  have HG0 := Lib.hid hg
  obtain ⟨b, off, hm, hlen, hidx, hc⟩ := (HC.out.grown' hg HN.out).facts
  by_cases hlt : k < C.length
  · have hcell := (hc k hlt).2
    have HT := Lib.hid (setF_snoc F C z k hlt)
    obtain ⟨a, ha⟩ : ∃ a, C[k] = a := ⟨_, rfl⟩
    have hal : a.length ≤ maxLen := by rw [← ha]; exact hw _ (List.getElem_mem hlt)
    rw [show C.getD k [] = a from by rw [← ha]; simp [List.getD_eq_getElem?_getD, hlt], enc_bstr] at hcell
    rw [ha] at HT
    have hp := hidx k hlt
    have HP := Lib.hid (put_st a z (fun b hb => hok b (Nat.le_trans HG0.out.size hb)) hst (by omega) hal HZ.out)
    have HG := Lib.hid hg
    clear hidx hc hw ha hal hst hg
    go_wp2_with ((with_reducible refine HP.out.mono ?_); rintro e w2 ⟨rfl, hs2, hg2⟩)
    go_roundw
    case rel => exact ⟨k + 1, by omega, by go_num, by rw [HT.out]; exact hs2, HG.out.trans hg2⟩
    case measure => simp [intOf]; omega
  · have HT := Lib.hid (show C.take k = C from List.take_of_length_le (by omega))
    have hk' : k = C.length := by omega
    have HS := Lib.hid hst; have HG := Lib.hid hg
    clear hidx hc hw hst hg
    go_wp2_with fail
    go_end0
    exact ⟨rfl, by have := HS.out; rw [HT.out, hk'] at this; exact this, HG.out⟩

def keepF (F : Str → Option Int) (C : List Str) (G : Str → Option Int) : Str → Option Int := fun a => if C.contains a then some ((G a).getD 0) else F a
theorem keepF_nil (F G : Str → Option Int) : keepF F [] G = F := by funext a; simp [keepF]
theorem keepF_snoc (F : Str → Option Int) (C : List Str) (G : Str → Option Int) (k : Nat) (h : k < C.length) : keepF F (C.take (k + 1)) G = upd (keepF F (C.take k) G) C[k] ((G C[k]).getD 0) := by
 funext a
 unfold keepF upd
 rw [mem_snoc C a k h]
 by_cases e : a = C[k]
 · subst e; simp
 · have e' : (C[k] == a) = false := by rw [beq_eq_false_iff_ne]; exact fun h => e h.symm
   rw [e', Bool.or_false, if_neg e]

theorem asc_wf {F : Str → Option Int} {L : List Tmd} {w : World} {v : Value} (h : Asc F L) (hT : Tms w v L) (a : Str) : (Lit.int .i64 ((F a).getD 0)).wf = true := by
 cases hF : F a
 · rfl
 · rename_i z
   obtain ⟨t, ht, rfl⟩ := List.mem_map.1 ((h.1.2 a).2 (by simp [hF]))
   have := h.2 t ht
   rw [hF] at this
   injection this with e
   rw [Option.getD_some, e]
   exact (hT.wfs t ht).2

set_option maxHeartbeats 4000000 in
theorem kept_any {w : World} {S n : Nat} {ok : Nat → Prop} {ex : Bool} {at' : Int} {F : Str → Option Int} (hok : ∀ b, w.heap.size ≤ b → ok b) (lv : Value) (C : List Str) (e2 : Bool) (a2 : Int) (v2 : Value) (L2 : List Tmd) {G : Str → Option Int} (h : StBox w S ok ex at' n F) (hn : n + C.length ≤ 1000000) (hC : Strs w lv C) (hne : C ≠ [] → lv.ownBlock ≠ some S)
 (h2 : Tms w v2 L2) (hA : Asc G L2) (hne2 : L2 ≠ [] → ∀ b, v2.ownBlock = some b → b ≠ S) :
 Calls Tryz.prog 85 #[.pointer (some ⟨S, 0, none⟩), lv, .agg #[.bool e2, .int .i64 a2, v2]] w fun e w' => e = .returned (.tuple #[]) ∧ StBox w' S ok ex at' (n + C.length) (keepF F C G) ∧ w.grownBy w' (some S) := by
 obtain ⟨lo, lc, rfl⟩ := hC.shape
 obtain ⟨vo, vc, rfl⟩ := h2.shape
 have hSl := h.lt
 obtain ⟨W0, hW0⟩ : ∃ W0, W0 = w.alloc (.cells #[.bool e2, .int .i64 a2, .slice vo L2.length vc] 71) := ⟨_, rfl⟩
 have hb0 : Below w.heap.size w W0 := by rw [hW0]; exact (Below.refl _ _).alloc (Nat.le_refl _) _
 have s1 : CBox W0 w.heap.size 71 #[.bool e2, .int .i64 a2, .slice vo L2.length vc] := by rw [hW0]; exact CBox.new _ rfl
 have HC := Lib.hid (hC.mono hb0); have HN := Lib.hid hne; have H := Lib.hid (h.mono hb0); have H2 := Lib.hid (h2.mono hb0); have HN2 := Lib.hid hne2; have S1 := Lib.hid s1; have HB0 := Lib.hid hb0; have HA := Lib.hid hA
 have hw := hC.len
 clear hC hne h h2 hne2 s1 hb0 hA
 go_enter Tryz.func85, Tryz.ntmps85
 go_wp2_with fail
 rw [← hW0]
 have HW0 := Lib.hid hW0
 clear hW0
 go_loopw [6] (fun i wr => ∃ k : Nat, k ≤ C.length ∧ i = .int .i64 k ∧ StBox wr S ok ex at' (n + k) (keepF F (C.take k) G) ∧ W0.grownBy wr (some S)) (fun i _ => C.length - (intOf i).toNat)
 case atStart => exact ⟨0, Nat.zero_le _, rfl, by rw [List.take_zero, keepF_nil]; exact H.out, World.grownBy.refl _ _⟩
 case round =>
  obtain ⟨k, hk, rfl, hst, hg⟩ := hrel
  obtain ⟨b, off, hm, hlen, hidx, hc⟩ := (HC.out.grown' hg HN.out).facts
  by_cases hlt : k < C.length
  · have hcell := (hc k hlt).2
    have hbl := (hc k hlt).1
    have HT := Lib.hid (keepF_snoc F C G k hlt)
    obtain ⟨a, ha⟩ : ∃ a, C[k] = a := ⟨_, rfl⟩
    have hal : a.length ≤ maxLen := by rw [← ha]; exact hw _ (List.getElem_mem hlt)
    rw [show C.getD k [] = a from by rw [← ha]; simp [List.getD_eq_getElem?_getD, hlt], enc_bstr] at hcell
    rw [ha] at HT
    have hp := hidx k hlt
    have uS := S1.out.grown hg (fun e => by injection e with e; omega)
    have hT2 : Tms wr (.slice vo L2.length vc) L2 := by
     obtain ⟨ao, cap, b', off', e1, h0, h1', h2', h3⟩ := H2.out
     refine ⟨ao, cap, b', off', e1, h0, h1', h2', fun j hj => ?_⟩
     obtain ⟨q1, q2, q3⟩ := h3 j hj
     have hb' : b' ≠ S := by
      rcases h0 with h0 | h0
      · rw [h0] at hj; simp at hj
      · exact HN2.out (by intro e; rw [e] at hj; simp at hj) b' (by rw [e1, h0]; rfl)
     exact ⟨Nat.lt_of_lt_of_le q1 hg.size, hg.cell q2 (fun e => hb' (by injection e)), hg.cell q3 (fun e => hb' (by injection e))⟩
    have HAT := Lib.hid (fun W (hW : Below wr.heap.size wr W) => rat_any e2 a2 _ L2 a W (hT2.mono hW))
    have hz : atL L2 a = (G a).getD 0 := atL_asc HA.out a
    have HWZ := Lib.hid (asc_wf HA.out H2.out a)
    have HP := Lib.hid (fun W (hW : Below wr.heap.size wr W) => put_st a ((G a).getD 0) (fun b hb => hok b (Nat.le_trans (Nat.le_trans (Nat.le_trans HB0.out.size hg.size) hW.size) hb)) (hst.mono hW) (by omega) hal HWZ.out)
    rw [hz] at HAT
    have HG := Lib.hid hg
    have R0 := Lib.hid (Below.drew (Below.refl wr.heap.size wr))
    have SK := Lib.hid (show ∀ w', wr.grownBy w' (some S) → w'.cell? ⟨b, off + k, none⟩ = some (.string (bstr a)) ∧ w'.cell? ⟨w.heap.size, 0, none⟩ = some (.bool e2) ∧ w'.cell? ⟨w.heap.size, 1, none⟩ = some (.int .i64 a2) ∧ w'.cell? ⟨w.heap.size, 2, none⟩ = some (.slice vo L2.length vc) from fun w' hg' =>
     have t := uS.grown hg' (fun e => by injection e with e; omega)
     ⟨hg'.cell hcell (fun e => by
      injection e with e
      have hne := HN.out (by intro e'; rw [e'] at hlt; simp at hlt)
      have hs := hp wr
      obtain ⟨ao, cap, b', off', e1, h0, _⟩ := HC.out
      rcases h0 with h0 | h0
      · rw [h0] at hlt; simp at hlt
      · rw [e1, h0] at hne hs
        have hk2 := (run_index_any (P := Tryz.prog) (s := 1) Tryz.underlying37 (fun w => by kernel_rfl) b' off' C.length cap k hlt wr)
        rw [hk2] at hs
        injection hs with hs
        simp at hs
        exact hne (by simp [Value.ownBlock, hs.1]; exact e)), (t.at_ 0 _ rfl).1, (t.at_ 1 _ rfl).1, (t.at_ 2 _ rfl).1⟩)
    clear hidx hc hw ha hal hst hg uS hT2 hz hcell
    go_wp2_with fail
    go_region_held3 (fun w' => w'.cell? ⟨b, off + k, none⟩ = some (.string (bstr a)) ∧ w'.cell? ⟨w.heap.size, 0, none⟩ = some (.bool e2) ∧ w'.cell? ⟨w.heap.size, 1, none⟩ = some (.int .i64 a2) ∧ w'.cell? ⟨w.heap.size, 2, none⟩ = some (.slice vo L2.length vc)) (first | exact SK.out _ (G2.out) | exact SK.out _ (grown_below (World.grownBy.refl _ _) R1.out) | exact SK.out _ (grown_below (World.grownBy.refl _ _) R0.out))
     (first
       | ((with_reducible refine (HP.out _ R1.out).mono ?_); rintro e w3 ⟨rfl, hs3, hg3⟩; have HS3 := Lib.hid hs3; have G2 := Lib.hid ((grown_below (World.grownBy.refl _ (some S)) R1.out).trans hg3); clear hs3 hg3)
       | ((with_reducible refine (HAT.out _ R0.out).mono ?_); rintro e w2 ⟨rfl, hb2⟩; have R1 := Lib.hid (R0.out.trans (hb2.mono R0.out.size)); clear hb2))
    all_goals
     go_wp2_with fail
     go_roundw
     case rel => exact ⟨k + 1, by omega, by go_num, by rw [HT.out]; exact HS3.out, HG.out.trans G2.out⟩
     case measure => simp [intOf]; omega
  · have HT := Lib.hid (show C.take k = C from List.take_of_length_le (by omega))
    have hk' : k = C.length := by omega
    have HS := Lib.hid hst; have HG := Lib.hid hg
    clear hidx hc hw hst hg
    go_wp2_with fail
    go_end0
    exact ⟨rfl, by have := HS.out; rw [HT.out, hk'] at this; exact this, (grown_below (World.grownBy.refl w _) HB0.out).trans HG.out⟩
end Go.Proofs.YtpibmjkbebkilaaGreat

namespace Go.Proofs.YtpibmjkbebkilaaGreat
open Go.RowKit Go.Lib Go.Sort
set_option maxRecDepth 20000

set_option maxHeartbeats 2000000 in
theorem less_any (v u : Value) (A B : List Str) (w : World) (hv : Strs w v A) (hu : Strs w u B) :
 Calls Tryz.prog 87 #[v, u] w (RetStrs w ((sasc A).filter fun x => !B.contains x)) := by
 obtain ⟨i0, hi, hz0, hz1, hz2⟩ := info_parts infoAddr
 have HR := Lib.hid (srising_any v A w hv)
 have HW := Lib.hid (show ∀ x ∈ sasc A, x.length ≤ maxLen from fun x hx => hv.len x ((sasc_mem A x).1 hx))
 have HU := Lib.hid (fun x W (hb : Below w.heap.size w W) => shas_any u B x W (hu.mono hb))
 generalize sasc A = C at *
 obtain ⟨p, hp⟩ : ∃ p : Str → Bool, p = fun x => !B.contains x := ⟨_, rfl⟩
 have HP := Lib.hid (show ∀ x, p x = !B.contains x from fun x => by rw [hp])
 rw [← hp]
 clear hp
 clear hv hu
 go_enter Tryz.func87, Tryz.ntmps87
 go_wp2_with ((with_reducible refine HR.out.mono ?_); rintro e w1 ⟨o, rfl, hC, hb1, _⟩; obtain ⟨bb, off, hm, hlen, hidx, hcell⟩ := hC.facts)
 have HB1 := Lib.hid hb1
 clear hb1 hC HR
 go_loopw [5, 7] (fun l i wr => ∃ k : Nat, k ≤ C.length ∧ i = .int .i64 k ∧ wr.ownsRow w1.heap.size 36 1 l ((C.take k).filter p).length (((C.take k).filter p).map encStr) ∧ Below w1.heap.size w1 wr) (fun _ i _ => C.length - (intOf i).toNat)
 case atStart => exact ⟨0, Nat.zero_le _, rfl, World.ownsRow_nil _ _ _ _, Below.refl _ _⟩
 case round =>
  obtain ⟨k, hk, rfl, hown, hbel⟩ := hrel
  by_cases hlt : k < C.length
  · have hpk := hidx k hlt
    have hce := (hbel.cell (p := ⟨bb, off + k, none⟩) (hcell k hlt).1).trans (hcell k hlt).2
    obtain ⟨x, hx⟩ : ∃ x, x = C.getD k [] := ⟨_, rfl⟩
    rw [← hx, enc_bstr] at hce
    have hxk : C[k] = x := by rw [hx]; simp [List.getD_eq_getElem?_getD, hlt]
    have HT := Lib.hid (show (C.take (k + 1)).filter p = (C.take k).filter p ++ (if p x then [x] else []) by
     rw [take_snoc C k hlt, hxk, List.filter_append, List.filter_cons, List.filter_nil])
    have hfl : ((C.take k).filter p).length ≤ k := Nat.le_trans (List.length_filter_le _ _) (by simp; omega)
    have HX := Lib.hid (HU.out x wr (HB1.out.trans (hbel.mono HB1.out.size)))
    clear hidx hcell hx hxk
    cases hpx : B.contains x
    · rw [hpx] at HX
      have HE := Lib.hid (show (C.take (k + 1)).filter p = (C.take k).filter p ++ [x] by rw [HT.out, HP.out, hpx]; simp)
      clear hpx HT
      have hc3 : ((C.take k).filter p).length + 1 ≤ maxLen := by unfold maxLen; omega
      have hc4 : (((C.take k).filter p).length + 1) * 16 ≤ 140737488355328 := by omega
      have HO := Lib.hid hown
      have hsz := hbel.size
      clear hown hfl
      go_wp2_with (first | (at_builtin; refine wpList_append_own _ rfl _ _ 37 rfl w1.heap.size 36 i0 (.string ⟨#[]⟩) 1 16 Tryz.underlying37 hi hz0 hz1 hz2 rfl (by decide) _ _ _ rfl (HO.out.alloc _) ⟨wr.heap.size, 0, none⟩ 1 1 [.string (bstr x)] rfl rfl (cell_one_new _ _ _) (ones_str x) hc3 hc4 (by simp; omega) ?_; intro v' w3 hown3 hg3 _) | ((with_reducible refine HX.out.mono ?_); rintro e w2 ⟨rfl, rfl⟩))
      go_roundw
      case rel =>
       refine ⟨k + 1, by omega, by go_num, ?_, below_own (hbel.alloc hbel.size _) (HO.out.alloc _) (Nat.le_refl _) (by simp; omega) hg3⟩
       rw [HE.out, List.length_append, List.map_append]
       rw [← enc_bstr] at hown3
       exact hown3
      case measure => simp [intOf]; omega
    · rw [hpx] at HX
      have HE := Lib.hid (show (C.take (k + 1)).filter p = (C.take k).filter p by rw [HT.out, HP.out, hpx]; simp)
      clear hpx HT
      go_wp2_with ((with_reducible refine HX.out.mono ?_); rintro e w2 ⟨rfl, rfl⟩)
      go_roundw
      case rel => exact ⟨k + 1, by omega, by go_num, by rw [HE.out]; exact hown, hbel⟩
      case measure => simp [intOf]; omega
  · have HL := Lib.hid (show C.take k = C from List.take_of_length_le (by omega))
    rw [HL.out] at hown
    have hfl : (C.filter p).length ≤ C.length := List.length_filter_le _ _
    clear hidx hcell HL
    go_wp2
    go_ret
    exact ⟨_, rfl, Strs.own hown (by omega) (fun x hx => HW.out x (List.mem_filter.1 hx).1), HB1.out.trans (hbel.mono HB1.out.size), (Lies.own hown).mono HB1.out.size⟩
set_option maxHeartbeats 2000000 in
theorem rboth_any (v u : Value) (A B : List Str) (w : World) (hv : Strs w v A) (hu : Strs w u B) :
 Calls Tryz.prog 84 #[v, u] w (RetStrs w ((sasc A).filter fun x => B.contains x)) := by
 obtain ⟨i0, hi, hz0, hz1, hz2⟩ := info_parts infoAddr
 have HR := Lib.hid (srising_any v A w hv)
 have HW := Lib.hid (show ∀ x ∈ sasc A, x.length ≤ maxLen from fun x hx => hv.len x ((sasc_mem A x).1 hx))
 have HU := Lib.hid (fun x W (hb : Below w.heap.size w W) => shas_any u B x W (hu.mono hb))
 generalize sasc A = C at *
 obtain ⟨p, hp⟩ : ∃ p : Str → Bool, p = fun x => B.contains x := ⟨_, rfl⟩
 have HP := Lib.hid (show ∀ x, p x = B.contains x from fun x => by rw [hp])
 rw [← hp]
 clear hp
 clear hv hu
 go_enter Tryz.func84, Tryz.ntmps84
 go_wp2_with ((with_reducible refine HR.out.mono ?_); rintro e w1 ⟨o, rfl, hC, hb1, _⟩; obtain ⟨bb, off, hm, hlen, hidx, hcell⟩ := hC.facts)
 have HB1 := Lib.hid hb1
 clear hb1 hC HR
 go_loopw [5, 7] (fun l i wr => ∃ k : Nat, k ≤ C.length ∧ i = .int .i64 k ∧ wr.ownsRow w1.heap.size 36 1 l ((C.take k).filter p).length (((C.take k).filter p).map encStr) ∧ Below w1.heap.size w1 wr) (fun _ i _ => C.length - (intOf i).toNat)
 case atStart => exact ⟨0, Nat.zero_le _, rfl, World.ownsRow_nil _ _ _ _, Below.refl _ _⟩
 case round =>
  obtain ⟨k, hk, rfl, hown, hbel⟩ := hrel
  by_cases hlt : k < C.length
  · have hpk := hidx k hlt
    have hce := (hbel.cell (p := ⟨bb, off + k, none⟩) (hcell k hlt).1).trans (hcell k hlt).2
    obtain ⟨x, hx⟩ : ∃ x, x = C.getD k [] := ⟨_, rfl⟩
    rw [← hx, enc_bstr] at hce
    have hxk : C[k] = x := by rw [hx]; simp [List.getD_eq_getElem?_getD, hlt]
    have HT := Lib.hid (show (C.take (k + 1)).filter p = (C.take k).filter p ++ (if p x then [x] else []) by
     rw [take_snoc C k hlt, hxk, List.filter_append, List.filter_cons, List.filter_nil])
    have hfl : ((C.take k).filter p).length ≤ k := Nat.le_trans (List.length_filter_le _ _) (by simp; omega)
    have HX := Lib.hid (HU.out x wr (HB1.out.trans (hbel.mono HB1.out.size)))
    clear hidx hcell hx hxk
    cases hpx : B.contains x
    · rw [hpx] at HX
      have HE := Lib.hid (show (C.take (k + 1)).filter p = (C.take k).filter p by rw [HT.out, HP.out, hpx]; simp)
      clear hpx HT
      go_wp2_with ((with_reducible refine HX.out.mono ?_); rintro e w2 ⟨rfl, rfl⟩)
      go_roundw
      case rel => exact ⟨k + 1, by omega, by go_num, by rw [HE.out]; exact hown, hbel⟩
      case measure => simp [intOf]; omega
    · rw [hpx] at HX
      have HE := Lib.hid (show (C.take (k + 1)).filter p = (C.take k).filter p ++ [x] by rw [HT.out, HP.out, hpx]; simp)
      clear hpx HT
      have hc3 : ((C.take k).filter p).length + 1 ≤ maxLen := by unfold maxLen; omega
      have hc4 : (((C.take k).filter p).length + 1) * 16 ≤ 140737488355328 := by omega
      have HO := Lib.hid hown
      have hsz := hbel.size
      clear hown hfl
      go_wp2_with (first | (at_builtin; refine wpList_append_own _ rfl _ _ 37 rfl w1.heap.size 36 i0 (.string ⟨#[]⟩) 1 16 Tryz.underlying37 hi hz0 hz1 hz2 rfl (by decide) _ _ _ rfl (HO.out.alloc _) ⟨wr.heap.size, 0, none⟩ 1 1 [.string (bstr x)] rfl rfl (cell_one_new _ _ _) (ones_str x) hc3 hc4 (by simp; omega) ?_; intro v' w3 hown3 hg3 _) | ((with_reducible refine HX.out.mono ?_); rintro e w2 ⟨rfl, rfl⟩))
      go_roundw
      case rel =>
       refine ⟨k + 1, by omega, by go_num, ?_, below_own (hbel.alloc hbel.size _) (HO.out.alloc _) (Nat.le_refl _) (by simp; omega) hg3⟩
       rw [HE.out, List.length_append, List.map_append]
       rw [← enc_bstr] at hown3
       exact hown3
      case measure => simp [intOf]; omega
  · have HL := Lib.hid (show C.take k = C from List.take_of_length_le (by omega))
    rw [HL.out] at hown
    have hfl : (C.filter p).length ≤ C.length := List.length_filter_le _ _
    clear hidx hcell HL
    go_wp2
    go_ret
    exact ⟨_, rfl, Strs.own hown (by omega) (fun x hx => HW.out x (List.mem_filter.1 hx).1), HB1.out.trans (hbel.mono HB1.out.size), (Lies.own hown).mono HB1.out.size⟩
set_option maxHeartbeats 2000000 in
theorem rjoin_any (v u : Value) (A B : List Str) (w : World) (hv : Strs w v A) (hu : Strs w u B) (hl : A.length + B.length ≤ 8796093022200) :
 Calls Tryz.prog 88 #[v, u] w (RetStrs w (sasc (A ++ B))) := by
 obtain ⟨ao, cap, rfl⟩ := hv.shape
 obtain ⟨bo, bcap, rfl⟩ := hu.shape
 obtain ⟨i0, hi, hz0, hz1, hz2⟩ := info_parts infoAddr
 have HV := Lib.hid hv.sliceOf
 have HU := Lib.hid (fun W' (hb : Below w.heap.size w W') => (hu.mono hb).sliceOf)
 have HW := Lib.hid (show ∀ x ∈ A ++ B, x.length ≤ maxLen from fun x hx => (List.mem_append.1 hx).elim (hv.len x) (hu.len x))
 have HN := Lib.hid (World.ownsRow_nil w w.heap.size 36 1)
 clear hv hu
 go_enter Tryz.func88, Tryz.ntmps88
 go_wp2_with (first | (at_builtin; refine wpList_append_vals _ rfl _ _ 37 rfl w.heap.size 36 i0 (.string ⟨#[]⟩) 1 16 Tryz.underlying37 hi hz0 hz1 hz2 rfl (by decide) (.slice none 0 0) 0 [] rfl HN.out _ A.length (A.map encStr) rfl HV.out (by unfold maxLen; omega) (by omega) (by simp) ?_; intro v1 w1 hown1 hg1 _; have hb1 := below_own (Below.refl w.heap.size _) HN.out (Nat.le_refl _) (by simp) hg1; have hs1 := hb1.size; have HB1 := Lib.hid hb1; have HO1 := Lib.hid hown1; clear hown1 hg1 hb1) | (at_builtin; refine wpList_append_vals _ rfl _ _ 37 rfl w.heap.size 36 i0 (.string ⟨#[]⟩) 1 16 Tryz.underlying37 hi hz0 hz1 hz2 rfl (by decide) v1 _ _ rfl HO1.out _ B.length (B.map encStr) rfl (HU.out _ HB1.out) (by unfold maxLen; omega) (by omega) hs1 ?_; intro v2 w2 hown2 hg2 _; have HS := Lib.hid (srising_any v2 (A ++ B) w2 (Strs.own (base := w.heap.size) (e := 36) (by simpa using hown2) (by simp; omega) HW.out)); have HB2 := Lib.hid (below_own HB1.out HO1.out (Nat.le_refl _) hs1 hg2); clear hown2 hg2) | ((with_reducible refine HS.out.mono ?_); rintro e w3 ⟨v3, rfl, hs3, hb3, hl3⟩; have HR := Lib.hid hs3; have HB3 := Lib.hid hb3; have HL := Lib.hid hl3; clear hs3 hb3 hl3))
 go_ret
 exact ⟨_, rfl, HR.out, HB2.out.trans (HB3.out.mono HB2.out.size), HL.out.mono HB2.out.size⟩
end Go.Proofs.YtpibmjkbebkilaaGreat
