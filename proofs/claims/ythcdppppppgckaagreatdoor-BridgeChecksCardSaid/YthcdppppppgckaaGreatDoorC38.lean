/- Texts joined into one file: BVn, BCl, BZe, BCk. -/
import Derived.Test.YthcdppppppgckaaGreatDoorC30
import Derived.Test.YthcdppppppgckaaGreatDoorC36
import Derived.Test.YthcdppppppgckaaGreatDoorC03
import Derived.Test.YthcdppppppgckaaGreatDoorC37
import Derived.Test.YthcdppppppgckaaGreatDoorC09

namespace Go.Proofs.YthcdppppppgckaaGreatDoor
open Go.RowKit Go.Lib Go.Maps Go.Sort
set_option maxRecDepth 20000
set_option maxRecDepth 20000

theorem sorted_compact2 {w : World} {base : Nat} {v : Value} {L : List Int} (hrow : w.ownsRow base 3 1 v L.length (L.map (Value.int .i64))) (hl : L.length ≤ 17592186044416) (hw : ∀ x ∈ L, (Lit.int .i64 x).wf = true) :
 Calls Tryz.prog 81 #[v] w fun e w' => e = .returned (.tuple #[]) ∧ Calls Tryz.prog 82 #[v] w' fun e w'' =>
  ∃ o R, e = .returned o ∧ Ints w'' o R ∧ R.Pairwise (· < ·) ∧ (∀ x, x ∈ R ↔ x ∈ L) ∧ w.grownBy w'' v.ownBlock ∧ (∀ j, o.ownBlock = some j → v.ownBlock = some j) := by
 rcases hrow.2 with ⟨rfl, h0⟩ | ⟨g, cap, cur, rfl, hbase, hb, h1, h2, h3, h4⟩
 · rw [List.length_eq_zero_iff] at h0
   subst h0
   refine (Tryz.slices_Sort_int_none none 0 w).mono ?_
   rintro e w' ⟨rfl, rfl⟩
   refine ⟨rfl, (Tryz.slices_Compact_int_empty none 0 w').mono ?_⟩
   rintro e w'' ⟨rfl, rfl⟩
   exact ⟨_, [], rfl, Ints.nil _, by simp, by simp, ⟨rfl, rfl, rfl, Nat.le_refl _, fun _ _ _ => rfl⟩, fun j hj => hj⟩
 · refine (Tryz.slices_Sort_int g 0 cap L w (holds_of_blockI hb (by simpa using h4)) (Array.getElem?_eq_some_iff.1 hb).1 (by omega)).mono ?_
   rintro e w' ⟨rfl, n, os, rfl⟩
   refine ⟨rfl, ?_⟩
   obtain ⟨S, hS⟩ : ∃ S, S = L.mergeSort fun x y => decide (x ≤ y) := ⟨_, rfl⟩
   have hSl : S.length = L.length := by rw [hS]; simp
   have hSm : ∀ x, x ∈ S ↔ x ∈ L := fun x => by rw [hS]; exact List.mem_mergeSort
   have hSr : S.Pairwise (· ≤ ·) := by rw [hS]; exact sorted_le L
   rw [← hS]
   have hg1 := grownBy_sortedI (n := n) (os := os) S.toArray (w := w) (g := g)
   have hown := ownsRow_sortedI (n := n) (os := os) (ts := S) hSl hbase hb h1 h2 h3
   obtain ⟨w1, hw1⟩ : ∃ w1, w1 = grow (putRow (Value.int .i64) (Sort.ahead w n) g 0 S.toArray) os := ⟨_, rfl⟩
   rw [← hw1] at hg1 hown ⊢
   rcases hown.2 with ⟨hv, _⟩ | ⟨g', cap', cur', hv, hbase', hb', h1', h2', h3', h4'⟩
   · cases hv
   · cases hv
     rw [← hSl] at h1' h4' ⊢
     refine (Tryz.slices_Compact_int g 0 cap S w1 (holds_of_blockI hb' (by simpa using h4')) (by omega) h1').mono ?_
     rintro e w'' ⟨rfl, q, rfl⟩
     have hcl := compact_length_le S
     have hT : (compact S ++ List.replicate (S.length - (compact S).length) 0).length = S.length := by simp; omega
     obtain ⟨T, hTe⟩ : ∃ T, T = compact S ++ List.replicate (S.length - (compact S).length) 0 := ⟨_, rfl⟩
     rw [← hTe] at hT ⊢
     have hg2 := grownBy_sortedI (n := q) (os := #[]) T.toArray (w := w1) (g := g)
     have hown2 := ownsRow_sortedI (n := q) (os := #[]) (ts := T) hT hbase' hb' h1' h2' h3'
     rw [grow_empty] at hg2 hown2
     rw [← hT] at hown2
     refine ⟨_, compact S, rfl, ?_, compact_rises S hSr, fun x => (compact_mem S x).trans (hSm x), ?_, fun j hj => hj⟩
     · have hi := Ints.own hown2 (by omega) (fun x hx => by
        rw [hTe, List.mem_append] at hx
        rcases hx with hx | hx
        · exact hw x ((hSm x).1 ((compact_mem S x).1 hx))
        · rw [(List.mem_replicate.1 hx).2]; decide)
       have := hi.cutTo (compact S).length (by omega)
       have ht : T.take (compact S).length = compact S := by rw [hTe, List.take_left]
       rwa [ht] at this
     · exact hg1.andThen hg2 (fun j hj => .inr hj)
theorem ints_sliceOf {w : World} {v : Value} {L : List Int} (h : Ints w v L) : SliceOf w 1 v L.length (L.map (Value.int .i64)) := by
 obtain ⟨ao, cap, b, off, rfl, h0, h1, h2, h3⟩ := h
 refine ⟨ao, cap, rfl, by simp, ints_oneCell .i64 L, ?_⟩
 by_cases hz : L.length = 0
 · exact .inl hz
 · refine .inr ⟨⟨b, off, none⟩, ?_, fun j x hj => ?_⟩
   · rcases h0 with rfl | h0
     · simp at hz
     · exact h0
   · rw [List.getElem?_map] at hj
     cases hl : L[j]? with
     | none => rw [hl] at hj; cases hj
     | some y =>
       rw [hl] at hj
       obtain ⟨hlt, rfl⟩ := List.getElem?_eq_some_iff.1 hl
       injection hj with hj
       subst hj
       rw [add_lit, (h3 j hlt).2]
       simp [List.getD_eq_getElem?_getD, hlt]
def allV (l : List Pt) : List Int := l.flatMap fun p => p.tagged ++ p.plain
def RetVl (w : World) (all : List Int) (e : Ending) (w' : World) : Prop :=
 ∃ v R, e = .returned v ∧ Ints w' v R ∧ R.Pairwise (· < ·) ∧ (∀ x, x ∈ R ↔ x ∈ all) ∧ (∀ j, v.ownBlock = some j → w.heap.size ≤ j ∧ j < w'.heap.size) ∧ Below w.heap.size w w'
theorem allV_take (l : List Pt) {k : Nat} (h : k < l.length) : allV (l.take (k + 1)) = allV (l.take k) ++ l[k].tagged ++ l[k].plain := by
 unfold allV
 rw [List.take_succ_eq_append_getElem h, List.flatMap_append]
 simp
theorem allV_len (l : List Pt) (k n : Nat) (h : ∀ p ∈ l, p.tagged.length ≤ n ∧ p.plain.length ≤ n) : (allV (l.take k)).length ≤ k * (2 * n) := by
 induction k with
 | zero => simp [allV]
 | succ k ih =>
   by_cases hk : k < l.length
   · rw [allV_take l hk]
     have := h _ (List.getElem_mem hk)
     simp only [List.length_append]
     rw [Nat.add_mul]
     omega
   · rw [List.take_of_length_le (by omega)] at ih ⊢
     exact Nat.le_trans ih (Nat.mul_le_mul_right _ (by omega))
set_option maxHeartbeats 8000000 in
theorem vlans_any (R : Nat → Prop) (v : Value) (L : List Pt) (w : World) (h : Pts R w v L) (hn : L.length ≤ 1000) (hl : ∀ p ∈ L, p.tagged.length ≤ 1000000 ∧ p.plain.length ≤ 1000000) :
 Calls Tryz.prog 29 #[v] w (RetVl w (allV L)) := by
 obtain ⟨i0, hi, hz0, hz1, hz2⟩ := info_parts infoIntV
 obtain ⟨b, off, hm, hlen, hidx, hc⟩ := h.facts
 have HLN := Lib.hid (fun k => allV_len L k 1000000 hl)
 have HLL := Lib.hid (fun k (hk : k < L.length) => hl _ (List.getElem_mem hk))
 have HC := Lib.hid hc
 have HN := Lib.hid hn
 clear h hl hc
 go_enter Tryz.func29, Tryz.ntmps29
 go_wp2_with fail
 go_loopw [3, 5, 8] (fun r _ i wr => ∃ k : Nat, k ≤ L.length ∧ i = .int .i64 (k : Nat) ∧ wr.ownsRow w.heap.size 3 1 r (allV (L.take k)).length ((allV (L.take k)).map (Value.int .i64)) ∧ (∀ x ∈ allV (L.take k), (Lit.int .i64 x).wf = true) ∧ Below w.heap.size w wr) (fun _ _ i _ => L.length - (intOf i).toNat)
 case atStart => exact ⟨0, Nat.zero_le _, rfl, by rw [List.take_zero]; exact World.ownsRow_nil _ _ _ _, by rw [List.take_zero]; intro x hx; simp [allV] at hx, Below.refl _ _⟩
 case round =>
  obtain ⟨k, hk, rfl, hrow, hwf, hb⟩ := hrel
  by_cases hlt : k < L.length
  · have HS := Lib.hid (allV_take L hlt)
    have HL := Lib.hid (HLN.out k)
    have HL2 := Lib.hid (HLL.out k hlt)
    obtain ⟨hlx, vt, vp, c0, c1, c2, i1, i2⟩ := HC.out k hlt
    have s0 := (hb.cell (p := ⟨b, off + k * 3, none⟩) hlx).trans c0
    have s1 := (hb.cell (p := ⟨b, off + k * 3 + 1, none⟩) hlx).trans c1
    have s2 := (hb.cell (p := ⟨b, off + k * 3 + 2, none⟩) hlx).trans c2
    have hp := hidx k hlt
    obtain ⟨⟨d, tg, pl⟩, hP0⟩ : ∃ P0, L[k] = P0 := ⟨_, rfl⟩
    rw [hP0] at HS HL2 s0 i1 i2
    dsimp only at HS HL2 s0 i1 i2
    obtain ⟨AV, hAV⟩ : ∃ l, allV (L.take k) = l := ⟨_, rfl⟩
    rw [hAV] at HS HL hrow hwf
    have HWF := Lib.hid hwf
    have w1 := i1.wf
    have w2 := i2.wf
    have HW12 := Lib.hid (And.intro w1 w2)
    obtain ⟨ao, an, ac, rfl⟩ := i1.shape
    obtain ⟨bo, bn, bc, rfl⟩ := i2.shape
    obtain ⟨W1, hW1⟩ : ∃ W, wr.alloc (.cells #[.int .i64 d, .slice ao an ac, .slice bo bn bc] 56) = W := ⟨_, rfl⟩
    obtain ⟨pb, hpb⟩ : ∃ n, wr.heap.size = n := ⟨_, rfl⟩
    have hb1 : Below wr.heap.size wr W1 := by rw [← hW1]; exact (Below.refl _ _).alloc (Nat.le_refl _) _
    have hx1 : CBox W1 pb 56 #[.int .i64 d, .slice ao an ac, .slice bo bn bc] := by rw [← hW1]; exact CBox.new _ hpb.symm
    obtain ⟨Z, hZ⟩ : ∃ W, W1.drew = W := ⟨_, rfl⟩
    have hbz : Below W1.heap.size W1 Z := by rw [← hZ]; exact Below.drew (Below.refl _ _)
    have hbb := hb1.trans (hbz.mono hb1.size)
    have XZ := Lib.hid (hx1.below hbz hx1.lt); have BZ := Lib.hid (hb.trans (hbb.mono hb.size)); have RZ := Lib.hid (gown_bel hrow hbb)
    have IT := Lib.hid (ints_sliceOf ((i1.mono hb).mono hbb)); have IP := Lib.hid (fun W (hW : Below w.heap.size w W) => ints_sliceOf (i2.mono hW))
    have HW1 := Lib.hid hW1; have HPB := Lib.hid hpb; have HZ := Lib.hid hZ
    have HF := Lib.hid (fun (wq : World) (h : CBox wq pb 56 #[.int .i64 d, .slice ao an ac, .slice bo bn bc]) => And.intro (h.at_ 1 _ rfl).1 (h.at_ 2 _ rfl).1)
    have hc3 : AV.length + tg.length ≤ maxLen := by have h1 := HL.out; have h2 := HL2.out; have h3 := HN.out; have : k * (2 * 1000000) ≤ 1000 * (2 * 1000000) := Nat.mul_le_mul_right _ (by omega); unfold maxLen; omega
    have hc4 : (AV.length + tg.length) * 8 ≤ 140737488355328 := by have h1 := HL.out; have h2 := HL2.out; have h3 := HN.out; have : k * (2 * 1000000) ≤ 1000 * (2 * 1000000) := Nat.mul_le_mul_right _ (by omega); omega
    have hc5 : AV.length + tg.length + pl.length ≤ maxLen := by have h1 := HL.out; have h2 := HL2.out; have h3 := HN.out; have : k * (2 * 1000000) ≤ 1000 * (2 * 1000000) := Nat.mul_le_mul_right _ (by omega); unfold maxLen; omega
    have hc6 : (AV.length + tg.length + pl.length) * 8 ≤ 140737488355328 := by have h1 := HL.out; have h2 := HL2.out; have h3 := HN.out; have : k * (2 * 1000000) ≤ 1000 * (2 * 1000000) := Nat.mul_le_mul_right _ (by omega); omega
    have HC34 := Lib.hid (And.intro (And.intro hc3 hc4) (And.intro hc5 hc6))
    clear hidx hrow hwf hb hb1 hx1 hbz hbb hlx c0 c1 c2 i1 i2 hP0 hAV hW1 hpb hZ hlen hc3 hc4 hc5 hc6 w1 w2
    go_upto_region 5 with fail
    rw [HW1.out, HPB.out]
    clear s0 s1 s2 hp
    refine wp_region_held_drew (S := fun wq => CBox wq pb 56 #[.int .i64 d, .slice ao an ac, .slice bo bn bc]) (by kernel_rfl) (by rw [HZ.out]; exact XZ.out) (fun hHeld => ?_)
    rw [HZ.out] at hHeld ⊢
    iterate 3 (first | (refine takeO 8 (v := ?_) rfl (by kernel_rfl) (fun _ _ _ => id) (Or.inl ⟨by rfl, ?_⟩) (by assumption) ?_; rotate_left; (focus (intro wq hSq; have f := HF.out wq hSq; go_simp <;> with_reducible rfl)); simp only [Act.put, List.setIfInBounds_toArray, List.set_cons_zero, List.set_cons_succ]) | (refine takeO 8 (v := undef) rfl (by kernel_rfl) (fun _ _ _ h => h) (Or.inr ⟨by rfl, rfl⟩) (by assumption) ?_; simp only [Act.put, List.setIfInBounds_toArray, List.set_cons_zero, List.set_cons_succ]))
    refine tkL 4 (v := ?_) rfl (by kernel_rfl) (fun _ _ _ => id) (Or.inl ⟨by rfl, ?_⟩) (by assumption) ?_; rotate_left; (focus (intro wq hSq; have f := HF.out wq hSq; go_simp <;> with_reducible rfl)); simp only [Act.put, pA, pB, pC]
    refine tkL 5 (v := ?_) rfl (by kernel_rfl) (fun _ _ _ => id) (Or.inl ⟨by rfl, ?_⟩) (by assumption) ?_; rotate_left; (focus (intro wq hSq; have f := HF.out wq hSq; go_simp <;> with_reducible rfl)); simp only [Act.put, pA, pB, pC]
    refine wpAnyH_ready (rs := [3]) (by kernel_rfl) (by simp) (nextL 3 rfl (fun Kr hKr => ?_) AllReadyH.nil)
    refine step_append_vals (by rfl) (.tmp 12) (.tmp 14) 23 (by rfl) w.heap.size 3 i0 _ 1 8 Tryz.underlying23 hi hz0 hz1 hz2 rfl (by decide) u3 AV.length (AV.map (Value.int .i64)) (by rfl) RZ.out (.slice ao an ac) tg.length (tg.map (Value.int .i64)) (by rfl) IT.out HC34.out.1.1 HC34.out.1.2 BZ.out.size ?_
    intro v' wA ho hg hv
    have hHeld := XZ.out.grown hg (fun e => own_box RZ.out XZ.out (by decide) e.symm)
    refine hKr.out _ _ hHeld (fun _ => ?_)
    have BA := Lib.hid (below_own BZ.out RZ.out (Nat.le_refl _) BZ.out.size hg); have RA := Lib.hid ho; have XA := Lib.hid hHeld
    clear hKr ho hg hv
    refine wpAnyH_ready (rs := [6]) (by kernel_rfl) (by simp) (nextL 6 rfl (fun Kr hKr => ?_) AllReadyH.nil)
    refine step_append_vals (by rfl) (.tmp 15) (.tmp 17) 23 (by rfl) w.heap.size 3 i0 _ 1 8 Tryz.underlying23 hi hz0 hz1 hz2 rfl (by decide) v' (AV.length + tg.length) (AV.map (Value.int .i64) ++ tg.map (Value.int .i64)) (by rfl) RA.out (.slice bo bn bc) pl.length (pl.map (Value.int .i64)) (by rfl) (IP.out wA BA.out) HC34.out.2.1 HC34.out.2.2 BA.out.size ?_
    intro v2 wB ho hg hv
    have hHeld := XA.out.grown hg (fun e => own_box RA.out XA.out (by decide) e.symm)
    refine hKr.out _ _ hHeld (fun _ => ?_)
    have BB := Lib.hid (below_own BA.out RA.out (Nat.le_refl _) BA.out.size hg); have RB := Lib.hid ho
    clear hKr ho hg hv
    iterate 1 (first | (refine takeO 8 (v := ?_) rfl (by kernel_rfl) (fun _ _ _ => id) (Or.inl ⟨by rfl, ?_⟩) (by assumption) ?_; rotate_left; (focus (intro wq hSq; go_simp <;> with_reducible rfl)); simp only [Act.put, List.setIfInBounds_toArray, List.set_cons_zero, List.set_cons_succ]) | (refine takeO 8 (v := undef) rfl (by kernel_rfl) (fun _ _ _ h => h) (Or.inr ⟨by rfl, rfl⟩) (by assumption) ?_; simp only [Act.put, List.setIfInBounds_toArray, List.set_cons_zero, List.set_cons_succ]))
    refine wpAnyH_done (by kernel_rfl) ?_ _
    clear hHeld HF HC34 XZ XA RZ BZ RA BA
    go_wp2_with fail
    go_roundw
    case rel =>
     refine ⟨k + 1, by omega, by go_num, by rw [HS.out, List.length_append, List.length_append, List.map_append, List.map_append]; exact RB.out, fun x hx => ?_, BB.out⟩
     rw [HS.out, List.mem_append, List.mem_append] at hx
     rcases hx with (hx | hx) | hx
     · exact HWF.out x hx
     · exact HW12.out.1 x hx
     · exact HW12.out.2 x hx
    case measure => simp [intOf]; omega
  · obtain rfl : k = L.length := by omega
    have HL := Lib.hid (HLN.out L.length)
    rw [List.take_length] at hrow hwf HL
    have hln : (allV L).length ≤ 17592186044416 := by have h1 := HL.out; have h3 := HN.out; have : L.length * (2 * 1000000) ≤ 1000 * (2 * 1000000) := Nat.mul_le_mul_right _ (by omega); omega
    have HSC := Lib.hid (sorted_compact2 hrow hln hwf)
    have HB := Lib.hid hb; have HRW := Lib.hid hrow
    clear hrow hwf hb hidx hlen hln
    go_wp2_with (first | ((with_reducible refine HSC.out.mono ?_); rintro e w2 ⟨rfl, hcp⟩; have HCP := Lib.hid hcp; clear hcp) | ((with_reducible refine HCP.out.mono ?_); rintro e w3 ⟨o, R, rfl, h1, h2, h3, h4, h5⟩; have H3 := Lib.hid (And.intro h1 (And.intro h2 (And.intro h3 (And.intro h4 h5)))); clear h1 h2 h3 h4 h5))
    go_ret
    exact ⟨o, R, rfl, H3.out.1, H3.out.2.1, H3.out.2.2.1, fun j hj => ⟨(HRW.out.lt j (H3.out.2.2.2.2 j hj)).1, Nat.lt_of_lt_of_le (HRW.out.lt j (H3.out.2.2.2.2 j hj)).2 H3.out.2.2.2.1.size⟩, below_own HB.out HRW.out (Nat.le_refl _) HB.out.size H3.out.2.2.2.1⟩

def RetIsB (w : World) (L : List Int) (e : Ending) (w' : World) : Prop := ∃ v, e = .returned v ∧ Ints w' v L ∧ (∀ j, v.ownBlock = some j → w.heap.size ≤ j ∧ j < w'.heap.size) ∧ Below w.heap.size w w'
theorem clone_any (v : Value) (L : List Int) (w : World) (h : Ints w v L) : Calls Tryz.prog 33 #[v] w (RetIsB w L) := by
 have hwf := h.wf
 obtain ⟨ao, cap, b, off, rfl, h0, h1, h2, h3⟩ := h
 cases ao with
 | none =>
   obtain rfl : L = [] := by rcases h0 with h0 | h0; exact h0; cases h0
   refine (Tryz.slices_Clone_int_nil 0 cap w).mono ?_
   rintro e w' ⟨rfl, rfl⟩
   exact ⟨_, rfl, Ints.nil _, fun j hj => by simp [Value.ownBlock] at hj, Below.refl _ _⟩
 | some a =>
   by_cases hL : L = []
   · subst hL
     refine (Tryz.slices_Clone_int_zero a cap w).mono ?_
     rintro e w' ⟨v', rfl, ho, _, hb⟩
     exact ⟨_, rfl, Ints.own (L := []) ho (by simp) (by simp), fun j hj => ho.lt j hj, hb⟩
   · have ha : a = ⟨b, off, none⟩ := by rcases h0 with h0 | h0; exact absurd h0 hL; injection h0
     subst ha
     refine (Tryz.slices_Clone_int b off L.length cap L w (Nat.le_refl _) (by omega) fun j hj => (h3 j hj).2).mono ?_
     rintro e w' ⟨v', rfl, ho, _, hb⟩
     rw [List.take_length] at ho
     exact ⟨_, rfl, Ints.own ho h1 hwf, fun j hj => ho.lt j hj, hb⟩

def tcell (t : Int × Value × Value) : List Value := [.int .i64 t.1, t.2.1, t.2.2]
theorem tcell_len (t : Int × Value × Value) : (tcell t).length = 3 := rfl
structure PtIs (w : World) (R : Nat → Prop) (p : Pt) (t : Int × Value × Value) : Prop where
 d : t.1 = p.default_
 wf : (Lit.int .i64 p.default_).wf = true
 it : Ints w t.2.1 p.tagged
 ip : Ints w t.2.2 p.plain
 rt : ∀ j, t.2.1.ownBlock = some j → R j
 rp : ∀ j, t.2.2.ownBlock = some j → R j
def PtsIs (w : World) (R : Nat → Prop) (L : List Pt) (T : List (Int × Value × Value)) : Prop := T.length = L.length ∧ ∀ k, (hk : k < L.length) → PtIs w R L[k] (T.getD k default)
theorem PtsIs.mono {w w' : World} {R : Nat → Prop} {L : List Pt} {T : List (Int × Value × Value)} (h : PtsIs w R L T) (hb : Below w.heap.size w w') : PtsIs w' R L T :=
 ⟨h.1, fun k hk => have q := h.2 k hk; ⟨q.d, q.wf, q.it.mono hb, q.ip.mono hb, q.rt, q.rp⟩⟩
theorem Pts.rows {R : Nat → Prop} {w : World} {v : Value} {L : List Pt} (h : Pts R w v L) : ∃ T, PtsIs w R L T ∧ SliceOf w 3 v L.length (T.flatMap tcell) := by
 obtain ⟨ao, cap, b, off, rfl, h0, h1, h2⟩ := h
 obtain ⟨T, hT⟩ : ∃ T : List (Int × Value × Value), T = (List.range L.length).map fun k => ((L.getD k default).default_, (w.cell? ⟨b, off + k * 3 + 1, none⟩).getD default, (w.cell? ⟨b, off + k * 3 + 2, none⟩).getD default) := ⟨_, rfl⟩
 have hl : T.length = L.length := by rw [hT]; simp
 have hg : ∀ k, (hk : k < L.length) → T.getD k default = (L[k].default_, (w.cell? ⟨b, off + k * 3 + 1, none⟩).getD default, (w.cell? ⟨b, off + k * 3 + 2, none⟩).getD default) := fun k hk => by
  rw [hT]
  simp [List.getD_eq_getElem?_getD, hk]
 have hp : PtsIs w R L T := ⟨hl, fun k hk => by
  obtain ⟨hlt, hR, hw, vt, vp, c0, c1, c2, i1, i2, r1, r2⟩ := h2 k hk
  rw [hg k hk, c1, c2]
  exact ⟨rfl, hw, i1, i2, r1, r2⟩⟩
 refine ⟨T, hp, ao, cap, rfl, ?_, fun x hx => ?_, ?_⟩
 · rw [← hl]; exact gflat_len tcell_len T
 · obtain ⟨t, ht, hx⟩ := List.mem_flatMap.1 hx
   obtain ⟨k, hk, rfl⟩ := List.mem_iff_getElem.1 ht
   have hk' : k < L.length := by omega
   have q := hp.2 k hk'
   have e : T.getD k default = T[k] := by simp [List.getD_eq_getElem?_getD, hk]
   rw [e] at q
   obtain ⟨a1, n1, c1, e1⟩ := q.it.shape
   obtain ⟨a2, n2, c2, e2⟩ := q.ip.shape
   simp only [tcell, List.mem_cons, List.not_mem_nil, or_false] at hx
   rcases hx with rfl | rfl | rfl
   · rfl
   · rw [e1]; rfl
   · rw [e2]; rfl
 · by_cases hz : L.length = 0
   · exact .inl hz
   · refine .inr ⟨⟨b, off, none⟩, ?_, fun j x hj => ?_⟩
     · rcases h0 with rfl | h0
       · simp at hz
       · exact h0
     · have hj3 : j < T.length * 3 := by rw [← gflat_len tcell_len T]; exact (List.getElem?_eq_some_iff.1 hj).1
       have hk : j / 3 < T.length := by omega
       have hk' : j / 3 < L.length := by omega
       have hd : j / 3 * 3 + j % 3 = j := by omega
       have hm : j % 3 < 3 := Nat.mod_lt _ (by decide)
       have := gflat_get tcell_len T (j / 3) (j % 3) hk hm
       rw [hd, hj, hg _ hk'] at this
       obtain ⟨_, _, _, vt, vp, c0, c1, c2, _⟩ := h2 _ hk'
       rw [c1, c2] at this
       rw [add_lit]
       have h3 : j % 3 = 0 ∨ j % 3 = 1 ∨ j % 3 = 2 := by omega
       rcases h3 with h3 | h3 | h3
       · rw [h3] at this hd
         rw [show off + j = off + j / 3 * 3 from by omega, c0]
         exact this.symm ▸ rfl
       · rw [h3] at this hd
         rw [show off + j = off + j / 3 * 3 + 1 from by omega, c1]
         exact this.symm ▸ rfl
       · rw [h3] at this hd
         rw [show off + j = off + j / 3 * 3 + 2 from by omega, c2]
         exact this.symm ▸ rfl
theorem sliceOf_bel {w w' : World} {size m : Nat} {u : Value} {news : List Value} (h : SliceOf w size u m news) (hb : Below w.heap.size w w') : SliceOf w' size u m news := by
 obtain ⟨A, c, rfl, h0, h1, h2⟩ := h
 refine ⟨A, c, rfl, h0, h1, ?_⟩
 rcases h2 with h2 | ⟨ad, rfl, h2⟩
 · exact .inl h2
 · exact .inr ⟨ad, rfl, fun j x hj => by have := h2 j x hj; exact (hb.cell (fcell_lt this)).trans this⟩
theorem infoPt : (Tryz.prog.info? 56).map (fun i => (i.zero, i.size, i.bytes)) = some (some (.agg #[.int .i64 0, .slice none 0 0, .slice none 0 0]), 3, 56) := by kernel_rfl
def RetCp (w : World) (T : List (Int × Value × Value)) (e : Ending) (w' : World) : Prop := ∃ v, e = .returned v ∧ w'.ownsRow w.heap.size 56 3 v T.length (T.flatMap tcell) ∧ Below w.heap.size w w'
theorem clonep_any (v : Value) (T : List (Int × Value × Value)) (w : World) (h : SliceOf w 3 v T.length (T.flatMap tcell)) (hn : T.length ≤ 1000000) :
 Calls Tryz.prog 32 #[v] w (RetCp w T) := by
 obtain ⟨i0, hi, hz0, hz1, hz2⟩ := info_parts23 infoPt
 have q22 : ∀ (w : World) (a : Option Addr) (n c n' c' : Nat), (binOp .eql 24 (.slice a n c) (.slice none n' c')).run Tryz.prog w = .ok (.bool a.isNone) w := fun w a n c n' c' => Lib.run_eql_slice_nil w _ _ a n c n' c' Tryz.underlying24
 have hS := h
 obtain ⟨ao, cap, rfl, h0, h1, h2⟩ := h
 cases ao with
 | none =>
   have hz : T.length = 0 := by rcases h2 with h2 | ⟨_, h2, _⟩; exact h2; cases h2
   obtain rfl : T = [] := List.length_eq_zero_iff.1 hz
   have q := q22 w none 0 cap 0 0
   clear h0 h1 h2 hS
   go_enter Tryz.func32, Tryz.ntmps32
   go_wp2
   go_ret
   exact ⟨_, rfl, World.ownsRow_nil _ _ _ _, Below.refl _ _⟩
 | some a =>
   have q := q22 w (some a) T.length cap 0 0
   have hb1 : Below w.heap.size w (w.alloc (.cells #[] 56)) := (Below.refl _ _).alloc (Nat.le_refl _) _
   have ho : (w.alloc (.cells #[] 56)).ownsRow w.heap.size 56 3 (.slice (some ⟨w.heap.size, 0, none⟩) 0 0) 0 [] := ⟨rfl, .inr ⟨w.heap.size, 0, #[], rfl, Nat.le_refl _, heap_alloc_new w _, Nat.le_refl _, Nat.zero_le _, rfl, rfl⟩⟩
   have hsl : SliceOf (w.alloc (.cells #[] 56)) 3 (.slice (some a) T.length cap) T.length (T.flatMap tcell) := sliceOf_bel hS hb1
   have HO := Lib.hid ho; have HS := Lib.hid hsl; have HB := Lib.hid hb1
   have hc3 : 0 + T.length ≤ maxLen := by unfold maxLen; omega
   have hc4 : (0 + T.length) * 56 ≤ 140737488355328 := by omega
   have HC3 := Lib.hid hc3; have HC4 := Lib.hid hc4
   clear h0 h1 h2 hS hb1 ho hsl hc3 hc4
   go_enter Tryz.func32, Tryz.ntmps32
   go_wp2_with (at_builtin; refine wpList_append_vals _ rfl _ _ 24 rfl w.heap.size 56 i0 _ 3 56 Tryz.underlying24 hi hz0 hz1 hz2 rfl (by decide) _ 0 [] rfl HO.out _ T.length (T.flatMap tcell) rfl HS.out HC3.out HC4.out (by simp) ?_; intro v' w3 hown3 hg3 _; have HO3 := Lib.hid hown3; have HB3 := Lib.hid (below_own HB.out HO.out (Nat.le_refl _) (by simp) hg3); clear hown3 hg3)
   go_ret
   exact ⟨_, rfl, by simpa using HO3.out, HB3.out⟩

attribute [local go_sem] bstr_size bstr_toList

theorem box13 {w : World} {b : Nat} {T : TypeId} {x0 x1 x2 x3 x4 x5 x6 x7 x8 x9 x10 x11 x12 : Value} (h : CBox w b T #[x0, x1, x2, x3, x4, x5, x6, x7, x8, x9, x10, x11, x12]) :
 w.cell? ⟨b, 0, none⟩ = some x0 ∧ w.cell? ⟨b, 1, none⟩ = some x1 ∧ w.cell? ⟨b, 2, none⟩ = some x2 ∧ w.cell? ⟨b, 3, none⟩ = some x3 ∧ w.cell? ⟨b, 4, none⟩ = some x4 ∧ w.cell? ⟨b, 5, none⟩ = some x5 ∧ w.cell? ⟨b, 6, none⟩ = some x6 ∧ w.cell? ⟨b, 7, none⟩ = some x7 ∧ w.cell? ⟨b, 8, none⟩ = some x8 ∧ w.cell? ⟨b, 9, none⟩ = some x9 ∧ w.cell? ⟨b, 10, none⟩ = some x10 ∧ w.cell? ⟨b, 11, none⟩ = some x11 ∧ w.cell? ⟨b, 12, none⟩ = some x12 :=
 ⟨(h.at_ 0 _ rfl).1, (h.at_ 1 _ rfl).1, (h.at_ 2 _ rfl).1, (h.at_ 3 _ rfl).1, (h.at_ 4 _ rfl).1, (h.at_ 5 _ rfl).1, (h.at_ 6 _ rfl).1, (h.at_ 7 _ rfl).1, (h.at_ 8 _ rfl).1, (h.at_ 9 _ rfl).1, (h.at_ 10 _ rfl).1, (h.at_ 11 _ rfl).1, (h.at_ 12 _ rfl).1⟩
def zerosB (s : Str) : Bool := s.all (· == 0)
theorem dropWhile_nil {l : Str} : l.dropWhile (· == 0) = [] ↔ ∀ x ∈ l, x = 0 := by
 induction l with
 | nil => simp
 | cons a l ih =>
   rw [List.dropWhile_cons]
   cases h : a == 0
   · simp only [Bool.false_eq_true, if_false]
     refine ⟨fun q => (by cases q), fun q => ?_⟩
     have := q a (by simp)
     rw [this] at h
     simp at h
   · simp only [if_true]
     rw [ih]
     have := eq_of_beq h
     simp [this]
theorem trimB_zeros (s : Str) : (trimB s 0).isEmpty = zerosB s := by
 have h : trimB s 0 = [] ↔ ∀ x ∈ s, x = 0 := by
  unfold trimB trimLeftB trimRightB
  rw [dropWhile_nil]
  refine ⟨fun q => ?_, fun q => ?_⟩
  · by_cases hd : s.reverse.dropWhile (· == 0) = []
    · rw [dropWhile_nil] at hd
      exact fun x hx => hd x (List.mem_reverse.2 hx)
    · exfalso
      obtain ⟨a, l, e⟩ := List.exists_cons_of_ne_nil hd
      have ha := q a (by rw [e]; simp)
      have := List.head_dropWhile_not (p := fun x : UInt8 => x == 0) (l := s.reverse) (by rw [e]; simp)
      simp only [e, List.head_cons, ha] at this
      simp at this
  · have hd : s.reverse.dropWhile (· == 0) = [] := dropWhile_nil.2 fun x hx => q x (List.mem_reverse.1 hx)
    rw [hd]
    simp
 unfold zerosB
 cases hz : s.all (· == 0)
 · rw [List.isEmpty_eq_false_iff]
   intro hn
   have := h.1 hn
   rw [List.all_eq_false] at hz
   obtain ⟨x, hx, hne⟩ := hz
   exact hne (by simp [this x hx])
 · rw [List.isEmpty_iff, h]
   intro x hx
   have := List.all_eq_true.1 hz x hx
   exact eq_of_beq this
theorem zeros_any (s : Str) (w : World) (hs : s.length ≤ maxLen) :
 Calls Tryz.prog 83 #[.string (bstr s)] w fun e w' => e = .returned (.bool (zerosB s)) ∧ Below w.heap.size w w' := by
 have hT := Tryz.strings_Trim_one (bstr s) 0 (by decide) w (by rw [bstr_size]; unfold maxLen at hs; omega)
 have HT := Lib.hid (show Calls Tryz.prog 150 #[.string (bstr s), .string ⟨#[0]⟩] w fun e w' => e = .returned (.string (bstr (trimB s 0))) ∧ Below w.heap.size w w' from by
  refine hT.mono ?_
  rintro e w' ⟨rfl, hw⟩
  refine ⟨?_, ?_⟩
  · rw [show (bstr s).data.toList = s from bstr_data s, bstr_eq]
  · rcases hw with rfl | rfl
    · exact Below.refl _ _
    · exact Below.drew (Below.refl _ _))
 have HZ := Lib.hid (trimB_zeros s)
 obtain ⟨t, ht⟩ : ∃ t, trimB s 0 = t := ⟨_, rfl⟩
 rw [ht] at HT HZ
 obtain ⟨z, hz⟩ : ∃ z, zerosB s = z := ⟨_, rfl⟩
 rw [hz] at HZ ⊢
 clear hT hs ht hz
 go_enter Tryz.func83, Tryz.ntmps83
 go_wp2_with ((with_reducible refine HT.out.mono ?_); rintro e w2 ⟨rfl, hb2⟩; have HB2 := Lib.hid hb2; clear hb2)
 go_ret
 exact ⟨by rw [← HZ.out]; rfl, HB2.out⟩
def selfB (s : Str) (n : Nat) : Bool := s.isEmpty || (decide (s.length = n) && !zerosB s)
theorem isself_any (s : Str) (n : Nat) (hn : n ≤ 1000) (w : World) : Calls Tryz.prog 30 #[.string (bstr s), .int .i64 (n : Nat)] w fun e w' => e = .returned (.bool (selfB s n)) ∧ Below w.heap.size w w' := by
 cases s with
 | nil =>
   rw [bstr_nil]
   go_enter Tryz.func30, Tryz.ntmps30
   go_wp2
   go_ret
   exact ⟨rfl, Below.refl _ _⟩
 | cons c r =>
   have e1 : (c :: r).isEmpty = false := rfl
   have e2 : ((bstr (c :: r)).toList == ([] : Str)) = false := by rw [bstr_toList]; rfl
   cases hl : ((c :: r).length == n)
   · have hz : selfB (c :: r) n = false := by
      unfold selfB
      rw [e1, decide_eq_false (by simpa using hl)]
      rfl
     have hl2 : (((c :: r).length : Int) == (n : Int)) = false := by
      rw [beq_eq_false_iff_ne] at hl ⊢
      omega
     rw [hz]
     clear hz hl
     obtain ⟨m, hm⟩ : ∃ m, (c :: r).length = m := ⟨_, rfl⟩
     have hsz : (bstr (c :: r)).size = m := by rw [bstr_size, hm]
     rw [hm] at hl2
     clear hm
     go_enter Tryz.func30, Tryz.ntmps30
     go_wp2
     go_ret
     exact ⟨rfl, Below.refl _ _⟩
   · have hl' : (c :: r).length = n := by simpa using hl
     have HZ := Lib.hid (zeros_any (c :: r) w (by unfold maxLen; omega))
     have hz : selfB (c :: r) n = !zerosB (c :: r) := by
      unfold selfB
      rw [e1, decide_eq_true hl']
      rfl
     rw [hz]
     obtain ⟨z, hzz⟩ : ∃ z, zerosB (c :: r) = z := ⟨_, rfl⟩
     rw [hzz] at HZ ⊢
     have hl2 : (((c :: r).length : Int) == (n : Int)) = true := by rw [hl']; simp
     clear hz hl hl' hzz
     obtain ⟨m, hm⟩ : ∃ m, (c :: r).length = m := ⟨_, rfl⟩
     have hsz : (bstr (c :: r)).size = m := by rw [bstr_size, hm]
     rw [hm] at hl2
     clear hm
     go_enter Tryz.func30, Tryz.ntmps30
     go_wp2_with ((with_reducible refine HZ.out.mono ?_); rintro e w2 ⟨rfl, hb2⟩; have HB2 := Lib.hid hb2; clear hb2)
     go_ret
     exact ⟨rfl, HB2.out⟩
theorem isself_4 (s : Str) (w : World) : Calls Tryz.prog 30 #[.string (bstr s), .int .i64 4] w fun e w' => e = .returned (.bool (selfB s 4)) ∧ Below w.heap.size w w' := isself_any s 4 (by decide) w
theorem isself_16 (s : Str) (w : World) : Calls Tryz.prog 30 #[.string (bstr s), .int .i64 16] w fun e w' => e = .returned (.bool (selfB s 16)) ∧ Below w.heap.size w w' := isself_any s 16 (by decide) w

def ccells (c : Cfg) (vc vp : Value) : Array Value := #[.int .u64 c.id, vc, vp, .string (bstr c.self4), .string (bstr c.self6), .int .i64 c.every, .int .i64 c.robust, .int .i64 c.member, .int .i64 c.last, .int .i64 c.age, .int .i64 c.room, .bool c.flood, .bool c.fast]
def encC (c : Cfg) (vc vp : Value) : Value := .agg (ccells c vc vp)
structure CfgIn (w : World) (R : Nat → Prop) (c : Cfg) (vc vp : Value) : Prop where
 costs : Ints w vc c.costs
 ports : Pts R w vp c.ports
theorem CfgIn.mono {w w' : World} {R : Nat → Prop} {c : Cfg} {vc vp : Value} (h : CfgIn w R c vc vp) (hb : Below w.heap.size w w') : CfgIn w' R c vc vp := ⟨h.costs.mono hb, h.ports.mono hb⟩
def VlOk (l : List Pt) : Prop := ∀ R : List Int, R.Pairwise (· < ·) → (∀ x, x ∈ R ↔ x ∈ allV l) → R.length ≤ 20
structure CfgOk (c : Cfg) : Prop where
 costs : costsOk c.costs = true
 check : vCheck c.ports = 0
 len : c.costs.length = c.ports.length
 vl : VlOk c.ports
 self4 : selfB c.self4 4 = true
 self6 : selfB c.self6 16 = true
 every : inBetween c.every 4 1000 = true
 robust : inBetween c.robust 1 7 = true
 member : inBetween c.member 1 1000 = true
 last : inBetween c.last 1 1000 = true
 age : inBetween c.age 1 10000 = true
 room : inBetween c.room 1 1000 = true
theorem fine_len {l : List Pt} (h : vCheck l = 0) : l.length ≤ 16 := by
 unfold vCheck at h
 split at h
 · rename_i q; exact q.2.1
 · cases h
theorem vCheck_bad {l : List Pt} (h : vCheck l ≠ 0) : vCheck l = 3 := by
 unfold vCheck at h ⊢
 split
 · rename_i q; rw [if_pos q] at h; exact absurd rfl h
 · rfl
theorem rises_len : ∀ (l : List Int) (a : Int), risesGo a l = true → a + l.length ≤ max a 4094
 | [], a, _ => by simp; omega
 | v :: l, a, h => by
   unfold risesGo at h
   simp only [Bool.and_eq_true, decide_eq_true_eq] at h
   have := rises_len l v h.2
   rw [List.length_cons]
   omega
theorem fine_lens {l : List Pt} (h : vCheck l = 0) : ∀ p ∈ l, p.tagged.length ≤ 1000000 ∧ p.plain.length ≤ 1000000 := fun p hp => by
 unfold vCheck at h
 split at h
 · rename_i q
   have hf := List.all_eq_true.1 q.2.2 p hp
   unfold Pt.fine risesV at hf
   simp only [Bool.and_eq_true] at hf
   have h1 := rises_len _ _ hf.1.1.1
   have h2 := rises_len _ _ hf.1.1.2
   omega
 · cases h
theorem rises_uniq : ∀ {R S : List Int}, R.Pairwise (· < ·) → S.Pairwise (· < ·) → (∀ x, x ∈ R ↔ x ∈ S) → R = S
 | [], [], _, _, _ => rfl
 | [], b :: S, _, _, h => absurd ((h b).2 (by simp)) (by simp)
 | a :: R, [], _, _, h => absurd ((h a).1 (by simp)) (by simp)
 | a :: R, b :: S, h1, h2, h => by
   obtain ⟨p1, q1⟩ := List.pairwise_cons.1 h1
   obtain ⟨p2, q2⟩ := List.pairwise_cons.1 h2
   have e : a = b := by
    rcases List.mem_cons.1 ((h a).1 (by simp)) with e | e
    · exact e
    · rcases List.mem_cons.1 ((h b).2 (by simp)) with e' | e'
      · exact e'.symm
      · have := p1 b e'; have := p2 a e; omega
   subst e
   rw [rises_uniq q1 q2 fun x => ?_]
   refine ⟨fun hx => ?_, fun hx => ?_⟩
   · rcases List.mem_cons.1 ((h x).1 (by simp [hx])) with e | e
     · subst e; have := p1 x hx; omega
     · exact e
   · rcases List.mem_cons.1 ((h x).2 (by simp [hx])) with e | e
     · subst e; have := p2 x hx; omega
     · exact e
def RetNm (n : Int) (w : World) (e : Ending) (w' : World) : Prop := e = .returned (.int .i64 n) ∧ Below w.heap.size w w'

set_option maxHeartbeats 8000000 in
theorem check_bad0 (R : Nat → Prop) (c : Cfg) (vc vp : Value) (w : World) (h : CfgIn w R c vc vp) (h_costs : costsOk c.costs = false) :
 Calls Tryz.prog 10 #[encC c vc vp] w (RetNm 3 w) := by
 obtain ⟨W1, hW1⟩ : ∃ W, w.alloc (.cells (ccells c vc vp) 32) = W := ⟨_, rfl⟩
 obtain ⟨q0, hq0⟩ : ∃ q, w.heap.size = q := ⟨_, rfl⟩
 have hb1 : Below w.heap.size w W1 := by rw [← hW1]; exact (Below.refl _ _).alloc (Nat.le_refl _) _
 have hx1 : CBox W1 q0 32 (ccells c vc vp) := by rw [← hW1]; exact CBox.new _ hq0.symm
 have HT := Lib.hid (tnewt_any c.id vc c.costs W1 (h.costs.mono hb1))
 have HC := Lib.hid h_costs
 obtain ⟨ao, an, ac, rfl⟩ := h.costs.shape
 obtain ⟨bo, bc, rfl⟩ := h.ports.shape
 obtain ⟨n, hn⟩ : ∃ n, c.ports.length = n := ⟨_, rfl⟩
 have X1 := Lib.hid hx1; have B1 := Lib.hid hb1; have HW1 := Lib.hid hW1; have HQ0 := Lib.hid hq0
 obtain ⟨id, costs, ports, s4, s6, ev, rb, me, la, ag, ro, fl, fa⟩ := c
 unfold encC
 unfold ccells at HW1 X1 ⊢
 dsimp only at HT HC hn HW1 X1 ⊢
 rw [hn] at X1 HW1 ⊢
 clear h hW1 hq0 hb1 hx1 hn h_costs
 go_enter Tryz.func10, Tryz.ntmps10
 go_upto_region 1 with fail
 rw [HW1.out, HQ0.out]
 obtain ⟨c0, c1, c2, c3, c4, c5, c6, c7, c8, c9, c10, c11, c12⟩ := box13 X1.out
 go_wp2_with ((with_reducible refine HT.out.mono ?_); rintro e w2 ⟨hb2, ⟨_, rfl⟩ | ⟨hk, _⟩⟩; rotate_left; (rw [HC.out] at hk; cases hk); have B2 := Lib.hid (B1.out.trans (hb2.mono B1.out.size)); clear hb2)
 go_ret
 exact ⟨rfl, B2.out⟩
set_option maxHeartbeats 8000000 in
theorem check_bad1 (R : Nat → Prop) (c : Cfg) (vc vp : Value) (w : World) (h : CfgIn w R c vc vp) (h_costs : costsOk c.costs = true) (h_check : vCheck c.ports = 3) :
 Calls Tryz.prog 10 #[encC c vc vp] w (RetNm 3 w) := by
 obtain ⟨W1, hW1⟩ : ∃ W, w.alloc (.cells (ccells c vc vp) 32) = W := ⟨_, rfl⟩
 obtain ⟨q0, hq0⟩ : ∃ q, w.heap.size = q := ⟨_, rfl⟩
 have hb1 : Below w.heap.size w W1 := by rw [← hW1]; exact (Below.refl _ _).alloc (Nat.le_refl _) _
 have hx1 : CBox W1 q0 32 (ccells c vc vp) := by rw [← hW1]; exact CBox.new _ hq0.symm
 have HT := Lib.hid (tnewt_any c.id vc c.costs W1 (h.costs.mono hb1))
 have HC := Lib.hid h_costs
 have HV := Lib.hid (fun W (hW : Below W1.heap.size W1 W) => vcheck_any R vp c.ports W ((h.ports.mono hb1).mono hW))
 rw [h_check] at HV
 obtain ⟨ao, an, ac, rfl⟩ := h.costs.shape
 obtain ⟨bo, bc, rfl⟩ := h.ports.shape
 obtain ⟨n, hn⟩ : ∃ n, c.ports.length = n := ⟨_, rfl⟩
 have X1 := Lib.hid hx1; have B1 := Lib.hid hb1; have HW1 := Lib.hid hW1; have HQ0 := Lib.hid hq0
 obtain ⟨id, costs, ports, s4, s6, ev, rb, me, la, ag, ro, fl, fa⟩ := c
 unfold encC
 unfold ccells at HW1 X1 ⊢
 dsimp only at HT HC HV hn HW1 X1 ⊢
 rw [hn] at HV X1 HW1 ⊢
 clear h hW1 hq0 hb1 hx1 hn h_costs h_check
 go_enter Tryz.func10, Tryz.ntmps10
 go_upto_region 1 with fail
 rw [HW1.out, HQ0.out]
 obtain ⟨c0, c1, c2, c3, c4, c5, c6, c7, c8, c9, c10, c11, c12⟩ := box13 X1.out
 go_upto_region 3 with ((with_reducible refine HT.out.mono ?_); rintro e w2 ⟨hb2, ⟨hk, _⟩ | ⟨_, p, g, cap, rfl, _⟩⟩; (rw [HC.out] at hk; cases hk); have B2 := Lib.hid hb2; have X2 := Lib.hid (X1.out.below hb2 X1.out.lt); clear hb2)
 clear c0 c1 c2 c3 c4 c5 c6 c7 c8 c9 c10 c11 c12
 obtain ⟨c0, c1, c2, c3, c4, c5, c6, c7, c8, c9, c10, c11, c12⟩ := box13 X2.out
 go_wp2_with ((with_reducible refine (HV.out w2 B2.out).mono ?_); rintro e w3 ⟨rfl, hb3⟩; have B3 := Lib.hid (B2.out.trans (hb3.mono B2.out.size)); have X3 := Lib.hid (X2.out.below hb3 X2.out.lt); clear hb3 c0 c1 c2 c3 c4 c5 c6 c7 c8 c9 c10 c11 c12; obtain ⟨c0, c1, c2, c3, c4, c5, c6, c7, c8, c9, c10, c11, c12⟩ := box13 X3.out)
 go_ret
 exact ⟨rfl, B1.out.trans (B3.out.mono B1.out.size)⟩
set_option maxHeartbeats 8000000 in
theorem check_bad2 (R : Nat → Prop) (c : Cfg) (vc vp : Value) (w : World) (h : CfgIn w R c vc vp) (h_costs : costsOk c.costs = true) (h_check : vCheck c.ports = 0) (h_len : c.costs.length ≠ c.ports.length) :
 Calls Tryz.prog 10 #[encC c vc vp] w (RetNm 3 w) := by
 obtain ⟨W1, hW1⟩ : ∃ W, w.alloc (.cells (ccells c vc vp) 32) = W := ⟨_, rfl⟩
 obtain ⟨q0, hq0⟩ : ∃ q, w.heap.size = q := ⟨_, rfl⟩
 have hb1 : Below w.heap.size w W1 := by rw [← hW1]; exact (Below.refl _ _).alloc (Nat.le_refl _) _
 have hx1 : CBox W1 q0 32 (ccells c vc vp) := by rw [← hW1]; exact CBox.new _ hq0.symm
 have HT := Lib.hid (tnewt_any c.id vc c.costs W1 (h.costs.mono hb1))
 have HC := Lib.hid h_costs
 have HV := Lib.hid (fun W (hW : Below W1.heap.size W1 W) => vcheck_any R vp c.ports W ((h.ports.mono hb1).mono hW))
 rw [h_check] at HV
 obtain ⟨_, _, _, lc, _, _⟩ := h.costs.facts
 obtain ⟨_, _, _, lp, _, _⟩ := h.ports.facts
 obtain ⟨ao, an, ac, rfl⟩ := h.costs.shape
 obtain ⟨bo, bc, rfl⟩ := h.ports.shape
 obtain ⟨n, hn⟩ : ∃ n, c.ports.length = n := ⟨_, rfl⟩
 rw [hn] at h_len lp
 obtain ⟨cn, hcn⟩ : ∃ n, c.costs.length = n := ⟨_, rfl⟩
 rw [hcn] at h_len lc
 have hne1 : ((cn : Int) == (n : Int)) = false := by rw [beq_eq_false_iff_ne]; omega
 have hne2 : ((cn : Int) != (n : Int)) = true := by rw [bne_iff_ne]; omega
 clear hcn
 have X1 := Lib.hid hx1; have B1 := Lib.hid hb1; have HW1 := Lib.hid hW1; have HQ0 := Lib.hid hq0
 obtain ⟨id, costs, ports, s4, s6, ev, rb, me, la, ag, ro, fl, fa⟩ := c
 unfold encC
 unfold ccells at HW1 X1 ⊢
 dsimp only at HT HC HV hn HW1 X1 ⊢
 rw [hn] at HV X1 HW1 ⊢
 clear h hW1 hq0 hb1 hx1 hn h_costs h_check h_len
 go_enter Tryz.func10, Tryz.ntmps10
 go_upto_region 1 with fail
 rw [HW1.out, HQ0.out]
 obtain ⟨c0, c1, c2, c3, c4, c5, c6, c7, c8, c9, c10, c11, c12⟩ := box13 X1.out
 go_upto_region 3 with ((with_reducible refine HT.out.mono ?_); rintro e w2 ⟨hb2, ⟨hk, _⟩ | ⟨_, p, g, cap, rfl, _⟩⟩; (rw [HC.out] at hk; cases hk); have B2 := Lib.hid hb2; have X2 := Lib.hid (X1.out.below hb2 X1.out.lt); clear hb2)
 clear c0 c1 c2 c3 c4 c5 c6 c7 c8 c9 c10 c11 c12
 obtain ⟨c0, c1, c2, c3, c4, c5, c6, c7, c8, c9, c10, c11, c12⟩ := box13 X2.out
 go_wp2_with ((with_reducible refine (HV.out w2 B2.out).mono ?_); rintro e w3 ⟨rfl, hb3⟩; have B3 := Lib.hid (B2.out.trans (hb3.mono B2.out.size)); have X3 := Lib.hid (X2.out.below hb3 X2.out.lt); clear hb3 c0 c1 c2 c3 c4 c5 c6 c7 c8 c9 c10 c11 c12; obtain ⟨c0, c1, c2, c3, c4, c5, c6, c7, c8, c9, c10, c11, c12⟩ := box13 X3.out)
 go_ret
 exact ⟨rfl, B1.out.trans (B3.out.mono B1.out.size)⟩
set_option maxHeartbeats 8000000 in
theorem check_bad3 (R : Nat → Prop) (c : Cfg) (vc vp : Value) (w : World) (h : CfgIn w R c vc vp) (h_costs : costsOk c.costs = true) (h_check : vCheck c.ports = 0) (h_len : c.costs.length = c.ports.length) (h_vl : ¬ VlOk c.ports) :
 Calls Tryz.prog 10 #[encC c vc vp] w (RetNm 3 w) := by
 obtain ⟨W1, hW1⟩ : ∃ W, w.alloc (.cells (ccells c vc vp) 32) = W := ⟨_, rfl⟩
 obtain ⟨q0, hq0⟩ : ∃ q, w.heap.size = q := ⟨_, rfl⟩
 have hb1 : Below w.heap.size w W1 := by rw [← hW1]; exact (Below.refl _ _).alloc (Nat.le_refl _) _
 have hx1 : CBox W1 q0 32 (ccells c vc vp) := by rw [← hW1]; exact CBox.new _ hq0.symm
 have HT := Lib.hid (tnewt_any c.id vc c.costs W1 (h.costs.mono hb1))
 have HC := Lib.hid h_costs
 have HV := Lib.hid (fun W (hW : Below W1.heap.size W1 W) => vcheck_any R vp c.ports W ((h.ports.mono hb1).mono hW))
 rw [h_check] at HV
 obtain ⟨_, _, _, lc, _, _⟩ := h.costs.facts
 obtain ⟨_, _, _, lp, _, _⟩ := h.ports.facts
 rw [h_len] at lc
 have HVL := Lib.hid (fun W (hW : Below W1.heap.size W1 W) => vlans_any R vp c.ports W ((h.ports.mono hb1).mono hW) (by have := fine_len h_check; omega) (fine_lens h_check))
 have HVM := Lib.hid h_vl
 obtain ⟨ao, an, ac, rfl⟩ := h.costs.shape
 obtain ⟨bo, bc, rfl⟩ := h.ports.shape
 obtain ⟨n, hn⟩ : ∃ n, c.ports.length = n := ⟨_, rfl⟩
 rw [hn] at lc lp
 have X1 := Lib.hid hx1; have B1 := Lib.hid hb1; have HW1 := Lib.hid hW1; have HQ0 := Lib.hid hq0
 obtain ⟨id, costs, ports, s4, s6, ev, rb, me, la, ag, ro, fl, fa⟩ := c
 unfold encC
 unfold ccells at HW1 X1 ⊢
 dsimp only at HT HC HV HVL HVM hn HW1 X1 ⊢
 rw [hn] at HV HVL X1 HW1 ⊢
 clear h hW1 hq0 hb1 hx1 hn h_costs h_check h_len h_vl
 go_enter Tryz.func10, Tryz.ntmps10
 go_upto_region 1 with fail
 rw [HW1.out, HQ0.out]
 obtain ⟨c0, c1, c2, c3, c4, c5, c6, c7, c8, c9, c10, c11, c12⟩ := box13 X1.out
 go_upto_region 3 with ((with_reducible refine HT.out.mono ?_); rintro e w2 ⟨hb2, ⟨hk, _⟩ | ⟨_, p, g, cap, rfl, _⟩⟩; (rw [HC.out] at hk; cases hk); have B2 := Lib.hid hb2; have X2 := Lib.hid (X1.out.below hb2 X1.out.lt); clear hb2)
 clear c0 c1 c2 c3 c4 c5 c6 c7 c8 c9 c10 c11 c12
 obtain ⟨c0, c1, c2, c3, c4, c5, c6, c7, c8, c9, c10, c11, c12⟩ := box13 X2.out
 go_wp2_with (first | ((with_reducible refine (HV.out w2 B2.out).mono ?_); rintro e w3 ⟨rfl, hb3⟩; have B3 := Lib.hid (B2.out.trans (hb3.mono B2.out.size)); have X3 := Lib.hid (X2.out.below hb3 X2.out.lt); clear hb3 c0 c1 c2 c3 c4 c5 c6 c7 c8 c9 c10 c11 c12; obtain ⟨c0, c1, c2, c3, c4, c5, c6, c7, c8, c9, c10, c11, c12⟩ := box13 X3.out) | ((with_reducible refine (HVL.out w3 B3.out).mono ?_); rintro e w4 ⟨v4, R4, rfl, hi4, hr4, hm4, _, hb4⟩; have B4 := Lib.hid (B3.out.trans (hb4.mono B3.out.size)); have X4 := Lib.hid (X3.out.below hb4 X3.out.lt); have hd4 : decide ((20 : Int) < (R4.length : Int)) = true := decide_eq_true (by by_cases q : (20 : Int) < (R4.length : Int); exact q; exact absurd (fun R' h1 h2 => by rw [rises_uniq h1 hr4 fun x => (h2 x).trans (hm4 x).symm]; omega) HVM.out); obtain ⟨_, _, _, lr, _, _⟩ := hi4.facts; clear hb4 hi4 hr4 hm4 c0 c1 c2 c3 c4 c5 c6 c7 c8 c9 c10 c11 c12; obtain ⟨c0, c1, c2, c3, c4, c5, c6, c7, c8, c9, c10, c11, c12⟩ := box13 X4.out))
 go_ret
 exact ⟨rfl, B1.out.trans (B4.out.mono B1.out.size)⟩
set_option maxHeartbeats 8000000 in
theorem check_bad4 (R : Nat → Prop) (c : Cfg) (vc vp : Value) (w : World) (h : CfgIn w R c vc vp) (h_costs : costsOk c.costs = true) (h_check : vCheck c.ports = 0) (h_len : c.costs.length = c.ports.length) (h_vl : VlOk c.ports) (h_self4 : selfB c.self4 4 = false) :
 Calls Tryz.prog 10 #[encC c vc vp] w (RetNm 3 w) := by
 obtain ⟨W1, hW1⟩ : ∃ W, w.alloc (.cells (ccells c vc vp) 32) = W := ⟨_, rfl⟩
 obtain ⟨q0, hq0⟩ : ∃ q, w.heap.size = q := ⟨_, rfl⟩
 have hb1 : Below w.heap.size w W1 := by rw [← hW1]; exact (Below.refl _ _).alloc (Nat.le_refl _) _
 have hx1 : CBox W1 q0 32 (ccells c vc vp) := by rw [← hW1]; exact CBox.new _ hq0.symm
 have HT := Lib.hid (tnewt_any c.id vc c.costs W1 (h.costs.mono hb1))
 have HC := Lib.hid h_costs
 have HV := Lib.hid (fun W (hW : Below W1.heap.size W1 W) => vcheck_any R vp c.ports W ((h.ports.mono hb1).mono hW))
 rw [h_check] at HV
 obtain ⟨_, _, _, lc, _, _⟩ := h.costs.facts
 obtain ⟨_, _, _, lp, _, _⟩ := h.ports.facts
 rw [h_len] at lc
 have HVL := Lib.hid (fun W (hW : Below W1.heap.size W1 W) => vlans_any R vp c.ports W ((h.ports.mono hb1).mono hW) (by have := fine_len h_check; omega) (fine_lens h_check))
 have HVM := Lib.hid h_vl
 have HS4 := Lib.hid (fun W => isself_4 c.self4 W)
 rw [h_self4] at HS4
 obtain ⟨ao, an, ac, rfl⟩ := h.costs.shape
 obtain ⟨bo, bc, rfl⟩ := h.ports.shape
 obtain ⟨n, hn⟩ : ∃ n, c.ports.length = n := ⟨_, rfl⟩
 rw [hn] at lc lp
 have X1 := Lib.hid hx1; have B1 := Lib.hid hb1; have HW1 := Lib.hid hW1; have HQ0 := Lib.hid hq0
 obtain ⟨id, costs, ports, s4, s6, ev, rb, me, la, ag, ro, fl, fa⟩ := c
 unfold encC
 unfold ccells at HW1 X1 ⊢
 dsimp only at HT HC HV HVL HVM HS4 hn HW1 X1 ⊢
 rw [hn] at HV HVL X1 HW1 ⊢
 clear h hW1 hq0 hb1 hx1 hn h_costs h_check h_len h_vl h_self4
 go_enter Tryz.func10, Tryz.ntmps10
 go_upto_region 1 with fail
 rw [HW1.out, HQ0.out]
 obtain ⟨c0, c1, c2, c3, c4, c5, c6, c7, c8, c9, c10, c11, c12⟩ := box13 X1.out
 go_upto_region 3 with ((with_reducible refine HT.out.mono ?_); rintro e w2 ⟨hb2, ⟨hk, _⟩ | ⟨_, p, g, cap, rfl, _⟩⟩; (rw [HC.out] at hk; cases hk); have B2 := Lib.hid hb2; have X2 := Lib.hid (X1.out.below hb2 X1.out.lt); clear hb2)
 clear c0 c1 c2 c3 c4 c5 c6 c7 c8 c9 c10 c11 c12
 obtain ⟨c0, c1, c2, c3, c4, c5, c6, c7, c8, c9, c10, c11, c12⟩ := box13 X2.out
 go_upto_region 4 with (first | ((with_reducible refine (HV.out w2 B2.out).mono ?_); rintro e w3 ⟨rfl, hb3⟩; have B3 := Lib.hid (B2.out.trans (hb3.mono B2.out.size)); have X3 := Lib.hid (X2.out.below hb3 X2.out.lt); clear hb3 c0 c1 c2 c3 c4 c5 c6 c7 c8 c9 c10 c11 c12; obtain ⟨c0, c1, c2, c3, c4, c5, c6, c7, c8, c9, c10, c11, c12⟩ := box13 X3.out) | ((with_reducible refine (HVL.out w3 B3.out).mono ?_); rintro e w4 ⟨v4, R4, rfl, hi4, hr4, hm4, _, hb4⟩; have B4 := Lib.hid (B3.out.trans (hb4.mono B3.out.size)); have X4 := Lib.hid (X3.out.below hb4 X3.out.lt); have hl4 := HVM.out R4 hr4 hm4; have hd4 : decide ((20 : Int) < (R4.length : Int)) = false := decide_eq_false (by omega); clear hl4; obtain ⟨_, _, _, lr, _, _⟩ := hi4.facts; clear hb4 hi4 hr4 hm4 c0 c1 c2 c3 c4 c5 c6 c7 c8 c9 c10 c11 c12; obtain ⟨c0, c1, c2, c3, c4, c5, c6, c7, c8, c9, c10, c11, c12⟩ := box13 X4.out))
 go_wp2_with (first | ((with_reducible refine (HS4.out _).mono ?_); rintro e w5 ⟨rfl, hb5⟩; have B5 := Lib.hid (B4.out.trans (hb5.mono B4.out.size)); have X5 := Lib.hid (X4.out.below hb5 X4.out.lt); clear hb5 c0 c1 c2 c3 c4 c5 c6 c7 c8 c9 c10 c11 c12; obtain ⟨c0, c1, c2, c3, c4, c5, c6, c7, c8, c9, c10, c11, c12⟩ := box13 X5.out))
 go_ret
 exact ⟨rfl, B1.out.trans (B5.out.mono B1.out.size)⟩
set_option maxHeartbeats 8000000 in
theorem check_bad5 (R : Nat → Prop) (c : Cfg) (vc vp : Value) (w : World) (h : CfgIn w R c vc vp) (h_costs : costsOk c.costs = true) (h_check : vCheck c.ports = 0) (h_len : c.costs.length = c.ports.length) (h_vl : VlOk c.ports) (h_self4 : selfB c.self4 4 = true) (h_self6 : selfB c.self6 16 = false) :
 Calls Tryz.prog 10 #[encC c vc vp] w (RetNm 3 w) := by
 obtain ⟨W1, hW1⟩ : ∃ W, w.alloc (.cells (ccells c vc vp) 32) = W := ⟨_, rfl⟩
 obtain ⟨q0, hq0⟩ : ∃ q, w.heap.size = q := ⟨_, rfl⟩
 have hb1 : Below w.heap.size w W1 := by rw [← hW1]; exact (Below.refl _ _).alloc (Nat.le_refl _) _
 have hx1 : CBox W1 q0 32 (ccells c vc vp) := by rw [← hW1]; exact CBox.new _ hq0.symm
 have HT := Lib.hid (tnewt_any c.id vc c.costs W1 (h.costs.mono hb1))
 have HC := Lib.hid h_costs
 have HV := Lib.hid (fun W (hW : Below W1.heap.size W1 W) => vcheck_any R vp c.ports W ((h.ports.mono hb1).mono hW))
 rw [h_check] at HV
 obtain ⟨_, _, _, lc, _, _⟩ := h.costs.facts
 obtain ⟨_, _, _, lp, _, _⟩ := h.ports.facts
 rw [h_len] at lc
 have HVL := Lib.hid (fun W (hW : Below W1.heap.size W1 W) => vlans_any R vp c.ports W ((h.ports.mono hb1).mono hW) (by have := fine_len h_check; omega) (fine_lens h_check))
 have HVM := Lib.hid h_vl
 have HS4 := Lib.hid (fun W => isself_4 c.self4 W)
 rw [h_self4] at HS4
 have HS6 := Lib.hid (fun W => isself_16 c.self6 W)
 rw [h_self6] at HS6
 obtain ⟨ao, an, ac, rfl⟩ := h.costs.shape
 obtain ⟨bo, bc, rfl⟩ := h.ports.shape
 obtain ⟨n, hn⟩ : ∃ n, c.ports.length = n := ⟨_, rfl⟩
 rw [hn] at lc lp
 have X1 := Lib.hid hx1; have B1 := Lib.hid hb1; have HW1 := Lib.hid hW1; have HQ0 := Lib.hid hq0
 obtain ⟨id, costs, ports, s4, s6, ev, rb, me, la, ag, ro, fl, fa⟩ := c
 unfold encC
 unfold ccells at HW1 X1 ⊢
 dsimp only at HT HC HV HVL HVM HS4 HS6 hn HW1 X1 ⊢
 rw [hn] at HV HVL X1 HW1 ⊢
 clear h hW1 hq0 hb1 hx1 hn h_costs h_check h_len h_vl h_self4 h_self6
 go_enter Tryz.func10, Tryz.ntmps10
 go_upto_region 1 with fail
 rw [HW1.out, HQ0.out]
 obtain ⟨c0, c1, c2, c3, c4, c5, c6, c7, c8, c9, c10, c11, c12⟩ := box13 X1.out
 go_upto_region 3 with ((with_reducible refine HT.out.mono ?_); rintro e w2 ⟨hb2, ⟨hk, _⟩ | ⟨_, p, g, cap, rfl, _⟩⟩; (rw [HC.out] at hk; cases hk); have B2 := Lib.hid hb2; have X2 := Lib.hid (X1.out.below hb2 X1.out.lt); clear hb2)
 clear c0 c1 c2 c3 c4 c5 c6 c7 c8 c9 c10 c11 c12
 obtain ⟨c0, c1, c2, c3, c4, c5, c6, c7, c8, c9, c10, c11, c12⟩ := box13 X2.out
 go_upto_region 4 with (first | ((with_reducible refine (HV.out w2 B2.out).mono ?_); rintro e w3 ⟨rfl, hb3⟩; have B3 := Lib.hid (B2.out.trans (hb3.mono B2.out.size)); have X3 := Lib.hid (X2.out.below hb3 X2.out.lt); clear hb3 c0 c1 c2 c3 c4 c5 c6 c7 c8 c9 c10 c11 c12; obtain ⟨c0, c1, c2, c3, c4, c5, c6, c7, c8, c9, c10, c11, c12⟩ := box13 X3.out) | ((with_reducible refine (HVL.out w3 B3.out).mono ?_); rintro e w4 ⟨v4, R4, rfl, hi4, hr4, hm4, _, hb4⟩; have B4 := Lib.hid (B3.out.trans (hb4.mono B3.out.size)); have X4 := Lib.hid (X3.out.below hb4 X3.out.lt); have hl4 := HVM.out R4 hr4 hm4; have hd4 : decide ((20 : Int) < (R4.length : Int)) = false := decide_eq_false (by omega); clear hl4; obtain ⟨_, _, _, lr, _, _⟩ := hi4.facts; clear hb4 hi4 hr4 hm4 c0 c1 c2 c3 c4 c5 c6 c7 c8 c9 c10 c11 c12; obtain ⟨c0, c1, c2, c3, c4, c5, c6, c7, c8, c9, c10, c11, c12⟩ := box13 X4.out))
 go_wp2_with (first | ((with_reducible refine (HS4.out _).mono ?_); rintro e w5 ⟨rfl, hb5⟩; have B5 := Lib.hid (B4.out.trans (hb5.mono B4.out.size)); have X5 := Lib.hid (X4.out.below hb5 X4.out.lt); clear hb5 c0 c1 c2 c3 c4 c5 c6 c7 c8 c9 c10 c11 c12; obtain ⟨c0, c1, c2, c3, c4, c5, c6, c7, c8, c9, c10, c11, c12⟩ := box13 X5.out) | ((with_reducible refine (HS6.out _).mono ?_); rintro e w6 ⟨rfl, hb6⟩; have B6 := Lib.hid (B5.out.trans (hb6.mono B5.out.size)); have X6 := Lib.hid (X5.out.below hb6 X5.out.lt); clear hb6 c0 c1 c2 c3 c4 c5 c6 c7 c8 c9 c10 c11 c12; obtain ⟨c0, c1, c2, c3, c4, c5, c6, c7, c8, c9, c10, c11, c12⟩ := box13 X6.out))
 go_ret
 exact ⟨rfl, B1.out.trans (B6.out.mono B1.out.size)⟩
set_option maxHeartbeats 8000000 in
theorem check_bad6 (R : Nat → Prop) (c : Cfg) (vc vp : Value) (w : World) (h : CfgIn w R c vc vp) (h_costs : costsOk c.costs = true) (h_check : vCheck c.ports = 0) (h_len : c.costs.length = c.ports.length) (h_vl : VlOk c.ports) (h_self4 : selfB c.self4 4 = true) (h_self6 : selfB c.self6 16 = true) (h_every : inBetween c.every 4 1000 = false) :
 Calls Tryz.prog 10 #[encC c vc vp] w (RetNm 3 w) := by
 obtain ⟨W1, hW1⟩ : ∃ W, w.alloc (.cells (ccells c vc vp) 32) = W := ⟨_, rfl⟩
 obtain ⟨q0, hq0⟩ : ∃ q, w.heap.size = q := ⟨_, rfl⟩
 have hb1 : Below w.heap.size w W1 := by rw [← hW1]; exact (Below.refl _ _).alloc (Nat.le_refl _) _
 have hx1 : CBox W1 q0 32 (ccells c vc vp) := by rw [← hW1]; exact CBox.new _ hq0.symm
 have HT := Lib.hid (tnewt_any c.id vc c.costs W1 (h.costs.mono hb1))
 have HC := Lib.hid h_costs
 have HV := Lib.hid (fun W (hW : Below W1.heap.size W1 W) => vcheck_any R vp c.ports W ((h.ports.mono hb1).mono hW))
 rw [h_check] at HV
 obtain ⟨_, _, _, lc, _, _⟩ := h.costs.facts
 obtain ⟨_, _, _, lp, _, _⟩ := h.ports.facts
 rw [h_len] at lc
 have HVL := Lib.hid (fun W (hW : Below W1.heap.size W1 W) => vlans_any R vp c.ports W ((h.ports.mono hb1).mono hW) (by have := fine_len h_check; omega) (fine_lens h_check))
 have HVM := Lib.hid h_vl
 have HS4 := Lib.hid (fun W => isself_4 c.self4 W)
 rw [h_self4] at HS4
 have HS6 := Lib.hid (fun W => isself_16 c.self6 W)
 rw [h_self6] at HS6
 have H6 := Lib.hid (fun W => bwithin_any c.every 4 1000 W)
 rw [h_every] at H6
 obtain ⟨ao, an, ac, rfl⟩ := h.costs.shape
 obtain ⟨bo, bc, rfl⟩ := h.ports.shape
 obtain ⟨n, hn⟩ : ∃ n, c.ports.length = n := ⟨_, rfl⟩
 rw [hn] at lc lp
 have X1 := Lib.hid hx1; have B1 := Lib.hid hb1; have HW1 := Lib.hid hW1; have HQ0 := Lib.hid hq0
 obtain ⟨id, costs, ports, s4, s6, ev, rb, me, la, ag, ro, fl, fa⟩ := c
 unfold encC
 unfold ccells at HW1 X1 ⊢
 dsimp only at HT HC HV HVL HVM HS4 HS6 H6 hn HW1 X1 ⊢
 rw [hn] at HV HVL X1 HW1 ⊢
 clear h hW1 hq0 hb1 hx1 hn h_costs h_check h_len h_vl h_self4 h_self6 h_every
 go_enter Tryz.func10, Tryz.ntmps10
 go_upto_region 1 with fail
 rw [HW1.out, HQ0.out]
 obtain ⟨c0, c1, c2, c3, c4, c5, c6, c7, c8, c9, c10, c11, c12⟩ := box13 X1.out
 go_upto_region 3 with ((with_reducible refine HT.out.mono ?_); rintro e w2 ⟨hb2, ⟨hk, _⟩ | ⟨_, p, g, cap, rfl, _⟩⟩; (rw [HC.out] at hk; cases hk); have B2 := Lib.hid hb2; have X2 := Lib.hid (X1.out.below hb2 X1.out.lt); clear hb2)
 clear c0 c1 c2 c3 c4 c5 c6 c7 c8 c9 c10 c11 c12
 obtain ⟨c0, c1, c2, c3, c4, c5, c6, c7, c8, c9, c10, c11, c12⟩ := box13 X2.out
 go_upto_region 4 with (first | ((with_reducible refine (HV.out w2 B2.out).mono ?_); rintro e w3 ⟨rfl, hb3⟩; have B3 := Lib.hid (B2.out.trans (hb3.mono B2.out.size)); have X3 := Lib.hid (X2.out.below hb3 X2.out.lt); clear hb3 c0 c1 c2 c3 c4 c5 c6 c7 c8 c9 c10 c11 c12; obtain ⟨c0, c1, c2, c3, c4, c5, c6, c7, c8, c9, c10, c11, c12⟩ := box13 X3.out) | ((with_reducible refine (HVL.out w3 B3.out).mono ?_); rintro e w4 ⟨v4, R4, rfl, hi4, hr4, hm4, _, hb4⟩; have B4 := Lib.hid (B3.out.trans (hb4.mono B3.out.size)); have X4 := Lib.hid (X3.out.below hb4 X3.out.lt); have hl4 := HVM.out R4 hr4 hm4; have hd4 : decide ((20 : Int) < (R4.length : Int)) = false := decide_eq_false (by omega); clear hl4; obtain ⟨_, _, _, lr, _, _⟩ := hi4.facts; clear hb4 hi4 hr4 hm4 c0 c1 c2 c3 c4 c5 c6 c7 c8 c9 c10 c11 c12; obtain ⟨c0, c1, c2, c3, c4, c5, c6, c7, c8, c9, c10, c11, c12⟩ := box13 X4.out))
 go_wp2_with (first | ((with_reducible refine (HS4.out _).mono ?_); rintro e w5 ⟨rfl, hb5⟩; have B5 := Lib.hid (B4.out.trans (hb5.mono B4.out.size)); have X5 := Lib.hid (X4.out.below hb5 X4.out.lt); clear hb5 c0 c1 c2 c3 c4 c5 c6 c7 c8 c9 c10 c11 c12; obtain ⟨c0, c1, c2, c3, c4, c5, c6, c7, c8, c9, c10, c11, c12⟩ := box13 X5.out) | ((with_reducible refine (HS6.out _).mono ?_); rintro e w6 ⟨rfl, hb6⟩; have B6 := Lib.hid (B5.out.trans (hb6.mono B5.out.size)); have X6 := Lib.hid (X5.out.below hb6 X5.out.lt); clear hb6 c0 c1 c2 c3 c4 c5 c6 c7 c8 c9 c10 c11 c12; obtain ⟨c0, c1, c2, c3, c4, c5, c6, c7, c8, c9, c10, c11, c12⟩ := box13 X6.out) | ((with_reducible refine (H6.out _).mono ?_); rintro e w7 ⟨rfl, hw7⟩; subst w7))
 go_ret
 exact ⟨rfl, B1.out.trans (B6.out.mono B1.out.size)⟩
set_option maxHeartbeats 8000000 in
theorem check_bad7 (R : Nat → Prop) (c : Cfg) (vc vp : Value) (w : World) (h : CfgIn w R c vc vp) (h_costs : costsOk c.costs = true) (h_check : vCheck c.ports = 0) (h_len : c.costs.length = c.ports.length) (h_vl : VlOk c.ports) (h_self4 : selfB c.self4 4 = true) (h_self6 : selfB c.self6 16 = true) (h_every : inBetween c.every 4 1000 = true) (h_robust : inBetween c.robust 1 7 = false) :
 Calls Tryz.prog 10 #[encC c vc vp] w (RetNm 3 w) := by
 obtain ⟨W1, hW1⟩ : ∃ W, w.alloc (.cells (ccells c vc vp) 32) = W := ⟨_, rfl⟩
 obtain ⟨q0, hq0⟩ : ∃ q, w.heap.size = q := ⟨_, rfl⟩
 have hb1 : Below w.heap.size w W1 := by rw [← hW1]; exact (Below.refl _ _).alloc (Nat.le_refl _) _
 have hx1 : CBox W1 q0 32 (ccells c vc vp) := by rw [← hW1]; exact CBox.new _ hq0.symm
 have HT := Lib.hid (tnewt_any c.id vc c.costs W1 (h.costs.mono hb1))
 have HC := Lib.hid h_costs
 have HV := Lib.hid (fun W (hW : Below W1.heap.size W1 W) => vcheck_any R vp c.ports W ((h.ports.mono hb1).mono hW))
 rw [h_check] at HV
 obtain ⟨_, _, _, lc, _, _⟩ := h.costs.facts
 obtain ⟨_, _, _, lp, _, _⟩ := h.ports.facts
 rw [h_len] at lc
 have HVL := Lib.hid (fun W (hW : Below W1.heap.size W1 W) => vlans_any R vp c.ports W ((h.ports.mono hb1).mono hW) (by have := fine_len h_check; omega) (fine_lens h_check))
 have HVM := Lib.hid h_vl
 have HS4 := Lib.hid (fun W => isself_4 c.self4 W)
 rw [h_self4] at HS4
 have HS6 := Lib.hid (fun W => isself_16 c.self6 W)
 rw [h_self6] at HS6
 have H6 := Lib.hid (fun W => bwithin_any c.every 4 1000 W)
 rw [h_every] at H6
 have H7 := Lib.hid (fun W => bwithin_any c.robust 1 7 W)
 rw [h_robust] at H7
 obtain ⟨ao, an, ac, rfl⟩ := h.costs.shape
 obtain ⟨bo, bc, rfl⟩ := h.ports.shape
 obtain ⟨n, hn⟩ : ∃ n, c.ports.length = n := ⟨_, rfl⟩
 rw [hn] at lc lp
 have X1 := Lib.hid hx1; have B1 := Lib.hid hb1; have HW1 := Lib.hid hW1; have HQ0 := Lib.hid hq0
 obtain ⟨id, costs, ports, s4, s6, ev, rb, me, la, ag, ro, fl, fa⟩ := c
 unfold encC
 unfold ccells at HW1 X1 ⊢
 dsimp only at HT HC HV HVL HVM HS4 HS6 H6 H7 hn HW1 X1 ⊢
 rw [hn] at HV HVL X1 HW1 ⊢
 clear h hW1 hq0 hb1 hx1 hn h_costs h_check h_len h_vl h_self4 h_self6 h_every h_robust
 go_enter Tryz.func10, Tryz.ntmps10
 go_upto_region 1 with fail
 rw [HW1.out, HQ0.out]
 obtain ⟨c0, c1, c2, c3, c4, c5, c6, c7, c8, c9, c10, c11, c12⟩ := box13 X1.out
 go_upto_region 3 with ((with_reducible refine HT.out.mono ?_); rintro e w2 ⟨hb2, ⟨hk, _⟩ | ⟨_, p, g, cap, rfl, _⟩⟩; (rw [HC.out] at hk; cases hk); have B2 := Lib.hid hb2; have X2 := Lib.hid (X1.out.below hb2 X1.out.lt); clear hb2)
 clear c0 c1 c2 c3 c4 c5 c6 c7 c8 c9 c10 c11 c12
 obtain ⟨c0, c1, c2, c3, c4, c5, c6, c7, c8, c9, c10, c11, c12⟩ := box13 X2.out
 go_upto_region 4 with (first | ((with_reducible refine (HV.out w2 B2.out).mono ?_); rintro e w3 ⟨rfl, hb3⟩; have B3 := Lib.hid (B2.out.trans (hb3.mono B2.out.size)); have X3 := Lib.hid (X2.out.below hb3 X2.out.lt); clear hb3 c0 c1 c2 c3 c4 c5 c6 c7 c8 c9 c10 c11 c12; obtain ⟨c0, c1, c2, c3, c4, c5, c6, c7, c8, c9, c10, c11, c12⟩ := box13 X3.out) | ((with_reducible refine (HVL.out w3 B3.out).mono ?_); rintro e w4 ⟨v4, R4, rfl, hi4, hr4, hm4, _, hb4⟩; have B4 := Lib.hid (B3.out.trans (hb4.mono B3.out.size)); have X4 := Lib.hid (X3.out.below hb4 X3.out.lt); have hl4 := HVM.out R4 hr4 hm4; have hd4 : decide ((20 : Int) < (R4.length : Int)) = false := decide_eq_false (by omega); clear hl4; obtain ⟨_, _, _, lr, _, _⟩ := hi4.facts; clear hb4 hi4 hr4 hm4 c0 c1 c2 c3 c4 c5 c6 c7 c8 c9 c10 c11 c12; obtain ⟨c0, c1, c2, c3, c4, c5, c6, c7, c8, c9, c10, c11, c12⟩ := box13 X4.out))
 go_wp2_with (first | ((with_reducible refine (HS4.out _).mono ?_); rintro e w5 ⟨rfl, hb5⟩; have B5 := Lib.hid (B4.out.trans (hb5.mono B4.out.size)); have X5 := Lib.hid (X4.out.below hb5 X4.out.lt); clear hb5 c0 c1 c2 c3 c4 c5 c6 c7 c8 c9 c10 c11 c12; obtain ⟨c0, c1, c2, c3, c4, c5, c6, c7, c8, c9, c10, c11, c12⟩ := box13 X5.out) | ((with_reducible refine (HS6.out _).mono ?_); rintro e w6 ⟨rfl, hb6⟩; have B6 := Lib.hid (B5.out.trans (hb6.mono B5.out.size)); have X6 := Lib.hid (X5.out.below hb6 X5.out.lt); clear hb6 c0 c1 c2 c3 c4 c5 c6 c7 c8 c9 c10 c11 c12; obtain ⟨c0, c1, c2, c3, c4, c5, c6, c7, c8, c9, c10, c11, c12⟩ := box13 X6.out) | ((with_reducible refine (H6.out _).mono ?_); rintro e w7 ⟨rfl, hw7⟩; subst w7) | ((with_reducible refine (H7.out _).mono ?_); rintro e w7 ⟨rfl, hw7⟩; subst w7))
 go_ret
 exact ⟨rfl, B1.out.trans (B6.out.mono B1.out.size)⟩
set_option maxHeartbeats 8000000 in
theorem check_bad8 (R : Nat → Prop) (c : Cfg) (vc vp : Value) (w : World) (h : CfgIn w R c vc vp) (h_costs : costsOk c.costs = true) (h_check : vCheck c.ports = 0) (h_len : c.costs.length = c.ports.length) (h_vl : VlOk c.ports) (h_self4 : selfB c.self4 4 = true) (h_self6 : selfB c.self6 16 = true) (h_every : inBetween c.every 4 1000 = true) (h_robust : inBetween c.robust 1 7 = true) (h_member : inBetween c.member 1 1000 = false) :
 Calls Tryz.prog 10 #[encC c vc vp] w (RetNm 3 w) := by
 obtain ⟨W1, hW1⟩ : ∃ W, w.alloc (.cells (ccells c vc vp) 32) = W := ⟨_, rfl⟩
 obtain ⟨q0, hq0⟩ : ∃ q, w.heap.size = q := ⟨_, rfl⟩
 have hb1 : Below w.heap.size w W1 := by rw [← hW1]; exact (Below.refl _ _).alloc (Nat.le_refl _) _
 have hx1 : CBox W1 q0 32 (ccells c vc vp) := by rw [← hW1]; exact CBox.new _ hq0.symm
 have HT := Lib.hid (tnewt_any c.id vc c.costs W1 (h.costs.mono hb1))
 have HC := Lib.hid h_costs
 have HV := Lib.hid (fun W (hW : Below W1.heap.size W1 W) => vcheck_any R vp c.ports W ((h.ports.mono hb1).mono hW))
 rw [h_check] at HV
 obtain ⟨_, _, _, lc, _, _⟩ := h.costs.facts
 obtain ⟨_, _, _, lp, _, _⟩ := h.ports.facts
 rw [h_len] at lc
 have HVL := Lib.hid (fun W (hW : Below W1.heap.size W1 W) => vlans_any R vp c.ports W ((h.ports.mono hb1).mono hW) (by have := fine_len h_check; omega) (fine_lens h_check))
 have HVM := Lib.hid h_vl
 have HS4 := Lib.hid (fun W => isself_4 c.self4 W)
 rw [h_self4] at HS4
 have HS6 := Lib.hid (fun W => isself_16 c.self6 W)
 rw [h_self6] at HS6
 have H6 := Lib.hid (fun W => bwithin_any c.every 4 1000 W)
 rw [h_every] at H6
 have H7 := Lib.hid (fun W => bwithin_any c.robust 1 7 W)
 rw [h_robust] at H7
 have H8 := Lib.hid (fun W => bwithin_any c.member 1 1000 W)
 rw [h_member] at H8
 obtain ⟨ao, an, ac, rfl⟩ := h.costs.shape
 obtain ⟨bo, bc, rfl⟩ := h.ports.shape
 obtain ⟨n, hn⟩ : ∃ n, c.ports.length = n := ⟨_, rfl⟩
 rw [hn] at lc lp
 have X1 := Lib.hid hx1; have B1 := Lib.hid hb1; have HW1 := Lib.hid hW1; have HQ0 := Lib.hid hq0
 obtain ⟨id, costs, ports, s4, s6, ev, rb, me, la, ag, ro, fl, fa⟩ := c
 unfold encC
 unfold ccells at HW1 X1 ⊢
 dsimp only at HT HC HV HVL HVM HS4 HS6 H6 H7 H8 hn HW1 X1 ⊢
 rw [hn] at HV HVL X1 HW1 ⊢
 clear h hW1 hq0 hb1 hx1 hn h_costs h_check h_len h_vl h_self4 h_self6 h_every h_robust h_member
 go_enter Tryz.func10, Tryz.ntmps10
 go_upto_region 1 with fail
 rw [HW1.out, HQ0.out]
 obtain ⟨c0, c1, c2, c3, c4, c5, c6, c7, c8, c9, c10, c11, c12⟩ := box13 X1.out
 go_upto_region 3 with ((with_reducible refine HT.out.mono ?_); rintro e w2 ⟨hb2, ⟨hk, _⟩ | ⟨_, p, g, cap, rfl, _⟩⟩; (rw [HC.out] at hk; cases hk); have B2 := Lib.hid hb2; have X2 := Lib.hid (X1.out.below hb2 X1.out.lt); clear hb2)
 clear c0 c1 c2 c3 c4 c5 c6 c7 c8 c9 c10 c11 c12
 obtain ⟨c0, c1, c2, c3, c4, c5, c6, c7, c8, c9, c10, c11, c12⟩ := box13 X2.out
 go_upto_region 4 with (first | ((with_reducible refine (HV.out w2 B2.out).mono ?_); rintro e w3 ⟨rfl, hb3⟩; have B3 := Lib.hid (B2.out.trans (hb3.mono B2.out.size)); have X3 := Lib.hid (X2.out.below hb3 X2.out.lt); clear hb3 c0 c1 c2 c3 c4 c5 c6 c7 c8 c9 c10 c11 c12; obtain ⟨c0, c1, c2, c3, c4, c5, c6, c7, c8, c9, c10, c11, c12⟩ := box13 X3.out) | ((with_reducible refine (HVL.out w3 B3.out).mono ?_); rintro e w4 ⟨v4, R4, rfl, hi4, hr4, hm4, _, hb4⟩; have B4 := Lib.hid (B3.out.trans (hb4.mono B3.out.size)); have X4 := Lib.hid (X3.out.below hb4 X3.out.lt); have hl4 := HVM.out R4 hr4 hm4; have hd4 : decide ((20 : Int) < (R4.length : Int)) = false := decide_eq_false (by omega); clear hl4; obtain ⟨_, _, _, lr, _, _⟩ := hi4.facts; clear hb4 hi4 hr4 hm4 c0 c1 c2 c3 c4 c5 c6 c7 c8 c9 c10 c11 c12; obtain ⟨c0, c1, c2, c3, c4, c5, c6, c7, c8, c9, c10, c11, c12⟩ := box13 X4.out))
 go_wp2_with (first | ((with_reducible refine (HS4.out _).mono ?_); rintro e w5 ⟨rfl, hb5⟩; have B5 := Lib.hid (B4.out.trans (hb5.mono B4.out.size)); have X5 := Lib.hid (X4.out.below hb5 X4.out.lt); clear hb5 c0 c1 c2 c3 c4 c5 c6 c7 c8 c9 c10 c11 c12; obtain ⟨c0, c1, c2, c3, c4, c5, c6, c7, c8, c9, c10, c11, c12⟩ := box13 X5.out) | ((with_reducible refine (HS6.out _).mono ?_); rintro e w6 ⟨rfl, hb6⟩; have B6 := Lib.hid (B5.out.trans (hb6.mono B5.out.size)); have X6 := Lib.hid (X5.out.below hb6 X5.out.lt); clear hb6 c0 c1 c2 c3 c4 c5 c6 c7 c8 c9 c10 c11 c12; obtain ⟨c0, c1, c2, c3, c4, c5, c6, c7, c8, c9, c10, c11, c12⟩ := box13 X6.out) | ((with_reducible refine (H6.out _).mono ?_); rintro e w7 ⟨rfl, hw7⟩; subst w7) | ((with_reducible refine (H7.out _).mono ?_); rintro e w7 ⟨rfl, hw7⟩; subst w7) | ((with_reducible refine (H8.out _).mono ?_); rintro e w7 ⟨rfl, hw7⟩; subst w7))
 go_ret
 exact ⟨rfl, B1.out.trans (B6.out.mono B1.out.size)⟩
set_option maxHeartbeats 8000000 in
theorem check_bad9 (R : Nat → Prop) (c : Cfg) (vc vp : Value) (w : World) (h : CfgIn w R c vc vp) (h_costs : costsOk c.costs = true) (h_check : vCheck c.ports = 0) (h_len : c.costs.length = c.ports.length) (h_vl : VlOk c.ports) (h_self4 : selfB c.self4 4 = true) (h_self6 : selfB c.self6 16 = true) (h_every : inBetween c.every 4 1000 = true) (h_robust : inBetween c.robust 1 7 = true) (h_member : inBetween c.member 1 1000 = true) (h_last : inBetween c.last 1 1000 = false) :
 Calls Tryz.prog 10 #[encC c vc vp] w (RetNm 3 w) := by
 obtain ⟨W1, hW1⟩ : ∃ W, w.alloc (.cells (ccells c vc vp) 32) = W := ⟨_, rfl⟩
 obtain ⟨q0, hq0⟩ : ∃ q, w.heap.size = q := ⟨_, rfl⟩
 have hb1 : Below w.heap.size w W1 := by rw [← hW1]; exact (Below.refl _ _).alloc (Nat.le_refl _) _
 have hx1 : CBox W1 q0 32 (ccells c vc vp) := by rw [← hW1]; exact CBox.new _ hq0.symm
 have HT := Lib.hid (tnewt_any c.id vc c.costs W1 (h.costs.mono hb1))
 have HC := Lib.hid h_costs
 have HV := Lib.hid (fun W (hW : Below W1.heap.size W1 W) => vcheck_any R vp c.ports W ((h.ports.mono hb1).mono hW))
 rw [h_check] at HV
 obtain ⟨_, _, _, lc, _, _⟩ := h.costs.facts
 obtain ⟨_, _, _, lp, _, _⟩ := h.ports.facts
 rw [h_len] at lc
 have HVL := Lib.hid (fun W (hW : Below W1.heap.size W1 W) => vlans_any R vp c.ports W ((h.ports.mono hb1).mono hW) (by have := fine_len h_check; omega) (fine_lens h_check))
 have HVM := Lib.hid h_vl
 have HS4 := Lib.hid (fun W => isself_4 c.self4 W)
 rw [h_self4] at HS4
 have HS6 := Lib.hid (fun W => isself_16 c.self6 W)
 rw [h_self6] at HS6
 have H6 := Lib.hid (fun W => bwithin_any c.every 4 1000 W)
 rw [h_every] at H6
 have H7 := Lib.hid (fun W => bwithin_any c.robust 1 7 W)
 rw [h_robust] at H7
 have H8 := Lib.hid (fun W => bwithin_any c.member 1 1000 W)
 rw [h_member] at H8
 have H9 := Lib.hid (fun W => bwithin_any c.last 1 1000 W)
 rw [h_last] at H9
 obtain ⟨ao, an, ac, rfl⟩ := h.costs.shape
 obtain ⟨bo, bc, rfl⟩ := h.ports.shape
 obtain ⟨n, hn⟩ : ∃ n, c.ports.length = n := ⟨_, rfl⟩
 rw [hn] at lc lp
 have X1 := Lib.hid hx1; have B1 := Lib.hid hb1; have HW1 := Lib.hid hW1; have HQ0 := Lib.hid hq0
 obtain ⟨id, costs, ports, s4, s6, ev, rb, me, la, ag, ro, fl, fa⟩ := c
 unfold encC
 unfold ccells at HW1 X1 ⊢
 dsimp only at HT HC HV HVL HVM HS4 HS6 H6 H7 H8 H9 hn HW1 X1 ⊢
 rw [hn] at HV HVL X1 HW1 ⊢
 clear h hW1 hq0 hb1 hx1 hn h_costs h_check h_len h_vl h_self4 h_self6 h_every h_robust h_member h_last
 go_enter Tryz.func10, Tryz.ntmps10
 go_upto_region 1 with fail
 rw [HW1.out, HQ0.out]
 obtain ⟨c0, c1, c2, c3, c4, c5, c6, c7, c8, c9, c10, c11, c12⟩ := box13 X1.out
 go_upto_region 3 with ((with_reducible refine HT.out.mono ?_); rintro e w2 ⟨hb2, ⟨hk, _⟩ | ⟨_, p, g, cap, rfl, _⟩⟩; (rw [HC.out] at hk; cases hk); have B2 := Lib.hid hb2; have X2 := Lib.hid (X1.out.below hb2 X1.out.lt); clear hb2)
 clear c0 c1 c2 c3 c4 c5 c6 c7 c8 c9 c10 c11 c12
 obtain ⟨c0, c1, c2, c3, c4, c5, c6, c7, c8, c9, c10, c11, c12⟩ := box13 X2.out
 go_upto_region 4 with (first | ((with_reducible refine (HV.out w2 B2.out).mono ?_); rintro e w3 ⟨rfl, hb3⟩; have B3 := Lib.hid (B2.out.trans (hb3.mono B2.out.size)); have X3 := Lib.hid (X2.out.below hb3 X2.out.lt); clear hb3 c0 c1 c2 c3 c4 c5 c6 c7 c8 c9 c10 c11 c12; obtain ⟨c0, c1, c2, c3, c4, c5, c6, c7, c8, c9, c10, c11, c12⟩ := box13 X3.out) | ((with_reducible refine (HVL.out w3 B3.out).mono ?_); rintro e w4 ⟨v4, R4, rfl, hi4, hr4, hm4, _, hb4⟩; have B4 := Lib.hid (B3.out.trans (hb4.mono B3.out.size)); have X4 := Lib.hid (X3.out.below hb4 X3.out.lt); have hl4 := HVM.out R4 hr4 hm4; have hd4 : decide ((20 : Int) < (R4.length : Int)) = false := decide_eq_false (by omega); clear hl4; obtain ⟨_, _, _, lr, _, _⟩ := hi4.facts; clear hb4 hi4 hr4 hm4 c0 c1 c2 c3 c4 c5 c6 c7 c8 c9 c10 c11 c12; obtain ⟨c0, c1, c2, c3, c4, c5, c6, c7, c8, c9, c10, c11, c12⟩ := box13 X4.out))
 go_wp2_with (first | ((with_reducible refine (HS4.out _).mono ?_); rintro e w5 ⟨rfl, hb5⟩; have B5 := Lib.hid (B4.out.trans (hb5.mono B4.out.size)); have X5 := Lib.hid (X4.out.below hb5 X4.out.lt); clear hb5 c0 c1 c2 c3 c4 c5 c6 c7 c8 c9 c10 c11 c12; obtain ⟨c0, c1, c2, c3, c4, c5, c6, c7, c8, c9, c10, c11, c12⟩ := box13 X5.out) | ((with_reducible refine (HS6.out _).mono ?_); rintro e w6 ⟨rfl, hb6⟩; have B6 := Lib.hid (B5.out.trans (hb6.mono B5.out.size)); have X6 := Lib.hid (X5.out.below hb6 X5.out.lt); clear hb6 c0 c1 c2 c3 c4 c5 c6 c7 c8 c9 c10 c11 c12; obtain ⟨c0, c1, c2, c3, c4, c5, c6, c7, c8, c9, c10, c11, c12⟩ := box13 X6.out) | ((with_reducible refine (H6.out _).mono ?_); rintro e w7 ⟨rfl, hw7⟩; subst w7) | ((with_reducible refine (H7.out _).mono ?_); rintro e w7 ⟨rfl, hw7⟩; subst w7) | ((with_reducible refine (H8.out _).mono ?_); rintro e w7 ⟨rfl, hw7⟩; subst w7) | ((with_reducible refine (H9.out _).mono ?_); rintro e w7 ⟨rfl, hw7⟩; subst w7))
 go_ret
 exact ⟨rfl, B1.out.trans (B6.out.mono B1.out.size)⟩
set_option maxHeartbeats 8000000 in
theorem check_bad10 (R : Nat → Prop) (c : Cfg) (vc vp : Value) (w : World) (h : CfgIn w R c vc vp) (h_costs : costsOk c.costs = true) (h_check : vCheck c.ports = 0) (h_len : c.costs.length = c.ports.length) (h_vl : VlOk c.ports) (h_self4 : selfB c.self4 4 = true) (h_self6 : selfB c.self6 16 = true) (h_every : inBetween c.every 4 1000 = true) (h_robust : inBetween c.robust 1 7 = true) (h_member : inBetween c.member 1 1000 = true) (h_last : inBetween c.last 1 1000 = true) (h_age : inBetween c.age 1 10000 = false) :
 Calls Tryz.prog 10 #[encC c vc vp] w (RetNm 3 w) := by
 obtain ⟨W1, hW1⟩ : ∃ W, w.alloc (.cells (ccells c vc vp) 32) = W := ⟨_, rfl⟩
 obtain ⟨q0, hq0⟩ : ∃ q, w.heap.size = q := ⟨_, rfl⟩
 have hb1 : Below w.heap.size w W1 := by rw [← hW1]; exact (Below.refl _ _).alloc (Nat.le_refl _) _
 have hx1 : CBox W1 q0 32 (ccells c vc vp) := by rw [← hW1]; exact CBox.new _ hq0.symm
 have HT := Lib.hid (tnewt_any c.id vc c.costs W1 (h.costs.mono hb1))
 have HC := Lib.hid h_costs
 have HV := Lib.hid (fun W (hW : Below W1.heap.size W1 W) => vcheck_any R vp c.ports W ((h.ports.mono hb1).mono hW))
 rw [h_check] at HV
 obtain ⟨_, _, _, lc, _, _⟩ := h.costs.facts
 obtain ⟨_, _, _, lp, _, _⟩ := h.ports.facts
 rw [h_len] at lc
 have HVL := Lib.hid (fun W (hW : Below W1.heap.size W1 W) => vlans_any R vp c.ports W ((h.ports.mono hb1).mono hW) (by have := fine_len h_check; omega) (fine_lens h_check))
 have HVM := Lib.hid h_vl
 have HS4 := Lib.hid (fun W => isself_4 c.self4 W)
 rw [h_self4] at HS4
 have HS6 := Lib.hid (fun W => isself_16 c.self6 W)
 rw [h_self6] at HS6
 have H6 := Lib.hid (fun W => bwithin_any c.every 4 1000 W)
 rw [h_every] at H6
 have H7 := Lib.hid (fun W => bwithin_any c.robust 1 7 W)
 rw [h_robust] at H7
 have H8 := Lib.hid (fun W => bwithin_any c.member 1 1000 W)
 rw [h_member] at H8
 have H9 := Lib.hid (fun W => bwithin_any c.last 1 1000 W)
 rw [h_last] at H9
 have H10 := Lib.hid (fun W => bwithin_any c.age 1 10000 W)
 rw [h_age] at H10
 obtain ⟨ao, an, ac, rfl⟩ := h.costs.shape
 obtain ⟨bo, bc, rfl⟩ := h.ports.shape
 obtain ⟨n, hn⟩ : ∃ n, c.ports.length = n := ⟨_, rfl⟩
 rw [hn] at lc lp
 have X1 := Lib.hid hx1; have B1 := Lib.hid hb1; have HW1 := Lib.hid hW1; have HQ0 := Lib.hid hq0
 obtain ⟨id, costs, ports, s4, s6, ev, rb, me, la, ag, ro, fl, fa⟩ := c
 unfold encC
 unfold ccells at HW1 X1 ⊢
 dsimp only at HT HC HV HVL HVM HS4 HS6 H6 H7 H8 H9 H10 hn HW1 X1 ⊢
 rw [hn] at HV HVL X1 HW1 ⊢
 clear h hW1 hq0 hb1 hx1 hn h_costs h_check h_len h_vl h_self4 h_self6 h_every h_robust h_member h_last h_age
 go_enter Tryz.func10, Tryz.ntmps10
 go_upto_region 1 with fail
 rw [HW1.out, HQ0.out]
 obtain ⟨c0, c1, c2, c3, c4, c5, c6, c7, c8, c9, c10, c11, c12⟩ := box13 X1.out
 go_upto_region 3 with ((with_reducible refine HT.out.mono ?_); rintro e w2 ⟨hb2, ⟨hk, _⟩ | ⟨_, p, g, cap, rfl, _⟩⟩; (rw [HC.out] at hk; cases hk); have B2 := Lib.hid hb2; have X2 := Lib.hid (X1.out.below hb2 X1.out.lt); clear hb2)
 clear c0 c1 c2 c3 c4 c5 c6 c7 c8 c9 c10 c11 c12
 obtain ⟨c0, c1, c2, c3, c4, c5, c6, c7, c8, c9, c10, c11, c12⟩ := box13 X2.out
 go_upto_region 4 with (first | ((with_reducible refine (HV.out w2 B2.out).mono ?_); rintro e w3 ⟨rfl, hb3⟩; have B3 := Lib.hid (B2.out.trans (hb3.mono B2.out.size)); have X3 := Lib.hid (X2.out.below hb3 X2.out.lt); clear hb3 c0 c1 c2 c3 c4 c5 c6 c7 c8 c9 c10 c11 c12; obtain ⟨c0, c1, c2, c3, c4, c5, c6, c7, c8, c9, c10, c11, c12⟩ := box13 X3.out) | ((with_reducible refine (HVL.out w3 B3.out).mono ?_); rintro e w4 ⟨v4, R4, rfl, hi4, hr4, hm4, _, hb4⟩; have B4 := Lib.hid (B3.out.trans (hb4.mono B3.out.size)); have X4 := Lib.hid (X3.out.below hb4 X3.out.lt); have hl4 := HVM.out R4 hr4 hm4; have hd4 : decide ((20 : Int) < (R4.length : Int)) = false := decide_eq_false (by omega); clear hl4; obtain ⟨_, _, _, lr, _, _⟩ := hi4.facts; clear hb4 hi4 hr4 hm4 c0 c1 c2 c3 c4 c5 c6 c7 c8 c9 c10 c11 c12; obtain ⟨c0, c1, c2, c3, c4, c5, c6, c7, c8, c9, c10, c11, c12⟩ := box13 X4.out))
 go_wp2_with (first | ((with_reducible refine (HS4.out _).mono ?_); rintro e w5 ⟨rfl, hb5⟩; have B5 := Lib.hid (B4.out.trans (hb5.mono B4.out.size)); have X5 := Lib.hid (X4.out.below hb5 X4.out.lt); clear hb5 c0 c1 c2 c3 c4 c5 c6 c7 c8 c9 c10 c11 c12; obtain ⟨c0, c1, c2, c3, c4, c5, c6, c7, c8, c9, c10, c11, c12⟩ := box13 X5.out) | ((with_reducible refine (HS6.out _).mono ?_); rintro e w6 ⟨rfl, hb6⟩; have B6 := Lib.hid (B5.out.trans (hb6.mono B5.out.size)); have X6 := Lib.hid (X5.out.below hb6 X5.out.lt); clear hb6 c0 c1 c2 c3 c4 c5 c6 c7 c8 c9 c10 c11 c12; obtain ⟨c0, c1, c2, c3, c4, c5, c6, c7, c8, c9, c10, c11, c12⟩ := box13 X6.out) | ((with_reducible refine (H6.out _).mono ?_); rintro e w7 ⟨rfl, hw7⟩; subst w7) | ((with_reducible refine (H7.out _).mono ?_); rintro e w7 ⟨rfl, hw7⟩; subst w7) | ((with_reducible refine (H8.out _).mono ?_); rintro e w7 ⟨rfl, hw7⟩; subst w7) | ((with_reducible refine (H9.out _).mono ?_); rintro e w7 ⟨rfl, hw7⟩; subst w7) | ((with_reducible refine (H10.out _).mono ?_); rintro e w7 ⟨rfl, hw7⟩; subst w7))
 go_ret
 exact ⟨rfl, B1.out.trans (B6.out.mono B1.out.size)⟩
set_option maxHeartbeats 8000000 in
theorem check_bad11 (R : Nat → Prop) (c : Cfg) (vc vp : Value) (w : World) (h : CfgIn w R c vc vp) (h_costs : costsOk c.costs = true) (h_check : vCheck c.ports = 0) (h_len : c.costs.length = c.ports.length) (h_vl : VlOk c.ports) (h_self4 : selfB c.self4 4 = true) (h_self6 : selfB c.self6 16 = true) (h_every : inBetween c.every 4 1000 = true) (h_robust : inBetween c.robust 1 7 = true) (h_member : inBetween c.member 1 1000 = true) (h_last : inBetween c.last 1 1000 = true) (h_age : inBetween c.age 1 10000 = true) (h_room : inBetween c.room 1 1000 = false) :
 Calls Tryz.prog 10 #[encC c vc vp] w (RetNm 3 w) := by
 obtain ⟨W1, hW1⟩ : ∃ W, w.alloc (.cells (ccells c vc vp) 32) = W := ⟨_, rfl⟩
 obtain ⟨q0, hq0⟩ : ∃ q, w.heap.size = q := ⟨_, rfl⟩
 have hb1 : Below w.heap.size w W1 := by rw [← hW1]; exact (Below.refl _ _).alloc (Nat.le_refl _) _
 have hx1 : CBox W1 q0 32 (ccells c vc vp) := by rw [← hW1]; exact CBox.new _ hq0.symm
 have HT := Lib.hid (tnewt_any c.id vc c.costs W1 (h.costs.mono hb1))
 have HC := Lib.hid h_costs
 have HV := Lib.hid (fun W (hW : Below W1.heap.size W1 W) => vcheck_any R vp c.ports W ((h.ports.mono hb1).mono hW))
 rw [h_check] at HV
 obtain ⟨_, _, _, lc, _, _⟩ := h.costs.facts
 obtain ⟨_, _, _, lp, _, _⟩ := h.ports.facts
 rw [h_len] at lc
 have HVL := Lib.hid (fun W (hW : Below W1.heap.size W1 W) => vlans_any R vp c.ports W ((h.ports.mono hb1).mono hW) (by have := fine_len h_check; omega) (fine_lens h_check))
 have HVM := Lib.hid h_vl
 have HS4 := Lib.hid (fun W => isself_4 c.self4 W)
 rw [h_self4] at HS4
 have HS6 := Lib.hid (fun W => isself_16 c.self6 W)
 rw [h_self6] at HS6
 have H6 := Lib.hid (fun W => bwithin_any c.every 4 1000 W)
 rw [h_every] at H6
 have H7 := Lib.hid (fun W => bwithin_any c.robust 1 7 W)
 rw [h_robust] at H7
 have H8 := Lib.hid (fun W => bwithin_any c.member 1 1000 W)
 rw [h_member] at H8
 have H9 := Lib.hid (fun W => bwithin_any c.last 1 1000 W)
 rw [h_last] at H9
 have H10 := Lib.hid (fun W => bwithin_any c.age 1 10000 W)
 rw [h_age] at H10
 have H11 := Lib.hid (fun W => bwithin_any c.room 1 1000 W)
 rw [h_room] at H11
 obtain ⟨ao, an, ac, rfl⟩ := h.costs.shape
 obtain ⟨bo, bc, rfl⟩ := h.ports.shape
 obtain ⟨n, hn⟩ : ∃ n, c.ports.length = n := ⟨_, rfl⟩
 rw [hn] at lc lp
 have X1 := Lib.hid hx1; have B1 := Lib.hid hb1; have HW1 := Lib.hid hW1; have HQ0 := Lib.hid hq0
 obtain ⟨id, costs, ports, s4, s6, ev, rb, me, la, ag, ro, fl, fa⟩ := c
 unfold encC
 unfold ccells at HW1 X1 ⊢
 dsimp only at HT HC HV HVL HVM HS4 HS6 H6 H7 H8 H9 H10 H11 hn HW1 X1 ⊢
 rw [hn] at HV HVL X1 HW1 ⊢
 clear h hW1 hq0 hb1 hx1 hn h_costs h_check h_len h_vl h_self4 h_self6 h_every h_robust h_member h_last h_age h_room
 go_enter Tryz.func10, Tryz.ntmps10
 go_upto_region 1 with fail
 rw [HW1.out, HQ0.out]
 obtain ⟨c0, c1, c2, c3, c4, c5, c6, c7, c8, c9, c10, c11, c12⟩ := box13 X1.out
 go_upto_region 3 with ((with_reducible refine HT.out.mono ?_); rintro e w2 ⟨hb2, ⟨hk, _⟩ | ⟨_, p, g, cap, rfl, _⟩⟩; (rw [HC.out] at hk; cases hk); have B2 := Lib.hid hb2; have X2 := Lib.hid (X1.out.below hb2 X1.out.lt); clear hb2)
 clear c0 c1 c2 c3 c4 c5 c6 c7 c8 c9 c10 c11 c12
 obtain ⟨c0, c1, c2, c3, c4, c5, c6, c7, c8, c9, c10, c11, c12⟩ := box13 X2.out
 go_upto_region 4 with (first | ((with_reducible refine (HV.out w2 B2.out).mono ?_); rintro e w3 ⟨rfl, hb3⟩; have B3 := Lib.hid (B2.out.trans (hb3.mono B2.out.size)); have X3 := Lib.hid (X2.out.below hb3 X2.out.lt); clear hb3 c0 c1 c2 c3 c4 c5 c6 c7 c8 c9 c10 c11 c12; obtain ⟨c0, c1, c2, c3, c4, c5, c6, c7, c8, c9, c10, c11, c12⟩ := box13 X3.out) | ((with_reducible refine (HVL.out w3 B3.out).mono ?_); rintro e w4 ⟨v4, R4, rfl, hi4, hr4, hm4, _, hb4⟩; have B4 := Lib.hid (B3.out.trans (hb4.mono B3.out.size)); have X4 := Lib.hid (X3.out.below hb4 X3.out.lt); have hl4 := HVM.out R4 hr4 hm4; have hd4 : decide ((20 : Int) < (R4.length : Int)) = false := decide_eq_false (by omega); clear hl4; obtain ⟨_, _, _, lr, _, _⟩ := hi4.facts; clear hb4 hi4 hr4 hm4 c0 c1 c2 c3 c4 c5 c6 c7 c8 c9 c10 c11 c12; obtain ⟨c0, c1, c2, c3, c4, c5, c6, c7, c8, c9, c10, c11, c12⟩ := box13 X4.out))
 go_wp2_with (first | ((with_reducible refine (HS4.out _).mono ?_); rintro e w5 ⟨rfl, hb5⟩; have B5 := Lib.hid (B4.out.trans (hb5.mono B4.out.size)); have X5 := Lib.hid (X4.out.below hb5 X4.out.lt); clear hb5 c0 c1 c2 c3 c4 c5 c6 c7 c8 c9 c10 c11 c12; obtain ⟨c0, c1, c2, c3, c4, c5, c6, c7, c8, c9, c10, c11, c12⟩ := box13 X5.out) | ((with_reducible refine (HS6.out _).mono ?_); rintro e w6 ⟨rfl, hb6⟩; have B6 := Lib.hid (B5.out.trans (hb6.mono B5.out.size)); have X6 := Lib.hid (X5.out.below hb6 X5.out.lt); clear hb6 c0 c1 c2 c3 c4 c5 c6 c7 c8 c9 c10 c11 c12; obtain ⟨c0, c1, c2, c3, c4, c5, c6, c7, c8, c9, c10, c11, c12⟩ := box13 X6.out) | ((with_reducible refine (H6.out _).mono ?_); rintro e w7 ⟨rfl, hw7⟩; subst w7) | ((with_reducible refine (H7.out _).mono ?_); rintro e w7 ⟨rfl, hw7⟩; subst w7) | ((with_reducible refine (H8.out _).mono ?_); rintro e w7 ⟨rfl, hw7⟩; subst w7) | ((with_reducible refine (H9.out _).mono ?_); rintro e w7 ⟨rfl, hw7⟩; subst w7) | ((with_reducible refine (H10.out _).mono ?_); rintro e w7 ⟨rfl, hw7⟩; subst w7) | ((with_reducible refine (H11.out _).mono ?_); rintro e w7 ⟨rfl, hw7⟩; subst w7))
 go_ret
 exact ⟨rfl, B1.out.trans (B6.out.mono B1.out.size)⟩
set_option maxHeartbeats 8000000 in
theorem check_good0 (R : Nat → Prop) (c : Cfg) (vc vp : Value) (w : World) (h : CfgIn w R c vc vp) (h_costs : costsOk c.costs = true) (h_check : vCheck c.ports = 0) (h_len : c.costs.length = c.ports.length) (h_vl : VlOk c.ports) (h_self4 : selfB c.self4 4 = true) (h_self6 : selfB c.self6 16 = true) (h_every : inBetween c.every 4 1000 = true) (h_robust : inBetween c.robust 1 7 = true) (h_member : inBetween c.member 1 1000 = true) (h_last : inBetween c.last 1 1000 = true) (h_age : inBetween c.age 1 10000 = true) (h_room : inBetween c.room 1 1000 = true) :
 Calls Tryz.prog 10 #[encC c vc vp] w (RetNm 0 w) := by
 obtain ⟨W1, hW1⟩ : ∃ W, w.alloc (.cells (ccells c vc vp) 32) = W := ⟨_, rfl⟩
 obtain ⟨q0, hq0⟩ : ∃ q, w.heap.size = q := ⟨_, rfl⟩
 have hb1 : Below w.heap.size w W1 := by rw [← hW1]; exact (Below.refl _ _).alloc (Nat.le_refl _) _
 have hx1 : CBox W1 q0 32 (ccells c vc vp) := by rw [← hW1]; exact CBox.new _ hq0.symm
 have HT := Lib.hid (tnewt_any c.id vc c.costs W1 (h.costs.mono hb1))
 have HC := Lib.hid h_costs
 have HV := Lib.hid (fun W (hW : Below W1.heap.size W1 W) => vcheck_any R vp c.ports W ((h.ports.mono hb1).mono hW))
 rw [h_check] at HV
 obtain ⟨_, _, _, lc, _, _⟩ := h.costs.facts
 obtain ⟨_, _, _, lp, _, _⟩ := h.ports.facts
 rw [h_len] at lc
 have HVL := Lib.hid (fun W (hW : Below W1.heap.size W1 W) => vlans_any R vp c.ports W ((h.ports.mono hb1).mono hW) (by have := fine_len h_check; omega) (fine_lens h_check))
 have HVM := Lib.hid h_vl
 have HS4 := Lib.hid (fun W => isself_4 c.self4 W)
 rw [h_self4] at HS4
 have HS6 := Lib.hid (fun W => isself_16 c.self6 W)
 rw [h_self6] at HS6
 have H6 := Lib.hid (fun W => bwithin_any c.every 4 1000 W)
 rw [h_every] at H6
 have H7 := Lib.hid (fun W => bwithin_any c.robust 1 7 W)
 rw [h_robust] at H7
 have H8 := Lib.hid (fun W => bwithin_any c.member 1 1000 W)
 rw [h_member] at H8
 have H9 := Lib.hid (fun W => bwithin_any c.last 1 1000 W)
 rw [h_last] at H9
 have H10 := Lib.hid (fun W => bwithin_any c.age 1 10000 W)
 rw [h_age] at H10
 have H11 := Lib.hid (fun W => bwithin_any c.room 1 1000 W)
 rw [h_room] at H11
 obtain ⟨ao, an, ac, rfl⟩ := h.costs.shape
 obtain ⟨bo, bc, rfl⟩ := h.ports.shape
 obtain ⟨n, hn⟩ : ∃ n, c.ports.length = n := ⟨_, rfl⟩
 rw [hn] at lc lp
 have X1 := Lib.hid hx1; have B1 := Lib.hid hb1; have HW1 := Lib.hid hW1; have HQ0 := Lib.hid hq0
 obtain ⟨id, costs, ports, s4, s6, ev, rb, me, la, ag, ro, fl, fa⟩ := c
 unfold encC
 unfold ccells at HW1 X1 ⊢
 dsimp only at HT HC HV HVL HVM HS4 HS6 H6 H7 H8 H9 H10 H11 hn HW1 X1 ⊢
 rw [hn] at HV HVL X1 HW1 ⊢
 clear h hW1 hq0 hb1 hx1 hn h_costs h_check h_len h_vl h_self4 h_self6 h_every h_robust h_member h_last h_age h_room
 go_enter Tryz.func10, Tryz.ntmps10
 go_upto_region 1 with fail
 rw [HW1.out, HQ0.out]
 obtain ⟨c0, c1, c2, c3, c4, c5, c6, c7, c8, c9, c10, c11, c12⟩ := box13 X1.out
 go_upto_region 3 with ((with_reducible refine HT.out.mono ?_); rintro e w2 ⟨hb2, ⟨hk, _⟩ | ⟨_, p, g, cap, rfl, _⟩⟩; (rw [HC.out] at hk; cases hk); have B2 := Lib.hid hb2; have X2 := Lib.hid (X1.out.below hb2 X1.out.lt); clear hb2)
 clear c0 c1 c2 c3 c4 c5 c6 c7 c8 c9 c10 c11 c12
 obtain ⟨c0, c1, c2, c3, c4, c5, c6, c7, c8, c9, c10, c11, c12⟩ := box13 X2.out
 go_upto_region 4 with (first | ((with_reducible refine (HV.out w2 B2.out).mono ?_); rintro e w3 ⟨rfl, hb3⟩; have B3 := Lib.hid (B2.out.trans (hb3.mono B2.out.size)); have X3 := Lib.hid (X2.out.below hb3 X2.out.lt); clear hb3 c0 c1 c2 c3 c4 c5 c6 c7 c8 c9 c10 c11 c12; obtain ⟨c0, c1, c2, c3, c4, c5, c6, c7, c8, c9, c10, c11, c12⟩ := box13 X3.out) | ((with_reducible refine (HVL.out w3 B3.out).mono ?_); rintro e w4 ⟨v4, R4, rfl, hi4, hr4, hm4, _, hb4⟩; have B4 := Lib.hid (B3.out.trans (hb4.mono B3.out.size)); have X4 := Lib.hid (X3.out.below hb4 X3.out.lt); have hl4 := HVM.out R4 hr4 hm4; have hd4 : decide ((20 : Int) < (R4.length : Int)) = false := decide_eq_false (by omega); clear hl4; obtain ⟨_, _, _, lr, _, _⟩ := hi4.facts; clear hb4 hi4 hr4 hm4 c0 c1 c2 c3 c4 c5 c6 c7 c8 c9 c10 c11 c12; obtain ⟨c0, c1, c2, c3, c4, c5, c6, c7, c8, c9, c10, c11, c12⟩ := box13 X4.out))
 go_wp2_with (first | ((with_reducible refine (HS4.out _).mono ?_); rintro e w5 ⟨rfl, hb5⟩; have B5 := Lib.hid (B4.out.trans (hb5.mono B4.out.size)); have X5 := Lib.hid (X4.out.below hb5 X4.out.lt); clear hb5 c0 c1 c2 c3 c4 c5 c6 c7 c8 c9 c10 c11 c12; obtain ⟨c0, c1, c2, c3, c4, c5, c6, c7, c8, c9, c10, c11, c12⟩ := box13 X5.out) | ((with_reducible refine (HS6.out _).mono ?_); rintro e w6 ⟨rfl, hb6⟩; have B6 := Lib.hid (B5.out.trans (hb6.mono B5.out.size)); have X6 := Lib.hid (X5.out.below hb6 X5.out.lt); clear hb6 c0 c1 c2 c3 c4 c5 c6 c7 c8 c9 c10 c11 c12; obtain ⟨c0, c1, c2, c3, c4, c5, c6, c7, c8, c9, c10, c11, c12⟩ := box13 X6.out) | ((with_reducible refine (H6.out _).mono ?_); rintro e w7 ⟨rfl, hw7⟩; subst w7) | ((with_reducible refine (H7.out _).mono ?_); rintro e w7 ⟨rfl, hw7⟩; subst w7) | ((with_reducible refine (H8.out _).mono ?_); rintro e w7 ⟨rfl, hw7⟩; subst w7) | ((with_reducible refine (H9.out _).mono ?_); rintro e w7 ⟨rfl, hw7⟩; subst w7) | ((with_reducible refine (H10.out _).mono ?_); rintro e w7 ⟨rfl, hw7⟩; subst w7) | ((with_reducible refine (H11.out _).mono ?_); rintro e w7 ⟨rfl, hw7⟩; subst w7))
 go_ret
 exact ⟨rfl, B1.out.trans (B6.out.mono B1.out.size)⟩
theorem check_good (R : Nat → Prop) (c : Cfg) (vc vp : Value) (w : World) (h : CfgIn w R c vc vp) (ok : CfgOk c) :
 Calls Tryz.prog 10 #[encC c vc vp] w (RetNm 0 w) :=
 check_good0 R c vc vp w h ok.costs ok.check ok.len ok.vl ok.self4 ok.self6 ok.every ok.robust ok.member ok.last ok.age ok.room
theorem check_bad (R : Nat → Prop) (c : Cfg) (vc vp : Value) (w : World) (h : CfgIn w R c vc vp) (no : ¬ CfgOk c) :
 Calls Tryz.prog 10 #[encC c vc vp] w (RetNm 3 w) := by
 cases h_costs : costsOk c.costs
 · exact check_bad0 R c vc vp w h h_costs
 by_cases h_check : vCheck c.ports = 0
 rotate_left
 · exact check_bad1 R c vc vp w h h_costs (vCheck_bad h_check)
 by_cases h_len : c.costs.length = c.ports.length
 rotate_left
 · exact check_bad2 R c vc vp w h h_costs h_check h_len
 by_cases h_vl : VlOk c.ports
 rotate_left
 · exact check_bad3 R c vc vp w h h_costs h_check h_len h_vl
 cases h_self4 : selfB c.self4 4
 · exact check_bad4 R c vc vp w h h_costs h_check h_len h_vl h_self4
 cases h_self6 : selfB c.self6 16
 · exact check_bad5 R c vc vp w h h_costs h_check h_len h_vl h_self4 h_self6
 cases h_every : inBetween c.every 4 1000
 · exact check_bad6 R c vc vp w h h_costs h_check h_len h_vl h_self4 h_self6 h_every
 cases h_robust : inBetween c.robust 1 7
 · exact check_bad7 R c vc vp w h h_costs h_check h_len h_vl h_self4 h_self6 h_every h_robust
 cases h_member : inBetween c.member 1 1000
 · exact check_bad8 R c vc vp w h h_costs h_check h_len h_vl h_self4 h_self6 h_every h_robust h_member
 cases h_last : inBetween c.last 1 1000
 · exact check_bad9 R c vc vp w h h_costs h_check h_len h_vl h_self4 h_self6 h_every h_robust h_member h_last
 cases h_age : inBetween c.age 1 10000
 · exact check_bad10 R c vc vp w h h_costs h_check h_len h_vl h_self4 h_self6 h_every h_robust h_member h_last h_age
 cases h_room : inBetween c.room 1 1000
 · exact check_bad11 R c vc vp w h h_costs h_check h_len h_vl h_self4 h_self6 h_every h_robust h_member h_last h_age h_room
 exact absurd ⟨h_costs, h_check, h_len, h_vl, h_self4, h_self6, h_every, h_robust, h_member, h_last, h_age, h_room⟩ no
end Go.Proofs.YthcdppppppgckaaGreatDoor
