/- forward.which, for every slice and every closure that tells a plain predicate: what it hands back is the list that 'canon' is. -/
import Derived.Test.YtmjpjpdgejpeeaaPlain
import Derived.Test.YtmjpjpdgejpeeaaInts
import Derived.Sort.OwnSortedInts
namespace Go.Proofs.Ytmjpjpdgejpeeaa
open Go.RowKit Go.Sort

theorem wpList_set_store (w : World) {ops : Array Oper} {rest : List Oper} {o : Oper} {a : Act} {Q : Exit → Act → World → Prop}
    (hg : o.guard = none) (m x v : Operand) (hop : o.op = Op.mapUpdate 40 m x v) (b n : Nat) (S : List Int)
    (hm : a.eval m = .map (some b)) (h : IntSet w b n S) (hn : n < maxLen) (y : Int) (hy : (Lit.int .i64 y).wf = true) (hx : a.eval x = .int .i64 y) (hv : a.eval v = .bool true)
    (hK : ∀ w', IntSet w' b (n + 1) (S ++ [y]) → w.grownBy w' (some b) → wpList Try.prog ops Q rest (a.put o.dst undef) w') :
    wpList Try.prog ops Q (o :: rest) a w := by
  obtain ⟨D, hown, hS⟩ := h
  refine wpList_mapUpdate_own w hg m x v 40 hop 3 4 lawI Try.underlying40 _ b n D hm hown hn _ _ (.int .i64 y) hx hv
    (Maps.keyOf_int_mk Try.underlying3 hy) (.lit (.bool true)) [] (plainElem_bool Try.underlying4 true) ?_
  intro w' h1 h2
  refine hK w' ⟨_, h1, fun z hz => ?_⟩ h2
  by_cases e : z = y
  · subst e
    rw [Maps.atKey_put_same hown.isMap (by simp [WideAt.IsKeyLit])]
    simp
  · rw [Maps.atKey_put_other (by intro h; injection h with _ h; exact e h), hS z hz]
    simp [e]

/-- a call that hands back a slice of the ints L, and writes nothing that was there -/
def RetInts (w : World) (L : List Int) (e : Ending) (w' : World) : Prop := ∃ v, e = .returned v ∧ Ints w' v L ∧ Below w.heap.size w w'

theorem info3 : (Try.prog.info? 3).map (fun i => (i.zero, i.size, i.bytes)) = some (some (.int .i64 0), 1, 8) := by kernel_rfl

set_option maxHeartbeats 1000000 in
theorem which_any (v : Value) (L : List Int) (f pc : Nat) (p : Int → Bool) (w : World) (h : Ints w v L) (hcf : ∀ args w', (callFunc f args).run Try.prog w' = .ok (.enter f args) w')
    (hf : ∀ x w', Below w.heap.size w w' → Calls Try.prog f #[.int .i64 x, .pointer (some ⟨pc, 0, none⟩)] w' fun e w'' => e = .returned (.bool (p x)) ∧ w' = w'') :
    Calls Try.prog 19 #[v, .func (.func f) #[] #[.pointer (some ⟨pc, 0, none⟩)]] w (RetInts w (canon p L)) := by
  obtain ⟨b, off, hm, hlen, hidx, hc⟩ := h.facts
  have hwf := h.wf
  clear h
  obtain ⟨i0, hi, hz0, hz1, hz2⟩ := info_parts info3
  have hmm := @run_makeMap Try.prog
  have HF := Lib.hid hf; clear hf
  go_enter Try.func19, Try.ntmps19
  go_wp2
  go_loopw [6, 12] (fun o i wr => ∃ k : Nat, k ≤ L.length ∧ i = .int .i64 k ∧ wr.ownsRow (w.heap.size + 1) 3 1 o (gather p (L.take k)).length ((gather p (L.take k)).map (Value.int .i64)) ∧
      IntSet wr w.heap.size k (gather p (L.take k)) ∧ Below w.heap.size w wr ∧ w.heap.size + 1 ≤ wr.heap.size) (fun _ i _ => L.length - (intOf i).toNat)
  case atStart => exact ⟨0, Nat.zero_le _, rfl, World.ownsRow_nil _ _ _ _, IntSet.made w, (Below.refl _ _).alloc (Nat.le_refl _) _, by simp⟩
  case round =>
    obtain ⟨k, hk, rfl, hown, hset, hbel, hsz⟩ := hrel
    by_cases hlt : k < L.length
    · have hp := hidx k hlt
      have hcell := (hbel.cell (p := ⟨b, off + k, none⟩) (hc k hlt).1).trans (hc k hlt).2
      have hwk : (Lit.int .i64 (L.getD k 0)).wf = true := hwf _ (by simp [List.getD_eq_getElem?_getD, hlt])
      obtain ⟨x, hx⟩ : ∃ x, x = L.getD k 0 := ⟨_, rfl⟩
      rw [← hx] at hcell hwk
      have hxk : L[k] = x := by rw [hx]; simp [List.getD_eq_getElem?_getD, hlt]
      have HT : Hid (L.take (k + 1) = L.take k ++ [x]) := by rw [take_snoc L k hlt, hxk]; rfl
      have HG := Lib.hid (gather_snoc p (L.take k) x)
      have hgl := gather_length p (L.take k)
      have hlk := hset.look hwk
      have hkm : k < maxLen := by unfold maxLen; omega
      clear hidx hc hx hxk hwf
      by_cases hct : (gather p (L.take k)).contains x = true
      · rw [hct] at hlk
        have HS : Hid (gather p (L.take (k + 1)) = gather p (L.take k)) := by rw [HT.out, HG.out, hct]; rfl
        go_wp2
        go_roundw
        case rel => exact ⟨k + 1, by omega, by go_num, by rw [HS.out]; exact hown, by rw [HS.out]; exact hset.mono (Nat.le_succ _), hbel, hsz⟩
        case measure => simp [intOf]; omega
      · have hcf : (gather p (L.take k)).contains x = false := by simpa using hct
        rw [hcf] at hlk
        clear hct
        by_cases hpx : p x = true
        · have HS : Hid (gather p (L.take (k + 1)) = gather p (L.take k) ++ [x]) := by rw [HT.out, HG.out, hcf, hpx]; rfl
          clear hcf
          have hc3 : (gather p (L.take k)).length + 1 ≤ maxLen := by rw [List.length_take] at hgl; unfold maxLen; omega
          have hc4 : ((gather p (L.take k)).length + 1) * 8 ≤ 140737488355328 := by rw [List.length_take] at hgl; omega
          clear hgl
          go_wp2_with (first | (at_mapUpdate; refine wpList_set_store _ rfl _ _ _ rfl w.heap.size k (gather p (L.take k)) rfl hset hkm x hwk rfl rfl ?_; intro w1 hset1 hg1; have hown1 := hown.kept hg1 (own_ne hown (Nat.lt_succ_self _)); have hsz1 := Nat.le_trans hsz hg1.size) | ((with_reducible refine (HF.out x _ hbel).mono ?_); rintro e w' ⟨rfl, rfl⟩) | (at_builtin; refine wpList_append_own _ rfl _ _ 22 rfl (w.heap.size + 1) 3 i0 (.int .i64 0) 1 8 Try.underlying22 hi hz0 hz1 hz2 rfl (by decide) _ _ _ rfl (hown1.alloc _) ⟨w1.heap.size, 0, none⟩ 1 1 [.int .i64 x] rfl rfl (cell_one_new _ _ _) (ints_oneCell .i64 [x]) hc3 hc4 (by simp; omega) ?_; intro v' w2 hown2 hg2 _))
          go_roundw
          case rel =>
            have hg2' : (w1.alloc (.cells #[.int .i64 x] 3)).grownBy w2 u6.ownBlock := hg2
            have hga := World.grownBy_alloc w1 (.cells #[.int .i64 x] 3) none
            have hne : some w.heap.size ≠ u6.ownBlock := fun e => by have := hown1.lt _ e.symm; omega
            have hb1 := hbel.grown hg1 hbel.size (fun j hj => by cases hj; exact Nat.le_refl _)
            have hs1 : w.heap.size ≤ w1.heap.size := hb1.size
            refine ⟨k + 1, by omega, by go_num, ?_, ?_, ?_, ?_⟩
            · rw [HS.out, List.length_append, List.map_append]; exact hown2
            · rw [HS.out]; exact (hset1.kept hga (by simp)).kept hg2' hne
            · exact below_own (hb1.alloc hs1 _) (hown1.alloc _) (Nat.le_succ _) (by simp; omega) hg2'
            · have := hg2'.size; simp at this; omega
          case measure => simp [intOf]; omega
        · have hpf : p x = false := by simpa using hpx
          have HS : Hid (gather p (L.take (k + 1)) = gather p (L.take k)) := by rw [HT.out, HG.out, hcf, hpf]; rfl
          clear hpx hcf
          go_wp2_with ((with_reducible refine (HF.out x _ hbel).mono ?_); rintro e w' ⟨rfl, rfl⟩)
          go_roundw
          case rel => exact ⟨k + 1, by omega, by go_num, by rw [HS.out]; exact hown, by rw [HS.out]; exact hset.mono (Nat.le_succ _), hbel, hsz⟩
          case measure => simp [intOf]; omega
    · have HL : Hid (L.take k = L) := List.take_of_length_le (by omega)
      rw [HL.out] at hown
      have hgl := gather_length p L
      clear hidx hc hset
      have hwg : ∀ x ∈ canon p L, (Lit.int .i64 x).wf = true := fun x hx => hwf x ((canon_mem p L x).1 hx).1
      have hcl : (canon p L).length ≤ 17592186044416 := Nat.le_trans (canon_length p L) hm
      have HWG := Lib.hid hwg
      clear hwg hwf
      rcases hown.2 with ⟨rfl, h0⟩ | ⟨g, cap, cur, rfl, hbase, hb, h1, h2, h3, h4⟩
      · have HE := Lib.hid (show canon p L = [] from by rw [canon, List.length_eq_zero_iff.1 h0]; simp)
        clear hown h0
        go_wp2_with (go_at_call 25; refine (Try.slices_Sort_int_none _ _ _).mono ?_; rintro e w' ⟨rfl, rfl⟩)
        go_ret
        exact ⟨_, rfl, by rw [HE.out]; exact Ints.nil _, hbel⟩
      · have hH := holds_of_blockI (ss := gather p L) hb (by simpa using h4)
        have hgl2 := (Array.getElem?_eq_some_iff.1 hb).1
        have HO := Lib.hid hown
        have HB := Lib.hid hb
        have H4 := Lib.hid h4
        have H3 := Lib.hid h3
        clear hown hb h4 h3
        go_wp2_with (go_at_call 25; refine (Try.slices_Sort_int g 0 cap (gather p L) _ hH hgl2 (by omega)).mono ?_; rintro e w' ⟨rfl, nn, os, rfl⟩)
        go_ret
        refine ⟨_, rfl, ?_, hbel.grown (grownBy_sortedI _) hbel.size (fun j hj => by cases hj; omega)⟩
        have hl : (canon p L).length = (gather p L).length := by simp [canon]
        have := ownsRow_sortedI (n := nn) (os := os) hl hbase HB.out h1 h2 H3.out
        rw [← hl] at this ⊢
        exact Ints.own this hcl HWG.out
end Go.Proofs.Ytmjpjpdgejpeeaa
