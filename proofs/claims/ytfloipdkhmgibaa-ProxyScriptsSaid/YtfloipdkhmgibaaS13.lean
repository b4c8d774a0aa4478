/- Texts joined into one file: GRef1, GPut, GPutW. -/
import Derived.Test.YtfloipdkhmgibaaS12
import Derived.Test.YtfloipdkhmgibaaS07

/- siphonref17.Names, at. -/
namespace Go.Proofs.Ytfloipdkhmgibaa
open Go.RowKit Go.Lib Go.Maps Go.Sort
set_option maxRecDepth 20000

def nmL (L : List Tmd) (blk : Bool) : List Str := (L.filter fun t => (t.2 == 0) == blk).map Prod.fst
theorem nmL_snoc (L : List Tmd) (blk : Bool) (k : Nat) (h : k < L.length) : nmL (L.take (k + 1)) blk = nmL (L.take k) blk ++ (if (L[k].2 == 0) == blk then [L[k].1] else []) := by
  unfold nmL
  rw [take_snoc L k h, List.filter_append, List.map_append, List.filter_cons, List.filter_nil]
  split <;> rfl
theorem nmL_len (L : List Tmd) (blk : Bool) : (nmL L blk).length ≤ L.length := by unfold nmL; rw [List.length_map]; exact List.length_filter_le _ _

set_option maxHeartbeats 4000000 in
theorem rnames_any (ex : Bool) (at' : Int) (v : Value) (L : List Tmd) (blk : Bool) (w : World) (h : Tms w v L) :
    Calls Try.prog 31 #[.agg #[.bool ex, .int .i64 at', v], .bool blk] w (RetStrs w (nmL L blk)) := by
  obtain ⟨ao, cap, rfl⟩ := h.shape
  obtain ⟨i0, hi, hz0, hz1, hz2⟩ := info_parts infoAddr
  obtain ⟨W0, hW0⟩ : ∃ W0, W0 = w.alloc (.cells #[.bool ex, .int .i64 at', .slice ao L.length cap] 32) := ⟨_, rfl⟩
  have hb0 : Below w.heap.size w W0 := by rw [hW0]; exact (Below.refl _ _).alloc (Nat.le_refl _) _
  have s1 : CBox W0 w.heap.size 32 #[.bool ex, .int .i64 at', .slice ao L.length cap] := by rw [hW0]; exact CBox.new _ rfl
  obtain ⟨b, off, hm, hlen, hidx, hc⟩ := (h.mono hb0).facts
  have HWF := Lib.hid h.wfs
  have S1 := Lib.hid s1
  have HB := Lib.hid hb0
  have hs0 : w.heap.size < W0.heap.size := s1.lt
  clear h hb0 s1
  go_enter Try.func31, Try.ntmps31
  go_wp2_with fail
  rw [← hW0]
  have HW0 := Lib.hid hW0
  clear hW0
  go_loopw [5, 6] (fun o i wr => ∃ k : Nat, k ≤ L.length ∧ i = .int .i64 k ∧ wr.ownsRow W0.heap.size 44 1 o (nmL (L.take k) blk).length ((nmL (L.take k) blk).map encStr) ∧ Below W0.heap.size W0 wr) (fun _ i _ => L.length - (intOf i).toNat)
  case atStart => exact ⟨0, Nat.zero_le _, rfl, World.ownsRow_nil _ _ _ _, Below.refl _ _⟩
  case round =>
    obtain ⟨k, hk, rfl, hown, hbel⟩ := hrel
    obtain ⟨x2, _⟩ := (S1.out.below hbel hs0).at_ 2 _ rfl
    by_cases hlt : k < L.length
    · obtain ⟨⟨s, n⟩, hs⟩ : ∃ s, L.getD k default = s := ⟨_, rfl⟩
      obtain ⟨hlb, c0, c1⟩ := hc k hlt
      rw [hs] at c0 c1
      have d0 := (hbel.cell (p := ⟨b, off + k * 2, none⟩) hlb).trans c0
      have d1 := (hbel.cell (p := ⟨b, off + k * 2 + 1, none⟩) hlb).trans c1
      have hp := hidx k hlt
      have hL : L[k] = (s, n) := by rw [← hs]; simp [List.getD_eq_getElem?_getD, hlt]
      have HT := Lib.hid (show nmL (L.take (k + 1)) blk = nmL (L.take k) blk ++ (if (n == 0) == blk then [s] else []) from by rw [nmL_snoc L blk k hlt, hL])
      have hfl : (nmL (L.take k) blk).length ≤ k := Nat.le_trans (nmL_len _ _) (by simp; omega)
      have hsz := hbel.size
      clear hidx hc c0 c1 hs hL
      cases hb : ((n == 0) == blk)
      · have HE := Lib.hid (show nmL (L.take (k + 1)) blk = nmL (L.take k) blk from by rw [HT.out, hb]; simp)
        clear HT
        go_wp2_with fail
        go_roundw
        case rel => exact ⟨k + 1, by omega, by go_num, by rw [HE.out]; exact hown, hbel⟩
        case measure => simp [intOf]; omega
      · have HE := Lib.hid (show nmL (L.take (k + 1)) blk = nmL (L.take k) blk ++ [s] from by rw [HT.out, hb]; simp)
        have hc3 : (nmL (L.take k) blk).length + 1 ≤ maxLen := by unfold maxLen; omega
        have hc4 : ((nmL (L.take k) blk).length + 1) * 16 ≤ 140737488355328 := by omega
        have HO := Lib.hid hown
        clear hown hfl HT
        go_wp2_with (at_builtin; refine wpList_append_own _ rfl _ _ 26 rfl W0.heap.size 44 i0 (.string ⟨#[]⟩) 1 16 Try.underlying26 hi hz0 hz1 hz2 rfl (by decide) _ _ _ rfl (HO.out.alloc _) ⟨wr.heap.size, 0, none⟩ 1 1 [.string (bstr s)] rfl rfl (cell_one_new _ _ _) (ones_str s) hc3 hc4 (by simp; omega) ?_; intro v' w3 hown3 hg3 _)
        go_roundw
        case rel =>
          refine ⟨k + 1, by omega, by go_num, ?_, below_own (hbel.alloc hsz _) (HO.out.alloc _) (Nat.le_refl _) (by simp; omega) hg3⟩
          rw [HE.out, List.length_append, List.map_append]
          rw [← enc_bstr] at hown3
          exact hown3
        case measure => simp [intOf]; omega
    · have HL := Lib.hid (show L.take k = L from List.take_of_length_le (by omega))
      rw [HL.out] at hown
      have hfl := nmL_len L blk
      have HO := Lib.hid hown
      clear hidx hc hown HL
      go_wp2_with fail
      go_ret
      refine ⟨_, rfl, Strs.own HO.out (by omega) (fun x hx => ?_), HB.out.trans (hbel.mono HB.out.size), (Lies.own HO.out).mono HB.out.size⟩
      obtain ⟨t, ht, rfl⟩ := List.mem_map.1 hx
      exact (HWF.out t (List.mem_filter.1 ht).1).1

def atL (L : List Tmd) (a : Str) : Int := ((L.find? fun t => t.1 == a).map Prod.snd).getD 0

theorem atL_asc {F : Str → Option Int} {L : List Tmd} (h : Asc F L) (a : Str) : atL L a = (F a).getD 0 := by
  unfold atL
  cases hf : L.find? fun t => t.1 == a
  · cases hF : F a
    · rfl
    · rename_i z
      obtain ⟨t, ht, e⟩ := List.mem_map.1 ((h.1.2 a).2 (by simp [hF]))
      have := List.find?_eq_none.1 hf t ht
      simp [e] at this
  · rename_i t
    have h1 := List.mem_of_find?_eq_some hf
    have h2 := List.find?_some hf
    have h3 : t.1 = a := by simpa using h2
    rw [← h3, h.2 t h1]
    rfl
end Go.Proofs.Ytfloipdkhmgibaa

/- siphonref17.put: a source in its place. -/
namespace Go.Proofs.Ytfloipdkhmgibaa
open Go.RowKit Go.Lib Go.Maps Go.Sort
set_option maxRecDepth 20000

def putStep (a : Str) (z : Int) (o : List Tmd × Bool) (t : Tmd) : List Tmd × Bool :=
  ((o.1 ++ (if !o.2 && !decide (t.1 < a) then [(a, z)] else [])) ++ (if t.1 == a then [] else [t]), o.2 || !decide (t.1 < a))
theorem putStep_eq (a : Str) (z : Int) (o : List Tmd × Bool) (t : Tmd) : putStep a z o t = ((o.1 ++ (if !o.2 && !decide (t.1 < a) then [(a, z)] else [])) ++ (if t.1 == a then [] else [t]), o.2 || !decide (t.1 < a)) := rfl
def putL (L : List Tmd) (a : Str) (z : Int) : List Tmd :=
  (L.foldl (putStep a z) ([], false)).1 ++ (if (L.foldl (putStep a z) ([], false)).2 then [] else [(a, z)])

theorem put_snoc (L : List Tmd) (a : Str) (z : Int) (k : Nat) (h : k < L.length) : (L.take (k + 1)).foldl (putStep a z) ([], false) = putStep a z ((L.take k).foldl (putStep a z) ([], false)) L[k] := by
  rw [take_snoc L k h, List.foldl_append]; rfl

/-- on a rising list -/
theorem put_spec (a : Str) (z : Int) : ∀ (L : List Tmd), (L.map Prod.fst).Pairwise (· < ·) → 
    (L.foldl (putStep a z) ([], false)).1 = L.filter (fun t => decide (t.1 < a)) ++ (if L.any (fun t => !decide (t.1 < a)) then (a, z) :: L.filter (fun t => !decide (t.1 < a) && !(t.1 == a)) else []) ∧ (L.foldl (putStep a z) ([], false)).2 = L.any (fun t => !decide (t.1 < a)) := by
  intro L
  suffices hs : ∀ n, n ≤ L.length → (L.map Prod.fst).Pairwise (· < ·) → 
    ((L.take n).foldl (putStep a z) ([], false)).1 = (L.take n).filter (fun t => decide (t.1 < a)) ++ (if (L.take n).any (fun t => !decide (t.1 < a)) then (a, z) :: (L.take n).filter (fun t => !decide (t.1 < a) && !(t.1 == a)) else []) ∧ ((L.take n).foldl (putStep a z) ([], false)).2 = (L.take n).any (fun t => !decide (t.1 < a)) by
    intro hp
    have := hs L.length (Nat.le_refl _) hp
    rwa [List.take_length] at this
  intro n
  induction n with
  | zero => intro _ _; exact ⟨rfl, rfl⟩
  | succ k ih =>
    intro hk hp
    have hlt : k < L.length := by omega
    obtain ⟨i1, i2⟩ := ih (by omega) hp
    have hrise : ∀ t ∈ L.take k, t.1 < L[k].1 := by
      intro t ht
      obtain ⟨j, hj, rfl⟩ := List.getElem_of_mem ht
      simp only [List.length_take] at hj
      have hj' : j < k := by omega
      have := List.pairwise_iff_getElem.1 hp j k (by simp; omega) (by simp; omega) hj'
      simpa using this
    rw [put_snoc L a z k hlt, take_snoc L k hlt, List.any_append, List.filter_append, List.filter_append]
    rw [putStep_eq, i1, i2]
    by_cases hl : L[k].1 < a
    · have hno : (L.take k).any (fun t => !decide (t.1 < a)) = false := by
        rw [List.any_eq_false]
        intro t ht
        simp [slt_trans (hrise t ht) hl]
      have hne : (L[k].1 == a) = false := by rw [beq_eq_false_iff_ne]; intro e; rw [e] at hl; exact slt_irrefl _ hl
      simp [hno, hl, hne]
    · have hnl : L[k].1 ≠ a ∨ L[k].1 = a := by by_cases e : L[k].1 = a <;> simp [e]
      by_cases hany : (L.take k).any (fun t => !decide (t.1 < a)) = true
      · have hne : (L[k].1 == a) = false := by
          rw [beq_eq_false_iff_ne]; intro e
          rw [List.any_eq_true] at hany
          obtain ⟨t, ht, h2⟩ := hany
          have := hrise t ht
          rw [e] at this
          simp [this] at h2
        simp [hany, hl, hne]
      · have hany' : (L.take k).any (fun t => !decide (t.1 < a)) = false := by simpa using hany
        have hf : (L.take k).filter (fun t => !decide (t.1 < a) && !(t.1 == a)) = [] := by
          rw [List.filter_eq_nil_iff]
          intro t ht
          have := List.any_eq_false.1 hany' t ht
          simp at this
          simp [this]
        by_cases e : L[k].1 = a
        · have ee : (L[k].1 == a) = true := by simpa using e
          simp [hany', hl, ee, hf]
        · have ee : (L[k].1 == a) = false := by simpa using e
          simp [hany', hl, ee, hf]

theorem asc_put {F : Str → Option Int} {L : List Tmd} (h : Asc F L) (a : Str) (z : Int) : Asc (upd F a z) (putL L a z) := by
  obtain ⟨s1, s2⟩ := put_spec a z L h.1.1
  have e : putL L a z = L.filter (fun t => decide (t.1 < a)) ++ (a, z) :: L.filter (fun t => !decide (t.1 < a) && !(t.1 == a)) := by
    unfold putL
    rw [s1, s2]
    by_cases hany : L.any (fun t => !decide (t.1 < a)) = true
    · simp [hany]
    · have hany' : L.any (fun t => !decide (t.1 < a)) = false := by simpa using hany
      have hf : L.filter (fun t => !decide (t.1 < a) && !(t.1 == a)) = [] := by
        rw [List.filter_eq_nil_iff]
        intro t ht
        have := List.any_eq_false.1 hany' t ht
        simp at this
        simp [this]
      rw [hany', hf]; simp
  rw [e]
  refine ⟨⟨?_, fun x => ?_⟩, fun t ht => ?_⟩
  · rw [List.map_append, List.map_cons]
    refine List.pairwise_append.2 ⟨?_, List.pairwise_cons.2 ⟨?_, ?_⟩, ?_⟩
    · exact List.Pairwise.sublist (List.Sublist.map _ List.filter_sublist) h.1.1
    · intro y hy
      obtain ⟨t, ht, rfl⟩ := List.mem_map.1 hy
      have := (List.mem_filter.1 ht).2
      simp only [Bool.and_eq_true, Bool.not_eq_true', decide_eq_false_iff_not, beq_eq_false_iff_ne] at this
      rcases slt_or t.1 a with q | q | q
      · exact absurd q this.1
      · exact absurd q this.2
      · exact q
    · exact List.Pairwise.sublist (List.Sublist.map _ List.filter_sublist) h.1.1
    · intro x hx y hy
      obtain ⟨t, ht, rfl⟩ := List.mem_map.1 hx
      have h1 : t.1 < a := by have := (List.mem_filter.1 ht).2; simpa using this
      rcases List.mem_cons.1 hy with rfl | hy
      · exact h1
      · obtain ⟨u, hu, rfl⟩ := List.mem_map.1 hy
        have := (List.mem_filter.1 hu).2
        simp only [Bool.and_eq_true, Bool.not_eq_true', decide_eq_false_iff_not, beq_eq_false_iff_ne] at this
        rcases slt_or u.1 a with q | q | q
        · exact absurd q this.1
        · exact absurd q this.2
        · exact slt_trans h1 q
  · unfold upd
    rw [List.map_append, List.map_cons, List.mem_append, List.mem_cons]
    by_cases e : x = a
    · subst e; simp
    · rw [if_neg e, ← h.1.2 x]
      constructor
      · rintro (hm | hm | hm)
        · obtain ⟨t, ht, rfl⟩ := List.mem_map.1 hm
          exact List.mem_map.2 ⟨t, (List.mem_filter.1 ht).1, rfl⟩
        · exact absurd hm e
        · obtain ⟨t, ht, rfl⟩ := List.mem_map.1 hm
          exact List.mem_map.2 ⟨t, (List.mem_filter.1 ht).1, rfl⟩
      · intro hm
        obtain ⟨t, ht, rfl⟩ := List.mem_map.1 hm
        by_cases hl : t.1 < a
        · exact .inl (List.mem_map.2 ⟨t, List.mem_filter.2 ⟨ht, by simp [hl]⟩, rfl⟩)
        · exact .inr (.inr (List.mem_map.2 ⟨t, List.mem_filter.2 ⟨ht, by simp [hl, e]⟩, rfl⟩))
  · unfold upd
    rcases List.mem_append.1 ht with ht | ht
    · have h1 := List.mem_filter.1 ht
      have h2 : t.1 < a := by simpa using h1.2
      have hne : t.1 ≠ a := by intro e; rw [e] at h2; exact slt_irrefl _ h2
      rw [if_neg hne]; exact h.2 t h1.1
    · rcases List.mem_cons.1 ht with rfl | ht
      · simp
      · have h1 := List.mem_filter.1 ht
        have hne : t.1 ≠ a := by
          have := h1.2
          simp only [Bool.and_eq_true, Bool.not_eq_true', beq_eq_false_iff_ne] at this
          exact this.2
        rw [if_neg hne]; exact h.2 t h1.1
theorem filter_two (p : Tmd → Bool) : ∀ L : List Tmd, (L.filter p).length + (L.filter fun t => !p t).length = L.length
  | [] => rfl
  | t :: L => by
    have := filter_two p L
    cases h : p t <;> simp [h] <;> omega
theorem putL_len (L : List Tmd) (a : Str) (z : Int) {F : Str → Option Int} (h : Asc F L) : (putL L a z).length ≤ L.length + 1 := by
  obtain ⟨s1, s2⟩ := put_spec a z L h.1.1
  unfold putL
  rw [s1, s2]
  have h1 := filter_two (fun t => decide (t.1 < a)) L
  have h2 : (L.filter fun t => !decide (t.1 < a) && !(t.1 == a)).length ≤ (L.filter fun t => !decide (t.1 < a)).length := by
    rw [show (L.filter fun t => !decide (t.1 < a) && !(t.1 == a)) = (L.filter fun t => !decide (t.1 < a)).filter fun t => !(t.1 == a) from by rw [List.filter_filter]; congr 1; funext t; rw [Bool.and_comm]]
    exact List.length_filter_le _ _
  by_cases hany : L.any (fun t => !decide (t.1 < a)) = true
  · rw [hany, if_pos rfl, if_pos rfl, List.length_append, List.length_append, List.length_cons, List.length_nil]
    exact Nat.succ_le_succ (Nat.le_trans (Nat.add_le_add_left h2 _) (Nat.le_of_eq h1))
  · have hany' : L.any (fun t => !decide (t.1 < a)) = false := by simpa using hany
    simp [hany']; exact List.length_filter_le _ _

end Go.Proofs.Ytfloipdkhmgibaa

/- siphonref17.put: the walk. -/
namespace Go.Proofs.Ytfloipdkhmgibaa
open Go.RowKit Go.Lib Go.Maps Go.Sort
set_option maxRecDepth 20000

theorem putStep_len (a : Str) (z : Int) (L : List Tmd) : ∀ k, ((L.take k).foldl (putStep a z) ([], false)).1.length ≤ 2 * k
  | 0 => by simp
  | k + 1 => by
    by_cases h : k < L.length
    · have i := putStep_len a z L k
      rw [put_snoc L a z k h, putStep_eq]
      simp only [List.length_append]
      split <;> split <;> simp <;> omega
    · have i := putStep_len a z L k
      rw [List.take_of_length_le (by omega)] at i ⊢
      omega
theorem putL_wfs {L : List Tmd} (a : Str) (z : Int) (ha : a.length ≤ maxLen) (hz : (Lit.int .i64 z).wf = true) (h : ∀ t ∈ L, t.1.length ≤ maxLen ∧ (Lit.int .i64 t.2).wf = true) : ∀ t ∈ putL L a z, t.1.length ≤ maxLen ∧ (Lit.int .i64 t.2).wf = true := by
  have key : ∀ (L : List Tmd) (o : List Tmd × Bool), (∀ t ∈ L, t.1.length ≤ maxLen ∧ (Lit.int .i64 t.2).wf = true) → (∀ t ∈ o.1, t.1.length ≤ maxLen ∧ (Lit.int .i64 t.2).wf = true) → ∀ t ∈ (L.foldl (putStep a z) o).1, t.1.length ≤ maxLen ∧ (Lit.int .i64 t.2).wf = true := by
    intro L
    induction L with
    | nil => intro o _ h; exact h
    | cons u L ih =>
      intro o hL ho
      rw [List.foldl_cons]
      refine ih _ (fun t ht => hL t (List.mem_cons_of_mem _ ht)) (fun t ht => ?_)
      rw [putStep_eq] at ht
      simp only [List.mem_append] at ht
      rcases ht with (ht | ht) | ht
      · exact ho t ht
      · split at ht
        · rw [List.mem_singleton] at ht; subst ht; exact ⟨ha, hz⟩
        · cases ht
      · split at ht
        · cases ht
        · rw [List.mem_singleton] at ht; subst ht; exact hL _ (by simp)
  intro t ht
  unfold putL at ht
  rcases List.mem_append.1 ht with ht | ht
  · exact key L ([], false) h (by simp) t ht
  · split at ht
    · cases ht
    · rw [List.mem_singleton] at ht; subst ht; exact ⟨ha, hz⟩

end Go.Proofs.Ytfloipdkhmgibaa
