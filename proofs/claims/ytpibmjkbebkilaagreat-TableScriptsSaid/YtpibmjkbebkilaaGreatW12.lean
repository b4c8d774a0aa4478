/- Texts joined into one file: GLive, GRef1, GPut. -/
import Derived.Test.YtpibmjkbebkilaaGreatW11
import Derived.Test.YtpibmjkbebkilaaGreatW06
import Derived.Test.YtpibmjkbebkilaaGreatW08

namespace Go.Proofs.YtpibmjkbebkilaaGreat
open Go.RowKit Go.Lib Go.Maps Go.Sort
set_option maxRecDepth 20000

theorem keys_unique {F : Str → Option Int} {K K' : List Str} (h : KeysOf' F K) (h' : KeysOf' F K') : K = K' :=
 srising_ext h.1 h'.1 (fun x => by rw [h.2, h'.2])
theorem asc_unique {F : Str → Option Int} {L L' : List Tmd} (h : Asc F L) (h' : Asc F L') : L = L' := by
 have e := keys_unique h.1 h'.1
 have hl : L.length = L'.length := by have := congrArg List.length e; simpa using this
 refine List.ext_getElem hl (fun i h1 h2 => ?_)
 have e1 : (L[i]).1 = (L'[i]).1 := by
  have : (L.map Prod.fst)[i]'(by simpa using h1) = (L'.map Prod.fst)[i]'(by simpa using h2) := by simp only [e]
  simpa using this
 have q1 := h.2 _ (List.getElem_mem h1)
 have q2 := h'.2 _ (List.getElem_mem h2)
 rw [e1, q2] at q1
 injection q1 with q1
 exact Prod.ext e1 q1.symm
theorem rises_unique {q : Str → Bool} {R R' : List Str} (h : Rises q R) (h' : Rises q R') : R = R' := srising_ext h.1 h'.1 (fun x => by rw [h.2, h'.2])

theorem asc_of {F : Str → Option Int} {L : List Tmd} (h : (L.map Prod.fst).Pairwise (· < ·)) (he : ∀ a, F a = rd L a) : Asc F L := by
 have hn : (L.map Prod.fst).Nodup := h.imp (fun {x y} (hlt : x < y) (e : x = y) => by subst e; exact slt_irrefl _ hlt)
 obtain ⟨h1, h2⟩ := rd_nodup L hn
 refine ⟨⟨h, fun a => ?_⟩, fun t ht => by rw [he]; exact h1 t ht⟩
 rw [he]
 constructor
 · intro ha
   obtain ⟨t, ht, rfl⟩ := List.mem_map.1 ha
   rw [h1 t ht]; simp
 · intro ha
   by_cases hm : a ∈ L.map Prod.fst
   · exact hm
   · exact absurd (h2 a hm) ha


def nmL (L : List Tmd) (blk : Bool) : List Str := (L.filter fun t => (t.2 == 0) == blk).map Prod.fst
theorem nmL_snoc (L : List Tmd) (blk : Bool) (k : Nat) (h : k < L.length) : nmL (L.take (k + 1)) blk = nmL (L.take k) blk ++ (if (L[k].2 == 0) == blk then [L[k].1] else []) := by
 unfold nmL
 rw [take_snoc L k h, List.filter_append, List.map_append, List.filter_cons, List.filter_nil]
 split <;> rfl
theorem nmL_len (L : List Tmd) (blk : Bool) : (nmL L blk).length ≤ L.length := by unfold nmL; rw [List.length_map]; exact List.length_filter_le _ _

set_option maxHeartbeats 4000000 in
theorem rnames_any (ex : Bool) (at' : Int) (v : Value) (L : List Tmd) (blk : Bool) (w : World) (h : Tms w v L) :
 Calls Tryz.prog 69 #[.agg #[.bool ex, .int .i64 at', v], .bool blk] w (RetStrs w (nmL L blk)) := by
 obtain ⟨ao, cap, rfl⟩ := h.shape
 obtain ⟨i0, hi, hz0, hz1, hz2⟩ := info_parts infoAddr
 obtain ⟨W0, hW0⟩ : ∃ W0, W0 = w.alloc (.cells #[.bool ex, .int .i64 at', .slice ao L.length cap] 71) := ⟨_, rfl⟩
 have hb0 : Below w.heap.size w W0 := by rw [hW0]; exact (Below.refl _ _).alloc (Nat.le_refl _) _
 have s1 : CBox W0 w.heap.size 71 #[.bool ex, .int .i64 at', .slice ao L.length cap] := by rw [hW0]; exact CBox.new _ rfl
 obtain ⟨b, off, hm, hlen, hidx, hc⟩ := (h.mono hb0).facts
 have HWF := Lib.hid h.wfs
 have S1 := Lib.hid s1
 have HB := Lib.hid hb0
 have hs0 : w.heap.size < W0.heap.size := s1.lt
 clear h hb0 s1
 go_enter Tryz.func69, Tryz.ntmps69
 go_wp2_with fail
 rw [← hW0]
 have HW0 := Lib.hid hW0
 clear hW0
 go_loopw [5, 6] (fun o i wr => ∃ k : Nat, k ≤ L.length ∧ i = .int .i64 k ∧ wr.ownsRow W0.heap.size 36 1 o (nmL (L.take k) blk).length ((nmL (L.take k) blk).map encStr) ∧ Below W0.heap.size W0 wr) (fun _ i _ => L.length - (intOf i).toNat)
 case atStart => exact ⟨0, Nat.zero_le _, rfl, World.ownsRow_nil _ _ _ _, Below.refl _ _⟩
 case round =>
  obtain ⟨k, hk, rfl, hown, hbel⟩ := hrel
  obtain ⟨x2, _⟩ := (S1.out.below hbel hs0).at_ 2 _ rfl
  by_cases hlt : k < L.length
  · obtain ⟨⟨s, n⟩, hs⟩ : ∃ s, L.getD k default = s := ⟨_, rfl⟩
    obtain ⟨hlb, c0, c1⟩ := hc k hlt
    rw [hs] at c0 c1
    have d0 := (hbel.cell (p := ⟨b, off + k * 2, none⟩) hlb).trans c0
    have d1 := (hbel.cell (p := ⟨b, off + k * 2 + 1, none⟩) hlb).trans c1
    have hp := hidx k hlt
    have hL : L[k] = (s, n) := by rw [← hs]; simp [List.getD_eq_getElem?_getD, hlt]
    have HT := Lib.hid (show nmL (L.take (k + 1)) blk = nmL (L.take k) blk ++ (if (n == 0) == blk then [s] else []) from by rw [nmL_snoc L blk k hlt, hL])
    have hfl : (nmL (L.take k) blk).length ≤ k := Nat.le_trans (nmL_len _ _) (by simp; omega)
    have hsz := hbel.size
    clear hidx hc c0 c1 hs hL
    cases hb : ((n == 0) == blk)
    · have HE := Lib.hid (show nmL (L.take (k + 1)) blk = nmL (L.take k) blk from by rw [HT.out, hb]; simp)
      clear HT
      go_wp2_with fail
      go_roundw
      case rel => exact ⟨k + 1, by omega, by go_num, by rw [HE.out]; exact hown, hbel⟩
      case measure => simp [intOf]; omega
    · have HE := Lib.hid (show nmL (L.take (k + 1)) blk = nmL (L.take k) blk ++ [s] from by rw [HT.out, hb]; simp)
      have hc3 : (nmL (L.take k) blk).length + 1 ≤ maxLen := by unfold maxLen; omega
      have hc4 : ((nmL (L.take k) blk).length + 1) * 16 ≤ 140737488355328 := by omega
      have HO := Lib.hid hown
      clear hown hfl HT
      go_wp2_with (at_builtin; refine wpList_append_own _ rfl _ _ 37 rfl W0.heap.size 36 i0 (.string ⟨#[]⟩) 1 16 Tryz.underlying37 hi hz0 hz1 hz2 rfl (by decide) _ _ _ rfl (HO.out.alloc _) ⟨wr.heap.size, 0, none⟩ 1 1 [.string (bstr s)] rfl rfl (cell_one_new _ _ _) (ones_str s) hc3 hc4 (by simp; omega) ?_; intro v' w3 hown3 hg3 _)
      go_roundw
      case rel =>
       refine ⟨k + 1, by omega, by go_num, ?_, below_own (hbel.alloc hsz _) (HO.out.alloc _) (Nat.le_refl _) (by simp; omega) hg3⟩
       rw [HE.out, List.length_append, List.map_append]
       rw [← enc_bstr] at hown3
       exact hown3
      case measure => simp [intOf]; omega
  · have HL := Lib.hid (show L.take k = L from List.take_of_length_le (by omega))
    rw [HL.out] at hown
    have hfl := nmL_len L blk
    have HO := Lib.hid hown
    clear hidx hc hown HL
    go_wp2_with fail
    go_ret
    refine ⟨_, rfl, Strs.own HO.out (by omega) (fun x hx => ?_), HB.out.trans (hbel.mono HB.out.size), (Lies.own HO.out).mono HB.out.size⟩
    obtain ⟨t, ht, rfl⟩ := List.mem_map.1 hx
    exact (HWF.out t (List.mem_filter.1 ht).1).1

def atL (L : List Tmd) (a : Str) : Int := ((L.find? fun t => t.1 == a).map Prod.snd).getD 0

set_option maxHeartbeats 2000000 in
theorem rat_any (ex : Bool) (at' : Int) (v : Value) (L : List Tmd) (a : Str) (w : World) (h : Tms w v L) :
 Calls Tryz.prog 89 #[.agg #[.bool ex, .int .i64 at', v], .string (bstr a)] w fun e w' => e = .returned (.int .i64 (atL L a)) ∧ Below w.heap.size w w' := by
 obtain ⟨ao, cap, rfl⟩ := h.shape
 obtain ⟨W0, hW0⟩ : ∃ W0, W0 = w.alloc (.cells #[.bool ex, .int .i64 at', .slice ao L.length cap] 71) := ⟨_, rfl⟩
 have hb0 : Below w.heap.size w W0 := by rw [hW0]; exact (Below.refl _ _).alloc (Nat.le_refl _) _
 have s1 : CBox W0 w.heap.size 71 #[.bool ex, .int .i64 at', .slice ao L.length cap] := by rw [hW0]; exact CBox.new _ rfl
 obtain ⟨b, off, hm, hlen, hidx, hc⟩ := (h.mono hb0).facts
 have HB := Lib.hid hb0
 obtain ⟨x2, _⟩ := s1.at_ 2 _ rfl
 have hbt := bstr_toList
 clear h hb0 s1
 go_enter Tryz.func89, Tryz.ntmps89
 go_wp2_with fail
 rw [← hW0]
 have HW0 := Lib.hid hW0
 clear hW0
 go_loop [5] (fun i => ∃ k : Nat, k ≤ L.length ∧ i = .int .i64 k ∧ (L.take k).find? (fun t => t.1 == a) = none) (fun i => L.length - (intOf i).toNat)
 case atStart => exact ⟨0, Nat.zero_le _, rfl, rfl⟩
 case round =>
  obtain ⟨k, hk, rfl, hn⟩ := hrel
  by_cases hlt : k < L.length
  · obtain ⟨⟨s, n⟩, hs⟩ : ∃ s, L.getD k default = s := ⟨_, rfl⟩
    obtain ⟨hlb, c0, c1⟩ := hc k hlt
    rw [hs] at c0 c1
    have hp := hidx k hlt
    have hL : L[k] = (s, n) := by rw [← hs]; simp [List.getD_eq_getElem?_getD, hlt]
    have HT := Lib.hid (show (L.take (k + 1)).find? (fun t => t.1 == a) = if s == a then some (s, n) else none from by
     rw [take_snoc L k hlt, List.find?_append, hn, hL]; simp [List.find?_cons]; split <;> simp_all)
    have HD := Lib.hid (show (L.take (k + 1)).find? (fun t => t.1 == a) = some (s, n) → atL L a = n from fun hf => by
     unfold atL
     have h2 : L.find? (fun t => t.1 == a) = some (s, n) := by
      rw [← List.take_append_drop (k + 1) L, List.find?_append, hf]; rfl
     rw [h2]; rfl)
    clear hidx hc hs hL hn
    cases hsa : (s == a)
    · have HN := Lib.hid (show (L.take (k + 1)).find? (fun t => t.1 == a) = none from by rw [HT.out, hsa]; rfl)
      clear HT HD
      go_wp2_with fail
      go_round
      case rel => exact ⟨k + 1, by omega, by go_num, HN.out⟩
      case measure => simp [intOf]; omega
    · have HN := Lib.hid (show atL L a = n from HD.out (by rw [HT.out, hsa]; rfl))
      clear HT HD
      go_wp2_with fail
      go_ret
      exact ⟨by rw [HN.out]; rfl, HB.out⟩
  · have HN := Lib.hid (show atL L a = 0 from by rw [List.take_of_length_le (by omega)] at hn; unfold atL; rw [hn]; rfl)
    clear hidx hc hn
    go_wp2_with fail
    go_ret
    exact ⟨by rw [HN.out]; rfl, HB.out⟩

theorem atL_asc {F : Str → Option Int} {L : List Tmd} (h : Asc F L) (a : Str) : atL L a = (F a).getD 0 := by
 unfold atL
 cases hf : L.find? fun t => t.1 == a
 · cases hF : F a
   · rfl
   · rename_i z
     obtain ⟨t, ht, e⟩ := List.mem_map.1 ((h.1.2 a).2 (by simp [hF]))
     have := List.find?_eq_none.1 hf t ht
     simp [e] at this
 · rename_i t
   have h1 := List.mem_of_find?_eq_some hf
   have h2 := List.find?_some hf
   have h3 : t.1 = a := by simpa using h2
   rw [← h3, h.2 t h1]
   rfl

def putStep (a : Str) (z : Int) (o : List Tmd × Bool) (t : Tmd) : List Tmd × Bool :=
 ((o.1 ++ (if !o.2 && !decide (t.1 < a) then [(a, z)] else [])) ++ (if t.1 == a then [] else [t]), o.2 || !decide (t.1 < a))
theorem putStep_eq (a : Str) (z : Int) (o : List Tmd × Bool) (t : Tmd) : putStep a z o t = ((o.1 ++ (if !o.2 && !decide (t.1 < a) then [(a, z)] else [])) ++ (if t.1 == a then [] else [t]), o.2 || !decide (t.1 < a)) := rfl
def putL (L : List Tmd) (a : Str) (z : Int) : List Tmd :=
 (L.foldl (putStep a z) ([], false)).1 ++ (if (L.foldl (putStep a z) ([], false)).2 then [] else [(a, z)])

theorem put_snoc (L : List Tmd) (a : Str) (z : Int) (k : Nat) (h : k < L.length) : (L.take (k + 1)).foldl (putStep a z) ([], false) = putStep a z ((L.take k).foldl (putStep a z) ([], false)) L[k] := by
 rw [take_snoc L k h, List.foldl_append]; rfl

theorem put_spec (a : Str) (z : Int) : ∀ (L : List Tmd), (L.map Prod.fst).Pairwise (· < ·) → 
 (L.foldl (putStep a z) ([], false)).1 = L.filter (fun t => decide (t.1 < a)) ++ (if L.any (fun t => !decide (t.1 < a)) then (a, z) :: L.filter (fun t => !decide (t.1 < a) && !(t.1 == a)) else []) ∧ (L.foldl (putStep a z) ([], false)).2 = L.any (fun t => !decide (t.1 < a)) := by
 intro L
 suffices hs : ∀ n, n ≤ L.length → (L.map Prod.fst).Pairwise (· < ·) → 
  ((L.take n).foldl (putStep a z) ([], false)).1 = (L.take n).filter (fun t => decide (t.1 < a)) ++ (if (L.take n).any (fun t => !decide (t.1 < a)) then (a, z) :: (L.take n).filter (fun t => !decide (t.1 < a) && !(t.1 == a)) else []) ∧ ((L.take n).foldl (putStep a z) ([], false)).2 = (L.take n).any (fun t => !decide (t.1 < a)) by
  intro hp
  have := hs L.length (Nat.le_refl _) hp
  rwa [List.take_length] at this
 intro n
 induction n with
 | zero => intro _ _; exact ⟨rfl, rfl⟩
 | succ k ih =>
   intro hk hp
   have hlt : k < L.length := by omega
   obtain ⟨i1, i2⟩ := ih (by omega) hp
   have hrise : ∀ t ∈ L.take k, t.1 < L[k].1 := by
    intro t ht
    obtain ⟨j, hj, rfl⟩ := List.getElem_of_mem ht
    simp only [List.length_take] at hj
    have hj' : j < k := by omega
    have := List.pairwise_iff_getElem.1 hp j k (by simp; omega) (by simp; omega) hj'
    simpa using this
   rw [put_snoc L a z k hlt, take_snoc L k hlt, List.any_append, List.filter_append, List.filter_append]
   rw [putStep_eq, i1, i2]
   by_cases hl : L[k].1 < a
   · have hno : (L.take k).any (fun t => !decide (t.1 < a)) = false := by
      rw [List.any_eq_false]
      intro t ht
      simp [slt_trans (hrise t ht) hl]
     have hne : (L[k].1 == a) = false := by rw [beq_eq_false_iff_ne]; intro e; rw [e] at hl; exact slt_irrefl _ hl
     simp [hno, hl, hne]
   · have hnl : L[k].1 ≠ a ∨ L[k].1 = a := by by_cases e : L[k].1 = a <;> simp [e]
     by_cases hany : (L.take k).any (fun t => !decide (t.1 < a)) = true
     · have hne : (L[k].1 == a) = false := by
        rw [beq_eq_false_iff_ne]; intro e
        rw [List.any_eq_true] at hany
        obtain ⟨t, ht, h2⟩ := hany
        have := hrise t ht
        rw [e] at this
        simp [this] at h2
       simp [hany, hl, hne]
     · have hany' : (L.take k).any (fun t => !decide (t.1 < a)) = false := by simpa using hany
       have hf : (L.take k).filter (fun t => !decide (t.1 < a) && !(t.1 == a)) = [] := by
        rw [List.filter_eq_nil_iff]
        intro t ht
        have := List.any_eq_false.1 hany' t ht
        simp at this
        simp [this]
       by_cases e : L[k].1 = a
       · have ee : (L[k].1 == a) = true := by simpa using e
         simp [hany', hl, ee, hf]
       · have ee : (L[k].1 == a) = false := by simpa using e
         simp [hany', hl, ee, hf]

theorem asc_put {F : Str → Option Int} {L : List Tmd} (h : Asc F L) (a : Str) (z : Int) : Asc (upd F a z) (putL L a z) := by
 obtain ⟨s1, s2⟩ := put_spec a z L h.1.1
 have e : putL L a z = L.filter (fun t => decide (t.1 < a)) ++ (a, z) :: L.filter (fun t => !decide (t.1 < a) && !(t.1 == a)) := by
  unfold putL
  rw [s1, s2]
  by_cases hany : L.any (fun t => !decide (t.1 < a)) = true
  · simp [hany]
  · have hany' : L.any (fun t => !decide (t.1 < a)) = false := by simpa using hany
    have hf : L.filter (fun t => !decide (t.1 < a) && !(t.1 == a)) = [] := by
     rw [List.filter_eq_nil_iff]
     intro t ht
     have := List.any_eq_false.1 hany' t ht
     simp at this
     simp [this]
    rw [hany', hf]; simp
 rw [e]
 refine ⟨⟨?_, fun x => ?_⟩, fun t ht => ?_⟩
 · rw [List.map_append, List.map_cons]
   refine List.pairwise_append.2 ⟨?_, List.pairwise_cons.2 ⟨?_, ?_⟩, ?_⟩
   · exact List.Pairwise.sublist (List.Sublist.map _ List.filter_sublist) h.1.1
   · intro y hy
     obtain ⟨t, ht, rfl⟩ := List.mem_map.1 hy
     have := (List.mem_filter.1 ht).2
     simp only [Bool.and_eq_true, Bool.not_eq_true', decide_eq_false_iff_not, beq_eq_false_iff_ne] at this
     rcases slt_or t.1 a with q | q | q
     · exact absurd q this.1
     · exact absurd q this.2
     · exact q
   · exact List.Pairwise.sublist (List.Sublist.map _ List.filter_sublist) h.1.1
   · intro x hx y hy
     obtain ⟨t, ht, rfl⟩ := List.mem_map.1 hx
     have h1 : t.1 < a := by have := (List.mem_filter.1 ht).2; simpa using this
     rcases List.mem_cons.1 hy with rfl | hy
     · exact h1
     · obtain ⟨u, hu, rfl⟩ := List.mem_map.1 hy
       have := (List.mem_filter.1 hu).2
       simp only [Bool.and_eq_true, Bool.not_eq_true', decide_eq_false_iff_not, beq_eq_false_iff_ne] at this
       rcases slt_or u.1 a with q | q | q
       · exact absurd q this.1
       · exact absurd q this.2
       · exact slt_trans h1 q
 · unfold upd
   rw [List.map_append, List.map_cons, List.mem_append, List.mem_cons]
   by_cases e : x = a
   · subst e; simp
   · rw [if_neg e, ← h.1.2 x]
     constructor
     · rintro (hm | hm | hm)
       · obtain ⟨t, ht, rfl⟩ := List.mem_map.1 hm
         exact List.mem_map.2 ⟨t, (List.mem_filter.1 ht).1, rfl⟩
       · exact absurd hm e
       · obtain ⟨t, ht, rfl⟩ := List.mem_map.1 hm
         exact List.mem_map.2 ⟨t, (List.mem_filter.1 ht).1, rfl⟩
     · intro hm
       obtain ⟨t, ht, rfl⟩ := List.mem_map.1 hm
       by_cases hl : t.1 < a
       · exact .inl (List.mem_map.2 ⟨t, List.mem_filter.2 ⟨ht, by simp [hl]⟩, rfl⟩)
       · exact .inr (.inr (List.mem_map.2 ⟨t, List.mem_filter.2 ⟨ht, by simp [hl, e]⟩, rfl⟩))
 · unfold upd
   rcases List.mem_append.1 ht with ht | ht
   · have h1 := List.mem_filter.1 ht
     have h2 : t.1 < a := by simpa using h1.2
     have hne : t.1 ≠ a := by intro e; rw [e] at h2; exact slt_irrefl _ h2
     rw [if_neg hne]; exact h.2 t h1.1
   · rcases List.mem_cons.1 ht with rfl | ht
     · simp
     · have h1 := List.mem_filter.1 ht
       have hne : t.1 ≠ a := by
        have := h1.2
        simp only [Bool.and_eq_true, Bool.not_eq_true', beq_eq_false_iff_ne] at this
        exact this.2
       rw [if_neg hne]; exact h.2 t h1.1
theorem filter_two (p : Tmd → Bool) : ∀ L : List Tmd, (L.filter p).length + (L.filter fun t => !p t).length = L.length
 | [] => rfl
 | t :: L => by
   have := filter_two p L
   cases h : p t <;> simp [h] <;> omega
theorem putL_len (L : List Tmd) (a : Str) (z : Int) {F : Str → Option Int} (h : Asc F L) : (putL L a z).length ≤ L.length + 1 := by
 obtain ⟨s1, s2⟩ := put_spec a z L h.1.1
 unfold putL
 rw [s1, s2]
 have h1 := filter_two (fun t => decide (t.1 < a)) L
 have h2 : (L.filter fun t => !decide (t.1 < a) && !(t.1 == a)).length ≤ (L.filter fun t => !decide (t.1 < a)).length := by
  rw [show (L.filter fun t => !decide (t.1 < a) && !(t.1 == a)) = (L.filter fun t => !decide (t.1 < a)).filter fun t => !(t.1 == a) from by rw [List.filter_filter]; congr 1; funext t; rw [Bool.and_comm]]
  exact List.length_filter_le _ _
 by_cases hany : L.any (fun t => !decide (t.1 < a)) = true
 · rw [hany, if_pos rfl, if_pos rfl, List.length_append, List.length_append, List.length_cons, List.length_nil]
   exact Nat.succ_le_succ (Nat.le_trans (Nat.add_le_add_left h2 _) (Nat.le_of_eq h1))
 · have hany' : L.any (fun t => !decide (t.1 < a)) = false := by simpa using hany
   simp [hany']; exact List.length_filter_le _ _

end Go.Proofs.YtpibmjkbebkilaaGreat
