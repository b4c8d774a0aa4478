/- siphonref22.Flood and siphonref22.Decide, for every case: the same rising lists. -/
import Derived.Test.YtmjpjpdgejpeeaaSorted
namespace Go.Proofs.Ytmjpjpdgejpeeaa
open Go.RowKit Go.Sort

theorem filter_snoc (p : Int → Bool) (l : List Int) (k : Nat) (h : k < l.length) (x : Int) (hx : l[k] = x) : (l.take (k + 1)).filter p = if p x then (l.take k).filter p ++ [x] else (l.take k).filter p := by
  rw [take_snoc l k h, List.filter_append, hx]
  by_cases hp : p x = true
  · simp [hp]
  · simp [hp]

theorem filter_len (p : Int → Bool) (l : List Int) (k : Nat) : ((l.take k).filter p).length ≤ k :=
  Nat.le_trans (List.length_filter_le _ _) (by rw [List.length_take]; omega)

theorem asc_filter (p : Int → Bool) (l : List Int) : (asc l).filter p = canon p l := by
  rw [asc, canon_filter]; simp

theorem wf_filter {p : Int → Bool} {l : List Int} (h : ∀ x ∈ l, (Lit.int .i64 x).wf = true) : ∀ x ∈ l.filter p, (Lit.int .i64 x).wf = true := fun x hx => h x (List.mem_filter.1 hx).1

set_option maxHeartbeats 4000000 in
theorem rflood_any (port : Int) (vm vo vr vw : Value) (lo ov re kn fl : Bool) (M O R W : List Int) (w : World) (h : CaseIn w vm vo vr vw M O R W) :
    Calls Try.prog 14 #[.agg #[.int .i64 port, vm, vo, vr, vw, .bool lo, .bool ov, .bool re, .bool kn, .bool fl]] w (RetInts w (lFlood port M O)) := by
  have hb : Below w.heap.size w (w.alloc (.cells #[.int .i64 port, vm, vo, vr, vw, .bool lo, .bool ov, .bool re, .bool kn, .bool fl] 24)) := (Below.refl _ _).alloc (Nat.le_refl _) _
  have hin := h.mono hb
  have H := Lib.hid (sorted_any vo O _ hin.o)
  have HM := Lib.hid hin.m
  have HWF := Lib.hid h.o.wf
  obtain ⟨i0, hi, hz0, hz1, hz2⟩ := info_parts info3
  clear h hb hin
  go_enter Try.func14, Try.ntmps14
  go_wp2_with fail
  refine H.out.mono ?_
  rintro e w1 ⟨v, rfl, hi1, hb1⟩
  have c0 := box_cell hb1 0 (.int .i64 port) rfl
  have c1 := box_cell hb1 1 vm rfl
  have hM1 := HM.out.mono hb1
  have HB := Lib.hid (box_below hb1)
  have hbx : w.heap.size < w1.heap.size := by have := hb1.size; simp at this; omega
  obtain ⟨b, off, hm, hlen, hidx, hc⟩ := hi1.facts
  clear H HM hb1 hi1
  obtain ⟨S, hS⟩ : ∃ S, asc O = S := ⟨_, rfl⟩
  have HS := Lib.hid hS
  have HSF := Lib.hid (show S.filter (pFlood port M) = lFlood port M O from by rw [← hS, asc_filter]; rfl)
  have hwfS : ∀ x ∈ S, (Lit.int .i64 x).wf = true := fun x hx => HWF.out x (by rw [← hS, asc_mem] at hx; exact hx)
  rw [hS] at hm hlen hidx hc
  have HWS := Lib.hid hwfS
  clear hS hwfS HWF
  go_wp2
  go_loopw [3, 5] (fun o i wr => ∃ k : Nat, k ≤ S.length ∧ i = .int .i64 k ∧ wr.ownsRow w1.heap.size 3 1 o ((S.take k).filter (pFlood port M)).length (((S.take k).filter (pFlood port M)).map (Value.int .i64)) ∧ Below w1.heap.size w1 wr) (fun _ i _ => S.length - (intOf i).toNat)
  case atStart => exact ⟨0, Nat.zero_le _, rfl, by simpa using World.ownsRow_nil _ _ _ _, Below.refl _ _⟩
  case round =>
    obtain ⟨k, hk, rfl, hown, hbel⟩ := hrel
    by_cases hlt : k < S.length
    · have hp := hidx k hlt
      obtain ⟨x, hx⟩ : ∃ x, S[k] = x := ⟨_, rfl⟩
      have hcell := (hbel.cell (p := ⟨b, off + k, none⟩) (hc k hlt).1).trans (hc k hlt).2
      rw [show S.getD k 0 = x from by rw [← hx]; simp [List.getD_eq_getElem?_getD, hlt]] at hcell
      have HF := Lib.hid (filter_snoc (pFlood port M) S k hlt x hx)
      have hfl := filter_len (pFlood port M) S k
      have d0 := (hbel.cell (p := ⟨w.heap.size, 0, none⟩) hbx).trans c0
      have d1 := (hbel.cell (p := ⟨w.heap.size, 1, none⟩) hbx).trans c1
      have hMr := hM1.mono hbel
      have hs0 := hbel.size
      have hL3 : ((S.take k).filter (pFlood port M)).length + 1 ≤ maxLen := by unfold maxLen; omega
      have hL4 : (((S.take k).filter (pFlood port M)).length + 1) * 8 ≤ 140737488355328 := by omega
      clear hidx hc hx c0 c1 hfl
      by_cases hne : (x != port) = true
      · cases hcm : M.contains x
        · have HP := Lib.hid (show (S.take (k + 1)).filter (pFlood port M) = (S.take k).filter (pFlood port M) from by rw [HF.out, pFlood, hne, hcm]; rfl)
          have HA := fun n => has_any vm M x (wr.drewN n) (hMr.draws n)
          rw [hcm] at HA
          have HA := Lib.hid HA
          clear hcm HF hM1 hMr
          go_wp2
          go_quiet ((refine quietS (HA.out _)))
          go_wp2
          go_roundw
          case rel => exact ⟨k + 1, by omega, by go_num, by rw [HP.out]; exact hown, below_draws _ hbel _⟩
          case measure => simp [intOf]; omega
        · have HP := Lib.hid (show (S.take (k + 1)).filter (pFlood port M) = (S.take k).filter (pFlood port M) ++ [x] from by rw [HF.out, pFlood, hne, hcm]; rfl)
          have HA := fun n => has_any vm M x (wr.drewN n) (hMr.draws n)
          rw [hcm] at HA
          have HA := Lib.hid HA
          clear hcm HF hM1 hMr
          go_wp2
          go_quiet ((refine quietS (HA.out _)))
          have hownD : (wr.drewN nq).ownsRow w1.heap.size 3 1 u3 ((S.take k).filter (pFlood port M)).length (((S.take k).filter (pFlood port M)).map (Value.int .i64)) := hown
          have hbelD := below_draws _ hbel nq
          go_wp2_with (at_builtin; refine wpList_append_own _ rfl _ _ 22 rfl w1.heap.size 3 i0 (.int .i64 0) 1 8 Try.underlying22 hi hz0 hz1 hz2 rfl (by decide) u3 _ _ rfl (hownD.alloc _) ⟨(wr.drewN nq).heap.size, 0, none⟩ 1 1 [.int .i64 x] rfl rfl (cell_one_new _ _ _) (ints_oneCell .i64 [x]) hL3 hL4 (by simp at hs0 ⊢; omega) ?_; intro v' w2 hown2 hg2 _)
          go_roundw
          case rel =>
            refine ⟨k + 1, by omega, by go_num, ?_, below_own ((hbelD.alloc (by simp at hs0 ⊢; omega) _)) (hownD.alloc _) (Nat.le_refl _) (by simp at hs0 ⊢; omega) hg2⟩
            rw [HP.out, List.length_append, List.map_append]
            exact hown2
          case measure => simp [intOf]; omega
      · have hne' : (x != port) = false := by simpa using hne
        have HP := Lib.hid (show (S.take (k + 1)).filter (pFlood port M) = (S.take k).filter (pFlood port M) from by rw [HF.out, pFlood, hne']; rfl)
        clear hne HF hM1 hMr
        go_wp2
        go_quiet (fail)
        go_wp2
        go_roundw
        case rel => exact ⟨k + 1, by omega, by go_num, by rw [HP.out]; exact hown, below_draws _ hbel _⟩
        case measure => simp [intOf]; omega
    · obtain rfl : k = S.length := by omega
      have hfl := filter_len (pFlood port M) S S.length
      rw [List.take_length] at hown hfl
      have hi := Ints.own hown (by omega) (wf_filter HWS.out)
      rw [HSF.out] at hi
      have HI := Lib.hid hi
      clear hidx hc hi hown hlt
      go_wp2
      go_ret
      exact ⟨_, rfl, HI.out, HB.out.trans (hbel.mono HB.out.size)⟩
theorem filter_canon (q p : Int → Bool) (l : List Int) : (canon p l).filter q = canon q (canon p l) := by
  rw [canon_canon, canon_filter]

set_option maxHeartbeats 8000000 in
theorem rdecide_any (port : Int) (vm vo vr vw : Value) (lo ov re kn fl : Bool) (M O R W : List Int) (w : World) (h : CaseIn w vm vo vr vw M O R W) :
    Calls Try.prog 15 #[.agg #[.int .i64 port, vm, vo, vr, vw, .bool lo, .bool ov, .bool re, .bool kn, .bool fl]] w (RetInts w (lDecide port M O R W lo ov re kn fl)) := by
  have hb : Below w.heap.size w (w.alloc (.cells #[.int .i64 port, vm, vo, vr, vw, .bool lo, .bool ov, .bool re, .bool kn, .bool fl] 24)) := (Below.refl _ _).alloc (Nat.le_refl _) _
  have hin := h.mono hb
  have H := Lib.hid (rflood_any port vm vo vr vw lo ov re kn fl M O R W _ hin)
  have HN := Lib.hid hin
  have HWF := Lib.hid h.o.wf
  obtain ⟨i0, hi, hz0, hz1, hz2⟩ := info_parts info3
  clear h hb hin
  go_enter Try.func15, Try.ntmps15
  go_wp2_with fail
  refine H.out.mono ?_
  rintro e w1 ⟨v, rfl, hi1, hb1⟩
  have c3 := box_cell hb1 3 vr rfl
  have c4 := box_cell hb1 4 vw rfl
  have c5 := box_cell hb1 5 (.bool lo) rfl
  have c6 := box_cell hb1 6 (.bool ov) rfl
  have c7 := box_cell hb1 7 (.bool re) rfl
  have c8 := box_cell hb1 8 (.bool kn) rfl
  have c9 := box_cell hb1 9 (.bool fl) rfl
  have HR1 := Lib.hid (HN.out.r.mono hb1)
  have HW1 := Lib.hid (HN.out.w.mono hb1)
  have HB := Lib.hid (box_below hb1)
  have HI1 := Lib.hid hi1
  have hbx : w.heap.size < w1.heap.size := by have := hb1.size; simp at this; omega
  clear H HN hb1 hi1
  by_cases hall : (lo || ov || re || (!kn && fl)) = true
  · have HD := Lib.hid (show lDecide port M O R W lo ov re kn fl = lFlood port M O from by rw [lDecide, if_pos hall])
    clear c3 c4 HR1 HW1
    cases lo
    cases ov
    cases re
    cases kn
    cases fl
    all_goals first | (exfalso; simp at hall; done) | skip
    all_goals clear hall
    all_goals go_wp2
    all_goals go_ret
    all_goals exact ⟨_, rfl, by rw [HD.out]; exact HI1.out, HB.out⟩
  · have HD := Lib.hid (show (lFlood port M O).filter (pDecide R W kn) = lDecide port M O R W lo ov re kn fl from by rw [lDecide, if_neg hall, lFlood, filter_canon])
    have hwl := HI1.out.wf
    obtain ⟨b, off, hm, hlen, hidx, hc⟩ := HI1.out.facts
    obtain ⟨S, hS⟩ : ∃ S, lFlood port M O = S := ⟨_, rfl⟩
    rw [hS] at hm hlen hidx hc hwl
    obtain ⟨q, hq⟩ : ∃ q, q = pDecide R W kn := ⟨_, rfl⟩
    have HQ := Lib.hid (show ∀ x, q x = (R.contains x || (kn && W.contains x)) from fun x => by rw [hq]; rfl)
    have HSD := Lib.hid (show S.filter q = lDecide port M O R W lo ov re kn fl from by rw [← hS, hq]; exact HD.out)
    have HWS := Lib.hid hwl
    clear HD HI1 hwl hS HWF hq
    cases lo
    cases ov
    cases re
    cases kn
    cases fl
    all_goals first | (exfalso; simp at hall; done) | skip
    all_goals
      clear hall
      go_wp2
      go_loopw [4, 5] (fun o i wr => ∃ k : Nat, k ≤ S.length ∧ i = .int .i64 k ∧ wr.ownsRow w1.heap.size 3 1 o ((S.take k).filter q).length (((S.take k).filter q).map (Value.int .i64)) ∧ Below w1.heap.size w1 wr) (fun _ i _ => S.length - (intOf i).toNat)
      case atStart => exact ⟨0, Nat.zero_le _, rfl, by simpa using World.ownsRow_nil _ _ _ _, Below.refl _ _⟩
      case round =>
        obtain ⟨k, hk, rfl, hown, hbel⟩ := hrel
        by_cases hlt : k < S.length
        · have hp := hidx k hlt
          obtain ⟨x, hx⟩ : ∃ x, S[k] = x := ⟨_, rfl⟩
          have hcell := (hbel.cell (p := ⟨b, off + k, none⟩) (hc k hlt).1).trans (hc k hlt).2
          rw [show S.getD k 0 = x from by rw [← hx]; simp [List.getD_eq_getElem?_getD, hlt]] at hcell
          have HF := Lib.hid (filter_snoc q S k hlt x hx)
          have hfl := filter_len q S k
          have d3 := (hbel.cell (p := ⟨w.heap.size, 3, none⟩) hbx).trans c3
          have d4 := (hbel.cell (p := ⟨w.heap.size, 4, none⟩) hbx).trans c4
          have d8 := (hbel.cell (p := ⟨w.heap.size, 8, none⟩) hbx).trans c8
          have hs0 := hbel.size
          have hL3 : ((S.take k).filter q).length + 1 ≤ maxLen := by unfold maxLen; omega
          have hL4 : (((S.take k).filter q).length + 1) * 8 ≤ 140737488355328 := by omega
          have HA := fun n => has_any vr R x (wr.drewN n) ((HR1.out.mono hbel).draws n)
          have HA2 := fun n => has_any vw W x (wr.drewN n) ((HW1.out.mono hbel).draws n)
          have hqx := HQ.out x
          clear hidx hc hx c3 c4 c5 c6 c7 c8 c9 hfl HQ
          cases hr : R.contains x
          all_goals cases hw : W.contains x
          all_goals
            rw [hr] at HA
            rw [hw] at HA2
            rw [hr, hw] at hqx
            have HA := Lib.hid HA
            have HA2 := Lib.hid HA2
            clear hr hw
          all_goals first
            | (have HP := Lib.hid (show (S.take (k + 1)).filter q = (S.take k).filter q from by rw [HF.out, hqx]; rfl)
               clear HF hqx
               go_wp2
               go_quiet ((first | (with_reducible refine quietS (HA.out _)) | (with_reducible refine quietS (HA2.out _))))
               go_wp2
               go_roundw
               case rel => exact ⟨k + 1, by omega, by go_num, by rw [HP.out]; exact hown, below_draws _ hbel _⟩
               case measure => simp [intOf]; omega)
            | (have HP := Lib.hid (show (S.take (k + 1)).filter q = (S.take k).filter q ++ [x] from by rw [HF.out, hqx]; rfl)
               clear HF hqx
               go_wp2
               go_quiet ((first | (with_reducible refine quietS (HA.out _)) | (with_reducible refine quietS (HA2.out _))))
               have hownD : (wr.drewN nq).ownsRow w1.heap.size 3 1 u4 ((S.take k).filter q).length (((S.take k).filter q).map (Value.int .i64)) := hown
               have hbelD := below_draws _ hbel nq
               go_wp2_with (at_builtin; refine wpList_append_own _ rfl _ _ 22 rfl w1.heap.size 3 i0 (.int .i64 0) 1 8 Try.underlying22 hi hz0 hz1 hz2 rfl (by decide) u4 _ _ rfl (hownD.alloc _) ⟨(wr.drewN nq).heap.size, 0, none⟩ 1 1 [.int .i64 x] rfl rfl (cell_one_new _ _ _) (ints_oneCell .i64 [x]) hL3 hL4 (by simp at hs0 ⊢; omega) ?_; intro v' w2 hown2 hg2 _)
               go_roundw
               case rel =>
                 refine ⟨k + 1, by omega, by go_num, ?_, below_own ((hbelD.alloc (by simp at hs0 ⊢; omega) _)) (hownD.alloc _) (Nat.le_refl _) (by simp at hs0 ⊢; omega) hg2⟩
                 rw [HP.out, List.length_append, List.map_append]
                 exact hown2
               case measure => simp [intOf]; omega)
        · obtain rfl : k = S.length := by omega
          have hfl := filter_len q S S.length
          rw [List.take_length] at hown hfl
          have hi := Ints.own hown (by omega) (wf_filter HWS.out)
          rw [HSD.out] at hi
          have HI := Lib.hid hi
          clear hidx hc hi hown hlt c3 c4 c5 c6 c7 c8 c9 HQ
          go_wp2
          go_ret
          exact ⟨_, rfl, HI.out, HB.out.trans (hbel.mono HB.out.size)⟩
end Go.Proofs.Ytmjpjpdgejpeeaa
