/- Texts joined into one file: BR23, BRk, BLc, BLw. -/
import Derived.Test.YthcdppppppgckaaGreatDoorC41
import Derived.Test.YthcdppppppgckaaGreatDoorC38

namespace Go.Proofs.YthcdppppppgckaaGreatDoor
open Go.RowKit Go.Lib Go.Sort
set_option maxRecDepth 20000
set_option maxRecDepth 20000
attribute [local go_sem] bstr_size bstr_toList

set_option maxHeartbeats 4000000 in
theorem rmay15_any (v : Value) (L : List Int) (w : World) (h : Ints w v L) :
 Calls Tryz.prog 40 #[v] w fun e w' => e = .returned (.bool (costsOk L)) ∧ w = w' := by
 obtain ⟨b, off, hm, hlen, hidx, hc⟩ := h.facts
 clear h
 have HNO := Lib.hid (fun k (hk : k < L.length) (h : L[k] < 1 ∨ 200000000 < L[k]) => costs_no hk h)
 cases q1 : decide (L.length < 1)
 · cases q2 : decide (16 < L.length)
   · have b1 := of_decide_eq_false q1; have b2 := of_decide_eq_false q2
     have d1 : decide ((L.length : Int) < 1) = false := decide_eq_false (by omega)
     have d2 : decide ((16 : Int) < L.length) = false := decide_eq_false (by omega)
     have HYES := Lib.hid (fun h => costs_yes (L := L) (by omega) (by omega) h)
     clear b1 b2
     go_enter Tryz.func40, Tryz.ntmps40
     go_wp2_with fail
     go_loop [3] (fun i => ∃ k : Nat, k ≤ L.length ∧ i = .int .i64 (k : Nat) ∧ ∀ j, (hj : j < L.length) → j < k → 1 ≤ L[j] ∧ L[j] ≤ 200000000) (fun i => L.length - (intOf i).toNat)
     case atStart => exact ⟨0, Nat.zero_le _, rfl, fun j _ h => absurd h (by omega)⟩
     case round =>
      obtain ⟨k, hk, rfl, hall⟩ := hrel
      clear q1 q2 d1 d2
      by_cases hlt : k < L.length
      · have hp := hidx k hlt
        have hcell := (hc k hlt).2
        rw [show L.getD k 0 = L[k] from by simp [List.getD_eq_getElem?_getD, hlt]] at hcell
        have HN := Lib.hid (HNO.out k hlt)
        have HSN := Lib.hid (fun (h : 1 ≤ L[k] ∧ L[k] ≤ 200000000) j (hj : j < L.length) (hjk : j < k + 1) => (show 1 ≤ L[j] ∧ L[j] ≤ 200000000 from by
         rcases Nat.lt_or_ge j k with q | q
         · exact hall j hj q
         · obtain rfl : j = k := by omega
           exact h))
        obtain ⟨x, hx⟩ : ∃ x, L[k] = x := ⟨_, rfl⟩
        rw [hx] at hcell HN HSN
        clear hidx hc hall hx
        cases r1 : decide (x < 1)
        · cases r2 : decide (200000000 < x)
          · have HS := Lib.hid (HSN.out ⟨by have := of_decide_eq_false r1; omega, by have := of_decide_eq_false r2; omega⟩)
            go_wp2_with fail
            go_round
            case rel => exact ⟨k + 1, by omega, by go_num, HS.out⟩
            case measure => simp [intOf]; omega
          · have HR := Lib.hid (HN.out (.inr (of_decide_eq_true r2)))
            go_wp2_with fail
            go_ret
            exact ⟨by rw [HR.out]; rfl, rfl⟩
        · have HR := Lib.hid (HN.out (.inl (of_decide_eq_true r1)))
          go_wp2_with fail
          go_ret
          exact ⟨by rw [HR.out]; rfl, rfl⟩
      · have HR := Lib.hid (HYES.out (fun j hj => hall j hj (by omega)))
        clear hidx hc hall
        go_wp2_with fail
        go_ret
        exact ⟨by rw [HR.out]; rfl, rfl⟩
   · have hn : costsOk L = false := by have := of_decide_eq_true q2; unfold costsOk; simp; omega
     have b1 := of_decide_eq_false q1; have b2 := of_decide_eq_true q2
     have d1 : decide ((L.length : Int) < 1) = false := decide_eq_false (by omega)
     have d2 : decide ((16 : Int) < L.length) = true := decide_eq_true (by omega)
     rw [hn]
     clear b1 b2 hn hidx hc
     go_enter Tryz.func40, Tryz.ntmps40
     go_wp2_with fail
     go_ret
     exact ⟨rfl, rfl⟩
 · have hn : costsOk L = false := by have := of_decide_eq_true q1; unfold costsOk; simp; omega
   have b1 := of_decide_eq_true q1
   have d1 : decide ((L.length : Int) < 1) = true := decide_eq_true (by omega)
   rw [hn]
   clear b1 hn hidx hc
   go_enter Tryz.func40, Tryz.ntmps40
   go_wp2_with fail
   go_ret
   exact ⟨rfl, rfl⟩
theorem rwithin_any (n a b : Int) (w : World) :
 Calls Tryz.prog 43 #[.int .i64 n, .int .i64 a, .int .i64 b] w fun e w' => e = .returned (.bool (inBetween n a b)) ∧ w = w' := by
 unfold inBetween
 cases q1 : decide (a ≤ n)
 · go_enter Tryz.func43, Tryz.ntmps43
   go_wp2
   go_ret
   exact ⟨rfl, rfl⟩
 · cases q2 : decide (n ≤ b)
   · go_enter Tryz.func43, Tryz.ntmps43
     go_wp2
     go_ret
     exact ⟨rfl, rfl⟩
   · go_enter Tryz.func43, Tryz.ntmps43
     go_wp2
     go_ret
     exact ⟨rfl, rfl⟩
theorem rtime_any (n : Int) (w : World) :
 Calls Tryz.prog 14 #[.int .i64 n] w fun e w' => e = .returned (.bool (inBetween n 1 1099511627776)) ∧ w = w' := by
 unfold inBetween
 cases q1 : decide (1 ≤ n)
 · go_enter Tryz.func14, Tryz.ntmps14
   go_wp2
   go_ret
   exact ⟨rfl, rfl⟩
 · cases q2 : decide (n ≤ 1099511627776)
   · go_enter Tryz.func14, Tryz.ntmps14
     go_wp2
     go_ret
     exact ⟨rfl, rfl⟩
   · go_enter Tryz.func14, Tryz.ntmps14
     go_wp2
     go_ret
     exact ⟨rfl, rfl⟩
def zs (n : Nat) : Str := List.replicate n 0
theorem zerosB_rep {s : Str} {n : Nat} (h : s.length = n) : zerosB s = (s == zs n) := by
 subst h
 rw [Bool.eq_iff_iff, beq_iff_eq]
 unfold zerosB zs
 rw [List.all_eq_true]
 constructor
 · intro h
   refine List.eq_replicate_iff.2 ⟨rfl, fun b hb => ?_⟩
   exact eq_of_beq (h b hb)
 · intro h x hx
   rw [h] at hx
   rw [List.eq_of_mem_replicate hx]
   rfl
theorem rself_any (s : Str) (n : Nat) (hn : n = 4 ∨ n = 16) (w : World) : Calls Tryz.prog 42 #[.string (bstr s), .int .i64 (n : Nat)] w fun e w' => e = .returned (.bool (selfB s n)) ∧ w = w' := by
 cases s with
 | nil =>
   rw [bstr_nil]
   go_enter Tryz.func42, Tryz.ntmps42
   go_wp2
   go_ret
   exact ⟨rfl, rfl⟩
 | cons c r =>
   have e1 : (c :: r).isEmpty = false := rfl
   cases hl : ((c :: r).length == n)
   · have hz : selfB (c :: r) n = false := by
      unfold selfB
      rw [e1, decide_eq_false (by simpa using hl)]
      rfl
     have hl2 : (((c :: r).length : Int) == (n : Int)) = false := by
      rw [beq_eq_false_iff_ne] at hl ⊢
      omega
     rw [hz]
     clear hz hl
     obtain ⟨m, hm⟩ : ∃ m, (c :: r).length = m := ⟨_, rfl⟩
     have hsz : (bstr (c :: r)).size = m := by rw [bstr_size, hm]
     rw [hm] at hl2
     clear hm
     go_enter Tryz.func42, Tryz.ntmps42
     go_wp2
     go_ret
     exact ⟨rfl, rfl⟩
   · have hl' : (c :: r).length = n := by simpa using hl
     have hl2 : (((c :: r).length : Int) == (n : Int)) = true := by rw [hl']; simp
     have hz : selfB (c :: r) n = !((c :: r) == zs n) := by
      unfold selfB
      rw [e1, decide_eq_true hl', zerosB_rep hl']
      rfl
     have hlen4 : n = 16 → ((c :: r) == ([0, 0, 0, 0] : Str)) = false := fun e => by
      rw [beq_eq_false_iff_ne]
      intro q
      rw [q, e] at hl'
      cases hl'
     have hlen16 : n = 4 → ((c :: r) == ([0, 0, 0, 0, 0, 0, 0, 0, 0, 0, 0, 0, 0, 0, 0, 0] : Str)) = false := fun e => by
      rw [beq_eq_false_iff_ne]
      intro q
      rw [q, e] at hl'
      cases hl'
     rw [hz]
     obtain ⟨m, hm⟩ : ∃ m, (c :: r).length = m := ⟨_, rfl⟩
     have hsz : (bstr (c :: r)).size = m := by rw [bstr_size, hm]
     rw [hm] at hl2
     rcases hn with rfl | rfl
     · have h16 := hlen16 rfl
       replace hl2 : ((m : Int) == 4) = true := hl2
       cases h4 : ((c :: r) == ([0, 0, 0, 0] : Str))
       · rw [show ((c :: r) == zs 4) = false from h4]
         clear hz hl hl' hm hlen4 hlen16
         go_enter Tryz.func42, Tryz.ntmps42
         go_wp2
         go_ret
         exact ⟨rfl, rfl⟩
       · rw [show ((c :: r) == zs 4) = true from h4]
         clear hz hl hl' hm hlen4 hlen16
         go_enter Tryz.func42, Tryz.ntmps42
         go_wp2
         go_ret
         exact ⟨rfl, rfl⟩
     · have h4 := hlen4 rfl
       replace hl2 : ((m : Int) == 16) = true := hl2
       cases h16 : ((c :: r) == ([0, 0, 0, 0, 0, 0, 0, 0, 0, 0, 0, 0, 0, 0, 0, 0] : Str))
       · rw [show ((c :: r) == zs 16) = false from h16]
         clear hz hl hl' hm hlen4 hlen16
         go_enter Tryz.func42, Tryz.ntmps42
         go_wp2
         go_ret
         exact ⟨rfl, rfl⟩
       · rw [show ((c :: r) == zs 16) = true from h16]
         clear hz hl hl' hm hlen4 hlen16
         go_enter Tryz.func42, Tryz.ntmps42
         go_wp2
         go_ret
         exact ⟨rfl, rfl⟩
theorem rself_4 (s : Str) (w : World) : Calls Tryz.prog 42 #[.string (bstr s), .int .i64 4] w fun e w' => e = .returned (.bool (selfB s 4)) ∧ w = w' := rself_any s 4 (.inl rfl) w
theorem rself_16 (s : Str) (w : World) : Calls Tryz.prog 42 #[.string (bstr s), .int .i64 16] w fun e w' => e = .returned (.bool (selfB s 16)) ∧ w = w' := rself_any s 16 (.inr rfl) w
set_option maxHeartbeats 8000000 in
theorem rvlans_any (R : Nat → Prop) (v : Value) (L : List Pt) (w : World) (h : Pts R w v L) (hn : L.length ≤ 1000) (hl : ∀ p ∈ L, p.tagged.length ≤ 1000000 ∧ p.plain.length ≤ 1000000) :
 Calls Tryz.prog 41 #[v] w (RetInts w (asc (allV L))) := by
 obtain ⟨i0, hi, hz0, hz1, hz2⟩ := info_parts infoIntV
 obtain ⟨b, off, hm, hlen, hidx, hc⟩ := h.facts
 have HLN := Lib.hid (fun k => allV_len L k 1000000 hl)
 have HLL := Lib.hid (fun k (hk : k < L.length) => hl _ (List.getElem_mem hk))
 have HC := Lib.hid hc
 have HN := Lib.hid hn
 clear h hl hc
 go_enter Tryz.func41, Tryz.ntmps41
 go_wp2_with fail
 go_loopw [3, 4] (fun r i wr => ∃ k : Nat, k ≤ L.length ∧ i = .int .i64 (k : Nat) ∧ wr.ownsRow w.heap.size 3 1 r (allV (L.take k)).length ((allV (L.take k)).map (Value.int .i64)) ∧ (∀ x ∈ allV (L.take k), (Lit.int .i64 x).wf = true) ∧ Below w.heap.size w wr) (fun _ i _ => L.length - (intOf i).toNat)
 case atStart => exact ⟨0, Nat.zero_le _, rfl, by rw [List.take_zero]; exact World.ownsRow_nil _ _ _ _, by rw [List.take_zero]; intro x hx; simp [allV] at hx, Below.refl _ _⟩
 case round =>
  obtain ⟨k, hk, rfl, hrow, hwf, hb⟩ := hrel
  by_cases hlt : k < L.length
  · have HS := Lib.hid (allV_take L hlt)
    have HL := Lib.hid (HLN.out k)
    have HL2 := Lib.hid (HLL.out k hlt)
    obtain ⟨hlx, vt, vp, c0, c1, c2, i1, i2⟩ := HC.out k hlt
    have s1 := (hb.cell (p := ⟨b, off + k * 3 + 1, none⟩) hlx).trans c1
    have HC2 := Lib.hid (fun W (hW : Below w.heap.size w W) => (hW.cell (p := ⟨b, off + k * 3 + 2, none⟩) hlx).trans c2)
    have hp := hidx k hlt
    obtain ⟨⟨d, tg, pl⟩, hP0⟩ : ∃ P0, L[k] = P0 := ⟨_, rfl⟩
    rw [hP0] at HS HL2 i1 i2
    dsimp only at HS HL2 i1 i2
    obtain ⟨AV, hAV⟩ : ∃ l, allV (L.take k) = l := ⟨_, rfl⟩
    rw [hAV] at HS HL hrow hwf
    have HWF := Lib.hid (show ∀ x ∈ AV ++ tg ++ pl, (Lit.int .i64 x).wf = true from fun x hx => by
     rcases List.mem_append.1 hx with hx | hx
     · rcases List.mem_append.1 hx with hx | hx
       · exact hwf x hx
       · exact i1.wf x hx
     · exact i2.wf x hx)
    obtain ⟨ao, an, ac, rfl⟩ := i1.shape
    obtain ⟨bo, bn, bc, rfl⟩ := i2.shape
    have IT := Lib.hid (ints_sliceOf (i1.mono hb)); have IP := Lib.hid (fun W (hW : Below w.heap.size w W) => ints_sliceOf (i2.mono hW))
    have HC34 := Lib.hid (show (AV.length + tg.length ≤ maxLen ∧ (AV.length + tg.length) * 8 ≤ 140737488355328) ∧ (AV.length + tg.length + pl.length ≤ maxLen ∧ (AV.length + tg.length + pl.length) * 8 ≤ 140737488355328) from by
     have h1 := HL.out; have h2 := HL2.out; have h3 := HN.out
     have : k * (2 * 1000000) ≤ 1000 * (2 * 1000000) := Nat.mul_le_mul_right _ (by omega)
     unfold maxLen
     omega)
    have HRW := Lib.hid hrow; have HB := Lib.hid hb
    clear hidx hrow hwf hb hlx c0 c1 c2 i1 i2 hP0 hAV
    go_upto_region 6 with (at_builtin; refine wpList_append_vals _ rfl _ _ 23 rfl w.heap.size 3 i0 _ 1 8 Tryz.underlying23 hi hz0 hz1 hz2 rfl (by decide) _ AV.length (AV.map (Value.int .i64)) rfl HRW.out (.slice ao an ac) tg.length (tg.map (Value.int .i64)) rfl IT.out HC34.out.1.1 HC34.out.1.2 HB.out.size ?_; intro v' wA ho hg hv; have BA := Lib.hid (below_own HB.out HRW.out (Nat.le_refl _) HB.out.size hg); have RA := Lib.hid ho; clear ho hg hv)
    have s2 := HC2.out wA BA.out
    have ra := RA.out
    rw [← List.map_append, ← List.length_append] at ra
    have RA2 := Lib.hid ra
    clear ra s1
    go_wp2_with (at_builtin; refine wpList_append_vals _ rfl _ _ 23 rfl w.heap.size 3 i0 _ 1 8 Tryz.underlying23 hi hz0 hz1 hz2 rfl (by decide) _ (AV ++ tg).length ((AV ++ tg).map (Value.int .i64)) rfl RA2.out (.slice bo bn bc) pl.length (pl.map (Value.int .i64)) rfl (IP.out wA BA.out) (by rw [List.length_append]; exact HC34.out.2.1) (by rw [List.length_append]; exact HC34.out.2.2) BA.out.size ?_; intro v'' wB ho hg hv; have BB := Lib.hid (below_own BA.out RA2.out (Nat.le_refl _) BA.out.size hg); have RB := Lib.hid ho; clear ho hg hv)
    go_roundw
    case rel => exact ⟨k + 1, by omega, by go_num, by rw [HS.out, List.length_append, List.map_append]; exact RB.out, by rw [HS.out]; exact HWF.out, BB.out⟩
    case measure => simp [intOf]; omega
  · obtain rfl : k = L.length := by omega
    rw [List.take_length] at hrow hwf
    have hlen2 := HLN.out L.length
    rw [List.take_length] at hlen2
    have HI := Lib.hid (Ints.own hrow (by have := HN.out; have : L.length * (2 * 1000000) ≤ 1000 * (2 * 1000000) := Nat.mul_le_mul_right _ (by omega); omega) hwf)
    have HSO := Lib.hid (sorted_any u3 (allV L) wr HI.out)
    have HB := Lib.hid hb
    clear hidx hrow hwf hb hlen2
    go_wp2_with ((with_reducible refine HSO.out.mono ?_); rintro e w2 ⟨v2, rfl, hi2, hb2⟩; have HI2 := Lib.hid hi2; have HB2 := Lib.hid (HB.out.trans (hb2.mono HB.out.size)); clear hi2 hb2)
    go_ret
    exact ⟨_, rfl, HI2.out, HB2.out⟩
end Go.Proofs.YthcdppppppgckaaGreatDoor

namespace Go.Proofs.YthcdppppppgckaaGreatDoor
open Go.RowKit Go.Lib Go.Maps Go.Sort
set_option maxRecDepth 20000
set_option maxRecDepth 20000

theorem vlOk_asc (l : List Pt) : VlOk l ↔ (asc (allV l)).length ≤ 20 := by
 constructor
 · intro h
   exact h _ (asc_rising _) fun x => asc_mem _ x
 · intro h R h1 h2
   rw [rises_uniq h1 (asc_rising (allV l)) fun x => (h2 x).trans (asc_mem _ x).symm]
   exact h

set_option maxHeartbeats 8000000 in
theorem rck_bad0 (R : Nat → Prop) (c : Cfg) (vc vp : Value) (w : World) (h : CfgIn w R c vc vp) (h_check : vCheck c.ports = 3) :
 Calls Tryz.prog 13 #[encC c vc vp] w (RetNm 3 w) := by
 obtain ⟨W1, hW1⟩ : ∃ W, w.alloc (.cells (ccells c vc vp) 27) = W := ⟨_, rfl⟩
 obtain ⟨q0, hq0⟩ : ∃ q, w.heap.size = q := ⟨_, rfl⟩
 have hb1 : Below w.heap.size w W1 := by rw [← hW1]; exact (Below.refl _ _).alloc (Nat.le_refl _) _
 have hx1 : CBox W1 q0 27 (ccells c vc vp) := by rw [← hW1]; exact CBox.new _ hq0.symm
 have HV := Lib.hid (rcheck12_any R vp c.ports W1 (h.ports.mono hb1))
 rw [h_check] at HV
 obtain ⟨_, _, _, lc, _, _⟩ := h.costs.facts
 obtain ⟨_, _, _, lp, _, _⟩ := h.ports.facts
 obtain ⟨ao, an, ac, rfl⟩ := h.costs.shape
 obtain ⟨bo, bc, rfl⟩ := h.ports.shape
 obtain ⟨n, hn⟩ : ∃ n, c.ports.length = n := ⟨_, rfl⟩
 clear lc lp
 have X1 := Lib.hid hx1; have B1 := Lib.hid hb1; have HW1 := Lib.hid hW1; have HQ0 := Lib.hid hq0
 obtain ⟨id, costs, ports, s4, s6, ev, rb, me, la, ag, ro, fl, fa⟩ := c
 unfold encC
 unfold ccells at HW1 X1 ⊢
 dsimp only at HV hn HW1 X1 ⊢
 rw [hn] at HV X1 HW1 ⊢
 clear h hW1 hq0 hb1 hx1 hn h_check
 go_enter Tryz.func13, Tryz.ntmps13
 go_upto_region 1 with fail
 rw [HW1.out, HQ0.out]
 obtain ⟨c0, c1, c2, c3, c4, c5, c6, c7, c8, c9, c10, c11, c12⟩ := box13 X1.out
 go_wp2_with (first | ((with_reducible refine HV.out.mono ?_); rintro e w2 ⟨rfl, hb2⟩; have B2 := Lib.hid hb2; have X2 := Lib.hid (X1.out.below hb2 X1.out.lt); clear hb2 c0 c1 c2 c3 c4 c5 c6 c7 c8 c9 c10 c11 c12; obtain ⟨c0, c1, c2, c3, c4, c5, c6, c7, c8, c9, c10, c11, c12⟩ := box13 X2.out))
 go_ret
 exact ⟨rfl, B1.out.trans (B2.out.mono B1.out.size)⟩
set_option maxHeartbeats 8000000 in
theorem rck_bad1 (R : Nat → Prop) (c : Cfg) (vc vp : Value) (w : World) (h : CfgIn w R c vc vp) (h_check : vCheck c.ports = 0) (h_len : c.costs.length ≠ c.ports.length) :
 Calls Tryz.prog 13 #[encC c vc vp] w (RetNm 3 w) := by
 obtain ⟨W1, hW1⟩ : ∃ W, w.alloc (.cells (ccells c vc vp) 27) = W := ⟨_, rfl⟩
 obtain ⟨q0, hq0⟩ : ∃ q, w.heap.size = q := ⟨_, rfl⟩
 have hb1 : Below w.heap.size w W1 := by rw [← hW1]; exact (Below.refl _ _).alloc (Nat.le_refl _) _
 have hx1 : CBox W1 q0 27 (ccells c vc vp) := by rw [← hW1]; exact CBox.new _ hq0.symm
 have HV := Lib.hid (rcheck12_any R vp c.ports W1 (h.ports.mono hb1))
 rw [h_check] at HV
 obtain ⟨_, _, _, lc, _, _⟩ := h.costs.facts
 obtain ⟨_, _, _, lp, _, _⟩ := h.ports.facts
 obtain ⟨ao, an, ac, rfl⟩ := h.costs.shape
 obtain ⟨bo, bc, rfl⟩ := h.ports.shape
 obtain ⟨n, hn⟩ : ∃ n, c.ports.length = n := ⟨_, rfl⟩
 rw [hn] at h_len lp
 obtain ⟨cn, hcn⟩ : ∃ n, c.costs.length = n := ⟨_, rfl⟩
 rw [hcn] at h_len lc
 have hne1 : ((cn : Int) == (n : Int)) = false := by rw [beq_eq_false_iff_ne]; omega
 have hne2 : ((cn : Int) != (n : Int)) = true := by rw [bne_iff_ne]; omega
 clear hcn
 have X1 := Lib.hid hx1; have B1 := Lib.hid hb1; have HW1 := Lib.hid hW1; have HQ0 := Lib.hid hq0
 obtain ⟨id, costs, ports, s4, s6, ev, rb, me, la, ag, ro, fl, fa⟩ := c
 unfold encC
 unfold ccells at HW1 X1 ⊢
 dsimp only at HV hn HW1 X1 ⊢
 rw [hn] at HV X1 HW1 ⊢
 clear h hW1 hq0 hb1 hx1 hn h_check h_len
 go_enter Tryz.func13, Tryz.ntmps13
 go_upto_region 1 with fail
 rw [HW1.out, HQ0.out]
 obtain ⟨c0, c1, c2, c3, c4, c5, c6, c7, c8, c9, c10, c11, c12⟩ := box13 X1.out
 go_wp2_with (first | ((with_reducible refine HV.out.mono ?_); rintro e w2 ⟨rfl, hb2⟩; have B2 := Lib.hid hb2; have X2 := Lib.hid (X1.out.below hb2 X1.out.lt); clear hb2 c0 c1 c2 c3 c4 c5 c6 c7 c8 c9 c10 c11 c12; obtain ⟨c0, c1, c2, c3, c4, c5, c6, c7, c8, c9, c10, c11, c12⟩ := box13 X2.out))
 go_ret
 exact ⟨rfl, B1.out.trans (B2.out.mono B1.out.size)⟩
set_option maxHeartbeats 8000000 in
theorem rck_bad2 (R : Nat → Prop) (c : Cfg) (vc vp : Value) (w : World) (h : CfgIn w R c vc vp) (h_check : vCheck c.ports = 0) (h_len : c.costs.length = c.ports.length) (h_costs : costsOk c.costs = false) :
 Calls Tryz.prog 13 #[encC c vc vp] w (RetNm 3 w) := by
 obtain ⟨W1, hW1⟩ : ∃ W, w.alloc (.cells (ccells c vc vp) 27) = W := ⟨_, rfl⟩
 obtain ⟨q0, hq0⟩ : ∃ q, w.heap.size = q := ⟨_, rfl⟩
 have hb1 : Below w.heap.size w W1 := by rw [← hW1]; exact (Below.refl _ _).alloc (Nat.le_refl _) _
 have hx1 : CBox W1 q0 27 (ccells c vc vp) := by rw [← hW1]; exact CBox.new _ hq0.symm
 have HV := Lib.hid (rcheck12_any R vp c.ports W1 (h.ports.mono hb1))
 rw [h_check] at HV
 obtain ⟨_, _, _, lc, _, _⟩ := h.costs.facts
 obtain ⟨_, _, _, lp, _, _⟩ := h.ports.facts
 rw [h_len] at lc
 have HMY := Lib.hid (fun W (hW : Below W1.heap.size W1 W) => rmay15_any vc c.costs W ((h.costs.mono hb1).mono hW))
 rw [h_costs] at HMY
 obtain ⟨ao, an, ac, rfl⟩ := h.costs.shape
 obtain ⟨bo, bc, rfl⟩ := h.ports.shape
 obtain ⟨n, hn⟩ : ∃ n, c.ports.length = n := ⟨_, rfl⟩
 rw [hn] at lc lp
 have X1 := Lib.hid hx1; have B1 := Lib.hid hb1; have HW1 := Lib.hid hW1; have HQ0 := Lib.hid hq0
 obtain ⟨id, costs, ports, s4, s6, ev, rb, me, la, ag, ro, fl, fa⟩ := c
 unfold encC
 unfold ccells at HW1 X1 ⊢
 dsimp only at HV HMY hn HW1 X1 ⊢
 rw [hn] at HV X1 HW1 ⊢
 clear h hW1 hq0 hb1 hx1 hn h_check h_len h_costs
 go_enter Tryz.func13, Tryz.ntmps13
 go_upto_region 1 with fail
 rw [HW1.out, HQ0.out]
 obtain ⟨c0, c1, c2, c3, c4, c5, c6, c7, c8, c9, c10, c11, c12⟩ := box13 X1.out
 go_wp2_with (first | ((with_reducible refine HV.out.mono ?_); rintro e w2 ⟨rfl, hb2⟩; have B2 := Lib.hid hb2; have X2 := Lib.hid (X1.out.below hb2 X1.out.lt); clear hb2 c0 c1 c2 c3 c4 c5 c6 c7 c8 c9 c10 c11 c12; obtain ⟨c0, c1, c2, c3, c4, c5, c6, c7, c8, c9, c10, c11, c12⟩ := box13 X2.out) | ((with_reducible refine (HMY.out w2 B2.out).mono ?_); rintro e w3 ⟨rfl, hw3⟩; subst w3))
 go_ret
 exact ⟨rfl, B1.out.trans (B2.out.mono B1.out.size)⟩
set_option maxHeartbeats 8000000 in
theorem rck_bad3 (R : Nat → Prop) (c : Cfg) (vc vp : Value) (w : World) (h : CfgIn w R c vc vp) (h_check : vCheck c.ports = 0) (h_len : c.costs.length = c.ports.length) (h_costs : costsOk c.costs = true) (h_vl : ¬ VlOk c.ports) :
 Calls Tryz.prog 13 #[encC c vc vp] w (RetNm 3 w) := by
 obtain ⟨W1, hW1⟩ : ∃ W, w.alloc (.cells (ccells c vc vp) 27) = W := ⟨_, rfl⟩
 obtain ⟨q0, hq0⟩ : ∃ q, w.heap.size = q := ⟨_, rfl⟩
 have hb1 : Below w.heap.size w W1 := by rw [← hW1]; exact (Below.refl _ _).alloc (Nat.le_refl _) _
 have hx1 : CBox W1 q0 27 (ccells c vc vp) := by rw [← hW1]; exact CBox.new _ hq0.symm
 have HV := Lib.hid (rcheck12_any R vp c.ports W1 (h.ports.mono hb1))
 rw [h_check] at HV
 obtain ⟨_, _, _, lc, _, _⟩ := h.costs.facts
 obtain ⟨_, _, _, lp, _, _⟩ := h.ports.facts
 rw [h_len] at lc
 have HMY := Lib.hid (fun W (hW : Below W1.heap.size W1 W) => rmay15_any vc c.costs W ((h.costs.mono hb1).mono hW))
 rw [h_costs] at HMY
 have HVL := Lib.hid (fun W (hW : Below W1.heap.size W1 W) => rvlans_any R vp c.ports W ((h.ports.mono hb1).mono hW) (by have := fine_len h_check; omega) (fine_lens h_check))
 have hvm := (vlOk_asc c.ports)
 obtain ⟨AS, hAS⟩ : ∃ l, asc (allV c.ports) = l := ⟨_, rfl⟩
 rw [hAS] at HVL hvm
 have hd4 : decide ((20 : Int) < (AS.length : Int)) = true := decide_eq_true (by have := mt hvm.2 h_vl; omega)
 clear hvm hAS
 obtain ⟨ao, an, ac, rfl⟩ := h.costs.shape
 obtain ⟨bo, bc, rfl⟩ := h.ports.shape
 obtain ⟨n, hn⟩ : ∃ n, c.ports.length = n := ⟨_, rfl⟩
 rw [hn] at lc lp
 have X1 := Lib.hid hx1; have B1 := Lib.hid hb1; have HW1 := Lib.hid hW1; have HQ0 := Lib.hid hq0
 obtain ⟨id, costs, ports, s4, s6, ev, rb, me, la, ag, ro, fl, fa⟩ := c
 unfold encC
 unfold ccells at HW1 X1 ⊢
 dsimp only at HV HMY HVL hn HW1 X1 ⊢
 rw [hn] at HV HVL X1 HW1 ⊢
 clear h hW1 hq0 hb1 hx1 hn h_check h_len h_costs h_vl
 go_enter Tryz.func13, Tryz.ntmps13
 go_upto_region 1 with fail
 rw [HW1.out, HQ0.out]
 obtain ⟨c0, c1, c2, c3, c4, c5, c6, c7, c8, c9, c10, c11, c12⟩ := box13 X1.out
 go_wp2_with (first | ((with_reducible refine HV.out.mono ?_); rintro e w2 ⟨rfl, hb2⟩; have B2 := Lib.hid hb2; have X2 := Lib.hid (X1.out.below hb2 X1.out.lt); clear hb2 c0 c1 c2 c3 c4 c5 c6 c7 c8 c9 c10 c11 c12; obtain ⟨c0, c1, c2, c3, c4, c5, c6, c7, c8, c9, c10, c11, c12⟩ := box13 X2.out) | ((with_reducible refine (HMY.out w2 B2.out).mono ?_); rintro e w3 ⟨rfl, hw3⟩; subst w3) | ((with_reducible refine (HVL.out w2 B2.out).mono ?_); rintro e w4 ⟨v4, rfl, hi4, hb4⟩; have B4 := Lib.hid (B2.out.trans (hb4.mono B2.out.size)); have X4 := Lib.hid (X2.out.below hb4 X2.out.lt); obtain ⟨_, _, _, lr, _, _⟩ := hi4.facts; clear hb4 hi4 c0 c1 c2 c3 c4 c5 c6 c7 c8 c9 c10 c11 c12; obtain ⟨c0, c1, c2, c3, c4, c5, c6, c7, c8, c9, c10, c11, c12⟩ := box13 X4.out))
 go_ret
 exact ⟨rfl, B1.out.trans (B4.out.mono B1.out.size)⟩
set_option maxHeartbeats 8000000 in
theorem rck_bad4 (R : Nat → Prop) (c : Cfg) (vc vp : Value) (w : World) (h : CfgIn w R c vc vp) (h_check : vCheck c.ports = 0) (h_len : c.costs.length = c.ports.length) (h_costs : costsOk c.costs = true) (h_vl : VlOk c.ports) (h_self4 : selfB c.self4 4 = false) :
 Calls Tryz.prog 13 #[encC c vc vp] w (RetNm 3 w) := by
 obtain ⟨W1, hW1⟩ : ∃ W, w.alloc (.cells (ccells c vc vp) 27) = W := ⟨_, rfl⟩
 obtain ⟨q0, hq0⟩ : ∃ q, w.heap.size = q := ⟨_, rfl⟩
 have hb1 : Below w.heap.size w W1 := by rw [← hW1]; exact (Below.refl _ _).alloc (Nat.le_refl _) _
 have hx1 : CBox W1 q0 27 (ccells c vc vp) := by rw [← hW1]; exact CBox.new _ hq0.symm
 have HV := Lib.hid (rcheck12_any R vp c.ports W1 (h.ports.mono hb1))
 rw [h_check] at HV
 obtain ⟨_, _, _, lc, _, _⟩ := h.costs.facts
 obtain ⟨_, _, _, lp, _, _⟩ := h.ports.facts
 rw [h_len] at lc
 have HMY := Lib.hid (fun W (hW : Below W1.heap.size W1 W) => rmay15_any vc c.costs W ((h.costs.mono hb1).mono hW))
 rw [h_costs] at HMY
 have HVL := Lib.hid (fun W (hW : Below W1.heap.size W1 W) => rvlans_any R vp c.ports W ((h.ports.mono hb1).mono hW) (by have := fine_len h_check; omega) (fine_lens h_check))
 have hvm := (vlOk_asc c.ports)
 obtain ⟨AS, hAS⟩ : ∃ l, asc (allV c.ports) = l := ⟨_, rfl⟩
 rw [hAS] at HVL hvm
 have hd4 : decide ((20 : Int) < (AS.length : Int)) = false := decide_eq_false (by have := hvm.1 h_vl; omega)
 clear hvm hAS
 have HS4 := Lib.hid (fun W => rself_4 c.self4 W)
 rw [h_self4] at HS4
 obtain ⟨ao, an, ac, rfl⟩ := h.costs.shape
 obtain ⟨bo, bc, rfl⟩ := h.ports.shape
 obtain ⟨n, hn⟩ : ∃ n, c.ports.length = n := ⟨_, rfl⟩
 rw [hn] at lc lp
 have X1 := Lib.hid hx1; have B1 := Lib.hid hb1; have HW1 := Lib.hid hW1; have HQ0 := Lib.hid hq0
 obtain ⟨id, costs, ports, s4, s6, ev, rb, me, la, ag, ro, fl, fa⟩ := c
 unfold encC
 unfold ccells at HW1 X1 ⊢
 dsimp only at HV HMY HVL HS4 hn HW1 X1 ⊢
 rw [hn] at HV HVL X1 HW1 ⊢
 clear h hW1 hq0 hb1 hx1 hn h_check h_len h_costs h_vl h_self4
 go_enter Tryz.func13, Tryz.ntmps13
 go_upto_region 1 with fail
 rw [HW1.out, HQ0.out]
 obtain ⟨c0, c1, c2, c3, c4, c5, c6, c7, c8, c9, c10, c11, c12⟩ := box13 X1.out
 go_wp2_with (first | ((with_reducible refine HV.out.mono ?_); rintro e w2 ⟨rfl, hb2⟩; have B2 := Lib.hid hb2; have X2 := Lib.hid (X1.out.below hb2 X1.out.lt); clear hb2 c0 c1 c2 c3 c4 c5 c6 c7 c8 c9 c10 c11 c12; obtain ⟨c0, c1, c2, c3, c4, c5, c6, c7, c8, c9, c10, c11, c12⟩ := box13 X2.out) | ((with_reducible refine (HMY.out w2 B2.out).mono ?_); rintro e w3 ⟨rfl, hw3⟩; subst w3) | ((with_reducible refine (HVL.out w2 B2.out).mono ?_); rintro e w4 ⟨v4, rfl, hi4, hb4⟩; have B4 := Lib.hid (B2.out.trans (hb4.mono B2.out.size)); have X4 := Lib.hid (X2.out.below hb4 X2.out.lt); obtain ⟨_, _, _, lr, _, _⟩ := hi4.facts; clear hb4 hi4 c0 c1 c2 c3 c4 c5 c6 c7 c8 c9 c10 c11 c12; obtain ⟨c0, c1, c2, c3, c4, c5, c6, c7, c8, c9, c10, c11, c12⟩ := box13 X4.out) | ((with_reducible refine (HS4.out _).mono ?_); rintro e w5 ⟨rfl, hw5⟩; subst w5))
 go_ret
 exact ⟨rfl, B1.out.trans (B4.out.mono B1.out.size)⟩
set_option maxHeartbeats 8000000 in
theorem rck_bad5 (R : Nat → Prop) (c : Cfg) (vc vp : Value) (w : World) (h : CfgIn w R c vc vp) (h_check : vCheck c.ports = 0) (h_len : c.costs.length = c.ports.length) (h_costs : costsOk c.costs = true) (h_vl : VlOk c.ports) (h_self4 : selfB c.self4 4 = true) (h_self6 : selfB c.self6 16 = false) :
 Calls Tryz.prog 13 #[encC c vc vp] w (RetNm 3 w) := by
 obtain ⟨W1, hW1⟩ : ∃ W, w.alloc (.cells (ccells c vc vp) 27) = W := ⟨_, rfl⟩
 obtain ⟨q0, hq0⟩ : ∃ q, w.heap.size = q := ⟨_, rfl⟩
 have hb1 : Below w.heap.size w W1 := by rw [← hW1]; exact (Below.refl _ _).alloc (Nat.le_refl _) _
 have hx1 : CBox W1 q0 27 (ccells c vc vp) := by rw [← hW1]; exact CBox.new _ hq0.symm
 have HV := Lib.hid (rcheck12_any R vp c.ports W1 (h.ports.mono hb1))
 rw [h_check] at HV
 obtain ⟨_, _, _, lc, _, _⟩ := h.costs.facts
 obtain ⟨_, _, _, lp, _, _⟩ := h.ports.facts
 rw [h_len] at lc
 have HMY := Lib.hid (fun W (hW : Below W1.heap.size W1 W) => rmay15_any vc c.costs W ((h.costs.mono hb1).mono hW))
 rw [h_costs] at HMY
 have HVL := Lib.hid (fun W (hW : Below W1.heap.size W1 W) => rvlans_any R vp c.ports W ((h.ports.mono hb1).mono hW) (by have := fine_len h_check; omega) (fine_lens h_check))
 have hvm := (vlOk_asc c.ports)
 obtain ⟨AS, hAS⟩ : ∃ l, asc (allV c.ports) = l := ⟨_, rfl⟩
 rw [hAS] at HVL hvm
 have hd4 : decide ((20 : Int) < (AS.length : Int)) = false := decide_eq_false (by have := hvm.1 h_vl; omega)
 clear hvm hAS
 have HS4 := Lib.hid (fun W => rself_4 c.self4 W)
 rw [h_self4] at HS4
 have HS6 := Lib.hid (fun W => rself_16 c.self6 W)
 rw [h_self6] at HS6
 obtain ⟨ao, an, ac, rfl⟩ := h.costs.shape
 obtain ⟨bo, bc, rfl⟩ := h.ports.shape
 obtain ⟨n, hn⟩ : ∃ n, c.ports.length = n := ⟨_, rfl⟩
 rw [hn] at lc lp
 have X1 := Lib.hid hx1; have B1 := Lib.hid hb1; have HW1 := Lib.hid hW1; have HQ0 := Lib.hid hq0
 obtain ⟨id, costs, ports, s4, s6, ev, rb, me, la, ag, ro, fl, fa⟩ := c
 unfold encC
 unfold ccells at HW1 X1 ⊢
 dsimp only at HV HMY HVL HS4 HS6 hn HW1 X1 ⊢
 rw [hn] at HV HVL X1 HW1 ⊢
 clear h hW1 hq0 hb1 hx1 hn h_check h_len h_costs h_vl h_self4 h_self6
 go_enter Tryz.func13, Tryz.ntmps13
 go_upto_region 1 with fail
 rw [HW1.out, HQ0.out]
 obtain ⟨c0, c1, c2, c3, c4, c5, c6, c7, c8, c9, c10, c11, c12⟩ := box13 X1.out
 go_wp2_with (first | ((with_reducible refine HV.out.mono ?_); rintro e w2 ⟨rfl, hb2⟩; have B2 := Lib.hid hb2; have X2 := Lib.hid (X1.out.below hb2 X1.out.lt); clear hb2 c0 c1 c2 c3 c4 c5 c6 c7 c8 c9 c10 c11 c12; obtain ⟨c0, c1, c2, c3, c4, c5, c6, c7, c8, c9, c10, c11, c12⟩ := box13 X2.out) | ((with_reducible refine (HMY.out w2 B2.out).mono ?_); rintro e w3 ⟨rfl, hw3⟩; subst w3) | ((with_reducible refine (HVL.out w2 B2.out).mono ?_); rintro e w4 ⟨v4, rfl, hi4, hb4⟩; have B4 := Lib.hid (B2.out.trans (hb4.mono B2.out.size)); have X4 := Lib.hid (X2.out.below hb4 X2.out.lt); obtain ⟨_, _, _, lr, _, _⟩ := hi4.facts; clear hb4 hi4 c0 c1 c2 c3 c4 c5 c6 c7 c8 c9 c10 c11 c12; obtain ⟨c0, c1, c2, c3, c4, c5, c6, c7, c8, c9, c10, c11, c12⟩ := box13 X4.out) | ((with_reducible refine (HS4.out _).mono ?_); rintro e w5 ⟨rfl, hw5⟩; subst w5) | ((with_reducible refine (HS6.out _).mono ?_); rintro e w6 ⟨rfl, hw6⟩; subst w6))
 go_ret
 exact ⟨rfl, B1.out.trans (B4.out.mono B1.out.size)⟩
set_option maxHeartbeats 8000000 in
theorem rck_bad6 (R : Nat → Prop) (c : Cfg) (vc vp : Value) (w : World) (h : CfgIn w R c vc vp) (h_check : vCheck c.ports = 0) (h_len : c.costs.length = c.ports.length) (h_costs : costsOk c.costs = true) (h_vl : VlOk c.ports) (h_self4 : selfB c.self4 4 = true) (h_self6 : selfB c.self6 16 = true) (h_every : inBetween c.every 4 1000 = false) :
 Calls Tryz.prog 13 #[encC c vc vp] w (RetNm 3 w) := by
 obtain ⟨W1, hW1⟩ : ∃ W, w.alloc (.cells (ccells c vc vp) 27) = W := ⟨_, rfl⟩
 obtain ⟨q0, hq0⟩ : ∃ q, w.heap.size = q := ⟨_, rfl⟩
 have hb1 : Below w.heap.size w W1 := by rw [← hW1]; exact (Below.refl _ _).alloc (Nat.le_refl _) _
 have hx1 : CBox W1 q0 27 (ccells c vc vp) := by rw [← hW1]; exact CBox.new _ hq0.symm
 have HV := Lib.hid (rcheck12_any R vp c.ports W1 (h.ports.mono hb1))
 rw [h_check] at HV
 obtain ⟨_, _, _, lc, _, _⟩ := h.costs.facts
 obtain ⟨_, _, _, lp, _, _⟩ := h.ports.facts
 rw [h_len] at lc
 have HMY := Lib.hid (fun W (hW : Below W1.heap.size W1 W) => rmay15_any vc c.costs W ((h.costs.mono hb1).mono hW))
 rw [h_costs] at HMY
 have HVL := Lib.hid (fun W (hW : Below W1.heap.size W1 W) => rvlans_any R vp c.ports W ((h.ports.mono hb1).mono hW) (by have := fine_len h_check; omega) (fine_lens h_check))
 have hvm := (vlOk_asc c.ports)
 obtain ⟨AS, hAS⟩ : ∃ l, asc (allV c.ports) = l := ⟨_, rfl⟩
 rw [hAS] at HVL hvm
 have hd4 : decide ((20 : Int) < (AS.length : Int)) = false := decide_eq_false (by have := hvm.1 h_vl; omega)
 clear hvm hAS
 have HS4 := Lib.hid (fun W => rself_4 c.self4 W)
 rw [h_self4] at HS4
 have HS6 := Lib.hid (fun W => rself_16 c.self6 W)
 rw [h_self6] at HS6
 have H6 := Lib.hid (fun W => rwithin_any c.every 4 1000 W)
 rw [h_every] at H6
 obtain ⟨ao, an, ac, rfl⟩ := h.costs.shape
 obtain ⟨bo, bc, rfl⟩ := h.ports.shape
 obtain ⟨n, hn⟩ : ∃ n, c.ports.length = n := ⟨_, rfl⟩
 rw [hn] at lc lp
 have X1 := Lib.hid hx1; have B1 := Lib.hid hb1; have HW1 := Lib.hid hW1; have HQ0 := Lib.hid hq0
 obtain ⟨id, costs, ports, s4, s6, ev, rb, me, la, ag, ro, fl, fa⟩ := c
 unfold encC
 unfold ccells at HW1 X1 ⊢
 dsimp only at HV HMY HVL HS4 HS6 H6 hn HW1 X1 ⊢
 rw [hn] at HV HVL X1 HW1 ⊢
 clear h hW1 hq0 hb1 hx1 hn h_check h_len h_costs h_vl h_self4 h_self6 h_every
 go_enter Tryz.func13, Tryz.ntmps13
 go_upto_region 1 with fail
 rw [HW1.out, HQ0.out]
 obtain ⟨c0, c1, c2, c3, c4, c5, c6, c7, c8, c9, c10, c11, c12⟩ := box13 X1.out
 go_wp2_with (first | ((with_reducible refine HV.out.mono ?_); rintro e w2 ⟨rfl, hb2⟩; have B2 := Lib.hid hb2; have X2 := Lib.hid (X1.out.below hb2 X1.out.lt); clear hb2 c0 c1 c2 c3 c4 c5 c6 c7 c8 c9 c10 c11 c12; obtain ⟨c0, c1, c2, c3, c4, c5, c6, c7, c8, c9, c10, c11, c12⟩ := box13 X2.out) | ((with_reducible refine (HMY.out w2 B2.out).mono ?_); rintro e w3 ⟨rfl, hw3⟩; subst w3) | ((with_reducible refine (HVL.out w2 B2.out).mono ?_); rintro e w4 ⟨v4, rfl, hi4, hb4⟩; have B4 := Lib.hid (B2.out.trans (hb4.mono B2.out.size)); have X4 := Lib.hid (X2.out.below hb4 X2.out.lt); obtain ⟨_, _, _, lr, _, _⟩ := hi4.facts; clear hb4 hi4 c0 c1 c2 c3 c4 c5 c6 c7 c8 c9 c10 c11 c12; obtain ⟨c0, c1, c2, c3, c4, c5, c6, c7, c8, c9, c10, c11, c12⟩ := box13 X4.out) | ((with_reducible refine (HS4.out _).mono ?_); rintro e w5 ⟨rfl, hw5⟩; subst w5) | ((with_reducible refine (HS6.out _).mono ?_); rintro e w6 ⟨rfl, hw6⟩; subst w6) | ((with_reducible refine (H6.out _).mono ?_); rintro e w7 ⟨rfl, hw7⟩; subst w7))
 go_ret
 exact ⟨rfl, B1.out.trans (B4.out.mono B1.out.size)⟩
set_option maxHeartbeats 8000000 in
theorem rck_bad7 (R : Nat → Prop) (c : Cfg) (vc vp : Value) (w : World) (h : CfgIn w R c vc vp) (h_check : vCheck c.ports = 0) (h_len : c.costs.length = c.ports.length) (h_costs : costsOk c.costs = true) (h_vl : VlOk c.ports) (h_self4 : selfB c.self4 4 = true) (h_self6 : selfB c.self6 16 = true) (h_every : inBetween c.every 4 1000 = true) (h_robust : inBetween c.robust 1 7 = false) :
 Calls Tryz.prog 13 #[encC c vc vp] w (RetNm 3 w) := by
 obtain ⟨W1, hW1⟩ : ∃ W, w.alloc (.cells (ccells c vc vp) 27) = W := ⟨_, rfl⟩
 obtain ⟨q0, hq0⟩ : ∃ q, w.heap.size = q := ⟨_, rfl⟩
 have hb1 : Below w.heap.size w W1 := by rw [← hW1]; exact (Below.refl _ _).alloc (Nat.le_refl _) _
 have hx1 : CBox W1 q0 27 (ccells c vc vp) := by rw [← hW1]; exact CBox.new _ hq0.symm
 have HV := Lib.hid (rcheck12_any R vp c.ports W1 (h.ports.mono hb1))
 rw [h_check] at HV
 obtain ⟨_, _, _, lc, _, _⟩ := h.costs.facts
 obtain ⟨_, _, _, lp, _, _⟩ := h.ports.facts
 rw [h_len] at lc
 have HMY := Lib.hid (fun W (hW : Below W1.heap.size W1 W) => rmay15_any vc c.costs W ((h.costs.mono hb1).mono hW))
 rw [h_costs] at HMY
 have HVL := Lib.hid (fun W (hW : Below W1.heap.size W1 W) => rvlans_any R vp c.ports W ((h.ports.mono hb1).mono hW) (by have := fine_len h_check; omega) (fine_lens h_check))
 have hvm := (vlOk_asc c.ports)
 obtain ⟨AS, hAS⟩ : ∃ l, asc (allV c.ports) = l := ⟨_, rfl⟩
 rw [hAS] at HVL hvm
 have hd4 : decide ((20 : Int) < (AS.length : Int)) = false := decide_eq_false (by have := hvm.1 h_vl; omega)
 clear hvm hAS
 have HS4 := Lib.hid (fun W => rself_4 c.self4 W)
 rw [h_self4] at HS4
 have HS6 := Lib.hid (fun W => rself_16 c.self6 W)
 rw [h_self6] at HS6
 have H6 := Lib.hid (fun W => rwithin_any c.every 4 1000 W)
 rw [h_every] at H6
 have H7 := Lib.hid (fun W => rwithin_any c.robust 1 7 W)
 rw [h_robust] at H7
 obtain ⟨ao, an, ac, rfl⟩ := h.costs.shape
 obtain ⟨bo, bc, rfl⟩ := h.ports.shape
 obtain ⟨n, hn⟩ : ∃ n, c.ports.length = n := ⟨_, rfl⟩
 rw [hn] at lc lp
 have X1 := Lib.hid hx1; have B1 := Lib.hid hb1; have HW1 := Lib.hid hW1; have HQ0 := Lib.hid hq0
 obtain ⟨id, costs, ports, s4, s6, ev, rb, me, la, ag, ro, fl, fa⟩ := c
 unfold encC
 unfold ccells at HW1 X1 ⊢
 dsimp only at HV HMY HVL HS4 HS6 H6 H7 hn HW1 X1 ⊢
 rw [hn] at HV HVL X1 HW1 ⊢
 clear h hW1 hq0 hb1 hx1 hn h_check h_len h_costs h_vl h_self4 h_self6 h_every h_robust
 go_enter Tryz.func13, Tryz.ntmps13
 go_upto_region 1 with fail
 rw [HW1.out, HQ0.out]
 obtain ⟨c0, c1, c2, c3, c4, c5, c6, c7, c8, c9, c10, c11, c12⟩ := box13 X1.out
 go_wp2_with (first | ((with_reducible refine HV.out.mono ?_); rintro e w2 ⟨rfl, hb2⟩; have B2 := Lib.hid hb2; have X2 := Lib.hid (X1.out.below hb2 X1.out.lt); clear hb2 c0 c1 c2 c3 c4 c5 c6 c7 c8 c9 c10 c11 c12; obtain ⟨c0, c1, c2, c3, c4, c5, c6, c7, c8, c9, c10, c11, c12⟩ := box13 X2.out) | ((with_reducible refine (HMY.out w2 B2.out).mono ?_); rintro e w3 ⟨rfl, hw3⟩; subst w3) | ((with_reducible refine (HVL.out w2 B2.out).mono ?_); rintro e w4 ⟨v4, rfl, hi4, hb4⟩; have B4 := Lib.hid (B2.out.trans (hb4.mono B2.out.size)); have X4 := Lib.hid (X2.out.below hb4 X2.out.lt); obtain ⟨_, _, _, lr, _, _⟩ := hi4.facts; clear hb4 hi4 c0 c1 c2 c3 c4 c5 c6 c7 c8 c9 c10 c11 c12; obtain ⟨c0, c1, c2, c3, c4, c5, c6, c7, c8, c9, c10, c11, c12⟩ := box13 X4.out) | ((with_reducible refine (HS4.out _).mono ?_); rintro e w5 ⟨rfl, hw5⟩; subst w5) | ((with_reducible refine (HS6.out _).mono ?_); rintro e w6 ⟨rfl, hw6⟩; subst w6) | ((with_reducible refine (H6.out _).mono ?_); rintro e w7 ⟨rfl, hw7⟩; subst w7) | ((with_reducible refine (H7.out _).mono ?_); rintro e w7 ⟨rfl, hw7⟩; subst w7))
 go_ret
 exact ⟨rfl, B1.out.trans (B4.out.mono B1.out.size)⟩
set_option maxHeartbeats 8000000 in
theorem rck_bad8 (R : Nat → Prop) (c : Cfg) (vc vp : Value) (w : World) (h : CfgIn w R c vc vp) (h_check : vCheck c.ports = 0) (h_len : c.costs.length = c.ports.length) (h_costs : costsOk c.costs = true) (h_vl : VlOk c.ports) (h_self4 : selfB c.self4 4 = true) (h_self6 : selfB c.self6 16 = true) (h_every : inBetween c.every 4 1000 = true) (h_robust : inBetween c.robust 1 7 = true) (h_member : inBetween c.member 1 1000 = false) :
 Calls Tryz.prog 13 #[encC c vc vp] w (RetNm 3 w) := by
 obtain ⟨W1, hW1⟩ : ∃ W, w.alloc (.cells (ccells c vc vp) 27) = W := ⟨_, rfl⟩
 obtain ⟨q0, hq0⟩ : ∃ q, w.heap.size = q := ⟨_, rfl⟩
 have hb1 : Below w.heap.size w W1 := by rw [← hW1]; exact (Below.refl _ _).alloc (Nat.le_refl _) _
 have hx1 : CBox W1 q0 27 (ccells c vc vp) := by rw [← hW1]; exact CBox.new _ hq0.symm
 have HV := Lib.hid (rcheck12_any R vp c.ports W1 (h.ports.mono hb1))
 rw [h_check] at HV
 obtain ⟨_, _, _, lc, _, _⟩ := h.costs.facts
 obtain ⟨_, _, _, lp, _, _⟩ := h.ports.facts
 rw [h_len] at lc
 have HMY := Lib.hid (fun W (hW : Below W1.heap.size W1 W) => rmay15_any vc c.costs W ((h.costs.mono hb1).mono hW))
 rw [h_costs] at HMY
 have HVL := Lib.hid (fun W (hW : Below W1.heap.size W1 W) => rvlans_any R vp c.ports W ((h.ports.mono hb1).mono hW) (by have := fine_len h_check; omega) (fine_lens h_check))
 have hvm := (vlOk_asc c.ports)
 obtain ⟨AS, hAS⟩ : ∃ l, asc (allV c.ports) = l := ⟨_, rfl⟩
 rw [hAS] at HVL hvm
 have hd4 : decide ((20 : Int) < (AS.length : Int)) = false := decide_eq_false (by have := hvm.1 h_vl; omega)
 clear hvm hAS
 have HS4 := Lib.hid (fun W => rself_4 c.self4 W)
 rw [h_self4] at HS4
 have HS6 := Lib.hid (fun W => rself_16 c.self6 W)
 rw [h_self6] at HS6
 have H6 := Lib.hid (fun W => rwithin_any c.every 4 1000 W)
 rw [h_every] at H6
 have H7 := Lib.hid (fun W => rwithin_any c.robust 1 7 W)
 rw [h_robust] at H7
 have H8 := Lib.hid (fun W => rwithin_any c.member 1 1000 W)
 rw [h_member] at H8
 obtain ⟨ao, an, ac, rfl⟩ := h.costs.shape
 obtain ⟨bo, bc, rfl⟩ := h.ports.shape
 obtain ⟨n, hn⟩ : ∃ n, c.ports.length = n := ⟨_, rfl⟩
 rw [hn] at lc lp
 have X1 := Lib.hid hx1; have B1 := Lib.hid hb1; have HW1 := Lib.hid hW1; have HQ0 := Lib.hid hq0
 obtain ⟨id, costs, ports, s4, s6, ev, rb, me, la, ag, ro, fl, fa⟩ := c
 unfold encC
 unfold ccells at HW1 X1 ⊢
 dsimp only at HV HMY HVL HS4 HS6 H6 H7 H8 hn HW1 X1 ⊢
 rw [hn] at HV HVL X1 HW1 ⊢
 clear h hW1 hq0 hb1 hx1 hn h_check h_len h_costs h_vl h_self4 h_self6 h_every h_robust h_member
 go_enter Tryz.func13, Tryz.ntmps13
 go_upto_region 1 with fail
 rw [HW1.out, HQ0.out]
 obtain ⟨c0, c1, c2, c3, c4, c5, c6, c7, c8, c9, c10, c11, c12⟩ := box13 X1.out
 go_wp2_with (first | ((with_reducible refine HV.out.mono ?_); rintro e w2 ⟨rfl, hb2⟩; have B2 := Lib.hid hb2; have X2 := Lib.hid (X1.out.below hb2 X1.out.lt); clear hb2 c0 c1 c2 c3 c4 c5 c6 c7 c8 c9 c10 c11 c12; obtain ⟨c0, c1, c2, c3, c4, c5, c6, c7, c8, c9, c10, c11, c12⟩ := box13 X2.out) | ((with_reducible refine (HMY.out w2 B2.out).mono ?_); rintro e w3 ⟨rfl, hw3⟩; subst w3) | ((with_reducible refine (HVL.out w2 B2.out).mono ?_); rintro e w4 ⟨v4, rfl, hi4, hb4⟩; have B4 := Lib.hid (B2.out.trans (hb4.mono B2.out.size)); have X4 := Lib.hid (X2.out.below hb4 X2.out.lt); obtain ⟨_, _, _, lr, _, _⟩ := hi4.facts; clear hb4 hi4 c0 c1 c2 c3 c4 c5 c6 c7 c8 c9 c10 c11 c12; obtain ⟨c0, c1, c2, c3, c4, c5, c6, c7, c8, c9, c10, c11, c12⟩ := box13 X4.out) | ((with_reducible refine (HS4.out _).mono ?_); rintro e w5 ⟨rfl, hw5⟩; subst w5) | ((with_reducible refine (HS6.out _).mono ?_); rintro e w6 ⟨rfl, hw6⟩; subst w6) | ((with_reducible refine (H6.out _).mono ?_); rintro e w7 ⟨rfl, hw7⟩; subst w7) | ((with_reducible refine (H7.out _).mono ?_); rintro e w7 ⟨rfl, hw7⟩; subst w7) | ((with_reducible refine (H8.out _).mono ?_); rintro e w7 ⟨rfl, hw7⟩; subst w7))
 go_ret
 exact ⟨rfl, B1.out.trans (B4.out.mono B1.out.size)⟩
set_option maxHeartbeats 8000000 in
theorem rck_bad9 (R : Nat → Prop) (c : Cfg) (vc vp : Value) (w : World) (h : CfgIn w R c vc vp) (h_check : vCheck c.ports = 0) (h_len : c.costs.length = c.ports.length) (h_costs : costsOk c.costs = true) (h_vl : VlOk c.ports) (h_self4 : selfB c.self4 4 = true) (h_self6 : selfB c.self6 16 = true) (h_every : inBetween c.every 4 1000 = true) (h_robust : inBetween c.robust 1 7 = true) (h_member : inBetween c.member 1 1000 = true) (h_last : inBetween c.last 1 1000 = false) :
 Calls Tryz.prog 13 #[encC c vc vp] w (RetNm 3 w) := by
 obtain ⟨W1, hW1⟩ : ∃ W, w.alloc (.cells (ccells c vc vp) 27) = W := ⟨_, rfl⟩
 obtain ⟨q0, hq0⟩ : ∃ q, w.heap.size = q := ⟨_, rfl⟩
 have hb1 : Below w.heap.size w W1 := by rw [← hW1]; exact (Below.refl _ _).alloc (Nat.le_refl _) _
 have hx1 : CBox W1 q0 27 (ccells c vc vp) := by rw [← hW1]; exact CBox.new _ hq0.symm
 have HV := Lib.hid (rcheck12_any R vp c.ports W1 (h.ports.mono hb1))
 rw [h_check] at HV
 obtain ⟨_, _, _, lc, _, _⟩ := h.costs.facts
 obtain ⟨_, _, _, lp, _, _⟩ := h.ports.facts
 rw [h_len] at lc
 have HMY := Lib.hid (fun W (hW : Below W1.heap.size W1 W) => rmay15_any vc c.costs W ((h.costs.mono hb1).mono hW))
 rw [h_costs] at HMY
 have HVL := Lib.hid (fun W (hW : Below W1.heap.size W1 W) => rvlans_any R vp c.ports W ((h.ports.mono hb1).mono hW) (by have := fine_len h_check; omega) (fine_lens h_check))
 have hvm := (vlOk_asc c.ports)
 obtain ⟨AS, hAS⟩ : ∃ l, asc (allV c.ports) = l := ⟨_, rfl⟩
 rw [hAS] at HVL hvm
 have hd4 : decide ((20 : Int) < (AS.length : Int)) = false := decide_eq_false (by have := hvm.1 h_vl; omega)
 clear hvm hAS
 have HS4 := Lib.hid (fun W => rself_4 c.self4 W)
 rw [h_self4] at HS4
 have HS6 := Lib.hid (fun W => rself_16 c.self6 W)
 rw [h_self6] at HS6
 have H6 := Lib.hid (fun W => rwithin_any c.every 4 1000 W)
 rw [h_every] at H6
 have H7 := Lib.hid (fun W => rwithin_any c.robust 1 7 W)
 rw [h_robust] at H7
 have H8 := Lib.hid (fun W => rwithin_any c.member 1 1000 W)
 rw [h_member] at H8
 have H9 := Lib.hid (fun W => rwithin_any c.last 1 1000 W)
 rw [h_last] at H9
 obtain ⟨ao, an, ac, rfl⟩ := h.costs.shape
 obtain ⟨bo, bc, rfl⟩ := h.ports.shape
 obtain ⟨n, hn⟩ : ∃ n, c.ports.length = n := ⟨_, rfl⟩
 rw [hn] at lc lp
 have X1 := Lib.hid hx1; have B1 := Lib.hid hb1; have HW1 := Lib.hid hW1; have HQ0 := Lib.hid hq0
 obtain ⟨id, costs, ports, s4, s6, ev, rb, me, la, ag, ro, fl, fa⟩ := c
 unfold encC
 unfold ccells at HW1 X1 ⊢
 dsimp only at HV HMY HVL HS4 HS6 H6 H7 H8 H9 hn HW1 X1 ⊢
 rw [hn] at HV HVL X1 HW1 ⊢
 clear h hW1 hq0 hb1 hx1 hn h_check h_len h_costs h_vl h_self4 h_self6 h_every h_robust h_member h_last
 go_enter Tryz.func13, Tryz.ntmps13
 go_upto_region 1 with fail
 rw [HW1.out, HQ0.out]
 obtain ⟨c0, c1, c2, c3, c4, c5, c6, c7, c8, c9, c10, c11, c12⟩ := box13 X1.out
 go_wp2_with (first | ((with_reducible refine HV.out.mono ?_); rintro e w2 ⟨rfl, hb2⟩; have B2 := Lib.hid hb2; have X2 := Lib.hid (X1.out.below hb2 X1.out.lt); clear hb2 c0 c1 c2 c3 c4 c5 c6 c7 c8 c9 c10 c11 c12; obtain ⟨c0, c1, c2, c3, c4, c5, c6, c7, c8, c9, c10, c11, c12⟩ := box13 X2.out) | ((with_reducible refine (HMY.out w2 B2.out).mono ?_); rintro e w3 ⟨rfl, hw3⟩; subst w3) | ((with_reducible refine (HVL.out w2 B2.out).mono ?_); rintro e w4 ⟨v4, rfl, hi4, hb4⟩; have B4 := Lib.hid (B2.out.trans (hb4.mono B2.out.size)); have X4 := Lib.hid (X2.out.below hb4 X2.out.lt); obtain ⟨_, _, _, lr, _, _⟩ := hi4.facts; clear hb4 hi4 c0 c1 c2 c3 c4 c5 c6 c7 c8 c9 c10 c11 c12; obtain ⟨c0, c1, c2, c3, c4, c5, c6, c7, c8, c9, c10, c11, c12⟩ := box13 X4.out) | ((with_reducible refine (HS4.out _).mono ?_); rintro e w5 ⟨rfl, hw5⟩; subst w5) | ((with_reducible refine (HS6.out _).mono ?_); rintro e w6 ⟨rfl, hw6⟩; subst w6) | ((with_reducible refine (H6.out _).mono ?_); rintro e w7 ⟨rfl, hw7⟩; subst w7) | ((with_reducible refine (H7.out _).mono ?_); rintro e w7 ⟨rfl, hw7⟩; subst w7) | ((with_reducible refine (H8.out _).mono ?_); rintro e w7 ⟨rfl, hw7⟩; subst w7) | ((with_reducible refine (H9.out _).mono ?_); rintro e w7 ⟨rfl, hw7⟩; subst w7))
 go_ret
 exact ⟨rfl, B1.out.trans (B4.out.mono B1.out.size)⟩
set_option maxHeartbeats 8000000 in
theorem rck_bad10 (R : Nat → Prop) (c : Cfg) (vc vp : Value) (w : World) (h : CfgIn w R c vc vp) (h_check : vCheck c.ports = 0) (h_len : c.costs.length = c.ports.length) (h_costs : costsOk c.costs = true) (h_vl : VlOk c.ports) (h_self4 : selfB c.self4 4 = true) (h_self6 : selfB c.self6 16 = true) (h_every : inBetween c.every 4 1000 = true) (h_robust : inBetween c.robust 1 7 = true) (h_member : inBetween c.member 1 1000 = true) (h_last : inBetween c.last 1 1000 = true) (h_age : inBetween c.age 1 10000 = false) :
 Calls Tryz.prog 13 #[encC c vc vp] w (RetNm 3 w) := by
 obtain ⟨W1, hW1⟩ : ∃ W, w.alloc (.cells (ccells c vc vp) 27) = W := ⟨_, rfl⟩
 obtain ⟨q0, hq0⟩ : ∃ q, w.heap.size = q := ⟨_, rfl⟩
 have hb1 : Below w.heap.size w W1 := by rw [← hW1]; exact (Below.refl _ _).alloc (Nat.le_refl _) _
 have hx1 : CBox W1 q0 27 (ccells c vc vp) := by rw [← hW1]; exact CBox.new _ hq0.symm
 have HV := Lib.hid (rcheck12_any R vp c.ports W1 (h.ports.mono hb1))
 rw [h_check] at HV
 obtain ⟨_, _, _, lc, _, _⟩ := h.costs.facts
 obtain ⟨_, _, _, lp, _, _⟩ := h.ports.facts
 rw [h_len] at lc
 have HMY := Lib.hid (fun W (hW : Below W1.heap.size W1 W) => rmay15_any vc c.costs W ((h.costs.mono hb1).mono hW))
 rw [h_costs] at HMY
 have HVL := Lib.hid (fun W (hW : Below W1.heap.size W1 W) => rvlans_any R vp c.ports W ((h.ports.mono hb1).mono hW) (by have := fine_len h_check; omega) (fine_lens h_check))
 have hvm := (vlOk_asc c.ports)
 obtain ⟨AS, hAS⟩ : ∃ l, asc (allV c.ports) = l := ⟨_, rfl⟩
 rw [hAS] at HVL hvm
 have hd4 : decide ((20 : Int) < (AS.length : Int)) = false := decide_eq_false (by have := hvm.1 h_vl; omega)
 clear hvm hAS
 have HS4 := Lib.hid (fun W => rself_4 c.self4 W)
 rw [h_self4] at HS4
 have HS6 := Lib.hid (fun W => rself_16 c.self6 W)
 rw [h_self6] at HS6
 have H6 := Lib.hid (fun W => rwithin_any c.every 4 1000 W)
 rw [h_every] at H6
 have H7 := Lib.hid (fun W => rwithin_any c.robust 1 7 W)
 rw [h_robust] at H7
 have H8 := Lib.hid (fun W => rwithin_any c.member 1 1000 W)
 rw [h_member] at H8
 have H9 := Lib.hid (fun W => rwithin_any c.last 1 1000 W)
 rw [h_last] at H9
 have H10 := Lib.hid (fun W => rwithin_any c.age 1 10000 W)
 rw [h_age] at H10
 obtain ⟨ao, an, ac, rfl⟩ := h.costs.shape
 obtain ⟨bo, bc, rfl⟩ := h.ports.shape
 obtain ⟨n, hn⟩ : ∃ n, c.ports.length = n := ⟨_, rfl⟩
 rw [hn] at lc lp
 have X1 := Lib.hid hx1; have B1 := Lib.hid hb1; have HW1 := Lib.hid hW1; have HQ0 := Lib.hid hq0
 obtain ⟨id, costs, ports, s4, s6, ev, rb, me, la, ag, ro, fl, fa⟩ := c
 unfold encC
 unfold ccells at HW1 X1 ⊢
 dsimp only at HV HMY HVL HS4 HS6 H6 H7 H8 H9 H10 hn HW1 X1 ⊢
 rw [hn] at HV HVL X1 HW1 ⊢
 clear h hW1 hq0 hb1 hx1 hn h_check h_len h_costs h_vl h_self4 h_self6 h_every h_robust h_member h_last h_age
 go_enter Tryz.func13, Tryz.ntmps13
 go_upto_region 1 with fail
 rw [HW1.out, HQ0.out]
 obtain ⟨c0, c1, c2, c3, c4, c5, c6, c7, c8, c9, c10, c11, c12⟩ := box13 X1.out
 go_wp2_with (first | ((with_reducible refine HV.out.mono ?_); rintro e w2 ⟨rfl, hb2⟩; have B2 := Lib.hid hb2; have X2 := Lib.hid (X1.out.below hb2 X1.out.lt); clear hb2 c0 c1 c2 c3 c4 c5 c6 c7 c8 c9 c10 c11 c12; obtain ⟨c0, c1, c2, c3, c4, c5, c6, c7, c8, c9, c10, c11, c12⟩ := box13 X2.out) | ((with_reducible refine (HMY.out w2 B2.out).mono ?_); rintro e w3 ⟨rfl, hw3⟩; subst w3) | ((with_reducible refine (HVL.out w2 B2.out).mono ?_); rintro e w4 ⟨v4, rfl, hi4, hb4⟩; have B4 := Lib.hid (B2.out.trans (hb4.mono B2.out.size)); have X4 := Lib.hid (X2.out.below hb4 X2.out.lt); obtain ⟨_, _, _, lr, _, _⟩ := hi4.facts; clear hb4 hi4 c0 c1 c2 c3 c4 c5 c6 c7 c8 c9 c10 c11 c12; obtain ⟨c0, c1, c2, c3, c4, c5, c6, c7, c8, c9, c10, c11, c12⟩ := box13 X4.out) | ((with_reducible refine (HS4.out _).mono ?_); rintro e w5 ⟨rfl, hw5⟩; subst w5) | ((with_reducible refine (HS6.out _).mono ?_); rintro e w6 ⟨rfl, hw6⟩; subst w6) | ((with_reducible refine (H6.out _).mono ?_); rintro e w7 ⟨rfl, hw7⟩; subst w7) | ((with_reducible refine (H7.out _).mono ?_); rintro e w7 ⟨rfl, hw7⟩; subst w7) | ((with_reducible refine (H8.out _).mono ?_); rintro e w7 ⟨rfl, hw7⟩; subst w7) | ((with_reducible refine (H9.out _).mono ?_); rintro e w7 ⟨rfl, hw7⟩; subst w7) | ((with_reducible refine (H10.out _).mono ?_); rintro e w7 ⟨rfl, hw7⟩; subst w7))
 go_ret
 exact ⟨rfl, B1.out.trans (B4.out.mono B1.out.size)⟩
set_option maxHeartbeats 8000000 in
theorem rck_bad11 (R : Nat → Prop) (c : Cfg) (vc vp : Value) (w : World) (h : CfgIn w R c vc vp) (h_check : vCheck c.ports = 0) (h_len : c.costs.length = c.ports.length) (h_costs : costsOk c.costs = true) (h_vl : VlOk c.ports) (h_self4 : selfB c.self4 4 = true) (h_self6 : selfB c.self6 16 = true) (h_every : inBetween c.every 4 1000 = true) (h_robust : inBetween c.robust 1 7 = true) (h_member : inBetween c.member 1 1000 = true) (h_last : inBetween c.last 1 1000 = true) (h_age : inBetween c.age 1 10000 = true) (h_room : inBetween c.room 1 1000 = false) :
 Calls Tryz.prog 13 #[encC c vc vp] w (RetNm 3 w) := by
 obtain ⟨W1, hW1⟩ : ∃ W, w.alloc (.cells (ccells c vc vp) 27) = W := ⟨_, rfl⟩
 obtain ⟨q0, hq0⟩ : ∃ q, w.heap.size = q := ⟨_, rfl⟩
 have hb1 : Below w.heap.size w W1 := by rw [← hW1]; exact (Below.refl _ _).alloc (Nat.le_refl _) _
 have hx1 : CBox W1 q0 27 (ccells c vc vp) := by rw [← hW1]; exact CBox.new _ hq0.symm
 have HV := Lib.hid (rcheck12_any R vp c.ports W1 (h.ports.mono hb1))
 rw [h_check] at HV
 obtain ⟨_, _, _, lc, _, _⟩ := h.costs.facts
 obtain ⟨_, _, _, lp, _, _⟩ := h.ports.facts
 rw [h_len] at lc
 have HMY := Lib.hid (fun W (hW : Below W1.heap.size W1 W) => rmay15_any vc c.costs W ((h.costs.mono hb1).mono hW))
 rw [h_costs] at HMY
 have HVL := Lib.hid (fun W (hW : Below W1.heap.size W1 W) => rvlans_any R vp c.ports W ((h.ports.mono hb1).mono hW) (by have := fine_len h_check; omega) (fine_lens h_check))
 have hvm := (vlOk_asc c.ports)
 obtain ⟨AS, hAS⟩ : ∃ l, asc (allV c.ports) = l := ⟨_, rfl⟩
 rw [hAS] at HVL hvm
 have hd4 : decide ((20 : Int) < (AS.length : Int)) = false := decide_eq_false (by have := hvm.1 h_vl; omega)
 clear hvm hAS
 have HS4 := Lib.hid (fun W => rself_4 c.self4 W)
 rw [h_self4] at HS4
 have HS6 := Lib.hid (fun W => rself_16 c.self6 W)
 rw [h_self6] at HS6
 have H6 := Lib.hid (fun W => rwithin_any c.every 4 1000 W)
 rw [h_every] at H6
 have H7 := Lib.hid (fun W => rwithin_any c.robust 1 7 W)
 rw [h_robust] at H7
 have H8 := Lib.hid (fun W => rwithin_any c.member 1 1000 W)
 rw [h_member] at H8
 have H9 := Lib.hid (fun W => rwithin_any c.last 1 1000 W)
 rw [h_last] at H9
 have H10 := Lib.hid (fun W => rwithin_any c.age 1 10000 W)
 rw [h_age] at H10
 have H11 := Lib.hid (fun W => rwithin_any c.room 1 1000 W)
 rw [h_room] at H11
 obtain ⟨ao, an, ac, rfl⟩ := h.costs.shape
 obtain ⟨bo, bc, rfl⟩ := h.ports.shape
 obtain ⟨n, hn⟩ : ∃ n, c.ports.length = n := ⟨_, rfl⟩
 rw [hn] at lc lp
 have X1 := Lib.hid hx1; have B1 := Lib.hid hb1; have HW1 := Lib.hid hW1; have HQ0 := Lib.hid hq0
 obtain ⟨id, costs, ports, s4, s6, ev, rb, me, la, ag, ro, fl, fa⟩ := c
 unfold encC
 unfold ccells at HW1 X1 ⊢
 dsimp only at HV HMY HVL HS4 HS6 H6 H7 H8 H9 H10 H11 hn HW1 X1 ⊢
 rw [hn] at HV HVL X1 HW1 ⊢
 clear h hW1 hq0 hb1 hx1 hn h_check h_len h_costs h_vl h_self4 h_self6 h_every h_robust h_member h_last h_age h_room
 go_enter Tryz.func13, Tryz.ntmps13
 go_upto_region 1 with fail
 rw [HW1.out, HQ0.out]
 obtain ⟨c0, c1, c2, c3, c4, c5, c6, c7, c8, c9, c10, c11, c12⟩ := box13 X1.out
 go_wp2_with (first | ((with_reducible refine HV.out.mono ?_); rintro e w2 ⟨rfl, hb2⟩; have B2 := Lib.hid hb2; have X2 := Lib.hid (X1.out.below hb2 X1.out.lt); clear hb2 c0 c1 c2 c3 c4 c5 c6 c7 c8 c9 c10 c11 c12; obtain ⟨c0, c1, c2, c3, c4, c5, c6, c7, c8, c9, c10, c11, c12⟩ := box13 X2.out) | ((with_reducible refine (HMY.out w2 B2.out).mono ?_); rintro e w3 ⟨rfl, hw3⟩; subst w3) | ((with_reducible refine (HVL.out w2 B2.out).mono ?_); rintro e w4 ⟨v4, rfl, hi4, hb4⟩; have B4 := Lib.hid (B2.out.trans (hb4.mono B2.out.size)); have X4 := Lib.hid (X2.out.below hb4 X2.out.lt); obtain ⟨_, _, _, lr, _, _⟩ := hi4.facts; clear hb4 hi4 c0 c1 c2 c3 c4 c5 c6 c7 c8 c9 c10 c11 c12; obtain ⟨c0, c1, c2, c3, c4, c5, c6, c7, c8, c9, c10, c11, c12⟩ := box13 X4.out) | ((with_reducible refine (HS4.out _).mono ?_); rintro e w5 ⟨rfl, hw5⟩; subst w5) | ((with_reducible refine (HS6.out _).mono ?_); rintro e w6 ⟨rfl, hw6⟩; subst w6) | ((with_reducible refine (H6.out _).mono ?_); rintro e w7 ⟨rfl, hw7⟩; subst w7) | ((with_reducible refine (H7.out _).mono ?_); rintro e w7 ⟨rfl, hw7⟩; subst w7) | ((with_reducible refine (H8.out _).mono ?_); rintro e w7 ⟨rfl, hw7⟩; subst w7) | ((with_reducible refine (H9.out _).mono ?_); rintro e w7 ⟨rfl, hw7⟩; subst w7) | ((with_reducible refine (H10.out _).mono ?_); rintro e w7 ⟨rfl, hw7⟩; subst w7) | ((with_reducible refine (H11.out _).mono ?_); rintro e w7 ⟨rfl, hw7⟩; subst w7))
 go_ret
 exact ⟨rfl, B1.out.trans (B4.out.mono B1.out.size)⟩
set_option maxHeartbeats 8000000 in
theorem rck_good0 (R : Nat → Prop) (c : Cfg) (vc vp : Value) (w : World) (h : CfgIn w R c vc vp) (h_check : vCheck c.ports = 0) (h_len : c.costs.length = c.ports.length) (h_costs : costsOk c.costs = true) (h_vl : VlOk c.ports) (h_self4 : selfB c.self4 4 = true) (h_self6 : selfB c.self6 16 = true) (h_every : inBetween c.every 4 1000 = true) (h_robust : inBetween c.robust 1 7 = true) (h_member : inBetween c.member 1 1000 = true) (h_last : inBetween c.last 1 1000 = true) (h_age : inBetween c.age 1 10000 = true) (h_room : inBetween c.room 1 1000 = true) :
 Calls Tryz.prog 13 #[encC c vc vp] w (RetNm 0 w) := by
 obtain ⟨W1, hW1⟩ : ∃ W, w.alloc (.cells (ccells c vc vp) 27) = W := ⟨_, rfl⟩
 obtain ⟨q0, hq0⟩ : ∃ q, w.heap.size = q := ⟨_, rfl⟩
 have hb1 : Below w.heap.size w W1 := by rw [← hW1]; exact (Below.refl _ _).alloc (Nat.le_refl _) _
 have hx1 : CBox W1 q0 27 (ccells c vc vp) := by rw [← hW1]; exact CBox.new _ hq0.symm
 have HV := Lib.hid (rcheck12_any R vp c.ports W1 (h.ports.mono hb1))
 rw [h_check] at HV
 obtain ⟨_, _, _, lc, _, _⟩ := h.costs.facts
 obtain ⟨_, _, _, lp, _, _⟩ := h.ports.facts
 rw [h_len] at lc
 have HMY := Lib.hid (fun W (hW : Below W1.heap.size W1 W) => rmay15_any vc c.costs W ((h.costs.mono hb1).mono hW))
 rw [h_costs] at HMY
 have HVL := Lib.hid (fun W (hW : Below W1.heap.size W1 W) => rvlans_any R vp c.ports W ((h.ports.mono hb1).mono hW) (by have := fine_len h_check; omega) (fine_lens h_check))
 have hvm := (vlOk_asc c.ports)
 obtain ⟨AS, hAS⟩ : ∃ l, asc (allV c.ports) = l := ⟨_, rfl⟩
 rw [hAS] at HVL hvm
 have hd4 : decide ((20 : Int) < (AS.length : Int)) = false := decide_eq_false (by have := hvm.1 h_vl; omega)
 clear hvm hAS
 have HS4 := Lib.hid (fun W => rself_4 c.self4 W)
 rw [h_self4] at HS4
 have HS6 := Lib.hid (fun W => rself_16 c.self6 W)
 rw [h_self6] at HS6
 have H6 := Lib.hid (fun W => rwithin_any c.every 4 1000 W)
 rw [h_every] at H6
 have H7 := Lib.hid (fun W => rwithin_any c.robust 1 7 W)
 rw [h_robust] at H7
 have H8 := Lib.hid (fun W => rwithin_any c.member 1 1000 W)
 rw [h_member] at H8
 have H9 := Lib.hid (fun W => rwithin_any c.last 1 1000 W)
 rw [h_last] at H9
 have H10 := Lib.hid (fun W => rwithin_any c.age 1 10000 W)
 rw [h_age] at H10
 have H11 := Lib.hid (fun W => rwithin_any c.room 1 1000 W)
 rw [h_room] at H11
 obtain ⟨ao, an, ac, rfl⟩ := h.costs.shape
 obtain ⟨bo, bc, rfl⟩ := h.ports.shape
 obtain ⟨n, hn⟩ : ∃ n, c.ports.length = n := ⟨_, rfl⟩
 rw [hn] at lc lp
 have X1 := Lib.hid hx1; have B1 := Lib.hid hb1; have HW1 := Lib.hid hW1; have HQ0 := Lib.hid hq0
 obtain ⟨id, costs, ports, s4, s6, ev, rb, me, la, ag, ro, fl, fa⟩ := c
 unfold encC
 unfold ccells at HW1 X1 ⊢
 dsimp only at HV HMY HVL HS4 HS6 H6 H7 H8 H9 H10 H11 hn HW1 X1 ⊢
 rw [hn] at HV HVL X1 HW1 ⊢
 clear h hW1 hq0 hb1 hx1 hn h_check h_len h_costs h_vl h_self4 h_self6 h_every h_robust h_member h_last h_age h_room
 go_enter Tryz.func13, Tryz.ntmps13
 go_upto_region 1 with fail
 rw [HW1.out, HQ0.out]
 obtain ⟨c0, c1, c2, c3, c4, c5, c6, c7, c8, c9, c10, c11, c12⟩ := box13 X1.out
 go_wp2_with (first | ((with_reducible refine HV.out.mono ?_); rintro e w2 ⟨rfl, hb2⟩; have B2 := Lib.hid hb2; have X2 := Lib.hid (X1.out.below hb2 X1.out.lt); clear hb2 c0 c1 c2 c3 c4 c5 c6 c7 c8 c9 c10 c11 c12; obtain ⟨c0, c1, c2, c3, c4, c5, c6, c7, c8, c9, c10, c11, c12⟩ := box13 X2.out) | ((with_reducible refine (HMY.out w2 B2.out).mono ?_); rintro e w3 ⟨rfl, hw3⟩; subst w3) | ((with_reducible refine (HVL.out w2 B2.out).mono ?_); rintro e w4 ⟨v4, rfl, hi4, hb4⟩; have B4 := Lib.hid (B2.out.trans (hb4.mono B2.out.size)); have X4 := Lib.hid (X2.out.below hb4 X2.out.lt); obtain ⟨_, _, _, lr, _, _⟩ := hi4.facts; clear hb4 hi4 c0 c1 c2 c3 c4 c5 c6 c7 c8 c9 c10 c11 c12; obtain ⟨c0, c1, c2, c3, c4, c5, c6, c7, c8, c9, c10, c11, c12⟩ := box13 X4.out) | ((with_reducible refine (HS4.out _).mono ?_); rintro e w5 ⟨rfl, hw5⟩; subst w5) | ((with_reducible refine (HS6.out _).mono ?_); rintro e w6 ⟨rfl, hw6⟩; subst w6) | ((with_reducible refine (H6.out _).mono ?_); rintro e w7 ⟨rfl, hw7⟩; subst w7) | ((with_reducible refine (H7.out _).mono ?_); rintro e w7 ⟨rfl, hw7⟩; subst w7) | ((with_reducible refine (H8.out _).mono ?_); rintro e w7 ⟨rfl, hw7⟩; subst w7) | ((with_reducible refine (H9.out _).mono ?_); rintro e w7 ⟨rfl, hw7⟩; subst w7) | ((with_reducible refine (H10.out _).mono ?_); rintro e w7 ⟨rfl, hw7⟩; subst w7) | ((with_reducible refine (H11.out _).mono ?_); rintro e w7 ⟨rfl, hw7⟩; subst w7))
 go_ret
 exact ⟨rfl, B1.out.trans (B4.out.mono B1.out.size)⟩
theorem rck_good (R : Nat → Prop) (c : Cfg) (vc vp : Value) (w : World) (h : CfgIn w R c vc vp) (ok : CfgOk c) :
 Calls Tryz.prog 13 #[encC c vc vp] w (RetNm 0 w) :=
 rck_good0 R c vc vp w h ok.check ok.len ok.costs ok.vl ok.self4 ok.self6 ok.every ok.robust ok.member ok.last ok.age ok.room
theorem rck_bad (R : Nat → Prop) (c : Cfg) (vc vp : Value) (w : World) (h : CfgIn w R c vc vp) (no : ¬ CfgOk c) :
 Calls Tryz.prog 13 #[encC c vc vp] w (RetNm 3 w) := by
 by_cases h_check : vCheck c.ports = 0
 rotate_left
 · exact rck_bad0 R c vc vp w h (vCheck_bad h_check)
 by_cases h_len : c.costs.length = c.ports.length
 rotate_left
 · exact rck_bad1 R c vc vp w h h_check h_len
 cases h_costs : costsOk c.costs
 · exact rck_bad2 R c vc vp w h h_check h_len h_costs
 by_cases h_vl : VlOk c.ports
 rotate_left
 · exact rck_bad3 R c vc vp w h h_check h_len h_costs h_vl
 cases h_self4 : selfB c.self4 4
 · exact rck_bad4 R c vc vp w h h_check h_len h_costs h_vl h_self4
 cases h_self6 : selfB c.self6 16
 · exact rck_bad5 R c vc vp w h h_check h_len h_costs h_vl h_self4 h_self6
 cases h_every : inBetween c.every 4 1000
 · exact rck_bad6 R c vc vp w h h_check h_len h_costs h_vl h_self4 h_self6 h_every
 cases h_robust : inBetween c.robust 1 7
 · exact rck_bad7 R c vc vp w h h_check h_len h_costs h_vl h_self4 h_self6 h_every h_robust
 cases h_member : inBetween c.member 1 1000
 · exact rck_bad8 R c vc vp w h h_check h_len h_costs h_vl h_self4 h_self6 h_every h_robust h_member
 cases h_last : inBetween c.last 1 1000
 · exact rck_bad9 R c vc vp w h h_check h_len h_costs h_vl h_self4 h_self6 h_every h_robust h_member h_last
 cases h_age : inBetween c.age 1 10000
 · exact rck_bad10 R c vc vp w h h_check h_len h_costs h_vl h_self4 h_self6 h_every h_robust h_member h_last h_age
 cases h_room : inBetween c.room 1 1000
 · exact rck_bad11 R c vc vp w h h_check h_len h_costs h_vl h_self4 h_self6 h_every h_robust h_member h_last h_age h_room
 exact absurd ⟨h_costs, h_check, h_len, h_vl, h_self4, h_self6, h_every, h_robust, h_member, h_last, h_age, h_room⟩ no

def ptFew (p : Pt) : Bool := decide (p.tagged.length ≤ 6) && decide (p.plain.length ≤ 6)
def fewC (c : Cfg) : Bool := decide (c.ports.length ≤ 8) && decide (c.costs.length ≤ 8) && c.ports.all ptFew
theorem all_take23 {L : List Pt} {k : Nat} (hk : k < L.length) (h : (L.take k).all ptFew = true) : (L.take (k + 1)).all ptFew = ptFew L[k] := by
 rw [List.take_succ_eq_append_getElem hk, List.all_append, h]
 simp
theorem all_not23 {L : List Pt} {k : Nat} (hk : k < L.length) (h : ptFew L[k] = false) : L.all ptFew = false := by
 rw [List.all_eq_false]
 exact ⟨_, List.getElem_mem hk, by rw [h]; decide⟩
set_option maxHeartbeats 4000000 in
theorem few23_any (R : Nat → Prop) (c : Cfg) (vc vp : Value) (w : World) (h : CfgIn w R c vc vp) :
 Calls Tryz.prog 8 #[encC c vc vp] w fun e w' => e = .returned (.bool (fewC c)) ∧ Below w.heap.size w w' := by
 obtain ⟨W1, hW1⟩ : ∃ W, w.alloc (.cells (ccells c vc vp) 27) = W := ⟨_, rfl⟩
 obtain ⟨q0, hq0⟩ : ∃ q, w.heap.size = q := ⟨_, rfl⟩
 have hb1 : Below w.heap.size w W1 := by rw [← hW1]; exact (Below.refl _ _).alloc (Nat.le_refl _) _
 have hx1 : CBox W1 q0 27 (ccells c vc vp) := by rw [← hW1]; exact CBox.new _ hq0.symm
 obtain ⟨_, _, _, lc, lci, lcc⟩ := h.costs.facts
 obtain ⟨b, off, hm, lp, hidx, hc⟩ := (h.ports.mono hb1).facts
 clear lci lcc
 obtain ⟨ao, an, ac, rfl⟩ := h.costs.shape
 obtain ⟨bo, bc, rfl⟩ := h.ports.shape
 obtain ⟨L, hL⟩ : ∃ L, c.ports = L := ⟨_, rfl⟩
 obtain ⟨m, hM⟩ : ∃ L, c.costs.length = L := ⟨_, rfl⟩
 have HF := Lib.hid (show fewC c = (decide (L.length ≤ 8) && decide (m ≤ 8) && L.all ptFew) from by unfold fewC; rw [hL, hM])
 obtain ⟨r, hr⟩ : ∃ r, fewC c = r := ⟨_, rfl⟩
 rw [hr] at HF ⊢
 have X1 := Lib.hid hx1; have B1 := Lib.hid hb1; have HW1 := Lib.hid hW1; have HQ0 := Lib.hid hq0
 unfold encC
 unfold ccells at HW1 X1 ⊢
 rw [hL] at HW1 X1 hidx lp hc hm ⊢
 rw [hM] at lc
 clear h hW1 hq0 hb1 hx1 hL hM hr
 obtain ⟨c0, cf0⟩ := CBox.at_ X1.out 0 _ rfl
 obtain ⟨c1, cf1⟩ := CBox.at_ X1.out 1 _ rfl
 obtain ⟨c2, cf2⟩ := CBox.at_ X1.out 2 _ rfl
 obtain ⟨c3, cf3⟩ := CBox.at_ X1.out 3 _ rfl
 obtain ⟨c4, cf4⟩ := CBox.at_ X1.out 4 _ rfl
 obtain ⟨c5, cf5⟩ := CBox.at_ X1.out 5 _ rfl
 obtain ⟨c6, cf6⟩ := CBox.at_ X1.out 6 _ rfl
 obtain ⟨c7, cf7⟩ := CBox.at_ X1.out 7 _ rfl
 obtain ⟨c8, cf8⟩ := CBox.at_ X1.out 8 _ rfl
 obtain ⟨c9, cf9⟩ := CBox.at_ X1.out 9 _ rfl
 obtain ⟨c10, cf10⟩ := CBox.at_ X1.out 10 _ rfl
 obtain ⟨c11, cf11⟩ := CBox.at_ X1.out 11 _ rfl
 obtain ⟨c12, cf12⟩ := CBox.at_ X1.out 12 _ rfl
 cases q1 : decide (8 < L.length)
 · have d1 : decide ((8 : Int) < L.length) = false := decide_eq_false (by have := of_decide_eq_false q1; omega)
   have HL8 := Lib.hid (show decide (L.length ≤ 8) = true from decide_eq_true (by have := of_decide_eq_false q1; omega))
   clear q1
   cases q2 : decide (8 < m)
   · have d2 : decide ((8 : Int) < m) = false := decide_eq_false (by have := of_decide_eq_false q2; omega)
     have HM8 := Lib.hid (show decide (m ≤ 8) = true from decide_eq_true (by have := of_decide_eq_false q2; omega))
     rw [HL8.out, HM8.out] at HF
     clear q2
     go_enter Tryz.func8, Tryz.ntmps8
     go_upto_region 1 with fail
     rw [HW1.out, HQ0.out]
     go_wp2_with fail
     go_loop [3] (fun i => ∃ k : Nat, k ≤ L.length ∧ i = .int .i64 (k : Nat) ∧ (L.take k).all ptFew = true) (fun i => L.length - (intOf i).toNat)
     case atStart => exact ⟨0, Nat.zero_le _, rfl, rfl⟩
     case round =>
      obtain ⟨k, hk, rfl, hn⟩ := hrel
      clear d1 d2 lc
      by_cases hlt : k < L.length
      · have HS := Lib.hid (all_take23 hlt hn)
        have HN := Lib.hid (fun h => all_not23 hlt h)
        obtain ⟨hl, vt, vp, c0', s1, s2, i1, i2⟩ := hc k hlt
        have hp := hidx k hlt
        obtain ⟨_, _, _, lt, lti, ltc⟩ := i1.facts
        obtain ⟨_, _, _, lq, lqi, lqc⟩ := i2.facts
        have HPF := Lib.hid (show ptFew L[k] = (decide (L[k].tagged.length ≤ 6) && decide (L[k].plain.length ≤ 6)) from rfl)
        obtain ⟨ao', an', ac', rfl⟩ := i1.shape
        obtain ⟨bo', bn', bc', rfl⟩ := i2.shape
        obtain ⟨x, hx⟩ : ∃ x, L[k].tagged.length = x := ⟨_, rfl⟩
        obtain ⟨y, hy⟩ : ∃ x, L[k].plain.length = x := ⟨_, rfl⟩
        rw [hx] at HPF lt
        rw [hy] at HPF lq
        obtain ⟨f, hf⟩ : ∃ f, ptFew L[k] = f := ⟨_, rfl⟩
        rw [hf] at HS HN HPF
        clear hidx hc hn lti ltc lqi lqc hx hy hf hl c0' i1 i2
        cases r1 : decide (6 < x)
        · have e1 : decide ((6 : Int) < x) = false := decide_eq_false (by have := of_decide_eq_false r1; omega)
          have g1 : decide (x ≤ 6) = true := decide_eq_true (by have := of_decide_eq_false r1; omega)
          cases r2 : decide (6 < y)
          · have e2 : decide ((6 : Int) < y) = false := decide_eq_false (by have := of_decide_eq_false r2; omega)
            have g2 : decide (y ≤ 6) = true := decide_eq_true (by have := of_decide_eq_false r2; omega)
            have HSS := Lib.hid (show (L.take (k + 1)).all ptFew = true from by rw [HS.out, HPF.out, g1, g2]; rfl)
            clear g1 g2 r1 r2
            go_wp2_with fail
            go_round
            case rel => exact ⟨k + 1, by omega, by go_num, HSS.out⟩
            case measure => simp [intOf]; omega
          · have e2 : decide ((6 : Int) < y) = true := decide_eq_true (by have := of_decide_eq_true r2; omega)
            have g2 : decide (y ≤ 6) = false := decide_eq_false (by have := of_decide_eq_true r2; omega)
            have HE := Lib.hid (show r = false from by rw [HF.out, HN.out (by rw [HPF.out, g2, Bool.and_false])]; rfl)
            clear g1 g2 r1 r2
            go_wp2_with fail
            go_ret
            exact ⟨by rw [HE.out]; rfl, B1.out⟩
        · have e1 : decide ((6 : Int) < x) = true := decide_eq_true (by have := of_decide_eq_true r1; omega)
          have g1 : decide (x ≤ 6) = false := decide_eq_false (by have := of_decide_eq_true r1; omega)
          have HE := Lib.hid (show r = false from by rw [HF.out, HN.out (by rw [HPF.out, g1, Bool.false_and])]; rfl)
          clear g1 r1
          go_wp2_with fail
          go_ret
          exact ⟨by rw [HE.out]; rfl, B1.out⟩
      · have HE := Lib.hid (show r = true from by rw [List.take_of_length_le (by omega)] at hn; rw [HF.out, hn]; rfl)
        clear hidx hc hn
        go_wp2_with fail
        go_ret
        exact ⟨by rw [HE.out]; rfl, B1.out⟩
   · have d2 : decide ((8 : Int) < m) = true := decide_eq_true (by have := of_decide_eq_true q2; omega)
     have HM8 := Lib.hid (show decide (m ≤ 8) = false from decide_eq_false (by have := of_decide_eq_true q2; omega))
     have HE := Lib.hid (show r = false from by rw [HF.out, HM8.out]; simp)
     clear q2 hidx hc
     go_enter Tryz.func8, Tryz.ntmps8
     go_upto_region 1 with fail
     rw [HW1.out, HQ0.out]
     go_wp2_with fail
     go_ret
     exact ⟨by rw [HE.out]; rfl, B1.out⟩
 · have d1 : decide ((8 : Int) < L.length) = true := decide_eq_true (by have := of_decide_eq_true q1; omega)
   have HL8 := Lib.hid (show decide (L.length ≤ 8) = false from decide_eq_false (by have := of_decide_eq_true q1; omega))
   have HE := Lib.hid (show r = false from by rw [HF.out, HL8.out]; rfl)
   clear q1 hidx hc
   go_enter Tryz.func8, Tryz.ntmps8
   go_upto_region 1 with fail
   rw [HW1.out, HQ0.out]
   go_wp2_with fail
   go_ret
   exact ⟨by rw [HE.out]; rfl, B1.out⟩

set_option maxHeartbeats 8000000 in
theorem lbc_many (R : Nat → Prop) (c : Cfg) (vc vp : Value) (now : Int) (w : World) (h : CfgIn w R c vc vp) (hfew : fewC c = false) :
 Calls Tryz.prog 3 #[encC c vc vp, .int .i64 now] w fun e w' => e = .returned (.bool true) ∧ Below w.heap.size w w' := by
 obtain ⟨W1, hW1⟩ : ∃ W, w.alloc (.cells (ccells c vc vp) 27) = W := ⟨_, rfl⟩
 obtain ⟨q0, hq0⟩ : ∃ q, w.heap.size = q := ⟨_, rfl⟩
 have hb1 : Below w.heap.size w W1 := by rw [← hW1]; exact (Below.refl _ _).alloc (Nat.le_refl _) _
 have hx1 : CBox W1 q0 27 (ccells c vc vp) := by rw [← hW1]; exact CBox.new _ hq0.symm
 have H1 := h.mono hb1
 have HLV := Lib.hid live_true
 have HFW := few23_any R c vc vp W1 H1
 rw [hfew] at HFW
 obtain ⟨ao, an, ac, rfl⟩ := h.costs.shape
 obtain ⟨bo, bc, rfl⟩ := h.ports.shape
 have X1 := Lib.hid hx1; have B1 := Lib.hid hb1; have HW1 := Lib.hid hW1; have HQ0 := Lib.hid hq0
 rw [show encC c (.slice ao an ac) (.slice bo c.ports.length bc) = .agg #[.int .u64 c.id, .slice ao an ac, .slice bo c.ports.length bc, .string (bstr c.self4), .string (bstr c.self6), .int .i64 c.every, .int .i64 c.robust, .int .i64 c.member, .int .i64 c.last, .int .i64 c.age, .int .i64 c.room, .bool c.flood, .bool c.fast] from rfl] at HFW ⊢
 unfold ccells at HW1 X1
 obtain ⟨n, hn'⟩ : ∃ n, c.ports.length = n := ⟨_, rfl⟩
 rw [hn'] at HW1 X1 HFW ⊢
 obtain ⟨id, costs, ports, s4, s6, ev, rb, me, la, ag, ro, fl, fa⟩ := c
 dsimp only at HW1 X1 HFW ⊢
 have HFW' := Lib.hid HFW
 have HCF := Lib.hid (fun W => config_any id ev rb me la ag ro ao bo an ac n bc (bstr s4) (bstr s6) fl fa W)
 clear h hfew H1 hW1 hq0 hb1 hx1 hn' HFW
 go_enter Tryz.func3, Tryz.ntmps3
 go_upto_region 1 with fail
 rw [HW1.out, HQ0.out]
 obtain ⟨c0, c1, c2, c3, c4, c5, c6, c7, c8, c9, c10, c11, c12⟩ := box13 X1.out
 go_wp2_with (first | ((with_reducible refine HFW'.out.mono ?_); rintro e w2 ⟨rfl, hb2⟩; have B2 := Lib.hid (B1.out.trans (hb2.mono B1.out.size)); clear hb2) | ((with_reducible refine (HLV.out _).mono ?_); rintro e w3 ⟨rfl, hb3⟩; have B3 := Lib.hid (B2.out.trans (hb3.mono B2.out.size)); clear hb3))
 go_ret
 exact ⟨rfl, B3.out⟩
set_option maxHeartbeats 8000000 in
theorem lbc_bad (R : Nat → Prop) (c : Cfg) (vc vp : Value) (now : Int) (w : World) (h : CfgIn w R c vc vp) (hfew : fewC c = true) (no : ¬ CfgOk c) :
 Calls Tryz.prog 3 #[encC c vc vp, .int .i64 now] w fun e w' => e = .returned (.bool true) ∧ Below w.heap.size w w' := by
 obtain ⟨W1, hW1⟩ : ∃ W, w.alloc (.cells (ccells c vc vp) 27) = W := ⟨_, rfl⟩
 obtain ⟨q0, hq0⟩ : ∃ q, w.heap.size = q := ⟨_, rfl⟩
 have hb1 : Below w.heap.size w W1 := by rw [← hW1]; exact (Below.refl _ _).alloc (Nat.le_refl _) _
 have hx1 : CBox W1 q0 27 (ccells c vc vp) := by rw [← hW1]; exact CBox.new _ hq0.symm
 have H1 := h.mono hb1
 have HLV := Lib.hid live_true
 have HFW := few23_any R c vc vp W1 H1
 rw [hfew] at HFW
 have HCK := fun W (hW : Below W1.heap.size W1 W) => check_bad R c vc vp W (H1.mono hW) no
 have HRK := fun W (hW : Below W1.heap.size W1 W) => rck_bad R c vc vp W (H1.mono hW) no
 have HNW := fun W (hW : Below W1.heap.size W1 W) => bnew_no R c vc vp now W (H1.mono hW) no
 have HTM := Lib.hid (fun W => rtime_any now W)
 obtain ⟨ao, an, ac, rfl⟩ := h.costs.shape
 obtain ⟨bo, bc, rfl⟩ := h.ports.shape
 have X1 := Lib.hid hx1; have B1 := Lib.hid hb1; have HW1 := Lib.hid hW1; have HQ0 := Lib.hid hq0
 rw [show encC c (.slice ao an ac) (.slice bo c.ports.length bc) = .agg #[.int .u64 c.id, .slice ao an ac, .slice bo c.ports.length bc, .string (bstr c.self4), .string (bstr c.self6), .int .i64 c.every, .int .i64 c.robust, .int .i64 c.member, .int .i64 c.last, .int .i64 c.age, .int .i64 c.room, .bool c.flood, .bool c.fast] from rfl] at HFW ⊢
 replace HCK : ∀ W, Below W1.heap.size W1 W → Calls Tryz.prog 10 #[.agg #[.int .u64 c.id, .slice ao an ac, .slice bo c.ports.length bc, .string (bstr c.self4), .string (bstr c.self6), .int .i64 c.every, .int .i64 c.robust, .int .i64 c.member, .int .i64 c.last, .int .i64 c.age, .int .i64 c.room, .bool c.flood, .bool c.fast]] W (RetNm 3 W) := HCK
 replace HRK : ∀ W, Below W1.heap.size W1 W → Calls Tryz.prog 13 #[.agg #[.int .u64 c.id, .slice ao an ac, .slice bo c.ports.length bc, .string (bstr c.self4), .string (bstr c.self6), .int .i64 c.every, .int .i64 c.robust, .int .i64 c.member, .int .i64 c.last, .int .i64 c.age, .int .i64 c.room, .bool c.flood, .bool c.fast]] W (RetNm 3 W) := HRK
 replace HNW : ∀ W, Below W1.heap.size W1 W → Calls Tryz.prog 12 #[.agg #[.int .u64 c.id, .slice ao an ac, .slice bo c.ports.length bc, .string (bstr c.self4), .string (bstr c.self6), .int .i64 c.every, .int .i64 c.robust, .int .i64 c.member, .int .i64 c.last, .int .i64 c.age, .int .i64 c.room, .bool c.flood, .bool c.fast], .int .i64 now] W (RetNo W) := HNW
 unfold ccells at HW1 X1
 obtain ⟨n, hn'⟩ : ∃ n, c.ports.length = n := ⟨_, rfl⟩
 rw [hn'] at HW1 X1 HFW HCK HRK HNW ⊢
 obtain ⟨id, costs, ports, s4, s6, ev, rb, me, la, ag, ro, fl, fa⟩ := c
 dsimp only at HW1 X1 HFW HCK HRK HNW ⊢
 have HFW' := Lib.hid HFW
 have HCK' := Lib.hid HCK
 have HRK' := Lib.hid HRK
 have HNW' := Lib.hid HNW
 have HCF := Lib.hid (fun W => config_any id ev rb me la ag ro ao bo an ac n bc (bstr s4) (bstr s6) fl fa W)
 clear h hfew H1 hW1 hq0 hb1 hx1 hn' HFW HCK HRK HNW no
 go_enter Tryz.func3, Tryz.ntmps3
 go_upto_region 1 with fail
 rw [HW1.out, HQ0.out]
 obtain ⟨c0, c1, c2, c3, c4, c5, c6, c7, c8, c9, c10, c11, c12⟩ := box13 X1.out
 have D1 := Lib.hid (Below.refl W1.heap.size W1)
 go_upto_region 3 with ((with_reducible refine HFW'.out.mono ?_); rintro e w2 ⟨rfl, hb2⟩; have D2 := Lib.hid (D1.out.trans (hb2.mono D1.out.size)); have X2 := Lib.hid (X1.out.below hb2 X1.out.lt); clear hb2 c0 c1 c2 c3 c4 c5 c6 c7 c8 c9 c10 c11 c12; obtain ⟨c0, c1, c2, c3, c4, c5, c6, c7, c8, c9, c10, c11, c12⟩ := box13 X2.out)
 go_upto_region 4 with (first | ((with_reducible refine (HCF.out w2).mono ?_); rintro e w3 ⟨rfl, hb3⟩; have D3 := Lib.hid (D2.out.trans (hb3.mono D2.out.size)); have X3 := Lib.hid (X2.out.below hb3 X2.out.lt); clear hb3 c0 c1 c2 c3 c4 c5 c6 c7 c8 c9 c10 c11 c12; obtain ⟨c0, c1, c2, c3, c4, c5, c6, c7, c8, c9, c10, c11, c12⟩ := box13 X3.out) | ((with_reducible refine (HCK'.out w3 D3.out).mono ?_); rintro e w4 ⟨rfl, hb4⟩; have D4 := Lib.hid (D3.out.trans (hb4.mono D3.out.size)); have X4 := Lib.hid (X3.out.below hb4 X3.out.lt); clear hb4 c0 c1 c2 c3 c4 c5 c6 c7 c8 c9 c10 c11 c12; obtain ⟨c0, c1, c2, c3, c4, c5, c6, c7, c8, c9, c10, c11, c12⟩ := box13 X4.out))
 go_upto_region 5 with (first | ((with_reducible refine (HCF.out w4).mono ?_); rintro e w5 ⟨rfl, hb5⟩; have D5 := Lib.hid (D4.out.trans (hb5.mono D4.out.size)); have X5 := Lib.hid (X4.out.below hb5 X4.out.lt); clear hb5 c0 c1 c2 c3 c4 c5 c6 c7 c8 c9 c10 c11 c12; obtain ⟨c0, c1, c2, c3, c4, c5, c6, c7, c8, c9, c10, c11, c12⟩ := box13 X5.out) | ((with_reducible refine (HNW'.out w5 D5.out).mono ?_); rintro e w6 ⟨rfl, hb6⟩; have D6 := Lib.hid (D5.out.trans (hb6.mono D5.out.size)); have X6 := Lib.hid (X5.out.below hb6 X5.out.lt); clear hb6 c0 c1 c2 c3 c4 c5 c6 c7 c8 c9 c10 c11 c12; obtain ⟨c0, c1, c2, c3, c4, c5, c6, c7, c8, c9, c10, c11, c12⟩ := box13 X6.out))
 go_upto_region 6 with ((with_reducible refine (HRK'.out w6 D6.out).mono ?_); rintro e w7 ⟨rfl, hb7⟩; have D7 := Lib.hid (D6.out.trans (hb7.mono D6.out.size)); have X7 := Lib.hid (X6.out.below hb7 X6.out.lt); clear hb7 c0 c1 c2 c3 c4 c5 c6 c7 c8 c9 c10 c11 c12; obtain ⟨c0, c1, c2, c3, c4, c5, c6, c7, c8, c9, c10, c11, c12⟩ := box13 X7.out)
 go_wp2_with (first | ((with_reducible refine (HTM.out _).mono ?_); rintro e w8 ⟨rfl, hw8⟩; subst w8) | ((with_reducible refine (HLV.out _).mono ?_); rintro e w9 ⟨rfl, hb9⟩; have D9 := Lib.hid (D7.out.trans (hb9.mono D7.out.size)); clear hb9))
 go_ret
 exact ⟨rfl, B1.out.trans (D9.out.mono B1.out.size)⟩
set_option maxHeartbeats 8000000 in
theorem lbc_late (R : Nat → Prop) (c : Cfg) (vc vp : Value) (now : Int) (w : World) (h : CfgIn w R c vc vp) (hfew : fewC c = true) (ok : CfgOk c) (hn : inBetween now 1 1099511627776 = false) :
 Calls Tryz.prog 3 #[encC c vc vp, .int .i64 now] w fun e w' => e = .returned (.bool true) ∧ Below w.heap.size w w' := by
 obtain ⟨W1, hW1⟩ : ∃ W, w.alloc (.cells (ccells c vc vp) 27) = W := ⟨_, rfl⟩
 obtain ⟨q0, hq0⟩ : ∃ q, w.heap.size = q := ⟨_, rfl⟩
 have hb1 : Below w.heap.size w W1 := by rw [← hW1]; exact (Below.refl _ _).alloc (Nat.le_refl _) _
 have hx1 : CBox W1 q0 27 (ccells c vc vp) := by rw [← hW1]; exact CBox.new _ hq0.symm
 have H1 := h.mono hb1
 have HLV := Lib.hid live_true
 have HFW := few23_any R c vc vp W1 H1
 rw [hfew] at HFW
 have HCK := fun W (hW : Below W1.heap.size W1 W) => check_good R c vc vp W (H1.mono hW) ok
 have HRK := fun W (hW : Below W1.heap.size W1 W) => rck_good R c vc vp W (H1.mono hW) ok
 have HNW := fun W (hW : Below W1.heap.size W1 W) => bnew_late R c vc vp now W (H1.mono hW) ok hn
 have HTM := Lib.hid (fun W => rtime_any now W)
 rw [hn] at HTM
 obtain ⟨ao, an, ac, rfl⟩ := h.costs.shape
 obtain ⟨bo, bc, rfl⟩ := h.ports.shape
 have X1 := Lib.hid hx1; have B1 := Lib.hid hb1; have HW1 := Lib.hid hW1; have HQ0 := Lib.hid hq0
 rw [show encC c (.slice ao an ac) (.slice bo c.ports.length bc) = .agg #[.int .u64 c.id, .slice ao an ac, .slice bo c.ports.length bc, .string (bstr c.self4), .string (bstr c.self6), .int .i64 c.every, .int .i64 c.robust, .int .i64 c.member, .int .i64 c.last, .int .i64 c.age, .int .i64 c.room, .bool c.flood, .bool c.fast] from rfl] at HFW ⊢
 replace HCK : ∀ W, Below W1.heap.size W1 W → Calls Tryz.prog 10 #[.agg #[.int .u64 c.id, .slice ao an ac, .slice bo c.ports.length bc, .string (bstr c.self4), .string (bstr c.self6), .int .i64 c.every, .int .i64 c.robust, .int .i64 c.member, .int .i64 c.last, .int .i64 c.age, .int .i64 c.room, .bool c.flood, .bool c.fast]] W (RetNm 0 W) := HCK
 replace HRK : ∀ W, Below W1.heap.size W1 W → Calls Tryz.prog 13 #[.agg #[.int .u64 c.id, .slice ao an ac, .slice bo c.ports.length bc, .string (bstr c.self4), .string (bstr c.self6), .int .i64 c.every, .int .i64 c.robust, .int .i64 c.member, .int .i64 c.last, .int .i64 c.age, .int .i64 c.room, .bool c.flood, .bool c.fast]] W (RetNm 0 W) := HRK
 replace HNW : ∀ W, Below W1.heap.size W1 W → Calls Tryz.prog 12 #[.agg #[.int .u64 c.id, .slice ao an ac, .slice bo c.ports.length bc, .string (bstr c.self4), .string (bstr c.self6), .int .i64 c.every, .int .i64 c.robust, .int .i64 c.member, .int .i64 c.last, .int .i64 c.age, .int .i64 c.room, .bool c.flood, .bool c.fast], .int .i64 now] W (RetNo W) := HNW
 unfold ccells at HW1 X1
 obtain ⟨n, hn'⟩ : ∃ n, c.ports.length = n := ⟨_, rfl⟩
 rw [hn'] at HW1 X1 HFW HCK HRK HNW ⊢
 obtain ⟨id, costs, ports, s4, s6, ev, rb, me, la, ag, ro, fl, fa⟩ := c
 dsimp only at HW1 X1 HFW HCK HRK HNW ⊢
 have HFW' := Lib.hid HFW
 have HCK' := Lib.hid HCK
 have HRK' := Lib.hid HRK
 have HNW' := Lib.hid HNW
 have HCF := Lib.hid (fun W => config_any id ev rb me la ag ro ao bo an ac n bc (bstr s4) (bstr s6) fl fa W)
 clear h hfew H1 hW1 hq0 hb1 hx1 hn' HFW HCK HRK HNW ok hn
 go_enter Tryz.func3, Tryz.ntmps3
 go_upto_region 1 with fail
 rw [HW1.out, HQ0.out]
 obtain ⟨c0, c1, c2, c3, c4, c5, c6, c7, c8, c9, c10, c11, c12⟩ := box13 X1.out
 have D1 := Lib.hid (Below.refl W1.heap.size W1)
 go_upto_region 3 with ((with_reducible refine HFW'.out.mono ?_); rintro e w2 ⟨rfl, hb2⟩; have D2 := Lib.hid (D1.out.trans (hb2.mono D1.out.size)); have X2 := Lib.hid (X1.out.below hb2 X1.out.lt); clear hb2 c0 c1 c2 c3 c4 c5 c6 c7 c8 c9 c10 c11 c12; obtain ⟨c0, c1, c2, c3, c4, c5, c6, c7, c8, c9, c10, c11, c12⟩ := box13 X2.out)
 go_upto_region 4 with (first | ((with_reducible refine (HCF.out w2).mono ?_); rintro e w3 ⟨rfl, hb3⟩; have D3 := Lib.hid (D2.out.trans (hb3.mono D2.out.size)); have X3 := Lib.hid (X2.out.below hb3 X2.out.lt); clear hb3 c0 c1 c2 c3 c4 c5 c6 c7 c8 c9 c10 c11 c12; obtain ⟨c0, c1, c2, c3, c4, c5, c6, c7, c8, c9, c10, c11, c12⟩ := box13 X3.out) | ((with_reducible refine (HCK'.out w3 D3.out).mono ?_); rintro e w4 ⟨rfl, hb4⟩; have D4 := Lib.hid (D3.out.trans (hb4.mono D3.out.size)); have X4 := Lib.hid (X3.out.below hb4 X3.out.lt); clear hb4 c0 c1 c2 c3 c4 c5 c6 c7 c8 c9 c10 c11 c12; obtain ⟨c0, c1, c2, c3, c4, c5, c6, c7, c8, c9, c10, c11, c12⟩ := box13 X4.out))
 go_upto_region 5 with (first | ((with_reducible refine (HCF.out w4).mono ?_); rintro e w5 ⟨rfl, hb5⟩; have D5 := Lib.hid (D4.out.trans (hb5.mono D4.out.size)); have X5 := Lib.hid (X4.out.below hb5 X4.out.lt); clear hb5 c0 c1 c2 c3 c4 c5 c6 c7 c8 c9 c10 c11 c12; obtain ⟨c0, c1, c2, c3, c4, c5, c6, c7, c8, c9, c10, c11, c12⟩ := box13 X5.out) | ((with_reducible refine (HNW'.out w5 D5.out).mono ?_); rintro e w6 ⟨rfl, hb6⟩; have D6 := Lib.hid (D5.out.trans (hb6.mono D5.out.size)); have X6 := Lib.hid (X5.out.below hb6 X5.out.lt); clear hb6 c0 c1 c2 c3 c4 c5 c6 c7 c8 c9 c10 c11 c12; obtain ⟨c0, c1, c2, c3, c4, c5, c6, c7, c8, c9, c10, c11, c12⟩ := box13 X6.out))
 go_upto_region 6 with ((with_reducible refine (HRK'.out w6 D6.out).mono ?_); rintro e w7 ⟨rfl, hb7⟩; have D7 := Lib.hid (D6.out.trans (hb7.mono D6.out.size)); have X7 := Lib.hid (X6.out.below hb7 X6.out.lt); clear hb7 c0 c1 c2 c3 c4 c5 c6 c7 c8 c9 c10 c11 c12; obtain ⟨c0, c1, c2, c3, c4, c5, c6, c7, c8, c9, c10, c11, c12⟩ := box13 X7.out)
 go_wp2_with (first | ((with_reducible refine (HTM.out _).mono ?_); rintro e w8 ⟨rfl, hw8⟩; subst w8) | ((with_reducible refine (HLV.out _).mono ?_); rintro e w9 ⟨rfl, hb9⟩; have D9 := Lib.hid (D7.out.trans (hb9.mono D7.out.size)); clear hb9))
 go_ret
 exact ⟨rfl, B1.out.trans (D9.out.mono B1.out.size)⟩
set_option maxHeartbeats 8000000 in
theorem lbc_good (R : Nat → Prop) (c : Cfg) (vc vp : Value) (now : Int) (w : World) (h : CfgIn w R c vc vp) (hfew : fewC c = true) (ok : CfgOk c) (hid : c.id < 18446744073709551616) (hn : inBetween now 1 1099511627776 = true) :
 Calls Tryz.prog 3 #[encC c vc vp, .int .i64 now] w fun e w' => e = .returned (.bool true) ∧ Below w.heap.size w w' := by
 obtain ⟨W1, hW1⟩ : ∃ W, w.alloc (.cells (ccells c vc vp) 27) = W := ⟨_, rfl⟩
 obtain ⟨q0, hq0⟩ : ∃ q, w.heap.size = q := ⟨_, rfl⟩
 have hb1 : Below w.heap.size w W1 := by rw [← hW1]; exact (Below.refl _ _).alloc (Nat.le_refl _) _
 have hx1 : CBox W1 q0 27 (ccells c vc vp) := by rw [← hW1]; exact CBox.new _ hq0.symm
 have H1 := h.mono hb1
 have HLV := Lib.hid live_true
 have HFW := few23_any R c vc vp W1 H1
 rw [hfew] at HFW
 have HCK := fun W (hW : Below W1.heap.size W1 W) => check_good R c vc vp W (H1.mono hW) ok
 have HRK := fun W (hW : Below W1.heap.size W1 W) => rck_good R c vc vp W (H1.mono hW) ok
 have HNW := fun W (hW : Below W1.heap.size W1 W) => bnew_any R c vc vp now W (H1.mono hW) ok hid hn
 have HTM := Lib.hid (fun W => rtime_any now W)
 rw [hn] at HTM
 obtain ⟨ao, an, ac, rfl⟩ := h.costs.shape
 obtain ⟨bo, bc, rfl⟩ := h.ports.shape
 have X1 := Lib.hid hx1; have B1 := Lib.hid hb1; have HW1 := Lib.hid hW1; have HQ0 := Lib.hid hq0
 rw [show encC c (.slice ao an ac) (.slice bo c.ports.length bc) = .agg #[.int .u64 c.id, .slice ao an ac, .slice bo c.ports.length bc, .string (bstr c.self4), .string (bstr c.self6), .int .i64 c.every, .int .i64 c.robust, .int .i64 c.member, .int .i64 c.last, .int .i64 c.age, .int .i64 c.room, .bool c.flood, .bool c.fast] from rfl] at HFW ⊢
 replace HCK : ∀ W, Below W1.heap.size W1 W → Calls Tryz.prog 10 #[.agg #[.int .u64 c.id, .slice ao an ac, .slice bo c.ports.length bc, .string (bstr c.self4), .string (bstr c.self6), .int .i64 c.every, .int .i64 c.robust, .int .i64 c.member, .int .i64 c.last, .int .i64 c.age, .int .i64 c.room, .bool c.flood, .bool c.fast]] W (RetNm 0 W) := HCK
 replace HRK : ∀ W, Below W1.heap.size W1 W → Calls Tryz.prog 13 #[.agg #[.int .u64 c.id, .slice ao an ac, .slice bo c.ports.length bc, .string (bstr c.self4), .string (bstr c.self6), .int .i64 c.every, .int .i64 c.robust, .int .i64 c.member, .int .i64 c.last, .int .i64 c.age, .int .i64 c.room, .bool c.flood, .bool c.fast]] W (RetNm 0 W) := HRK
 replace HNW : ∀ W, Below W1.heap.size W1 W → Calls Tryz.prog 12 #[.agg #[.int .u64 c.id, .slice ao an ac, .slice bo c.ports.length bc, .string (bstr c.self4), .string (bstr c.self6), .int .i64 c.every, .int .i64 c.robust, .int .i64 c.member, .int .i64 c.last, .int .i64 c.age, .int .i64 c.room, .bool c.flood, .bool c.fast], .int .i64 now] W (RetNew W c now) := HNW
 unfold ccells at HW1 X1
 obtain ⟨n, hn'⟩ : ∃ n, c.ports.length = n := ⟨_, rfl⟩
 rw [hn'] at HW1 X1 HFW HCK HRK HNW ⊢
 obtain ⟨id, costs, ports, s4, s6, ev, rb, me, la, ag, ro, fl, fa⟩ := c
 dsimp only at HW1 X1 HFW HCK HRK HNW ⊢
 have HFW' := Lib.hid HFW
 have HCK' := Lib.hid HCK
 have HRK' := Lib.hid HRK
 have HNW' := Lib.hid HNW
 have HCF := Lib.hid (fun W => config_any id ev rb me la ag ro ao bo an ac n bc (bstr s4) (bstr s6) fl fa W)
 clear h hfew H1 hW1 hq0 hb1 hx1 hn' HFW HCK HRK HNW ok hn hid
 go_enter Tryz.func3, Tryz.ntmps3
 go_upto_region 1 with fail
 rw [HW1.out, HQ0.out]
 obtain ⟨c0, c1, c2, c3, c4, c5, c6, c7, c8, c9, c10, c11, c12⟩ := box13 X1.out
 have D1 := Lib.hid (Below.refl W1.heap.size W1)
 go_upto_region 3 with ((with_reducible refine HFW'.out.mono ?_); rintro e w2 ⟨rfl, hb2⟩; have D2 := Lib.hid (D1.out.trans (hb2.mono D1.out.size)); have X2 := Lib.hid (X1.out.below hb2 X1.out.lt); clear hb2 c0 c1 c2 c3 c4 c5 c6 c7 c8 c9 c10 c11 c12; obtain ⟨c0, c1, c2, c3, c4, c5, c6, c7, c8, c9, c10, c11, c12⟩ := box13 X2.out)
 go_upto_region 4 with (first | ((with_reducible refine (HCF.out w2).mono ?_); rintro e w3 ⟨rfl, hb3⟩; have D3 := Lib.hid (D2.out.trans (hb3.mono D2.out.size)); have X3 := Lib.hid (X2.out.below hb3 X2.out.lt); clear hb3 c0 c1 c2 c3 c4 c5 c6 c7 c8 c9 c10 c11 c12; obtain ⟨c0, c1, c2, c3, c4, c5, c6, c7, c8, c9, c10, c11, c12⟩ := box13 X3.out) | ((with_reducible refine (HCK'.out w3 D3.out).mono ?_); rintro e w4 ⟨rfl, hb4⟩; have D4 := Lib.hid (D3.out.trans (hb4.mono D3.out.size)); have X4 := Lib.hid (X3.out.below hb4 X3.out.lt); clear hb4 c0 c1 c2 c3 c4 c5 c6 c7 c8 c9 c10 c11 c12; obtain ⟨c0, c1, c2, c3, c4, c5, c6, c7, c8, c9, c10, c11, c12⟩ := box13 X4.out))
 go_upto_region 5 with (first | ((with_reducible refine (HCF.out w4).mono ?_); rintro e w5 ⟨rfl, hb5⟩; have D5 := Lib.hid (D4.out.trans (hb5.mono D4.out.size)); have X5 := Lib.hid (X4.out.below hb5 X4.out.lt); clear hb5 c0 c1 c2 c3 c4 c5 c6 c7 c8 c9 c10 c11 c12; obtain ⟨c0, c1, c2, c3, c4, c5, c6, c7, c8, c9, c10, c11, c12⟩ := box13 X5.out) | ((with_reducible refine (HNW'.out w5 D5.out).mono ?_); rintro e w6 ⟨A6, R6, rfl, _, _, _, _, hb6⟩; have D6 := Lib.hid (D5.out.trans (hb6.mono D5.out.size)); have X6 := Lib.hid (X5.out.below hb6 X5.out.lt); clear hb6 c0 c1 c2 c3 c4 c5 c6 c7 c8 c9 c10 c11 c12; obtain ⟨c0, c1, c2, c3, c4, c5, c6, c7, c8, c9, c10, c11, c12⟩ := box13 X6.out))
 go_upto_region 6 with ((with_reducible refine (HRK'.out w6 D6.out).mono ?_); rintro e w7 ⟨rfl, hb7⟩; have D7 := Lib.hid (D6.out.trans (hb7.mono D6.out.size)); have X7 := Lib.hid (X6.out.below hb7 X6.out.lt); clear hb7 c0 c1 c2 c3 c4 c5 c6 c7 c8 c9 c10 c11 c12; obtain ⟨c0, c1, c2, c3, c4, c5, c6, c7, c8, c9, c10, c11, c12⟩ := box13 X7.out)
 go_wp2_with (first | ((with_reducible refine (HTM.out _).mono ?_); rintro e w8 ⟨rfl, hw8⟩; subst w8) | ((with_reducible refine (HLV.out _).mono ?_); rintro e w9 ⟨rfl, hb9⟩; have D9 := Lib.hid (D7.out.trans (hb9.mono D7.out.size)); clear hb9))
 go_ret
 exact ⟨rfl, B1.out.trans (D9.out.mono B1.out.size)⟩
set_option maxHeartbeats 4000000 in
theorem few_long (id ev rb me la ag ro : Int) (ao bo : Option Addr) (an ac n bc : Nat) (s4 s6 : ByteArray) (fl fa : Bool) (w : World) (hn : 8 < n) :
 Calls Tryz.prog 8 #[.agg #[.int .u64 id, .slice ao an ac, .slice bo n bc, .string s4, .string s6, .int .i64 ev, .int .i64 rb, .int .i64 me, .int .i64 la, .int .i64 ag, .int .i64 ro, .bool fl, .bool fa]] w fun e w' => e = .returned (.bool false) ∧ Below w.heap.size w w' := by
 obtain ⟨W1, hW1⟩ : ∃ W, w.alloc (.cells #[.int .u64 id, .slice ao an ac, .slice bo n bc, .string s4, .string s6, .int .i64 ev, .int .i64 rb, .int .i64 me, .int .i64 la, .int .i64 ag, .int .i64 ro, .bool fl, .bool fa] 27) = W := ⟨_, rfl⟩
 obtain ⟨q0, hq0⟩ : ∃ q, w.heap.size = q := ⟨_, rfl⟩
 have hb1 : Below w.heap.size w W1 := by rw [← hW1]; exact (Below.refl _ _).alloc (Nat.le_refl _) _
 have X1 := Lib.hid (show CBox W1 q0 27 #[.int .u64 id, .slice ao an ac, .slice bo n bc, .string s4, .string s6, .int .i64 ev, .int .i64 rb, .int .i64 me, .int .i64 la, .int .i64 ag, .int .i64 ro, .bool fl, .bool fa] from by rw [← hW1]; exact CBox.new _ hq0.symm)
 have lp : ∀ ty w', (Builtin.len_ #[24] ty #[.slice bo n bc]).run Tryz.prog w' = .ok (.int .i64 n) w' := fun ty w' => run_len_any Tryz.underlying24 bo n bc ty w'
 have d1 : decide ((8 : Int) < n) = true := decide_eq_true (by omega)
 have B1 := Lib.hid hb1; have HW1 := Lib.hid hW1; have HQ0 := Lib.hid hq0
 clear hb1 hW1 hq0 hn
 go_enter Tryz.func8, Tryz.ntmps8
 go_upto_region 1 with fail
 rw [HW1.out, HQ0.out]
 obtain ⟨c0, c1, c2, c3, c4, c5, c6, c7, c8, c9, c10, c11, c12⟩ := box13 X1.out
 go_wp2_with fail
 go_ret
 exact ⟨rfl, B1.out⟩
set_option maxHeartbeats 4000000 in
theorem lbc_long (c : Cfg) (vc : Value) (bo : Option Addr) (n bc : Nat) (now : Int) (w : World) (hc : Ints w vc c.costs) (hn : 8 < n) :
 Calls Tryz.prog 3 #[encC c vc (.slice bo n bc), .int .i64 now] w fun e w' => e = .returned (.bool true) ∧ Below w.heap.size w w' := by
 obtain ⟨ao, an, ac, rfl⟩ := hc.shape
 obtain ⟨id, costs, ports, s4, s6, ev, rb, me, la, ag, ro, fl, fa⟩ := c
 unfold encC ccells
 dsimp only
 obtain ⟨W1, hW1⟩ : ∃ W, w.alloc (.cells #[.int .u64 id, .slice ao an ac, .slice bo n bc, .string (bstr s4), .string (bstr s6), .int .i64 ev, .int .i64 rb, .int .i64 me, .int .i64 la, .int .i64 ag, .int .i64 ro, .bool fl, .bool fa] 27) = W := ⟨_, rfl⟩
 obtain ⟨q0, hq0⟩ : ∃ q, w.heap.size = q := ⟨_, rfl⟩
 have hb1 : Below w.heap.size w W1 := by rw [← hW1]; exact (Below.refl _ _).alloc (Nat.le_refl _) _
 have X1 := Lib.hid (show CBox W1 q0 27 #[.int .u64 id, .slice ao an ac, .slice bo n bc, .string (bstr s4), .string (bstr s6), .int .i64 ev, .int .i64 rb, .int .i64 me, .int .i64 la, .int .i64 ag, .int .i64 ro, .bool fl, .bool fa] from by rw [← hW1]; exact CBox.new _ hq0.symm)
 have HFW := Lib.hid (few_long id ev rb me la ag ro ao bo an ac n bc (bstr s4) (bstr s6) fl fa W1 hn)
 have HLV := Lib.hid live_true
 have B1 := Lib.hid hb1; have HW1 := Lib.hid hW1; have HQ0 := Lib.hid hq0
 clear hb1 hW1 hq0 hn hc
 go_enter Tryz.func3, Tryz.ntmps3
 go_upto_region 1 with fail
 rw [HW1.out, HQ0.out]
 obtain ⟨c0, c1, c2, c3, c4, c5, c6, c7, c8, c9, c10, c11, c12⟩ := box13 X1.out
 go_wp2_with (first | ((with_reducible refine HFW.out.mono ?_); rintro e w2 ⟨rfl, hb2⟩; have B2 := Lib.hid (B1.out.trans (hb2.mono B1.out.size)); clear hb2) | ((with_reducible refine (HLV.out _).mono ?_); rintro e w3 ⟨rfl, hb3⟩; have B3 := Lib.hid (B2.out.trans (hb3.mono B2.out.size)); clear hb3))
 go_ret
 exact ⟨rfl, B3.out⟩
theorem law_bchecks (R : Nat → Prop) (c : Cfg) (vc vp : Value) (now : Int) (w : World) (h : CfgIn w R c vc vp) (hid : c.id < 18446744073709551616) :
 Calls Tryz.prog 3 #[encC c vc vp, .int .i64 now] w fun e w' => e = .returned (.bool true) ∧ Below w.heap.size w w' := by
 cases hfew : fewC c
 · exact lbc_many R c vc vp now w h hfew
 · by_cases ok : CfgOk c
   · cases hn : inBetween now 1 1099511627776
     · exact lbc_late R c vc vp now w h hfew ok hn
     · exact lbc_good R c vc vp now w h hfew ok hid hn
   · exact lbc_bad R c vc vp now w h hfew ok
theorem law_bchecks2 (c : Cfg) (vc : Value) (ao : Option Addr) (n cap : Nat) (now : Int) (w : World) (hid : c.id < 18446744073709551616) (hc : Ints w vc c.costs) (hp : 8 < n ∨ (c.ports.length = n ∧ Pts (fun _ => True) w (.slice ao n cap) c.ports)) :
 Calls Tryz.prog 3 #[encC c vc (.slice ao n cap), .int .i64 now] w fun e w' => e = .returned (.bool true) ∧ Below w.heap.size w w' := by
 rcases hp with h8 | ⟨_, hp⟩
 · exact lbc_long c vc ao n cap now w hc h8
 · exact law_bchecks (fun _ => True) c vc _ now w ⟨hc, hp⟩ hid
end Go.Proofs.YthcdppppppgckaaGreatDoor
