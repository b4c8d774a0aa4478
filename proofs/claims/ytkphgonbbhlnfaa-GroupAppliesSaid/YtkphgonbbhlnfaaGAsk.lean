/- siphonref17.asked, May, SameAsk. -/
import Derived.Test.YtkphgonbbhlnfaaGSA
import Derived.Test.YtkphgonbbhlnfaaGSoon
import Derived.Test.YtkphgonbbhlnfaaGApp
namespace Go.Proofs.Ytkphgonbbhlnfaa
open Go.RowKit Go.Lib Go.Maps Go.Sort

theorem soonF_gt (F : Str → Option Int) (Q : List Str) (z : Int) (hz : 0 < z) (k : Nat) (h : k < Q.length) (hr : z < (soonF F (Q.take k) z Q[k]).getD 0) : soonF F (Q.take (k + 1)) z = upd (soonF F (Q.take k) z) Q[k] z := by
  have h1 : runF (soonF F (Q.take k) z) Q[k] = true := by unfold runF; rw [bne_iff_ne]; omega
  rw [soonF_yes F Q z k h h1, Int.min_eq_right (by omega)]
theorem soonF_le (F : Str → Option Int) (Q : List Str) (z : Int) (hz : 0 < z) (k : Nat) (h : k < Q.length) (hr : ¬ z < (soonF F (Q.take k) z Q[k]).getD 0) : soonF F (Q.take (k + 1)) z = soonF F (Q.take k) z := by
  cases h1 : runF (soonF F (Q.take k) z) Q[k]
  · exact soonF_no F Q z hz k h h1
  · rw [soonF_yes F Q z k h h1, Int.min_eq_left (by omega)]
    funext a
    unfold upd
    by_cases e : a = Q[k]
    · subst e
      rw [if_pos rfl]
      unfold runF at h1
      cases hv : soonF F (Q.take k) z Q[k]
      · rw [hv] at h1; simp at h1
      · rfl
    · rw [if_neg e]

set_option maxRecDepth 20000 in
set_option maxHeartbeats 4000000 in
theorem asked_any (ex : Bool) (at' : Int) (v : Value) (L : List Tmd) (F : Str → Option Int) (g : Bool) (u : Value) (Q : List Str) (z : Int) (w : World) (hT : Tms w v L) (hA : Asc F L) (hU : Strs w u Q) (hn : L.length + Q.length ≤ 1000000) (hz : (Lit.int .i64 z).wf = true) (hz0 : 0 < z) :
    Calls Try.prog 41 #[.agg #[.bool ex, .int .i64 at', v], .agg #[.bool g, u], .int .i64 z] w fun e w' => ∃ v' L', e = .returned (.agg #[.bool ex, .int .i64 (if g then min at' z else at'), v']) ∧ Tms w' v' L' ∧ Asc (soonF F Q z) L' ∧ Below w.heap.size w w' := by
  obtain ⟨vo, vc, rfl⟩ := hT.shape
  obtain ⟨uo, uc, rfl⟩ := hU.shape
  obtain ⟨ok, hok⟩ : ∃ ok : Nat → Prop, ok = fun b => b ≠ w.heap.size ∧ b ≠ w.heap.size + 1 ∧ b ≠ w.heap.size + 1 + 1 := ⟨_, rfl⟩
  obtain ⟨W0, hW0⟩ : ∃ W0, W0 = ((w.alloc (.cells #[.bool ex, .int .i64 at', .slice vo L.length vc] 24)).alloc (.cells #[.bool g, .slice uo Q.length uc] 47)).alloc (.cells #[.bool false, .int .i64 0, .slice none 0 0] 24) := ⟨_, rfl⟩
  have hb0 : Below w.heap.size w W0 := by rw [hW0]; exact (((Below.refl _ _).alloc (Nat.le_refl _) _).alloc (by simp) _).alloc (by simp <;> omega) _
  have hs0 : W0.heap.size = w.heap.size + 1 + 1 + 1 := by rw [hW0]; simp
  have sS : CBox W0 w.heap.size 24 #[.bool ex, .int .i64 at', .slice vo L.length vc] := by rw [hW0]; exact ((CBox.new _ rfl).old _).old _
  have sK : CBox W0 (w.heap.size + 1) 47 #[.bool g, .slice uo Q.length uc] := by rw [hW0]; exact (CBox.new _ (by simp)).old _
  have sR : CBox W0 (w.heap.size + 1 + 1) 24 #[.bool false, .int .i64 0, .slice none 0 0] := by rw [hW0]; exact CBox.new _ (by simp)
  have hst0 : StBox W0 w.heap.size ok ex at' L.length F := ⟨_, L, sS, hT.mono hb0, hA, Nat.le_refl _, fun hL b hb => by rw [hok]; exact ⟨hT.ne_ge (b := w.heap.size) (Nat.le_refl _) hL b hb, hT.ne_ge (b := w.heap.size + 1) (by omega) hL b hb, hT.ne_ge (b := w.heap.size + 1 + 1) (by omega) hL b hb⟩⟩
  have HOK := Lib.hid (show ∀ b, W0.heap.size ≤ b → ok b from fun b hb => by rw [hok]; refine ⟨?_, ?_, ?_⟩ <;> omega)
  have HO1 := Lib.hid (show ∀ b, ok b → b ≠ w.heap.size ∧ b ≠ w.heap.size + 1 ∧ b ≠ w.heap.size + 1 + 1 from fun b hb => by rw [hok] at hb; exact hb)
  have HUS := Lib.hid (hU.ne_ge (b := w.heap.size) (Nat.le_refl _))
  have HU := Lib.hid (hU.mono hb0)
  have hw := hU.len
  have HZ := Lib.hid hz; have HZ0 := Lib.hid hz0
  have HB0 := Lib.hid hb0; have SK := Lib.hid sK; have SR := Lib.hid sR; have HST0 := Lib.hid hst0
  clear hT hU hA hz hz0 hok hb0 sS sK sR hst0
  go_enter Try.func41, Try.ntmps41
  go_wp2_with fail
  rw [← hW0]
  have HW0 := Lib.hid hW0
  clear hW0
  go_loopw [7] (fun i wr => ∃ k : Nat, k ≤ Q.length ∧ i = .int .i64 k ∧ StBox wr w.heap.size ok ex at' (L.length + k) (soonF F (Q.take k) z) ∧ W0.grownBy wr (some w.heap.size)) (fun i _ => Q.length - (intOf i).toNat)
  case atStart => exact ⟨0, Nat.zero_le _, rfl, by rw [List.take_zero, soonF_nil]; exact HST0.out, World.grownBy.refl _ _⟩
  case round =>
    obtain ⟨k, hk, rfl, hst, hg⟩ := hrel
    have HST := Lib.hid hst
    obtain ⟨v1, L1, c1, t1, a1, n1, o1⟩ := hst
    obtain ⟨v1o, v1c, rfl⟩ := t1.shape
    obtain ⟨b, off, hm, hlen, hidx, hc⟩ := (HU.out.grown' hg HUS.out).facts
    have hgs := hg.size
    have uK := SK.out.grown hg (fun e => by injection e with e; omega)
    have uR := SR.out.grown hg (fun e => by injection e with e; omega)
    obtain ⟨y0, _⟩ := c1.at_ 0 _ rfl
    obtain ⟨y1, _⟩ := c1.at_ 1 _ rfl
    obtain ⟨y2, _⟩ := c1.at_ 2 _ rfl
    obtain ⟨z0, _⟩ := uK.at_ 0 _ rfl
    obtain ⟨z1, _⟩ := uK.at_ 1 _ rfl
    by_cases hlt : k < Q.length
    · have hcell := (hc k hlt).2
      have hbl := (hc k hlt).1
      obtain ⟨a, ha⟩ : ∃ a, Q[k] = a := ⟨_, rfl⟩
      have hal : a.length ≤ maxLen := by rw [← ha]; exact hw _ (List.getElem_mem hlt)
      rw [show Q.getD k [] = a from by rw [← ha]; simp [List.getD_eq_getElem?_getD, hlt], enc_bstr] at hcell
      have hp := hidx k hlt
      have HGT := soonF_gt F Q z HZ0.out k hlt
      have HLE := soonF_le F Q z HZ0.out k hlt
      rw [ha] at HGT HLE
      have HAT := Lib.hid (fun W (hW : Below wr.heap.size wr W) => rat_any ex at' _ L1 a W (t1.mono hW))
      rw [atL_asc a1 a] at HAT
      obtain ⟨t, ht⟩ : ∃ t, (soonF F (Q.take k) z a).getD 0 = t := ⟨_, rfl⟩
      rw [ht] at HAT HGT HLE
      have HG := Lib.hid hg
      have CC := Lib.hid c1; have KK := Lib.hid uK
      have HC := Lib.hid (And.intro hbl hcell)
      have R0 := Lib.hid (Below.drew (Below.refl wr.heap.size wr))
      have CK := Lib.hid (show ∀ w', Below wr.heap.size wr w' → w'.cell? ⟨b, off + k, none⟩ = some (.string (bstr a)) ∧ w'.cell? ⟨w.heap.size, 0, none⟩ = some (.bool ex) ∧ w'.cell? ⟨w.heap.size, 1, none⟩ = some (.int .i64 at') ∧ w'.cell? ⟨w.heap.size, 2, none⟩ = some (.slice v1o L1.length v1c) ∧ w'.cell? ⟨w.heap.size + 1, 1, none⟩ = some (.slice uo Q.length uc) from fun w' hw' =>
        have t1 := CC.out.below hw' CC.out.lt
        have t2 := KK.out.below hw' KK.out.lt
        ⟨(hw'.cell (p := ⟨b, off + k, none⟩) HC.out.1).trans HC.out.2, (t1.at_ 0 _ rfl).1, (t1.at_ 1 _ rfl).1, (t1.at_ 2 _ rfl).1, (t2.at_ 1 _ rfl).1⟩)
      cases hd : decide (z < t)
      · have HT := Lib.hid (HLE (by simpa using hd))
        have d1 : decide (z < t) = false := hd
        clear HGT HLE hidx hc hw ha t1 a1 n1 o1 hg uK uR ht hbl
        go_wp2_with fail
        go_region_held3 (fun w' => w'.cell? ⟨b, off + k, none⟩ = some (.string (bstr a)) ∧ w'.cell? ⟨w.heap.size, 0, none⟩ = some (.bool ex) ∧ w'.cell? ⟨w.heap.size, 1, none⟩ = some (.int .i64 at') ∧ w'.cell? ⟨w.heap.size, 2, none⟩ = some (.slice v1o L1.length v1c) ∧ w'.cell? ⟨w.heap.size + 1, 1, none⟩ = some (.slice uo Q.length uc)) (first | exact CK.out _ HB2.out | exact CK.out _ R0.out) (((with_reducible refine (HAT.out _ R0.out).mono ?_); rintro e w2 ⟨rfl, hb2⟩; have HB2 := Lib.hid (R0.out.trans (hb2.mono R0.out.size)); clear hb2))
        go_wp2_with fail
        go_roundw
        case rel => exact ⟨k + 1, by omega, by go_num, by rw [HT.out]; exact (HST.out.mono HB2.out).up (by omega), grown_below HG.out HB2.out⟩
        case measure => simp [intOf]; omega
      · have HT := Lib.hid (HGT (by simpa using hd))
        have d1 : decide (z < t) = true := hd
        have HP := Lib.hid (fun W (hW : Below wr.heap.size wr W) => put_st a z (fun b hb => HOK.out b (Nat.le_trans (Nat.le_trans HG.out.size hW.size) hb)) (HST.out.mono hW) (by omega) hal HZ.out)
        clear HGT HLE hidx hc hw ha t1 a1 n1 o1 hg uK uR ht hbl
        go_wp2_with fail
        go_region_held3 (fun w' => w'.cell? ⟨b, off + k, none⟩ = some (.string (bstr a)) ∧ w'.cell? ⟨w.heap.size, 0, none⟩ = some (.bool ex) ∧ w'.cell? ⟨w.heap.size, 1, none⟩ = some (.int .i64 at') ∧ w'.cell? ⟨w.heap.size, 2, none⟩ = some (.slice v1o L1.length v1c) ∧ w'.cell? ⟨w.heap.size + 1, 1, none⟩ = some (.slice uo Q.length uc)) (first | exact CK.out _ HB2.out | exact CK.out _ R0.out) (((with_reducible refine (HAT.out _ R0.out).mono ?_); rintro e w2 ⟨rfl, hb2⟩; have HB2 := Lib.hid (R0.out.trans (hb2.mono R0.out.size)); clear hb2))
        obtain ⟨q1, q2, q3, q4, q5⟩ := CK.out _ HB2.out
        have HP2 := Lib.hid (HP.out _ HB2.out)
        clear HP HAT
        go_wp2_with ((with_reducible refine HP2.out.mono ?_); rintro e w3 ⟨rfl, hs3, hg3⟩)
        go_roundw
        case rel => exact ⟨k + 1, by omega, by go_num, by rw [HT.out]; exact hs3, (grown_below HG.out HB2.out).trans hg3⟩
        case measure => simp [intOf]; omega
    · have HT := Lib.hid (show soonF F (Q.take k) z = soonF F Q z from by rw [List.take_of_length_le (by omega)])
      have HO := Lib.hid (fun hL b hb => HO1.out b (o1 hL b hb))
      have HG := Lib.hid hg
      have hmin := fun ty W => run_min ty at' z W
      have TT := Lib.hid t1; have AA := Lib.hid a1; have CC := Lib.hid c1; have RR := Lib.hid uR
      have HBW := Lib.hid (HB0.out.grown HG.out HB0.out.size (fun j e => by injection e with e; omega))
      clear hidx hc hw hg uK t1 a1 n1 o1
      obtain ⟨r0, _⟩ := uR.at_ 0 _ rfl
      obtain ⟨r1, _⟩ := uR.at_ 1 _ rfl
      obtain ⟨r2, _⟩ := uR.at_ 2 _ rfl
      cases g
      · obtain ⟨x0, _⟩ := c1.at_ 0 _ rfl
        obtain ⟨x1, _⟩ := c1.at_ 1 _ rfl
        obtain ⟨x2, _⟩ := c1.at_ 2 _ rfl
        clear c1 uR
        go_wp2
        have R := fun u1 u2 u3 => ((RR.out.set 0 u1).set 1 u2).set 2 u3
        have r0 := fun u1 u2 u3 => ((R u1 u2 u3).at_ 0 _ rfl).1
        have r1 := fun u1 u2 u3 => ((R u1 u2 u3).at_ 1 _ rfl).1
        have r2 := fun u1 u2 u3 => ((R u1 u2 u3).at_ 2 _ rfl).1
        refine bodyPost_ret (v := .agg #[.bool ex, .int .i64 at', .slice v1o L1.length v1c]) (by simp [results, Try.results41, go_sem, r0, r1, r2]) rfl ⟨_, rfl, L1, ?_, by rw [← HT.out]; exact AA.out, ((HBW.out.setCell (by simp; omega) _).setCell (by simp; omega) _).setCell (by simp; omega) _⟩
        exact ((TT.out.apart (fun hL b hb => (HO.out hL b hb).2.2) _).apart (fun hL b hb => (HO.out hL b hb).2.2) _).apart (fun hL b hb => (HO.out hL b hb).2.2) _
      · obtain ⟨x0, _⟩ := c1.at_ 0 _ rfl
        obtain ⟨x1, xf1⟩ := c1.at_ 1 _ rfl
        obtain ⟨x2, _⟩ := c1.at_ 2 _ rfl
        have RR1 := Lib.hid (uR.far (p := ⟨w.heap.size, 1, none⟩) (by simp; omega) (.int .i64 (min at' z)))
        obtain ⟨s0, _⟩ := ((c1.set 1 (.int .i64 (min at' z))).at_ 0 _ rfl)
        obtain ⟨s1, _⟩ := ((c1.set 1 (.int .i64 (min at' z))).at_ 1 _ rfl)
        obtain ⟨s2, _⟩ := ((c1.set 1 (.int .i64 (min at' z))).at_ 2 _ rfl)
        clear c1 uR
        go_wp2
        have R := fun u1 u2 u3 => ((RR1.out.set 0 u1).set 1 u2).set 2 u3
        have r0 := fun u1 u2 u3 => ((R u1 u2 u3).at_ 0 _ rfl).1
        have r1 := fun u1 u2 u3 => ((R u1 u2 u3).at_ 1 _ rfl).1
        have r2 := fun u1 u2 u3 => ((R u1 u2 u3).at_ 2 _ rfl).1
        refine bodyPost_ret (v := .agg #[.bool ex, .int .i64 (min at' z), .slice v1o L1.length v1c]) (by simp [results, Try.results41, go_sem, r0, r1, r2]) rfl ⟨_, rfl, L1, ?_, by rw [← HT.out]; exact AA.out, (((HBW.out.setCell (by simp) _).setCell (by simp; omega) _).setCell (by simp; omega) _).setCell (by simp; omega) _⟩
        exact (((TT.out.apart (fun hL b hb => (HO.out hL b hb).1) _).apart (fun hL b hb => (HO.out hL b hb).2.2) _).apart (fun hL b hb => (HO.out hL b hb).2.2) _).apart (fun hL b hb => (HO.out hL b hb).2.2) _

/-- May -/
theorem rmay_any (now mem last : Int) (w : World) :
    Calls Try.prog 37 #[.int .i64 now, .int .i64 mem, .int .i64 last] w fun e w' => e = .returned (.bool (may now mem last)) ∧ w' = w := by
  rw [may_eq]
  cases h1 : decide (1 ≤ now) <;> cases h2 : decide (now ≤ 1099511627776) <;> cases h3 : decide (1 ≤ mem) <;> cases h4 : decide (mem ≤ 1000000) <;> cases h5 : decide (1 ≤ last) <;> cases h6 : decide (last ≤ 1000000)
  all_goals
    go_enter Try.func37, Try.ntmps37
    go_wp2_with fail
    go_ret
    exact ⟨rfl, rfl⟩
/-- SameAsk -/
theorem sameask_yes (g : Bool) (u : Value) (Q : List Str) (v : Value) (w : World) (hu : Strs w u Q) (hv : Strs w v Q) :
    Calls Try.prog 22 #[.agg #[.bool g, u], .bool g, v] w fun e w' => e = .returned (.bool true) ∧ Below w.heap.size w w' := by
  obtain ⟨uo, uc, rfl⟩ := hu.shape
  have hb0 : Below w.heap.size w (w.alloc (.cells #[.bool g, .slice uo Q.length uc] 47)) := (Below.refl _ _).alloc (Nat.le_refl _) _
  have HC := Lib.hid (ssame_any _ v Q Q _ (hu.mono hb0) (hv.mono hb0))
  rw [beq_self_eq_true] at HC
  have s1 : CBox (w.alloc (.cells #[.bool g, .slice uo Q.length uc] 47)) w.heap.size 47 #[.bool g, .slice uo Q.length uc] := CBox.new _ rfl
  obtain ⟨x0, _⟩ := s1.at_ 0 _ rfl
  obtain ⟨x1, _⟩ := s1.at_ 1 _ rfl
  have HB := Lib.hid hb0
  clear hu hv hb0 s1
  cases g
  all_goals
    go_enter Try.func22, Try.ntmps22
    go_wp2_with ((with_reducible refine HC.out.mono ?_); rintro e w2 ⟨rfl, n, rfl⟩)
    go_ret
    exact ⟨rfl, HB.out.trans ((below_draws _ (Below.refl _ _) n).mono HB.out.size)⟩
end Go.Proofs.Ytkphgonbbhlnfaa
