/- The walk of GroupEnds. -/
import Derived.Test.YtkphgonbbhlnfaaGFew
import Derived.Test.YtkphgonbbhlnfaaGEnds
namespace Go.Proofs.Ytkphgonbbhlnfaa
open Go.RowKit Go.Lib Go.Maps Go.Sort

set_option maxRecDepth 20000

set_option maxHeartbeats 4000000 in
theorem law_ends (ex : Bool) (at' : Int) (v : Value) (L : List Tmd) (w : World) (h : Tms w v L) (wa : (Lit.int .i64 at').wf = true) :
    Calls Try.prog 8 #[.agg #[.bool ex, .int .i64 at', v]] w fun e w' => e = .returned (.bool true) ∧ Below w.heap.size w w' := by
  obtain ⟨vo, vc, rfl⟩ := h.shape
  have HB := Lib.hid (Below.refl w.heap.size w)
  have TL := Lib.hid h
  have hfw := h.few
  have HWF := Lib.hid h.wfs
  clear h
  have hba : Below w.heap.size w (w.alloc (.cells #[.bool ex, .int .i64 at', .slice vo L.length vc] 24)) := ((Below.refl _ _).alloc (Nat.le_refl _) _)
  replace TL := Lib.hid (TL.out.mono hba)
  replace HB := Lib.hid (HB.out.trans (hba.mono HB.out.size))
  have Xc := Lib.hid (show CBox (w.alloc (.cells #[.bool ex, .int .i64 at', .slice vo L.length vc] 24)) (w.heap.size) 24 #[.bool ex, .int .i64 at', .slice vo L.length vc] from (CBox.new _ (by simp)))
  clear hba
  by_cases hf : L.length ≤ 100
  · have d1 : decide (100 < L.length) = false := decide_eq_false (by omega)
    have d2 : decide ((100 : Int) < (L.length : Int)) = false := decide_eq_false (by omega)
    cases hp : pcheck ex at' L
    · have HC := check_any ex at' _ L _ TL.out
      rw [hp] at HC
      replace HC := Lib.hid HC; clear hp
      have x1 := (Xc.out.at_ 0 (.bool ex) rfl).1
      have x2 := (Xc.out.at_ 1 (.int .i64 at') rfl).1
      have x3 := (Xc.out.at_ 2 (.slice vo L.length vc) rfl).1
      go_enter Try.func8, Try.ntmps8
      go_wp2_with fail
      refine HC.out.mono ?_
      clear HC
      clear x1 x2 x3
      rintro e w1 ⟨rfl, hb⟩
      replace Xc := Lib.hid (Xc.out.below hb Xc.out.lt)
      replace TL := Lib.hid (TL.out.mono hb)
      replace HB := Lib.hid (HB.out.trans (hb.mono HB.out.size))
      clear hb
      go_wp2_with fail
      refine (live_yes _).mono ?_
      rintro e w2 ⟨rfl, hb⟩
      replace Xc := Lib.hid (Xc.out.below hb Xc.out.lt)
      replace TL := Lib.hid (TL.out.mono hb)
      replace HB := Lib.hid (HB.out.trans (hb.mono HB.out.size))
      clear hb
      go_wp2_with fail
      go_ret
      exact ⟨rfl, HB.out⟩
    · have HP := Lib.hid hp; clear hp
      have x1 := (Xc.out.at_ 0 (.bool ex) rfl).1
      have x2 := (Xc.out.at_ 1 (.int .i64 at') rfl).1
      have x3 := (Xc.out.at_ 2 (.slice vo L.length vc) rfl).1
      go_enter Try.func8, Try.ntmps8
      have HC := Lib.hid (check_ok ex at' _ L _ TL.out HP.out)
      go_wp2_with fail
      refine HC.out.mono ?_
      clear HC
      clear x1 x2 x3
      rintro e w1 ⟨rfl, hb⟩
      replace Xc := Lib.hid (Xc.out.below hb Xc.out.lt)
      replace TL := Lib.hid (TL.out.mono hb)
      replace HB := Lib.hid (HB.out.trans (hb.mono HB.out.size))
      clear hb
      obtain ⟨b, off, hm, hlen, hidx, hc⟩ := TL.out.facts
      clear d1 d2
      have x4 := (Xc.out.at_ 0 (.bool ex) rfl).1
      have x5 := (Xc.out.at_ 1 (.int .i64 at') rfl).1
      have x6 := (Xc.out.at_ 2 (.slice vo L.length vc) rfl).1
      have hmx := @run_max
      go_wp2_with fail
      go_loop [3, 4] (fun m i => ∃ k : Nat, k ≤ L.length ∧ i = .int .i64 k ∧ m = .int .i64 (maxL at' (L.take k))) (fun _ i => L.length - (intOf i).toNat)
      case atStart => exact ⟨0, Nat.zero_le _, rfl, rfl⟩
      case round =>
        obtain ⟨k, hk, rfl, rfl⟩ := hrel
        by_cases hlt : k < L.length
        · obtain ⟨⟨s, n⟩, hs⟩ : ∃ s, L.getD k default = s := ⟨_, rfl⟩
          obtain ⟨hlb, c0, c1⟩ := hc k hlt
          rw [hs] at c0 c1
          have hp := hidx k hlt
          have hL : L[k] = (s, n) := by rw [← hs]; simp [List.getD_eq_getElem?_getD, hlt]
          have HT := Lib.hid (show maxL at' (L.take (k + 1)) = max (maxL at' (L.take k)) n from by rw [maxL_snoc at' L k hlt, hL])
          clear hidx hc c0 hs hL
          go_wp2_with fail
          go_round
          case rel => exact ⟨k + 1, by omega, by go_num, by rw [HT.out]⟩
          case measure => simp [intOf]; omega
        · have HT := Lib.hid (show L.take k = L from List.take_of_length_le (by omega))
          rw [HT.out]
          clear hidx hc hmx
          obtain ⟨m, hmm⟩ : ∃ m, maxL at' L = m := ⟨_, rfl⟩
          rw [hmm]
          have HMM := Lib.hid hmm; clear hmm
          have HG := Lib.hid (ends_gone HP.out HMM.out)
          have hsub : IntKind.i64.wrap (m - 1) = m - 1 := by
            have h1 := maxL_wf at' L wa HWF.out
            rw [HMM.out] at h1
            have h2 := maxL_ge at' L (pcheck_iff.1 HP.out).2.1
            rw [HMM.out] at h2
            exact wrap_pred h2 h1
          clear x4 x5 x6
          have x7 := (Xc.out.at_ 0 (.bool ex) rfl).1
          have x8 := (Xc.out.at_ 1 (.int .i64 at') rfl).1
          have x9 := (Xc.out.at_ 2 (.slice vo L.length vc) rfl).1
          have HC := Lib.hid (expire_ok ex at' _ L m _ TL.out HP.out false HG.out.1)
          go_wp2_with fail
          refine HC.out.mono ?_
          clear HC
          clear x7 x8 x9
          rintro e w2 ⟨hb, v2, L2, a2, rfl, hT2, hA2, hp2, ha2⟩
          have hL2 := HG.out.2 L2 hA2
          subst hL2
          obtain ⟨v2o, v2c, rfl⟩ := hT2.shape
          simp only [List.isEmpty_nil, List.length_nil]
          clear hT2 hA2 hp2 ha2
          replace Xc := Lib.hid (Xc.out.below hb Xc.out.lt)
          replace TL := Lib.hid (TL.out.mono hb)
          replace HB := Lib.hid (HB.out.trans (hb.mono HB.out.size))
          clear hb
          have hba : Below w2.heap.size w2 (w2.alloc (.cells #[.bool false, .int .i64 a2, .slice v2o 0 v2c] 24)) := ((Below.refl _ _).alloc (Nat.le_refl _) _)
          replace Xc := Lib.hid (Xc.out.below hba Xc.out.lt)
          replace TL := Lib.hid (TL.out.mono hba)
          replace HB := Lib.hid (HB.out.trans (hba.mono HB.out.size))
          have Xx := Lib.hid (show CBox (w2.alloc (.cells #[.bool false, .int .i64 a2, .slice v2o 0 v2c] 24)) (w2.heap.size) 24 #[.bool false, .int .i64 a2, .slice v2o 0 v2c] from (CBox.new _ (by simp)))
          clear hba
          by_cases hm0 : m = 0
          · have dz : (m == 0) = true := by simpa using hm0
            clear hm0 hsub
            have x10 := (Xx.out.at_ 0 (.bool false) rfl).1
            have x11 := (Xx.out.at_ 1 (.int .i64 a2) rfl).1
            have x12 := (Xx.out.at_ 2 (.slice v2o 0 v2c) rfl).1
            go_wp2_with fail
            refine (live_yes _).mono ?_
            clear x10 x11 x12
            rintro e w3 ⟨rfl, hb⟩
            replace Xc := Lib.hid (Xc.out.below hb Xc.out.lt)
            replace Xx := Lib.hid (Xx.out.below hb Xx.out.lt)
            replace TL := Lib.hid (TL.out.mono hb)
            replace HB := Lib.hid (HB.out.trans (hb.mono HB.out.size))
            clear hb
            go_wp2_with fail
            go_ret
            exact ⟨rfl, HB.out⟩
          · have dz : (m == 0) = false := by simpa using hm0
            have HAH := Lib.hid (ends_ahead HP.out HMM.out hm0)
            clear hm0
            obtain ⟨e2, he2⟩ : ∃ e2, (ex && decide (m - 1 < at')) = e2 := ⟨_, rfl⟩
            have HE2 := Lib.hid he2; clear he2
            have x10 := (Xx.out.at_ 0 (.bool false) rfl).1
            have x11 := (Xx.out.at_ 1 (.int .i64 a2) rfl).1
            have x12 := (Xx.out.at_ 2 (.slice v2o 0 v2c) rfl).1
            have x13 := (Xc.out.at_ 0 (.bool ex) rfl).1
            have x14 := (Xc.out.at_ 1 (.int .i64 at') rfl).1
            have x15 := (Xc.out.at_ 2 (.slice vo L.length vc) rfl).1
            have HC := Lib.hid (expire_ok ex at' _ L (m - 1) _ TL.out HP.out e2 HE2.out)
            go_wp2_with fail
            refine HC.out.mono ?_
            clear HC
            clear x10 x11 x12 x13 x14 x15
            rintro e w3 ⟨hb, v3, L3, a3, rfl, hT3, hA3, hp3, ha3⟩
            have hth : (e2 || !L3.isEmpty) = true := HAH.out e2 L3 HE2.out hA3
            obtain ⟨v3o, v3c, rfl⟩ := hT3.shape
            simp only [hth]
            clear hT3 hA3 hp3 ha3 hth dz hsub
            replace Xc := Lib.hid (Xc.out.below hb Xc.out.lt)
            replace Xx := Lib.hid (Xx.out.below hb Xx.out.lt)
            replace TL := Lib.hid (TL.out.mono hb)
            replace HB := Lib.hid (HB.out.trans (hb.mono HB.out.size))
            clear hb
            have hba : Below w3.heap.size w3 (w3.alloc (.cells #[.bool e2, .int .i64 a3, .slice v3o L3.length v3c] 24)) := ((Below.refl _ _).alloc (Nat.le_refl _) _)
            replace Xc := Lib.hid (Xc.out.below hba Xc.out.lt)
            replace Xx := Lib.hid (Xx.out.below hba Xx.out.lt)
            replace TL := Lib.hid (TL.out.mono hba)
            replace HB := Lib.hid (HB.out.trans (hba.mono HB.out.size))
            have Xy := Lib.hid (show CBox (w3.alloc (.cells #[.bool e2, .int .i64 a3, .slice v3o L3.length v3c] 24)) (w3.heap.size) 24 #[.bool e2, .int .i64 a3, .slice v3o L3.length v3c] from (CBox.new _ (by simp)))
            clear hba
            go_wp2_with fail
            refine (live_yes _).mono ?_
            rintro e w4 ⟨rfl, hb⟩
            replace Xc := Lib.hid (Xc.out.below hb Xc.out.lt)
            replace Xx := Lib.hid (Xx.out.below hb Xx.out.lt)
            replace Xy := Lib.hid (Xy.out.below hb Xy.out.lt)
            replace TL := Lib.hid (TL.out.mono hb)
            replace HB := Lib.hid (HB.out.trans (hb.mono HB.out.size))
            clear hb
            go_wp2_with fail
            go_ret
            exact ⟨rfl, HB.out⟩
  · have d1 : decide (100 < L.length) = true := decide_eq_true (by omega)
    have d2 : decide ((100 : Int) < (L.length : Int)) = true := decide_eq_true (by omega)
    have x1 := (Xc.out.at_ 0 (.bool ex) rfl).1
    have x2 := (Xc.out.at_ 1 (.int .i64 at') rfl).1
    have x3 := (Xc.out.at_ 2 (.slice vo L.length vc) rfl).1
    go_enter Try.func8, Try.ntmps8
    go_wp2_with fail
    refine (live_yes _).mono ?_
    clear x1 x2 x3
    rintro e w1 ⟨rfl, hb⟩
    replace Xc := Lib.hid (Xc.out.below hb Xc.out.lt)
    replace TL := Lib.hid (TL.out.mono hb)
    replace HB := Lib.hid (HB.out.trans (hb.mono HB.out.size))
    clear hb
    go_wp2_with fail
    go_ret
    exact ⟨rfl, HB.out⟩
end Go.Proofs.Ytkphgonbbhlnfaa
