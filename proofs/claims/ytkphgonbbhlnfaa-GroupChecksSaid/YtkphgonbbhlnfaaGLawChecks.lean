/- The walk of GroupChecks. -/
import Derived.Test.YtkphgonbbhlnfaaGFew
import Derived.Test.YtkphgonbbhlnfaaGRadm
namespace Go.Proofs.Ytkphgonbbhlnfaa
open Go.RowKit Go.Lib Go.Maps Go.Sort

set_option maxRecDepth 20000

theorem check_no (ex : Bool) (at' : Int) (v : Value) (L : List Tmd) (w : World) (h : Tms w v L) (hp : pcheck ex at' L = false) :
    Calls Try.prog 12 #[.agg #[.bool ex, .int .i64 at', v]] w fun e w' => e = .returned (.int .i64 3) ∧ Below w.heap.size w w' := by
  have := check_any ex at' v L w h
  rwa [hp] at this
theorem rcheck_no (ex : Bool) (at' : Int) (v : Value) (L : List Tmd) (w : World) (h : Tms w v L) (hp : pcheck ex at' L = false) :
    Calls Try.prog 17 #[.agg #[.bool ex, .int .i64 at', v]] w fun e w' => e = .returned (.int .i64 3) ∧ Below w.heap.size w w' := by
  have := rcheck_any ex at' v L w h
  rwa [hp] at this
theorem rcheck_yes (ex : Bool) (at' : Int) (v : Value) (L : List Tmd) (w : World) (h : Tms w v L) (hp : pcheck ex at' L = true) :
    Calls Try.prog 17 #[.agg #[.bool ex, .int .i64 at', v]] w fun e w' => e = .returned (.int .i64 0) ∧ Below w.heap.size w w' := by
  have := rcheck_any ex at' v L w h
  rwa [hp] at this
theorem expire_no (ex : Bool) (at' : Int) (v : Value) (L : List Tmd) (now : Int) (w : World) (h : Tms w v L) (hp : pcheck ex at' L = false) :
    Calls Try.prog 13 #[.agg #[.bool ex, .int .i64 at', v], .int .i64 now] w fun e w' => e = .returned (.tuple #[.agg #[.bool false, .int .i64 0, .slice none 0 0], .bool false]) ∧ Below w.heap.size w w' := by
  refine (expire_any ex at' v L now w h).mono ?_
  rintro e w' (⟨_, rfl, hb⟩ | ⟨hf, _⟩)
  · exact ⟨rfl, hb⟩
  · rw [hp] at hf; cases hf
theorem rexpire_no (ex : Bool) (at' : Int) (v : Value) (L : List Tmd) (now : Int) (w : World) (h : Tms w v L) (hp : pcheck ex at' L = false) :
    Calls Try.prog 15 #[.agg #[.bool ex, .int .i64 at', v], .int .i64 now] w fun e w' => e = .returned (.tuple #[.agg #[.bool false, .int .i64 0, .slice none 0 0], .bool false]) ∧ Below w.heap.size w w' := by
  refine (rexpire_any ex at' v L now w h).mono ?_
  rintro e w' (⟨_, rfl, hb⟩ | ⟨hf, _⟩)
  · exact ⟨rfl, hb⟩
  · rw [hp] at hf; cases hf
theorem rexpire_ok (ex : Bool) (at' : Int) (v : Value) (L : List Tmd) (now : Int) (w : World) (h : Tms w v L) (hp : pcheck ex at' L = true) (e2 : Bool) (he : (ex && decide (now < at')) = e2) :
    Calls Try.prog 15 #[.agg #[.bool ex, .int .i64 at', v], .int .i64 now] w fun e w' => Below w.heap.size w w' ∧ ∃ v' L' a2, e = .returned (.tuple #[.agg #[.bool e2, .int .i64 a2, v'], .bool (e2 || !L'.isEmpty)]) ∧ Tms w' v' L' ∧ Asc (exF e2 now (rd L)) L' ∧ a2 = (if e2 then at' else 0) := by
  refine (rexpire_any ex at' v L now w h).mono ?_
  rintro e w' (⟨hf, _⟩ | ⟨_, v', L', rfl, hT, hA, _, _, hb⟩)
  · rw [hp] at hf; cases hf
  · rw [he] at hA ⊢
    exact ⟨hb, v', L', _, rfl, hT, hA, rfl⟩
theorem admits_as (ex : Bool) (at' : Int) (v : Value) (L : List Tmd) (now : Int) (a : Str) (ha : a.length ≤ maxLen) (w : World) (h : Tms w v L) (q : Bool) (hp : padm ex at' L now a = q) :
    Calls Try.prog 14 #[.agg #[.bool ex, .int .i64 at', v], .string (bstr a), .int .i64 now] w fun e w' => e = .returned (.bool q) ∧ Below w.heap.size w w' := by
  have := admits_any ex at' v L now a ha w h
  rwa [hp] at this
theorem radmits_as (ex : Bool) (at' : Int) (v : Value) (L : List Tmd) (now : Int) (a : Str) (w : World) (h : Tms w v L) (q : Bool) (hp : padm ex at' L now a = q) :
    Calls Try.prog 18 #[.agg #[.bool ex, .int .i64 at', v], .string (bstr a), .int .i64 now] w fun e w' => e = .returned (.bool q) ∧ Below w.heap.size w w' := by
  have := radmits_any ex at' v L now a w h
  rwa [hp] at this

set_option maxHeartbeats 4000000 in
theorem law_checks (ex : Bool) (at' : Int) (v : Value) (L : List Tmd) (now : Int) (a : Str) (w : World) (h : Tms w v L) (_wa : (Lit.int .i64 at').wf = true) (ha : a.length ≤ maxLen) :
    Calls Try.prog 3 #[.agg #[.bool ex, .int .i64 at', v], .int .i64 now, .string (bstr a)] w fun e w' => e = .returned (.bool true) ∧ Below w.heap.size w w' := by
  obtain ⟨vo, vc, rfl⟩ := h.shape
  have HB := Lib.hid (Below.refl w.heap.size w)
  have TL := Lib.hid h
  have HAL := Lib.hid ha
  have hfw := h.few
  clear h ha _wa
  have hba : Below w.heap.size w (w.alloc (.cells #[.bool ex, .int .i64 at', .slice vo L.length vc] 24)) := ((Below.refl _ _).alloc (Nat.le_refl _) _)
  replace TL := Lib.hid (TL.out.mono hba)
  replace HB := Lib.hid (HB.out.trans (hba.mono HB.out.size))
  have Xc := Lib.hid (show CBox (w.alloc (.cells #[.bool ex, .int .i64 at', .slice vo L.length vc] 24)) (w.heap.size) 24 #[.bool ex, .int .i64 at', .slice vo L.length vc] from (CBox.new _ (by simp)))
  clear hba
  by_cases hf : L.length ≤ 100
  · have d1 : decide (100 < L.length) = false := decide_eq_false (by omega)
    have d2 : decide ((100 : Int) < (L.length : Int)) = false := decide_eq_false (by omega)
    clear hf
    cases hp : pcheck ex at' L
    · have HP := Lib.hid hp
      have HQ := Lib.hid (show padm ex at' L now a = false from by unfold padm; rw [hp]; rfl)
      clear hp
      have x1 := (Xc.out.at_ 0 (.bool ex) rfl).1
      have x2 := (Xc.out.at_ 1 (.int .i64 at') rfl).1
      have x3 := (Xc.out.at_ 2 (.slice vo L.length vc) rfl).1
      go_enter Try.func3, Try.ntmps3
      have HC := Lib.hid (copied_any ex at' _ L _ TL.out)
      go_wp2_with fail
      refine HC.out.mono ?_
      clear HC
      clear x1 x2 x3
      rintro e w1 ⟨v1, rfl, hT1, hb, _⟩
      obtain ⟨v1o, v1c, rfl⟩ := hT1.shape
      have T1 := Lib.hid hT1
      clear hT1 d1 d2
      replace Xc := Lib.hid (Xc.out.below hb Xc.out.lt)
      replace TL := Lib.hid (TL.out.mono hb)
      replace HB := Lib.hid (HB.out.trans (hb.mono HB.out.size))
      clear hb
      have hba : Below w1.heap.size w1 (w1.alloc (.cells #[.bool ex, .int .i64 at', .slice v1o L.length v1c] 24)) := ((Below.refl _ _).alloc (Nat.le_refl _) _)
      replace Xc := Lib.hid (Xc.out.below hba Xc.out.lt)
      replace TL := Lib.hid (TL.out.mono hba)
      replace T1 := Lib.hid (T1.out.mono hba)
      replace HB := Lib.hid (HB.out.trans (hba.mono HB.out.size))
      have Xo := Lib.hid (show CBox (w1.alloc (.cells #[.bool ex, .int .i64 at', .slice v1o L.length v1c] 24)) (w1.heap.size) 24 #[.bool ex, .int .i64 at', .slice v1o L.length v1c] from (CBox.new _ (by simp)))
      clear hba
      have x4 := (Xo.out.at_ 0 (.bool ex) rfl).1
      have x5 := (Xo.out.at_ 1 (.int .i64 at') rfl).1
      have x6 := (Xo.out.at_ 2 (.slice v1o L.length v1c) rfl).1
      have HC := Lib.hid (check_no ex at' _ L _ T1.out HP.out)
      go_wp2_with fail
      refine HC.out.mono ?_
      clear HC
      clear x4 x5 x6
      rintro e w2 ⟨rfl, hb⟩
      replace Xc := Lib.hid (Xc.out.below hb Xc.out.lt)
      replace Xo := Lib.hid (Xo.out.below hb Xo.out.lt)
      replace TL := Lib.hid (TL.out.mono hb)
      replace T1 := Lib.hid (T1.out.mono hb)
      replace HB := Lib.hid (HB.out.trans (hb.mono HB.out.size))
      clear hb
      have x7 := (Xo.out.at_ 0 (.bool ex) rfl).1
      have x8 := (Xo.out.at_ 1 (.int .i64 at') rfl).1
      have x9 := (Xo.out.at_ 2 (.slice v1o L.length v1c) rfl).1
      have HC := Lib.hid (expire_no ex at' _ L now _ T1.out HP.out)
      go_wp2_with fail
      refine HC.out.mono ?_
      clear HC
      clear x7 x8 x9
      rintro e w3 ⟨rfl, hb⟩
      replace Xc := Lib.hid (Xc.out.below hb Xc.out.lt)
      replace Xo := Lib.hid (Xo.out.below hb Xo.out.lt)
      replace TL := Lib.hid (TL.out.mono hb)
      replace T1 := Lib.hid (T1.out.mono hb)
      replace HB := Lib.hid (HB.out.trans (hb.mono HB.out.size))
      clear hb
      have hba : Below w3.heap.size w3 (w3.alloc (.cells #[.bool false, .int .i64 0, .slice none 0 0] 24)) := ((Below.refl _ _).alloc (Nat.le_refl _) _)
      replace Xc := Lib.hid (Xc.out.below hba Xc.out.lt)
      replace Xo := Lib.hid (Xo.out.below hba Xo.out.lt)
      replace TL := Lib.hid (TL.out.mono hba)
      replace T1 := Lib.hid (T1.out.mono hba)
      replace HB := Lib.hid (HB.out.trans (hba.mono HB.out.size))
      have Xx := Lib.hid (show CBox (w3.alloc (.cells #[.bool false, .int .i64 0, .slice none 0 0] 24)) (w3.heap.size) 24 #[.bool false, .int .i64 0, .slice none 0 0] from (CBox.new _ (by simp)))
      clear hba
      have x10 := (Xo.out.at_ 0 (.bool ex) rfl).1
      have x11 := (Xo.out.at_ 1 (.int .i64 at') rfl).1
      have x12 := (Xo.out.at_ 2 (.slice v1o L.length v1c) rfl).1
      have HC := Lib.hid (admits_as ex at' _ L now a HAL.out _ T1.out false HQ.out)
      go_wp2_with fail
      refine HC.out.mono ?_
      clear HC
      clear x10 x11 x12
      rintro e w4 ⟨rfl, hb⟩
      replace Xc := Lib.hid (Xc.out.below hb Xc.out.lt)
      replace Xo := Lib.hid (Xo.out.below hb Xo.out.lt)
      replace Xx := Lib.hid (Xx.out.below hb Xx.out.lt)
      replace TL := Lib.hid (TL.out.mono hb)
      replace T1 := Lib.hid (T1.out.mono hb)
      replace HB := Lib.hid (HB.out.trans (hb.mono HB.out.size))
      clear hb
      have x13 := (Xc.out.at_ 0 (.bool ex) rfl).1
      have x14 := (Xc.out.at_ 1 (.int .i64 at') rfl).1
      have x15 := (Xc.out.at_ 2 (.slice vo L.length vc) rfl).1
      have HC := Lib.hid (rexpire_no ex at' _ L now _ TL.out HP.out)
      go_wp2_with fail
      refine HC.out.mono ?_
      clear HC
      clear x13 x14 x15
      rintro e w5 ⟨rfl, hb⟩
      replace Xc := Lib.hid (Xc.out.below hb Xc.out.lt)
      replace Xo := Lib.hid (Xo.out.below hb Xo.out.lt)
      replace Xx := Lib.hid (Xx.out.below hb Xx.out.lt)
      replace TL := Lib.hid (TL.out.mono hb)
      replace T1 := Lib.hid (T1.out.mono hb)
      replace HB := Lib.hid (HB.out.trans (hb.mono HB.out.size))
      clear hb
      have hba : Below w5.heap.size w5 (w5.alloc (.cells #[.bool false, .int .i64 0, .slice none 0 0] 24)) := ((Below.refl _ _).alloc (Nat.le_refl _) _)
      replace Xc := Lib.hid (Xc.out.below hba Xc.out.lt)
      replace Xo := Lib.hid (Xo.out.below hba Xo.out.lt)
      replace Xx := Lib.hid (Xx.out.below hba Xx.out.lt)
      replace TL := Lib.hid (TL.out.mono hba)
      replace T1 := Lib.hid (T1.out.mono hba)
      replace HB := Lib.hid (HB.out.trans (hba.mono HB.out.size))
      have Xy := Lib.hid (show CBox (w5.alloc (.cells #[.bool false, .int .i64 0, .slice none 0 0] 24)) (w5.heap.size) 24 #[.bool false, .int .i64 0, .slice none 0 0] from (CBox.new _ (by simp)))
      clear hba
      have x16 := (Xo.out.at_ 0 (.bool ex) rfl).1
      have x17 := (Xo.out.at_ 1 (.int .i64 at') rfl).1
      have x18 := (Xo.out.at_ 2 (.slice v1o L.length v1c) rfl).1
      have x19 := (Xc.out.at_ 0 (.bool ex) rfl).1
      have x20 := (Xc.out.at_ 1 (.int .i64 at') rfl).1
      have x21 := (Xc.out.at_ 2 (.slice vo L.length vc) rfl).1
      have HC := Lib.hid (tsame_yes ex at' _ _ L _ T1.out TL.out)
      go_wp2_with fail
      refine HC.out.mono ?_
      clear HC
      clear x16 x17 x18 x19 x20 x21
      rintro e w6 ⟨rfl, hb⟩
      replace Xc := Lib.hid (Xc.out.below hb Xc.out.lt)
      replace Xo := Lib.hid (Xo.out.below hb Xo.out.lt)
      replace Xx := Lib.hid (Xx.out.below hb Xx.out.lt)
      replace Xy := Lib.hid (Xy.out.below hb Xy.out.lt)
      replace TL := Lib.hid (TL.out.mono hb)
      replace T1 := Lib.hid (T1.out.mono hb)
      replace HB := Lib.hid (HB.out.trans (hb.mono HB.out.size))
      clear hb
      have x22 := (Xc.out.at_ 0 (.bool ex) rfl).1
      have x23 := (Xc.out.at_ 1 (.int .i64 at') rfl).1
      have x24 := (Xc.out.at_ 2 (.slice vo L.length vc) rfl).1
      have HC := Lib.hid (rcheck_no ex at' _ L _ TL.out HP.out)
      go_wp2_with fail
      refine HC.out.mono ?_
      clear HC
      clear x22 x23 x24
      rintro e w7 ⟨rfl, hb⟩
      replace Xc := Lib.hid (Xc.out.below hb Xc.out.lt)
      replace Xo := Lib.hid (Xo.out.below hb Xo.out.lt)
      replace Xx := Lib.hid (Xx.out.below hb Xx.out.lt)
      replace Xy := Lib.hid (Xy.out.below hb Xy.out.lt)
      replace TL := Lib.hid (TL.out.mono hb)
      replace T1 := Lib.hid (T1.out.mono hb)
      replace HB := Lib.hid (HB.out.trans (hb.mono HB.out.size))
      clear hb
      have x25 := (Xx.out.at_ 0 (.bool false) rfl).1
      have x26 := (Xx.out.at_ 1 (.int .i64 0) rfl).1
      have x27 := (Xx.out.at_ 2 (.slice none 0 0) rfl).1
      have x28 := (Xy.out.at_ 0 (.bool false) rfl).1
      have x29 := (Xy.out.at_ 1 (.int .i64 0) rfl).1
      have x30 := (Xy.out.at_ 2 (.slice none 0 0) rfl).1
      have HC := Lib.hid (tsame_yes false 0 _ _ [] w7 (Tms.nil _) (Tms.nil _))
      go_wp2_with fail
      refine HC.out.mono ?_
      clear HC
      clear x25 x26 x27 x28 x29 x30
      rintro e w8 ⟨rfl, hb⟩
      replace Xc := Lib.hid (Xc.out.below hb Xc.out.lt)
      replace Xo := Lib.hid (Xo.out.below hb Xo.out.lt)
      replace Xx := Lib.hid (Xx.out.below hb Xx.out.lt)
      replace Xy := Lib.hid (Xy.out.below hb Xy.out.lt)
      replace TL := Lib.hid (TL.out.mono hb)
      replace T1 := Lib.hid (T1.out.mono hb)
      replace HB := Lib.hid (HB.out.trans (hb.mono HB.out.size))
      clear hb
      have x31 := (Xc.out.at_ 0 (.bool ex) rfl).1
      have x32 := (Xc.out.at_ 1 (.int .i64 at') rfl).1
      have x33 := (Xc.out.at_ 2 (.slice vo L.length vc) rfl).1
      have HC := Lib.hid (radmits_as ex at' _ L now a _ TL.out false HQ.out)
      go_wp2_with fail
      refine HC.out.mono ?_
      clear HC
      clear x31 x32 x33
      rintro e w9 ⟨rfl, hb⟩
      replace Xc := Lib.hid (Xc.out.below hb Xc.out.lt)
      replace Xo := Lib.hid (Xo.out.below hb Xo.out.lt)
      replace Xx := Lib.hid (Xx.out.below hb Xx.out.lt)
      replace Xy := Lib.hid (Xy.out.below hb Xy.out.lt)
      replace TL := Lib.hid (TL.out.mono hb)
      replace T1 := Lib.hid (T1.out.mono hb)
      replace HB := Lib.hid (HB.out.trans (hb.mono HB.out.size))
      clear hb
      go_wp2_with fail
      refine (live_yes _).mono ?_
      rintro e w10 ⟨rfl, hb⟩
      replace Xc := Lib.hid (Xc.out.below hb Xc.out.lt)
      replace Xo := Lib.hid (Xo.out.below hb Xo.out.lt)
      replace Xx := Lib.hid (Xx.out.below hb Xx.out.lt)
      replace Xy := Lib.hid (Xy.out.below hb Xy.out.lt)
      replace TL := Lib.hid (TL.out.mono hb)
      replace T1 := Lib.hid (T1.out.mono hb)
      replace HB := Lib.hid (HB.out.trans (hb.mono HB.out.size))
      clear hb
      go_wp2_with fail
      go_ret
      exact ⟨rfl, HB.out⟩
    · have HP := Lib.hid hp; clear hp
      obtain ⟨e2, he2⟩ : ∃ e2, (ex && decide (now < at')) = e2 := ⟨_, rfl⟩
      have HE2 := Lib.hid he2; clear he2
      cases hq : padm ex at' L now a
      · have HQ := Lib.hid hq; clear hq
        have x1 := (Xc.out.at_ 0 (.bool ex) rfl).1
        have x2 := (Xc.out.at_ 1 (.int .i64 at') rfl).1
        have x3 := (Xc.out.at_ 2 (.slice vo L.length vc) rfl).1
        go_enter Try.func3, Try.ntmps3
        have HC := Lib.hid (copied_any ex at' _ L _ TL.out)
        go_wp2_with fail
        refine HC.out.mono ?_
        clear HC
        clear x1 x2 x3
        rintro e w1 ⟨v1, rfl, hT1, hb, _⟩
        obtain ⟨v1o, v1c, rfl⟩ := hT1.shape
        have T1 := Lib.hid hT1
        clear hT1 d1 d2
        replace Xc := Lib.hid (Xc.out.below hb Xc.out.lt)
        replace TL := Lib.hid (TL.out.mono hb)
        replace HB := Lib.hid (HB.out.trans (hb.mono HB.out.size))
        clear hb
        have hba : Below w1.heap.size w1 (w1.alloc (.cells #[.bool ex, .int .i64 at', .slice v1o L.length v1c] 24)) := ((Below.refl _ _).alloc (Nat.le_refl _) _)
        replace Xc := Lib.hid (Xc.out.below hba Xc.out.lt)
        replace TL := Lib.hid (TL.out.mono hba)
        replace T1 := Lib.hid (T1.out.mono hba)
        replace HB := Lib.hid (HB.out.trans (hba.mono HB.out.size))
        have Xo := Lib.hid (show CBox (w1.alloc (.cells #[.bool ex, .int .i64 at', .slice v1o L.length v1c] 24)) (w1.heap.size) 24 #[.bool ex, .int .i64 at', .slice v1o L.length v1c] from (CBox.new _ (by simp)))
        clear hba
        have x4 := (Xo.out.at_ 0 (.bool ex) rfl).1
        have x5 := (Xo.out.at_ 1 (.int .i64 at') rfl).1
        have x6 := (Xo.out.at_ 2 (.slice v1o L.length v1c) rfl).1
        have HC := Lib.hid (check_ok ex at' _ L _ T1.out HP.out)
        go_wp2_with fail
        refine HC.out.mono ?_
        clear HC
        clear x4 x5 x6
        rintro e w2 ⟨rfl, hb⟩
        replace Xc := Lib.hid (Xc.out.below hb Xc.out.lt)
        replace Xo := Lib.hid (Xo.out.below hb Xo.out.lt)
        replace TL := Lib.hid (TL.out.mono hb)
        replace T1 := Lib.hid (T1.out.mono hb)
        replace HB := Lib.hid (HB.out.trans (hb.mono HB.out.size))
        clear hb
        have x7 := (Xo.out.at_ 0 (.bool ex) rfl).1
        have x8 := (Xo.out.at_ 1 (.int .i64 at') rfl).1
        have x9 := (Xo.out.at_ 2 (.slice v1o L.length v1c) rfl).1
        have HC := Lib.hid (expire_ok ex at' _ L now _ T1.out HP.out e2 HE2.out)
        go_wp2_with fail
        refine HC.out.mono ?_
        clear HC
        clear x7 x8 x9
        rintro e w3 ⟨hb, v2, L2, a2, rfl, hT2, hA2, _, ha2⟩
        obtain ⟨v2o, v2c, rfl⟩ := hT2.shape
        have T2 := Lib.hid hT2; have HA2 := Lib.hid hA2; have HAA := Lib.hid ha2
        clear hT2 hA2 ha2
        replace Xc := Lib.hid (Xc.out.below hb Xc.out.lt)
        replace Xo := Lib.hid (Xo.out.below hb Xo.out.lt)
        replace TL := Lib.hid (TL.out.mono hb)
        replace T1 := Lib.hid (T1.out.mono hb)
        replace HB := Lib.hid (HB.out.trans (hb.mono HB.out.size))
        clear hb
        cases hth : (e2 || !L2.isEmpty)
        · have HTH := Lib.hid hth; clear hth
          have hba : Below w3.heap.size w3 (w3.alloc (.cells #[.bool e2, .int .i64 a2, .slice v2o L2.length v2c] 24)) := ((Below.refl _ _).alloc (Nat.le_refl _) _)
          replace Xc := Lib.hid (Xc.out.below hba Xc.out.lt)
          replace Xo := Lib.hid (Xo.out.below hba Xo.out.lt)
          replace TL := Lib.hid (TL.out.mono hba)
          replace T1 := Lib.hid (T1.out.mono hba)
          replace T2 := Lib.hid (T2.out.mono hba)
          replace HB := Lib.hid (HB.out.trans (hba.mono HB.out.size))
          have Xx := Lib.hid (show CBox (w3.alloc (.cells #[.bool e2, .int .i64 a2, .slice v2o L2.length v2c] 24)) (w3.heap.size) 24 #[.bool e2, .int .i64 a2, .slice v2o L2.length v2c] from (CBox.new _ (by simp)))
          clear hba
          have x10 := (Xo.out.at_ 0 (.bool ex) rfl).1
          have x11 := (Xo.out.at_ 1 (.int .i64 at') rfl).1
          have x12 := (Xo.out.at_ 2 (.slice v1o L.length v1c) rfl).1
          have HC := Lib.hid (admits_as ex at' _ L now a HAL.out _ T1.out false HQ.out)
          go_wp2_with fail
          refine HC.out.mono ?_
          clear HC
          clear x10 x11 x12
          rintro e w4 ⟨rfl, hb⟩
          replace Xc := Lib.hid (Xc.out.below hb Xc.out.lt)
          replace Xo := Lib.hid (Xo.out.below hb Xo.out.lt)
          replace Xx := Lib.hid (Xx.out.below hb Xx.out.lt)
          replace TL := Lib.hid (TL.out.mono hb)
          replace T1 := Lib.hid (T1.out.mono hb)
          replace T2 := Lib.hid (T2.out.mono hb)
          replace HB := Lib.hid (HB.out.trans (hb.mono HB.out.size))
          clear hb
          have x13 := (Xc.out.at_ 0 (.bool ex) rfl).1
          have x14 := (Xc.out.at_ 1 (.int .i64 at') rfl).1
          have x15 := (Xc.out.at_ 2 (.slice vo L.length vc) rfl).1
          have HC := Lib.hid (rexpire_ok ex at' _ L now _ TL.out HP.out e2 HE2.out)
          go_wp2_with fail
          refine HC.out.mono ?_
          clear HC
          clear x13 x14 x15
          rintro e w5 ⟨hb, v3, L3, a3, rfl, hT3, hA3, ha3⟩
          have hL : L3 = L2 := asc_unique hA3 HA2.out
          have haa : a3 = a2 := by rw [ha3, HAA.out]
          clear hA3 ha3
          subst hL haa
          obtain ⟨v3o, v3c, rfl⟩ := hT3.shape
          have T3 := Lib.hid hT3
          clear hT3
          simp only [HTH.out]
          replace Xc := Lib.hid (Xc.out.below hb Xc.out.lt)
          replace Xo := Lib.hid (Xo.out.below hb Xo.out.lt)
          replace Xx := Lib.hid (Xx.out.below hb Xx.out.lt)
          replace TL := Lib.hid (TL.out.mono hb)
          replace T1 := Lib.hid (T1.out.mono hb)
          replace T2 := Lib.hid (T2.out.mono hb)
          replace HB := Lib.hid (HB.out.trans (hb.mono HB.out.size))
          clear hb
          have hba : Below w5.heap.size w5 (w5.alloc (.cells #[.bool e2, .int .i64 a3, .slice v3o L3.length v3c] 24)) := ((Below.refl _ _).alloc (Nat.le_refl _) _)
          replace Xc := Lib.hid (Xc.out.below hba Xc.out.lt)
          replace Xo := Lib.hid (Xo.out.below hba Xo.out.lt)
          replace Xx := Lib.hid (Xx.out.below hba Xx.out.lt)
          replace TL := Lib.hid (TL.out.mono hba)
          replace T1 := Lib.hid (T1.out.mono hba)
          replace T2 := Lib.hid (T2.out.mono hba)
          replace T3 := Lib.hid (T3.out.mono hba)
          replace HB := Lib.hid (HB.out.trans (hba.mono HB.out.size))
          have Xy := Lib.hid (show CBox (w5.alloc (.cells #[.bool e2, .int .i64 a3, .slice v3o L3.length v3c] 24)) (w5.heap.size) 24 #[.bool e2, .int .i64 a3, .slice v3o L3.length v3c] from (CBox.new _ (by simp)))
          clear hba
          have x16 := (Xo.out.at_ 0 (.bool ex) rfl).1
          have x17 := (Xo.out.at_ 1 (.int .i64 at') rfl).1
          have x18 := (Xo.out.at_ 2 (.slice v1o L.length v1c) rfl).1
          have x19 := (Xc.out.at_ 0 (.bool ex) rfl).1
          have x20 := (Xc.out.at_ 1 (.int .i64 at') rfl).1
          have x21 := (Xc.out.at_ 2 (.slice vo L.length vc) rfl).1
          have HC := Lib.hid (tsame_yes ex at' _ _ L _ T1.out TL.out)
          go_wp2_with fail
          refine HC.out.mono ?_
          clear HC
          clear x16 x17 x18 x19 x20 x21
          rintro e w6 ⟨rfl, hb⟩
          replace Xc := Lib.hid (Xc.out.below hb Xc.out.lt)
          replace Xo := Lib.hid (Xo.out.below hb Xo.out.lt)
          replace Xx := Lib.hid (Xx.out.below hb Xx.out.lt)
          replace Xy := Lib.hid (Xy.out.below hb Xy.out.lt)
          replace TL := Lib.hid (TL.out.mono hb)
          replace T1 := Lib.hid (T1.out.mono hb)
          replace T2 := Lib.hid (T2.out.mono hb)
          replace T3 := Lib.hid (T3.out.mono hb)
          replace HB := Lib.hid (HB.out.trans (hb.mono HB.out.size))
          clear hb
          have x22 := (Xc.out.at_ 0 (.bool ex) rfl).1
          have x23 := (Xc.out.at_ 1 (.int .i64 at') rfl).1
          have x24 := (Xc.out.at_ 2 (.slice vo L.length vc) rfl).1
          have HC := Lib.hid (rcheck_yes ex at' _ L _ TL.out HP.out)
          go_wp2_with fail
          refine HC.out.mono ?_
          clear HC
          clear x22 x23 x24
          rintro e w7 ⟨rfl, hb⟩
          replace Xc := Lib.hid (Xc.out.below hb Xc.out.lt)
          replace Xo := Lib.hid (Xo.out.below hb Xo.out.lt)
          replace Xx := Lib.hid (Xx.out.below hb Xx.out.lt)
          replace Xy := Lib.hid (Xy.out.below hb Xy.out.lt)
          replace TL := Lib.hid (TL.out.mono hb)
          replace T1 := Lib.hid (T1.out.mono hb)
          replace T2 := Lib.hid (T2.out.mono hb)
          replace T3 := Lib.hid (T3.out.mono hb)
          replace HB := Lib.hid (HB.out.trans (hb.mono HB.out.size))
          clear hb
          have x25 := (Xx.out.at_ 0 (.bool e2) rfl).1
          have x26 := (Xx.out.at_ 1 (.int .i64 a3) rfl).1
          have x27 := (Xx.out.at_ 2 (.slice v2o L3.length v2c) rfl).1
          have x28 := (Xy.out.at_ 0 (.bool e2) rfl).1
          have x29 := (Xy.out.at_ 1 (.int .i64 a3) rfl).1
          have x30 := (Xy.out.at_ 2 (.slice v3o L3.length v3c) rfl).1
          have HC := Lib.hid (tsame_yes e2 a3 _ _ L3 _ T2.out T3.out)
          go_wp2_with fail
          refine HC.out.mono ?_
          clear HC
          clear x25 x26 x27 x28 x29 x30
          rintro e w8 ⟨rfl, hb⟩
          replace Xc := Lib.hid (Xc.out.below hb Xc.out.lt)
          replace Xo := Lib.hid (Xo.out.below hb Xo.out.lt)
          replace Xx := Lib.hid (Xx.out.below hb Xx.out.lt)
          replace Xy := Lib.hid (Xy.out.below hb Xy.out.lt)
          replace TL := Lib.hid (TL.out.mono hb)
          replace T1 := Lib.hid (T1.out.mono hb)
          replace T2 := Lib.hid (T2.out.mono hb)
          replace T3 := Lib.hid (T3.out.mono hb)
          replace HB := Lib.hid (HB.out.trans (hb.mono HB.out.size))
          clear hb
          have x31 := (Xc.out.at_ 0 (.bool ex) rfl).1
          have x32 := (Xc.out.at_ 1 (.int .i64 at') rfl).1
          have x33 := (Xc.out.at_ 2 (.slice vo L.length vc) rfl).1
          have HC := Lib.hid (radmits_as ex at' _ L now a _ TL.out false HQ.out)
          go_wp2_with fail
          refine HC.out.mono ?_
          clear HC
          clear x31 x32 x33
          rintro e w9 ⟨rfl, hb⟩
          replace Xc := Lib.hid (Xc.out.below hb Xc.out.lt)
          replace Xo := Lib.hid (Xo.out.below hb Xo.out.lt)
          replace Xx := Lib.hid (Xx.out.below hb Xx.out.lt)
          replace Xy := Lib.hid (Xy.out.below hb Xy.out.lt)
          replace TL := Lib.hid (TL.out.mono hb)
          replace T1 := Lib.hid (T1.out.mono hb)
          replace T2 := Lib.hid (T2.out.mono hb)
          replace T3 := Lib.hid (T3.out.mono hb)
          replace HB := Lib.hid (HB.out.trans (hb.mono HB.out.size))
          clear hb
          go_wp2_with fail
          refine (live_yes _).mono ?_
          rintro e w10 ⟨rfl, hb⟩
          replace Xc := Lib.hid (Xc.out.below hb Xc.out.lt)
          replace Xo := Lib.hid (Xo.out.below hb Xo.out.lt)
          replace Xx := Lib.hid (Xx.out.below hb Xx.out.lt)
          replace Xy := Lib.hid (Xy.out.below hb Xy.out.lt)
          replace TL := Lib.hid (TL.out.mono hb)
          replace T1 := Lib.hid (T1.out.mono hb)
          replace T2 := Lib.hid (T2.out.mono hb)
          replace T3 := Lib.hid (T3.out.mono hb)
          replace HB := Lib.hid (HB.out.trans (hb.mono HB.out.size))
          clear hb
          go_wp2_with fail
          go_ret
          exact ⟨rfl, HB.out⟩
        · have HTH := Lib.hid hth; clear hth
          have hba : Below w3.heap.size w3 (w3.alloc (.cells #[.bool e2, .int .i64 a2, .slice v2o L2.length v2c] 24)) := ((Below.refl _ _).alloc (Nat.le_refl _) _)
          replace Xc := Lib.hid (Xc.out.below hba Xc.out.lt)
          replace Xo := Lib.hid (Xo.out.below hba Xo.out.lt)
          replace TL := Lib.hid (TL.out.mono hba)
          replace T1 := Lib.hid (T1.out.mono hba)
          replace T2 := Lib.hid (T2.out.mono hba)
          replace HB := Lib.hid (HB.out.trans (hba.mono HB.out.size))
          have Xx := Lib.hid (show CBox (w3.alloc (.cells #[.bool e2, .int .i64 a2, .slice v2o L2.length v2c] 24)) (w3.heap.size) 24 #[.bool e2, .int .i64 a2, .slice v2o L2.length v2c] from (CBox.new _ (by simp)))
          clear hba
          have x10 := (Xo.out.at_ 0 (.bool ex) rfl).1
          have x11 := (Xo.out.at_ 1 (.int .i64 at') rfl).1
          have x12 := (Xo.out.at_ 2 (.slice v1o L.length v1c) rfl).1
          have HC := Lib.hid (admits_as ex at' _ L now a HAL.out _ T1.out false HQ.out)
          go_wp2_with fail
          refine HC.out.mono ?_
          clear HC
          clear x10 x11 x12
          rintro e w4 ⟨rfl, hb⟩
          replace Xc := Lib.hid (Xc.out.below hb Xc.out.lt)
          replace Xo := Lib.hid (Xo.out.below hb Xo.out.lt)
          replace Xx := Lib.hid (Xx.out.below hb Xx.out.lt)
          replace TL := Lib.hid (TL.out.mono hb)
          replace T1 := Lib.hid (T1.out.mono hb)
          replace T2 := Lib.hid (T2.out.mono hb)
          replace HB := Lib.hid (HB.out.trans (hb.mono HB.out.size))
          clear hb
          have x13 := (Xc.out.at_ 0 (.bool ex) rfl).1
          have x14 := (Xc.out.at_ 1 (.int .i64 at') rfl).1
          have x15 := (Xc.out.at_ 2 (.slice vo L.length vc) rfl).1
          have HC := Lib.hid (rexpire_ok ex at' _ L now _ TL.out HP.out e2 HE2.out)
          go_wp2_with fail
          refine HC.out.mono ?_
          clear HC
          clear x13 x14 x15
          rintro e w5 ⟨hb, v3, L3, a3, rfl, hT3, hA3, ha3⟩
          have hL : L3 = L2 := asc_unique hA3 HA2.out
          have haa : a3 = a2 := by rw [ha3, HAA.out]
          clear hA3 ha3
          subst hL haa
          obtain ⟨v3o, v3c, rfl⟩ := hT3.shape
          have T3 := Lib.hid hT3
          clear hT3
          simp only [HTH.out]
          replace Xc := Lib.hid (Xc.out.below hb Xc.out.lt)
          replace Xo := Lib.hid (Xo.out.below hb Xo.out.lt)
          replace Xx := Lib.hid (Xx.out.below hb Xx.out.lt)
          replace TL := Lib.hid (TL.out.mono hb)
          replace T1 := Lib.hid (T1.out.mono hb)
          replace T2 := Lib.hid (T2.out.mono hb)
          replace HB := Lib.hid (HB.out.trans (hb.mono HB.out.size))
          clear hb
          have hba : Below w5.heap.size w5 (w5.alloc (.cells #[.bool e2, .int .i64 a3, .slice v3o L3.length v3c] 24)) := ((Below.refl _ _).alloc (Nat.le_refl _) _)
          replace Xc := Lib.hid (Xc.out.below hba Xc.out.lt)
          replace Xo := Lib.hid (Xo.out.below hba Xo.out.lt)
          replace Xx := Lib.hid (Xx.out.below hba Xx.out.lt)
          replace TL := Lib.hid (TL.out.mono hba)
          replace T1 := Lib.hid (T1.out.mono hba)
          replace T2 := Lib.hid (T2.out.mono hba)
          replace T3 := Lib.hid (T3.out.mono hba)
          replace HB := Lib.hid (HB.out.trans (hba.mono HB.out.size))
          have Xy := Lib.hid (show CBox (w5.alloc (.cells #[.bool e2, .int .i64 a3, .slice v3o L3.length v3c] 24)) (w5.heap.size) 24 #[.bool e2, .int .i64 a3, .slice v3o L3.length v3c] from (CBox.new _ (by simp)))
          clear hba
          have x16 := (Xo.out.at_ 0 (.bool ex) rfl).1
          have x17 := (Xo.out.at_ 1 (.int .i64 at') rfl).1
          have x18 := (Xo.out.at_ 2 (.slice v1o L.length v1c) rfl).1
          have x19 := (Xc.out.at_ 0 (.bool ex) rfl).1
          have x20 := (Xc.out.at_ 1 (.int .i64 at') rfl).1
          have x21 := (Xc.out.at_ 2 (.slice vo L.length vc) rfl).1
          have HC := Lib.hid (tsame_yes ex at' _ _ L _ T1.out TL.out)
          go_wp2_with fail
          refine HC.out.mono ?_
          clear HC
          clear x16 x17 x18 x19 x20 x21
          rintro e w6 ⟨rfl, hb⟩
          replace Xc := Lib.hid (Xc.out.below hb Xc.out.lt)
          replace Xo := Lib.hid (Xo.out.below hb Xo.out.lt)
          replace Xx := Lib.hid (Xx.out.below hb Xx.out.lt)
          replace Xy := Lib.hid (Xy.out.below hb Xy.out.lt)
          replace TL := Lib.hid (TL.out.mono hb)
          replace T1 := Lib.hid (T1.out.mono hb)
          replace T2 := Lib.hid (T2.out.mono hb)
          replace T3 := Lib.hid (T3.out.mono hb)
          replace HB := Lib.hid (HB.out.trans (hb.mono HB.out.size))
          clear hb
          have x22 := (Xc.out.at_ 0 (.bool ex) rfl).1
          have x23 := (Xc.out.at_ 1 (.int .i64 at') rfl).1
          have x24 := (Xc.out.at_ 2 (.slice vo L.length vc) rfl).1
          have HC := Lib.hid (rcheck_yes ex at' _ L _ TL.out HP.out)
          go_wp2_with fail
          refine HC.out.mono ?_
          clear HC
          clear x22 x23 x24
          rintro e w7 ⟨rfl, hb⟩
          replace Xc := Lib.hid (Xc.out.below hb Xc.out.lt)
          replace Xo := Lib.hid (Xo.out.below hb Xo.out.lt)
          replace Xx := Lib.hid (Xx.out.below hb Xx.out.lt)
          replace Xy := Lib.hid (Xy.out.below hb Xy.out.lt)
          replace TL := Lib.hid (TL.out.mono hb)
          replace T1 := Lib.hid (T1.out.mono hb)
          replace T2 := Lib.hid (T2.out.mono hb)
          replace T3 := Lib.hid (T3.out.mono hb)
          replace HB := Lib.hid (HB.out.trans (hb.mono HB.out.size))
          clear hb
          have x25 := (Xx.out.at_ 0 (.bool e2) rfl).1
          have x26 := (Xx.out.at_ 1 (.int .i64 a3) rfl).1
          have x27 := (Xx.out.at_ 2 (.slice v2o L3.length v2c) rfl).1
          have x28 := (Xy.out.at_ 0 (.bool e2) rfl).1
          have x29 := (Xy.out.at_ 1 (.int .i64 a3) rfl).1
          have x30 := (Xy.out.at_ 2 (.slice v3o L3.length v3c) rfl).1
          have HC := Lib.hid (tsame_yes e2 a3 _ _ L3 _ T2.out T3.out)
          go_wp2_with fail
          refine HC.out.mono ?_
          clear HC
          clear x25 x26 x27 x28 x29 x30
          rintro e w8 ⟨rfl, hb⟩
          replace Xc := Lib.hid (Xc.out.below hb Xc.out.lt)
          replace Xo := Lib.hid (Xo.out.below hb Xo.out.lt)
          replace Xx := Lib.hid (Xx.out.below hb Xx.out.lt)
          replace Xy := Lib.hid (Xy.out.below hb Xy.out.lt)
          replace TL := Lib.hid (TL.out.mono hb)
          replace T1 := Lib.hid (T1.out.mono hb)
          replace T2 := Lib.hid (T2.out.mono hb)
          replace T3 := Lib.hid (T3.out.mono hb)
          replace HB := Lib.hid (HB.out.trans (hb.mono HB.out.size))
          clear hb
          have x31 := (Xc.out.at_ 0 (.bool ex) rfl).1
          have x32 := (Xc.out.at_ 1 (.int .i64 at') rfl).1
          have x33 := (Xc.out.at_ 2 (.slice vo L.length vc) rfl).1
          have HC := Lib.hid (radmits_as ex at' _ L now a _ TL.out false HQ.out)
          go_wp2_with fail
          refine HC.out.mono ?_
          clear HC
          clear x31 x32 x33
          rintro e w9 ⟨rfl, hb⟩
          replace Xc := Lib.hid (Xc.out.below hb Xc.out.lt)
          replace Xo := Lib.hid (Xo.out.below hb Xo.out.lt)
          replace Xx := Lib.hid (Xx.out.below hb Xx.out.lt)
          replace Xy := Lib.hid (Xy.out.below hb Xy.out.lt)
          replace TL := Lib.hid (TL.out.mono hb)
          replace T1 := Lib.hid (T1.out.mono hb)
          replace T2 := Lib.hid (T2.out.mono hb)
          replace T3 := Lib.hid (T3.out.mono hb)
          replace HB := Lib.hid (HB.out.trans (hb.mono HB.out.size))
          clear hb
          go_wp2_with fail
          refine (live_yes _).mono ?_
          rintro e w10 ⟨rfl, hb⟩
          replace Xc := Lib.hid (Xc.out.below hb Xc.out.lt)
          replace Xo := Lib.hid (Xo.out.below hb Xo.out.lt)
          replace Xx := Lib.hid (Xx.out.below hb Xx.out.lt)
          replace Xy := Lib.hid (Xy.out.below hb Xy.out.lt)
          replace TL := Lib.hid (TL.out.mono hb)
          replace T1 := Lib.hid (T1.out.mono hb)
          replace T2 := Lib.hid (T2.out.mono hb)
          replace T3 := Lib.hid (T3.out.mono hb)
          replace HB := Lib.hid (HB.out.trans (hb.mono HB.out.size))
          clear hb
          go_wp2_with fail
          go_ret
          exact ⟨rfl, HB.out⟩
      · have HQ := Lib.hid hq; clear hq
        have x1 := (Xc.out.at_ 0 (.bool ex) rfl).1
        have x2 := (Xc.out.at_ 1 (.int .i64 at') rfl).1
        have x3 := (Xc.out.at_ 2 (.slice vo L.length vc) rfl).1
        go_enter Try.func3, Try.ntmps3
        have HC := Lib.hid (copied_any ex at' _ L _ TL.out)
        go_wp2_with fail
        refine HC.out.mono ?_
        clear HC
        clear x1 x2 x3
        rintro e w1 ⟨v1, rfl, hT1, hb, _⟩
        obtain ⟨v1o, v1c, rfl⟩ := hT1.shape
        have T1 := Lib.hid hT1
        clear hT1 d1 d2
        replace Xc := Lib.hid (Xc.out.below hb Xc.out.lt)
        replace TL := Lib.hid (TL.out.mono hb)
        replace HB := Lib.hid (HB.out.trans (hb.mono HB.out.size))
        clear hb
        have hba : Below w1.heap.size w1 (w1.alloc (.cells #[.bool ex, .int .i64 at', .slice v1o L.length v1c] 24)) := ((Below.refl _ _).alloc (Nat.le_refl _) _)
        replace Xc := Lib.hid (Xc.out.below hba Xc.out.lt)
        replace TL := Lib.hid (TL.out.mono hba)
        replace T1 := Lib.hid (T1.out.mono hba)
        replace HB := Lib.hid (HB.out.trans (hba.mono HB.out.size))
        have Xo := Lib.hid (show CBox (w1.alloc (.cells #[.bool ex, .int .i64 at', .slice v1o L.length v1c] 24)) (w1.heap.size) 24 #[.bool ex, .int .i64 at', .slice v1o L.length v1c] from (CBox.new _ (by simp)))
        clear hba
        have x4 := (Xo.out.at_ 0 (.bool ex) rfl).1
        have x5 := (Xo.out.at_ 1 (.int .i64 at') rfl).1
        have x6 := (Xo.out.at_ 2 (.slice v1o L.length v1c) rfl).1
        have HC := Lib.hid (check_ok ex at' _ L _ T1.out HP.out)
        go_wp2_with fail
        refine HC.out.mono ?_
        clear HC
        clear x4 x5 x6
        rintro e w2 ⟨rfl, hb⟩
        replace Xc := Lib.hid (Xc.out.below hb Xc.out.lt)
        replace Xo := Lib.hid (Xo.out.below hb Xo.out.lt)
        replace TL := Lib.hid (TL.out.mono hb)
        replace T1 := Lib.hid (T1.out.mono hb)
        replace HB := Lib.hid (HB.out.trans (hb.mono HB.out.size))
        clear hb
        have x7 := (Xo.out.at_ 0 (.bool ex) rfl).1
        have x8 := (Xo.out.at_ 1 (.int .i64 at') rfl).1
        have x9 := (Xo.out.at_ 2 (.slice v1o L.length v1c) rfl).1
        have HC := Lib.hid (expire_ok ex at' _ L now _ T1.out HP.out e2 HE2.out)
        go_wp2_with fail
        refine HC.out.mono ?_
        clear HC
        clear x7 x8 x9
        rintro e w3 ⟨hb, v2, L2, a2, rfl, hT2, hA2, _, ha2⟩
        obtain ⟨v2o, v2c, rfl⟩ := hT2.shape
        have T2 := Lib.hid hT2; have HA2 := Lib.hid hA2; have HAA := Lib.hid ha2
        clear hT2 hA2 ha2
        replace Xc := Lib.hid (Xc.out.below hb Xc.out.lt)
        replace Xo := Lib.hid (Xo.out.below hb Xo.out.lt)
        replace TL := Lib.hid (TL.out.mono hb)
        replace T1 := Lib.hid (T1.out.mono hb)
        replace HB := Lib.hid (HB.out.trans (hb.mono HB.out.size))
        clear hb
        cases hth : (e2 || !L2.isEmpty)
        · have HTH := Lib.hid hth; clear hth
          have hba : Below w3.heap.size w3 (w3.alloc (.cells #[.bool e2, .int .i64 a2, .slice v2o L2.length v2c] 24)) := ((Below.refl _ _).alloc (Nat.le_refl _) _)
          replace Xc := Lib.hid (Xc.out.below hba Xc.out.lt)
          replace Xo := Lib.hid (Xo.out.below hba Xo.out.lt)
          replace TL := Lib.hid (TL.out.mono hba)
          replace T1 := Lib.hid (T1.out.mono hba)
          replace T2 := Lib.hid (T2.out.mono hba)
          replace HB := Lib.hid (HB.out.trans (hba.mono HB.out.size))
          have Xx := Lib.hid (show CBox (w3.alloc (.cells #[.bool e2, .int .i64 a2, .slice v2o L2.length v2c] 24)) (w3.heap.size) 24 #[.bool e2, .int .i64 a2, .slice v2o L2.length v2c] from (CBox.new _ (by simp)))
          clear hba
          have x10 := (Xo.out.at_ 0 (.bool ex) rfl).1
          have x11 := (Xo.out.at_ 1 (.int .i64 at') rfl).1
          have x12 := (Xo.out.at_ 2 (.slice v1o L.length v1c) rfl).1
          have HC := Lib.hid (admits_as ex at' _ L now a HAL.out _ T1.out true HQ.out)
          go_wp2_with fail
          refine HC.out.mono ?_
          clear HC
          clear x10 x11 x12
          rintro e w4 ⟨rfl, hb⟩
          replace Xc := Lib.hid (Xc.out.below hb Xc.out.lt)
          replace Xo := Lib.hid (Xo.out.below hb Xo.out.lt)
          replace Xx := Lib.hid (Xx.out.below hb Xx.out.lt)
          replace TL := Lib.hid (TL.out.mono hb)
          replace T1 := Lib.hid (T1.out.mono hb)
          replace T2 := Lib.hid (T2.out.mono hb)
          replace HB := Lib.hid (HB.out.trans (hb.mono HB.out.size))
          clear hb
          have x13 := (Xc.out.at_ 0 (.bool ex) rfl).1
          have x14 := (Xc.out.at_ 1 (.int .i64 at') rfl).1
          have x15 := (Xc.out.at_ 2 (.slice vo L.length vc) rfl).1
          have HC := Lib.hid (rexpire_ok ex at' _ L now _ TL.out HP.out e2 HE2.out)
          go_wp2_with fail
          refine HC.out.mono ?_
          clear HC
          clear x13 x14 x15
          rintro e w5 ⟨hb, v3, L3, a3, rfl, hT3, hA3, ha3⟩
          have hL : L3 = L2 := asc_unique hA3 HA2.out
          have haa : a3 = a2 := by rw [ha3, HAA.out]
          clear hA3 ha3
          subst hL haa
          obtain ⟨v3o, v3c, rfl⟩ := hT3.shape
          have T3 := Lib.hid hT3
          clear hT3
          simp only [HTH.out]
          replace Xc := Lib.hid (Xc.out.below hb Xc.out.lt)
          replace Xo := Lib.hid (Xo.out.below hb Xo.out.lt)
          replace Xx := Lib.hid (Xx.out.below hb Xx.out.lt)
          replace TL := Lib.hid (TL.out.mono hb)
          replace T1 := Lib.hid (T1.out.mono hb)
          replace T2 := Lib.hid (T2.out.mono hb)
          replace HB := Lib.hid (HB.out.trans (hb.mono HB.out.size))
          clear hb
          have hba : Below w5.heap.size w5 (w5.alloc (.cells #[.bool e2, .int .i64 a3, .slice v3o L3.length v3c] 24)) := ((Below.refl _ _).alloc (Nat.le_refl _) _)
          replace Xc := Lib.hid (Xc.out.below hba Xc.out.lt)
          replace Xo := Lib.hid (Xo.out.below hba Xo.out.lt)
          replace Xx := Lib.hid (Xx.out.below hba Xx.out.lt)
          replace TL := Lib.hid (TL.out.mono hba)
          replace T1 := Lib.hid (T1.out.mono hba)
          replace T2 := Lib.hid (T2.out.mono hba)
          replace T3 := Lib.hid (T3.out.mono hba)
          replace HB := Lib.hid (HB.out.trans (hba.mono HB.out.size))
          have Xy := Lib.hid (show CBox (w5.alloc (.cells #[.bool e2, .int .i64 a3, .slice v3o L3.length v3c] 24)) (w5.heap.size) 24 #[.bool e2, .int .i64 a3, .slice v3o L3.length v3c] from (CBox.new _ (by simp)))
          clear hba
          have x16 := (Xo.out.at_ 0 (.bool ex) rfl).1
          have x17 := (Xo.out.at_ 1 (.int .i64 at') rfl).1
          have x18 := (Xo.out.at_ 2 (.slice v1o L.length v1c) rfl).1
          have x19 := (Xc.out.at_ 0 (.bool ex) rfl).1
          have x20 := (Xc.out.at_ 1 (.int .i64 at') rfl).1
          have x21 := (Xc.out.at_ 2 (.slice vo L.length vc) rfl).1
          have HC := Lib.hid (tsame_yes ex at' _ _ L _ T1.out TL.out)
          go_wp2_with fail
          refine HC.out.mono ?_
          clear HC
          clear x16 x17 x18 x19 x20 x21
          rintro e w6 ⟨rfl, hb⟩
          replace Xc := Lib.hid (Xc.out.below hb Xc.out.lt)
          replace Xo := Lib.hid (Xo.out.below hb Xo.out.lt)
          replace Xx := Lib.hid (Xx.out.below hb Xx.out.lt)
          replace Xy := Lib.hid (Xy.out.below hb Xy.out.lt)
          replace TL := Lib.hid (TL.out.mono hb)
          replace T1 := Lib.hid (T1.out.mono hb)
          replace T2 := Lib.hid (T2.out.mono hb)
          replace T3 := Lib.hid (T3.out.mono hb)
          replace HB := Lib.hid (HB.out.trans (hb.mono HB.out.size))
          clear hb
          have x22 := (Xc.out.at_ 0 (.bool ex) rfl).1
          have x23 := (Xc.out.at_ 1 (.int .i64 at') rfl).1
          have x24 := (Xc.out.at_ 2 (.slice vo L.length vc) rfl).1
          have HC := Lib.hid (rcheck_yes ex at' _ L _ TL.out HP.out)
          go_wp2_with fail
          refine HC.out.mono ?_
          clear HC
          clear x22 x23 x24
          rintro e w7 ⟨rfl, hb⟩
          replace Xc := Lib.hid (Xc.out.below hb Xc.out.lt)
          replace Xo := Lib.hid (Xo.out.below hb Xo.out.lt)
          replace Xx := Lib.hid (Xx.out.below hb Xx.out.lt)
          replace Xy := Lib.hid (Xy.out.below hb Xy.out.lt)
          replace TL := Lib.hid (TL.out.mono hb)
          replace T1 := Lib.hid (T1.out.mono hb)
          replace T2 := Lib.hid (T2.out.mono hb)
          replace T3 := Lib.hid (T3.out.mono hb)
          replace HB := Lib.hid (HB.out.trans (hb.mono HB.out.size))
          clear hb
          have x25 := (Xx.out.at_ 0 (.bool e2) rfl).1
          have x26 := (Xx.out.at_ 1 (.int .i64 a3) rfl).1
          have x27 := (Xx.out.at_ 2 (.slice v2o L3.length v2c) rfl).1
          have x28 := (Xy.out.at_ 0 (.bool e2) rfl).1
          have x29 := (Xy.out.at_ 1 (.int .i64 a3) rfl).1
          have x30 := (Xy.out.at_ 2 (.slice v3o L3.length v3c) rfl).1
          have HC := Lib.hid (tsame_yes e2 a3 _ _ L3 _ T2.out T3.out)
          go_wp2_with fail
          refine HC.out.mono ?_
          clear HC
          clear x25 x26 x27 x28 x29 x30
          rintro e w8 ⟨rfl, hb⟩
          replace Xc := Lib.hid (Xc.out.below hb Xc.out.lt)
          replace Xo := Lib.hid (Xo.out.below hb Xo.out.lt)
          replace Xx := Lib.hid (Xx.out.below hb Xx.out.lt)
          replace Xy := Lib.hid (Xy.out.below hb Xy.out.lt)
          replace TL := Lib.hid (TL.out.mono hb)
          replace T1 := Lib.hid (T1.out.mono hb)
          replace T2 := Lib.hid (T2.out.mono hb)
          replace T3 := Lib.hid (T3.out.mono hb)
          replace HB := Lib.hid (HB.out.trans (hb.mono HB.out.size))
          clear hb
          have x31 := (Xc.out.at_ 0 (.bool ex) rfl).1
          have x32 := (Xc.out.at_ 1 (.int .i64 at') rfl).1
          have x33 := (Xc.out.at_ 2 (.slice vo L.length vc) rfl).1
          have HC := Lib.hid (radmits_as ex at' _ L now a _ TL.out true HQ.out)
          go_wp2_with fail
          refine HC.out.mono ?_
          clear HC
          clear x31 x32 x33
          rintro e w9 ⟨rfl, hb⟩
          replace Xc := Lib.hid (Xc.out.below hb Xc.out.lt)
          replace Xo := Lib.hid (Xo.out.below hb Xo.out.lt)
          replace Xx := Lib.hid (Xx.out.below hb Xx.out.lt)
          replace Xy := Lib.hid (Xy.out.below hb Xy.out.lt)
          replace TL := Lib.hid (TL.out.mono hb)
          replace T1 := Lib.hid (T1.out.mono hb)
          replace T2 := Lib.hid (T2.out.mono hb)
          replace T3 := Lib.hid (T3.out.mono hb)
          replace HB := Lib.hid (HB.out.trans (hb.mono HB.out.size))
          clear hb
          go_wp2_with fail
          refine (live_yes _).mono ?_
          rintro e w10 ⟨rfl, hb⟩
          replace Xc := Lib.hid (Xc.out.below hb Xc.out.lt)
          replace Xo := Lib.hid (Xo.out.below hb Xo.out.lt)
          replace Xx := Lib.hid (Xx.out.below hb Xx.out.lt)
          replace Xy := Lib.hid (Xy.out.below hb Xy.out.lt)
          replace TL := Lib.hid (TL.out.mono hb)
          replace T1 := Lib.hid (T1.out.mono hb)
          replace T2 := Lib.hid (T2.out.mono hb)
          replace T3 := Lib.hid (T3.out.mono hb)
          replace HB := Lib.hid (HB.out.trans (hb.mono HB.out.size))
          clear hb
          go_wp2_with fail
          go_ret
          exact ⟨rfl, HB.out⟩
        · have HTH := Lib.hid hth; clear hth
          have hba : Below w3.heap.size w3 (w3.alloc (.cells #[.bool e2, .int .i64 a2, .slice v2o L2.length v2c] 24)) := ((Below.refl _ _).alloc (Nat.le_refl _) _)
          replace Xc := Lib.hid (Xc.out.below hba Xc.out.lt)
          replace Xo := Lib.hid (Xo.out.below hba Xo.out.lt)
          replace TL := Lib.hid (TL.out.mono hba)
          replace T1 := Lib.hid (T1.out.mono hba)
          replace T2 := Lib.hid (T2.out.mono hba)
          replace HB := Lib.hid (HB.out.trans (hba.mono HB.out.size))
          have Xx := Lib.hid (show CBox (w3.alloc (.cells #[.bool e2, .int .i64 a2, .slice v2o L2.length v2c] 24)) (w3.heap.size) 24 #[.bool e2, .int .i64 a2, .slice v2o L2.length v2c] from (CBox.new _ (by simp)))
          clear hba
          have x10 := (Xo.out.at_ 0 (.bool ex) rfl).1
          have x11 := (Xo.out.at_ 1 (.int .i64 at') rfl).1
          have x12 := (Xo.out.at_ 2 (.slice v1o L.length v1c) rfl).1
          have HC := Lib.hid (admits_as ex at' _ L now a HAL.out _ T1.out true HQ.out)
          go_wp2_with fail
          refine HC.out.mono ?_
          clear HC
          clear x10 x11 x12
          rintro e w4 ⟨rfl, hb⟩
          replace Xc := Lib.hid (Xc.out.below hb Xc.out.lt)
          replace Xo := Lib.hid (Xo.out.below hb Xo.out.lt)
          replace Xx := Lib.hid (Xx.out.below hb Xx.out.lt)
          replace TL := Lib.hid (TL.out.mono hb)
          replace T1 := Lib.hid (T1.out.mono hb)
          replace T2 := Lib.hid (T2.out.mono hb)
          replace HB := Lib.hid (HB.out.trans (hb.mono HB.out.size))
          clear hb
          have x13 := (Xc.out.at_ 0 (.bool ex) rfl).1
          have x14 := (Xc.out.at_ 1 (.int .i64 at') rfl).1
          have x15 := (Xc.out.at_ 2 (.slice vo L.length vc) rfl).1
          have HC := Lib.hid (rexpire_ok ex at' _ L now _ TL.out HP.out e2 HE2.out)
          go_wp2_with fail
          refine HC.out.mono ?_
          clear HC
          clear x13 x14 x15
          rintro e w5 ⟨hb, v3, L3, a3, rfl, hT3, hA3, ha3⟩
          have hL : L3 = L2 := asc_unique hA3 HA2.out
          have haa : a3 = a2 := by rw [ha3, HAA.out]
          clear hA3 ha3
          subst hL haa
          obtain ⟨v3o, v3c, rfl⟩ := hT3.shape
          have T3 := Lib.hid hT3
          clear hT3
          simp only [HTH.out]
          replace Xc := Lib.hid (Xc.out.below hb Xc.out.lt)
          replace Xo := Lib.hid (Xo.out.below hb Xo.out.lt)
          replace Xx := Lib.hid (Xx.out.below hb Xx.out.lt)
          replace TL := Lib.hid (TL.out.mono hb)
          replace T1 := Lib.hid (T1.out.mono hb)
          replace T2 := Lib.hid (T2.out.mono hb)
          replace HB := Lib.hid (HB.out.trans (hb.mono HB.out.size))
          clear hb
          have hba : Below w5.heap.size w5 (w5.alloc (.cells #[.bool e2, .int .i64 a3, .slice v3o L3.length v3c] 24)) := ((Below.refl _ _).alloc (Nat.le_refl _) _)
          replace Xc := Lib.hid (Xc.out.below hba Xc.out.lt)
          replace Xo := Lib.hid (Xo.out.below hba Xo.out.lt)
          replace Xx := Lib.hid (Xx.out.below hba Xx.out.lt)
          replace TL := Lib.hid (TL.out.mono hba)
          replace T1 := Lib.hid (T1.out.mono hba)
          replace T2 := Lib.hid (T2.out.mono hba)
          replace T3 := Lib.hid (T3.out.mono hba)
          replace HB := Lib.hid (HB.out.trans (hba.mono HB.out.size))
          have Xy := Lib.hid (show CBox (w5.alloc (.cells #[.bool e2, .int .i64 a3, .slice v3o L3.length v3c] 24)) (w5.heap.size) 24 #[.bool e2, .int .i64 a3, .slice v3o L3.length v3c] from (CBox.new _ (by simp)))
          clear hba
          have x16 := (Xo.out.at_ 0 (.bool ex) rfl).1
          have x17 := (Xo.out.at_ 1 (.int .i64 at') rfl).1
          have x18 := (Xo.out.at_ 2 (.slice v1o L.length v1c) rfl).1
          have x19 := (Xc.out.at_ 0 (.bool ex) rfl).1
          have x20 := (Xc.out.at_ 1 (.int .i64 at') rfl).1
          have x21 := (Xc.out.at_ 2 (.slice vo L.length vc) rfl).1
          have HC := Lib.hid (tsame_yes ex at' _ _ L _ T1.out TL.out)
          go_wp2_with fail
          refine HC.out.mono ?_
          clear HC
          clear x16 x17 x18 x19 x20 x21
          rintro e w6 ⟨rfl, hb⟩
          replace Xc := Lib.hid (Xc.out.below hb Xc.out.lt)
          replace Xo := Lib.hid (Xo.out.below hb Xo.out.lt)
          replace Xx := Lib.hid (Xx.out.below hb Xx.out.lt)
          replace Xy := Lib.hid (Xy.out.below hb Xy.out.lt)
          replace TL := Lib.hid (TL.out.mono hb)
          replace T1 := Lib.hid (T1.out.mono hb)
          replace T2 := Lib.hid (T2.out.mono hb)
          replace T3 := Lib.hid (T3.out.mono hb)
          replace HB := Lib.hid (HB.out.trans (hb.mono HB.out.size))
          clear hb
          have x22 := (Xc.out.at_ 0 (.bool ex) rfl).1
          have x23 := (Xc.out.at_ 1 (.int .i64 at') rfl).1
          have x24 := (Xc.out.at_ 2 (.slice vo L.length vc) rfl).1
          have HC := Lib.hid (rcheck_yes ex at' _ L _ TL.out HP.out)
          go_wp2_with fail
          refine HC.out.mono ?_
          clear HC
          clear x22 x23 x24
          rintro e w7 ⟨rfl, hb⟩
          replace Xc := Lib.hid (Xc.out.below hb Xc.out.lt)
          replace Xo := Lib.hid (Xo.out.below hb Xo.out.lt)
          replace Xx := Lib.hid (Xx.out.below hb Xx.out.lt)
          replace Xy := Lib.hid (Xy.out.below hb Xy.out.lt)
          replace TL := Lib.hid (TL.out.mono hb)
          replace T1 := Lib.hid (T1.out.mono hb)
          replace T2 := Lib.hid (T2.out.mono hb)
          replace T3 := Lib.hid (T3.out.mono hb)
          replace HB := Lib.hid (HB.out.trans (hb.mono HB.out.size))
          clear hb
          have x25 := (Xx.out.at_ 0 (.bool e2) rfl).1
          have x26 := (Xx.out.at_ 1 (.int .i64 a3) rfl).1
          have x27 := (Xx.out.at_ 2 (.slice v2o L3.length v2c) rfl).1
          have x28 := (Xy.out.at_ 0 (.bool e2) rfl).1
          have x29 := (Xy.out.at_ 1 (.int .i64 a3) rfl).1
          have x30 := (Xy.out.at_ 2 (.slice v3o L3.length v3c) rfl).1
          have HC := Lib.hid (tsame_yes e2 a3 _ _ L3 _ T2.out T3.out)
          go_wp2_with fail
          refine HC.out.mono ?_
          clear HC
          clear x25 x26 x27 x28 x29 x30
          rintro e w8 ⟨rfl, hb⟩
          replace Xc := Lib.hid (Xc.out.below hb Xc.out.lt)
          replace Xo := Lib.hid (Xo.out.below hb Xo.out.lt)
          replace Xx := Lib.hid (Xx.out.below hb Xx.out.lt)
          replace Xy := Lib.hid (Xy.out.below hb Xy.out.lt)
          replace TL := Lib.hid (TL.out.mono hb)
          replace T1 := Lib.hid (T1.out.mono hb)
          replace T2 := Lib.hid (T2.out.mono hb)
          replace T3 := Lib.hid (T3.out.mono hb)
          replace HB := Lib.hid (HB.out.trans (hb.mono HB.out.size))
          clear hb
          have x31 := (Xc.out.at_ 0 (.bool ex) rfl).1
          have x32 := (Xc.out.at_ 1 (.int .i64 at') rfl).1
          have x33 := (Xc.out.at_ 2 (.slice vo L.length vc) rfl).1
          have HC := Lib.hid (radmits_as ex at' _ L now a _ TL.out true HQ.out)
          go_wp2_with fail
          refine HC.out.mono ?_
          clear HC
          clear x31 x32 x33
          rintro e w9 ⟨rfl, hb⟩
          replace Xc := Lib.hid (Xc.out.below hb Xc.out.lt)
          replace Xo := Lib.hid (Xo.out.below hb Xo.out.lt)
          replace Xx := Lib.hid (Xx.out.below hb Xx.out.lt)
          replace Xy := Lib.hid (Xy.out.below hb Xy.out.lt)
          replace TL := Lib.hid (TL.out.mono hb)
          replace T1 := Lib.hid (T1.out.mono hb)
          replace T2 := Lib.hid (T2.out.mono hb)
          replace T3 := Lib.hid (T3.out.mono hb)
          replace HB := Lib.hid (HB.out.trans (hb.mono HB.out.size))
          clear hb
          go_wp2_with fail
          refine (live_yes _).mono ?_
          rintro e w10 ⟨rfl, hb⟩
          replace Xc := Lib.hid (Xc.out.below hb Xc.out.lt)
          replace Xo := Lib.hid (Xo.out.below hb Xo.out.lt)
          replace Xx := Lib.hid (Xx.out.below hb Xx.out.lt)
          replace Xy := Lib.hid (Xy.out.below hb Xy.out.lt)
          replace TL := Lib.hid (TL.out.mono hb)
          replace T1 := Lib.hid (T1.out.mono hb)
          replace T2 := Lib.hid (T2.out.mono hb)
          replace T3 := Lib.hid (T3.out.mono hb)
          replace HB := Lib.hid (HB.out.trans (hb.mono HB.out.size))
          clear hb
          go_wp2_with fail
          go_ret
          exact ⟨rfl, HB.out⟩
  · have d1 : decide (100 < L.length) = true := decide_eq_true (by omega)
    have d2 : decide ((100 : Int) < (L.length : Int)) = true := decide_eq_true (by omega)
    have x1 := (Xc.out.at_ 0 (.bool ex) rfl).1
    have x2 := (Xc.out.at_ 1 (.int .i64 at') rfl).1
    have x3 := (Xc.out.at_ 2 (.slice vo L.length vc) rfl).1
    go_enter Try.func3, Try.ntmps3
    go_wp2_with fail
    refine (live_yes _).mono ?_
    clear x1 x2 x3
    rintro e w1 ⟨rfl, hb⟩
    replace Xc := Lib.hid (Xc.out.below hb Xc.out.lt)
    replace TL := Lib.hid (TL.out.mono hb)
    replace HB := Lib.hid (HB.out.trans (hb.mono HB.out.size))
    clear hb
    go_wp2_with fail
    go_ret
    exact ⟨rfl, HB.out⟩
end Go.Proofs.Ytkphgonbbhlnfaa
