/- The walk of GroupStays. -/
import Derived.Test.YtkphgonbbhlnfaaGFew
import Derived.Test.YtkphgonbbhlnfaaGPlain2
namespace Go.Proofs.Ytkphgonbbhlnfaa
open Go.RowKit Go.Lib Go.Maps Go.Sort

set_option maxRecDepth 20000

set_option maxHeartbeats 2000000 in
theorem law_stays (ex : Bool) (at' : Int) (v : Value) (L : List Tmd) (is : Bool) (kind : Int) (g : ByteArray) (rv : Value) (C : List Str) (mem last : Int) (now : Int) (a : Str) (w : World) (h : Tms w v L) (wa : (Lit.int .i64 at').wf = true) (hr : Strs w rv C) (ha : a.length ≤ maxLen) :
    Calls Try.prog 7 #[.agg #[.bool ex, .int .i64 at', v, .bool is, .int .i64 kind, .string g, rv, .int .i64 mem, .int .i64 last], .int .i64 now, .string (bstr a)] w fun e w' => e = .returned (.bool true) ∧ Below w.heap.size w w' := by
  obtain ⟨vo, vc, rfl⟩ := h.shape
  obtain ⟨ro, rc, rfl⟩ := hr.shape
  have HB := Lib.hid (Below.refl w.heap.size w)
  have TL := Lib.hid h
  have SC := Lib.hid hr
  clear h hr
  have hba : Below w.heap.size w (w.alloc (.cells #[.bool ex, .int .i64 at', .slice vo L.length vc, .bool is, .int .i64 kind, .string g, .slice ro C.length rc, .int .i64 mem, .int .i64 last] 41)) := ((Below.refl _ _).alloc (Nat.le_refl _) _)
  replace TL := Lib.hid (TL.out.mono hba)
  replace SC := Lib.hid (SC.out.mono hba)
  replace HB := Lib.hid (HB.out.trans (hba.mono HB.out.size))
  have Xc := Lib.hid (show CBox (w.alloc (.cells #[.bool ex, .int .i64 at', .slice vo L.length vc, .bool is, .int .i64 kind, .string g, .slice ro C.length rc, .int .i64 mem, .int .i64 last] 41)) (w.heap.size) 41 #[.bool ex, .int .i64 at', .slice vo L.length vc, .bool is, .int .i64 kind, .string g, .slice ro C.length rc, .int .i64 mem, .int .i64 last] from (CBox.new _ (by simp)))
  clear hba
  go_enter Try.func7, Try.ntmps7
  by_cases hf0 : L.length ≤ 100 ∧ C.length ≤ 100
  · cases is
    · have x1 := (Xc.out.at_ 0 (.bool ex) rfl).1
      have x2 := (Xc.out.at_ 1 (.int .i64 at') rfl).1
      have x3 := (Xc.out.at_ 2 (.slice vo L.length vc) rfl).1
      have x4 := (Xc.out.at_ 3 (.bool false) rfl).1
      have x5 := (Xc.out.at_ 4 (.int .i64 kind) rfl).1
      have x6 := (Xc.out.at_ 5 (.string g) rfl).1
      have x7 := (Xc.out.at_ 6 (.slice ro C.length rc) rfl).1
      have x8 := (Xc.out.at_ 7 (.int .i64 mem) rfl).1
      have x9 := (Xc.out.at_ 8 (.int .i64 last) rfl).1
      have hf := Lib.hid hf0; clear hf0
      have HC := Lib.hid (few_yes ex at' _ L kind g _ C _ TL.out SC.out hf.out)
      go_wp2_with fail
      refine HC.out.mono ?_
      clear HC
      clear x1 x2 x3 x4 x5 x6 x7 x8 x9
      rintro e w1 ⟨rfl, hb⟩
      replace Xc := Lib.hid (Xc.out.below hb Xc.out.lt)
      replace TL := Lib.hid (TL.out.mono hb)
      replace SC := Lib.hid (SC.out.mono hb)
      replace HB := Lib.hid (HB.out.trans (hb.mono HB.out.size))
      clear hb
      have x10 := (Xc.out.at_ 0 (.bool ex) rfl).1
      have x11 := (Xc.out.at_ 1 (.int .i64 at') rfl).1
      have x12 := (Xc.out.at_ 2 (.slice vo L.length vc) rfl).1
      have x13 := (Xc.out.at_ 3 (.bool false) rfl).1
      have x14 := (Xc.out.at_ 4 (.int .i64 kind) rfl).1
      have x15 := (Xc.out.at_ 5 (.string g) rfl).1
      have x16 := (Xc.out.at_ 6 (.slice ro C.length rc) rfl).1
      have x17 := (Xc.out.at_ 7 (.int .i64 mem) rfl).1
      have x18 := (Xc.out.at_ 8 (.int .i64 last) rfl).1
      go_wp2_with fail
      refine (live_yes _).mono ?_
      clear x10 x11 x12 x13 x14 x15 x16 x17 x18
      rintro e w2 ⟨rfl, hb⟩
      replace Xc := Lib.hid (Xc.out.below hb Xc.out.lt)
      replace TL := Lib.hid (TL.out.mono hb)
      replace SC := Lib.hid (SC.out.mono hb)
      replace HB := Lib.hid (HB.out.trans (hb.mono HB.out.size))
      clear hb
      go_wp2_with fail
      go_ret
      exact ⟨rfl, HB.out⟩
    · by_cases hk : kind = 1 ∨ kind = 5 ∨ kind = 6
      · rcases hk with rfl | rfl | rfl
        · have x1 := (Xc.out.at_ 0 (.bool ex) rfl).1
          have x2 := (Xc.out.at_ 1 (.int .i64 at') rfl).1
          have x3 := (Xc.out.at_ 2 (.slice vo L.length vc) rfl).1
          have x4 := (Xc.out.at_ 3 (.bool true) rfl).1
          have x5 := (Xc.out.at_ 4 (.int .i64 1) rfl).1
          have x6 := (Xc.out.at_ 5 (.string g) rfl).1
          have x7 := (Xc.out.at_ 6 (.slice ro C.length rc) rfl).1
          have x8 := (Xc.out.at_ 7 (.int .i64 mem) rfl).1
          have x9 := (Xc.out.at_ 8 (.int .i64 last) rfl).1
          have hf := Lib.hid hf0; clear hf0
          have HC := Lib.hid (few_yes ex at' _ L 1 g _ C _ TL.out SC.out hf.out)
          go_wp2_with fail
          refine HC.out.mono ?_
          clear HC
          clear x1 x2 x3 x4 x5 x6 x7 x8 x9
          rintro e w1 ⟨rfl, hb⟩
          replace Xc := Lib.hid (Xc.out.below hb Xc.out.lt)
          replace TL := Lib.hid (TL.out.mono hb)
          replace SC := Lib.hid (SC.out.mono hb)
          replace HB := Lib.hid (HB.out.trans (hb.mono HB.out.size))
          clear hb
          cases hw : padm ex at' L now a
          · have HWD := Lib.hid hw
            have HC := admits_any ex at' _ L now a ha _ TL.out
            rw [hw] at HC
            replace HC := Lib.hid HC; clear hw
            have x10 := (Xc.out.at_ 0 (.bool ex) rfl).1
            have x11 := (Xc.out.at_ 1 (.int .i64 at') rfl).1
            have x12 := (Xc.out.at_ 2 (.slice vo L.length vc) rfl).1
            have x13 := (Xc.out.at_ 3 (.bool true) rfl).1
            have x14 := (Xc.out.at_ 4 (.int .i64 1) rfl).1
            have x15 := (Xc.out.at_ 5 (.string g) rfl).1
            have x16 := (Xc.out.at_ 6 (.slice ro C.length rc) rfl).1
            have x17 := (Xc.out.at_ 7 (.int .i64 mem) rfl).1
            have x18 := (Xc.out.at_ 8 (.int .i64 last) rfl).1
            go_wp2_with fail
            refine HC.out.mono ?_
            clear HC
            clear x10 x11 x12 x13 x14 x15 x16 x17 x18
            rintro e w2 ⟨rfl, hb⟩
            replace Xc := Lib.hid (Xc.out.below hb Xc.out.lt)
            replace TL := Lib.hid (TL.out.mono hb)
            replace SC := Lib.hid (SC.out.mono hb)
            replace HB := Lib.hid (HB.out.trans (hb.mono HB.out.size))
            clear hb
            have x19 := (Xc.out.at_ 0 (.bool ex) rfl).1
            have x20 := (Xc.out.at_ 1 (.int .i64 at') rfl).1
            have x21 := (Xc.out.at_ 2 (.slice vo L.length vc) rfl).1
            have x22 := (Xc.out.at_ 3 (.bool true) rfl).1
            have x23 := (Xc.out.at_ 4 (.int .i64 1) rfl).1
            have x24 := (Xc.out.at_ 5 (.string g) rfl).1
            have x25 := (Xc.out.at_ 6 (.slice ro C.length rc) rfl).1
            have x26 := (Xc.out.at_ 7 (.int .i64 mem) rfl).1
            have x27 := (Xc.out.at_ 8 (.int .i64 last) rfl).1
            have HC := Lib.hid (apply_any ex at' _ L true 1 g _ C now mem last _ TL.out SC.out wa)
            go_wp2_with fail
            refine HC.out.mono ?_
            clear HC
            clear x19 x20 x21 x22 x23 x24 x25 x26 x27
            rintro e w3 ⟨hb, hres⟩
            replace Xc := Lib.hid (Xc.out.below hb Xc.out.lt)
            replace TL := Lib.hid (TL.out.mono hb)
            replace SC := Lib.hid (SC.out.mono hb)
            replace HB := Lib.hid (HB.out.trans (hb.mono HB.out.size))
            clear hb
            simp only [Bool.true_and, if_true] at hres
            obtain ⟨code, hcode⟩ : ∃ code, code = verdict (pcheck ex at' L) 1 C.length now mem last := ⟨_, rfl⟩
            rw [← hcode] at hres
            rcases hres with ⟨hv, rfl⟩ | ⟨hv, K, hK, ⟨h60, rfl⟩ | ⟨h60, hno, rfl⟩ | ⟨h60, hyes, v1, L1, u1, R1, rfl, hT1, hU1, hR1, hA1, hl1, hl2⟩⟩
            · have hcb : (code != 0) = true := by simpa using hv
              have hcc : (code == 0) = false := by simpa using hv
              clear hcode hv
              simp only [noState, noAsk]
              have hba : Below w3.heap.size w3 ((w3.alloc (.cells #[.bool false, .int .i64 0, .slice none 0 0] 24)).alloc (.cells #[.bool false, .slice none 0 0] 44)) := (((Below.refl _ _).alloc (Nat.le_refl _) _).alloc (by simp <;> omega) _)
              replace Xc := Lib.hid (Xc.out.below hba Xc.out.lt)
              replace TL := Lib.hid (TL.out.mono hba)
              replace SC := Lib.hid (SC.out.mono hba)
              replace HB := Lib.hid (HB.out.trans (hba.mono HB.out.size))
              have Xs := Lib.hid (show CBox ((w3.alloc (.cells #[.bool false, .int .i64 0, .slice none 0 0] 24)).alloc (.cells #[.bool false, .slice none 0 0] 44)) (w3.heap.size) 24 #[.bool false, .int .i64 0, .slice none 0 0] from ((CBox.new _ (by simp)).old _))
              have Xk := Lib.hid (show CBox ((w3.alloc (.cells #[.bool false, .int .i64 0, .slice none 0 0] 24)).alloc (.cells #[.bool false, .slice none 0 0] 44)) (w3.heap.size + 1) 44 #[.bool false, .slice none 0 0] from (CBox.new _ (by simp)))
              clear hba
              go_wp2_with fail
              refine (live_yes _).mono ?_
              rintro e w4 ⟨rfl, hb⟩
              replace Xc := Lib.hid (Xc.out.below hb Xc.out.lt)
              replace Xs := Lib.hid (Xs.out.below hb Xs.out.lt)
              replace Xk := Lib.hid (Xk.out.below hb Xk.out.lt)
              replace TL := Lib.hid (TL.out.mono hb)
              replace SC := Lib.hid (SC.out.mono hb)
              replace HB := Lib.hid (HB.out.trans (hb.mono HB.out.size))
              clear hb
              go_wp2_with fail
              go_ret
              exact ⟨rfl, HB.out⟩
            · clear hcode hv hK h60
              simp only [noState, noAsk]
              have hba : Below w3.heap.size w3 ((w3.alloc (.cells #[.bool false, .int .i64 0, .slice none 0 0] 24)).alloc (.cells #[.bool false, .slice none 0 0] 44)) := (((Below.refl _ _).alloc (Nat.le_refl _) _).alloc (by simp <;> omega) _)
              replace Xc := Lib.hid (Xc.out.below hba Xc.out.lt)
              replace TL := Lib.hid (TL.out.mono hba)
              replace SC := Lib.hid (SC.out.mono hba)
              replace HB := Lib.hid (HB.out.trans (hba.mono HB.out.size))
              have Xs := Lib.hid (show CBox ((w3.alloc (.cells #[.bool false, .int .i64 0, .slice none 0 0] 24)).alloc (.cells #[.bool false, .slice none 0 0] 44)) (w3.heap.size) 24 #[.bool false, .int .i64 0, .slice none 0 0] from ((CBox.new _ (by simp)).old _))
              have Xk := Lib.hid (show CBox ((w3.alloc (.cells #[.bool false, .int .i64 0, .slice none 0 0] 24)).alloc (.cells #[.bool false, .slice none 0 0] 44)) (w3.heap.size + 1) 44 #[.bool false, .slice none 0 0] from (CBox.new _ (by simp)))
              clear hba
              go_wp2_with fail
              refine (live_yes _).mono ?_
              rintro e w4 ⟨rfl, hb⟩
              replace Xc := Lib.hid (Xc.out.below hb Xc.out.lt)
              replace Xs := Lib.hid (Xs.out.below hb Xs.out.lt)
              replace Xk := Lib.hid (Xk.out.below hb Xk.out.lt)
              replace TL := Lib.hid (TL.out.mono hb)
              replace SC := Lib.hid (SC.out.mono hb)
              replace HB := Lib.hid (HB.out.trans (hb.mono HB.out.size))
              clear hb
              go_wp2_with fail
              go_ret
              exact ⟨rfl, HB.out⟩
            · have HV0 := Lib.hid (hcode.symm.trans hv); have HKK := Lib.hid hK; have HNO := Lib.hid hno; clear hcode hv hK h60 hno
              simp only [noState, noAsk]
              have hba : Below w3.heap.size w3 ((w3.alloc (.cells #[.bool false, .int .i64 0, .slice none 0 0] 24)).alloc (.cells #[.bool false, .slice none 0 0] 44)) := (((Below.refl _ _).alloc (Nat.le_refl _) _).alloc (by simp <;> omega) _)
              replace Xc := Lib.hid (Xc.out.below hba Xc.out.lt)
              replace TL := Lib.hid (TL.out.mono hba)
              replace SC := Lib.hid (SC.out.mono hba)
              replace HB := Lib.hid (HB.out.trans (hba.mono HB.out.size))
              have Xs := Lib.hid (show CBox ((w3.alloc (.cells #[.bool false, .int .i64 0, .slice none 0 0] 24)).alloc (.cells #[.bool false, .slice none 0 0] 44)) (w3.heap.size) 24 #[.bool false, .int .i64 0, .slice none 0 0] from ((CBox.new _ (by simp)).old _))
              have Xk := Lib.hid (show CBox ((w3.alloc (.cells #[.bool false, .int .i64 0, .slice none 0 0] 24)).alloc (.cells #[.bool false, .slice none 0 0] 44)) (w3.heap.size + 1) 44 #[.bool false, .slice none 0 0] from (CBox.new _ (by simp)))
              clear hba
              go_wp2_with fail
              refine (live_yes _).mono ?_
              rintro e w4 ⟨rfl, hb⟩
              replace Xc := Lib.hid (Xc.out.below hb Xc.out.lt)
              replace Xs := Lib.hid (Xs.out.below hb Xs.out.lt)
              replace Xk := Lib.hid (Xk.out.below hb Xk.out.lt)
              replace TL := Lib.hid (TL.out.mono hb)
              replace SC := Lib.hid (SC.out.mono hb)
              replace HB := Lib.hid (HB.out.trans (hb.mono HB.out.size))
              clear hb
              go_wp2_with fail
              go_ret
              exact ⟨rfl, HB.out⟩
            · have hv' := hcode.symm.trans hv
              have hpc := app_check hv' hK h60 hA1
              obtain ⟨v1o, v1c, rfl⟩ := hT1.shape
              obtain ⟨u1o, u1c, rfl⟩ := hU1.shape
              have HV0 := Lib.hid hv'; have HKK := Lib.hid hK; have HAS := Lib.hid hA1; have HRR := Lib.hid hR1; have HYES := Lib.hid hyes; have H60 := Lib.hid h60
              clear hcode hv hv' hK hA1 hR1 hyes hl1 hl2 h60
              obtain ⟨a1, ha1⟩ : ∃ a1, (if inG 1 ex = true then min (inAt 1 at' (now + mem)) (now + last) else inAt 1 at' (now + mem)) = a1 := ⟨_, rfl⟩
              obtain ⟨e1, he1⟩ : ∃ e1, inEx 1 ex = e1 := ⟨_, rfl⟩
              obtain ⟨g1, hg1⟩ : ∃ g1, inG 1 ex = g1 := ⟨_, rfl⟩
              rw [ha1, he1] at hpc
              simp only [ha1]
              simp only [he1, hg1]
              have HE1 := Lib.hid he1; have HA1 := Lib.hid ha1; have HG1 := Lib.hid hg1
              have T1 := Lib.hid hT1; have S1 := Lib.hid hU1
              clear hT1 hU1 ha1 he1 hg1
              have hba : Below w3.heap.size w3 ((w3.alloc (.cells #[.bool e1, .int .i64 a1, .slice v1o L1.length v1c] 24)).alloc (.cells #[.bool g1, .slice u1o R1.length u1c] 44)) := (((Below.refl _ _).alloc (Nat.le_refl _) _).alloc (by simp <;> omega) _)
              replace Xc := Lib.hid (Xc.out.below hba Xc.out.lt)
              replace TL := Lib.hid (TL.out.mono hba)
              replace T1 := Lib.hid (T1.out.mono hba)
              replace SC := Lib.hid (SC.out.mono hba)
              replace S1 := Lib.hid (S1.out.mono hba)
              replace HB := Lib.hid (HB.out.trans (hba.mono HB.out.size))
              have Xs := Lib.hid (show CBox ((w3.alloc (.cells #[.bool e1, .int .i64 a1, .slice v1o L1.length v1c] 24)).alloc (.cells #[.bool g1, .slice u1o R1.length u1c] 44)) (w3.heap.size) 24 #[.bool e1, .int .i64 a1, .slice v1o L1.length v1c] from ((CBox.new _ (by simp)).old _))
              have Xk := Lib.hid (show CBox ((w3.alloc (.cells #[.bool e1, .int .i64 a1, .slice v1o L1.length v1c] 24)).alloc (.cells #[.bool g1, .slice u1o R1.length u1c] 44)) (w3.heap.size + 1) 44 #[.bool g1, .slice u1o R1.length u1c] from (CBox.new _ (by simp)))
              clear hba
              go_wp2_with fail
              refine (live_yes _).mono ?_
              rintro e w4 ⟨rfl, hb⟩
              replace Xc := Lib.hid (Xc.out.below hb Xc.out.lt)
              replace Xs := Lib.hid (Xs.out.below hb Xs.out.lt)
              replace Xk := Lib.hid (Xk.out.below hb Xk.out.lt)
              replace TL := Lib.hid (TL.out.mono hb)
              replace T1 := Lib.hid (T1.out.mono hb)
              replace SC := Lib.hid (SC.out.mono hb)
              replace S1 := Lib.hid (S1.out.mono hb)
              replace HB := Lib.hid (HB.out.trans (hb.mono HB.out.size))
              clear hb
              go_wp2_with fail
              go_ret
              exact ⟨rfl, HB.out⟩
          · have HWD := Lib.hid hw
            have HC := admits_any ex at' _ L now a ha _ TL.out
            rw [hw] at HC
            replace HC := Lib.hid HC; clear hw
            have x10 := (Xc.out.at_ 0 (.bool ex) rfl).1
            have x11 := (Xc.out.at_ 1 (.int .i64 at') rfl).1
            have x12 := (Xc.out.at_ 2 (.slice vo L.length vc) rfl).1
            have x13 := (Xc.out.at_ 3 (.bool true) rfl).1
            have x14 := (Xc.out.at_ 4 (.int .i64 1) rfl).1
            have x15 := (Xc.out.at_ 5 (.string g) rfl).1
            have x16 := (Xc.out.at_ 6 (.slice ro C.length rc) rfl).1
            have x17 := (Xc.out.at_ 7 (.int .i64 mem) rfl).1
            have x18 := (Xc.out.at_ 8 (.int .i64 last) rfl).1
            go_wp2_with fail
            refine HC.out.mono ?_
            clear HC
            clear x10 x11 x12 x13 x14 x15 x16 x17 x18
            rintro e w2 ⟨rfl, hb⟩
            replace Xc := Lib.hid (Xc.out.below hb Xc.out.lt)
            replace TL := Lib.hid (TL.out.mono hb)
            replace SC := Lib.hid (SC.out.mono hb)
            replace HB := Lib.hid (HB.out.trans (hb.mono HB.out.size))
            clear hb
            have x19 := (Xc.out.at_ 0 (.bool ex) rfl).1
            have x20 := (Xc.out.at_ 1 (.int .i64 at') rfl).1
            have x21 := (Xc.out.at_ 2 (.slice vo L.length vc) rfl).1
            have x22 := (Xc.out.at_ 3 (.bool true) rfl).1
            have x23 := (Xc.out.at_ 4 (.int .i64 1) rfl).1
            have x24 := (Xc.out.at_ 5 (.string g) rfl).1
            have x25 := (Xc.out.at_ 6 (.slice ro C.length rc) rfl).1
            have x26 := (Xc.out.at_ 7 (.int .i64 mem) rfl).1
            have x27 := (Xc.out.at_ 8 (.int .i64 last) rfl).1
            have HC := Lib.hid (apply_any ex at' _ L true 1 g _ C now mem last _ TL.out SC.out wa)
            go_wp2_with fail
            refine HC.out.mono ?_
            clear HC
            clear x19 x20 x21 x22 x23 x24 x25 x26 x27
            rintro e w3 ⟨hb, hres⟩
            replace Xc := Lib.hid (Xc.out.below hb Xc.out.lt)
            replace TL := Lib.hid (TL.out.mono hb)
            replace SC := Lib.hid (SC.out.mono hb)
            replace HB := Lib.hid (HB.out.trans (hb.mono HB.out.size))
            clear hb
            simp only [Bool.true_and, if_true] at hres
            obtain ⟨code, hcode⟩ : ∃ code, code = verdict (pcheck ex at' L) 1 C.length now mem last := ⟨_, rfl⟩
            rw [← hcode] at hres
            rcases hres with ⟨hv, rfl⟩ | ⟨hv, K, hK, ⟨h60, rfl⟩ | ⟨h60, hno, rfl⟩ | ⟨h60, hyes, v1, L1, u1, R1, rfl, hT1, hU1, hR1, hA1, hl1, hl2⟩⟩
            · have hcb : (code != 0) = true := by simpa using hv
              have hcc : (code == 0) = false := by simpa using hv
              clear hcode hv
              simp only [noState, noAsk]
              have hba : Below w3.heap.size w3 ((w3.alloc (.cells #[.bool false, .int .i64 0, .slice none 0 0] 24)).alloc (.cells #[.bool false, .slice none 0 0] 44)) := (((Below.refl _ _).alloc (Nat.le_refl _) _).alloc (by simp <;> omega) _)
              replace Xc := Lib.hid (Xc.out.below hba Xc.out.lt)
              replace TL := Lib.hid (TL.out.mono hba)
              replace SC := Lib.hid (SC.out.mono hba)
              replace HB := Lib.hid (HB.out.trans (hba.mono HB.out.size))
              have Xs := Lib.hid (show CBox ((w3.alloc (.cells #[.bool false, .int .i64 0, .slice none 0 0] 24)).alloc (.cells #[.bool false, .slice none 0 0] 44)) (w3.heap.size) 24 #[.bool false, .int .i64 0, .slice none 0 0] from ((CBox.new _ (by simp)).old _))
              have Xk := Lib.hid (show CBox ((w3.alloc (.cells #[.bool false, .int .i64 0, .slice none 0 0] 24)).alloc (.cells #[.bool false, .slice none 0 0] 44)) (w3.heap.size + 1) 44 #[.bool false, .slice none 0 0] from (CBox.new _ (by simp)))
              clear hba
              go_wp2_with fail
              refine (live_yes _).mono ?_
              rintro e w4 ⟨rfl, hb⟩
              replace Xc := Lib.hid (Xc.out.below hb Xc.out.lt)
              replace Xs := Lib.hid (Xs.out.below hb Xs.out.lt)
              replace Xk := Lib.hid (Xk.out.below hb Xk.out.lt)
              replace TL := Lib.hid (TL.out.mono hb)
              replace SC := Lib.hid (SC.out.mono hb)
              replace HB := Lib.hid (HB.out.trans (hb.mono HB.out.size))
              clear hb
              go_wp2_with fail
              go_ret
              exact ⟨rfl, HB.out⟩
            · clear hcode hv hK h60
              simp only [noState, noAsk]
              have hba : Below w3.heap.size w3 ((w3.alloc (.cells #[.bool false, .int .i64 0, .slice none 0 0] 24)).alloc (.cells #[.bool false, .slice none 0 0] 44)) := (((Below.refl _ _).alloc (Nat.le_refl _) _).alloc (by simp <;> omega) _)
              replace Xc := Lib.hid (Xc.out.below hba Xc.out.lt)
              replace TL := Lib.hid (TL.out.mono hba)
              replace SC := Lib.hid (SC.out.mono hba)
              replace HB := Lib.hid (HB.out.trans (hba.mono HB.out.size))
              have Xs := Lib.hid (show CBox ((w3.alloc (.cells #[.bool false, .int .i64 0, .slice none 0 0] 24)).alloc (.cells #[.bool false, .slice none 0 0] 44)) (w3.heap.size) 24 #[.bool false, .int .i64 0, .slice none 0 0] from ((CBox.new _ (by simp)).old _))
              have Xk := Lib.hid (show CBox ((w3.alloc (.cells #[.bool false, .int .i64 0, .slice none 0 0] 24)).alloc (.cells #[.bool false, .slice none 0 0] 44)) (w3.heap.size + 1) 44 #[.bool false, .slice none 0 0] from (CBox.new _ (by simp)))
              clear hba
              go_wp2_with fail
              refine (live_yes _).mono ?_
              rintro e w4 ⟨rfl, hb⟩
              replace Xc := Lib.hid (Xc.out.below hb Xc.out.lt)
              replace Xs := Lib.hid (Xs.out.below hb Xs.out.lt)
              replace Xk := Lib.hid (Xk.out.below hb Xk.out.lt)
              replace TL := Lib.hid (TL.out.mono hb)
              replace SC := Lib.hid (SC.out.mono hb)
              replace HB := Lib.hid (HB.out.trans (hb.mono HB.out.size))
              clear hb
              go_wp2_with fail
              go_ret
              exact ⟨rfl, HB.out⟩
            · have HV0 := Lib.hid (hcode.symm.trans hv); have HKK := Lib.hid hK; have HNO := Lib.hid hno; clear hcode hv hK h60 hno
              exact absurd HNO.out (stays_law HV0.out (by simp) HWD.out HKK.out).1
            · have hv' := hcode.symm.trans hv
              have hpc := app_check hv' hK h60 hA1
              obtain ⟨v1o, v1c, rfl⟩ := hT1.shape
              obtain ⟨u1o, u1c, rfl⟩ := hU1.shape
              have HV0 := Lib.hid hv'; have HKK := Lib.hid hK; have HAS := Lib.hid hA1; have HRR := Lib.hid hR1; have HYES := Lib.hid hyes; have H60 := Lib.hid h60
              clear hcode hv hv' hK hA1 hR1 hyes hl1 hl2 h60
              have HP1 := ((stays_law HV0.out (by simp) HWD.out HKK.out).2 R1 L1 HRR.out HAS.out hpc)
              have hR6 := Lib.hid HP1.2
              replace HP1 := HP1.1
              obtain ⟨a1, ha1⟩ : ∃ a1, (if inG 1 ex = true then min (inAt 1 at' (now + mem)) (now + last) else inAt 1 at' (now + mem)) = a1 := ⟨_, rfl⟩
              obtain ⟨e1, he1⟩ : ∃ e1, inEx 1 ex = e1 := ⟨_, rfl⟩
              obtain ⟨g1, hg1⟩ : ∃ g1, inG 1 ex = g1 := ⟨_, rfl⟩
              rw [ha1, he1] at hpc
              simp only [ha1]
              simp only [he1, hg1]
              rw [ha1, he1] at HP1
              replace HP1 := Lib.hid HP1
              have HPC := Lib.hid hpc; clear hpc
              have HE1 := Lib.hid he1; have HA1 := Lib.hid ha1; have HG1 := Lib.hid hg1
              have T1 := Lib.hid hT1; have S1 := Lib.hid hU1
              clear hT1 hU1 ha1 he1 hg1
              have hba : Below w3.heap.size w3 ((w3.alloc (.cells #[.bool e1, .int .i64 a1, .slice v1o L1.length v1c] 24)).alloc (.cells #[.bool g1, .slice u1o R1.length u1c] 44)) := (((Below.refl _ _).alloc (Nat.le_refl _) _).alloc (by simp <;> omega) _)
              replace Xc := Lib.hid (Xc.out.below hba Xc.out.lt)
              replace TL := Lib.hid (TL.out.mono hba)
              replace T1 := Lib.hid (T1.out.mono hba)
              replace SC := Lib.hid (SC.out.mono hba)
              replace S1 := Lib.hid (S1.out.mono hba)
              replace HB := Lib.hid (HB.out.trans (hba.mono HB.out.size))
              have Xs := Lib.hid (show CBox ((w3.alloc (.cells #[.bool e1, .int .i64 a1, .slice v1o L1.length v1c] 24)).alloc (.cells #[.bool g1, .slice u1o R1.length u1c] 44)) (w3.heap.size) 24 #[.bool e1, .int .i64 a1, .slice v1o L1.length v1c] from ((CBox.new _ (by simp)).old _))
              have Xk := Lib.hid (show CBox ((w3.alloc (.cells #[.bool e1, .int .i64 a1, .slice v1o L1.length v1c] 24)).alloc (.cells #[.bool g1, .slice u1o R1.length u1c] 44)) (w3.heap.size + 1) 44 #[.bool g1, .slice u1o R1.length u1c] from (CBox.new _ (by simp)))
              clear hba
              cases hn : R1.contains a
              · have x28 := (Xk.out.at_ 0 (.bool g1) rfl).1
                have x29 := (Xk.out.at_ 1 (.slice u1o R1.length u1c) rfl).1
                have HC := shas_any _ R1 a _ S1.out
                rw [hn] at HC
                replace HC := Lib.hid HC
                clear hn
                go_wp2_with fail
                refine HC.out.mono ?_
                clear HC
                rintro e w' ⟨rfl, rfl⟩
                have x30 := (Xs.out.at_ 0 (.bool e1) rfl).1
                have x31 := (Xs.out.at_ 1 (.int .i64 a1) rfl).1
                have x32 := (Xs.out.at_ 2 (.slice v1o L1.length v1c) rfl).1
                have HC := Lib.hid (admits_ok e1 a1 _ L1 now a ha _ T1.out HP1.out)
                go_wp2_with fail
                refine HC.out.mono ?_
                clear HC
                clear x28 x29 x30 x31 x32
                rintro e w4 ⟨rfl, hb⟩
                replace Xc := Lib.hid (Xc.out.below hb Xc.out.lt)
                replace Xs := Lib.hid (Xs.out.below hb Xs.out.lt)
                replace Xk := Lib.hid (Xk.out.below hb Xk.out.lt)
                replace TL := Lib.hid (TL.out.mono hb)
                replace T1 := Lib.hid (T1.out.mono hb)
                replace SC := Lib.hid (SC.out.mono hb)
                replace S1 := Lib.hid (S1.out.mono hb)
                replace HB := Lib.hid (HB.out.trans (hb.mono HB.out.size))
                clear hb
                go_wp2_with fail
                refine (live_yes _).mono ?_
                rintro e w5 ⟨rfl, hb⟩
                replace Xc := Lib.hid (Xc.out.below hb Xc.out.lt)
                replace Xs := Lib.hid (Xs.out.below hb Xs.out.lt)
                replace Xk := Lib.hid (Xk.out.below hb Xk.out.lt)
                replace TL := Lib.hid (TL.out.mono hb)
                replace T1 := Lib.hid (T1.out.mono hb)
                replace SC := Lib.hid (SC.out.mono hb)
                replace S1 := Lib.hid (S1.out.mono hb)
                replace HB := Lib.hid (HB.out.trans (hb.mono HB.out.size))
                clear hb
                go_wp2_with fail
                go_ret
                exact ⟨rfl, HB.out⟩
              · exfalso
                have := hR6.out (by decide)
                rw [this] at hn; simp at hn
        · have x1 := (Xc.out.at_ 0 (.bool ex) rfl).1
          have x2 := (Xc.out.at_ 1 (.int .i64 at') rfl).1
          have x3 := (Xc.out.at_ 2 (.slice vo L.length vc) rfl).1
          have x4 := (Xc.out.at_ 3 (.bool true) rfl).1
          have x5 := (Xc.out.at_ 4 (.int .i64 5) rfl).1
          have x6 := (Xc.out.at_ 5 (.string g) rfl).1
          have x7 := (Xc.out.at_ 6 (.slice ro C.length rc) rfl).1
          have x8 := (Xc.out.at_ 7 (.int .i64 mem) rfl).1
          have x9 := (Xc.out.at_ 8 (.int .i64 last) rfl).1
          have hf := Lib.hid hf0; clear hf0
          have HC := Lib.hid (few_yes ex at' _ L 5 g _ C _ TL.out SC.out hf.out)
          go_wp2_with fail
          refine HC.out.mono ?_
          clear HC
          clear x1 x2 x3 x4 x5 x6 x7 x8 x9
          rintro e w1 ⟨rfl, hb⟩
          replace Xc := Lib.hid (Xc.out.below hb Xc.out.lt)
          replace TL := Lib.hid (TL.out.mono hb)
          replace SC := Lib.hid (SC.out.mono hb)
          replace HB := Lib.hid (HB.out.trans (hb.mono HB.out.size))
          clear hb
          cases hw : padm ex at' L now a
          · have HWD := Lib.hid hw
            have HC := admits_any ex at' _ L now a ha _ TL.out
            rw [hw] at HC
            replace HC := Lib.hid HC; clear hw
            have x10 := (Xc.out.at_ 0 (.bool ex) rfl).1
            have x11 := (Xc.out.at_ 1 (.int .i64 at') rfl).1
            have x12 := (Xc.out.at_ 2 (.slice vo L.length vc) rfl).1
            have x13 := (Xc.out.at_ 3 (.bool true) rfl).1
            have x14 := (Xc.out.at_ 4 (.int .i64 5) rfl).1
            have x15 := (Xc.out.at_ 5 (.string g) rfl).1
            have x16 := (Xc.out.at_ 6 (.slice ro C.length rc) rfl).1
            have x17 := (Xc.out.at_ 7 (.int .i64 mem) rfl).1
            have x18 := (Xc.out.at_ 8 (.int .i64 last) rfl).1
            go_wp2_with fail
            refine HC.out.mono ?_
            clear HC
            clear x10 x11 x12 x13 x14 x15 x16 x17 x18
            rintro e w2 ⟨rfl, hb⟩
            replace Xc := Lib.hid (Xc.out.below hb Xc.out.lt)
            replace TL := Lib.hid (TL.out.mono hb)
            replace SC := Lib.hid (SC.out.mono hb)
            replace HB := Lib.hid (HB.out.trans (hb.mono HB.out.size))
            clear hb
            have x19 := (Xc.out.at_ 0 (.bool ex) rfl).1
            have x20 := (Xc.out.at_ 1 (.int .i64 at') rfl).1
            have x21 := (Xc.out.at_ 2 (.slice vo L.length vc) rfl).1
            have x22 := (Xc.out.at_ 3 (.bool true) rfl).1
            have x23 := (Xc.out.at_ 4 (.int .i64 5) rfl).1
            have x24 := (Xc.out.at_ 5 (.string g) rfl).1
            have x25 := (Xc.out.at_ 6 (.slice ro C.length rc) rfl).1
            have x26 := (Xc.out.at_ 7 (.int .i64 mem) rfl).1
            have x27 := (Xc.out.at_ 8 (.int .i64 last) rfl).1
            have HC := Lib.hid (apply_any ex at' _ L true 5 g _ C now mem last _ TL.out SC.out wa)
            go_wp2_with fail
            refine HC.out.mono ?_
            clear HC
            clear x19 x20 x21 x22 x23 x24 x25 x26 x27
            rintro e w3 ⟨hb, hres⟩
            replace Xc := Lib.hid (Xc.out.below hb Xc.out.lt)
            replace TL := Lib.hid (TL.out.mono hb)
            replace SC := Lib.hid (SC.out.mono hb)
            replace HB := Lib.hid (HB.out.trans (hb.mono HB.out.size))
            clear hb
            simp only [Bool.true_and, if_true] at hres
            obtain ⟨code, hcode⟩ : ∃ code, code = verdict (pcheck ex at' L) 5 C.length now mem last := ⟨_, rfl⟩
            rw [← hcode] at hres
            rcases hres with ⟨hv, rfl⟩ | ⟨hv, K, hK, ⟨h60, rfl⟩ | ⟨h60, hno, rfl⟩ | ⟨h60, hyes, v1, L1, u1, R1, rfl, hT1, hU1, hR1, hA1, hl1, hl2⟩⟩
            · have hcb : (code != 0) = true := by simpa using hv
              have hcc : (code == 0) = false := by simpa using hv
              clear hcode hv
              simp only [noState, noAsk]
              have hba : Below w3.heap.size w3 ((w3.alloc (.cells #[.bool false, .int .i64 0, .slice none 0 0] 24)).alloc (.cells #[.bool false, .slice none 0 0] 44)) := (((Below.refl _ _).alloc (Nat.le_refl _) _).alloc (by simp <;> omega) _)
              replace Xc := Lib.hid (Xc.out.below hba Xc.out.lt)
              replace TL := Lib.hid (TL.out.mono hba)
              replace SC := Lib.hid (SC.out.mono hba)
              replace HB := Lib.hid (HB.out.trans (hba.mono HB.out.size))
              have Xs := Lib.hid (show CBox ((w3.alloc (.cells #[.bool false, .int .i64 0, .slice none 0 0] 24)).alloc (.cells #[.bool false, .slice none 0 0] 44)) (w3.heap.size) 24 #[.bool false, .int .i64 0, .slice none 0 0] from ((CBox.new _ (by simp)).old _))
              have Xk := Lib.hid (show CBox ((w3.alloc (.cells #[.bool false, .int .i64 0, .slice none 0 0] 24)).alloc (.cells #[.bool false, .slice none 0 0] 44)) (w3.heap.size + 1) 44 #[.bool false, .slice none 0 0] from (CBox.new _ (by simp)))
              clear hba
              go_wp2_with fail
              refine (live_yes _).mono ?_
              rintro e w4 ⟨rfl, hb⟩
              replace Xc := Lib.hid (Xc.out.below hb Xc.out.lt)
              replace Xs := Lib.hid (Xs.out.below hb Xs.out.lt)
              replace Xk := Lib.hid (Xk.out.below hb Xk.out.lt)
              replace TL := Lib.hid (TL.out.mono hb)
              replace SC := Lib.hid (SC.out.mono hb)
              replace HB := Lib.hid (HB.out.trans (hb.mono HB.out.size))
              clear hb
              go_wp2_with fail
              go_ret
              exact ⟨rfl, HB.out⟩
            · clear hcode hv hK h60
              simp only [noState, noAsk]
              have hba : Below w3.heap.size w3 ((w3.alloc (.cells #[.bool false, .int .i64 0, .slice none 0 0] 24)).alloc (.cells #[.bool false, .slice none 0 0] 44)) := (((Below.refl _ _).alloc (Nat.le_refl _) _).alloc (by simp <;> omega) _)
              replace Xc := Lib.hid (Xc.out.below hba Xc.out.lt)
              replace TL := Lib.hid (TL.out.mono hba)
              replace SC := Lib.hid (SC.out.mono hba)
              replace HB := Lib.hid (HB.out.trans (hba.mono HB.out.size))
              have Xs := Lib.hid (show CBox ((w3.alloc (.cells #[.bool false, .int .i64 0, .slice none 0 0] 24)).alloc (.cells #[.bool false, .slice none 0 0] 44)) (w3.heap.size) 24 #[.bool false, .int .i64 0, .slice none 0 0] from ((CBox.new _ (by simp)).old _))
              have Xk := Lib.hid (show CBox ((w3.alloc (.cells #[.bool false, .int .i64 0, .slice none 0 0] 24)).alloc (.cells #[.bool false, .slice none 0 0] 44)) (w3.heap.size + 1) 44 #[.bool false, .slice none 0 0] from (CBox.new _ (by simp)))
              clear hba
              go_wp2_with fail
              refine (live_yes _).mono ?_
              rintro e w4 ⟨rfl, hb⟩
              replace Xc := Lib.hid (Xc.out.below hb Xc.out.lt)
              replace Xs := Lib.hid (Xs.out.below hb Xs.out.lt)
              replace Xk := Lib.hid (Xk.out.below hb Xk.out.lt)
              replace TL := Lib.hid (TL.out.mono hb)
              replace SC := Lib.hid (SC.out.mono hb)
              replace HB := Lib.hid (HB.out.trans (hb.mono HB.out.size))
              clear hb
              go_wp2_with fail
              go_ret
              exact ⟨rfl, HB.out⟩
            · have HV0 := Lib.hid (hcode.symm.trans hv); have HKK := Lib.hid hK; have HNO := Lib.hid hno; clear hcode hv hK h60 hno
              simp only [noState, noAsk]
              have hba : Below w3.heap.size w3 ((w3.alloc (.cells #[.bool false, .int .i64 0, .slice none 0 0] 24)).alloc (.cells #[.bool false, .slice none 0 0] 44)) := (((Below.refl _ _).alloc (Nat.le_refl _) _).alloc (by simp <;> omega) _)
              replace Xc := Lib.hid (Xc.out.below hba Xc.out.lt)
              replace TL := Lib.hid (TL.out.mono hba)
              replace SC := Lib.hid (SC.out.mono hba)
              replace HB := Lib.hid (HB.out.trans (hba.mono HB.out.size))
              have Xs := Lib.hid (show CBox ((w3.alloc (.cells #[.bool false, .int .i64 0, .slice none 0 0] 24)).alloc (.cells #[.bool false, .slice none 0 0] 44)) (w3.heap.size) 24 #[.bool false, .int .i64 0, .slice none 0 0] from ((CBox.new _ (by simp)).old _))
              have Xk := Lib.hid (show CBox ((w3.alloc (.cells #[.bool false, .int .i64 0, .slice none 0 0] 24)).alloc (.cells #[.bool false, .slice none 0 0] 44)) (w3.heap.size + 1) 44 #[.bool false, .slice none 0 0] from (CBox.new _ (by simp)))
              clear hba
              go_wp2_with fail
              refine (live_yes _).mono ?_
              rintro e w4 ⟨rfl, hb⟩
              replace Xc := Lib.hid (Xc.out.below hb Xc.out.lt)
              replace Xs := Lib.hid (Xs.out.below hb Xs.out.lt)
              replace Xk := Lib.hid (Xk.out.below hb Xk.out.lt)
              replace TL := Lib.hid (TL.out.mono hb)
              replace SC := Lib.hid (SC.out.mono hb)
              replace HB := Lib.hid (HB.out.trans (hb.mono HB.out.size))
              clear hb
              go_wp2_with fail
              go_ret
              exact ⟨rfl, HB.out⟩
            · have hv' := hcode.symm.trans hv
              have hpc := app_check hv' hK h60 hA1
              obtain ⟨v1o, v1c, rfl⟩ := hT1.shape
              obtain ⟨u1o, u1c, rfl⟩ := hU1.shape
              have HV0 := Lib.hid hv'; have HKK := Lib.hid hK; have HAS := Lib.hid hA1; have HRR := Lib.hid hR1; have HYES := Lib.hid hyes; have H60 := Lib.hid h60
              clear hcode hv hv' hK hA1 hR1 hyes hl1 hl2 h60
              obtain ⟨a1, ha1⟩ : ∃ a1, (if inG 5 ex = true then min (inAt 5 at' (now + mem)) (now + last) else inAt 5 at' (now + mem)) = a1 := ⟨_, rfl⟩
              obtain ⟨e1, he1⟩ : ∃ e1, inEx 5 ex = e1 := ⟨_, rfl⟩
              obtain ⟨g1, hg1⟩ : ∃ g1, inG 5 ex = g1 := ⟨_, rfl⟩
              rw [ha1, he1] at hpc
              simp only [ha1]
              simp only [he1, hg1]
              have HE1 := Lib.hid he1; have HA1 := Lib.hid ha1; have HG1 := Lib.hid hg1
              have T1 := Lib.hid hT1; have S1 := Lib.hid hU1
              clear hT1 hU1 ha1 he1 hg1
              have hba : Below w3.heap.size w3 ((w3.alloc (.cells #[.bool e1, .int .i64 a1, .slice v1o L1.length v1c] 24)).alloc (.cells #[.bool g1, .slice u1o R1.length u1c] 44)) := (((Below.refl _ _).alloc (Nat.le_refl _) _).alloc (by simp <;> omega) _)
              replace Xc := Lib.hid (Xc.out.below hba Xc.out.lt)
              replace TL := Lib.hid (TL.out.mono hba)
              replace T1 := Lib.hid (T1.out.mono hba)
              replace SC := Lib.hid (SC.out.mono hba)
              replace S1 := Lib.hid (S1.out.mono hba)
              replace HB := Lib.hid (HB.out.trans (hba.mono HB.out.size))
              have Xs := Lib.hid (show CBox ((w3.alloc (.cells #[.bool e1, .int .i64 a1, .slice v1o L1.length v1c] 24)).alloc (.cells #[.bool g1, .slice u1o R1.length u1c] 44)) (w3.heap.size) 24 #[.bool e1, .int .i64 a1, .slice v1o L1.length v1c] from ((CBox.new _ (by simp)).old _))
              have Xk := Lib.hid (show CBox ((w3.alloc (.cells #[.bool e1, .int .i64 a1, .slice v1o L1.length v1c] 24)).alloc (.cells #[.bool g1, .slice u1o R1.length u1c] 44)) (w3.heap.size + 1) 44 #[.bool g1, .slice u1o R1.length u1c] from (CBox.new _ (by simp)))
              clear hba
              go_wp2_with fail
              refine (live_yes _).mono ?_
              rintro e w4 ⟨rfl, hb⟩
              replace Xc := Lib.hid (Xc.out.below hb Xc.out.lt)
              replace Xs := Lib.hid (Xs.out.below hb Xs.out.lt)
              replace Xk := Lib.hid (Xk.out.below hb Xk.out.lt)
              replace TL := Lib.hid (TL.out.mono hb)
              replace T1 := Lib.hid (T1.out.mono hb)
              replace SC := Lib.hid (SC.out.mono hb)
              replace S1 := Lib.hid (S1.out.mono hb)
              replace HB := Lib.hid (HB.out.trans (hb.mono HB.out.size))
              clear hb
              go_wp2_with fail
              go_ret
              exact ⟨rfl, HB.out⟩
          · have HWD := Lib.hid hw
            have HC := admits_any ex at' _ L now a ha _ TL.out
            rw [hw] at HC
            replace HC := Lib.hid HC; clear hw
            have x10 := (Xc.out.at_ 0 (.bool ex) rfl).1
            have x11 := (Xc.out.at_ 1 (.int .i64 at') rfl).1
            have x12 := (Xc.out.at_ 2 (.slice vo L.length vc) rfl).1
            have x13 := (Xc.out.at_ 3 (.bool true) rfl).1
            have x14 := (Xc.out.at_ 4 (.int .i64 5) rfl).1
            have x15 := (Xc.out.at_ 5 (.string g) rfl).1
            have x16 := (Xc.out.at_ 6 (.slice ro C.length rc) rfl).1
            have x17 := (Xc.out.at_ 7 (.int .i64 mem) rfl).1
            have x18 := (Xc.out.at_ 8 (.int .i64 last) rfl).1
            go_wp2_with fail
            refine HC.out.mono ?_
            clear HC
            clear x10 x11 x12 x13 x14 x15 x16 x17 x18
            rintro e w2 ⟨rfl, hb⟩
            replace Xc := Lib.hid (Xc.out.below hb Xc.out.lt)
            replace TL := Lib.hid (TL.out.mono hb)
            replace SC := Lib.hid (SC.out.mono hb)
            replace HB := Lib.hid (HB.out.trans (hb.mono HB.out.size))
            clear hb
            have x19 := (Xc.out.at_ 0 (.bool ex) rfl).1
            have x20 := (Xc.out.at_ 1 (.int .i64 at') rfl).1
            have x21 := (Xc.out.at_ 2 (.slice vo L.length vc) rfl).1
            have x22 := (Xc.out.at_ 3 (.bool true) rfl).1
            have x23 := (Xc.out.at_ 4 (.int .i64 5) rfl).1
            have x24 := (Xc.out.at_ 5 (.string g) rfl).1
            have x25 := (Xc.out.at_ 6 (.slice ro C.length rc) rfl).1
            have x26 := (Xc.out.at_ 7 (.int .i64 mem) rfl).1
            have x27 := (Xc.out.at_ 8 (.int .i64 last) rfl).1
            have HC := Lib.hid (apply_any ex at' _ L true 5 g _ C now mem last _ TL.out SC.out wa)
            go_wp2_with fail
            refine HC.out.mono ?_
            clear HC
            clear x19 x20 x21 x22 x23 x24 x25 x26 x27
            rintro e w3 ⟨hb, hres⟩
            replace Xc := Lib.hid (Xc.out.below hb Xc.out.lt)
            replace TL := Lib.hid (TL.out.mono hb)
            replace SC := Lib.hid (SC.out.mono hb)
            replace HB := Lib.hid (HB.out.trans (hb.mono HB.out.size))
            clear hb
            simp only [Bool.true_and, if_true] at hres
            obtain ⟨code, hcode⟩ : ∃ code, code = verdict (pcheck ex at' L) 5 C.length now mem last := ⟨_, rfl⟩
            rw [← hcode] at hres
            rcases hres with ⟨hv, rfl⟩ | ⟨hv, K, hK, ⟨h60, rfl⟩ | ⟨h60, hno, rfl⟩ | ⟨h60, hyes, v1, L1, u1, R1, rfl, hT1, hU1, hR1, hA1, hl1, hl2⟩⟩
            · have hcb : (code != 0) = true := by simpa using hv
              have hcc : (code == 0) = false := by simpa using hv
              clear hcode hv
              simp only [noState, noAsk]
              have hba : Below w3.heap.size w3 ((w3.alloc (.cells #[.bool false, .int .i64 0, .slice none 0 0] 24)).alloc (.cells #[.bool false, .slice none 0 0] 44)) := (((Below.refl _ _).alloc (Nat.le_refl _) _).alloc (by simp <;> omega) _)
              replace Xc := Lib.hid (Xc.out.below hba Xc.out.lt)
              replace TL := Lib.hid (TL.out.mono hba)
              replace SC := Lib.hid (SC.out.mono hba)
              replace HB := Lib.hid (HB.out.trans (hba.mono HB.out.size))
              have Xs := Lib.hid (show CBox ((w3.alloc (.cells #[.bool false, .int .i64 0, .slice none 0 0] 24)).alloc (.cells #[.bool false, .slice none 0 0] 44)) (w3.heap.size) 24 #[.bool false, .int .i64 0, .slice none 0 0] from ((CBox.new _ (by simp)).old _))
              have Xk := Lib.hid (show CBox ((w3.alloc (.cells #[.bool false, .int .i64 0, .slice none 0 0] 24)).alloc (.cells #[.bool false, .slice none 0 0] 44)) (w3.heap.size + 1) 44 #[.bool false, .slice none 0 0] from (CBox.new _ (by simp)))
              clear hba
              go_wp2_with fail
              refine (live_yes _).mono ?_
              rintro e w4 ⟨rfl, hb⟩
              replace Xc := Lib.hid (Xc.out.below hb Xc.out.lt)
              replace Xs := Lib.hid (Xs.out.below hb Xs.out.lt)
              replace Xk := Lib.hid (Xk.out.below hb Xk.out.lt)
              replace TL := Lib.hid (TL.out.mono hb)
              replace SC := Lib.hid (SC.out.mono hb)
              replace HB := Lib.hid (HB.out.trans (hb.mono HB.out.size))
              clear hb
              go_wp2_with fail
              go_ret
              exact ⟨rfl, HB.out⟩
            · clear hcode hv hK h60
              simp only [noState, noAsk]
              have hba : Below w3.heap.size w3 ((w3.alloc (.cells #[.bool false, .int .i64 0, .slice none 0 0] 24)).alloc (.cells #[.bool false, .slice none 0 0] 44)) := (((Below.refl _ _).alloc (Nat.le_refl _) _).alloc (by simp <;> omega) _)
              replace Xc := Lib.hid (Xc.out.below hba Xc.out.lt)
              replace TL := Lib.hid (TL.out.mono hba)
              replace SC := Lib.hid (SC.out.mono hba)
              replace HB := Lib.hid (HB.out.trans (hba.mono HB.out.size))
              have Xs := Lib.hid (show CBox ((w3.alloc (.cells #[.bool false, .int .i64 0, .slice none 0 0] 24)).alloc (.cells #[.bool false, .slice none 0 0] 44)) (w3.heap.size) 24 #[.bool false, .int .i64 0, .slice none 0 0] from ((CBox.new _ (by simp)).old _))
              have Xk := Lib.hid (show CBox ((w3.alloc (.cells #[.bool false, .int .i64 0, .slice none 0 0] 24)).alloc (.cells #[.bool false, .slice none 0 0] 44)) (w3.heap.size + 1) 44 #[.bool false, .slice none 0 0] from (CBox.new _ (by simp)))
              clear hba
              go_wp2_with fail
              refine (live_yes _).mono ?_
              rintro e w4 ⟨rfl, hb⟩
              replace Xc := Lib.hid (Xc.out.below hb Xc.out.lt)
              replace Xs := Lib.hid (Xs.out.below hb Xs.out.lt)
              replace Xk := Lib.hid (Xk.out.below hb Xk.out.lt)
              replace TL := Lib.hid (TL.out.mono hb)
              replace SC := Lib.hid (SC.out.mono hb)
              replace HB := Lib.hid (HB.out.trans (hb.mono HB.out.size))
              clear hb
              go_wp2_with fail
              go_ret
              exact ⟨rfl, HB.out⟩
            · have HV0 := Lib.hid (hcode.symm.trans hv); have HKK := Lib.hid hK; have HNO := Lib.hid hno; clear hcode hv hK h60 hno
              exact absurd HNO.out (stays_law HV0.out (by simp) HWD.out HKK.out).1
            · have hv' := hcode.symm.trans hv
              have hpc := app_check hv' hK h60 hA1
              obtain ⟨v1o, v1c, rfl⟩ := hT1.shape
              obtain ⟨u1o, u1c, rfl⟩ := hU1.shape
              have HV0 := Lib.hid hv'; have HKK := Lib.hid hK; have HAS := Lib.hid hA1; have HRR := Lib.hid hR1; have HYES := Lib.hid hyes; have H60 := Lib.hid h60
              clear hcode hv hv' hK hA1 hR1 hyes hl1 hl2 h60
              have HP1 := ((stays_law HV0.out (by simp) HWD.out HKK.out).2 R1 L1 HRR.out HAS.out hpc)
              have hR6 := Lib.hid HP1.2
              replace HP1 := HP1.1
              obtain ⟨a1, ha1⟩ : ∃ a1, (if inG 5 ex = true then min (inAt 5 at' (now + mem)) (now + last) else inAt 5 at' (now + mem)) = a1 := ⟨_, rfl⟩
              obtain ⟨e1, he1⟩ : ∃ e1, inEx 5 ex = e1 := ⟨_, rfl⟩
              obtain ⟨g1, hg1⟩ : ∃ g1, inG 5 ex = g1 := ⟨_, rfl⟩
              rw [ha1, he1] at hpc
              simp only [ha1]
              simp only [he1, hg1]
              rw [ha1, he1] at HP1
              replace HP1 := Lib.hid HP1
              have HPC := Lib.hid hpc; clear hpc
              have HE1 := Lib.hid he1; have HA1 := Lib.hid ha1; have HG1 := Lib.hid hg1
              have T1 := Lib.hid hT1; have S1 := Lib.hid hU1
              clear hT1 hU1 ha1 he1 hg1
              have hba : Below w3.heap.size w3 ((w3.alloc (.cells #[.bool e1, .int .i64 a1, .slice v1o L1.length v1c] 24)).alloc (.cells #[.bool g1, .slice u1o R1.length u1c] 44)) := (((Below.refl _ _).alloc (Nat.le_refl _) _).alloc (by simp <;> omega) _)
              replace Xc := Lib.hid (Xc.out.below hba Xc.out.lt)
              replace TL := Lib.hid (TL.out.mono hba)
              replace T1 := Lib.hid (T1.out.mono hba)
              replace SC := Lib.hid (SC.out.mono hba)
              replace S1 := Lib.hid (S1.out.mono hba)
              replace HB := Lib.hid (HB.out.trans (hba.mono HB.out.size))
              have Xs := Lib.hid (show CBox ((w3.alloc (.cells #[.bool e1, .int .i64 a1, .slice v1o L1.length v1c] 24)).alloc (.cells #[.bool g1, .slice u1o R1.length u1c] 44)) (w3.heap.size) 24 #[.bool e1, .int .i64 a1, .slice v1o L1.length v1c] from ((CBox.new _ (by simp)).old _))
              have Xk := Lib.hid (show CBox ((w3.alloc (.cells #[.bool e1, .int .i64 a1, .slice v1o L1.length v1c] 24)).alloc (.cells #[.bool g1, .slice u1o R1.length u1c] 44)) (w3.heap.size + 1) 44 #[.bool g1, .slice u1o R1.length u1c] from (CBox.new _ (by simp)))
              clear hba
              cases hn : R1.contains a
              · have x28 := (Xk.out.at_ 0 (.bool g1) rfl).1
                have x29 := (Xk.out.at_ 1 (.slice u1o R1.length u1c) rfl).1
                have HC := shas_any _ R1 a _ S1.out
                rw [hn] at HC
                replace HC := Lib.hid HC
                clear hn
                go_wp2_with fail
                refine HC.out.mono ?_
                clear HC
                rintro e w' ⟨rfl, rfl⟩
                have x30 := (Xs.out.at_ 0 (.bool e1) rfl).1
                have x31 := (Xs.out.at_ 1 (.int .i64 a1) rfl).1
                have x32 := (Xs.out.at_ 2 (.slice v1o L1.length v1c) rfl).1
                have HC := Lib.hid (admits_ok e1 a1 _ L1 now a ha _ T1.out HP1.out)
                go_wp2_with fail
                refine HC.out.mono ?_
                clear HC
                clear x28 x29 x30 x31 x32
                rintro e w4 ⟨rfl, hb⟩
                replace Xc := Lib.hid (Xc.out.below hb Xc.out.lt)
                replace Xs := Lib.hid (Xs.out.below hb Xs.out.lt)
                replace Xk := Lib.hid (Xk.out.below hb Xk.out.lt)
                replace TL := Lib.hid (TL.out.mono hb)
                replace T1 := Lib.hid (T1.out.mono hb)
                replace SC := Lib.hid (SC.out.mono hb)
                replace S1 := Lib.hid (S1.out.mono hb)
                replace HB := Lib.hid (HB.out.trans (hb.mono HB.out.size))
                clear hb
                go_wp2_with fail
                refine (live_yes _).mono ?_
                rintro e w5 ⟨rfl, hb⟩
                replace Xc := Lib.hid (Xc.out.below hb Xc.out.lt)
                replace Xs := Lib.hid (Xs.out.below hb Xs.out.lt)
                replace Xk := Lib.hid (Xk.out.below hb Xk.out.lt)
                replace TL := Lib.hid (TL.out.mono hb)
                replace T1 := Lib.hid (T1.out.mono hb)
                replace SC := Lib.hid (SC.out.mono hb)
                replace S1 := Lib.hid (S1.out.mono hb)
                replace HB := Lib.hid (HB.out.trans (hb.mono HB.out.size))
                clear hb
                go_wp2_with fail
                go_ret
                exact ⟨rfl, HB.out⟩
              · exfalso
                have := hR6.out (by decide)
                rw [this] at hn; simp at hn
        · have x1 := (Xc.out.at_ 0 (.bool ex) rfl).1
          have x2 := (Xc.out.at_ 1 (.int .i64 at') rfl).1
          have x3 := (Xc.out.at_ 2 (.slice vo L.length vc) rfl).1
          have x4 := (Xc.out.at_ 3 (.bool true) rfl).1
          have x5 := (Xc.out.at_ 4 (.int .i64 6) rfl).1
          have x6 := (Xc.out.at_ 5 (.string g) rfl).1
          have x7 := (Xc.out.at_ 6 (.slice ro C.length rc) rfl).1
          have x8 := (Xc.out.at_ 7 (.int .i64 mem) rfl).1
          have x9 := (Xc.out.at_ 8 (.int .i64 last) rfl).1
          have hf := Lib.hid hf0; clear hf0
          have HC := Lib.hid (few_yes ex at' _ L 6 g _ C _ TL.out SC.out hf.out)
          go_wp2_with fail
          refine HC.out.mono ?_
          clear HC
          clear x1 x2 x3 x4 x5 x6 x7 x8 x9
          rintro e w1 ⟨rfl, hb⟩
          replace Xc := Lib.hid (Xc.out.below hb Xc.out.lt)
          replace TL := Lib.hid (TL.out.mono hb)
          replace SC := Lib.hid (SC.out.mono hb)
          replace HB := Lib.hid (HB.out.trans (hb.mono HB.out.size))
          clear hb
          cases hw : padm ex at' L now a
          · have HWD := Lib.hid hw
            have HC := admits_any ex at' _ L now a ha _ TL.out
            rw [hw] at HC
            replace HC := Lib.hid HC; clear hw
            have x10 := (Xc.out.at_ 0 (.bool ex) rfl).1
            have x11 := (Xc.out.at_ 1 (.int .i64 at') rfl).1
            have x12 := (Xc.out.at_ 2 (.slice vo L.length vc) rfl).1
            have x13 := (Xc.out.at_ 3 (.bool true) rfl).1
            have x14 := (Xc.out.at_ 4 (.int .i64 6) rfl).1
            have x15 := (Xc.out.at_ 5 (.string g) rfl).1
            have x16 := (Xc.out.at_ 6 (.slice ro C.length rc) rfl).1
            have x17 := (Xc.out.at_ 7 (.int .i64 mem) rfl).1
            have x18 := (Xc.out.at_ 8 (.int .i64 last) rfl).1
            go_wp2_with fail
            refine HC.out.mono ?_
            clear HC
            clear x10 x11 x12 x13 x14 x15 x16 x17 x18
            rintro e w2 ⟨rfl, hb⟩
            replace Xc := Lib.hid (Xc.out.below hb Xc.out.lt)
            replace TL := Lib.hid (TL.out.mono hb)
            replace SC := Lib.hid (SC.out.mono hb)
            replace HB := Lib.hid (HB.out.trans (hb.mono HB.out.size))
            clear hb
            have x19 := (Xc.out.at_ 0 (.bool ex) rfl).1
            have x20 := (Xc.out.at_ 1 (.int .i64 at') rfl).1
            have x21 := (Xc.out.at_ 2 (.slice vo L.length vc) rfl).1
            have x22 := (Xc.out.at_ 3 (.bool true) rfl).1
            have x23 := (Xc.out.at_ 4 (.int .i64 6) rfl).1
            have x24 := (Xc.out.at_ 5 (.string g) rfl).1
            have x25 := (Xc.out.at_ 6 (.slice ro C.length rc) rfl).1
            have x26 := (Xc.out.at_ 7 (.int .i64 mem) rfl).1
            have x27 := (Xc.out.at_ 8 (.int .i64 last) rfl).1
            have HC := Lib.hid (apply_any ex at' _ L true 6 g _ C now mem last _ TL.out SC.out wa)
            go_wp2_with fail
            refine HC.out.mono ?_
            clear HC
            clear x19 x20 x21 x22 x23 x24 x25 x26 x27
            rintro e w3 ⟨hb, hres⟩
            replace Xc := Lib.hid (Xc.out.below hb Xc.out.lt)
            replace TL := Lib.hid (TL.out.mono hb)
            replace SC := Lib.hid (SC.out.mono hb)
            replace HB := Lib.hid (HB.out.trans (hb.mono HB.out.size))
            clear hb
            simp only [Bool.true_and, if_true] at hres
            obtain ⟨code, hcode⟩ : ∃ code, code = verdict (pcheck ex at' L) 6 C.length now mem last := ⟨_, rfl⟩
            rw [← hcode] at hres
            rcases hres with ⟨hv, rfl⟩ | ⟨hv, K, hK, ⟨h60, rfl⟩ | ⟨h60, hno, rfl⟩ | ⟨h60, hyes, v1, L1, u1, R1, rfl, hT1, hU1, hR1, hA1, hl1, hl2⟩⟩
            · have hcb : (code != 0) = true := by simpa using hv
              have hcc : (code == 0) = false := by simpa using hv
              clear hcode hv
              simp only [noState, noAsk]
              have hba : Below w3.heap.size w3 ((w3.alloc (.cells #[.bool false, .int .i64 0, .slice none 0 0] 24)).alloc (.cells #[.bool false, .slice none 0 0] 44)) := (((Below.refl _ _).alloc (Nat.le_refl _) _).alloc (by simp <;> omega) _)
              replace Xc := Lib.hid (Xc.out.below hba Xc.out.lt)
              replace TL := Lib.hid (TL.out.mono hba)
              replace SC := Lib.hid (SC.out.mono hba)
              replace HB := Lib.hid (HB.out.trans (hba.mono HB.out.size))
              have Xs := Lib.hid (show CBox ((w3.alloc (.cells #[.bool false, .int .i64 0, .slice none 0 0] 24)).alloc (.cells #[.bool false, .slice none 0 0] 44)) (w3.heap.size) 24 #[.bool false, .int .i64 0, .slice none 0 0] from ((CBox.new _ (by simp)).old _))
              have Xk := Lib.hid (show CBox ((w3.alloc (.cells #[.bool false, .int .i64 0, .slice none 0 0] 24)).alloc (.cells #[.bool false, .slice none 0 0] 44)) (w3.heap.size + 1) 44 #[.bool false, .slice none 0 0] from (CBox.new _ (by simp)))
              clear hba
              go_wp2_with fail
              refine (live_yes _).mono ?_
              rintro e w4 ⟨rfl, hb⟩
              replace Xc := Lib.hid (Xc.out.below hb Xc.out.lt)
              replace Xs := Lib.hid (Xs.out.below hb Xs.out.lt)
              replace Xk := Lib.hid (Xk.out.below hb Xk.out.lt)
              replace TL := Lib.hid (TL.out.mono hb)
              replace SC := Lib.hid (SC.out.mono hb)
              replace HB := Lib.hid (HB.out.trans (hb.mono HB.out.size))
              clear hb
              go_wp2_with fail
              go_ret
              exact ⟨rfl, HB.out⟩
            · clear hcode hv hK h60
              simp only [noState, noAsk]
              have hba : Below w3.heap.size w3 ((w3.alloc (.cells #[.bool false, .int .i64 0, .slice none 0 0] 24)).alloc (.cells #[.bool false, .slice none 0 0] 44)) := (((Below.refl _ _).alloc (Nat.le_refl _) _).alloc (by simp <;> omega) _)
              replace Xc := Lib.hid (Xc.out.below hba Xc.out.lt)
              replace TL := Lib.hid (TL.out.mono hba)
              replace SC := Lib.hid (SC.out.mono hba)
              replace HB := Lib.hid (HB.out.trans (hba.mono HB.out.size))
              have Xs := Lib.hid (show CBox ((w3.alloc (.cells #[.bool false, .int .i64 0, .slice none 0 0] 24)).alloc (.cells #[.bool false, .slice none 0 0] 44)) (w3.heap.size) 24 #[.bool false, .int .i64 0, .slice none 0 0] from ((CBox.new _ (by simp)).old _))
              have Xk := Lib.hid (show CBox ((w3.alloc (.cells #[.bool false, .int .i64 0, .slice none 0 0] 24)).alloc (.cells #[.bool false, .slice none 0 0] 44)) (w3.heap.size + 1) 44 #[.bool false, .slice none 0 0] from (CBox.new _ (by simp)))
              clear hba
              go_wp2_with fail
              refine (live_yes _).mono ?_
              rintro e w4 ⟨rfl, hb⟩
              replace Xc := Lib.hid (Xc.out.below hb Xc.out.lt)
              replace Xs := Lib.hid (Xs.out.below hb Xs.out.lt)
              replace Xk := Lib.hid (Xk.out.below hb Xk.out.lt)
              replace TL := Lib.hid (TL.out.mono hb)
              replace SC := Lib.hid (SC.out.mono hb)
              replace HB := Lib.hid (HB.out.trans (hb.mono HB.out.size))
              clear hb
              go_wp2_with fail
              go_ret
              exact ⟨rfl, HB.out⟩
            · have HV0 := Lib.hid (hcode.symm.trans hv); have HKK := Lib.hid hK; have HNO := Lib.hid hno; clear hcode hv hK h60 hno
              simp only [noState, noAsk]
              have hba : Below w3.heap.size w3 ((w3.alloc (.cells #[.bool false, .int .i64 0, .slice none 0 0] 24)).alloc (.cells #[.bool false, .slice none 0 0] 44)) := (((Below.refl _ _).alloc (Nat.le_refl _) _).alloc (by simp <;> omega) _)
              replace Xc := Lib.hid (Xc.out.below hba Xc.out.lt)
              replace TL := Lib.hid (TL.out.mono hba)
              replace SC := Lib.hid (SC.out.mono hba)
              replace HB := Lib.hid (HB.out.trans (hba.mono HB.out.size))
              have Xs := Lib.hid (show CBox ((w3.alloc (.cells #[.bool false, .int .i64 0, .slice none 0 0] 24)).alloc (.cells #[.bool false, .slice none 0 0] 44)) (w3.heap.size) 24 #[.bool false, .int .i64 0, .slice none 0 0] from ((CBox.new _ (by simp)).old _))
              have Xk := Lib.hid (show CBox ((w3.alloc (.cells #[.bool false, .int .i64 0, .slice none 0 0] 24)).alloc (.cells #[.bool false, .slice none 0 0] 44)) (w3.heap.size + 1) 44 #[.bool false, .slice none 0 0] from (CBox.new _ (by simp)))
              clear hba
              go_wp2_with fail
              refine (live_yes _).mono ?_
              rintro e w4 ⟨rfl, hb⟩
              replace Xc := Lib.hid (Xc.out.below hb Xc.out.lt)
              replace Xs := Lib.hid (Xs.out.below hb Xs.out.lt)
              replace Xk := Lib.hid (Xk.out.below hb Xk.out.lt)
              replace TL := Lib.hid (TL.out.mono hb)
              replace SC := Lib.hid (SC.out.mono hb)
              replace HB := Lib.hid (HB.out.trans (hb.mono HB.out.size))
              clear hb
              go_wp2_with fail
              go_ret
              exact ⟨rfl, HB.out⟩
            · have hv' := hcode.symm.trans hv
              have hpc := app_check hv' hK h60 hA1
              obtain ⟨v1o, v1c, rfl⟩ := hT1.shape
              obtain ⟨u1o, u1c, rfl⟩ := hU1.shape
              have HV0 := Lib.hid hv'; have HKK := Lib.hid hK; have HAS := Lib.hid hA1; have HRR := Lib.hid hR1; have HYES := Lib.hid hyes; have H60 := Lib.hid h60
              clear hcode hv hv' hK hA1 hR1 hyes hl1 hl2 h60
              obtain ⟨a1, ha1⟩ : ∃ a1, (if inG 6 ex = true then min (inAt 6 at' (now + mem)) (now + last) else inAt 6 at' (now + mem)) = a1 := ⟨_, rfl⟩
              obtain ⟨e1, he1⟩ : ∃ e1, inEx 6 ex = e1 := ⟨_, rfl⟩
              obtain ⟨g1, hg1⟩ : ∃ g1, inG 6 ex = g1 := ⟨_, rfl⟩
              rw [ha1, he1] at hpc
              simp only [ha1]
              simp only [he1, hg1]
              have HE1 := Lib.hid he1; have HA1 := Lib.hid ha1; have HG1 := Lib.hid hg1
              have T1 := Lib.hid hT1; have S1 := Lib.hid hU1
              clear hT1 hU1 ha1 he1 hg1
              have hba : Below w3.heap.size w3 ((w3.alloc (.cells #[.bool e1, .int .i64 a1, .slice v1o L1.length v1c] 24)).alloc (.cells #[.bool g1, .slice u1o R1.length u1c] 44)) := (((Below.refl _ _).alloc (Nat.le_refl _) _).alloc (by simp <;> omega) _)
              replace Xc := Lib.hid (Xc.out.below hba Xc.out.lt)
              replace TL := Lib.hid (TL.out.mono hba)
              replace T1 := Lib.hid (T1.out.mono hba)
              replace SC := Lib.hid (SC.out.mono hba)
              replace S1 := Lib.hid (S1.out.mono hba)
              replace HB := Lib.hid (HB.out.trans (hba.mono HB.out.size))
              have Xs := Lib.hid (show CBox ((w3.alloc (.cells #[.bool e1, .int .i64 a1, .slice v1o L1.length v1c] 24)).alloc (.cells #[.bool g1, .slice u1o R1.length u1c] 44)) (w3.heap.size) 24 #[.bool e1, .int .i64 a1, .slice v1o L1.length v1c] from ((CBox.new _ (by simp)).old _))
              have Xk := Lib.hid (show CBox ((w3.alloc (.cells #[.bool e1, .int .i64 a1, .slice v1o L1.length v1c] 24)).alloc (.cells #[.bool g1, .slice u1o R1.length u1c] 44)) (w3.heap.size + 1) 44 #[.bool g1, .slice u1o R1.length u1c] from (CBox.new _ (by simp)))
              clear hba
              go_wp2_with fail
              refine (live_yes _).mono ?_
              rintro e w4 ⟨rfl, hb⟩
              replace Xc := Lib.hid (Xc.out.below hb Xc.out.lt)
              replace Xs := Lib.hid (Xs.out.below hb Xs.out.lt)
              replace Xk := Lib.hid (Xk.out.below hb Xk.out.lt)
              replace TL := Lib.hid (TL.out.mono hb)
              replace T1 := Lib.hid (T1.out.mono hb)
              replace SC := Lib.hid (SC.out.mono hb)
              replace S1 := Lib.hid (S1.out.mono hb)
              replace HB := Lib.hid (HB.out.trans (hb.mono HB.out.size))
              clear hb
              go_wp2_with fail
              go_ret
              exact ⟨rfl, HB.out⟩
          · have HWD := Lib.hid hw
            have HC := admits_any ex at' _ L now a ha _ TL.out
            rw [hw] at HC
            replace HC := Lib.hid HC; clear hw
            have x10 := (Xc.out.at_ 0 (.bool ex) rfl).1
            have x11 := (Xc.out.at_ 1 (.int .i64 at') rfl).1
            have x12 := (Xc.out.at_ 2 (.slice vo L.length vc) rfl).1
            have x13 := (Xc.out.at_ 3 (.bool true) rfl).1
            have x14 := (Xc.out.at_ 4 (.int .i64 6) rfl).1
            have x15 := (Xc.out.at_ 5 (.string g) rfl).1
            have x16 := (Xc.out.at_ 6 (.slice ro C.length rc) rfl).1
            have x17 := (Xc.out.at_ 7 (.int .i64 mem) rfl).1
            have x18 := (Xc.out.at_ 8 (.int .i64 last) rfl).1
            go_wp2_with fail
            refine HC.out.mono ?_
            clear HC
            clear x10 x11 x12 x13 x14 x15 x16 x17 x18
            rintro e w2 ⟨rfl, hb⟩
            replace Xc := Lib.hid (Xc.out.below hb Xc.out.lt)
            replace TL := Lib.hid (TL.out.mono hb)
            replace SC := Lib.hid (SC.out.mono hb)
            replace HB := Lib.hid (HB.out.trans (hb.mono HB.out.size))
            clear hb
            have x19 := (Xc.out.at_ 0 (.bool ex) rfl).1
            have x20 := (Xc.out.at_ 1 (.int .i64 at') rfl).1
            have x21 := (Xc.out.at_ 2 (.slice vo L.length vc) rfl).1
            have x22 := (Xc.out.at_ 3 (.bool true) rfl).1
            have x23 := (Xc.out.at_ 4 (.int .i64 6) rfl).1
            have x24 := (Xc.out.at_ 5 (.string g) rfl).1
            have x25 := (Xc.out.at_ 6 (.slice ro C.length rc) rfl).1
            have x26 := (Xc.out.at_ 7 (.int .i64 mem) rfl).1
            have x27 := (Xc.out.at_ 8 (.int .i64 last) rfl).1
            have HC := Lib.hid (apply_any ex at' _ L true 6 g _ C now mem last _ TL.out SC.out wa)
            go_wp2_with fail
            refine HC.out.mono ?_
            clear HC
            clear x19 x20 x21 x22 x23 x24 x25 x26 x27
            rintro e w3 ⟨hb, hres⟩
            replace Xc := Lib.hid (Xc.out.below hb Xc.out.lt)
            replace TL := Lib.hid (TL.out.mono hb)
            replace SC := Lib.hid (SC.out.mono hb)
            replace HB := Lib.hid (HB.out.trans (hb.mono HB.out.size))
            clear hb
            simp only [Bool.true_and, if_true] at hres
            obtain ⟨code, hcode⟩ : ∃ code, code = verdict (pcheck ex at' L) 6 C.length now mem last := ⟨_, rfl⟩
            rw [← hcode] at hres
            rcases hres with ⟨hv, rfl⟩ | ⟨hv, K, hK, ⟨h60, rfl⟩ | ⟨h60, hno, rfl⟩ | ⟨h60, hyes, v1, L1, u1, R1, rfl, hT1, hU1, hR1, hA1, hl1, hl2⟩⟩
            · have hcb : (code != 0) = true := by simpa using hv
              have hcc : (code == 0) = false := by simpa using hv
              clear hcode hv
              simp only [noState, noAsk]
              have hba : Below w3.heap.size w3 ((w3.alloc (.cells #[.bool false, .int .i64 0, .slice none 0 0] 24)).alloc (.cells #[.bool false, .slice none 0 0] 44)) := (((Below.refl _ _).alloc (Nat.le_refl _) _).alloc (by simp <;> omega) _)
              replace Xc := Lib.hid (Xc.out.below hba Xc.out.lt)
              replace TL := Lib.hid (TL.out.mono hba)
              replace SC := Lib.hid (SC.out.mono hba)
              replace HB := Lib.hid (HB.out.trans (hba.mono HB.out.size))
              have Xs := Lib.hid (show CBox ((w3.alloc (.cells #[.bool false, .int .i64 0, .slice none 0 0] 24)).alloc (.cells #[.bool false, .slice none 0 0] 44)) (w3.heap.size) 24 #[.bool false, .int .i64 0, .slice none 0 0] from ((CBox.new _ (by simp)).old _))
              have Xk := Lib.hid (show CBox ((w3.alloc (.cells #[.bool false, .int .i64 0, .slice none 0 0] 24)).alloc (.cells #[.bool false, .slice none 0 0] 44)) (w3.heap.size + 1) 44 #[.bool false, .slice none 0 0] from (CBox.new _ (by simp)))
              clear hba
              go_wp2_with fail
              refine (live_yes _).mono ?_
              rintro e w4 ⟨rfl, hb⟩
              replace Xc := Lib.hid (Xc.out.below hb Xc.out.lt)
              replace Xs := Lib.hid (Xs.out.below hb Xs.out.lt)
              replace Xk := Lib.hid (Xk.out.below hb Xk.out.lt)
              replace TL := Lib.hid (TL.out.mono hb)
              replace SC := Lib.hid (SC.out.mono hb)
              replace HB := Lib.hid (HB.out.trans (hb.mono HB.out.size))
              clear hb
              go_wp2_with fail
              go_ret
              exact ⟨rfl, HB.out⟩
            · clear hcode hv hK h60
              simp only [noState, noAsk]
              have hba : Below w3.heap.size w3 ((w3.alloc (.cells #[.bool false, .int .i64 0, .slice none 0 0] 24)).alloc (.cells #[.bool false, .slice none 0 0] 44)) := (((Below.refl _ _).alloc (Nat.le_refl _) _).alloc (by simp <;> omega) _)
              replace Xc := Lib.hid (Xc.out.below hba Xc.out.lt)
              replace TL := Lib.hid (TL.out.mono hba)
              replace SC := Lib.hid (SC.out.mono hba)
              replace HB := Lib.hid (HB.out.trans (hba.mono HB.out.size))
              have Xs := Lib.hid (show CBox ((w3.alloc (.cells #[.bool false, .int .i64 0, .slice none 0 0] 24)).alloc (.cells #[.bool false, .slice none 0 0] 44)) (w3.heap.size) 24 #[.bool false, .int .i64 0, .slice none 0 0] from ((CBox.new _ (by simp)).old _))
              have Xk := Lib.hid (show CBox ((w3.alloc (.cells #[.bool false, .int .i64 0, .slice none 0 0] 24)).alloc (.cells #[.bool false, .slice none 0 0] 44)) (w3.heap.size + 1) 44 #[.bool false, .slice none 0 0] from (CBox.new _ (by simp)))
              clear hba
              go_wp2_with fail
              refine (live_yes _).mono ?_
              rintro e w4 ⟨rfl, hb⟩
              replace Xc := Lib.hid (Xc.out.below hb Xc.out.lt)
              replace Xs := Lib.hid (Xs.out.below hb Xs.out.lt)
              replace Xk := Lib.hid (Xk.out.below hb Xk.out.lt)
              replace TL := Lib.hid (TL.out.mono hb)
              replace SC := Lib.hid (SC.out.mono hb)
              replace HB := Lib.hid (HB.out.trans (hb.mono HB.out.size))
              clear hb
              go_wp2_with fail
              go_ret
              exact ⟨rfl, HB.out⟩
            · have HV0 := Lib.hid (hcode.symm.trans hv); have HKK := Lib.hid hK; have HNO := Lib.hid hno; clear hcode hv hK h60 hno
              exact absurd HNO.out (stays_law HV0.out (by simp) HWD.out HKK.out).1
            · have hv' := hcode.symm.trans hv
              have hpc := app_check hv' hK h60 hA1
              obtain ⟨v1o, v1c, rfl⟩ := hT1.shape
              obtain ⟨u1o, u1c, rfl⟩ := hU1.shape
              have HV0 := Lib.hid hv'; have HKK := Lib.hid hK; have HAS := Lib.hid hA1; have HRR := Lib.hid hR1; have HYES := Lib.hid hyes; have H60 := Lib.hid h60
              clear hcode hv hv' hK hA1 hR1 hyes hl1 hl2 h60
              have HP1 := ((stays_law HV0.out (by simp) HWD.out HKK.out).2 R1 L1 HRR.out HAS.out hpc)
              have hR6 := Lib.hid HP1.2
              replace HP1 := HP1.1
              obtain ⟨a1, ha1⟩ : ∃ a1, (if inG 6 ex = true then min (inAt 6 at' (now + mem)) (now + last) else inAt 6 at' (now + mem)) = a1 := ⟨_, rfl⟩
              obtain ⟨e1, he1⟩ : ∃ e1, inEx 6 ex = e1 := ⟨_, rfl⟩
              obtain ⟨g1, hg1⟩ : ∃ g1, inG 6 ex = g1 := ⟨_, rfl⟩
              rw [ha1, he1] at hpc
              simp only [ha1]
              simp only [he1, hg1]
              rw [ha1, he1] at HP1
              replace HP1 := Lib.hid HP1
              have HPC := Lib.hid hpc; clear hpc
              have HE1 := Lib.hid he1; have HA1 := Lib.hid ha1; have HG1 := Lib.hid hg1
              have T1 := Lib.hid hT1; have S1 := Lib.hid hU1
              clear hT1 hU1 ha1 he1 hg1
              have hba : Below w3.heap.size w3 ((w3.alloc (.cells #[.bool e1, .int .i64 a1, .slice v1o L1.length v1c] 24)).alloc (.cells #[.bool g1, .slice u1o R1.length u1c] 44)) := (((Below.refl _ _).alloc (Nat.le_refl _) _).alloc (by simp <;> omega) _)
              replace Xc := Lib.hid (Xc.out.below hba Xc.out.lt)
              replace TL := Lib.hid (TL.out.mono hba)
              replace T1 := Lib.hid (T1.out.mono hba)
              replace SC := Lib.hid (SC.out.mono hba)
              replace S1 := Lib.hid (S1.out.mono hba)
              replace HB := Lib.hid (HB.out.trans (hba.mono HB.out.size))
              have Xs := Lib.hid (show CBox ((w3.alloc (.cells #[.bool e1, .int .i64 a1, .slice v1o L1.length v1c] 24)).alloc (.cells #[.bool g1, .slice u1o R1.length u1c] 44)) (w3.heap.size) 24 #[.bool e1, .int .i64 a1, .slice v1o L1.length v1c] from ((CBox.new _ (by simp)).old _))
              have Xk := Lib.hid (show CBox ((w3.alloc (.cells #[.bool e1, .int .i64 a1, .slice v1o L1.length v1c] 24)).alloc (.cells #[.bool g1, .slice u1o R1.length u1c] 44)) (w3.heap.size + 1) 44 #[.bool g1, .slice u1o R1.length u1c] from (CBox.new _ (by simp)))
              clear hba
              cases hn : R1.contains a
              · have x28 := (Xk.out.at_ 0 (.bool g1) rfl).1
                have x29 := (Xk.out.at_ 1 (.slice u1o R1.length u1c) rfl).1
                have HC := shas_any _ R1 a _ S1.out
                rw [hn] at HC
                replace HC := Lib.hid HC
                clear hn
                go_wp2_with fail
                refine HC.out.mono ?_
                clear HC
                rintro e w' ⟨rfl, rfl⟩
                have x30 := (Xs.out.at_ 0 (.bool e1) rfl).1
                have x31 := (Xs.out.at_ 1 (.int .i64 a1) rfl).1
                have x32 := (Xs.out.at_ 2 (.slice v1o L1.length v1c) rfl).1
                have HC := Lib.hid (admits_ok e1 a1 _ L1 now a ha _ T1.out HP1.out)
                go_wp2_with fail
                refine HC.out.mono ?_
                clear HC
                clear x28 x29 x30 x31 x32
                rintro e w4 ⟨rfl, hb⟩
                replace Xc := Lib.hid (Xc.out.below hb Xc.out.lt)
                replace Xs := Lib.hid (Xs.out.below hb Xs.out.lt)
                replace Xk := Lib.hid (Xk.out.below hb Xk.out.lt)
                replace TL := Lib.hid (TL.out.mono hb)
                replace T1 := Lib.hid (T1.out.mono hb)
                replace SC := Lib.hid (SC.out.mono hb)
                replace S1 := Lib.hid (S1.out.mono hb)
                replace HB := Lib.hid (HB.out.trans (hb.mono HB.out.size))
                clear hb
                go_wp2_with fail
                refine (live_yes _).mono ?_
                rintro e w5 ⟨rfl, hb⟩
                replace Xc := Lib.hid (Xc.out.below hb Xc.out.lt)
                replace Xs := Lib.hid (Xs.out.below hb Xs.out.lt)
                replace Xk := Lib.hid (Xk.out.below hb Xk.out.lt)
                replace TL := Lib.hid (TL.out.mono hb)
                replace T1 := Lib.hid (T1.out.mono hb)
                replace SC := Lib.hid (SC.out.mono hb)
                replace S1 := Lib.hid (S1.out.mono hb)
                replace HB := Lib.hid (HB.out.trans (hb.mono HB.out.size))
                clear hb
                go_wp2_with fail
                go_ret
                exact ⟨rfl, HB.out⟩
              · have x28 := (Xk.out.at_ 0 (.bool g1) rfl).1
                have x29 := (Xk.out.at_ 1 (.slice u1o R1.length u1c) rfl).1
                have HC := shas_any _ R1 a _ S1.out
                rw [hn] at HC
                replace HC := Lib.hid HC
                clear hn
                go_wp2_with fail
                refine HC.out.mono ?_
                clear HC
                rintro e w' ⟨rfl, rfl⟩
                have x30 := (Xc.out.at_ 0 (.bool ex) rfl).1
                have x31 := (Xc.out.at_ 1 (.int .i64 at') rfl).1
                have x32 := (Xc.out.at_ 2 (.slice vo L.length vc) rfl).1
                have x33 := (Xc.out.at_ 3 (.bool true) rfl).1
                have x34 := (Xc.out.at_ 4 (.int .i64 6) rfl).1
                have x35 := (Xc.out.at_ 5 (.string g) rfl).1
                have x36 := (Xc.out.at_ 6 (.slice ro C.length rc) rfl).1
                have x37 := (Xc.out.at_ 7 (.int .i64 mem) rfl).1
                have x38 := (Xc.out.at_ 8 (.int .i64 last) rfl).1
                have x39 := (Xs.out.at_ 0 (.bool e1) rfl).1
                have x40 := (Xs.out.at_ 1 (.int .i64 a1) rfl).1
                have x41 := (Xs.out.at_ 2 (.slice v1o L1.length v1c) rfl).1
                have HC := Lib.hid (admits_ok e1 a1 _ L1 now a ha _ T1.out HP1.out)
                go_wp2_with fail
                refine HC.out.mono ?_
                clear HC
                clear x28 x29 x30 x31 x32 x33 x34 x35 x36 x37 x38 x39 x40 x41
                rintro e w4 ⟨rfl, hb⟩
                replace Xc := Lib.hid (Xc.out.below hb Xc.out.lt)
                replace Xs := Lib.hid (Xs.out.below hb Xs.out.lt)
                replace Xk := Lib.hid (Xk.out.below hb Xk.out.lt)
                replace TL := Lib.hid (TL.out.mono hb)
                replace T1 := Lib.hid (T1.out.mono hb)
                replace SC := Lib.hid (SC.out.mono hb)
                replace S1 := Lib.hid (S1.out.mono hb)
                replace HB := Lib.hid (HB.out.trans (hb.mono HB.out.size))
                clear hb
                go_wp2_with fail
                refine (live_yes _).mono ?_
                rintro e w5 ⟨rfl, hb⟩
                replace Xc := Lib.hid (Xc.out.below hb Xc.out.lt)
                replace Xs := Lib.hid (Xs.out.below hb Xs.out.lt)
                replace Xk := Lib.hid (Xk.out.below hb Xk.out.lt)
                replace TL := Lib.hid (TL.out.mono hb)
                replace T1 := Lib.hid (T1.out.mono hb)
                replace SC := Lib.hid (SC.out.mono hb)
                replace S1 := Lib.hid (S1.out.mono hb)
                replace HB := Lib.hid (HB.out.trans (hb.mono HB.out.size))
                clear hb
                go_wp2_with fail
                go_ret
                exact ⟨rfl, HB.out⟩
      · have q1 : (kind != 1) = true := by rw [bne_iff_ne]; exact fun h => hk (.inl h)
        have q2 : (kind != 5) = true := by rw [bne_iff_ne]; exact fun h => hk (.inr (.inl h))
        have q3 : (kind != 6) = true := by rw [bne_iff_ne]; exact fun h => hk (.inr (.inr h))
        clear hk
        have x1 := (Xc.out.at_ 0 (.bool ex) rfl).1
        have x2 := (Xc.out.at_ 1 (.int .i64 at') rfl).1
        have x3 := (Xc.out.at_ 2 (.slice vo L.length vc) rfl).1
        have x4 := (Xc.out.at_ 3 (.bool true) rfl).1
        have x5 := (Xc.out.at_ 4 (.int .i64 kind) rfl).1
        have x6 := (Xc.out.at_ 5 (.string g) rfl).1
        have x7 := (Xc.out.at_ 6 (.slice ro C.length rc) rfl).1
        have x8 := (Xc.out.at_ 7 (.int .i64 mem) rfl).1
        have x9 := (Xc.out.at_ 8 (.int .i64 last) rfl).1
        have hf := Lib.hid hf0; clear hf0
        have HC := Lib.hid (few_yes ex at' _ L kind g _ C _ TL.out SC.out hf.out)
        go_wp2_with fail
        refine HC.out.mono ?_
        clear HC
        clear x1 x2 x3 x4 x5 x6 x7 x8 x9
        rintro e w1 ⟨rfl, hb⟩
        replace Xc := Lib.hid (Xc.out.below hb Xc.out.lt)
        replace TL := Lib.hid (TL.out.mono hb)
        replace SC := Lib.hid (SC.out.mono hb)
        replace HB := Lib.hid (HB.out.trans (hb.mono HB.out.size))
        clear hb
        have x10 := (Xc.out.at_ 0 (.bool ex) rfl).1
        have x11 := (Xc.out.at_ 1 (.int .i64 at') rfl).1
        have x12 := (Xc.out.at_ 2 (.slice vo L.length vc) rfl).1
        have x13 := (Xc.out.at_ 3 (.bool true) rfl).1
        have x14 := (Xc.out.at_ 4 (.int .i64 kind) rfl).1
        have x15 := (Xc.out.at_ 5 (.string g) rfl).1
        have x16 := (Xc.out.at_ 6 (.slice ro C.length rc) rfl).1
        have x17 := (Xc.out.at_ 7 (.int .i64 mem) rfl).1
        have x18 := (Xc.out.at_ 8 (.int .i64 last) rfl).1
        go_wp2_with fail
        refine (live_yes _).mono ?_
        clear x10 x11 x12 x13 x14 x15 x16 x17 x18
        rintro e w2 ⟨rfl, hb⟩
        replace Xc := Lib.hid (Xc.out.below hb Xc.out.lt)
        replace TL := Lib.hid (TL.out.mono hb)
        replace SC := Lib.hid (SC.out.mono hb)
        replace HB := Lib.hid (HB.out.trans (hb.mono HB.out.size))
        clear hb
        go_wp2_with fail
        go_ret
        exact ⟨rfl, HB.out⟩
  · have x1 := (Xc.out.at_ 0 (.bool ex) rfl).1
    have x2 := (Xc.out.at_ 1 (.int .i64 at') rfl).1
    have x3 := (Xc.out.at_ 2 (.slice vo L.length vc) rfl).1
    have x4 := (Xc.out.at_ 3 (.bool is) rfl).1
    have x5 := (Xc.out.at_ 4 (.int .i64 kind) rfl).1
    have x6 := (Xc.out.at_ 5 (.string g) rfl).1
    have x7 := (Xc.out.at_ 6 (.slice ro C.length rc) rfl).1
    have x8 := (Xc.out.at_ 7 (.int .i64 mem) rfl).1
    have x9 := (Xc.out.at_ 8 (.int .i64 last) rfl).1
    have hf := Lib.hid hf0; clear hf0
    have HC := Lib.hid (few_no ex at' _ L kind g _ C _ TL.out SC.out hf.out)
    go_wp2_with fail
    refine HC.out.mono ?_
    clear HC
    clear x1 x2 x3 x4 x5 x6 x7 x8 x9
    rintro e w1 ⟨rfl, hb⟩
    replace Xc := Lib.hid (Xc.out.below hb Xc.out.lt)
    replace TL := Lib.hid (TL.out.mono hb)
    replace SC := Lib.hid (SC.out.mono hb)
    replace HB := Lib.hid (HB.out.trans (hb.mono HB.out.size))
    clear hb
    go_wp2_with fail
    refine (live_yes _).mono ?_
    rintro e w2 ⟨rfl, hb⟩
    replace Xc := Lib.hid (Xc.out.below hb Xc.out.lt)
    replace TL := Lib.hid (TL.out.mono hb)
    replace SC := Lib.hid (SC.out.mono hb)
    replace HB := Lib.hid (HB.out.trans (hb.mono HB.out.size))
    clear hb
    go_wp2_with fail
    go_ret
    exact ⟨rfl, HB.out⟩
end Go.Proofs.Ytkphgonbbhlnfaa
