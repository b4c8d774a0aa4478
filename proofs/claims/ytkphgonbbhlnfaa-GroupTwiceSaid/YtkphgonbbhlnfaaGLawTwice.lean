/- The walk of GroupTwice. -/
import Derived.Test.YtkphgonbbhlnfaaGFew
import Derived.Test.YtkphgonbbhlnfaaGPlain2
namespace Go.Proofs.Ytkphgonbbhlnfaa
open Go.RowKit Go.Lib Go.Maps Go.Sort

set_option maxRecDepth 20000

set_option maxHeartbeats 2000000 in
theorem law_twice (ex : Bool) (at' : Int) (v : Value) (L : List Tmd) (is : Bool) (kind : Int) (g : ByteArray) (rv : Value) (C : List Str) (mem last : Int) (now : Int) (w : World) (h : Tms w v L) (wa : (Lit.int .i64 at').wf = true) (hr : Strs w rv C) :
    Calls Try.prog 9 #[.agg #[.bool ex, .int .i64 at', v, .bool is, .int .i64 kind, .string g, rv, .int .i64 mem, .int .i64 last], .int .i64 now] w fun e w' => e = .returned (.bool true) ∧ Below w.heap.size w w' := by
  obtain ⟨vo, vc, rfl⟩ := h.shape
  obtain ⟨ro, rc, rfl⟩ := hr.shape
  have HB := Lib.hid (Below.refl w.heap.size w)
  have TL := Lib.hid h
  have SC := Lib.hid hr
  clear h hr
  have hba : Below w.heap.size w (w.alloc (.cells #[.bool ex, .int .i64 at', .slice vo L.length vc, .bool is, .int .i64 kind, .string g, .slice ro C.length rc, .int .i64 mem, .int .i64 last] 41)) := ((Below.refl _ _).alloc (Nat.le_refl _) _)
  replace TL := Lib.hid (TL.out.mono hba)
  replace SC := Lib.hid (SC.out.mono hba)
  replace HB := Lib.hid (HB.out.trans (hba.mono HB.out.size))
  have Xc := Lib.hid (show CBox (w.alloc (.cells #[.bool ex, .int .i64 at', .slice vo L.length vc, .bool is, .int .i64 kind, .string g, .slice ro C.length rc, .int .i64 mem, .int .i64 last] 41)) (w.heap.size) 41 #[.bool ex, .int .i64 at', .slice vo L.length vc, .bool is, .int .i64 kind, .string g, .slice ro C.length rc, .int .i64 mem, .int .i64 last] from (CBox.new _ (by simp)))
  clear hba
  go_enter Try.func9, Try.ntmps9
  by_cases hf0 : L.length ≤ 100 ∧ C.length ≤ 100
  · by_cases hk : kind = 1 ∨ kind = 2 ∨ kind = 5
    · rcases hk with rfl | rfl | rfl
      · have x1 := (Xc.out.at_ 0 (.bool ex) rfl).1
        have x2 := (Xc.out.at_ 1 (.int .i64 at') rfl).1
        have x3 := (Xc.out.at_ 2 (.slice vo L.length vc) rfl).1
        have x4 := (Xc.out.at_ 3 (.bool is) rfl).1
        have x5 := (Xc.out.at_ 4 (.int .i64 1) rfl).1
        have x6 := (Xc.out.at_ 5 (.string g) rfl).1
        have x7 := (Xc.out.at_ 6 (.slice ro C.length rc) rfl).1
        have x8 := (Xc.out.at_ 7 (.int .i64 mem) rfl).1
        have x9 := (Xc.out.at_ 8 (.int .i64 last) rfl).1
        have hf := Lib.hid hf0; clear hf0
        have HC := Lib.hid (few_yes ex at' _ L 1 g _ C _ TL.out SC.out hf.out)
        go_wp2_with fail
        refine HC.out.mono ?_
        clear HC
        clear x1 x2 x3 x4 x5 x6 x7 x8 x9
        rintro e w1 ⟨rfl, hb⟩
        replace Xc := Lib.hid (Xc.out.below hb Xc.out.lt)
        replace TL := Lib.hid (TL.out.mono hb)
        replace SC := Lib.hid (SC.out.mono hb)
        replace HB := Lib.hid (HB.out.trans (hb.mono HB.out.size))
        clear hb
        have x10 := (Xc.out.at_ 0 (.bool ex) rfl).1
        have x11 := (Xc.out.at_ 1 (.int .i64 at') rfl).1
        have x12 := (Xc.out.at_ 2 (.slice vo L.length vc) rfl).1
        have x13 := (Xc.out.at_ 3 (.bool is) rfl).1
        have x14 := (Xc.out.at_ 4 (.int .i64 1) rfl).1
        have x15 := (Xc.out.at_ 5 (.string g) rfl).1
        have x16 := (Xc.out.at_ 6 (.slice ro C.length rc) rfl).1
        have x17 := (Xc.out.at_ 7 (.int .i64 mem) rfl).1
        have x18 := (Xc.out.at_ 8 (.int .i64 last) rfl).1
        have HC := Lib.hid (apply_any ex at' _ L is 1 g _ C now mem last _ TL.out SC.out wa)
        go_wp2_with fail
        refine HC.out.mono ?_
        clear HC
        clear x10 x11 x12 x13 x14 x15 x16 x17 x18
        rintro e w2 ⟨hb, hres⟩
        replace Xc := Lib.hid (Xc.out.below hb Xc.out.lt)
        replace TL := Lib.hid (TL.out.mono hb)
        replace SC := Lib.hid (SC.out.mono hb)
        replace HB := Lib.hid (HB.out.trans (hb.mono HB.out.size))
        clear hb
        obtain ⟨code, hcode⟩ : ∃ code, code = verdict (pcheck (is && ex) (if is then at' else 0) (if is then L else [])) 1 C.length now mem last := ⟨_, rfl⟩
        rw [← hcode] at hres
        rcases hres with ⟨hv, rfl⟩ | ⟨hv, K, hK, ⟨h60, rfl⟩ | ⟨h60, hno, rfl⟩ | ⟨h60, hyes, v1, L1, u1, R1, rfl, hT1, hU1, hR1, hA1, hl1, hl2⟩⟩
        · have hcb : (code != 0) = true := by simpa using hv
          clear hcode hv
          simp only [noState, noAsk]
          have hba : Below w2.heap.size w2 ((w2.alloc (.cells #[.bool false, .int .i64 0, .slice none 0 0] 24)).alloc (.cells #[.bool false, .slice none 0 0] 44)) := (((Below.refl _ _).alloc (Nat.le_refl _) _).alloc (by simp <;> omega) _)
          replace Xc := Lib.hid (Xc.out.below hba Xc.out.lt)
          replace TL := Lib.hid (TL.out.mono hba)
          replace SC := Lib.hid (SC.out.mono hba)
          replace HB := Lib.hid (HB.out.trans (hba.mono HB.out.size))
          have Xs := Lib.hid (show CBox ((w2.alloc (.cells #[.bool false, .int .i64 0, .slice none 0 0] 24)).alloc (.cells #[.bool false, .slice none 0 0] 44)) (w2.heap.size) 24 #[.bool false, .int .i64 0, .slice none 0 0] from ((CBox.new _ (by simp)).old _))
          have Xk := Lib.hid (show CBox ((w2.alloc (.cells #[.bool false, .int .i64 0, .slice none 0 0] 24)).alloc (.cells #[.bool false, .slice none 0 0] 44)) (w2.heap.size + 1) 44 #[.bool false, .slice none 0 0] from (CBox.new _ (by simp)))
          clear hba
          go_wp2_with fail
          refine (live_yes _).mono ?_
          rintro e w3 ⟨rfl, hb⟩
          replace Xc := Lib.hid (Xc.out.below hb Xc.out.lt)
          replace Xs := Lib.hid (Xs.out.below hb Xs.out.lt)
          replace Xk := Lib.hid (Xk.out.below hb Xk.out.lt)
          replace TL := Lib.hid (TL.out.mono hb)
          replace SC := Lib.hid (SC.out.mono hb)
          replace HB := Lib.hid (HB.out.trans (hb.mono HB.out.size))
          clear hb
          go_wp2_with fail
          go_ret
          exact ⟨rfl, HB.out⟩
        · clear hcode hv hK h60
          simp only [noState, noAsk]
          have hba : Below w2.heap.size w2 ((w2.alloc (.cells #[.bool false, .int .i64 0, .slice none 0 0] 24)).alloc (.cells #[.bool false, .slice none 0 0] 44)) := (((Below.refl _ _).alloc (Nat.le_refl _) _).alloc (by simp <;> omega) _)
          replace Xc := Lib.hid (Xc.out.below hba Xc.out.lt)
          replace TL := Lib.hid (TL.out.mono hba)
          replace SC := Lib.hid (SC.out.mono hba)
          replace HB := Lib.hid (HB.out.trans (hba.mono HB.out.size))
          have Xs := Lib.hid (show CBox ((w2.alloc (.cells #[.bool false, .int .i64 0, .slice none 0 0] 24)).alloc (.cells #[.bool false, .slice none 0 0] 44)) (w2.heap.size) 24 #[.bool false, .int .i64 0, .slice none 0 0] from ((CBox.new _ (by simp)).old _))
          have Xk := Lib.hid (show CBox ((w2.alloc (.cells #[.bool false, .int .i64 0, .slice none 0 0] 24)).alloc (.cells #[.bool false, .slice none 0 0] 44)) (w2.heap.size + 1) 44 #[.bool false, .slice none 0 0] from (CBox.new _ (by simp)))
          clear hba
          go_wp2_with fail
          refine (live_yes _).mono ?_
          rintro e w3 ⟨rfl, hb⟩
          replace Xc := Lib.hid (Xc.out.below hb Xc.out.lt)
          replace Xs := Lib.hid (Xs.out.below hb Xs.out.lt)
          replace Xk := Lib.hid (Xk.out.below hb Xk.out.lt)
          replace TL := Lib.hid (TL.out.mono hb)
          replace SC := Lib.hid (SC.out.mono hb)
          replace HB := Lib.hid (HB.out.trans (hb.mono HB.out.size))
          clear hb
          go_wp2_with fail
          go_ret
          exact ⟨rfl, HB.out⟩
        · have HV0 := Lib.hid (hcode.symm.trans hv); have HKK := Lib.hid hK; have HNO := Lib.hid hno; clear hcode hv hK h60 hno
          simp only [noState, noAsk]
          have hba : Below w2.heap.size w2 ((w2.alloc (.cells #[.bool false, .int .i64 0, .slice none 0 0] 24)).alloc (.cells #[.bool false, .slice none 0 0] 44)) := (((Below.refl _ _).alloc (Nat.le_refl _) _).alloc (by simp <;> omega) _)
          replace Xc := Lib.hid (Xc.out.below hba Xc.out.lt)
          replace TL := Lib.hid (TL.out.mono hba)
          replace SC := Lib.hid (SC.out.mono hba)
          replace HB := Lib.hid (HB.out.trans (hba.mono HB.out.size))
          have Xs := Lib.hid (show CBox ((w2.alloc (.cells #[.bool false, .int .i64 0, .slice none 0 0] 24)).alloc (.cells #[.bool false, .slice none 0 0] 44)) (w2.heap.size) 24 #[.bool false, .int .i64 0, .slice none 0 0] from ((CBox.new _ (by simp)).old _))
          have Xk := Lib.hid (show CBox ((w2.alloc (.cells #[.bool false, .int .i64 0, .slice none 0 0] 24)).alloc (.cells #[.bool false, .slice none 0 0] 44)) (w2.heap.size + 1) 44 #[.bool false, .slice none 0 0] from (CBox.new _ (by simp)))
          clear hba
          go_wp2_with fail
          refine (live_yes _).mono ?_
          rintro e w3 ⟨rfl, hb⟩
          replace Xc := Lib.hid (Xc.out.below hb Xc.out.lt)
          replace Xs := Lib.hid (Xs.out.below hb Xs.out.lt)
          replace Xk := Lib.hid (Xk.out.below hb Xk.out.lt)
          replace TL := Lib.hid (TL.out.mono hb)
          replace SC := Lib.hid (SC.out.mono hb)
          replace HB := Lib.hid (HB.out.trans (hb.mono HB.out.size))
          clear hb
          go_wp2_with fail
          go_ret
          exact ⟨rfl, HB.out⟩
        · have hv' := hcode.symm.trans hv
          have hpc := app_check hv' hK h60 hA1
          obtain ⟨v1o, v1c, rfl⟩ := hT1.shape
          obtain ⟨u1o, u1c, rfl⟩ := hU1.shape
          have HV0 := Lib.hid hv'; have HKK := Lib.hid hK; have HAS := Lib.hid hA1; have HRR := Lib.hid hR1; have HYES := Lib.hid hyes; have H60 := Lib.hid h60
          clear hcode hv hv' hK hA1 hR1 hyes hl1 hl2 h60
          obtain ⟨hR0, hG0, hG2, hE2, hT2, hAs, hF2, hQ2⟩ := twice_law HV0.out (by simp) HRR.out HAS.out
          subst hR0
          have HTW := Lib.hid (And.intro hG0 (And.intro hG2 (And.intro hE2 (And.intro hT2 (And.intro hAs (And.intro hF2 hQ2))))))
          rw [hG0] at hpc ⊢
          simp only [Bool.false_eq_true, if_false] at hpc ⊢
          obtain ⟨a1, ha1⟩ : ∃ a1, inAt 1 (if is then at' else 0) (now + mem) = a1 := ⟨_, rfl⟩
          obtain ⟨e1, he1⟩ : ∃ e1, inEx 1 (is && ex) = e1 := ⟨_, rfl⟩
          rw [ha1, he1] at hpc
          simp only [ha1, he1, List.length_nil]
          have HPC := Lib.hid hpc; have HA1 := Lib.hid ha1; have HE1 := Lib.hid he1
          have T1 := Lib.hid hT1
          have wa1 : (Lit.int .i64 a1).wf = true := by
            obtain ⟨_, h1, h2, h3, h4, _⟩ := verdict_ok HV0.out
            rw [← ha1]; unfold inAt; split
            · exact WalkArith.wf_i64 (n := now + mem) (by omega)
            · split
              · exact wa
              · rfl
          clear hpc ha1 he1 hT1 hU1 hG0 hG2 hE2 hT2 hAs hF2 hQ2
          have hba : Below w2.heap.size w2 ((w2.alloc (.cells #[.bool e1, .int .i64 a1, .slice v1o L1.length v1c] 24)).alloc (.cells #[.bool false, .slice u1o 0 u1c] 44)) := (((Below.refl _ _).alloc (Nat.le_refl _) _).alloc (by simp <;> omega) _)
          replace Xc := Lib.hid (Xc.out.below hba Xc.out.lt)
          replace TL := Lib.hid (TL.out.mono hba)
          replace T1 := Lib.hid (T1.out.mono hba)
          replace SC := Lib.hid (SC.out.mono hba)
          replace HB := Lib.hid (HB.out.trans (hba.mono HB.out.size))
          have Xs := Lib.hid (show CBox ((w2.alloc (.cells #[.bool e1, .int .i64 a1, .slice v1o L1.length v1c] 24)).alloc (.cells #[.bool false, .slice u1o 0 u1c] 44)) (w2.heap.size) 24 #[.bool e1, .int .i64 a1, .slice v1o L1.length v1c] from ((CBox.new _ (by simp)).old _))
          have Xk := Lib.hid (show CBox ((w2.alloc (.cells #[.bool e1, .int .i64 a1, .slice v1o L1.length v1c] 24)).alloc (.cells #[.bool false, .slice u1o 0 u1c] 44)) (w2.heap.size + 1) 44 #[.bool false, .slice u1o 0 u1c] from (CBox.new _ (by simp)))
          clear hba
          have x19 := (Xs.out.at_ 0 (.bool e1) rfl).1
          have x20 := (Xs.out.at_ 1 (.int .i64 a1) rfl).1
          have x21 := (Xs.out.at_ 2 (.slice v1o L1.length v1c) rfl).1
          have x22 := (Xc.out.at_ 0 (.bool ex) rfl).1
          have x23 := (Xc.out.at_ 1 (.int .i64 at') rfl).1
          have x24 := (Xc.out.at_ 2 (.slice vo L.length vc) rfl).1
          have x25 := (Xc.out.at_ 3 (.bool is) rfl).1
          have x26 := (Xc.out.at_ 4 (.int .i64 1) rfl).1
          have x27 := (Xc.out.at_ 5 (.string g) rfl).1
          have x28 := (Xc.out.at_ 6 (.slice ro C.length rc) rfl).1
          have x29 := (Xc.out.at_ 7 (.int .i64 mem) rfl).1
          have x30 := (Xc.out.at_ 8 (.int .i64 last) rfl).1
          have HC := Lib.hid (apply_any e1 a1 _ L1 true 1 g _ C now mem last _ T1.out SC.out wa1)
          go_wp2_with fail
          refine HC.out.mono ?_
          clear HC
          clear x19 x20 x21 x22 x23 x24 x25 x26 x27 x28 x29 x30
          rintro e w3 ⟨hb, hres⟩
          replace Xc := Lib.hid (Xc.out.below hb Xc.out.lt)
          replace Xs := Lib.hid (Xs.out.below hb Xs.out.lt)
          replace Xk := Lib.hid (Xk.out.below hb Xk.out.lt)
          replace TL := Lib.hid (TL.out.mono hb)
          replace T1 := Lib.hid (T1.out.mono hb)
          replace SC := Lib.hid (SC.out.mono hb)
          replace HB := Lib.hid (HB.out.trans (hb.mono HB.out.size))
          clear hb
          simp only [Bool.true_and, if_true] at hres
          have hv2 : verdict (pcheck e1 a1 L1) 1 C.length now mem last = 0 := by
            have h0 := HV0.out
            have h1 := (verdict_ok h0).1
            rw [h1] at h0; rw [HPC.out]; exact h0
          obtain ⟨hG0, hG2, hE2, hT2, hAs, hF2, hQ2⟩ := HTW.out
          rw [HE1.out] at hG2 hE2 hF2 hQ2; rw [HA1.out] at hT2 hF2 hQ2
          rcases hres with ⟨hv, rfl⟩ | ⟨_, K2, hK2, ⟨h60, rfl⟩ | ⟨h60, hno, rfl⟩ | ⟨h60, hyes, v3, L3, u3, R3, rfl, hT3, hU3, hR3, hA3, _, _⟩⟩
          · exact absurd hv2 hv
          · exfalso; rw [hF2] at hK2; have := keys_unique hK2 HKK.out; rw [this] at h60; have := H60.out; omega
          · exfalso; rw [hF2] at hK2; rw [keys_unique hK2 HKK.out, hE2, ← HE1.out] at hno; exact HYES.out hno
          have hR3' := hQ2 R3 hR3
          subst hR3'
          rw [soonF_nil, hF2] at hA3
          have hL3 : L3 = L1 := asc_unique hA3 hAs
          subst hL3
          obtain ⟨v3o, v3c, rfl⟩ := hT3.shape
          obtain ⟨u3o, u3c, rfl⟩ := hU3.shape
          simp only [hG2, Bool.false_eq_true, if_false, hE2, hT2, List.length_nil]
          have T3 := Lib.hid hT3
          clear hR3 hA3 hT3 hU3 hK2 hyes h60 hv2 hG0 hG2 hE2 hT2 hAs hF2 hQ2
          have hba : Below w3.heap.size w3 ((w3.alloc (.cells #[.bool e1, .int .i64 a1, .slice v3o L3.length v3c] 24)).alloc (.cells #[.bool false, .slice u3o 0 u3c] 44)) := (((Below.refl _ _).alloc (Nat.le_refl _) _).alloc (by simp <;> omega) _)
          replace Xc := Lib.hid (Xc.out.below hba Xc.out.lt)
          replace Xs := Lib.hid (Xs.out.below hba Xs.out.lt)
          replace Xk := Lib.hid (Xk.out.below hba Xk.out.lt)
          replace TL := Lib.hid (TL.out.mono hba)
          replace T1 := Lib.hid (T1.out.mono hba)
          replace T3 := Lib.hid (T3.out.mono hba)
          replace SC := Lib.hid (SC.out.mono hba)
          replace HB := Lib.hid (HB.out.trans (hba.mono HB.out.size))
          have Xt := Lib.hid (show CBox ((w3.alloc (.cells #[.bool e1, .int .i64 a1, .slice v3o L3.length v3c] 24)).alloc (.cells #[.bool false, .slice u3o 0 u3c] 44)) (w3.heap.size) 24 #[.bool e1, .int .i64 a1, .slice v3o L3.length v3c] from ((CBox.new _ (by simp)).old _))
          have Xm := Lib.hid (show CBox ((w3.alloc (.cells #[.bool e1, .int .i64 a1, .slice v3o L3.length v3c] 24)).alloc (.cells #[.bool false, .slice u3o 0 u3c] 44)) (w3.heap.size + 1) 44 #[.bool false, .slice u3o 0 u3c] from (CBox.new _ (by simp)))
          clear hba
          have x31 := (Xs.out.at_ 0 (.bool e1) rfl).1
          have x32 := (Xs.out.at_ 1 (.int .i64 a1) rfl).1
          have x33 := (Xs.out.at_ 2 (.slice v1o L3.length v1c) rfl).1
          have x34 := (Xt.out.at_ 0 (.bool e1) rfl).1
          have x35 := (Xt.out.at_ 1 (.int .i64 a1) rfl).1
          have x36 := (Xt.out.at_ 2 (.slice v3o L3.length v3c) rfl).1
          have HC := Lib.hid (tsame_yes e1 a1 _ _ L3 _ T1.out T3.out)
          go_wp2_with fail
          refine HC.out.mono ?_
          clear HC
          clear x31 x32 x33 x34 x35 x36
          rintro e w4 ⟨rfl, hb⟩
          replace Xc := Lib.hid (Xc.out.below hb Xc.out.lt)
          replace Xs := Lib.hid (Xs.out.below hb Xs.out.lt)
          replace Xk := Lib.hid (Xk.out.below hb Xk.out.lt)
          replace Xt := Lib.hid (Xt.out.below hb Xt.out.lt)
          replace Xm := Lib.hid (Xm.out.below hb Xm.out.lt)
          replace TL := Lib.hid (TL.out.mono hb)
          replace T1 := Lib.hid (T1.out.mono hb)
          replace T3 := Lib.hid (T3.out.mono hb)
          replace SC := Lib.hid (SC.out.mono hb)
          replace HB := Lib.hid (HB.out.trans (hb.mono HB.out.size))
          clear hb
          have x37 := (Xk.out.at_ 0 (.bool false) rfl).1
          have x38 := (Xk.out.at_ 1 (.slice u1o 0 u1c) rfl).1
          have x39 := (Xm.out.at_ 0 (.bool false) rfl).1
          have x40 := (Xm.out.at_ 1 (.slice u3o 0 u3c) rfl).1
          go_wp2_with fail
          refine (live_yes _).mono ?_
          clear x37 x38 x39 x40
          rintro e w5 ⟨rfl, hb⟩
          replace Xc := Lib.hid (Xc.out.below hb Xc.out.lt)
          replace Xs := Lib.hid (Xs.out.below hb Xs.out.lt)
          replace Xk := Lib.hid (Xk.out.below hb Xk.out.lt)
          replace Xt := Lib.hid (Xt.out.below hb Xt.out.lt)
          replace Xm := Lib.hid (Xm.out.below hb Xm.out.lt)
          replace TL := Lib.hid (TL.out.mono hb)
          replace T1 := Lib.hid (T1.out.mono hb)
          replace T3 := Lib.hid (T3.out.mono hb)
          replace SC := Lib.hid (SC.out.mono hb)
          replace HB := Lib.hid (HB.out.trans (hb.mono HB.out.size))
          clear hb
          go_wp2_with fail
          go_ret
          exact ⟨rfl, HB.out⟩
      · have x1 := (Xc.out.at_ 0 (.bool ex) rfl).1
        have x2 := (Xc.out.at_ 1 (.int .i64 at') rfl).1
        have x3 := (Xc.out.at_ 2 (.slice vo L.length vc) rfl).1
        have x4 := (Xc.out.at_ 3 (.bool is) rfl).1
        have x5 := (Xc.out.at_ 4 (.int .i64 2) rfl).1
        have x6 := (Xc.out.at_ 5 (.string g) rfl).1
        have x7 := (Xc.out.at_ 6 (.slice ro C.length rc) rfl).1
        have x8 := (Xc.out.at_ 7 (.int .i64 mem) rfl).1
        have x9 := (Xc.out.at_ 8 (.int .i64 last) rfl).1
        have hf := Lib.hid hf0; clear hf0
        have HC := Lib.hid (few_yes ex at' _ L 2 g _ C _ TL.out SC.out hf.out)
        go_wp2_with fail
        refine HC.out.mono ?_
        clear HC
        clear x1 x2 x3 x4 x5 x6 x7 x8 x9
        rintro e w1 ⟨rfl, hb⟩
        replace Xc := Lib.hid (Xc.out.below hb Xc.out.lt)
        replace TL := Lib.hid (TL.out.mono hb)
        replace SC := Lib.hid (SC.out.mono hb)
        replace HB := Lib.hid (HB.out.trans (hb.mono HB.out.size))
        clear hb
        have x10 := (Xc.out.at_ 0 (.bool ex) rfl).1
        have x11 := (Xc.out.at_ 1 (.int .i64 at') rfl).1
        have x12 := (Xc.out.at_ 2 (.slice vo L.length vc) rfl).1
        have x13 := (Xc.out.at_ 3 (.bool is) rfl).1
        have x14 := (Xc.out.at_ 4 (.int .i64 2) rfl).1
        have x15 := (Xc.out.at_ 5 (.string g) rfl).1
        have x16 := (Xc.out.at_ 6 (.slice ro C.length rc) rfl).1
        have x17 := (Xc.out.at_ 7 (.int .i64 mem) rfl).1
        have x18 := (Xc.out.at_ 8 (.int .i64 last) rfl).1
        have HC := Lib.hid (apply_any ex at' _ L is 2 g _ C now mem last _ TL.out SC.out wa)
        go_wp2_with fail
        refine HC.out.mono ?_
        clear HC
        clear x10 x11 x12 x13 x14 x15 x16 x17 x18
        rintro e w2 ⟨hb, hres⟩
        replace Xc := Lib.hid (Xc.out.below hb Xc.out.lt)
        replace TL := Lib.hid (TL.out.mono hb)
        replace SC := Lib.hid (SC.out.mono hb)
        replace HB := Lib.hid (HB.out.trans (hb.mono HB.out.size))
        clear hb
        obtain ⟨code, hcode⟩ : ∃ code, code = verdict (pcheck (is && ex) (if is then at' else 0) (if is then L else [])) 2 C.length now mem last := ⟨_, rfl⟩
        rw [← hcode] at hres
        rcases hres with ⟨hv, rfl⟩ | ⟨hv, K, hK, ⟨h60, rfl⟩ | ⟨h60, hno, rfl⟩ | ⟨h60, hyes, v1, L1, u1, R1, rfl, hT1, hU1, hR1, hA1, hl1, hl2⟩⟩
        · have hcb : (code != 0) = true := by simpa using hv
          clear hcode hv
          simp only [noState, noAsk]
          have hba : Below w2.heap.size w2 ((w2.alloc (.cells #[.bool false, .int .i64 0, .slice none 0 0] 24)).alloc (.cells #[.bool false, .slice none 0 0] 44)) := (((Below.refl _ _).alloc (Nat.le_refl _) _).alloc (by simp <;> omega) _)
          replace Xc := Lib.hid (Xc.out.below hba Xc.out.lt)
          replace TL := Lib.hid (TL.out.mono hba)
          replace SC := Lib.hid (SC.out.mono hba)
          replace HB := Lib.hid (HB.out.trans (hba.mono HB.out.size))
          have Xs := Lib.hid (show CBox ((w2.alloc (.cells #[.bool false, .int .i64 0, .slice none 0 0] 24)).alloc (.cells #[.bool false, .slice none 0 0] 44)) (w2.heap.size) 24 #[.bool false, .int .i64 0, .slice none 0 0] from ((CBox.new _ (by simp)).old _))
          have Xk := Lib.hid (show CBox ((w2.alloc (.cells #[.bool false, .int .i64 0, .slice none 0 0] 24)).alloc (.cells #[.bool false, .slice none 0 0] 44)) (w2.heap.size + 1) 44 #[.bool false, .slice none 0 0] from (CBox.new _ (by simp)))
          clear hba
          go_wp2_with fail
          refine (live_yes _).mono ?_
          rintro e w3 ⟨rfl, hb⟩
          replace Xc := Lib.hid (Xc.out.below hb Xc.out.lt)
          replace Xs := Lib.hid (Xs.out.below hb Xs.out.lt)
          replace Xk := Lib.hid (Xk.out.below hb Xk.out.lt)
          replace TL := Lib.hid (TL.out.mono hb)
          replace SC := Lib.hid (SC.out.mono hb)
          replace HB := Lib.hid (HB.out.trans (hb.mono HB.out.size))
          clear hb
          go_wp2_with fail
          go_ret
          exact ⟨rfl, HB.out⟩
        · clear hcode hv hK h60
          simp only [noState, noAsk]
          have hba : Below w2.heap.size w2 ((w2.alloc (.cells #[.bool false, .int .i64 0, .slice none 0 0] 24)).alloc (.cells #[.bool false, .slice none 0 0] 44)) := (((Below.refl _ _).alloc (Nat.le_refl _) _).alloc (by simp <;> omega) _)
          replace Xc := Lib.hid (Xc.out.below hba Xc.out.lt)
          replace TL := Lib.hid (TL.out.mono hba)
          replace SC := Lib.hid (SC.out.mono hba)
          replace HB := Lib.hid (HB.out.trans (hba.mono HB.out.size))
          have Xs := Lib.hid (show CBox ((w2.alloc (.cells #[.bool false, .int .i64 0, .slice none 0 0] 24)).alloc (.cells #[.bool false, .slice none 0 0] 44)) (w2.heap.size) 24 #[.bool false, .int .i64 0, .slice none 0 0] from ((CBox.new _ (by simp)).old _))
          have Xk := Lib.hid (show CBox ((w2.alloc (.cells #[.bool false, .int .i64 0, .slice none 0 0] 24)).alloc (.cells #[.bool false, .slice none 0 0] 44)) (w2.heap.size + 1) 44 #[.bool false, .slice none 0 0] from (CBox.new _ (by simp)))
          clear hba
          go_wp2_with fail
          refine (live_yes _).mono ?_
          rintro e w3 ⟨rfl, hb⟩
          replace Xc := Lib.hid (Xc.out.below hb Xc.out.lt)
          replace Xs := Lib.hid (Xs.out.below hb Xs.out.lt)
          replace Xk := Lib.hid (Xk.out.below hb Xk.out.lt)
          replace TL := Lib.hid (TL.out.mono hb)
          replace SC := Lib.hid (SC.out.mono hb)
          replace HB := Lib.hid (HB.out.trans (hb.mono HB.out.size))
          clear hb
          go_wp2_with fail
          go_ret
          exact ⟨rfl, HB.out⟩
        · have HV0 := Lib.hid (hcode.symm.trans hv); have HKK := Lib.hid hK; have HNO := Lib.hid hno; clear hcode hv hK h60 hno
          simp only [noState, noAsk]
          have hba : Below w2.heap.size w2 ((w2.alloc (.cells #[.bool false, .int .i64 0, .slice none 0 0] 24)).alloc (.cells #[.bool false, .slice none 0 0] 44)) := (((Below.refl _ _).alloc (Nat.le_refl _) _).alloc (by simp <;> omega) _)
          replace Xc := Lib.hid (Xc.out.below hba Xc.out.lt)
          replace TL := Lib.hid (TL.out.mono hba)
          replace SC := Lib.hid (SC.out.mono hba)
          replace HB := Lib.hid (HB.out.trans (hba.mono HB.out.size))
          have Xs := Lib.hid (show CBox ((w2.alloc (.cells #[.bool false, .int .i64 0, .slice none 0 0] 24)).alloc (.cells #[.bool false, .slice none 0 0] 44)) (w2.heap.size) 24 #[.bool false, .int .i64 0, .slice none 0 0] from ((CBox.new _ (by simp)).old _))
          have Xk := Lib.hid (show CBox ((w2.alloc (.cells #[.bool false, .int .i64 0, .slice none 0 0] 24)).alloc (.cells #[.bool false, .slice none 0 0] 44)) (w2.heap.size + 1) 44 #[.bool false, .slice none 0 0] from (CBox.new _ (by simp)))
          clear hba
          go_wp2_with fail
          refine (live_yes _).mono ?_
          rintro e w3 ⟨rfl, hb⟩
          replace Xc := Lib.hid (Xc.out.below hb Xc.out.lt)
          replace Xs := Lib.hid (Xs.out.below hb Xs.out.lt)
          replace Xk := Lib.hid (Xk.out.below hb Xk.out.lt)
          replace TL := Lib.hid (TL.out.mono hb)
          replace SC := Lib.hid (SC.out.mono hb)
          replace HB := Lib.hid (HB.out.trans (hb.mono HB.out.size))
          clear hb
          go_wp2_with fail
          go_ret
          exact ⟨rfl, HB.out⟩
        · have hv' := hcode.symm.trans hv
          have hpc := app_check hv' hK h60 hA1
          obtain ⟨v1o, v1c, rfl⟩ := hT1.shape
          obtain ⟨u1o, u1c, rfl⟩ := hU1.shape
          have HV0 := Lib.hid hv'; have HKK := Lib.hid hK; have HAS := Lib.hid hA1; have HRR := Lib.hid hR1; have HYES := Lib.hid hyes; have H60 := Lib.hid h60
          clear hcode hv hv' hK hA1 hR1 hyes hl1 hl2 h60
          obtain ⟨hR0, hG0, hG2, hE2, hT2, hAs, hF2, hQ2⟩ := twice_law HV0.out (by simp) HRR.out HAS.out
          subst hR0
          have HTW := Lib.hid (And.intro hG0 (And.intro hG2 (And.intro hE2 (And.intro hT2 (And.intro hAs (And.intro hF2 hQ2))))))
          rw [hG0] at hpc ⊢
          simp only [Bool.false_eq_true, if_false] at hpc ⊢
          obtain ⟨a1, ha1⟩ : ∃ a1, inAt 2 (if is then at' else 0) (now + mem) = a1 := ⟨_, rfl⟩
          obtain ⟨e1, he1⟩ : ∃ e1, inEx 2 (is && ex) = e1 := ⟨_, rfl⟩
          rw [ha1, he1] at hpc
          simp only [ha1, he1, List.length_nil]
          have HPC := Lib.hid hpc; have HA1 := Lib.hid ha1; have HE1 := Lib.hid he1
          have T1 := Lib.hid hT1
          have wa1 : (Lit.int .i64 a1).wf = true := by
            obtain ⟨_, h1, h2, h3, h4, _⟩ := verdict_ok HV0.out
            rw [← ha1]; unfold inAt; split
            · exact WalkArith.wf_i64 (n := now + mem) (by omega)
            · split
              · exact wa
              · rfl
          clear hpc ha1 he1 hT1 hU1 hG0 hG2 hE2 hT2 hAs hF2 hQ2
          have hba : Below w2.heap.size w2 ((w2.alloc (.cells #[.bool e1, .int .i64 a1, .slice v1o L1.length v1c] 24)).alloc (.cells #[.bool false, .slice u1o 0 u1c] 44)) := (((Below.refl _ _).alloc (Nat.le_refl _) _).alloc (by simp <;> omega) _)
          replace Xc := Lib.hid (Xc.out.below hba Xc.out.lt)
          replace TL := Lib.hid (TL.out.mono hba)
          replace T1 := Lib.hid (T1.out.mono hba)
          replace SC := Lib.hid (SC.out.mono hba)
          replace HB := Lib.hid (HB.out.trans (hba.mono HB.out.size))
          have Xs := Lib.hid (show CBox ((w2.alloc (.cells #[.bool e1, .int .i64 a1, .slice v1o L1.length v1c] 24)).alloc (.cells #[.bool false, .slice u1o 0 u1c] 44)) (w2.heap.size) 24 #[.bool e1, .int .i64 a1, .slice v1o L1.length v1c] from ((CBox.new _ (by simp)).old _))
          have Xk := Lib.hid (show CBox ((w2.alloc (.cells #[.bool e1, .int .i64 a1, .slice v1o L1.length v1c] 24)).alloc (.cells #[.bool false, .slice u1o 0 u1c] 44)) (w2.heap.size + 1) 44 #[.bool false, .slice u1o 0 u1c] from (CBox.new _ (by simp)))
          clear hba
          have x19 := (Xs.out.at_ 0 (.bool e1) rfl).1
          have x20 := (Xs.out.at_ 1 (.int .i64 a1) rfl).1
          have x21 := (Xs.out.at_ 2 (.slice v1o L1.length v1c) rfl).1
          have x22 := (Xc.out.at_ 0 (.bool ex) rfl).1
          have x23 := (Xc.out.at_ 1 (.int .i64 at') rfl).1
          have x24 := (Xc.out.at_ 2 (.slice vo L.length vc) rfl).1
          have x25 := (Xc.out.at_ 3 (.bool is) rfl).1
          have x26 := (Xc.out.at_ 4 (.int .i64 2) rfl).1
          have x27 := (Xc.out.at_ 5 (.string g) rfl).1
          have x28 := (Xc.out.at_ 6 (.slice ro C.length rc) rfl).1
          have x29 := (Xc.out.at_ 7 (.int .i64 mem) rfl).1
          have x30 := (Xc.out.at_ 8 (.int .i64 last) rfl).1
          have HC := Lib.hid (apply_any e1 a1 _ L1 true 2 g _ C now mem last _ T1.out SC.out wa1)
          go_wp2_with fail
          refine HC.out.mono ?_
          clear HC
          clear x19 x20 x21 x22 x23 x24 x25 x26 x27 x28 x29 x30
          rintro e w3 ⟨hb, hres⟩
          replace Xc := Lib.hid (Xc.out.below hb Xc.out.lt)
          replace Xs := Lib.hid (Xs.out.below hb Xs.out.lt)
          replace Xk := Lib.hid (Xk.out.below hb Xk.out.lt)
          replace TL := Lib.hid (TL.out.mono hb)
          replace T1 := Lib.hid (T1.out.mono hb)
          replace SC := Lib.hid (SC.out.mono hb)
          replace HB := Lib.hid (HB.out.trans (hb.mono HB.out.size))
          clear hb
          simp only [Bool.true_and, if_true] at hres
          have hv2 : verdict (pcheck e1 a1 L1) 2 C.length now mem last = 0 := by
            have h0 := HV0.out
            have h1 := (verdict_ok h0).1
            rw [h1] at h0; rw [HPC.out]; exact h0
          obtain ⟨hG0, hG2, hE2, hT2, hAs, hF2, hQ2⟩ := HTW.out
          rw [HE1.out] at hG2 hE2 hF2 hQ2; rw [HA1.out] at hT2 hF2 hQ2
          rcases hres with ⟨hv, rfl⟩ | ⟨_, K2, hK2, ⟨h60, rfl⟩ | ⟨h60, hno, rfl⟩ | ⟨h60, hyes, v3, L3, u3, R3, rfl, hT3, hU3, hR3, hA3, _, _⟩⟩
          · exact absurd hv2 hv
          · exfalso; rw [hF2] at hK2; have := keys_unique hK2 HKK.out; rw [this] at h60; have := H60.out; omega
          · exfalso; rw [hF2] at hK2; rw [keys_unique hK2 HKK.out, hE2, ← HE1.out] at hno; exact HYES.out hno
          have hR3' := hQ2 R3 hR3
          subst hR3'
          rw [soonF_nil, hF2] at hA3
          have hL3 : L3 = L1 := asc_unique hA3 hAs
          subst hL3
          obtain ⟨v3o, v3c, rfl⟩ := hT3.shape
          obtain ⟨u3o, u3c, rfl⟩ := hU3.shape
          simp only [hG2, Bool.false_eq_true, if_false, hE2, hT2, List.length_nil]
          have T3 := Lib.hid hT3
          clear hR3 hA3 hT3 hU3 hK2 hyes h60 hv2 hG0 hG2 hE2 hT2 hAs hF2 hQ2
          have hba : Below w3.heap.size w3 ((w3.alloc (.cells #[.bool e1, .int .i64 a1, .slice v3o L3.length v3c] 24)).alloc (.cells #[.bool false, .slice u3o 0 u3c] 44)) := (((Below.refl _ _).alloc (Nat.le_refl _) _).alloc (by simp <;> omega) _)
          replace Xc := Lib.hid (Xc.out.below hba Xc.out.lt)
          replace Xs := Lib.hid (Xs.out.below hba Xs.out.lt)
          replace Xk := Lib.hid (Xk.out.below hba Xk.out.lt)
          replace TL := Lib.hid (TL.out.mono hba)
          replace T1 := Lib.hid (T1.out.mono hba)
          replace T3 := Lib.hid (T3.out.mono hba)
          replace SC := Lib.hid (SC.out.mono hba)
          replace HB := Lib.hid (HB.out.trans (hba.mono HB.out.size))
          have Xt := Lib.hid (show CBox ((w3.alloc (.cells #[.bool e1, .int .i64 a1, .slice v3o L3.length v3c] 24)).alloc (.cells #[.bool false, .slice u3o 0 u3c] 44)) (w3.heap.size) 24 #[.bool e1, .int .i64 a1, .slice v3o L3.length v3c] from ((CBox.new _ (by simp)).old _))
          have Xm := Lib.hid (show CBox ((w3.alloc (.cells #[.bool e1, .int .i64 a1, .slice v3o L3.length v3c] 24)).alloc (.cells #[.bool false, .slice u3o 0 u3c] 44)) (w3.heap.size + 1) 44 #[.bool false, .slice u3o 0 u3c] from (CBox.new _ (by simp)))
          clear hba
          have x31 := (Xs.out.at_ 0 (.bool e1) rfl).1
          have x32 := (Xs.out.at_ 1 (.int .i64 a1) rfl).1
          have x33 := (Xs.out.at_ 2 (.slice v1o L3.length v1c) rfl).1
          have x34 := (Xt.out.at_ 0 (.bool e1) rfl).1
          have x35 := (Xt.out.at_ 1 (.int .i64 a1) rfl).1
          have x36 := (Xt.out.at_ 2 (.slice v3o L3.length v3c) rfl).1
          have HC := Lib.hid (tsame_yes e1 a1 _ _ L3 _ T1.out T3.out)
          go_wp2_with fail
          refine HC.out.mono ?_
          clear HC
          clear x31 x32 x33 x34 x35 x36
          rintro e w4 ⟨rfl, hb⟩
          replace Xc := Lib.hid (Xc.out.below hb Xc.out.lt)
          replace Xs := Lib.hid (Xs.out.below hb Xs.out.lt)
          replace Xk := Lib.hid (Xk.out.below hb Xk.out.lt)
          replace Xt := Lib.hid (Xt.out.below hb Xt.out.lt)
          replace Xm := Lib.hid (Xm.out.below hb Xm.out.lt)
          replace TL := Lib.hid (TL.out.mono hb)
          replace T1 := Lib.hid (T1.out.mono hb)
          replace T3 := Lib.hid (T3.out.mono hb)
          replace SC := Lib.hid (SC.out.mono hb)
          replace HB := Lib.hid (HB.out.trans (hb.mono HB.out.size))
          clear hb
          have x37 := (Xk.out.at_ 0 (.bool false) rfl).1
          have x38 := (Xk.out.at_ 1 (.slice u1o 0 u1c) rfl).1
          have x39 := (Xm.out.at_ 0 (.bool false) rfl).1
          have x40 := (Xm.out.at_ 1 (.slice u3o 0 u3c) rfl).1
          go_wp2_with fail
          refine (live_yes _).mono ?_
          clear x37 x38 x39 x40
          rintro e w5 ⟨rfl, hb⟩
          replace Xc := Lib.hid (Xc.out.below hb Xc.out.lt)
          replace Xs := Lib.hid (Xs.out.below hb Xs.out.lt)
          replace Xk := Lib.hid (Xk.out.below hb Xk.out.lt)
          replace Xt := Lib.hid (Xt.out.below hb Xt.out.lt)
          replace Xm := Lib.hid (Xm.out.below hb Xm.out.lt)
          replace TL := Lib.hid (TL.out.mono hb)
          replace T1 := Lib.hid (T1.out.mono hb)
          replace T3 := Lib.hid (T3.out.mono hb)
          replace SC := Lib.hid (SC.out.mono hb)
          replace HB := Lib.hid (HB.out.trans (hb.mono HB.out.size))
          clear hb
          go_wp2_with fail
          go_ret
          exact ⟨rfl, HB.out⟩
      · have x1 := (Xc.out.at_ 0 (.bool ex) rfl).1
        have x2 := (Xc.out.at_ 1 (.int .i64 at') rfl).1
        have x3 := (Xc.out.at_ 2 (.slice vo L.length vc) rfl).1
        have x4 := (Xc.out.at_ 3 (.bool is) rfl).1
        have x5 := (Xc.out.at_ 4 (.int .i64 5) rfl).1
        have x6 := (Xc.out.at_ 5 (.string g) rfl).1
        have x7 := (Xc.out.at_ 6 (.slice ro C.length rc) rfl).1
        have x8 := (Xc.out.at_ 7 (.int .i64 mem) rfl).1
        have x9 := (Xc.out.at_ 8 (.int .i64 last) rfl).1
        have hf := Lib.hid hf0; clear hf0
        have HC := Lib.hid (few_yes ex at' _ L 5 g _ C _ TL.out SC.out hf.out)
        go_wp2_with fail
        refine HC.out.mono ?_
        clear HC
        clear x1 x2 x3 x4 x5 x6 x7 x8 x9
        rintro e w1 ⟨rfl, hb⟩
        replace Xc := Lib.hid (Xc.out.below hb Xc.out.lt)
        replace TL := Lib.hid (TL.out.mono hb)
        replace SC := Lib.hid (SC.out.mono hb)
        replace HB := Lib.hid (HB.out.trans (hb.mono HB.out.size))
        clear hb
        have x10 := (Xc.out.at_ 0 (.bool ex) rfl).1
        have x11 := (Xc.out.at_ 1 (.int .i64 at') rfl).1
        have x12 := (Xc.out.at_ 2 (.slice vo L.length vc) rfl).1
        have x13 := (Xc.out.at_ 3 (.bool is) rfl).1
        have x14 := (Xc.out.at_ 4 (.int .i64 5) rfl).1
        have x15 := (Xc.out.at_ 5 (.string g) rfl).1
        have x16 := (Xc.out.at_ 6 (.slice ro C.length rc) rfl).1
        have x17 := (Xc.out.at_ 7 (.int .i64 mem) rfl).1
        have x18 := (Xc.out.at_ 8 (.int .i64 last) rfl).1
        have HC := Lib.hid (apply_any ex at' _ L is 5 g _ C now mem last _ TL.out SC.out wa)
        go_wp2_with fail
        refine HC.out.mono ?_
        clear HC
        clear x10 x11 x12 x13 x14 x15 x16 x17 x18
        rintro e w2 ⟨hb, hres⟩
        replace Xc := Lib.hid (Xc.out.below hb Xc.out.lt)
        replace TL := Lib.hid (TL.out.mono hb)
        replace SC := Lib.hid (SC.out.mono hb)
        replace HB := Lib.hid (HB.out.trans (hb.mono HB.out.size))
        clear hb
        obtain ⟨code, hcode⟩ : ∃ code, code = verdict (pcheck (is && ex) (if is then at' else 0) (if is then L else [])) 5 C.length now mem last := ⟨_, rfl⟩
        rw [← hcode] at hres
        rcases hres with ⟨hv, rfl⟩ | ⟨hv, K, hK, ⟨h60, rfl⟩ | ⟨h60, hno, rfl⟩ | ⟨h60, hyes, v1, L1, u1, R1, rfl, hT1, hU1, hR1, hA1, hl1, hl2⟩⟩
        · have hcb : (code != 0) = true := by simpa using hv
          clear hcode hv
          simp only [noState, noAsk]
          have hba : Below w2.heap.size w2 ((w2.alloc (.cells #[.bool false, .int .i64 0, .slice none 0 0] 24)).alloc (.cells #[.bool false, .slice none 0 0] 44)) := (((Below.refl _ _).alloc (Nat.le_refl _) _).alloc (by simp <;> omega) _)
          replace Xc := Lib.hid (Xc.out.below hba Xc.out.lt)
          replace TL := Lib.hid (TL.out.mono hba)
          replace SC := Lib.hid (SC.out.mono hba)
          replace HB := Lib.hid (HB.out.trans (hba.mono HB.out.size))
          have Xs := Lib.hid (show CBox ((w2.alloc (.cells #[.bool false, .int .i64 0, .slice none 0 0] 24)).alloc (.cells #[.bool false, .slice none 0 0] 44)) (w2.heap.size) 24 #[.bool false, .int .i64 0, .slice none 0 0] from ((CBox.new _ (by simp)).old _))
          have Xk := Lib.hid (show CBox ((w2.alloc (.cells #[.bool false, .int .i64 0, .slice none 0 0] 24)).alloc (.cells #[.bool false, .slice none 0 0] 44)) (w2.heap.size + 1) 44 #[.bool false, .slice none 0 0] from (CBox.new _ (by simp)))
          clear hba
          go_wp2_with fail
          refine (live_yes _).mono ?_
          rintro e w3 ⟨rfl, hb⟩
          replace Xc := Lib.hid (Xc.out.below hb Xc.out.lt)
          replace Xs := Lib.hid (Xs.out.below hb Xs.out.lt)
          replace Xk := Lib.hid (Xk.out.below hb Xk.out.lt)
          replace TL := Lib.hid (TL.out.mono hb)
          replace SC := Lib.hid (SC.out.mono hb)
          replace HB := Lib.hid (HB.out.trans (hb.mono HB.out.size))
          clear hb
          go_wp2_with fail
          go_ret
          exact ⟨rfl, HB.out⟩
        · clear hcode hv hK h60
          simp only [noState, noAsk]
          have hba : Below w2.heap.size w2 ((w2.alloc (.cells #[.bool false, .int .i64 0, .slice none 0 0] 24)).alloc (.cells #[.bool false, .slice none 0 0] 44)) := (((Below.refl _ _).alloc (Nat.le_refl _) _).alloc (by simp <;> omega) _)
          replace Xc := Lib.hid (Xc.out.below hba Xc.out.lt)
          replace TL := Lib.hid (TL.out.mono hba)
          replace SC := Lib.hid (SC.out.mono hba)
          replace HB := Lib.hid (HB.out.trans (hba.mono HB.out.size))
          have Xs := Lib.hid (show CBox ((w2.alloc (.cells #[.bool false, .int .i64 0, .slice none 0 0] 24)).alloc (.cells #[.bool false, .slice none 0 0] 44)) (w2.heap.size) 24 #[.bool false, .int .i64 0, .slice none 0 0] from ((CBox.new _ (by simp)).old _))
          have Xk := Lib.hid (show CBox ((w2.alloc (.cells #[.bool false, .int .i64 0, .slice none 0 0] 24)).alloc (.cells #[.bool false, .slice none 0 0] 44)) (w2.heap.size + 1) 44 #[.bool false, .slice none 0 0] from (CBox.new _ (by simp)))
          clear hba
          go_wp2_with fail
          refine (live_yes _).mono ?_
          rintro e w3 ⟨rfl, hb⟩
          replace Xc := Lib.hid (Xc.out.below hb Xc.out.lt)
          replace Xs := Lib.hid (Xs.out.below hb Xs.out.lt)
          replace Xk := Lib.hid (Xk.out.below hb Xk.out.lt)
          replace TL := Lib.hid (TL.out.mono hb)
          replace SC := Lib.hid (SC.out.mono hb)
          replace HB := Lib.hid (HB.out.trans (hb.mono HB.out.size))
          clear hb
          go_wp2_with fail
          go_ret
          exact ⟨rfl, HB.out⟩
        · have HV0 := Lib.hid (hcode.symm.trans hv); have HKK := Lib.hid hK; have HNO := Lib.hid hno; clear hcode hv hK h60 hno
          simp only [noState, noAsk]
          have hba : Below w2.heap.size w2 ((w2.alloc (.cells #[.bool false, .int .i64 0, .slice none 0 0] 24)).alloc (.cells #[.bool false, .slice none 0 0] 44)) := (((Below.refl _ _).alloc (Nat.le_refl _) _).alloc (by simp <;> omega) _)
          replace Xc := Lib.hid (Xc.out.below hba Xc.out.lt)
          replace TL := Lib.hid (TL.out.mono hba)
          replace SC := Lib.hid (SC.out.mono hba)
          replace HB := Lib.hid (HB.out.trans (hba.mono HB.out.size))
          have Xs := Lib.hid (show CBox ((w2.alloc (.cells #[.bool false, .int .i64 0, .slice none 0 0] 24)).alloc (.cells #[.bool false, .slice none 0 0] 44)) (w2.heap.size) 24 #[.bool false, .int .i64 0, .slice none 0 0] from ((CBox.new _ (by simp)).old _))
          have Xk := Lib.hid (show CBox ((w2.alloc (.cells #[.bool false, .int .i64 0, .slice none 0 0] 24)).alloc (.cells #[.bool false, .slice none 0 0] 44)) (w2.heap.size + 1) 44 #[.bool false, .slice none 0 0] from (CBox.new _ (by simp)))
          clear hba
          go_wp2_with fail
          refine (live_yes _).mono ?_
          rintro e w3 ⟨rfl, hb⟩
          replace Xc := Lib.hid (Xc.out.below hb Xc.out.lt)
          replace Xs := Lib.hid (Xs.out.below hb Xs.out.lt)
          replace Xk := Lib.hid (Xk.out.below hb Xk.out.lt)
          replace TL := Lib.hid (TL.out.mono hb)
          replace SC := Lib.hid (SC.out.mono hb)
          replace HB := Lib.hid (HB.out.trans (hb.mono HB.out.size))
          clear hb
          go_wp2_with fail
          go_ret
          exact ⟨rfl, HB.out⟩
        · have hv' := hcode.symm.trans hv
          have hpc := app_check hv' hK h60 hA1
          obtain ⟨v1o, v1c, rfl⟩ := hT1.shape
          obtain ⟨u1o, u1c, rfl⟩ := hU1.shape
          have HV0 := Lib.hid hv'; have HKK := Lib.hid hK; have HAS := Lib.hid hA1; have HRR := Lib.hid hR1; have HYES := Lib.hid hyes; have H60 := Lib.hid h60
          clear hcode hv hv' hK hA1 hR1 hyes hl1 hl2 h60
          obtain ⟨hR0, hG0, hG2, hE2, hT2, hAs, hF2, hQ2⟩ := twice_law HV0.out (by simp) HRR.out HAS.out
          subst hR0
          have HTW := Lib.hid (And.intro hG0 (And.intro hG2 (And.intro hE2 (And.intro hT2 (And.intro hAs (And.intro hF2 hQ2))))))
          rw [hG0] at hpc ⊢
          simp only [Bool.false_eq_true, if_false] at hpc ⊢
          obtain ⟨a1, ha1⟩ : ∃ a1, inAt 5 (if is then at' else 0) (now + mem) = a1 := ⟨_, rfl⟩
          obtain ⟨e1, he1⟩ : ∃ e1, inEx 5 (is && ex) = e1 := ⟨_, rfl⟩
          rw [ha1, he1] at hpc
          simp only [ha1, he1, List.length_nil]
          have HPC := Lib.hid hpc; have HA1 := Lib.hid ha1; have HE1 := Lib.hid he1
          have T1 := Lib.hid hT1
          have wa1 : (Lit.int .i64 a1).wf = true := by
            obtain ⟨_, h1, h2, h3, h4, _⟩ := verdict_ok HV0.out
            rw [← ha1]; unfold inAt; split
            · exact WalkArith.wf_i64 (n := now + mem) (by omega)
            · split
              · exact wa
              · rfl
          clear hpc ha1 he1 hT1 hU1 hG0 hG2 hE2 hT2 hAs hF2 hQ2
          have hba : Below w2.heap.size w2 ((w2.alloc (.cells #[.bool e1, .int .i64 a1, .slice v1o L1.length v1c] 24)).alloc (.cells #[.bool false, .slice u1o 0 u1c] 44)) := (((Below.refl _ _).alloc (Nat.le_refl _) _).alloc (by simp <;> omega) _)
          replace Xc := Lib.hid (Xc.out.below hba Xc.out.lt)
          replace TL := Lib.hid (TL.out.mono hba)
          replace T1 := Lib.hid (T1.out.mono hba)
          replace SC := Lib.hid (SC.out.mono hba)
          replace HB := Lib.hid (HB.out.trans (hba.mono HB.out.size))
          have Xs := Lib.hid (show CBox ((w2.alloc (.cells #[.bool e1, .int .i64 a1, .slice v1o L1.length v1c] 24)).alloc (.cells #[.bool false, .slice u1o 0 u1c] 44)) (w2.heap.size) 24 #[.bool e1, .int .i64 a1, .slice v1o L1.length v1c] from ((CBox.new _ (by simp)).old _))
          have Xk := Lib.hid (show CBox ((w2.alloc (.cells #[.bool e1, .int .i64 a1, .slice v1o L1.length v1c] 24)).alloc (.cells #[.bool false, .slice u1o 0 u1c] 44)) (w2.heap.size + 1) 44 #[.bool false, .slice u1o 0 u1c] from (CBox.new _ (by simp)))
          clear hba
          have x19 := (Xs.out.at_ 0 (.bool e1) rfl).1
          have x20 := (Xs.out.at_ 1 (.int .i64 a1) rfl).1
          have x21 := (Xs.out.at_ 2 (.slice v1o L1.length v1c) rfl).1
          have x22 := (Xc.out.at_ 0 (.bool ex) rfl).1
          have x23 := (Xc.out.at_ 1 (.int .i64 at') rfl).1
          have x24 := (Xc.out.at_ 2 (.slice vo L.length vc) rfl).1
          have x25 := (Xc.out.at_ 3 (.bool is) rfl).1
          have x26 := (Xc.out.at_ 4 (.int .i64 5) rfl).1
          have x27 := (Xc.out.at_ 5 (.string g) rfl).1
          have x28 := (Xc.out.at_ 6 (.slice ro C.length rc) rfl).1
          have x29 := (Xc.out.at_ 7 (.int .i64 mem) rfl).1
          have x30 := (Xc.out.at_ 8 (.int .i64 last) rfl).1
          have HC := Lib.hid (apply_any e1 a1 _ L1 true 5 g _ C now mem last _ T1.out SC.out wa1)
          go_wp2_with fail
          refine HC.out.mono ?_
          clear HC
          clear x19 x20 x21 x22 x23 x24 x25 x26 x27 x28 x29 x30
          rintro e w3 ⟨hb, hres⟩
          replace Xc := Lib.hid (Xc.out.below hb Xc.out.lt)
          replace Xs := Lib.hid (Xs.out.below hb Xs.out.lt)
          replace Xk := Lib.hid (Xk.out.below hb Xk.out.lt)
          replace TL := Lib.hid (TL.out.mono hb)
          replace T1 := Lib.hid (T1.out.mono hb)
          replace SC := Lib.hid (SC.out.mono hb)
          replace HB := Lib.hid (HB.out.trans (hb.mono HB.out.size))
          clear hb
          simp only [Bool.true_and, if_true] at hres
          have hv2 : verdict (pcheck e1 a1 L1) 5 C.length now mem last = 0 := by
            have h0 := HV0.out
            have h1 := (verdict_ok h0).1
            rw [h1] at h0; rw [HPC.out]; exact h0
          obtain ⟨hG0, hG2, hE2, hT2, hAs, hF2, hQ2⟩ := HTW.out
          rw [HE1.out] at hG2 hE2 hF2 hQ2; rw [HA1.out] at hT2 hF2 hQ2
          rcases hres with ⟨hv, rfl⟩ | ⟨_, K2, hK2, ⟨h60, rfl⟩ | ⟨h60, hno, rfl⟩ | ⟨h60, hyes, v3, L3, u3, R3, rfl, hT3, hU3, hR3, hA3, _, _⟩⟩
          · exact absurd hv2 hv
          · exfalso; rw [hF2] at hK2; have := keys_unique hK2 HKK.out; rw [this] at h60; have := H60.out; omega
          · exfalso; rw [hF2] at hK2; rw [keys_unique hK2 HKK.out, hE2, ← HE1.out] at hno; exact HYES.out hno
          have hR3' := hQ2 R3 hR3
          subst hR3'
          rw [soonF_nil, hF2] at hA3
          have hL3 : L3 = L1 := asc_unique hA3 hAs
          subst hL3
          obtain ⟨v3o, v3c, rfl⟩ := hT3.shape
          obtain ⟨u3o, u3c, rfl⟩ := hU3.shape
          simp only [hG2, Bool.false_eq_true, if_false, hE2, hT2, List.length_nil]
          have T3 := Lib.hid hT3
          clear hR3 hA3 hT3 hU3 hK2 hyes h60 hv2 hG0 hG2 hE2 hT2 hAs hF2 hQ2
          have hba : Below w3.heap.size w3 ((w3.alloc (.cells #[.bool e1, .int .i64 a1, .slice v3o L3.length v3c] 24)).alloc (.cells #[.bool false, .slice u3o 0 u3c] 44)) := (((Below.refl _ _).alloc (Nat.le_refl _) _).alloc (by simp <;> omega) _)
          replace Xc := Lib.hid (Xc.out.below hba Xc.out.lt)
          replace Xs := Lib.hid (Xs.out.below hba Xs.out.lt)
          replace Xk := Lib.hid (Xk.out.below hba Xk.out.lt)
          replace TL := Lib.hid (TL.out.mono hba)
          replace T1 := Lib.hid (T1.out.mono hba)
          replace T3 := Lib.hid (T3.out.mono hba)
          replace SC := Lib.hid (SC.out.mono hba)
          replace HB := Lib.hid (HB.out.trans (hba.mono HB.out.size))
          have Xt := Lib.hid (show CBox ((w3.alloc (.cells #[.bool e1, .int .i64 a1, .slice v3o L3.length v3c] 24)).alloc (.cells #[.bool false, .slice u3o 0 u3c] 44)) (w3.heap.size) 24 #[.bool e1, .int .i64 a1, .slice v3o L3.length v3c] from ((CBox.new _ (by simp)).old _))
          have Xm := Lib.hid (show CBox ((w3.alloc (.cells #[.bool e1, .int .i64 a1, .slice v3o L3.length v3c] 24)).alloc (.cells #[.bool false, .slice u3o 0 u3c] 44)) (w3.heap.size + 1) 44 #[.bool false, .slice u3o 0 u3c] from (CBox.new _ (by simp)))
          clear hba
          have x31 := (Xs.out.at_ 0 (.bool e1) rfl).1
          have x32 := (Xs.out.at_ 1 (.int .i64 a1) rfl).1
          have x33 := (Xs.out.at_ 2 (.slice v1o L3.length v1c) rfl).1
          have x34 := (Xt.out.at_ 0 (.bool e1) rfl).1
          have x35 := (Xt.out.at_ 1 (.int .i64 a1) rfl).1
          have x36 := (Xt.out.at_ 2 (.slice v3o L3.length v3c) rfl).1
          have HC := Lib.hid (tsame_yes e1 a1 _ _ L3 _ T1.out T3.out)
          go_wp2_with fail
          refine HC.out.mono ?_
          clear HC
          clear x31 x32 x33 x34 x35 x36
          rintro e w4 ⟨rfl, hb⟩
          replace Xc := Lib.hid (Xc.out.below hb Xc.out.lt)
          replace Xs := Lib.hid (Xs.out.below hb Xs.out.lt)
          replace Xk := Lib.hid (Xk.out.below hb Xk.out.lt)
          replace Xt := Lib.hid (Xt.out.below hb Xt.out.lt)
          replace Xm := Lib.hid (Xm.out.below hb Xm.out.lt)
          replace TL := Lib.hid (TL.out.mono hb)
          replace T1 := Lib.hid (T1.out.mono hb)
          replace T3 := Lib.hid (T3.out.mono hb)
          replace SC := Lib.hid (SC.out.mono hb)
          replace HB := Lib.hid (HB.out.trans (hb.mono HB.out.size))
          clear hb
          have x37 := (Xk.out.at_ 0 (.bool false) rfl).1
          have x38 := (Xk.out.at_ 1 (.slice u1o 0 u1c) rfl).1
          have x39 := (Xm.out.at_ 0 (.bool false) rfl).1
          have x40 := (Xm.out.at_ 1 (.slice u3o 0 u3c) rfl).1
          go_wp2_with fail
          refine (live_yes _).mono ?_
          clear x37 x38 x39 x40
          rintro e w5 ⟨rfl, hb⟩
          replace Xc := Lib.hid (Xc.out.below hb Xc.out.lt)
          replace Xs := Lib.hid (Xs.out.below hb Xs.out.lt)
          replace Xk := Lib.hid (Xk.out.below hb Xk.out.lt)
          replace Xt := Lib.hid (Xt.out.below hb Xt.out.lt)
          replace Xm := Lib.hid (Xm.out.below hb Xm.out.lt)
          replace TL := Lib.hid (TL.out.mono hb)
          replace T1 := Lib.hid (T1.out.mono hb)
          replace T3 := Lib.hid (T3.out.mono hb)
          replace SC := Lib.hid (SC.out.mono hb)
          replace HB := Lib.hid (HB.out.trans (hb.mono HB.out.size))
          clear hb
          go_wp2_with fail
          go_ret
          exact ⟨rfl, HB.out⟩
    · have q1 : (kind != 1) = true := by rw [bne_iff_ne]; exact fun h => hk (.inl h)
      have q2 : (kind != 2) = true := by rw [bne_iff_ne]; exact fun h => hk (.inr (.inl h))
      have q3 : (kind != 5) = true := by rw [bne_iff_ne]; exact fun h => hk (.inr (.inr h))
      clear hk
      have x1 := (Xc.out.at_ 0 (.bool ex) rfl).1
      have x2 := (Xc.out.at_ 1 (.int .i64 at') rfl).1
      have x3 := (Xc.out.at_ 2 (.slice vo L.length vc) rfl).1
      have x4 := (Xc.out.at_ 3 (.bool is) rfl).1
      have x5 := (Xc.out.at_ 4 (.int .i64 kind) rfl).1
      have x6 := (Xc.out.at_ 5 (.string g) rfl).1
      have x7 := (Xc.out.at_ 6 (.slice ro C.length rc) rfl).1
      have x8 := (Xc.out.at_ 7 (.int .i64 mem) rfl).1
      have x9 := (Xc.out.at_ 8 (.int .i64 last) rfl).1
      have hf := Lib.hid hf0; clear hf0
      have HC := Lib.hid (few_yes ex at' _ L kind g _ C _ TL.out SC.out hf.out)
      go_wp2_with fail
      refine HC.out.mono ?_
      clear HC
      clear x1 x2 x3 x4 x5 x6 x7 x8 x9
      rintro e w1 ⟨rfl, hb⟩
      replace Xc := Lib.hid (Xc.out.below hb Xc.out.lt)
      replace TL := Lib.hid (TL.out.mono hb)
      replace SC := Lib.hid (SC.out.mono hb)
      replace HB := Lib.hid (HB.out.trans (hb.mono HB.out.size))
      clear hb
      have x10 := (Xc.out.at_ 0 (.bool ex) rfl).1
      have x11 := (Xc.out.at_ 1 (.int .i64 at') rfl).1
      have x12 := (Xc.out.at_ 2 (.slice vo L.length vc) rfl).1
      have x13 := (Xc.out.at_ 3 (.bool is) rfl).1
      have x14 := (Xc.out.at_ 4 (.int .i64 kind) rfl).1
      have x15 := (Xc.out.at_ 5 (.string g) rfl).1
      have x16 := (Xc.out.at_ 6 (.slice ro C.length rc) rfl).1
      have x17 := (Xc.out.at_ 7 (.int .i64 mem) rfl).1
      have x18 := (Xc.out.at_ 8 (.int .i64 last) rfl).1
      go_wp2_with fail
      refine (live_yes _).mono ?_
      clear x10 x11 x12 x13 x14 x15 x16 x17 x18
      rintro e w2 ⟨rfl, hb⟩
      replace Xc := Lib.hid (Xc.out.below hb Xc.out.lt)
      replace TL := Lib.hid (TL.out.mono hb)
      replace SC := Lib.hid (SC.out.mono hb)
      replace HB := Lib.hid (HB.out.trans (hb.mono HB.out.size))
      clear hb
      go_wp2_with fail
      go_ret
      exact ⟨rfl, HB.out⟩
  · have x1 := (Xc.out.at_ 0 (.bool ex) rfl).1
    have x2 := (Xc.out.at_ 1 (.int .i64 at') rfl).1
    have x3 := (Xc.out.at_ 2 (.slice vo L.length vc) rfl).1
    have x4 := (Xc.out.at_ 3 (.bool is) rfl).1
    have x5 := (Xc.out.at_ 4 (.int .i64 kind) rfl).1
    have x6 := (Xc.out.at_ 5 (.string g) rfl).1
    have x7 := (Xc.out.at_ 6 (.slice ro C.length rc) rfl).1
    have x8 := (Xc.out.at_ 7 (.int .i64 mem) rfl).1
    have x9 := (Xc.out.at_ 8 (.int .i64 last) rfl).1
    have hf := Lib.hid hf0; clear hf0
    have HC := Lib.hid (few_no ex at' _ L kind g _ C _ TL.out SC.out hf.out)
    go_wp2_with fail
    refine HC.out.mono ?_
    clear HC
    clear x1 x2 x3 x4 x5 x6 x7 x8 x9
    rintro e w1 ⟨rfl, hb⟩
    replace Xc := Lib.hid (Xc.out.below hb Xc.out.lt)
    replace TL := Lib.hid (TL.out.mono hb)
    replace SC := Lib.hid (SC.out.mono hb)
    replace HB := Lib.hid (HB.out.trans (hb.mono HB.out.size))
    clear hb
    go_wp2_with fail
    refine (live_yes _).mono ?_
    rintro e w2 ⟨rfl, hb⟩
    replace Xc := Lib.hid (Xc.out.below hb Xc.out.lt)
    replace TL := Lib.hid (TL.out.mono hb)
    replace SC := Lib.hid (SC.out.mono hb)
    replace HB := Lib.hid (HB.out.trans (hb.mono HB.out.size))
    clear hb
    go_wp2_with fail
    go_ret
    exact ⟨rfl, HB.out⟩
end Go.Proofs.Ytkphgonbbhlnfaa
