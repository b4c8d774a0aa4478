/- The walk of GroupForm. -/
import Derived.Test.YtkphgonbbhlnfaaGFew
namespace Go.Proofs.Ytkphgonbbhlnfaa
open Go.RowKit Go.Lib Go.Maps Go.Sort

set_option maxRecDepth 20000

set_option maxHeartbeats 2000000 in
theorem law_form (ex : Bool) (at' : Int) (v : Value) (L : List Tmd) (is : Bool) (kind : Int) (g : ByteArray) (rv : Value) (C : List Str) (mem last : Int) (now later : Int) (w : World) (h : Tms w v L) (wa : (Lit.int .i64 at').wf = true) (hr : Strs w rv C) :
    Calls Try.prog 5 #[.agg #[.bool ex, .int .i64 at', v, .bool is, .int .i64 kind, .string g, rv, .int .i64 mem, .int .i64 last], .int .i64 now, .int .i64 later] w fun e w' => e = .returned (.bool true) ∧ Below w.heap.size w w' := by
  obtain ⟨vo, vc, rfl⟩ := h.shape
  obtain ⟨ro, rc, rfl⟩ := hr.shape
  have HB := Lib.hid (Below.refl w.heap.size w)
  have TL := Lib.hid h
  have SC := Lib.hid hr
  clear h hr
  have hba : Below w.heap.size w (w.alloc (.cells #[.bool ex, .int .i64 at', .slice vo L.length vc, .bool is, .int .i64 kind, .string g, .slice ro C.length rc, .int .i64 mem, .int .i64 last] 41)) := ((Below.refl _ _).alloc (Nat.le_refl _) _)
  replace TL := Lib.hid (TL.out.mono hba)
  replace SC := Lib.hid (SC.out.mono hba)
  replace HB := Lib.hid (HB.out.trans (hba.mono HB.out.size))
  have Xc := Lib.hid (show CBox (w.alloc (.cells #[.bool ex, .int .i64 at', .slice vo L.length vc, .bool is, .int .i64 kind, .string g, .slice ro C.length rc, .int .i64 mem, .int .i64 last] 41)) (w.heap.size) 41 #[.bool ex, .int .i64 at', .slice vo L.length vc, .bool is, .int .i64 kind, .string g, .slice ro C.length rc, .int .i64 mem, .int .i64 last] from (CBox.new _ (by simp)))
  clear hba
  go_enter Try.func5, Try.ntmps5
  by_cases hf0 : L.length ≤ 100 ∧ C.length ≤ 100
  · have x1 := (Xc.out.at_ 0 (.bool ex) rfl).1
    have x2 := (Xc.out.at_ 1 (.int .i64 at') rfl).1
    have x3 := (Xc.out.at_ 2 (.slice vo L.length vc) rfl).1
    have x4 := (Xc.out.at_ 3 (.bool is) rfl).1
    have x5 := (Xc.out.at_ 4 (.int .i64 kind) rfl).1
    have x6 := (Xc.out.at_ 5 (.string g) rfl).1
    have x7 := (Xc.out.at_ 6 (.slice ro C.length rc) rfl).1
    have x8 := (Xc.out.at_ 7 (.int .i64 mem) rfl).1
    have x9 := (Xc.out.at_ 8 (.int .i64 last) rfl).1
    have hf := Lib.hid hf0; clear hf0
    have HC := Lib.hid (few_yes ex at' _ L kind g _ C _ TL.out SC.out hf.out)
    go_wp2_with fail
    refine HC.out.mono ?_
    clear HC
    clear x1 x2 x3 x4 x5 x6 x7 x8 x9
    rintro e w1 ⟨rfl, hb⟩
    replace Xc := Lib.hid (Xc.out.below hb Xc.out.lt)
    replace TL := Lib.hid (TL.out.mono hb)
    replace SC := Lib.hid (SC.out.mono hb)
    replace HB := Lib.hid (HB.out.trans (hb.mono HB.out.size))
    clear hb
    have x10 := (Xc.out.at_ 0 (.bool ex) rfl).1
    have x11 := (Xc.out.at_ 1 (.int .i64 at') rfl).1
    have x12 := (Xc.out.at_ 2 (.slice vo L.length vc) rfl).1
    have x13 := (Xc.out.at_ 3 (.bool is) rfl).1
    have x14 := (Xc.out.at_ 4 (.int .i64 kind) rfl).1
    have x15 := (Xc.out.at_ 5 (.string g) rfl).1
    have x16 := (Xc.out.at_ 6 (.slice ro C.length rc) rfl).1
    have x17 := (Xc.out.at_ 7 (.int .i64 mem) rfl).1
    have x18 := (Xc.out.at_ 8 (.int .i64 last) rfl).1
    have HC := Lib.hid (apply_any ex at' _ L is kind g _ C now mem last _ TL.out SC.out wa)
    go_wp2_with fail
    refine HC.out.mono ?_
    clear HC
    clear x10 x11 x12 x13 x14 x15 x16 x17 x18
    rintro e w2 ⟨hb, hres⟩
    replace Xc := Lib.hid (Xc.out.below hb Xc.out.lt)
    replace TL := Lib.hid (TL.out.mono hb)
    replace SC := Lib.hid (SC.out.mono hb)
    replace HB := Lib.hid (HB.out.trans (hb.mono HB.out.size))
    clear hb
    obtain ⟨code, hcode⟩ : ∃ code, code = verdict (pcheck (is && ex) (if is then at' else 0) (if is then L else [])) kind C.length now mem last := ⟨_, rfl⟩
    rw [← hcode] at hres
    rcases hres with ⟨hv, rfl⟩ | ⟨hv, K, hK, ⟨h60, rfl⟩ | ⟨h60, hno, rfl⟩ | ⟨h60, hyes, v1, L1, u1, R1, rfl, hT1, hU1, hR1, hA1, hl1, hl2⟩⟩
    · have hcb : (code != 0) = true := by simpa using hv
      clear hcode hv
      simp only [noState, noAsk]
      have hba : Below w2.heap.size w2 ((w2.alloc (.cells #[.bool false, .int .i64 0, .slice none 0 0] 24)).alloc (.cells #[.bool false, .slice none 0 0] 44)) := (((Below.refl _ _).alloc (Nat.le_refl _) _).alloc (by simp <;> omega) _)
      replace Xc := Lib.hid (Xc.out.below hba Xc.out.lt)
      replace TL := Lib.hid (TL.out.mono hba)
      replace SC := Lib.hid (SC.out.mono hba)
      replace HB := Lib.hid (HB.out.trans (hba.mono HB.out.size))
      have Xs := Lib.hid (show CBox ((w2.alloc (.cells #[.bool false, .int .i64 0, .slice none 0 0] 24)).alloc (.cells #[.bool false, .slice none 0 0] 44)) (w2.heap.size) 24 #[.bool false, .int .i64 0, .slice none 0 0] from ((CBox.new _ (by simp)).old _))
      have Xk := Lib.hid (show CBox ((w2.alloc (.cells #[.bool false, .int .i64 0, .slice none 0 0] 24)).alloc (.cells #[.bool false, .slice none 0 0] 44)) (w2.heap.size + 1) 44 #[.bool false, .slice none 0 0] from (CBox.new _ (by simp)))
      clear hba
      go_wp2_with fail
      refine (live_yes _).mono ?_
      rintro e w3 ⟨rfl, hb⟩
      replace Xc := Lib.hid (Xc.out.below hb Xc.out.lt)
      replace Xs := Lib.hid (Xs.out.below hb Xs.out.lt)
      replace Xk := Lib.hid (Xk.out.below hb Xk.out.lt)
      replace TL := Lib.hid (TL.out.mono hb)
      replace SC := Lib.hid (SC.out.mono hb)
      replace HB := Lib.hid (HB.out.trans (hb.mono HB.out.size))
      clear hb
      go_wp2_with fail
      go_ret
      exact ⟨rfl, HB.out⟩
    · clear hcode hv hK h60
      simp only [noState, noAsk]
      have hba : Below w2.heap.size w2 ((w2.alloc (.cells #[.bool false, .int .i64 0, .slice none 0 0] 24)).alloc (.cells #[.bool false, .slice none 0 0] 44)) := (((Below.refl _ _).alloc (Nat.le_refl _) _).alloc (by simp <;> omega) _)
      replace Xc := Lib.hid (Xc.out.below hba Xc.out.lt)
      replace TL := Lib.hid (TL.out.mono hba)
      replace SC := Lib.hid (SC.out.mono hba)
      replace HB := Lib.hid (HB.out.trans (hba.mono HB.out.size))
      have Xs := Lib.hid (show CBox ((w2.alloc (.cells #[.bool false, .int .i64 0, .slice none 0 0] 24)).alloc (.cells #[.bool false, .slice none 0 0] 44)) (w2.heap.size) 24 #[.bool false, .int .i64 0, .slice none 0 0] from ((CBox.new _ (by simp)).old _))
      have Xk := Lib.hid (show CBox ((w2.alloc (.cells #[.bool false, .int .i64 0, .slice none 0 0] 24)).alloc (.cells #[.bool false, .slice none 0 0] 44)) (w2.heap.size + 1) 44 #[.bool false, .slice none 0 0] from (CBox.new _ (by simp)))
      clear hba
      go_wp2_with fail
      refine (live_yes _).mono ?_
      rintro e w3 ⟨rfl, hb⟩
      replace Xc := Lib.hid (Xc.out.below hb Xc.out.lt)
      replace Xs := Lib.hid (Xs.out.below hb Xs.out.lt)
      replace Xk := Lib.hid (Xk.out.below hb Xk.out.lt)
      replace TL := Lib.hid (TL.out.mono hb)
      replace SC := Lib.hid (SC.out.mono hb)
      replace HB := Lib.hid (HB.out.trans (hb.mono HB.out.size))
      clear hb
      go_wp2_with fail
      go_ret
      exact ⟨rfl, HB.out⟩
    · have HV0 := Lib.hid (hcode.symm.trans hv); have HKK := Lib.hid hK; have HNO := Lib.hid hno; clear hcode hv hK h60 hno
      simp only [noState, noAsk]
      have hba : Below w2.heap.size w2 ((w2.alloc (.cells #[.bool false, .int .i64 0, .slice none 0 0] 24)).alloc (.cells #[.bool false, .slice none 0 0] 44)) := (((Below.refl _ _).alloc (Nat.le_refl _) _).alloc (by simp <;> omega) _)
      replace Xc := Lib.hid (Xc.out.below hba Xc.out.lt)
      replace TL := Lib.hid (TL.out.mono hba)
      replace SC := Lib.hid (SC.out.mono hba)
      replace HB := Lib.hid (HB.out.trans (hba.mono HB.out.size))
      have Xs := Lib.hid (show CBox ((w2.alloc (.cells #[.bool false, .int .i64 0, .slice none 0 0] 24)).alloc (.cells #[.bool false, .slice none 0 0] 44)) (w2.heap.size) 24 #[.bool false, .int .i64 0, .slice none 0 0] from ((CBox.new _ (by simp)).old _))
      have Xk := Lib.hid (show CBox ((w2.alloc (.cells #[.bool false, .int .i64 0, .slice none 0 0] 24)).alloc (.cells #[.bool false, .slice none 0 0] 44)) (w2.heap.size + 1) 44 #[.bool false, .slice none 0 0] from (CBox.new _ (by simp)))
      clear hba
      go_wp2_with fail
      refine (live_yes _).mono ?_
      rintro e w3 ⟨rfl, hb⟩
      replace Xc := Lib.hid (Xc.out.below hb Xc.out.lt)
      replace Xs := Lib.hid (Xs.out.below hb Xs.out.lt)
      replace Xk := Lib.hid (Xk.out.below hb Xk.out.lt)
      replace TL := Lib.hid (TL.out.mono hb)
      replace SC := Lib.hid (SC.out.mono hb)
      replace HB := Lib.hid (HB.out.trans (hb.mono HB.out.size))
      clear hb
      go_wp2_with fail
      go_ret
      exact ⟨rfl, HB.out⟩
    · have hv' := hcode.symm.trans hv
      have hpc := app_check hv' hK h60 hA1
      obtain ⟨v1o, v1c, rfl⟩ := hT1.shape
      obtain ⟨u1o, u1c, rfl⟩ := hU1.shape
      have HV0 := Lib.hid hv'; have HKK := Lib.hid hK; have HAS := Lib.hid hA1; have HRR := Lib.hid hR1; have HYES := Lib.hid hyes; have H60 := Lib.hid h60
      clear hcode hv hv' hK hA1 hR1 hyes hl1 hl2 h60
      obtain ⟨a1, ha1⟩ : ∃ a1, (if inG kind (is && ex) = true then min (inAt kind (if is then at' else 0) (now + mem)) (now + last) else inAt kind (if is then at' else 0) (now + mem)) = a1 := ⟨_, rfl⟩
      obtain ⟨e1, he1⟩ : ∃ e1, inEx kind (is && ex) = e1 := ⟨_, rfl⟩
      obtain ⟨g1, hg1⟩ : ∃ g1, inG kind (is && ex) = g1 := ⟨_, rfl⟩
      rw [ha1, he1] at hpc
      simp only [ha1]
      simp only [he1, hg1]
      have HPC := Lib.hid hpc; clear hpc
      have HE1 := Lib.hid he1; have HA1 := Lib.hid ha1; have HG1 := Lib.hid hg1
      have T1 := Lib.hid hT1; have S1 := Lib.hid hU1
      clear hT1 hU1 ha1 he1 hg1
      have hba : Below w2.heap.size w2 ((w2.alloc (.cells #[.bool e1, .int .i64 a1, .slice v1o L1.length v1c] 24)).alloc (.cells #[.bool g1, .slice u1o R1.length u1c] 44)) := (((Below.refl _ _).alloc (Nat.le_refl _) _).alloc (by simp <;> omega) _)
      replace Xc := Lib.hid (Xc.out.below hba Xc.out.lt)
      replace TL := Lib.hid (TL.out.mono hba)
      replace T1 := Lib.hid (T1.out.mono hba)
      replace SC := Lib.hid (SC.out.mono hba)
      replace S1 := Lib.hid (S1.out.mono hba)
      replace HB := Lib.hid (HB.out.trans (hba.mono HB.out.size))
      have Xs := Lib.hid (show CBox ((w2.alloc (.cells #[.bool e1, .int .i64 a1, .slice v1o L1.length v1c] 24)).alloc (.cells #[.bool g1, .slice u1o R1.length u1c] 44)) (w2.heap.size) 24 #[.bool e1, .int .i64 a1, .slice v1o L1.length v1c] from ((CBox.new _ (by simp)).old _))
      have Xk := Lib.hid (show CBox ((w2.alloc (.cells #[.bool e1, .int .i64 a1, .slice v1o L1.length v1c] 24)).alloc (.cells #[.bool g1, .slice u1o R1.length u1c] 44)) (w2.heap.size + 1) 44 #[.bool g1, .slice u1o R1.length u1c] from (CBox.new _ (by simp)))
      clear hba
      have HC := Lib.hid (check_ok e1 a1 _ L1 _ T1.out HPC.out)
      go_wp2_with fail
      refine HC.out.mono ?_
      clear HC
      rintro e w3 ⟨rfl, hb⟩
      replace Xc := Lib.hid (Xc.out.below hb Xc.out.lt)
      replace Xs := Lib.hid (Xs.out.below hb Xs.out.lt)
      replace Xk := Lib.hid (Xk.out.below hb Xk.out.lt)
      replace TL := Lib.hid (TL.out.mono hb)
      replace T1 := Lib.hid (T1.out.mono hb)
      replace SC := Lib.hid (SC.out.mono hb)
      replace S1 := Lib.hid (S1.out.mono hb)
      replace HB := Lib.hid (HB.out.trans (hb.mono HB.out.size))
      clear hb
      obtain ⟨e2, he2⟩ : ∃ e2, (e1 && decide (later < a1)) = e2 := ⟨_, rfl⟩
      have HE2 := Lib.hid he2; clear he2
      have x19 := (Xs.out.at_ 0 (.bool e1) rfl).1
      have x20 := (Xs.out.at_ 1 (.int .i64 a1) rfl).1
      have x21 := (Xs.out.at_ 2 (.slice v1o L1.length v1c) rfl).1
      have HC := Lib.hid (expire_ok e1 a1 _ L1 later _ T1.out HPC.out e2 HE2.out)
      go_wp2_with fail
      refine HC.out.mono ?_
      clear HC
      clear x19 x20 x21
      rintro e w4 ⟨hb, v2, L2, a2, rfl, hT2, hA2, hp2, ha2⟩
      obtain ⟨v2o, v2c, rfl⟩ := hT2.shape
      replace Xc := Lib.hid (Xc.out.below hb Xc.out.lt)
      replace Xs := Lib.hid (Xs.out.below hb Xs.out.lt)
      replace Xk := Lib.hid (Xk.out.below hb Xk.out.lt)
      replace TL := Lib.hid (TL.out.mono hb)
      replace T1 := Lib.hid (T1.out.mono hb)
      replace SC := Lib.hid (SC.out.mono hb)
      replace S1 := Lib.hid (S1.out.mono hb)
      replace HB := Lib.hid (HB.out.trans (hb.mono HB.out.size))
      clear hb
      have T2 := Lib.hid hT2; have HA2 := Lib.hid hA2; have HP2 := Lib.hid hp2; have HAA := Lib.hid ha2
      clear hT2 hA2 hp2 ha2
      cases hth : (e2 || !L2.isEmpty)
      · obtain ⟨rfl, rfl⟩ : e2 = false ∧ L2 = [] := by simpa using hth
        clear hth
        simp only [List.length_nil]
        have hba : Below w4.heap.size w4 (w4.alloc (.cells #[.bool false, .int .i64 a2, .slice v2o 0 v2c] 24)) := ((Below.refl _ _).alloc (Nat.le_refl _) _)
        replace Xc := Lib.hid (Xc.out.below hba Xc.out.lt)
        replace Xs := Lib.hid (Xs.out.below hba Xs.out.lt)
        replace Xk := Lib.hid (Xk.out.below hba Xk.out.lt)
        replace TL := Lib.hid (TL.out.mono hba)
        replace T1 := Lib.hid (T1.out.mono hba)
        replace T2 := Lib.hid (T2.out.mono hba)
        replace SC := Lib.hid (SC.out.mono hba)
        replace S1 := Lib.hid (S1.out.mono hba)
        replace HB := Lib.hid (HB.out.trans (hba.mono HB.out.size))
        have Xx := Lib.hid (show CBox (w4.alloc (.cells #[.bool false, .int .i64 a2, .slice v2o 0 v2c] 24)) (w4.heap.size) 24 #[.bool false, .int .i64 a2, .slice v2o 0 v2c] from (CBox.new _ (by simp)))
        clear hba
        go_wp2_with fail
        refine (live_yes _).mono ?_
        rintro e w5 ⟨rfl, hb⟩
        replace Xc := Lib.hid (Xc.out.below hb Xc.out.lt)
        replace Xs := Lib.hid (Xs.out.below hb Xs.out.lt)
        replace Xk := Lib.hid (Xk.out.below hb Xk.out.lt)
        replace Xx := Lib.hid (Xx.out.below hb Xx.out.lt)
        replace TL := Lib.hid (TL.out.mono hb)
        replace T1 := Lib.hid (T1.out.mono hb)
        replace T2 := Lib.hid (T2.out.mono hb)
        replace SC := Lib.hid (SC.out.mono hb)
        replace S1 := Lib.hid (S1.out.mono hb)
        replace HB := Lib.hid (HB.out.trans (hb.mono HB.out.size))
        clear hb
        go_wp2_with fail
        go_ret
        exact ⟨rfl, HB.out⟩
      · have HTH := Lib.hid hth
        have hba : Below w4.heap.size w4 (w4.alloc (.cells #[.bool e2, .int .i64 a2, .slice v2o L2.length v2c] 24)) := ((Below.refl _ _).alloc (Nat.le_refl _) _)
        replace Xc := Lib.hid (Xc.out.below hba Xc.out.lt)
        replace Xs := Lib.hid (Xs.out.below hba Xs.out.lt)
        replace Xk := Lib.hid (Xk.out.below hba Xk.out.lt)
        replace TL := Lib.hid (TL.out.mono hba)
        replace T1 := Lib.hid (T1.out.mono hba)
        replace T2 := Lib.hid (T2.out.mono hba)
        replace SC := Lib.hid (SC.out.mono hba)
        replace S1 := Lib.hid (S1.out.mono hba)
        replace HB := Lib.hid (HB.out.trans (hba.mono HB.out.size))
        have Xx := Lib.hid (show CBox (w4.alloc (.cells #[.bool e2, .int .i64 a2, .slice v2o L2.length v2c] 24)) (w4.heap.size) 24 #[.bool e2, .int .i64 a2, .slice v2o L2.length v2c] from (CBox.new _ (by simp)))
        clear hba
        have he22 : (e2 && decide (later < a2)) = e2 := by
          have h1 := HAA.out; have h2 := HE2.out
          cases e2
          · rfl
          · simp at h1 h2 ⊢; rw [h1]; exact h2.2
        have HE22 := Lib.hid he22; clear he22
        have x22 := (Xx.out.at_ 0 (.bool e2) rfl).1
        have x23 := (Xx.out.at_ 1 (.int .i64 a2) rfl).1
        have x24 := (Xx.out.at_ 2 (.slice v2o L2.length v2c) rfl).1
        have HC := Lib.hid (expire_ok e2 a2 _ L2 later _ T2.out HP2.out e2 HE22.out)
        go_wp2_with fail
        refine HC.out.mono ?_
        clear HC
        clear x22 x23 x24
        rintro e w5 ⟨hb, v3, L3, a3, rfl, hT3, hA3, _, ha3⟩
        have hL : L3 = L2 := by rw [asc_rd HA2.out, exF_twice] at hA3; exact asc_unique hA3 HA2.out
        have haa : a3 = a2 := by rw [ha3]; have := HAA.out; cases e2 <;> simp_all
        clear hA3 ha3
        subst hL haa
        obtain ⟨v3o, v3c, rfl⟩ := hT3.shape
        have T3 := Lib.hid hT3
        clear hT3
        replace Xc := Lib.hid (Xc.out.below hb Xc.out.lt)
        replace Xs := Lib.hid (Xs.out.below hb Xs.out.lt)
        replace Xk := Lib.hid (Xk.out.below hb Xk.out.lt)
        replace Xx := Lib.hid (Xx.out.below hb Xx.out.lt)
        replace TL := Lib.hid (TL.out.mono hb)
        replace T1 := Lib.hid (T1.out.mono hb)
        replace T2 := Lib.hid (T2.out.mono hb)
        replace SC := Lib.hid (SC.out.mono hb)
        replace S1 := Lib.hid (S1.out.mono hb)
        replace HB := Lib.hid (HB.out.trans (hb.mono HB.out.size))
        clear hb
        simp only [HTH.out]
        clear hth
        have hba : Below w5.heap.size w5 (w5.alloc (.cells #[.bool e2, .int .i64 a3, .slice v3o L3.length v3c] 24)) := ((Below.refl _ _).alloc (Nat.le_refl _) _)
        replace Xc := Lib.hid (Xc.out.below hba Xc.out.lt)
        replace Xs := Lib.hid (Xs.out.below hba Xs.out.lt)
        replace Xk := Lib.hid (Xk.out.below hba Xk.out.lt)
        replace Xx := Lib.hid (Xx.out.below hba Xx.out.lt)
        replace TL := Lib.hid (TL.out.mono hba)
        replace T1 := Lib.hid (T1.out.mono hba)
        replace T2 := Lib.hid (T2.out.mono hba)
        replace T3 := Lib.hid (T3.out.mono hba)
        replace SC := Lib.hid (SC.out.mono hba)
        replace S1 := Lib.hid (S1.out.mono hba)
        replace HB := Lib.hid (HB.out.trans (hba.mono HB.out.size))
        have Xy := Lib.hid (show CBox (w5.alloc (.cells #[.bool e2, .int .i64 a3, .slice v3o L3.length v3c] 24)) (w5.heap.size) 24 #[.bool e2, .int .i64 a3, .slice v3o L3.length v3c] from (CBox.new _ (by simp)))
        clear hba
        have x25 := (Xx.out.at_ 0 (.bool e2) rfl).1
        have x26 := (Xx.out.at_ 1 (.int .i64 a3) rfl).1
        have x27 := (Xx.out.at_ 2 (.slice v2o L3.length v2c) rfl).1
        have HC := Lib.hid (check_ok e2 a3 _ L3 _ T2.out HP2.out)
        go_wp2_with fail
        refine HC.out.mono ?_
        clear HC
        clear x25 x26 x27
        rintro e w6 ⟨rfl, hb⟩
        replace Xc := Lib.hid (Xc.out.below hb Xc.out.lt)
        replace Xs := Lib.hid (Xs.out.below hb Xs.out.lt)
        replace Xk := Lib.hid (Xk.out.below hb Xk.out.lt)
        replace Xx := Lib.hid (Xx.out.below hb Xx.out.lt)
        replace Xy := Lib.hid (Xy.out.below hb Xy.out.lt)
        replace TL := Lib.hid (TL.out.mono hb)
        replace T1 := Lib.hid (T1.out.mono hb)
        replace T2 := Lib.hid (T2.out.mono hb)
        replace T3 := Lib.hid (T3.out.mono hb)
        replace SC := Lib.hid (SC.out.mono hb)
        replace S1 := Lib.hid (S1.out.mono hb)
        replace HB := Lib.hid (HB.out.trans (hb.mono HB.out.size))
        clear hb
        have x28 := (Xx.out.at_ 0 (.bool e2) rfl).1
        have x29 := (Xx.out.at_ 1 (.int .i64 a3) rfl).1
        have x30 := (Xx.out.at_ 2 (.slice v2o L3.length v2c) rfl).1
        have x31 := (Xy.out.at_ 0 (.bool e2) rfl).1
        have x32 := (Xy.out.at_ 1 (.int .i64 a3) rfl).1
        have x33 := (Xy.out.at_ 2 (.slice v3o L3.length v3c) rfl).1
        have HC := Lib.hid (tsame_yes e2 a3 _ _ L3 _ T2.out T3.out)
        go_wp2_with fail
        refine HC.out.mono ?_
        clear HC
        clear x28 x29 x30 x31 x32 x33
        rintro e w7 ⟨rfl, hb⟩
        replace Xc := Lib.hid (Xc.out.below hb Xc.out.lt)
        replace Xs := Lib.hid (Xs.out.below hb Xs.out.lt)
        replace Xk := Lib.hid (Xk.out.below hb Xk.out.lt)
        replace Xx := Lib.hid (Xx.out.below hb Xx.out.lt)
        replace Xy := Lib.hid (Xy.out.below hb Xy.out.lt)
        replace TL := Lib.hid (TL.out.mono hb)
        replace T1 := Lib.hid (T1.out.mono hb)
        replace T2 := Lib.hid (T2.out.mono hb)
        replace T3 := Lib.hid (T3.out.mono hb)
        replace SC := Lib.hid (SC.out.mono hb)
        replace S1 := Lib.hid (S1.out.mono hb)
        replace HB := Lib.hid (HB.out.trans (hb.mono HB.out.size))
        clear hb
        go_wp2_with fail
        refine (live_yes _).mono ?_
        rintro e w8 ⟨rfl, hb⟩
        replace Xc := Lib.hid (Xc.out.below hb Xc.out.lt)
        replace Xs := Lib.hid (Xs.out.below hb Xs.out.lt)
        replace Xk := Lib.hid (Xk.out.below hb Xk.out.lt)
        replace Xx := Lib.hid (Xx.out.below hb Xx.out.lt)
        replace Xy := Lib.hid (Xy.out.below hb Xy.out.lt)
        replace TL := Lib.hid (TL.out.mono hb)
        replace T1 := Lib.hid (T1.out.mono hb)
        replace T2 := Lib.hid (T2.out.mono hb)
        replace T3 := Lib.hid (T3.out.mono hb)
        replace SC := Lib.hid (SC.out.mono hb)
        replace S1 := Lib.hid (S1.out.mono hb)
        replace HB := Lib.hid (HB.out.trans (hb.mono HB.out.size))
        clear hb
        go_wp2_with fail
        go_ret
        exact ⟨rfl, HB.out⟩
  · have x1 := (Xc.out.at_ 0 (.bool ex) rfl).1
    have x2 := (Xc.out.at_ 1 (.int .i64 at') rfl).1
    have x3 := (Xc.out.at_ 2 (.slice vo L.length vc) rfl).1
    have x4 := (Xc.out.at_ 3 (.bool is) rfl).1
    have x5 := (Xc.out.at_ 4 (.int .i64 kind) rfl).1
    have x6 := (Xc.out.at_ 5 (.string g) rfl).1
    have x7 := (Xc.out.at_ 6 (.slice ro C.length rc) rfl).1
    have x8 := (Xc.out.at_ 7 (.int .i64 mem) rfl).1
    have x9 := (Xc.out.at_ 8 (.int .i64 last) rfl).1
    have hf := Lib.hid hf0; clear hf0
    have HC := Lib.hid (few_no ex at' _ L kind g _ C _ TL.out SC.out hf.out)
    go_wp2_with fail
    refine HC.out.mono ?_
    clear HC
    clear x1 x2 x3 x4 x5 x6 x7 x8 x9
    rintro e w1 ⟨rfl, hb⟩
    replace Xc := Lib.hid (Xc.out.below hb Xc.out.lt)
    replace TL := Lib.hid (TL.out.mono hb)
    replace SC := Lib.hid (SC.out.mono hb)
    replace HB := Lib.hid (HB.out.trans (hb.mono HB.out.size))
    clear hb
    go_wp2_with fail
    refine (live_yes _).mono ?_
    rintro e w2 ⟨rfl, hb⟩
    replace Xc := Lib.hid (Xc.out.below hb Xc.out.lt)
    replace TL := Lib.hid (TL.out.mono hb)
    replace SC := Lib.hid (SC.out.mono hb)
    replace HB := Lib.hid (HB.out.trans (hb.mono HB.out.size))
    clear hb
    go_wp2_with fail
    go_ret
    exact ⟨rfl, HB.out⟩
end Go.Proofs.Ytkphgonbbhlnfaa
