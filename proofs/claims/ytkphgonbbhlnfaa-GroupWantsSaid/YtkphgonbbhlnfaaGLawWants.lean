/- The walk of GroupWants. -/
import Derived.Test.YtkphgonbbhlnfaaGFew
import Derived.Test.YtkphgonbbhlnfaaGPlain2
namespace Go.Proofs.Ytkphgonbbhlnfaa
open Go.RowKit Go.Lib Go.Maps Go.Sort

set_option maxRecDepth 20000

set_option maxHeartbeats 2000000 in
theorem law_wants (ex : Bool) (at' : Int) (v : Value) (L : List Tmd) (is : Bool) (kind : Int) (g : ByteArray) (rv : Value) (C : List Str) (mem last : Int) (now : Int) (a : Str) (w : World) (h : Tms w v L) (wa : (Lit.int .i64 at').wf = true) (hr : Strs w rv C) (ha : a.length ≤ maxLen) :
    Calls Try.prog 6 #[.agg #[.bool ex, .int .i64 at', v, .bool is, .int .i64 kind, .string g, rv, .int .i64 mem, .int .i64 last], .int .i64 now, .string (bstr a)] w fun e w' => e = .returned (.bool true) ∧ Below w.heap.size w w' := by
  obtain ⟨vo, vc, rfl⟩ := h.shape
  obtain ⟨ro, rc, rfl⟩ := hr.shape
  have HB := Lib.hid (Below.refl w.heap.size w)
  have TL := Lib.hid h
  have SC := Lib.hid hr
  clear h hr
  have hba : Below w.heap.size w (w.alloc (.cells #[.bool ex, .int .i64 at', .slice vo L.length vc, .bool is, .int .i64 kind, .string g, .slice ro C.length rc, .int .i64 mem, .int .i64 last] 41)) := ((Below.refl _ _).alloc (Nat.le_refl _) _)
  replace TL := Lib.hid (TL.out.mono hba)
  replace SC := Lib.hid (SC.out.mono hba)
  replace HB := Lib.hid (HB.out.trans (hba.mono HB.out.size))
  have Xc := Lib.hid (show CBox (w.alloc (.cells #[.bool ex, .int .i64 at', .slice vo L.length vc, .bool is, .int .i64 kind, .string g, .slice ro C.length rc, .int .i64 mem, .int .i64 last] 41)) (w.heap.size) 41 #[.bool ex, .int .i64 at', .slice vo L.length vc, .bool is, .int .i64 kind, .string g, .slice ro C.length rc, .int .i64 mem, .int .i64 last] from (CBox.new _ (by simp)))
  clear hba
  go_enter Try.func6, Try.ntmps6
  by_cases hf0 : L.length ≤ 100 ∧ C.length ≤ 100
  · by_cases hk : 1 ≤ kind ∧ kind ≤ 6
    · rcases kind_six hk.1 hk.2 with rfl | rfl | rfl | rfl | rfl | rfl
      · clear hk
        have x1 := (Xc.out.at_ 0 (.bool ex) rfl).1
        have x2 := (Xc.out.at_ 1 (.int .i64 at') rfl).1
        have x3 := (Xc.out.at_ 2 (.slice vo L.length vc) rfl).1
        have x4 := (Xc.out.at_ 3 (.bool is) rfl).1
        have x5 := (Xc.out.at_ 4 (.int .i64 1) rfl).1
        have x6 := (Xc.out.at_ 5 (.string g) rfl).1
        have x7 := (Xc.out.at_ 6 (.slice ro C.length rc) rfl).1
        have x8 := (Xc.out.at_ 7 (.int .i64 mem) rfl).1
        have x9 := (Xc.out.at_ 8 (.int .i64 last) rfl).1
        have hf := Lib.hid hf0; clear hf0
        have HC := Lib.hid (few_yes ex at' _ L 1 g _ C _ TL.out SC.out hf.out)
        go_wp2_with fail
        refine HC.out.mono ?_
        clear HC
        clear x1 x2 x3 x4 x5 x6 x7 x8 x9
        rintro e w1 ⟨rfl, hb⟩
        replace Xc := Lib.hid (Xc.out.below hb Xc.out.lt)
        replace TL := Lib.hid (TL.out.mono hb)
        replace SC := Lib.hid (SC.out.mono hb)
        replace HB := Lib.hid (HB.out.trans (hb.mono HB.out.size))
        clear hb
        have x10 := (Xc.out.at_ 0 (.bool ex) rfl).1
        have x11 := (Xc.out.at_ 1 (.int .i64 at') rfl).1
        have x12 := (Xc.out.at_ 2 (.slice vo L.length vc) rfl).1
        have x13 := (Xc.out.at_ 3 (.bool is) rfl).1
        have x14 := (Xc.out.at_ 4 (.int .i64 1) rfl).1
        have x15 := (Xc.out.at_ 5 (.string g) rfl).1
        have x16 := (Xc.out.at_ 6 (.slice ro C.length rc) rfl).1
        have x17 := (Xc.out.at_ 7 (.int .i64 mem) rfl).1
        have x18 := (Xc.out.at_ 8 (.int .i64 last) rfl).1
        have HC := Lib.hid (apply_any ex at' _ L is 1 g _ C now mem last _ TL.out SC.out wa)
        go_wp2_with fail
        refine HC.out.mono ?_
        clear HC
        clear x10 x11 x12 x13 x14 x15 x16 x17 x18
        rintro e w2 ⟨hb, hres⟩
        replace Xc := Lib.hid (Xc.out.below hb Xc.out.lt)
        replace TL := Lib.hid (TL.out.mono hb)
        replace SC := Lib.hid (SC.out.mono hb)
        replace HB := Lib.hid (HB.out.trans (hb.mono HB.out.size))
        clear hb
        obtain ⟨code, hcode⟩ : ∃ code, code = verdict (pcheck (is && ex) (if is then at' else 0) (if is then L else [])) 1 C.length now mem last := ⟨_, rfl⟩
        rw [← hcode] at hres
        rcases hres with ⟨hv, rfl⟩ | ⟨hv, K, hK, ⟨h60, rfl⟩ | ⟨h60, hno, rfl⟩ | ⟨h60, hyes, v1, L1, u1, R1, rfl, hT1, hU1, hR1, hA1, hl1, hl2⟩⟩
        · have hcb : (code != 0) = true := by simpa using hv
          clear hcode hv
          simp only [noState, noAsk]
          have hba : Below w2.heap.size w2 ((w2.alloc (.cells #[.bool false, .int .i64 0, .slice none 0 0] 24)).alloc (.cells #[.bool false, .slice none 0 0] 44)) := (((Below.refl _ _).alloc (Nat.le_refl _) _).alloc (by simp <;> omega) _)
          replace Xc := Lib.hid (Xc.out.below hba Xc.out.lt)
          replace TL := Lib.hid (TL.out.mono hba)
          replace SC := Lib.hid (SC.out.mono hba)
          replace HB := Lib.hid (HB.out.trans (hba.mono HB.out.size))
          have Xs := Lib.hid (show CBox ((w2.alloc (.cells #[.bool false, .int .i64 0, .slice none 0 0] 24)).alloc (.cells #[.bool false, .slice none 0 0] 44)) (w2.heap.size) 24 #[.bool false, .int .i64 0, .slice none 0 0] from ((CBox.new _ (by simp)).old _))
          have Xk := Lib.hid (show CBox ((w2.alloc (.cells #[.bool false, .int .i64 0, .slice none 0 0] 24)).alloc (.cells #[.bool false, .slice none 0 0] 44)) (w2.heap.size + 1) 44 #[.bool false, .slice none 0 0] from (CBox.new _ (by simp)))
          clear hba
          go_wp2_with fail
          refine (live_yes _).mono ?_
          rintro e w3 ⟨rfl, hb⟩
          replace Xc := Lib.hid (Xc.out.below hb Xc.out.lt)
          replace Xs := Lib.hid (Xs.out.below hb Xs.out.lt)
          replace Xk := Lib.hid (Xk.out.below hb Xk.out.lt)
          replace TL := Lib.hid (TL.out.mono hb)
          replace SC := Lib.hid (SC.out.mono hb)
          replace HB := Lib.hid (HB.out.trans (hb.mono HB.out.size))
          clear hb
          go_wp2_with fail
          go_ret
          exact ⟨rfl, HB.out⟩
        · clear hcode hv hK h60
          simp only [noState, noAsk]
          have hba : Below w2.heap.size w2 ((w2.alloc (.cells #[.bool false, .int .i64 0, .slice none 0 0] 24)).alloc (.cells #[.bool false, .slice none 0 0] 44)) := (((Below.refl _ _).alloc (Nat.le_refl _) _).alloc (by simp <;> omega) _)
          replace Xc := Lib.hid (Xc.out.below hba Xc.out.lt)
          replace TL := Lib.hid (TL.out.mono hba)
          replace SC := Lib.hid (SC.out.mono hba)
          replace HB := Lib.hid (HB.out.trans (hba.mono HB.out.size))
          have Xs := Lib.hid (show CBox ((w2.alloc (.cells #[.bool false, .int .i64 0, .slice none 0 0] 24)).alloc (.cells #[.bool false, .slice none 0 0] 44)) (w2.heap.size) 24 #[.bool false, .int .i64 0, .slice none 0 0] from ((CBox.new _ (by simp)).old _))
          have Xk := Lib.hid (show CBox ((w2.alloc (.cells #[.bool false, .int .i64 0, .slice none 0 0] 24)).alloc (.cells #[.bool false, .slice none 0 0] 44)) (w2.heap.size + 1) 44 #[.bool false, .slice none 0 0] from (CBox.new _ (by simp)))
          clear hba
          go_wp2_with fail
          refine (live_yes _).mono ?_
          rintro e w3 ⟨rfl, hb⟩
          replace Xc := Lib.hid (Xc.out.below hb Xc.out.lt)
          replace Xs := Lib.hid (Xs.out.below hb Xs.out.lt)
          replace Xk := Lib.hid (Xk.out.below hb Xk.out.lt)
          replace TL := Lib.hid (TL.out.mono hb)
          replace SC := Lib.hid (SC.out.mono hb)
          replace HB := Lib.hid (HB.out.trans (hb.mono HB.out.size))
          clear hb
          go_wp2_with fail
          go_ret
          exact ⟨rfl, HB.out⟩
        · have HV0 := Lib.hid (hcode.symm.trans hv); have HKK := Lib.hid hK; have HNO := Lib.hid hno; clear hcode hv hK h60 hno
          simp only [noState, noAsk]
          have hba : Below w2.heap.size w2 ((w2.alloc (.cells #[.bool false, .int .i64 0, .slice none 0 0] 24)).alloc (.cells #[.bool false, .slice none 0 0] 44)) := (((Below.refl _ _).alloc (Nat.le_refl _) _).alloc (by simp <;> omega) _)
          replace Xc := Lib.hid (Xc.out.below hba Xc.out.lt)
          replace TL := Lib.hid (TL.out.mono hba)
          replace SC := Lib.hid (SC.out.mono hba)
          replace HB := Lib.hid (HB.out.trans (hba.mono HB.out.size))
          have Xs := Lib.hid (show CBox ((w2.alloc (.cells #[.bool false, .int .i64 0, .slice none 0 0] 24)).alloc (.cells #[.bool false, .slice none 0 0] 44)) (w2.heap.size) 24 #[.bool false, .int .i64 0, .slice none 0 0] from ((CBox.new _ (by simp)).old _))
          have Xk := Lib.hid (show CBox ((w2.alloc (.cells #[.bool false, .int .i64 0, .slice none 0 0] 24)).alloc (.cells #[.bool false, .slice none 0 0] 44)) (w2.heap.size + 1) 44 #[.bool false, .slice none 0 0] from (CBox.new _ (by simp)))
          clear hba
          cases hn : C.contains a
          · have x19 := (Xc.out.at_ 0 (.bool ex) rfl).1
            have x20 := (Xc.out.at_ 1 (.int .i64 at') rfl).1
            have x21 := (Xc.out.at_ 2 (.slice vo L.length vc) rfl).1
            have x22 := (Xc.out.at_ 3 (.bool is) rfl).1
            have x23 := (Xc.out.at_ 4 (.int .i64 1) rfl).1
            have x24 := (Xc.out.at_ 5 (.string g) rfl).1
            have x25 := (Xc.out.at_ 6 (.slice ro C.length rc) rfl).1
            have x26 := (Xc.out.at_ 7 (.int .i64 mem) rfl).1
            have x27 := (Xc.out.at_ 8 (.int .i64 last) rfl).1
            have HC := shas_any _ C a _ SC.out
            rw [hn] at HC
            replace HC := Lib.hid HC
            have HN := Lib.hid hn; clear hn
            go_wp2_with fail
            refine HC.out.mono ?_
            clear HC
            rintro e w' ⟨rfl, rfl⟩
            go_wp2_with fail
            refine (live_yes _).mono ?_
            clear x19 x20 x21 x22 x23 x24 x25 x26 x27
            rintro e w3 ⟨rfl, hb⟩
            replace Xc := Lib.hid (Xc.out.below hb Xc.out.lt)
            replace Xs := Lib.hid (Xs.out.below hb Xs.out.lt)
            replace Xk := Lib.hid (Xk.out.below hb Xk.out.lt)
            replace TL := Lib.hid (TL.out.mono hb)
            replace SC := Lib.hid (SC.out.mono hb)
            replace HB := Lib.hid (HB.out.trans (hb.mono HB.out.size))
            clear hb
            go_wp2_with fail
            go_ret
            exact ⟨rfl, HB.out⟩
          · exact absurd HNO.out (wants_is (a := a) HV0.out HKK.out (by rw [if_neg (by decide), hn]) (by decide))
        · have hv' := hcode.symm.trans hv
          have hpc := app_check hv' hK h60 hA1
          obtain ⟨v1o, v1c, rfl⟩ := hT1.shape
          obtain ⟨u1o, u1c, rfl⟩ := hU1.shape
          have HV0 := Lib.hid hv'; have HKK := Lib.hid hK; have HAS := Lib.hid hA1; have HRR := Lib.hid hR1; have HYES := Lib.hid hyes; have H60 := Lib.hid h60
          clear hcode hv hv' hK hA1 hR1 hyes hl1 hl2 h60
          obtain ⟨_, b1, b2, b3, b4, _⟩ := verdict_ok HV0.out
          have HP1 := fun (hw : (if (1 : Int) = 2 ∨ (1 : Int) = 4 then !C.contains a else C.contains a) = true) (t : Int) (h0 : 0 ≤ t) (h1 : t < now + mem) => wants_law HV0.out HRR.out HAS.out hpc hw (by decide) h0 h1
          obtain ⟨a1, ha1⟩ : ∃ a1, (if inG 1 (is && ex) = true then min (inAt 1 (if is then at' else 0) (now + mem)) (now + last) else inAt 1 (if is then at' else 0) (now + mem)) = a1 := ⟨_, rfl⟩
          obtain ⟨e1, he1⟩ : ∃ e1, inEx 1 (is && ex) = e1 := ⟨_, rfl⟩
          obtain ⟨g1, hg1⟩ : ∃ g1, inG 1 (is && ex) = g1 := ⟨_, rfl⟩
          rw [ha1, he1] at hpc
          simp only [ha1]
          simp only [he1, hg1]
          rw [ha1, he1] at HP1
          replace HP1 := Lib.hid HP1
          have HPC := Lib.hid hpc; clear hpc
          have HE1 := Lib.hid he1; have HA1 := Lib.hid ha1; have HG1 := Lib.hid hg1
          have T1 := Lib.hid hT1; have S1 := Lib.hid hU1
          clear hT1 hU1 ha1 he1 hg1
          have hba : Below w2.heap.size w2 ((w2.alloc (.cells #[.bool e1, .int .i64 a1, .slice v1o L1.length v1c] 24)).alloc (.cells #[.bool g1, .slice u1o R1.length u1c] 44)) := (((Below.refl _ _).alloc (Nat.le_refl _) _).alloc (by simp <;> omega) _)
          replace Xc := Lib.hid (Xc.out.below hba Xc.out.lt)
          replace TL := Lib.hid (TL.out.mono hba)
          replace T1 := Lib.hid (T1.out.mono hba)
          replace SC := Lib.hid (SC.out.mono hba)
          replace S1 := Lib.hid (S1.out.mono hba)
          replace HB := Lib.hid (HB.out.trans (hba.mono HB.out.size))
          have Xs := Lib.hid (show CBox ((w2.alloc (.cells #[.bool e1, .int .i64 a1, .slice v1o L1.length v1c] 24)).alloc (.cells #[.bool g1, .slice u1o R1.length u1c] 44)) (w2.heap.size) 24 #[.bool e1, .int .i64 a1, .slice v1o L1.length v1c] from ((CBox.new _ (by simp)).old _))
          have Xk := Lib.hid (show CBox ((w2.alloc (.cells #[.bool e1, .int .i64 a1, .slice v1o L1.length v1c] 24)).alloc (.cells #[.bool g1, .slice u1o R1.length u1c] 44)) (w2.heap.size + 1) 44 #[.bool g1, .slice u1o R1.length u1c] from (CBox.new _ (by simp)))
          clear hba
          cases hn : C.contains a
          · have x19 := (Xc.out.at_ 0 (.bool ex) rfl).1
            have x20 := (Xc.out.at_ 1 (.int .i64 at') rfl).1
            have x21 := (Xc.out.at_ 2 (.slice vo L.length vc) rfl).1
            have x22 := (Xc.out.at_ 3 (.bool is) rfl).1
            have x23 := (Xc.out.at_ 4 (.int .i64 1) rfl).1
            have x24 := (Xc.out.at_ 5 (.string g) rfl).1
            have x25 := (Xc.out.at_ 6 (.slice ro C.length rc) rfl).1
            have x26 := (Xc.out.at_ 7 (.int .i64 mem) rfl).1
            have x27 := (Xc.out.at_ 8 (.int .i64 last) rfl).1
            have HC := shas_any _ C a _ SC.out
            rw [hn] at HC
            replace HC := Lib.hid HC
            have HN := Lib.hid hn; clear hn
            go_wp2_with fail
            refine HC.out.mono ?_
            clear HC
            rintro e w' ⟨rfl, rfl⟩
            go_wp2_with fail
            refine (live_yes _).mono ?_
            clear x19 x20 x21 x22 x23 x24 x25 x26 x27
            rintro e w3 ⟨rfl, hb⟩
            replace Xc := Lib.hid (Xc.out.below hb Xc.out.lt)
            replace Xs := Lib.hid (Xs.out.below hb Xs.out.lt)
            replace Xk := Lib.hid (Xk.out.below hb Xk.out.lt)
            replace TL := Lib.hid (TL.out.mono hb)
            replace T1 := Lib.hid (T1.out.mono hb)
            replace SC := Lib.hid (SC.out.mono hb)
            replace S1 := Lib.hid (S1.out.mono hb)
            replace HB := Lib.hid (HB.out.trans (hb.mono HB.out.size))
            clear hb
            go_wp2_with fail
            go_ret
            exact ⟨rfl, HB.out⟩
          · have HQ := Lib.hid (HP1.out (by rw [if_neg (by decide), hn]))
            clear HP1
            have x19 := (Xc.out.at_ 0 (.bool ex) rfl).1
            have x20 := (Xc.out.at_ 1 (.int .i64 at') rfl).1
            have x21 := (Xc.out.at_ 2 (.slice vo L.length vc) rfl).1
            have x22 := (Xc.out.at_ 3 (.bool is) rfl).1
            have x23 := (Xc.out.at_ 4 (.int .i64 1) rfl).1
            have x24 := (Xc.out.at_ 5 (.string g) rfl).1
            have x25 := (Xc.out.at_ 6 (.slice ro C.length rc) rfl).1
            have x26 := (Xc.out.at_ 7 (.int .i64 mem) rfl).1
            have x27 := (Xc.out.at_ 8 (.int .i64 last) rfl).1
            have HC := shas_any _ C a _ SC.out
            rw [hn] at HC
            replace HC := Lib.hid HC
            have HN := Lib.hid hn; clear hn
            go_wp2_with fail
            refine HC.out.mono ?_
            clear HC
            rintro e w' ⟨rfl, rfl⟩
            have x28 := (Xs.out.at_ 0 (.bool e1) rfl).1
            have x29 := (Xs.out.at_ 1 (.int .i64 a1) rfl).1
            have x30 := (Xs.out.at_ 2 (.slice v1o L1.length v1c) rfl).1
            have x31 := (Xc.out.at_ 0 (.bool ex) rfl).1
            have x32 := (Xc.out.at_ 1 (.int .i64 at') rfl).1
            have x33 := (Xc.out.at_ 2 (.slice vo L.length vc) rfl).1
            have x34 := (Xc.out.at_ 3 (.bool is) rfl).1
            have x35 := (Xc.out.at_ 4 (.int .i64 1) rfl).1
            have x36 := (Xc.out.at_ 5 (.string g) rfl).1
            have x37 := (Xc.out.at_ 6 (.slice ro C.length rc) rfl).1
            have x38 := (Xc.out.at_ 7 (.int .i64 mem) rfl).1
            have x39 := (Xc.out.at_ 8 (.int .i64 last) rfl).1
            have HC := Lib.hid (admits_ok e1 a1 _ L1 now a ha _ T1.out (HQ.out now (by omega) (by omega)))
            go_wp2_with fail
            refine HC.out.mono ?_
            clear HC
            clear x19 x20 x21 x22 x23 x24 x25 x26 x27 x28 x29 x30 x31 x32 x33 x34 x35 x36 x37 x38 x39
            rintro e w3 ⟨rfl, hb⟩
            replace Xc := Lib.hid (Xc.out.below hb Xc.out.lt)
            replace Xs := Lib.hid (Xs.out.below hb Xs.out.lt)
            replace Xk := Lib.hid (Xk.out.below hb Xk.out.lt)
            replace TL := Lib.hid (TL.out.mono hb)
            replace T1 := Lib.hid (T1.out.mono hb)
            replace SC := Lib.hid (SC.out.mono hb)
            replace S1 := Lib.hid (S1.out.mono hb)
            replace HB := Lib.hid (HB.out.trans (hb.mono HB.out.size))
            clear hb
            have x40 := (Xs.out.at_ 0 (.bool e1) rfl).1
            have x41 := (Xs.out.at_ 1 (.int .i64 a1) rfl).1
            have x42 := (Xs.out.at_ 2 (.slice v1o L1.length v1c) rfl).1
            have x43 := (Xc.out.at_ 0 (.bool ex) rfl).1
            have x44 := (Xc.out.at_ 1 (.int .i64 at') rfl).1
            have x45 := (Xc.out.at_ 2 (.slice vo L.length vc) rfl).1
            have x46 := (Xc.out.at_ 3 (.bool is) rfl).1
            have x47 := (Xc.out.at_ 4 (.int .i64 1) rfl).1
            have x48 := (Xc.out.at_ 5 (.string g) rfl).1
            have x49 := (Xc.out.at_ 6 (.slice ro C.length rc) rfl).1
            have x50 := (Xc.out.at_ 7 (.int .i64 mem) rfl).1
            have x51 := (Xc.out.at_ 8 (.int .i64 last) rfl).1
            have HC := Lib.hid (admits_ok e1 a1 _ L1 (now + mem - 1) a ha _ T1.out (HQ.out (now + mem - 1) (by omega) (by omega)))
            go_wp2_with fail
            refine HC.out.mono ?_
            clear HC
            clear x40 x41 x42 x43 x44 x45 x46 x47 x48 x49 x50 x51
            rintro e w4 ⟨rfl, hb⟩
            replace Xc := Lib.hid (Xc.out.below hb Xc.out.lt)
            replace Xs := Lib.hid (Xs.out.below hb Xs.out.lt)
            replace Xk := Lib.hid (Xk.out.below hb Xk.out.lt)
            replace TL := Lib.hid (TL.out.mono hb)
            replace T1 := Lib.hid (T1.out.mono hb)
            replace SC := Lib.hid (SC.out.mono hb)
            replace S1 := Lib.hid (S1.out.mono hb)
            replace HB := Lib.hid (HB.out.trans (hb.mono HB.out.size))
            clear hb
            go_wp2_with fail
            refine (live_yes _).mono ?_
            rintro e w5 ⟨rfl, hb⟩
            replace Xc := Lib.hid (Xc.out.below hb Xc.out.lt)
            replace Xs := Lib.hid (Xs.out.below hb Xs.out.lt)
            replace Xk := Lib.hid (Xk.out.below hb Xk.out.lt)
            replace TL := Lib.hid (TL.out.mono hb)
            replace T1 := Lib.hid (T1.out.mono hb)
            replace SC := Lib.hid (SC.out.mono hb)
            replace S1 := Lib.hid (S1.out.mono hb)
            replace HB := Lib.hid (HB.out.trans (hb.mono HB.out.size))
            clear hb
            go_wp2_with fail
            go_ret
            exact ⟨rfl, HB.out⟩
      · clear hk
        have x1 := (Xc.out.at_ 0 (.bool ex) rfl).1
        have x2 := (Xc.out.at_ 1 (.int .i64 at') rfl).1
        have x3 := (Xc.out.at_ 2 (.slice vo L.length vc) rfl).1
        have x4 := (Xc.out.at_ 3 (.bool is) rfl).1
        have x5 := (Xc.out.at_ 4 (.int .i64 2) rfl).1
        have x6 := (Xc.out.at_ 5 (.string g) rfl).1
        have x7 := (Xc.out.at_ 6 (.slice ro C.length rc) rfl).1
        have x8 := (Xc.out.at_ 7 (.int .i64 mem) rfl).1
        have x9 := (Xc.out.at_ 8 (.int .i64 last) rfl).1
        have hf := Lib.hid hf0; clear hf0
        have HC := Lib.hid (few_yes ex at' _ L 2 g _ C _ TL.out SC.out hf.out)
        go_wp2_with fail
        refine HC.out.mono ?_
        clear HC
        clear x1 x2 x3 x4 x5 x6 x7 x8 x9
        rintro e w1 ⟨rfl, hb⟩
        replace Xc := Lib.hid (Xc.out.below hb Xc.out.lt)
        replace TL := Lib.hid (TL.out.mono hb)
        replace SC := Lib.hid (SC.out.mono hb)
        replace HB := Lib.hid (HB.out.trans (hb.mono HB.out.size))
        clear hb
        have x10 := (Xc.out.at_ 0 (.bool ex) rfl).1
        have x11 := (Xc.out.at_ 1 (.int .i64 at') rfl).1
        have x12 := (Xc.out.at_ 2 (.slice vo L.length vc) rfl).1
        have x13 := (Xc.out.at_ 3 (.bool is) rfl).1
        have x14 := (Xc.out.at_ 4 (.int .i64 2) rfl).1
        have x15 := (Xc.out.at_ 5 (.string g) rfl).1
        have x16 := (Xc.out.at_ 6 (.slice ro C.length rc) rfl).1
        have x17 := (Xc.out.at_ 7 (.int .i64 mem) rfl).1
        have x18 := (Xc.out.at_ 8 (.int .i64 last) rfl).1
        have HC := Lib.hid (apply_any ex at' _ L is 2 g _ C now mem last _ TL.out SC.out wa)
        go_wp2_with fail
        refine HC.out.mono ?_
        clear HC
        clear x10 x11 x12 x13 x14 x15 x16 x17 x18
        rintro e w2 ⟨hb, hres⟩
        replace Xc := Lib.hid (Xc.out.below hb Xc.out.lt)
        replace TL := Lib.hid (TL.out.mono hb)
        replace SC := Lib.hid (SC.out.mono hb)
        replace HB := Lib.hid (HB.out.trans (hb.mono HB.out.size))
        clear hb
        obtain ⟨code, hcode⟩ : ∃ code, code = verdict (pcheck (is && ex) (if is then at' else 0) (if is then L else [])) 2 C.length now mem last := ⟨_, rfl⟩
        rw [← hcode] at hres
        rcases hres with ⟨hv, rfl⟩ | ⟨hv, K, hK, ⟨h60, rfl⟩ | ⟨h60, hno, rfl⟩ | ⟨h60, hyes, v1, L1, u1, R1, rfl, hT1, hU1, hR1, hA1, hl1, hl2⟩⟩
        · have hcb : (code != 0) = true := by simpa using hv
          clear hcode hv
          simp only [noState, noAsk]
          have hba : Below w2.heap.size w2 ((w2.alloc (.cells #[.bool false, .int .i64 0, .slice none 0 0] 24)).alloc (.cells #[.bool false, .slice none 0 0] 44)) := (((Below.refl _ _).alloc (Nat.le_refl _) _).alloc (by simp <;> omega) _)
          replace Xc := Lib.hid (Xc.out.below hba Xc.out.lt)
          replace TL := Lib.hid (TL.out.mono hba)
          replace SC := Lib.hid (SC.out.mono hba)
          replace HB := Lib.hid (HB.out.trans (hba.mono HB.out.size))
          have Xs := Lib.hid (show CBox ((w2.alloc (.cells #[.bool false, .int .i64 0, .slice none 0 0] 24)).alloc (.cells #[.bool false, .slice none 0 0] 44)) (w2.heap.size) 24 #[.bool false, .int .i64 0, .slice none 0 0] from ((CBox.new _ (by simp)).old _))
          have Xk := Lib.hid (show CBox ((w2.alloc (.cells #[.bool false, .int .i64 0, .slice none 0 0] 24)).alloc (.cells #[.bool false, .slice none 0 0] 44)) (w2.heap.size + 1) 44 #[.bool false, .slice none 0 0] from (CBox.new _ (by simp)))
          clear hba
          go_wp2_with fail
          refine (live_yes _).mono ?_
          rintro e w3 ⟨rfl, hb⟩
          replace Xc := Lib.hid (Xc.out.below hb Xc.out.lt)
          replace Xs := Lib.hid (Xs.out.below hb Xs.out.lt)
          replace Xk := Lib.hid (Xk.out.below hb Xk.out.lt)
          replace TL := Lib.hid (TL.out.mono hb)
          replace SC := Lib.hid (SC.out.mono hb)
          replace HB := Lib.hid (HB.out.trans (hb.mono HB.out.size))
          clear hb
          go_wp2_with fail
          go_ret
          exact ⟨rfl, HB.out⟩
        · clear hcode hv hK h60
          simp only [noState, noAsk]
          have hba : Below w2.heap.size w2 ((w2.alloc (.cells #[.bool false, .int .i64 0, .slice none 0 0] 24)).alloc (.cells #[.bool false, .slice none 0 0] 44)) := (((Below.refl _ _).alloc (Nat.le_refl _) _).alloc (by simp <;> omega) _)
          replace Xc := Lib.hid (Xc.out.below hba Xc.out.lt)
          replace TL := Lib.hid (TL.out.mono hba)
          replace SC := Lib.hid (SC.out.mono hba)
          replace HB := Lib.hid (HB.out.trans (hba.mono HB.out.size))
          have Xs := Lib.hid (show CBox ((w2.alloc (.cells #[.bool false, .int .i64 0, .slice none 0 0] 24)).alloc (.cells #[.bool false, .slice none 0 0] 44)) (w2.heap.size) 24 #[.bool false, .int .i64 0, .slice none 0 0] from ((CBox.new _ (by simp)).old _))
          have Xk := Lib.hid (show CBox ((w2.alloc (.cells #[.bool false, .int .i64 0, .slice none 0 0] 24)).alloc (.cells #[.bool false, .slice none 0 0] 44)) (w2.heap.size + 1) 44 #[.bool false, .slice none 0 0] from (CBox.new _ (by simp)))
          clear hba
          go_wp2_with fail
          refine (live_yes _).mono ?_
          rintro e w3 ⟨rfl, hb⟩
          replace Xc := Lib.hid (Xc.out.below hb Xc.out.lt)
          replace Xs := Lib.hid (Xs.out.below hb Xs.out.lt)
          replace Xk := Lib.hid (Xk.out.below hb Xk.out.lt)
          replace TL := Lib.hid (TL.out.mono hb)
          replace SC := Lib.hid (SC.out.mono hb)
          replace HB := Lib.hid (HB.out.trans (hb.mono HB.out.size))
          clear hb
          go_wp2_with fail
          go_ret
          exact ⟨rfl, HB.out⟩
        · have HV0 := Lib.hid (hcode.symm.trans hv); have HKK := Lib.hid hK; have HNO := Lib.hid hno; clear hcode hv hK h60 hno
          exact absurd HNO.out.1 (by simp [inEx])
        · have hv' := hcode.symm.trans hv
          have hpc := app_check hv' hK h60 hA1
          obtain ⟨v1o, v1c, rfl⟩ := hT1.shape
          obtain ⟨u1o, u1c, rfl⟩ := hU1.shape
          have HV0 := Lib.hid hv'; have HKK := Lib.hid hK; have HAS := Lib.hid hA1; have HRR := Lib.hid hR1; have HYES := Lib.hid hyes; have H60 := Lib.hid h60
          clear hcode hv hv' hK hA1 hR1 hyes hl1 hl2 h60
          obtain ⟨_, b1, b2, b3, b4, _⟩ := verdict_ok HV0.out
          have HP1 := fun (hw : (if (2 : Int) = 2 ∨ (2 : Int) = 4 then !C.contains a else C.contains a) = true) (t : Int) (h0 : 0 ≤ t) (h1 : t < now + mem) => wants_law HV0.out HRR.out HAS.out hpc hw (by decide) h0 h1
          obtain ⟨a1, ha1⟩ : ∃ a1, (if inG 2 (is && ex) = true then min (inAt 2 (if is then at' else 0) (now + mem)) (now + last) else inAt 2 (if is then at' else 0) (now + mem)) = a1 := ⟨_, rfl⟩
          obtain ⟨e1, he1⟩ : ∃ e1, inEx 2 (is && ex) = e1 := ⟨_, rfl⟩
          obtain ⟨g1, hg1⟩ : ∃ g1, inG 2 (is && ex) = g1 := ⟨_, rfl⟩
          rw [ha1, he1] at hpc
          simp only [ha1]
          simp only [he1, hg1]
          rw [ha1, he1] at HP1
          replace HP1 := Lib.hid HP1
          have HPC := Lib.hid hpc; clear hpc
          have HE1 := Lib.hid he1; have HA1 := Lib.hid ha1; have HG1 := Lib.hid hg1
          have T1 := Lib.hid hT1; have S1 := Lib.hid hU1
          clear hT1 hU1 ha1 he1 hg1
          have hba : Below w2.heap.size w2 ((w2.alloc (.cells #[.bool e1, .int .i64 a1, .slice v1o L1.length v1c] 24)).alloc (.cells #[.bool g1, .slice u1o R1.length u1c] 44)) := (((Below.refl _ _).alloc (Nat.le_refl _) _).alloc (by simp <;> omega) _)
          replace Xc := Lib.hid (Xc.out.below hba Xc.out.lt)
          replace TL := Lib.hid (TL.out.mono hba)
          replace T1 := Lib.hid (T1.out.mono hba)
          replace SC := Lib.hid (SC.out.mono hba)
          replace S1 := Lib.hid (S1.out.mono hba)
          replace HB := Lib.hid (HB.out.trans (hba.mono HB.out.size))
          have Xs := Lib.hid (show CBox ((w2.alloc (.cells #[.bool e1, .int .i64 a1, .slice v1o L1.length v1c] 24)).alloc (.cells #[.bool g1, .slice u1o R1.length u1c] 44)) (w2.heap.size) 24 #[.bool e1, .int .i64 a1, .slice v1o L1.length v1c] from ((CBox.new _ (by simp)).old _))
          have Xk := Lib.hid (show CBox ((w2.alloc (.cells #[.bool e1, .int .i64 a1, .slice v1o L1.length v1c] 24)).alloc (.cells #[.bool g1, .slice u1o R1.length u1c] 44)) (w2.heap.size + 1) 44 #[.bool g1, .slice u1o R1.length u1c] from (CBox.new _ (by simp)))
          clear hba
          cases hn : C.contains a
          · have HQ := Lib.hid (HP1.out (by rw [if_pos (by decide), hn]; rfl))
            clear HP1
            have x19 := (Xc.out.at_ 0 (.bool ex) rfl).1
            have x20 := (Xc.out.at_ 1 (.int .i64 at') rfl).1
            have x21 := (Xc.out.at_ 2 (.slice vo L.length vc) rfl).1
            have x22 := (Xc.out.at_ 3 (.bool is) rfl).1
            have x23 := (Xc.out.at_ 4 (.int .i64 2) rfl).1
            have x24 := (Xc.out.at_ 5 (.string g) rfl).1
            have x25 := (Xc.out.at_ 6 (.slice ro C.length rc) rfl).1
            have x26 := (Xc.out.at_ 7 (.int .i64 mem) rfl).1
            have x27 := (Xc.out.at_ 8 (.int .i64 last) rfl).1
            have HC := shas_any _ C a _ SC.out
            rw [hn] at HC
            replace HC := Lib.hid HC
            have HN := Lib.hid hn; clear hn
            go_wp2_with fail
            refine HC.out.mono ?_
            clear HC
            rintro e w' ⟨rfl, rfl⟩
            have x28 := (Xs.out.at_ 0 (.bool e1) rfl).1
            have x29 := (Xs.out.at_ 1 (.int .i64 a1) rfl).1
            have x30 := (Xs.out.at_ 2 (.slice v1o L1.length v1c) rfl).1
            have x31 := (Xc.out.at_ 0 (.bool ex) rfl).1
            have x32 := (Xc.out.at_ 1 (.int .i64 at') rfl).1
            have x33 := (Xc.out.at_ 2 (.slice vo L.length vc) rfl).1
            have x34 := (Xc.out.at_ 3 (.bool is) rfl).1
            have x35 := (Xc.out.at_ 4 (.int .i64 2) rfl).1
            have x36 := (Xc.out.at_ 5 (.string g) rfl).1
            have x37 := (Xc.out.at_ 6 (.slice ro C.length rc) rfl).1
            have x38 := (Xc.out.at_ 7 (.int .i64 mem) rfl).1
            have x39 := (Xc.out.at_ 8 (.int .i64 last) rfl).1
            have HC := Lib.hid (admits_ok e1 a1 _ L1 now a ha _ T1.out (HQ.out now (by omega) (by omega)))
            go_wp2_with fail
            refine HC.out.mono ?_
            clear HC
            clear x19 x20 x21 x22 x23 x24 x25 x26 x27 x28 x29 x30 x31 x32 x33 x34 x35 x36 x37 x38 x39
            rintro e w3 ⟨rfl, hb⟩
            replace Xc := Lib.hid (Xc.out.below hb Xc.out.lt)
            replace Xs := Lib.hid (Xs.out.below hb Xs.out.lt)
            replace Xk := Lib.hid (Xk.out.below hb Xk.out.lt)
            replace TL := Lib.hid (TL.out.mono hb)
            replace T1 := Lib.hid (T1.out.mono hb)
            replace SC := Lib.hid (SC.out.mono hb)
            replace S1 := Lib.hid (S1.out.mono hb)
            replace HB := Lib.hid (HB.out.trans (hb.mono HB.out.size))
            clear hb
            cases is
            · have x40 := (Xc.out.at_ 0 (.bool ex) rfl).1
              have x41 := (Xc.out.at_ 1 (.int .i64 at') rfl).1
              have x42 := (Xc.out.at_ 2 (.slice vo L.length vc) rfl).1
              have x43 := (Xc.out.at_ 3 (.bool false) rfl).1
              have x44 := (Xc.out.at_ 4 (.int .i64 2) rfl).1
              have x45 := (Xc.out.at_ 5 (.string g) rfl).1
              have x46 := (Xc.out.at_ 6 (.slice ro C.length rc) rfl).1
              have x47 := (Xc.out.at_ 7 (.int .i64 mem) rfl).1
              have x48 := (Xc.out.at_ 8 (.int .i64 last) rfl).1
              have x49 := (Xs.out.at_ 0 (.bool e1) rfl).1
              have x50 := (Xs.out.at_ 1 (.int .i64 a1) rfl).1
              have x51 := (Xs.out.at_ 2 (.slice v1o L1.length v1c) rfl).1
              have HC := Lib.hid (admits_ok e1 a1 _ L1 (now + mem - 1) a ha _ T1.out (HQ.out (now + mem - 1) (by omega) (by omega)))
              go_wp2_with fail
              refine HC.out.mono ?_
              clear HC
              clear x40 x41 x42 x43 x44 x45 x46 x47 x48 x49 x50 x51
              rintro e w4 ⟨rfl, hb⟩
              replace Xc := Lib.hid (Xc.out.below hb Xc.out.lt)
              replace Xs := Lib.hid (Xs.out.below hb Xs.out.lt)
              replace Xk := Lib.hid (Xk.out.below hb Xk.out.lt)
              replace TL := Lib.hid (TL.out.mono hb)
              replace T1 := Lib.hid (T1.out.mono hb)
              replace SC := Lib.hid (SC.out.mono hb)
              replace S1 := Lib.hid (S1.out.mono hb)
              replace HB := Lib.hid (HB.out.trans (hb.mono HB.out.size))
              clear hb
              go_wp2_with fail
              refine (live_yes _).mono ?_
              rintro e w5 ⟨rfl, hb⟩
              replace Xc := Lib.hid (Xc.out.below hb Xc.out.lt)
              replace Xs := Lib.hid (Xs.out.below hb Xs.out.lt)
              replace Xk := Lib.hid (Xk.out.below hb Xk.out.lt)
              replace TL := Lib.hid (TL.out.mono hb)
              replace T1 := Lib.hid (T1.out.mono hb)
              replace SC := Lib.hid (SC.out.mono hb)
              replace S1 := Lib.hid (S1.out.mono hb)
              replace HB := Lib.hid (HB.out.trans (hb.mono HB.out.size))
              clear hb
              go_wp2_with fail
              go_ret
              exact ⟨rfl, HB.out⟩
            · cases ex
              · have x40 := (Xc.out.at_ 0 (.bool false) rfl).1
                have x41 := (Xc.out.at_ 1 (.int .i64 at') rfl).1
                have x42 := (Xc.out.at_ 2 (.slice vo L.length vc) rfl).1
                have x43 := (Xc.out.at_ 3 (.bool true) rfl).1
                have x44 := (Xc.out.at_ 4 (.int .i64 2) rfl).1
                have x45 := (Xc.out.at_ 5 (.string g) rfl).1
                have x46 := (Xc.out.at_ 6 (.slice ro C.length rc) rfl).1
                have x47 := (Xc.out.at_ 7 (.int .i64 mem) rfl).1
                have x48 := (Xc.out.at_ 8 (.int .i64 last) rfl).1
                have x49 := (Xs.out.at_ 0 (.bool e1) rfl).1
                have x50 := (Xs.out.at_ 1 (.int .i64 a1) rfl).1
                have x51 := (Xs.out.at_ 2 (.slice v1o L1.length v1c) rfl).1
                have HC := Lib.hid (admits_ok e1 a1 _ L1 (now + mem - 1) a ha _ T1.out (HQ.out (now + mem - 1) (by omega) (by omega)))
                go_wp2_with fail
                refine HC.out.mono ?_
                clear HC
                clear x40 x41 x42 x43 x44 x45 x46 x47 x48 x49 x50 x51
                rintro e w4 ⟨rfl, hb⟩
                replace Xc := Lib.hid (Xc.out.below hb Xc.out.lt)
                replace Xs := Lib.hid (Xs.out.below hb Xs.out.lt)
                replace Xk := Lib.hid (Xk.out.below hb Xk.out.lt)
                replace TL := Lib.hid (TL.out.mono hb)
                replace T1 := Lib.hid (T1.out.mono hb)
                replace SC := Lib.hid (SC.out.mono hb)
                replace S1 := Lib.hid (S1.out.mono hb)
                replace HB := Lib.hid (HB.out.trans (hb.mono HB.out.size))
                clear hb
                go_wp2_with fail
                refine (live_yes _).mono ?_
                rintro e w5 ⟨rfl, hb⟩
                replace Xc := Lib.hid (Xc.out.below hb Xc.out.lt)
                replace Xs := Lib.hid (Xs.out.below hb Xs.out.lt)
                replace Xk := Lib.hid (Xk.out.below hb Xk.out.lt)
                replace TL := Lib.hid (TL.out.mono hb)
                replace T1 := Lib.hid (T1.out.mono hb)
                replace SC := Lib.hid (SC.out.mono hb)
                replace S1 := Lib.hid (S1.out.mono hb)
                replace HB := Lib.hid (HB.out.trans (hb.mono HB.out.size))
                clear hb
                go_wp2_with fail
                go_ret
                exact ⟨rfl, HB.out⟩
              · have x40 := (Xc.out.at_ 0 (.bool true) rfl).1
                have x41 := (Xc.out.at_ 1 (.int .i64 at') rfl).1
                have x42 := (Xc.out.at_ 2 (.slice vo L.length vc) rfl).1
                have x43 := (Xc.out.at_ 3 (.bool true) rfl).1
                have x44 := (Xc.out.at_ 4 (.int .i64 2) rfl).1
                have x45 := (Xc.out.at_ 5 (.string g) rfl).1
                have x46 := (Xc.out.at_ 6 (.slice ro C.length rc) rfl).1
                have x47 := (Xc.out.at_ 7 (.int .i64 mem) rfl).1
                have x48 := (Xc.out.at_ 8 (.int .i64 last) rfl).1
                have x49 := (Xs.out.at_ 0 (.bool e1) rfl).1
                have x50 := (Xs.out.at_ 1 (.int .i64 a1) rfl).1
                have x51 := (Xs.out.at_ 2 (.slice v1o L1.length v1c) rfl).1
                go_wp2_with fail
                refine (live_yes _).mono ?_
                clear x40 x41 x42 x43 x44 x45 x46 x47 x48 x49 x50 x51
                rintro e w4 ⟨rfl, hb⟩
                replace Xc := Lib.hid (Xc.out.below hb Xc.out.lt)
                replace Xs := Lib.hid (Xs.out.below hb Xs.out.lt)
                replace Xk := Lib.hid (Xk.out.below hb Xk.out.lt)
                replace TL := Lib.hid (TL.out.mono hb)
                replace T1 := Lib.hid (T1.out.mono hb)
                replace SC := Lib.hid (SC.out.mono hb)
                replace S1 := Lib.hid (S1.out.mono hb)
                replace HB := Lib.hid (HB.out.trans (hb.mono HB.out.size))
                clear hb
                go_wp2_with fail
                go_ret
                exact ⟨rfl, HB.out⟩
          · have x19 := (Xc.out.at_ 0 (.bool ex) rfl).1
            have x20 := (Xc.out.at_ 1 (.int .i64 at') rfl).1
            have x21 := (Xc.out.at_ 2 (.slice vo L.length vc) rfl).1
            have x22 := (Xc.out.at_ 3 (.bool is) rfl).1
            have x23 := (Xc.out.at_ 4 (.int .i64 2) rfl).1
            have x24 := (Xc.out.at_ 5 (.string g) rfl).1
            have x25 := (Xc.out.at_ 6 (.slice ro C.length rc) rfl).1
            have x26 := (Xc.out.at_ 7 (.int .i64 mem) rfl).1
            have x27 := (Xc.out.at_ 8 (.int .i64 last) rfl).1
            have HC := shas_any _ C a _ SC.out
            rw [hn] at HC
            replace HC := Lib.hid HC
            have HN := Lib.hid hn; clear hn
            go_wp2_with fail
            refine HC.out.mono ?_
            clear HC
            rintro e w' ⟨rfl, rfl⟩
            go_wp2_with fail
            refine (live_yes _).mono ?_
            clear x19 x20 x21 x22 x23 x24 x25 x26 x27
            rintro e w3 ⟨rfl, hb⟩
            replace Xc := Lib.hid (Xc.out.below hb Xc.out.lt)
            replace Xs := Lib.hid (Xs.out.below hb Xs.out.lt)
            replace Xk := Lib.hid (Xk.out.below hb Xk.out.lt)
            replace TL := Lib.hid (TL.out.mono hb)
            replace T1 := Lib.hid (T1.out.mono hb)
            replace SC := Lib.hid (SC.out.mono hb)
            replace S1 := Lib.hid (S1.out.mono hb)
            replace HB := Lib.hid (HB.out.trans (hb.mono HB.out.size))
            clear hb
            go_wp2_with fail
            go_ret
            exact ⟨rfl, HB.out⟩
      · clear hk
        have x1 := (Xc.out.at_ 0 (.bool ex) rfl).1
        have x2 := (Xc.out.at_ 1 (.int .i64 at') rfl).1
        have x3 := (Xc.out.at_ 2 (.slice vo L.length vc) rfl).1
        have x4 := (Xc.out.at_ 3 (.bool is) rfl).1
        have x5 := (Xc.out.at_ 4 (.int .i64 3) rfl).1
        have x6 := (Xc.out.at_ 5 (.string g) rfl).1
        have x7 := (Xc.out.at_ 6 (.slice ro C.length rc) rfl).1
        have x8 := (Xc.out.at_ 7 (.int .i64 mem) rfl).1
        have x9 := (Xc.out.at_ 8 (.int .i64 last) rfl).1
        have hf := Lib.hid hf0; clear hf0
        have HC := Lib.hid (few_yes ex at' _ L 3 g _ C _ TL.out SC.out hf.out)
        go_wp2_with fail
        refine HC.out.mono ?_
        clear HC
        clear x1 x2 x3 x4 x5 x6 x7 x8 x9
        rintro e w1 ⟨rfl, hb⟩
        replace Xc := Lib.hid (Xc.out.below hb Xc.out.lt)
        replace TL := Lib.hid (TL.out.mono hb)
        replace SC := Lib.hid (SC.out.mono hb)
        replace HB := Lib.hid (HB.out.trans (hb.mono HB.out.size))
        clear hb
        have x10 := (Xc.out.at_ 0 (.bool ex) rfl).1
        have x11 := (Xc.out.at_ 1 (.int .i64 at') rfl).1
        have x12 := (Xc.out.at_ 2 (.slice vo L.length vc) rfl).1
        have x13 := (Xc.out.at_ 3 (.bool is) rfl).1
        have x14 := (Xc.out.at_ 4 (.int .i64 3) rfl).1
        have x15 := (Xc.out.at_ 5 (.string g) rfl).1
        have x16 := (Xc.out.at_ 6 (.slice ro C.length rc) rfl).1
        have x17 := (Xc.out.at_ 7 (.int .i64 mem) rfl).1
        have x18 := (Xc.out.at_ 8 (.int .i64 last) rfl).1
        have HC := Lib.hid (apply_any ex at' _ L is 3 g _ C now mem last _ TL.out SC.out wa)
        go_wp2_with fail
        refine HC.out.mono ?_
        clear HC
        clear x10 x11 x12 x13 x14 x15 x16 x17 x18
        rintro e w2 ⟨hb, hres⟩
        replace Xc := Lib.hid (Xc.out.below hb Xc.out.lt)
        replace TL := Lib.hid (TL.out.mono hb)
        replace SC := Lib.hid (SC.out.mono hb)
        replace HB := Lib.hid (HB.out.trans (hb.mono HB.out.size))
        clear hb
        obtain ⟨code, hcode⟩ : ∃ code, code = verdict (pcheck (is && ex) (if is then at' else 0) (if is then L else [])) 3 C.length now mem last := ⟨_, rfl⟩
        rw [← hcode] at hres
        rcases hres with ⟨hv, rfl⟩ | ⟨hv, K, hK, ⟨h60, rfl⟩ | ⟨h60, hno, rfl⟩ | ⟨h60, hyes, v1, L1, u1, R1, rfl, hT1, hU1, hR1, hA1, hl1, hl2⟩⟩
        · have hcb : (code != 0) = true := by simpa using hv
          clear hcode hv
          simp only [noState, noAsk]
          have hba : Below w2.heap.size w2 ((w2.alloc (.cells #[.bool false, .int .i64 0, .slice none 0 0] 24)).alloc (.cells #[.bool false, .slice none 0 0] 44)) := (((Below.refl _ _).alloc (Nat.le_refl _) _).alloc (by simp <;> omega) _)
          replace Xc := Lib.hid (Xc.out.below hba Xc.out.lt)
          replace TL := Lib.hid (TL.out.mono hba)
          replace SC := Lib.hid (SC.out.mono hba)
          replace HB := Lib.hid (HB.out.trans (hba.mono HB.out.size))
          have Xs := Lib.hid (show CBox ((w2.alloc (.cells #[.bool false, .int .i64 0, .slice none 0 0] 24)).alloc (.cells #[.bool false, .slice none 0 0] 44)) (w2.heap.size) 24 #[.bool false, .int .i64 0, .slice none 0 0] from ((CBox.new _ (by simp)).old _))
          have Xk := Lib.hid (show CBox ((w2.alloc (.cells #[.bool false, .int .i64 0, .slice none 0 0] 24)).alloc (.cells #[.bool false, .slice none 0 0] 44)) (w2.heap.size + 1) 44 #[.bool false, .slice none 0 0] from (CBox.new _ (by simp)))
          clear hba
          go_wp2_with fail
          refine (live_yes _).mono ?_
          rintro e w3 ⟨rfl, hb⟩
          replace Xc := Lib.hid (Xc.out.below hb Xc.out.lt)
          replace Xs := Lib.hid (Xs.out.below hb Xs.out.lt)
          replace Xk := Lib.hid (Xk.out.below hb Xk.out.lt)
          replace TL := Lib.hid (TL.out.mono hb)
          replace SC := Lib.hid (SC.out.mono hb)
          replace HB := Lib.hid (HB.out.trans (hb.mono HB.out.size))
          clear hb
          go_wp2_with fail
          go_ret
          exact ⟨rfl, HB.out⟩
        · clear hcode hv hK h60
          simp only [noState, noAsk]
          have hba : Below w2.heap.size w2 ((w2.alloc (.cells #[.bool false, .int .i64 0, .slice none 0 0] 24)).alloc (.cells #[.bool false, .slice none 0 0] 44)) := (((Below.refl _ _).alloc (Nat.le_refl _) _).alloc (by simp <;> omega) _)
          replace Xc := Lib.hid (Xc.out.below hba Xc.out.lt)
          replace TL := Lib.hid (TL.out.mono hba)
          replace SC := Lib.hid (SC.out.mono hba)
          replace HB := Lib.hid (HB.out.trans (hba.mono HB.out.size))
          have Xs := Lib.hid (show CBox ((w2.alloc (.cells #[.bool false, .int .i64 0, .slice none 0 0] 24)).alloc (.cells #[.bool false, .slice none 0 0] 44)) (w2.heap.size) 24 #[.bool false, .int .i64 0, .slice none 0 0] from ((CBox.new _ (by simp)).old _))
          have Xk := Lib.hid (show CBox ((w2.alloc (.cells #[.bool false, .int .i64 0, .slice none 0 0] 24)).alloc (.cells #[.bool false, .slice none 0 0] 44)) (w2.heap.size + 1) 44 #[.bool false, .slice none 0 0] from (CBox.new _ (by simp)))
          clear hba
          go_wp2_with fail
          refine (live_yes _).mono ?_
          rintro e w3 ⟨rfl, hb⟩
          replace Xc := Lib.hid (Xc.out.below hb Xc.out.lt)
          replace Xs := Lib.hid (Xs.out.below hb Xs.out.lt)
          replace Xk := Lib.hid (Xk.out.below hb Xk.out.lt)
          replace TL := Lib.hid (TL.out.mono hb)
          replace SC := Lib.hid (SC.out.mono hb)
          replace HB := Lib.hid (HB.out.trans (hb.mono HB.out.size))
          clear hb
          go_wp2_with fail
          go_ret
          exact ⟨rfl, HB.out⟩
        · have HV0 := Lib.hid (hcode.symm.trans hv); have HKK := Lib.hid hK; have HNO := Lib.hid hno; clear hcode hv hK h60 hno
          simp only [noState, noAsk]
          have hba : Below w2.heap.size w2 ((w2.alloc (.cells #[.bool false, .int .i64 0, .slice none 0 0] 24)).alloc (.cells #[.bool false, .slice none 0 0] 44)) := (((Below.refl _ _).alloc (Nat.le_refl _) _).alloc (by simp <;> omega) _)
          replace Xc := Lib.hid (Xc.out.below hba Xc.out.lt)
          replace TL := Lib.hid (TL.out.mono hba)
          replace SC := Lib.hid (SC.out.mono hba)
          replace HB := Lib.hid (HB.out.trans (hba.mono HB.out.size))
          have Xs := Lib.hid (show CBox ((w2.alloc (.cells #[.bool false, .int .i64 0, .slice none 0 0] 24)).alloc (.cells #[.bool false, .slice none 0 0] 44)) (w2.heap.size) 24 #[.bool false, .int .i64 0, .slice none 0 0] from ((CBox.new _ (by simp)).old _))
          have Xk := Lib.hid (show CBox ((w2.alloc (.cells #[.bool false, .int .i64 0, .slice none 0 0] 24)).alloc (.cells #[.bool false, .slice none 0 0] 44)) (w2.heap.size + 1) 44 #[.bool false, .slice none 0 0] from (CBox.new _ (by simp)))
          clear hba
          cases hn : C.contains a
          · have x19 := (Xc.out.at_ 0 (.bool ex) rfl).1
            have x20 := (Xc.out.at_ 1 (.int .i64 at') rfl).1
            have x21 := (Xc.out.at_ 2 (.slice vo L.length vc) rfl).1
            have x22 := (Xc.out.at_ 3 (.bool is) rfl).1
            have x23 := (Xc.out.at_ 4 (.int .i64 3) rfl).1
            have x24 := (Xc.out.at_ 5 (.string g) rfl).1
            have x25 := (Xc.out.at_ 6 (.slice ro C.length rc) rfl).1
            have x26 := (Xc.out.at_ 7 (.int .i64 mem) rfl).1
            have x27 := (Xc.out.at_ 8 (.int .i64 last) rfl).1
            have HC := shas_any _ C a _ SC.out
            rw [hn] at HC
            replace HC := Lib.hid HC
            have HN := Lib.hid hn; clear hn
            go_wp2_with fail
            refine HC.out.mono ?_
            clear HC
            rintro e w' ⟨rfl, rfl⟩
            go_wp2_with fail
            refine (live_yes _).mono ?_
            clear x19 x20 x21 x22 x23 x24 x25 x26 x27
            rintro e w3 ⟨rfl, hb⟩
            replace Xc := Lib.hid (Xc.out.below hb Xc.out.lt)
            replace Xs := Lib.hid (Xs.out.below hb Xs.out.lt)
            replace Xk := Lib.hid (Xk.out.below hb Xk.out.lt)
            replace TL := Lib.hid (TL.out.mono hb)
            replace SC := Lib.hid (SC.out.mono hb)
            replace HB := Lib.hid (HB.out.trans (hb.mono HB.out.size))
            clear hb
            go_wp2_with fail
            go_ret
            exact ⟨rfl, HB.out⟩
          · exact absurd HNO.out (wants_is (a := a) HV0.out HKK.out (by rw [if_neg (by decide), hn]) (by decide))
        · have hv' := hcode.symm.trans hv
          have hpc := app_check hv' hK h60 hA1
          obtain ⟨v1o, v1c, rfl⟩ := hT1.shape
          obtain ⟨u1o, u1c, rfl⟩ := hU1.shape
          have HV0 := Lib.hid hv'; have HKK := Lib.hid hK; have HAS := Lib.hid hA1; have HRR := Lib.hid hR1; have HYES := Lib.hid hyes; have H60 := Lib.hid h60
          clear hcode hv hv' hK hA1 hR1 hyes hl1 hl2 h60
          obtain ⟨_, b1, b2, b3, b4, _⟩ := verdict_ok HV0.out
          have HP1 := fun (hw : (if (3 : Int) = 2 ∨ (3 : Int) = 4 then !C.contains a else C.contains a) = true) (t : Int) (h0 : 0 ≤ t) (h1 : t < now + mem) => wants_law HV0.out HRR.out HAS.out hpc hw (by decide) h0 h1
          obtain ⟨a1, ha1⟩ : ∃ a1, (if inG 3 (is && ex) = true then min (inAt 3 (if is then at' else 0) (now + mem)) (now + last) else inAt 3 (if is then at' else 0) (now + mem)) = a1 := ⟨_, rfl⟩
          obtain ⟨e1, he1⟩ : ∃ e1, inEx 3 (is && ex) = e1 := ⟨_, rfl⟩
          obtain ⟨g1, hg1⟩ : ∃ g1, inG 3 (is && ex) = g1 := ⟨_, rfl⟩
          rw [ha1, he1] at hpc
          simp only [ha1]
          simp only [he1, hg1]
          rw [ha1, he1] at HP1
          replace HP1 := Lib.hid HP1
          have HPC := Lib.hid hpc; clear hpc
          have HE1 := Lib.hid he1; have HA1 := Lib.hid ha1; have HG1 := Lib.hid hg1
          have T1 := Lib.hid hT1; have S1 := Lib.hid hU1
          clear hT1 hU1 ha1 he1 hg1
          have hba : Below w2.heap.size w2 ((w2.alloc (.cells #[.bool e1, .int .i64 a1, .slice v1o L1.length v1c] 24)).alloc (.cells #[.bool g1, .slice u1o R1.length u1c] 44)) := (((Below.refl _ _).alloc (Nat.le_refl _) _).alloc (by simp <;> omega) _)
          replace Xc := Lib.hid (Xc.out.below hba Xc.out.lt)
          replace TL := Lib.hid (TL.out.mono hba)
          replace T1 := Lib.hid (T1.out.mono hba)
          replace SC := Lib.hid (SC.out.mono hba)
          replace S1 := Lib.hid (S1.out.mono hba)
          replace HB := Lib.hid (HB.out.trans (hba.mono HB.out.size))
          have Xs := Lib.hid (show CBox ((w2.alloc (.cells #[.bool e1, .int .i64 a1, .slice v1o L1.length v1c] 24)).alloc (.cells #[.bool g1, .slice u1o R1.length u1c] 44)) (w2.heap.size) 24 #[.bool e1, .int .i64 a1, .slice v1o L1.length v1c] from ((CBox.new _ (by simp)).old _))
          have Xk := Lib.hid (show CBox ((w2.alloc (.cells #[.bool e1, .int .i64 a1, .slice v1o L1.length v1c] 24)).alloc (.cells #[.bool g1, .slice u1o R1.length u1c] 44)) (w2.heap.size + 1) 44 #[.bool g1, .slice u1o R1.length u1c] from (CBox.new _ (by simp)))
          clear hba
          cases hn : C.contains a
          · have x19 := (Xc.out.at_ 0 (.bool ex) rfl).1
            have x20 := (Xc.out.at_ 1 (.int .i64 at') rfl).1
            have x21 := (Xc.out.at_ 2 (.slice vo L.length vc) rfl).1
            have x22 := (Xc.out.at_ 3 (.bool is) rfl).1
            have x23 := (Xc.out.at_ 4 (.int .i64 3) rfl).1
            have x24 := (Xc.out.at_ 5 (.string g) rfl).1
            have x25 := (Xc.out.at_ 6 (.slice ro C.length rc) rfl).1
            have x26 := (Xc.out.at_ 7 (.int .i64 mem) rfl).1
            have x27 := (Xc.out.at_ 8 (.int .i64 last) rfl).1
            have HC := shas_any _ C a _ SC.out
            rw [hn] at HC
            replace HC := Lib.hid HC
            have HN := Lib.hid hn; clear hn
            go_wp2_with fail
            refine HC.out.mono ?_
            clear HC
            rintro e w' ⟨rfl, rfl⟩
            go_wp2_with fail
            refine (live_yes _).mono ?_
            clear x19 x20 x21 x22 x23 x24 x25 x26 x27
            rintro e w3 ⟨rfl, hb⟩
            replace Xc := Lib.hid (Xc.out.below hb Xc.out.lt)
            replace Xs := Lib.hid (Xs.out.below hb Xs.out.lt)
            replace Xk := Lib.hid (Xk.out.below hb Xk.out.lt)
            replace TL := Lib.hid (TL.out.mono hb)
            replace T1 := Lib.hid (T1.out.mono hb)
            replace SC := Lib.hid (SC.out.mono hb)
            replace S1 := Lib.hid (S1.out.mono hb)
            replace HB := Lib.hid (HB.out.trans (hb.mono HB.out.size))
            clear hb
            go_wp2_with fail
            go_ret
            exact ⟨rfl, HB.out⟩
          · have HQ := Lib.hid (HP1.out (by rw [if_neg (by decide), hn]))
            clear HP1
            have x19 := (Xc.out.at_ 0 (.bool ex) rfl).1
            have x20 := (Xc.out.at_ 1 (.int .i64 at') rfl).1
            have x21 := (Xc.out.at_ 2 (.slice vo L.length vc) rfl).1
            have x22 := (Xc.out.at_ 3 (.bool is) rfl).1
            have x23 := (Xc.out.at_ 4 (.int .i64 3) rfl).1
            have x24 := (Xc.out.at_ 5 (.string g) rfl).1
            have x25 := (Xc.out.at_ 6 (.slice ro C.length rc) rfl).1
            have x26 := (Xc.out.at_ 7 (.int .i64 mem) rfl).1
            have x27 := (Xc.out.at_ 8 (.int .i64 last) rfl).1
            have HC := shas_any _ C a _ SC.out
            rw [hn] at HC
            replace HC := Lib.hid HC
            have HN := Lib.hid hn; clear hn
            go_wp2_with fail
            refine HC.out.mono ?_
            clear HC
            rintro e w' ⟨rfl, rfl⟩
            have x28 := (Xs.out.at_ 0 (.bool e1) rfl).1
            have x29 := (Xs.out.at_ 1 (.int .i64 a1) rfl).1
            have x30 := (Xs.out.at_ 2 (.slice v1o L1.length v1c) rfl).1
            have x31 := (Xc.out.at_ 0 (.bool ex) rfl).1
            have x32 := (Xc.out.at_ 1 (.int .i64 at') rfl).1
            have x33 := (Xc.out.at_ 2 (.slice vo L.length vc) rfl).1
            have x34 := (Xc.out.at_ 3 (.bool is) rfl).1
            have x35 := (Xc.out.at_ 4 (.int .i64 3) rfl).1
            have x36 := (Xc.out.at_ 5 (.string g) rfl).1
            have x37 := (Xc.out.at_ 6 (.slice ro C.length rc) rfl).1
            have x38 := (Xc.out.at_ 7 (.int .i64 mem) rfl).1
            have x39 := (Xc.out.at_ 8 (.int .i64 last) rfl).1
            have HC := Lib.hid (admits_ok e1 a1 _ L1 now a ha _ T1.out (HQ.out now (by omega) (by omega)))
            go_wp2_with fail
            refine HC.out.mono ?_
            clear HC
            clear x19 x20 x21 x22 x23 x24 x25 x26 x27 x28 x29 x30 x31 x32 x33 x34 x35 x36 x37 x38 x39
            rintro e w3 ⟨rfl, hb⟩
            replace Xc := Lib.hid (Xc.out.below hb Xc.out.lt)
            replace Xs := Lib.hid (Xs.out.below hb Xs.out.lt)
            replace Xk := Lib.hid (Xk.out.below hb Xk.out.lt)
            replace TL := Lib.hid (TL.out.mono hb)
            replace T1 := Lib.hid (T1.out.mono hb)
            replace SC := Lib.hid (SC.out.mono hb)
            replace S1 := Lib.hid (S1.out.mono hb)
            replace HB := Lib.hid (HB.out.trans (hb.mono HB.out.size))
            clear hb
            have x40 := (Xs.out.at_ 0 (.bool e1) rfl).1
            have x41 := (Xs.out.at_ 1 (.int .i64 a1) rfl).1
            have x42 := (Xs.out.at_ 2 (.slice v1o L1.length v1c) rfl).1
            have x43 := (Xc.out.at_ 0 (.bool ex) rfl).1
            have x44 := (Xc.out.at_ 1 (.int .i64 at') rfl).1
            have x45 := (Xc.out.at_ 2 (.slice vo L.length vc) rfl).1
            have x46 := (Xc.out.at_ 3 (.bool is) rfl).1
            have x47 := (Xc.out.at_ 4 (.int .i64 3) rfl).1
            have x48 := (Xc.out.at_ 5 (.string g) rfl).1
            have x49 := (Xc.out.at_ 6 (.slice ro C.length rc) rfl).1
            have x50 := (Xc.out.at_ 7 (.int .i64 mem) rfl).1
            have x51 := (Xc.out.at_ 8 (.int .i64 last) rfl).1
            have HC := Lib.hid (admits_ok e1 a1 _ L1 (now + mem - 1) a ha _ T1.out (HQ.out (now + mem - 1) (by omega) (by omega)))
            go_wp2_with fail
            refine HC.out.mono ?_
            clear HC
            clear x40 x41 x42 x43 x44 x45 x46 x47 x48 x49 x50 x51
            rintro e w4 ⟨rfl, hb⟩
            replace Xc := Lib.hid (Xc.out.below hb Xc.out.lt)
            replace Xs := Lib.hid (Xs.out.below hb Xs.out.lt)
            replace Xk := Lib.hid (Xk.out.below hb Xk.out.lt)
            replace TL := Lib.hid (TL.out.mono hb)
            replace T1 := Lib.hid (T1.out.mono hb)
            replace SC := Lib.hid (SC.out.mono hb)
            replace S1 := Lib.hid (S1.out.mono hb)
            replace HB := Lib.hid (HB.out.trans (hb.mono HB.out.size))
            clear hb
            go_wp2_with fail
            refine (live_yes _).mono ?_
            rintro e w5 ⟨rfl, hb⟩
            replace Xc := Lib.hid (Xc.out.below hb Xc.out.lt)
            replace Xs := Lib.hid (Xs.out.below hb Xs.out.lt)
            replace Xk := Lib.hid (Xk.out.below hb Xk.out.lt)
            replace TL := Lib.hid (TL.out.mono hb)
            replace T1 := Lib.hid (T1.out.mono hb)
            replace SC := Lib.hid (SC.out.mono hb)
            replace S1 := Lib.hid (S1.out.mono hb)
            replace HB := Lib.hid (HB.out.trans (hb.mono HB.out.size))
            clear hb
            go_wp2_with fail
            go_ret
            exact ⟨rfl, HB.out⟩
      · clear hk
        have x1 := (Xc.out.at_ 0 (.bool ex) rfl).1
        have x2 := (Xc.out.at_ 1 (.int .i64 at') rfl).1
        have x3 := (Xc.out.at_ 2 (.slice vo L.length vc) rfl).1
        have x4 := (Xc.out.at_ 3 (.bool is) rfl).1
        have x5 := (Xc.out.at_ 4 (.int .i64 4) rfl).1
        have x6 := (Xc.out.at_ 5 (.string g) rfl).1
        have x7 := (Xc.out.at_ 6 (.slice ro C.length rc) rfl).1
        have x8 := (Xc.out.at_ 7 (.int .i64 mem) rfl).1
        have x9 := (Xc.out.at_ 8 (.int .i64 last) rfl).1
        have hf := Lib.hid hf0; clear hf0
        have HC := Lib.hid (few_yes ex at' _ L 4 g _ C _ TL.out SC.out hf.out)
        go_wp2_with fail
        refine HC.out.mono ?_
        clear HC
        clear x1 x2 x3 x4 x5 x6 x7 x8 x9
        rintro e w1 ⟨rfl, hb⟩
        replace Xc := Lib.hid (Xc.out.below hb Xc.out.lt)
        replace TL := Lib.hid (TL.out.mono hb)
        replace SC := Lib.hid (SC.out.mono hb)
        replace HB := Lib.hid (HB.out.trans (hb.mono HB.out.size))
        clear hb
        have x10 := (Xc.out.at_ 0 (.bool ex) rfl).1
        have x11 := (Xc.out.at_ 1 (.int .i64 at') rfl).1
        have x12 := (Xc.out.at_ 2 (.slice vo L.length vc) rfl).1
        have x13 := (Xc.out.at_ 3 (.bool is) rfl).1
        have x14 := (Xc.out.at_ 4 (.int .i64 4) rfl).1
        have x15 := (Xc.out.at_ 5 (.string g) rfl).1
        have x16 := (Xc.out.at_ 6 (.slice ro C.length rc) rfl).1
        have x17 := (Xc.out.at_ 7 (.int .i64 mem) rfl).1
        have x18 := (Xc.out.at_ 8 (.int .i64 last) rfl).1
        have HC := Lib.hid (apply_any ex at' _ L is 4 g _ C now mem last _ TL.out SC.out wa)
        go_wp2_with fail
        refine HC.out.mono ?_
        clear HC
        clear x10 x11 x12 x13 x14 x15 x16 x17 x18
        rintro e w2 ⟨hb, hres⟩
        replace Xc := Lib.hid (Xc.out.below hb Xc.out.lt)
        replace TL := Lib.hid (TL.out.mono hb)
        replace SC := Lib.hid (SC.out.mono hb)
        replace HB := Lib.hid (HB.out.trans (hb.mono HB.out.size))
        clear hb
        obtain ⟨code, hcode⟩ : ∃ code, code = verdict (pcheck (is && ex) (if is then at' else 0) (if is then L else [])) 4 C.length now mem last := ⟨_, rfl⟩
        rw [← hcode] at hres
        rcases hres with ⟨hv, rfl⟩ | ⟨hv, K, hK, ⟨h60, rfl⟩ | ⟨h60, hno, rfl⟩ | ⟨h60, hyes, v1, L1, u1, R1, rfl, hT1, hU1, hR1, hA1, hl1, hl2⟩⟩
        · have hcb : (code != 0) = true := by simpa using hv
          clear hcode hv
          simp only [noState, noAsk]
          have hba : Below w2.heap.size w2 ((w2.alloc (.cells #[.bool false, .int .i64 0, .slice none 0 0] 24)).alloc (.cells #[.bool false, .slice none 0 0] 44)) := (((Below.refl _ _).alloc (Nat.le_refl _) _).alloc (by simp <;> omega) _)
          replace Xc := Lib.hid (Xc.out.below hba Xc.out.lt)
          replace TL := Lib.hid (TL.out.mono hba)
          replace SC := Lib.hid (SC.out.mono hba)
          replace HB := Lib.hid (HB.out.trans (hba.mono HB.out.size))
          have Xs := Lib.hid (show CBox ((w2.alloc (.cells #[.bool false, .int .i64 0, .slice none 0 0] 24)).alloc (.cells #[.bool false, .slice none 0 0] 44)) (w2.heap.size) 24 #[.bool false, .int .i64 0, .slice none 0 0] from ((CBox.new _ (by simp)).old _))
          have Xk := Lib.hid (show CBox ((w2.alloc (.cells #[.bool false, .int .i64 0, .slice none 0 0] 24)).alloc (.cells #[.bool false, .slice none 0 0] 44)) (w2.heap.size + 1) 44 #[.bool false, .slice none 0 0] from (CBox.new _ (by simp)))
          clear hba
          go_wp2_with fail
          refine (live_yes _).mono ?_
          rintro e w3 ⟨rfl, hb⟩
          replace Xc := Lib.hid (Xc.out.below hb Xc.out.lt)
          replace Xs := Lib.hid (Xs.out.below hb Xs.out.lt)
          replace Xk := Lib.hid (Xk.out.below hb Xk.out.lt)
          replace TL := Lib.hid (TL.out.mono hb)
          replace SC := Lib.hid (SC.out.mono hb)
          replace HB := Lib.hid (HB.out.trans (hb.mono HB.out.size))
          clear hb
          go_wp2_with fail
          go_ret
          exact ⟨rfl, HB.out⟩
        · clear hcode hv hK h60
          simp only [noState, noAsk]
          have hba : Below w2.heap.size w2 ((w2.alloc (.cells #[.bool false, .int .i64 0, .slice none 0 0] 24)).alloc (.cells #[.bool false, .slice none 0 0] 44)) := (((Below.refl _ _).alloc (Nat.le_refl _) _).alloc (by simp <;> omega) _)
          replace Xc := Lib.hid (Xc.out.below hba Xc.out.lt)
          replace TL := Lib.hid (TL.out.mono hba)
          replace SC := Lib.hid (SC.out.mono hba)
          replace HB := Lib.hid (HB.out.trans (hba.mono HB.out.size))
          have Xs := Lib.hid (show CBox ((w2.alloc (.cells #[.bool false, .int .i64 0, .slice none 0 0] 24)).alloc (.cells #[.bool false, .slice none 0 0] 44)) (w2.heap.size) 24 #[.bool false, .int .i64 0, .slice none 0 0] from ((CBox.new _ (by simp)).old _))
          have Xk := Lib.hid (show CBox ((w2.alloc (.cells #[.bool false, .int .i64 0, .slice none 0 0] 24)).alloc (.cells #[.bool false, .slice none 0 0] 44)) (w2.heap.size + 1) 44 #[.bool false, .slice none 0 0] from (CBox.new _ (by simp)))
          clear hba
          go_wp2_with fail
          refine (live_yes _).mono ?_
          rintro e w3 ⟨rfl, hb⟩
          replace Xc := Lib.hid (Xc.out.below hb Xc.out.lt)
          replace Xs := Lib.hid (Xs.out.below hb Xs.out.lt)
          replace Xk := Lib.hid (Xk.out.below hb Xk.out.lt)
          replace TL := Lib.hid (TL.out.mono hb)
          replace SC := Lib.hid (SC.out.mono hb)
          replace HB := Lib.hid (HB.out.trans (hb.mono HB.out.size))
          clear hb
          go_wp2_with fail
          go_ret
          exact ⟨rfl, HB.out⟩
        · have HV0 := Lib.hid (hcode.symm.trans hv); have HKK := Lib.hid hK; have HNO := Lib.hid hno; clear hcode hv hK h60 hno
          exact absurd HNO.out.1 (by simp [inEx])
        · have hv' := hcode.symm.trans hv
          have hpc := app_check hv' hK h60 hA1
          obtain ⟨v1o, v1c, rfl⟩ := hT1.shape
          obtain ⟨u1o, u1c, rfl⟩ := hU1.shape
          have HV0 := Lib.hid hv'; have HKK := Lib.hid hK; have HAS := Lib.hid hA1; have HRR := Lib.hid hR1; have HYES := Lib.hid hyes; have H60 := Lib.hid h60
          clear hcode hv hv' hK hA1 hR1 hyes hl1 hl2 h60
          obtain ⟨_, b1, b2, b3, b4, _⟩ := verdict_ok HV0.out
          have HP1 := fun (hw : (if (4 : Int) = 2 ∨ (4 : Int) = 4 then !C.contains a else C.contains a) = true) (t : Int) (h0 : 0 ≤ t) (h1 : t < now + mem) => wants_law HV0.out HRR.out HAS.out hpc hw (by decide) h0 h1
          obtain ⟨a1, ha1⟩ : ∃ a1, (if inG 4 (is && ex) = true then min (inAt 4 (if is then at' else 0) (now + mem)) (now + last) else inAt 4 (if is then at' else 0) (now + mem)) = a1 := ⟨_, rfl⟩
          obtain ⟨e1, he1⟩ : ∃ e1, inEx 4 (is && ex) = e1 := ⟨_, rfl⟩
          obtain ⟨g1, hg1⟩ : ∃ g1, inG 4 (is && ex) = g1 := ⟨_, rfl⟩
          rw [ha1, he1] at hpc
          simp only [ha1]
          simp only [he1, hg1]
          rw [ha1, he1] at HP1
          replace HP1 := Lib.hid HP1
          have HPC := Lib.hid hpc; clear hpc
          have HE1 := Lib.hid he1; have HA1 := Lib.hid ha1; have HG1 := Lib.hid hg1
          have T1 := Lib.hid hT1; have S1 := Lib.hid hU1
          clear hT1 hU1 ha1 he1 hg1
          have hba : Below w2.heap.size w2 ((w2.alloc (.cells #[.bool e1, .int .i64 a1, .slice v1o L1.length v1c] 24)).alloc (.cells #[.bool g1, .slice u1o R1.length u1c] 44)) := (((Below.refl _ _).alloc (Nat.le_refl _) _).alloc (by simp <;> omega) _)
          replace Xc := Lib.hid (Xc.out.below hba Xc.out.lt)
          replace TL := Lib.hid (TL.out.mono hba)
          replace T1 := Lib.hid (T1.out.mono hba)
          replace SC := Lib.hid (SC.out.mono hba)
          replace S1 := Lib.hid (S1.out.mono hba)
          replace HB := Lib.hid (HB.out.trans (hba.mono HB.out.size))
          have Xs := Lib.hid (show CBox ((w2.alloc (.cells #[.bool e1, .int .i64 a1, .slice v1o L1.length v1c] 24)).alloc (.cells #[.bool g1, .slice u1o R1.length u1c] 44)) (w2.heap.size) 24 #[.bool e1, .int .i64 a1, .slice v1o L1.length v1c] from ((CBox.new _ (by simp)).old _))
          have Xk := Lib.hid (show CBox ((w2.alloc (.cells #[.bool e1, .int .i64 a1, .slice v1o L1.length v1c] 24)).alloc (.cells #[.bool g1, .slice u1o R1.length u1c] 44)) (w2.heap.size + 1) 44 #[.bool g1, .slice u1o R1.length u1c] from (CBox.new _ (by simp)))
          clear hba
          cases hn : C.contains a
          · have HQ := Lib.hid (HP1.out (by rw [if_pos (by decide), hn]; rfl))
            clear HP1
            have x19 := (Xc.out.at_ 0 (.bool ex) rfl).1
            have x20 := (Xc.out.at_ 1 (.int .i64 at') rfl).1
            have x21 := (Xc.out.at_ 2 (.slice vo L.length vc) rfl).1
            have x22 := (Xc.out.at_ 3 (.bool is) rfl).1
            have x23 := (Xc.out.at_ 4 (.int .i64 4) rfl).1
            have x24 := (Xc.out.at_ 5 (.string g) rfl).1
            have x25 := (Xc.out.at_ 6 (.slice ro C.length rc) rfl).1
            have x26 := (Xc.out.at_ 7 (.int .i64 mem) rfl).1
            have x27 := (Xc.out.at_ 8 (.int .i64 last) rfl).1
            have HC := shas_any _ C a _ SC.out
            rw [hn] at HC
            replace HC := Lib.hid HC
            have HN := Lib.hid hn; clear hn
            go_wp2_with fail
            refine HC.out.mono ?_
            clear HC
            rintro e w' ⟨rfl, rfl⟩
            have x28 := (Xs.out.at_ 0 (.bool e1) rfl).1
            have x29 := (Xs.out.at_ 1 (.int .i64 a1) rfl).1
            have x30 := (Xs.out.at_ 2 (.slice v1o L1.length v1c) rfl).1
            have x31 := (Xc.out.at_ 0 (.bool ex) rfl).1
            have x32 := (Xc.out.at_ 1 (.int .i64 at') rfl).1
            have x33 := (Xc.out.at_ 2 (.slice vo L.length vc) rfl).1
            have x34 := (Xc.out.at_ 3 (.bool is) rfl).1
            have x35 := (Xc.out.at_ 4 (.int .i64 4) rfl).1
            have x36 := (Xc.out.at_ 5 (.string g) rfl).1
            have x37 := (Xc.out.at_ 6 (.slice ro C.length rc) rfl).1
            have x38 := (Xc.out.at_ 7 (.int .i64 mem) rfl).1
            have x39 := (Xc.out.at_ 8 (.int .i64 last) rfl).1
            have HC := Lib.hid (admits_ok e1 a1 _ L1 now a ha _ T1.out (HQ.out now (by omega) (by omega)))
            go_wp2_with fail
            refine HC.out.mono ?_
            clear HC
            clear x19 x20 x21 x22 x23 x24 x25 x26 x27 x28 x29 x30 x31 x32 x33 x34 x35 x36 x37 x38 x39
            rintro e w3 ⟨rfl, hb⟩
            replace Xc := Lib.hid (Xc.out.below hb Xc.out.lt)
            replace Xs := Lib.hid (Xs.out.below hb Xs.out.lt)
            replace Xk := Lib.hid (Xk.out.below hb Xk.out.lt)
            replace TL := Lib.hid (TL.out.mono hb)
            replace T1 := Lib.hid (T1.out.mono hb)
            replace SC := Lib.hid (SC.out.mono hb)
            replace S1 := Lib.hid (S1.out.mono hb)
            replace HB := Lib.hid (HB.out.trans (hb.mono HB.out.size))
            clear hb
            cases is
            · have x40 := (Xc.out.at_ 0 (.bool ex) rfl).1
              have x41 := (Xc.out.at_ 1 (.int .i64 at') rfl).1
              have x42 := (Xc.out.at_ 2 (.slice vo L.length vc) rfl).1
              have x43 := (Xc.out.at_ 3 (.bool false) rfl).1
              have x44 := (Xc.out.at_ 4 (.int .i64 4) rfl).1
              have x45 := (Xc.out.at_ 5 (.string g) rfl).1
              have x46 := (Xc.out.at_ 6 (.slice ro C.length rc) rfl).1
              have x47 := (Xc.out.at_ 7 (.int .i64 mem) rfl).1
              have x48 := (Xc.out.at_ 8 (.int .i64 last) rfl).1
              have x49 := (Xs.out.at_ 0 (.bool e1) rfl).1
              have x50 := (Xs.out.at_ 1 (.int .i64 a1) rfl).1
              have x51 := (Xs.out.at_ 2 (.slice v1o L1.length v1c) rfl).1
              have HC := Lib.hid (admits_ok e1 a1 _ L1 (now + mem - 1) a ha _ T1.out (HQ.out (now + mem - 1) (by omega) (by omega)))
              go_wp2_with fail
              refine HC.out.mono ?_
              clear HC
              clear x40 x41 x42 x43 x44 x45 x46 x47 x48 x49 x50 x51
              rintro e w4 ⟨rfl, hb⟩
              replace Xc := Lib.hid (Xc.out.below hb Xc.out.lt)
              replace Xs := Lib.hid (Xs.out.below hb Xs.out.lt)
              replace Xk := Lib.hid (Xk.out.below hb Xk.out.lt)
              replace TL := Lib.hid (TL.out.mono hb)
              replace T1 := Lib.hid (T1.out.mono hb)
              replace SC := Lib.hid (SC.out.mono hb)
              replace S1 := Lib.hid (S1.out.mono hb)
              replace HB := Lib.hid (HB.out.trans (hb.mono HB.out.size))
              clear hb
              go_wp2_with fail
              refine (live_yes _).mono ?_
              rintro e w5 ⟨rfl, hb⟩
              replace Xc := Lib.hid (Xc.out.below hb Xc.out.lt)
              replace Xs := Lib.hid (Xs.out.below hb Xs.out.lt)
              replace Xk := Lib.hid (Xk.out.below hb Xk.out.lt)
              replace TL := Lib.hid (TL.out.mono hb)
              replace T1 := Lib.hid (T1.out.mono hb)
              replace SC := Lib.hid (SC.out.mono hb)
              replace S1 := Lib.hid (S1.out.mono hb)
              replace HB := Lib.hid (HB.out.trans (hb.mono HB.out.size))
              clear hb
              go_wp2_with fail
              go_ret
              exact ⟨rfl, HB.out⟩
            · cases ex
              · have x40 := (Xc.out.at_ 0 (.bool false) rfl).1
                have x41 := (Xc.out.at_ 1 (.int .i64 at') rfl).1
                have x42 := (Xc.out.at_ 2 (.slice vo L.length vc) rfl).1
                have x43 := (Xc.out.at_ 3 (.bool true) rfl).1
                have x44 := (Xc.out.at_ 4 (.int .i64 4) rfl).1
                have x45 := (Xc.out.at_ 5 (.string g) rfl).1
                have x46 := (Xc.out.at_ 6 (.slice ro C.length rc) rfl).1
                have x47 := (Xc.out.at_ 7 (.int .i64 mem) rfl).1
                have x48 := (Xc.out.at_ 8 (.int .i64 last) rfl).1
                have x49 := (Xs.out.at_ 0 (.bool e1) rfl).1
                have x50 := (Xs.out.at_ 1 (.int .i64 a1) rfl).1
                have x51 := (Xs.out.at_ 2 (.slice v1o L1.length v1c) rfl).1
                have HC := Lib.hid (admits_ok e1 a1 _ L1 (now + mem - 1) a ha _ T1.out (HQ.out (now + mem - 1) (by omega) (by omega)))
                go_wp2_with fail
                refine HC.out.mono ?_
                clear HC
                clear x40 x41 x42 x43 x44 x45 x46 x47 x48 x49 x50 x51
                rintro e w4 ⟨rfl, hb⟩
                replace Xc := Lib.hid (Xc.out.below hb Xc.out.lt)
                replace Xs := Lib.hid (Xs.out.below hb Xs.out.lt)
                replace Xk := Lib.hid (Xk.out.below hb Xk.out.lt)
                replace TL := Lib.hid (TL.out.mono hb)
                replace T1 := Lib.hid (T1.out.mono hb)
                replace SC := Lib.hid (SC.out.mono hb)
                replace S1 := Lib.hid (S1.out.mono hb)
                replace HB := Lib.hid (HB.out.trans (hb.mono HB.out.size))
                clear hb
                go_wp2_with fail
                refine (live_yes _).mono ?_
                rintro e w5 ⟨rfl, hb⟩
                replace Xc := Lib.hid (Xc.out.below hb Xc.out.lt)
                replace Xs := Lib.hid (Xs.out.below hb Xs.out.lt)
                replace Xk := Lib.hid (Xk.out.below hb Xk.out.lt)
                replace TL := Lib.hid (TL.out.mono hb)
                replace T1 := Lib.hid (T1.out.mono hb)
                replace SC := Lib.hid (SC.out.mono hb)
                replace S1 := Lib.hid (S1.out.mono hb)
                replace HB := Lib.hid (HB.out.trans (hb.mono HB.out.size))
                clear hb
                go_wp2_with fail
                go_ret
                exact ⟨rfl, HB.out⟩
              · have x40 := (Xc.out.at_ 0 (.bool true) rfl).1
                have x41 := (Xc.out.at_ 1 (.int .i64 at') rfl).1
                have x42 := (Xc.out.at_ 2 (.slice vo L.length vc) rfl).1
                have x43 := (Xc.out.at_ 3 (.bool true) rfl).1
                have x44 := (Xc.out.at_ 4 (.int .i64 4) rfl).1
                have x45 := (Xc.out.at_ 5 (.string g) rfl).1
                have x46 := (Xc.out.at_ 6 (.slice ro C.length rc) rfl).1
                have x47 := (Xc.out.at_ 7 (.int .i64 mem) rfl).1
                have x48 := (Xc.out.at_ 8 (.int .i64 last) rfl).1
                have x49 := (Xs.out.at_ 0 (.bool e1) rfl).1
                have x50 := (Xs.out.at_ 1 (.int .i64 a1) rfl).1
                have x51 := (Xs.out.at_ 2 (.slice v1o L1.length v1c) rfl).1
                go_wp2_with fail
                refine (live_yes _).mono ?_
                clear x40 x41 x42 x43 x44 x45 x46 x47 x48 x49 x50 x51
                rintro e w4 ⟨rfl, hb⟩
                replace Xc := Lib.hid (Xc.out.below hb Xc.out.lt)
                replace Xs := Lib.hid (Xs.out.below hb Xs.out.lt)
                replace Xk := Lib.hid (Xk.out.below hb Xk.out.lt)
                replace TL := Lib.hid (TL.out.mono hb)
                replace T1 := Lib.hid (T1.out.mono hb)
                replace SC := Lib.hid (SC.out.mono hb)
                replace S1 := Lib.hid (S1.out.mono hb)
                replace HB := Lib.hid (HB.out.trans (hb.mono HB.out.size))
                clear hb
                go_wp2_with fail
                go_ret
                exact ⟨rfl, HB.out⟩
          · have x19 := (Xc.out.at_ 0 (.bool ex) rfl).1
            have x20 := (Xc.out.at_ 1 (.int .i64 at') rfl).1
            have x21 := (Xc.out.at_ 2 (.slice vo L.length vc) rfl).1
            have x22 := (Xc.out.at_ 3 (.bool is) rfl).1
            have x23 := (Xc.out.at_ 4 (.int .i64 4) rfl).1
            have x24 := (Xc.out.at_ 5 (.string g) rfl).1
            have x25 := (Xc.out.at_ 6 (.slice ro C.length rc) rfl).1
            have x26 := (Xc.out.at_ 7 (.int .i64 mem) rfl).1
            have x27 := (Xc.out.at_ 8 (.int .i64 last) rfl).1
            have HC := shas_any _ C a _ SC.out
            rw [hn] at HC
            replace HC := Lib.hid HC
            have HN := Lib.hid hn; clear hn
            go_wp2_with fail
            refine HC.out.mono ?_
            clear HC
            rintro e w' ⟨rfl, rfl⟩
            go_wp2_with fail
            refine (live_yes _).mono ?_
            clear x19 x20 x21 x22 x23 x24 x25 x26 x27
            rintro e w3 ⟨rfl, hb⟩
            replace Xc := Lib.hid (Xc.out.below hb Xc.out.lt)
            replace Xs := Lib.hid (Xs.out.below hb Xs.out.lt)
            replace Xk := Lib.hid (Xk.out.below hb Xk.out.lt)
            replace TL := Lib.hid (TL.out.mono hb)
            replace T1 := Lib.hid (T1.out.mono hb)
            replace SC := Lib.hid (SC.out.mono hb)
            replace S1 := Lib.hid (S1.out.mono hb)
            replace HB := Lib.hid (HB.out.trans (hb.mono HB.out.size))
            clear hb
            go_wp2_with fail
            go_ret
            exact ⟨rfl, HB.out⟩
      · clear hk
        have x1 := (Xc.out.at_ 0 (.bool ex) rfl).1
        have x2 := (Xc.out.at_ 1 (.int .i64 at') rfl).1
        have x3 := (Xc.out.at_ 2 (.slice vo L.length vc) rfl).1
        have x4 := (Xc.out.at_ 3 (.bool is) rfl).1
        have x5 := (Xc.out.at_ 4 (.int .i64 5) rfl).1
        have x6 := (Xc.out.at_ 5 (.string g) rfl).1
        have x7 := (Xc.out.at_ 6 (.slice ro C.length rc) rfl).1
        have x8 := (Xc.out.at_ 7 (.int .i64 mem) rfl).1
        have x9 := (Xc.out.at_ 8 (.int .i64 last) rfl).1
        have hf := Lib.hid hf0; clear hf0
        have HC := Lib.hid (few_yes ex at' _ L 5 g _ C _ TL.out SC.out hf.out)
        go_wp2_with fail
        refine HC.out.mono ?_
        clear HC
        clear x1 x2 x3 x4 x5 x6 x7 x8 x9
        rintro e w1 ⟨rfl, hb⟩
        replace Xc := Lib.hid (Xc.out.below hb Xc.out.lt)
        replace TL := Lib.hid (TL.out.mono hb)
        replace SC := Lib.hid (SC.out.mono hb)
        replace HB := Lib.hid (HB.out.trans (hb.mono HB.out.size))
        clear hb
        have x10 := (Xc.out.at_ 0 (.bool ex) rfl).1
        have x11 := (Xc.out.at_ 1 (.int .i64 at') rfl).1
        have x12 := (Xc.out.at_ 2 (.slice vo L.length vc) rfl).1
        have x13 := (Xc.out.at_ 3 (.bool is) rfl).1
        have x14 := (Xc.out.at_ 4 (.int .i64 5) rfl).1
        have x15 := (Xc.out.at_ 5 (.string g) rfl).1
        have x16 := (Xc.out.at_ 6 (.slice ro C.length rc) rfl).1
        have x17 := (Xc.out.at_ 7 (.int .i64 mem) rfl).1
        have x18 := (Xc.out.at_ 8 (.int .i64 last) rfl).1
        have HC := Lib.hid (apply_any ex at' _ L is 5 g _ C now mem last _ TL.out SC.out wa)
        go_wp2_with fail
        refine HC.out.mono ?_
        clear HC
        clear x10 x11 x12 x13 x14 x15 x16 x17 x18
        rintro e w2 ⟨hb, hres⟩
        replace Xc := Lib.hid (Xc.out.below hb Xc.out.lt)
        replace TL := Lib.hid (TL.out.mono hb)
        replace SC := Lib.hid (SC.out.mono hb)
        replace HB := Lib.hid (HB.out.trans (hb.mono HB.out.size))
        clear hb
        obtain ⟨code, hcode⟩ : ∃ code, code = verdict (pcheck (is && ex) (if is then at' else 0) (if is then L else [])) 5 C.length now mem last := ⟨_, rfl⟩
        rw [← hcode] at hres
        rcases hres with ⟨hv, rfl⟩ | ⟨hv, K, hK, ⟨h60, rfl⟩ | ⟨h60, hno, rfl⟩ | ⟨h60, hyes, v1, L1, u1, R1, rfl, hT1, hU1, hR1, hA1, hl1, hl2⟩⟩
        · have hcb : (code != 0) = true := by simpa using hv
          clear hcode hv
          simp only [noState, noAsk]
          have hba : Below w2.heap.size w2 ((w2.alloc (.cells #[.bool false, .int .i64 0, .slice none 0 0] 24)).alloc (.cells #[.bool false, .slice none 0 0] 44)) := (((Below.refl _ _).alloc (Nat.le_refl _) _).alloc (by simp <;> omega) _)
          replace Xc := Lib.hid (Xc.out.below hba Xc.out.lt)
          replace TL := Lib.hid (TL.out.mono hba)
          replace SC := Lib.hid (SC.out.mono hba)
          replace HB := Lib.hid (HB.out.trans (hba.mono HB.out.size))
          have Xs := Lib.hid (show CBox ((w2.alloc (.cells #[.bool false, .int .i64 0, .slice none 0 0] 24)).alloc (.cells #[.bool false, .slice none 0 0] 44)) (w2.heap.size) 24 #[.bool false, .int .i64 0, .slice none 0 0] from ((CBox.new _ (by simp)).old _))
          have Xk := Lib.hid (show CBox ((w2.alloc (.cells #[.bool false, .int .i64 0, .slice none 0 0] 24)).alloc (.cells #[.bool false, .slice none 0 0] 44)) (w2.heap.size + 1) 44 #[.bool false, .slice none 0 0] from (CBox.new _ (by simp)))
          clear hba
          go_wp2_with fail
          refine (live_yes _).mono ?_
          rintro e w3 ⟨rfl, hb⟩
          replace Xc := Lib.hid (Xc.out.below hb Xc.out.lt)
          replace Xs := Lib.hid (Xs.out.below hb Xs.out.lt)
          replace Xk := Lib.hid (Xk.out.below hb Xk.out.lt)
          replace TL := Lib.hid (TL.out.mono hb)
          replace SC := Lib.hid (SC.out.mono hb)
          replace HB := Lib.hid (HB.out.trans (hb.mono HB.out.size))
          clear hb
          go_wp2_with fail
          go_ret
          exact ⟨rfl, HB.out⟩
        · clear hcode hv hK h60
          simp only [noState, noAsk]
          have hba : Below w2.heap.size w2 ((w2.alloc (.cells #[.bool false, .int .i64 0, .slice none 0 0] 24)).alloc (.cells #[.bool false, .slice none 0 0] 44)) := (((Below.refl _ _).alloc (Nat.le_refl _) _).alloc (by simp <;> omega) _)
          replace Xc := Lib.hid (Xc.out.below hba Xc.out.lt)
          replace TL := Lib.hid (TL.out.mono hba)
          replace SC := Lib.hid (SC.out.mono hba)
          replace HB := Lib.hid (HB.out.trans (hba.mono HB.out.size))
          have Xs := Lib.hid (show CBox ((w2.alloc (.cells #[.bool false, .int .i64 0, .slice none 0 0] 24)).alloc (.cells #[.bool false, .slice none 0 0] 44)) (w2.heap.size) 24 #[.bool false, .int .i64 0, .slice none 0 0] from ((CBox.new _ (by simp)).old _))
          have Xk := Lib.hid (show CBox ((w2.alloc (.cells #[.bool false, .int .i64 0, .slice none 0 0] 24)).alloc (.cells #[.bool false, .slice none 0 0] 44)) (w2.heap.size + 1) 44 #[.bool false, .slice none 0 0] from (CBox.new _ (by simp)))
          clear hba
          go_wp2_with fail
          refine (live_yes _).mono ?_
          rintro e w3 ⟨rfl, hb⟩
          replace Xc := Lib.hid (Xc.out.below hb Xc.out.lt)
          replace Xs := Lib.hid (Xs.out.below hb Xs.out.lt)
          replace Xk := Lib.hid (Xk.out.below hb Xk.out.lt)
          replace TL := Lib.hid (TL.out.mono hb)
          replace SC := Lib.hid (SC.out.mono hb)
          replace HB := Lib.hid (HB.out.trans (hb.mono HB.out.size))
          clear hb
          go_wp2_with fail
          go_ret
          exact ⟨rfl, HB.out⟩
        · have HV0 := Lib.hid (hcode.symm.trans hv); have HKK := Lib.hid hK; have HNO := Lib.hid hno; clear hcode hv hK h60 hno
          simp only [noState, noAsk]
          have hba : Below w2.heap.size w2 ((w2.alloc (.cells #[.bool false, .int .i64 0, .slice none 0 0] 24)).alloc (.cells #[.bool false, .slice none 0 0] 44)) := (((Below.refl _ _).alloc (Nat.le_refl _) _).alloc (by simp <;> omega) _)
          replace Xc := Lib.hid (Xc.out.below hba Xc.out.lt)
          replace TL := Lib.hid (TL.out.mono hba)
          replace SC := Lib.hid (SC.out.mono hba)
          replace HB := Lib.hid (HB.out.trans (hba.mono HB.out.size))
          have Xs := Lib.hid (show CBox ((w2.alloc (.cells #[.bool false, .int .i64 0, .slice none 0 0] 24)).alloc (.cells #[.bool false, .slice none 0 0] 44)) (w2.heap.size) 24 #[.bool false, .int .i64 0, .slice none 0 0] from ((CBox.new _ (by simp)).old _))
          have Xk := Lib.hid (show CBox ((w2.alloc (.cells #[.bool false, .int .i64 0, .slice none 0 0] 24)).alloc (.cells #[.bool false, .slice none 0 0] 44)) (w2.heap.size + 1) 44 #[.bool false, .slice none 0 0] from (CBox.new _ (by simp)))
          clear hba
          cases hn : C.contains a
          · have x19 := (Xc.out.at_ 0 (.bool ex) rfl).1
            have x20 := (Xc.out.at_ 1 (.int .i64 at') rfl).1
            have x21 := (Xc.out.at_ 2 (.slice vo L.length vc) rfl).1
            have x22 := (Xc.out.at_ 3 (.bool is) rfl).1
            have x23 := (Xc.out.at_ 4 (.int .i64 5) rfl).1
            have x24 := (Xc.out.at_ 5 (.string g) rfl).1
            have x25 := (Xc.out.at_ 6 (.slice ro C.length rc) rfl).1
            have x26 := (Xc.out.at_ 7 (.int .i64 mem) rfl).1
            have x27 := (Xc.out.at_ 8 (.int .i64 last) rfl).1
            have HC := shas_any _ C a _ SC.out
            rw [hn] at HC
            replace HC := Lib.hid HC
            have HN := Lib.hid hn; clear hn
            go_wp2_with fail
            refine HC.out.mono ?_
            clear HC
            rintro e w' ⟨rfl, rfl⟩
            go_wp2_with fail
            refine (live_yes _).mono ?_
            clear x19 x20 x21 x22 x23 x24 x25 x26 x27
            rintro e w3 ⟨rfl, hb⟩
            replace Xc := Lib.hid (Xc.out.below hb Xc.out.lt)
            replace Xs := Lib.hid (Xs.out.below hb Xs.out.lt)
            replace Xk := Lib.hid (Xk.out.below hb Xk.out.lt)
            replace TL := Lib.hid (TL.out.mono hb)
            replace SC := Lib.hid (SC.out.mono hb)
            replace HB := Lib.hid (HB.out.trans (hb.mono HB.out.size))
            clear hb
            go_wp2_with fail
            go_ret
            exact ⟨rfl, HB.out⟩
          · exact absurd HNO.out (wants_is (a := a) HV0.out HKK.out (by rw [if_neg (by decide), hn]) (by decide))
        · have hv' := hcode.symm.trans hv
          have hpc := app_check hv' hK h60 hA1
          obtain ⟨v1o, v1c, rfl⟩ := hT1.shape
          obtain ⟨u1o, u1c, rfl⟩ := hU1.shape
          have HV0 := Lib.hid hv'; have HKK := Lib.hid hK; have HAS := Lib.hid hA1; have HRR := Lib.hid hR1; have HYES := Lib.hid hyes; have H60 := Lib.hid h60
          clear hcode hv hv' hK hA1 hR1 hyes hl1 hl2 h60
          obtain ⟨_, b1, b2, b3, b4, _⟩ := verdict_ok HV0.out
          have HP1 := fun (hw : (if (5 : Int) = 2 ∨ (5 : Int) = 4 then !C.contains a else C.contains a) = true) (t : Int) (h0 : 0 ≤ t) (h1 : t < now + mem) => wants_law HV0.out HRR.out HAS.out hpc hw (by decide) h0 h1
          obtain ⟨a1, ha1⟩ : ∃ a1, (if inG 5 (is && ex) = true then min (inAt 5 (if is then at' else 0) (now + mem)) (now + last) else inAt 5 (if is then at' else 0) (now + mem)) = a1 := ⟨_, rfl⟩
          obtain ⟨e1, he1⟩ : ∃ e1, inEx 5 (is && ex) = e1 := ⟨_, rfl⟩
          obtain ⟨g1, hg1⟩ : ∃ g1, inG 5 (is && ex) = g1 := ⟨_, rfl⟩
          rw [ha1, he1] at hpc
          simp only [ha1]
          simp only [he1, hg1]
          rw [ha1, he1] at HP1
          replace HP1 := Lib.hid HP1
          have HPC := Lib.hid hpc; clear hpc
          have HE1 := Lib.hid he1; have HA1 := Lib.hid ha1; have HG1 := Lib.hid hg1
          have T1 := Lib.hid hT1; have S1 := Lib.hid hU1
          clear hT1 hU1 ha1 he1 hg1
          have hba : Below w2.heap.size w2 ((w2.alloc (.cells #[.bool e1, .int .i64 a1, .slice v1o L1.length v1c] 24)).alloc (.cells #[.bool g1, .slice u1o R1.length u1c] 44)) := (((Below.refl _ _).alloc (Nat.le_refl _) _).alloc (by simp <;> omega) _)
          replace Xc := Lib.hid (Xc.out.below hba Xc.out.lt)
          replace TL := Lib.hid (TL.out.mono hba)
          replace T1 := Lib.hid (T1.out.mono hba)
          replace SC := Lib.hid (SC.out.mono hba)
          replace S1 := Lib.hid (S1.out.mono hba)
          replace HB := Lib.hid (HB.out.trans (hba.mono HB.out.size))
          have Xs := Lib.hid (show CBox ((w2.alloc (.cells #[.bool e1, .int .i64 a1, .slice v1o L1.length v1c] 24)).alloc (.cells #[.bool g1, .slice u1o R1.length u1c] 44)) (w2.heap.size) 24 #[.bool e1, .int .i64 a1, .slice v1o L1.length v1c] from ((CBox.new _ (by simp)).old _))
          have Xk := Lib.hid (show CBox ((w2.alloc (.cells #[.bool e1, .int .i64 a1, .slice v1o L1.length v1c] 24)).alloc (.cells #[.bool g1, .slice u1o R1.length u1c] 44)) (w2.heap.size + 1) 44 #[.bool g1, .slice u1o R1.length u1c] from (CBox.new _ (by simp)))
          clear hba
          cases hn : C.contains a
          · have x19 := (Xc.out.at_ 0 (.bool ex) rfl).1
            have x20 := (Xc.out.at_ 1 (.int .i64 at') rfl).1
            have x21 := (Xc.out.at_ 2 (.slice vo L.length vc) rfl).1
            have x22 := (Xc.out.at_ 3 (.bool is) rfl).1
            have x23 := (Xc.out.at_ 4 (.int .i64 5) rfl).1
            have x24 := (Xc.out.at_ 5 (.string g) rfl).1
            have x25 := (Xc.out.at_ 6 (.slice ro C.length rc) rfl).1
            have x26 := (Xc.out.at_ 7 (.int .i64 mem) rfl).1
            have x27 := (Xc.out.at_ 8 (.int .i64 last) rfl).1
            have HC := shas_any _ C a _ SC.out
            rw [hn] at HC
            replace HC := Lib.hid HC
            have HN := Lib.hid hn; clear hn
            go_wp2_with fail
            refine HC.out.mono ?_
            clear HC
            rintro e w' ⟨rfl, rfl⟩
            go_wp2_with fail
            refine (live_yes _).mono ?_
            clear x19 x20 x21 x22 x23 x24 x25 x26 x27
            rintro e w3 ⟨rfl, hb⟩
            replace Xc := Lib.hid (Xc.out.below hb Xc.out.lt)
            replace Xs := Lib.hid (Xs.out.below hb Xs.out.lt)
            replace Xk := Lib.hid (Xk.out.below hb Xk.out.lt)
            replace TL := Lib.hid (TL.out.mono hb)
            replace T1 := Lib.hid (T1.out.mono hb)
            replace SC := Lib.hid (SC.out.mono hb)
            replace S1 := Lib.hid (S1.out.mono hb)
            replace HB := Lib.hid (HB.out.trans (hb.mono HB.out.size))
            clear hb
            go_wp2_with fail
            go_ret
            exact ⟨rfl, HB.out⟩
          · have HQ := Lib.hid (HP1.out (by rw [if_neg (by decide), hn]))
            clear HP1
            have x19 := (Xc.out.at_ 0 (.bool ex) rfl).1
            have x20 := (Xc.out.at_ 1 (.int .i64 at') rfl).1
            have x21 := (Xc.out.at_ 2 (.slice vo L.length vc) rfl).1
            have x22 := (Xc.out.at_ 3 (.bool is) rfl).1
            have x23 := (Xc.out.at_ 4 (.int .i64 5) rfl).1
            have x24 := (Xc.out.at_ 5 (.string g) rfl).1
            have x25 := (Xc.out.at_ 6 (.slice ro C.length rc) rfl).1
            have x26 := (Xc.out.at_ 7 (.int .i64 mem) rfl).1
            have x27 := (Xc.out.at_ 8 (.int .i64 last) rfl).1
            have HC := shas_any _ C a _ SC.out
            rw [hn] at HC
            replace HC := Lib.hid HC
            have HN := Lib.hid hn; clear hn
            go_wp2_with fail
            refine HC.out.mono ?_
            clear HC
            rintro e w' ⟨rfl, rfl⟩
            have x28 := (Xs.out.at_ 0 (.bool e1) rfl).1
            have x29 := (Xs.out.at_ 1 (.int .i64 a1) rfl).1
            have x30 := (Xs.out.at_ 2 (.slice v1o L1.length v1c) rfl).1
            have x31 := (Xc.out.at_ 0 (.bool ex) rfl).1
            have x32 := (Xc.out.at_ 1 (.int .i64 at') rfl).1
            have x33 := (Xc.out.at_ 2 (.slice vo L.length vc) rfl).1
            have x34 := (Xc.out.at_ 3 (.bool is) rfl).1
            have x35 := (Xc.out.at_ 4 (.int .i64 5) rfl).1
            have x36 := (Xc.out.at_ 5 (.string g) rfl).1
            have x37 := (Xc.out.at_ 6 (.slice ro C.length rc) rfl).1
            have x38 := (Xc.out.at_ 7 (.int .i64 mem) rfl).1
            have x39 := (Xc.out.at_ 8 (.int .i64 last) rfl).1
            have HC := Lib.hid (admits_ok e1 a1 _ L1 now a ha _ T1.out (HQ.out now (by omega) (by omega)))
            go_wp2_with fail
            refine HC.out.mono ?_
            clear HC
            clear x19 x20 x21 x22 x23 x24 x25 x26 x27 x28 x29 x30 x31 x32 x33 x34 x35 x36 x37 x38 x39
            rintro e w3 ⟨rfl, hb⟩
            replace Xc := Lib.hid (Xc.out.below hb Xc.out.lt)
            replace Xs := Lib.hid (Xs.out.below hb Xs.out.lt)
            replace Xk := Lib.hid (Xk.out.below hb Xk.out.lt)
            replace TL := Lib.hid (TL.out.mono hb)
            replace T1 := Lib.hid (T1.out.mono hb)
            replace SC := Lib.hid (SC.out.mono hb)
            replace S1 := Lib.hid (S1.out.mono hb)
            replace HB := Lib.hid (HB.out.trans (hb.mono HB.out.size))
            clear hb
            have x40 := (Xs.out.at_ 0 (.bool e1) rfl).1
            have x41 := (Xs.out.at_ 1 (.int .i64 a1) rfl).1
            have x42 := (Xs.out.at_ 2 (.slice v1o L1.length v1c) rfl).1
            have x43 := (Xc.out.at_ 0 (.bool ex) rfl).1
            have x44 := (Xc.out.at_ 1 (.int .i64 at') rfl).1
            have x45 := (Xc.out.at_ 2 (.slice vo L.length vc) rfl).1
            have x46 := (Xc.out.at_ 3 (.bool is) rfl).1
            have x47 := (Xc.out.at_ 4 (.int .i64 5) rfl).1
            have x48 := (Xc.out.at_ 5 (.string g) rfl).1
            have x49 := (Xc.out.at_ 6 (.slice ro C.length rc) rfl).1
            have x50 := (Xc.out.at_ 7 (.int .i64 mem) rfl).1
            have x51 := (Xc.out.at_ 8 (.int .i64 last) rfl).1
            have HC := Lib.hid (admits_ok e1 a1 _ L1 (now + mem - 1) a ha _ T1.out (HQ.out (now + mem - 1) (by omega) (by omega)))
            go_wp2_with fail
            refine HC.out.mono ?_
            clear HC
            clear x40 x41 x42 x43 x44 x45 x46 x47 x48 x49 x50 x51
            rintro e w4 ⟨rfl, hb⟩
            replace Xc := Lib.hid (Xc.out.below hb Xc.out.lt)
            replace Xs := Lib.hid (Xs.out.below hb Xs.out.lt)
            replace Xk := Lib.hid (Xk.out.below hb Xk.out.lt)
            replace TL := Lib.hid (TL.out.mono hb)
            replace T1 := Lib.hid (T1.out.mono hb)
            replace SC := Lib.hid (SC.out.mono hb)
            replace S1 := Lib.hid (S1.out.mono hb)
            replace HB := Lib.hid (HB.out.trans (hb.mono HB.out.size))
            clear hb
            go_wp2_with fail
            refine (live_yes _).mono ?_
            rintro e w5 ⟨rfl, hb⟩
            replace Xc := Lib.hid (Xc.out.below hb Xc.out.lt)
            replace Xs := Lib.hid (Xs.out.below hb Xs.out.lt)
            replace Xk := Lib.hid (Xk.out.below hb Xk.out.lt)
            replace TL := Lib.hid (TL.out.mono hb)
            replace T1 := Lib.hid (T1.out.mono hb)
            replace SC := Lib.hid (SC.out.mono hb)
            replace S1 := Lib.hid (S1.out.mono hb)
            replace HB := Lib.hid (HB.out.trans (hb.mono HB.out.size))
            clear hb
            go_wp2_with fail
            go_ret
            exact ⟨rfl, HB.out⟩
      · clear hk
        have x1 := (Xc.out.at_ 0 (.bool ex) rfl).1
        have x2 := (Xc.out.at_ 1 (.int .i64 at') rfl).1
        have x3 := (Xc.out.at_ 2 (.slice vo L.length vc) rfl).1
        have x4 := (Xc.out.at_ 3 (.bool is) rfl).1
        have x5 := (Xc.out.at_ 4 (.int .i64 6) rfl).1
        have x6 := (Xc.out.at_ 5 (.string g) rfl).1
        have x7 := (Xc.out.at_ 6 (.slice ro C.length rc) rfl).1
        have x8 := (Xc.out.at_ 7 (.int .i64 mem) rfl).1
        have x9 := (Xc.out.at_ 8 (.int .i64 last) rfl).1
        have hf := Lib.hid hf0; clear hf0
        have HC := Lib.hid (few_yes ex at' _ L 6 g _ C _ TL.out SC.out hf.out)
        go_wp2_with fail
        refine HC.out.mono ?_
        clear HC
        clear x1 x2 x3 x4 x5 x6 x7 x8 x9
        rintro e w1 ⟨rfl, hb⟩
        replace Xc := Lib.hid (Xc.out.below hb Xc.out.lt)
        replace TL := Lib.hid (TL.out.mono hb)
        replace SC := Lib.hid (SC.out.mono hb)
        replace HB := Lib.hid (HB.out.trans (hb.mono HB.out.size))
        clear hb
        have x10 := (Xc.out.at_ 0 (.bool ex) rfl).1
        have x11 := (Xc.out.at_ 1 (.int .i64 at') rfl).1
        have x12 := (Xc.out.at_ 2 (.slice vo L.length vc) rfl).1
        have x13 := (Xc.out.at_ 3 (.bool is) rfl).1
        have x14 := (Xc.out.at_ 4 (.int .i64 6) rfl).1
        have x15 := (Xc.out.at_ 5 (.string g) rfl).1
        have x16 := (Xc.out.at_ 6 (.slice ro C.length rc) rfl).1
        have x17 := (Xc.out.at_ 7 (.int .i64 mem) rfl).1
        have x18 := (Xc.out.at_ 8 (.int .i64 last) rfl).1
        have HC := Lib.hid (apply_any ex at' _ L is 6 g _ C now mem last _ TL.out SC.out wa)
        go_wp2_with fail
        refine HC.out.mono ?_
        clear HC
        clear x10 x11 x12 x13 x14 x15 x16 x17 x18
        rintro e w2 ⟨hb, hres⟩
        replace Xc := Lib.hid (Xc.out.below hb Xc.out.lt)
        replace TL := Lib.hid (TL.out.mono hb)
        replace SC := Lib.hid (SC.out.mono hb)
        replace HB := Lib.hid (HB.out.trans (hb.mono HB.out.size))
        clear hb
        obtain ⟨code, hcode⟩ : ∃ code, code = verdict (pcheck (is && ex) (if is then at' else 0) (if is then L else [])) 6 C.length now mem last := ⟨_, rfl⟩
        rw [← hcode] at hres
        rcases hres with ⟨hv, rfl⟩ | ⟨hv, K, hK, ⟨h60, rfl⟩ | ⟨h60, hno, rfl⟩ | ⟨h60, hyes, v1, L1, u1, R1, rfl, hT1, hU1, hR1, hA1, hl1, hl2⟩⟩
        · have hcb : (code != 0) = true := by simpa using hv
          clear hcode hv
          simp only [noState, noAsk]
          have hba : Below w2.heap.size w2 ((w2.alloc (.cells #[.bool false, .int .i64 0, .slice none 0 0] 24)).alloc (.cells #[.bool false, .slice none 0 0] 44)) := (((Below.refl _ _).alloc (Nat.le_refl _) _).alloc (by simp <;> omega) _)
          replace Xc := Lib.hid (Xc.out.below hba Xc.out.lt)
          replace TL := Lib.hid (TL.out.mono hba)
          replace SC := Lib.hid (SC.out.mono hba)
          replace HB := Lib.hid (HB.out.trans (hba.mono HB.out.size))
          have Xs := Lib.hid (show CBox ((w2.alloc (.cells #[.bool false, .int .i64 0, .slice none 0 0] 24)).alloc (.cells #[.bool false, .slice none 0 0] 44)) (w2.heap.size) 24 #[.bool false, .int .i64 0, .slice none 0 0] from ((CBox.new _ (by simp)).old _))
          have Xk := Lib.hid (show CBox ((w2.alloc (.cells #[.bool false, .int .i64 0, .slice none 0 0] 24)).alloc (.cells #[.bool false, .slice none 0 0] 44)) (w2.heap.size + 1) 44 #[.bool false, .slice none 0 0] from (CBox.new _ (by simp)))
          clear hba
          go_wp2_with fail
          refine (live_yes _).mono ?_
          rintro e w3 ⟨rfl, hb⟩
          replace Xc := Lib.hid (Xc.out.below hb Xc.out.lt)
          replace Xs := Lib.hid (Xs.out.below hb Xs.out.lt)
          replace Xk := Lib.hid (Xk.out.below hb Xk.out.lt)
          replace TL := Lib.hid (TL.out.mono hb)
          replace SC := Lib.hid (SC.out.mono hb)
          replace HB := Lib.hid (HB.out.trans (hb.mono HB.out.size))
          clear hb
          go_wp2_with fail
          go_ret
          exact ⟨rfl, HB.out⟩
        · clear hcode hv hK h60
          simp only [noState, noAsk]
          have hba : Below w2.heap.size w2 ((w2.alloc (.cells #[.bool false, .int .i64 0, .slice none 0 0] 24)).alloc (.cells #[.bool false, .slice none 0 0] 44)) := (((Below.refl _ _).alloc (Nat.le_refl _) _).alloc (by simp <;> omega) _)
          replace Xc := Lib.hid (Xc.out.below hba Xc.out.lt)
          replace TL := Lib.hid (TL.out.mono hba)
          replace SC := Lib.hid (SC.out.mono hba)
          replace HB := Lib.hid (HB.out.trans (hba.mono HB.out.size))
          have Xs := Lib.hid (show CBox ((w2.alloc (.cells #[.bool false, .int .i64 0, .slice none 0 0] 24)).alloc (.cells #[.bool false, .slice none 0 0] 44)) (w2.heap.size) 24 #[.bool false, .int .i64 0, .slice none 0 0] from ((CBox.new _ (by simp)).old _))
          have Xk := Lib.hid (show CBox ((w2.alloc (.cells #[.bool false, .int .i64 0, .slice none 0 0] 24)).alloc (.cells #[.bool false, .slice none 0 0] 44)) (w2.heap.size + 1) 44 #[.bool false, .slice none 0 0] from (CBox.new _ (by simp)))
          clear hba
          go_wp2_with fail
          refine (live_yes _).mono ?_
          rintro e w3 ⟨rfl, hb⟩
          replace Xc := Lib.hid (Xc.out.below hb Xc.out.lt)
          replace Xs := Lib.hid (Xs.out.below hb Xs.out.lt)
          replace Xk := Lib.hid (Xk.out.below hb Xk.out.lt)
          replace TL := Lib.hid (TL.out.mono hb)
          replace SC := Lib.hid (SC.out.mono hb)
          replace HB := Lib.hid (HB.out.trans (hb.mono HB.out.size))
          clear hb
          go_wp2_with fail
          go_ret
          exact ⟨rfl, HB.out⟩
        · have HV0 := Lib.hid (hcode.symm.trans hv); have HKK := Lib.hid hK; have HNO := Lib.hid hno; clear hcode hv hK h60 hno
          simp only [noState, noAsk]
          have hba : Below w2.heap.size w2 ((w2.alloc (.cells #[.bool false, .int .i64 0, .slice none 0 0] 24)).alloc (.cells #[.bool false, .slice none 0 0] 44)) := (((Below.refl _ _).alloc (Nat.le_refl _) _).alloc (by simp <;> omega) _)
          replace Xc := Lib.hid (Xc.out.below hba Xc.out.lt)
          replace TL := Lib.hid (TL.out.mono hba)
          replace SC := Lib.hid (SC.out.mono hba)
          replace HB := Lib.hid (HB.out.trans (hba.mono HB.out.size))
          have Xs := Lib.hid (show CBox ((w2.alloc (.cells #[.bool false, .int .i64 0, .slice none 0 0] 24)).alloc (.cells #[.bool false, .slice none 0 0] 44)) (w2.heap.size) 24 #[.bool false, .int .i64 0, .slice none 0 0] from ((CBox.new _ (by simp)).old _))
          have Xk := Lib.hid (show CBox ((w2.alloc (.cells #[.bool false, .int .i64 0, .slice none 0 0] 24)).alloc (.cells #[.bool false, .slice none 0 0] 44)) (w2.heap.size + 1) 44 #[.bool false, .slice none 0 0] from (CBox.new _ (by simp)))
          clear hba
          cases hn : C.contains a
          · have x19 := (Xc.out.at_ 0 (.bool ex) rfl).1
            have x20 := (Xc.out.at_ 1 (.int .i64 at') rfl).1
            have x21 := (Xc.out.at_ 2 (.slice vo L.length vc) rfl).1
            have x22 := (Xc.out.at_ 3 (.bool is) rfl).1
            have x23 := (Xc.out.at_ 4 (.int .i64 6) rfl).1
            have x24 := (Xc.out.at_ 5 (.string g) rfl).1
            have x25 := (Xc.out.at_ 6 (.slice ro C.length rc) rfl).1
            have x26 := (Xc.out.at_ 7 (.int .i64 mem) rfl).1
            have x27 := (Xc.out.at_ 8 (.int .i64 last) rfl).1
            have HC := shas_any _ C a _ SC.out
            rw [hn] at HC
            replace HC := Lib.hid HC
            have HN := Lib.hid hn; clear hn
            go_wp2_with fail
            refine HC.out.mono ?_
            clear HC
            rintro e w' ⟨rfl, rfl⟩
            go_wp2_with fail
            refine (live_yes _).mono ?_
            clear x19 x20 x21 x22 x23 x24 x25 x26 x27
            rintro e w3 ⟨rfl, hb⟩
            replace Xc := Lib.hid (Xc.out.below hb Xc.out.lt)
            replace Xs := Lib.hid (Xs.out.below hb Xs.out.lt)
            replace Xk := Lib.hid (Xk.out.below hb Xk.out.lt)
            replace TL := Lib.hid (TL.out.mono hb)
            replace SC := Lib.hid (SC.out.mono hb)
            replace HB := Lib.hid (HB.out.trans (hb.mono HB.out.size))
            clear hb
            go_wp2_with fail
            go_ret
            exact ⟨rfl, HB.out⟩
          · have x19 := (Xc.out.at_ 0 (.bool ex) rfl).1
            have x20 := (Xc.out.at_ 1 (.int .i64 at') rfl).1
            have x21 := (Xc.out.at_ 2 (.slice vo L.length vc) rfl).1
            have x22 := (Xc.out.at_ 3 (.bool is) rfl).1
            have x23 := (Xc.out.at_ 4 (.int .i64 6) rfl).1
            have x24 := (Xc.out.at_ 5 (.string g) rfl).1
            have x25 := (Xc.out.at_ 6 (.slice ro C.length rc) rfl).1
            have x26 := (Xc.out.at_ 7 (.int .i64 mem) rfl).1
            have x27 := (Xc.out.at_ 8 (.int .i64 last) rfl).1
            have HC := shas_any _ C a _ SC.out
            rw [hn] at HC
            replace HC := Lib.hid HC
            have HN := Lib.hid hn; clear hn
            go_wp2_with fail
            refine HC.out.mono ?_
            clear HC
            rintro e w' ⟨rfl, rfl⟩
            go_wp2_with fail
            refine (live_yes _).mono ?_
            clear x19 x20 x21 x22 x23 x24 x25 x26 x27
            rintro e w3 ⟨rfl, hb⟩
            replace Xc := Lib.hid (Xc.out.below hb Xc.out.lt)
            replace Xs := Lib.hid (Xs.out.below hb Xs.out.lt)
            replace Xk := Lib.hid (Xk.out.below hb Xk.out.lt)
            replace TL := Lib.hid (TL.out.mono hb)
            replace SC := Lib.hid (SC.out.mono hb)
            replace HB := Lib.hid (HB.out.trans (hb.mono HB.out.size))
            clear hb
            go_wp2_with fail
            go_ret
            exact ⟨rfl, HB.out⟩
        · have hv' := hcode.symm.trans hv
          have hpc := app_check hv' hK h60 hA1
          obtain ⟨v1o, v1c, rfl⟩ := hT1.shape
          obtain ⟨u1o, u1c, rfl⟩ := hU1.shape
          have HV0 := Lib.hid hv'; have HKK := Lib.hid hK; have HAS := Lib.hid hA1; have HRR := Lib.hid hR1; have HYES := Lib.hid hyes; have H60 := Lib.hid h60
          clear hcode hv hv' hK hA1 hR1 hyes hl1 hl2 h60
          obtain ⟨_, b1, b2, b3, b4, _⟩ := verdict_ok HV0.out
          obtain ⟨a1, ha1⟩ : ∃ a1, (if inG 6 (is && ex) = true then min (inAt 6 (if is then at' else 0) (now + mem)) (now + last) else inAt 6 (if is then at' else 0) (now + mem)) = a1 := ⟨_, rfl⟩
          obtain ⟨e1, he1⟩ : ∃ e1, inEx 6 (is && ex) = e1 := ⟨_, rfl⟩
          obtain ⟨g1, hg1⟩ : ∃ g1, inG 6 (is && ex) = g1 := ⟨_, rfl⟩
          rw [ha1, he1] at hpc
          simp only [ha1]
          simp only [he1, hg1]
          have HE1 := Lib.hid he1; have HA1 := Lib.hid ha1; have HG1 := Lib.hid hg1
          have T1 := Lib.hid hT1; have S1 := Lib.hid hU1
          clear hT1 hU1 ha1 he1 hg1
          have hba : Below w2.heap.size w2 ((w2.alloc (.cells #[.bool e1, .int .i64 a1, .slice v1o L1.length v1c] 24)).alloc (.cells #[.bool g1, .slice u1o R1.length u1c] 44)) := (((Below.refl _ _).alloc (Nat.le_refl _) _).alloc (by simp <;> omega) _)
          replace Xc := Lib.hid (Xc.out.below hba Xc.out.lt)
          replace TL := Lib.hid (TL.out.mono hba)
          replace T1 := Lib.hid (T1.out.mono hba)
          replace SC := Lib.hid (SC.out.mono hba)
          replace S1 := Lib.hid (S1.out.mono hba)
          replace HB := Lib.hid (HB.out.trans (hba.mono HB.out.size))
          have Xs := Lib.hid (show CBox ((w2.alloc (.cells #[.bool e1, .int .i64 a1, .slice v1o L1.length v1c] 24)).alloc (.cells #[.bool g1, .slice u1o R1.length u1c] 44)) (w2.heap.size) 24 #[.bool e1, .int .i64 a1, .slice v1o L1.length v1c] from ((CBox.new _ (by simp)).old _))
          have Xk := Lib.hid (show CBox ((w2.alloc (.cells #[.bool e1, .int .i64 a1, .slice v1o L1.length v1c] 24)).alloc (.cells #[.bool g1, .slice u1o R1.length u1c] 44)) (w2.heap.size + 1) 44 #[.bool g1, .slice u1o R1.length u1c] from (CBox.new _ (by simp)))
          clear hba
          cases hn : C.contains a
          · have x19 := (Xc.out.at_ 0 (.bool ex) rfl).1
            have x20 := (Xc.out.at_ 1 (.int .i64 at') rfl).1
            have x21 := (Xc.out.at_ 2 (.slice vo L.length vc) rfl).1
            have x22 := (Xc.out.at_ 3 (.bool is) rfl).1
            have x23 := (Xc.out.at_ 4 (.int .i64 6) rfl).1
            have x24 := (Xc.out.at_ 5 (.string g) rfl).1
            have x25 := (Xc.out.at_ 6 (.slice ro C.length rc) rfl).1
            have x26 := (Xc.out.at_ 7 (.int .i64 mem) rfl).1
            have x27 := (Xc.out.at_ 8 (.int .i64 last) rfl).1
            have HC := shas_any _ C a _ SC.out
            rw [hn] at HC
            replace HC := Lib.hid HC
            have HN := Lib.hid hn; clear hn
            go_wp2_with fail
            refine HC.out.mono ?_
            clear HC
            rintro e w' ⟨rfl, rfl⟩
            go_wp2_with fail
            refine (live_yes _).mono ?_
            clear x19 x20 x21 x22 x23 x24 x25 x26 x27
            rintro e w3 ⟨rfl, hb⟩
            replace Xc := Lib.hid (Xc.out.below hb Xc.out.lt)
            replace Xs := Lib.hid (Xs.out.below hb Xs.out.lt)
            replace Xk := Lib.hid (Xk.out.below hb Xk.out.lt)
            replace TL := Lib.hid (TL.out.mono hb)
            replace T1 := Lib.hid (T1.out.mono hb)
            replace SC := Lib.hid (SC.out.mono hb)
            replace S1 := Lib.hid (S1.out.mono hb)
            replace HB := Lib.hid (HB.out.trans (hb.mono HB.out.size))
            clear hb
            go_wp2_with fail
            go_ret
            exact ⟨rfl, HB.out⟩
          · have x19 := (Xc.out.at_ 0 (.bool ex) rfl).1
            have x20 := (Xc.out.at_ 1 (.int .i64 at') rfl).1
            have x21 := (Xc.out.at_ 2 (.slice vo L.length vc) rfl).1
            have x22 := (Xc.out.at_ 3 (.bool is) rfl).1
            have x23 := (Xc.out.at_ 4 (.int .i64 6) rfl).1
            have x24 := (Xc.out.at_ 5 (.string g) rfl).1
            have x25 := (Xc.out.at_ 6 (.slice ro C.length rc) rfl).1
            have x26 := (Xc.out.at_ 7 (.int .i64 mem) rfl).1
            have x27 := (Xc.out.at_ 8 (.int .i64 last) rfl).1
            have HC := shas_any _ C a _ SC.out
            rw [hn] at HC
            replace HC := Lib.hid HC
            have HN := Lib.hid hn; clear hn
            go_wp2_with fail
            refine HC.out.mono ?_
            clear HC
            rintro e w' ⟨rfl, rfl⟩
            go_wp2_with fail
            refine (live_yes _).mono ?_
            clear x19 x20 x21 x22 x23 x24 x25 x26 x27
            rintro e w3 ⟨rfl, hb⟩
            replace Xc := Lib.hid (Xc.out.below hb Xc.out.lt)
            replace Xs := Lib.hid (Xs.out.below hb Xs.out.lt)
            replace Xk := Lib.hid (Xk.out.below hb Xk.out.lt)
            replace TL := Lib.hid (TL.out.mono hb)
            replace T1 := Lib.hid (T1.out.mono hb)
            replace SC := Lib.hid (SC.out.mono hb)
            replace S1 := Lib.hid (S1.out.mono hb)
            replace HB := Lib.hid (HB.out.trans (hb.mono HB.out.size))
            clear hb
            go_wp2_with fail
            go_ret
            exact ⟨rfl, HB.out⟩
    · have x1 := (Xc.out.at_ 0 (.bool ex) rfl).1
      have x2 := (Xc.out.at_ 1 (.int .i64 at') rfl).1
      have x3 := (Xc.out.at_ 2 (.slice vo L.length vc) rfl).1
      have x4 := (Xc.out.at_ 3 (.bool is) rfl).1
      have x5 := (Xc.out.at_ 4 (.int .i64 kind) rfl).1
      have x6 := (Xc.out.at_ 5 (.string g) rfl).1
      have x7 := (Xc.out.at_ 6 (.slice ro C.length rc) rfl).1
      have x8 := (Xc.out.at_ 7 (.int .i64 mem) rfl).1
      have x9 := (Xc.out.at_ 8 (.int .i64 last) rfl).1
      have hf := Lib.hid hf0; clear hf0
      have HC := Lib.hid (few_yes ex at' _ L kind g _ C _ TL.out SC.out hf.out)
      go_wp2_with fail
      refine HC.out.mono ?_
      clear HC
      clear x1 x2 x3 x4 x5 x6 x7 x8 x9
      rintro e w1 ⟨rfl, hb⟩
      replace Xc := Lib.hid (Xc.out.below hb Xc.out.lt)
      replace TL := Lib.hid (TL.out.mono hb)
      replace SC := Lib.hid (SC.out.mono hb)
      replace HB := Lib.hid (HB.out.trans (hb.mono HB.out.size))
      clear hb
      have x10 := (Xc.out.at_ 0 (.bool ex) rfl).1
      have x11 := (Xc.out.at_ 1 (.int .i64 at') rfl).1
      have x12 := (Xc.out.at_ 2 (.slice vo L.length vc) rfl).1
      have x13 := (Xc.out.at_ 3 (.bool is) rfl).1
      have x14 := (Xc.out.at_ 4 (.int .i64 kind) rfl).1
      have x15 := (Xc.out.at_ 5 (.string g) rfl).1
      have x16 := (Xc.out.at_ 6 (.slice ro C.length rc) rfl).1
      have x17 := (Xc.out.at_ 7 (.int .i64 mem) rfl).1
      have x18 := (Xc.out.at_ 8 (.int .i64 last) rfl).1
      have HC := Lib.hid (apply_any ex at' _ L is kind g _ C now mem last _ TL.out SC.out wa)
      go_wp2_with fail
      refine HC.out.mono ?_
      clear HC
      clear x10 x11 x12 x13 x14 x15 x16 x17 x18
      rintro e w2 ⟨hb, hres⟩
      replace Xc := Lib.hid (Xc.out.below hb Xc.out.lt)
      replace TL := Lib.hid (TL.out.mono hb)
      replace SC := Lib.hid (SC.out.mono hb)
      replace HB := Lib.hid (HB.out.trans (hb.mono HB.out.size))
      clear hb
      have hvn : verdict (pcheck (is && ex) (if is then at' else 0) (if is then L else [])) kind C.length now mem last ≠ 0 := fun h => hk ⟨(verdict_ok h).2.2.2.2.2.2.2.2.1, (verdict_ok h).2.2.2.2.2.2.2.2.2⟩
      obtain ⟨code, hcode⟩ : ∃ code, code = verdict (pcheck (is && ex) (if is then at' else 0) (if is then L else [])) kind C.length now mem last := ⟨_, rfl⟩
      rw [← hcode] at hres hvn
      rcases hres with ⟨hv, rfl⟩ | ⟨hv, _⟩
      · have hcb : (code != 0) = true := by simpa using hv
        clear hcode hv hvn
        simp only [noState, noAsk]
        have hba : Below w2.heap.size w2 ((w2.alloc (.cells #[.bool false, .int .i64 0, .slice none 0 0] 24)).alloc (.cells #[.bool false, .slice none 0 0] 44)) := (((Below.refl _ _).alloc (Nat.le_refl _) _).alloc (by simp <;> omega) _)
        replace Xc := Lib.hid (Xc.out.below hba Xc.out.lt)
        replace TL := Lib.hid (TL.out.mono hba)
        replace SC := Lib.hid (SC.out.mono hba)
        replace HB := Lib.hid (HB.out.trans (hba.mono HB.out.size))
        have Xs := Lib.hid (show CBox ((w2.alloc (.cells #[.bool false, .int .i64 0, .slice none 0 0] 24)).alloc (.cells #[.bool false, .slice none 0 0] 44)) (w2.heap.size) 24 #[.bool false, .int .i64 0, .slice none 0 0] from ((CBox.new _ (by simp)).old _))
        have Xk := Lib.hid (show CBox ((w2.alloc (.cells #[.bool false, .int .i64 0, .slice none 0 0] 24)).alloc (.cells #[.bool false, .slice none 0 0] 44)) (w2.heap.size + 1) 44 #[.bool false, .slice none 0 0] from (CBox.new _ (by simp)))
        clear hba
        go_wp2_with fail
        refine (live_yes _).mono ?_
        rintro e w3 ⟨rfl, hb⟩
        replace Xc := Lib.hid (Xc.out.below hb Xc.out.lt)
        replace Xs := Lib.hid (Xs.out.below hb Xs.out.lt)
        replace Xk := Lib.hid (Xk.out.below hb Xk.out.lt)
        replace TL := Lib.hid (TL.out.mono hb)
        replace SC := Lib.hid (SC.out.mono hb)
        replace HB := Lib.hid (HB.out.trans (hb.mono HB.out.size))
        clear hb
        go_wp2_with fail
        go_ret
        exact ⟨rfl, HB.out⟩
      · exact absurd hv hvn
  · have x1 := (Xc.out.at_ 0 (.bool ex) rfl).1
    have x2 := (Xc.out.at_ 1 (.int .i64 at') rfl).1
    have x3 := (Xc.out.at_ 2 (.slice vo L.length vc) rfl).1
    have x4 := (Xc.out.at_ 3 (.bool is) rfl).1
    have x5 := (Xc.out.at_ 4 (.int .i64 kind) rfl).1
    have x6 := (Xc.out.at_ 5 (.string g) rfl).1
    have x7 := (Xc.out.at_ 6 (.slice ro C.length rc) rfl).1
    have x8 := (Xc.out.at_ 7 (.int .i64 mem) rfl).1
    have x9 := (Xc.out.at_ 8 (.int .i64 last) rfl).1
    have hf := Lib.hid hf0; clear hf0
    have HC := Lib.hid (few_no ex at' _ L kind g _ C _ TL.out SC.out hf.out)
    go_wp2_with fail
    refine HC.out.mono ?_
    clear HC
    clear x1 x2 x3 x4 x5 x6 x7 x8 x9
    rintro e w1 ⟨rfl, hb⟩
    replace Xc := Lib.hid (Xc.out.below hb Xc.out.lt)
    replace TL := Lib.hid (TL.out.mono hb)
    replace SC := Lib.hid (SC.out.mono hb)
    replace HB := Lib.hid (HB.out.trans (hb.mono HB.out.size))
    clear hb
    go_wp2_with fail
    refine (live_yes _).mono ?_
    rintro e w2 ⟨rfl, hb⟩
    replace Xc := Lib.hid (Xc.out.below hb Xc.out.lt)
    replace TL := Lib.hid (TL.out.mono hb)
    replace SC := Lib.hid (SC.out.mono hb)
    replace HB := Lib.hid (HB.out.trans (hb.mono HB.out.size))
    clear hb
    go_wp2_with fail
    go_ret
    exact ⟨rfl, HB.out⟩
end Go.Proofs.Ytkphgonbbhlnfaa
