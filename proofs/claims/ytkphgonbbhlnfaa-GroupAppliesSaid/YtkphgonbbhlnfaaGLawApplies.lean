/- The walk of GroupApplies. -/
import Derived.Test.YtkphgonbbhlnfaaGFew
import Derived.Test.YtkphgonbbhlnfaaGPlain2
import Derived.Test.YtkphgonbbhlnfaaGRapp
namespace Go.Proofs.Ytkphgonbbhlnfaa
open Go.RowKit Go.Lib Go.Maps Go.Sort

set_option maxRecDepth 20000

theorem keys_len {F : Str → Option Int} {K : List Str} {M : List Tmd} (h : KeysOf' F K) (hA : Asc F M) : M.length = K.length := by
  have := congrArg List.length (keys_unique hA.1 h)
  rwa [List.length_map] at this
theorem rapp_bad (ex : Bool) (at' : Int) (v : Value) (L : List Tmd) (is : Bool) (kind : Int) (g : ByteArray) (rv : Value) (C : List Str) (now mem last : Int) (code : Int) (w : World) (h : Tms w v L) (hr : Strs w rv C) (wa : (Lit.int .i64 at').wf = true) (hv : verdict (pcheck (is && ex) (if is then at' else 0) (if is then L else [])) kind C.length now mem last = code) (h0 : code ≠ 0) :
    Calls Try.prog 21 #[.agg #[.bool ex, .int .i64 at', v], .bool is, .agg #[.int .i64 kind, .string g, rv], .int .i64 now, .int .i64 mem, .int .i64 last] w fun e w' => e = .returned (.tuple #[.agg #[.bool false, .int .i64 0, .slice none 0 0], .bool false, .agg #[.bool false, .slice none 0 0], .int .i64 code]) ∧ Below w.heap.size w w' := by
  refine (rapply_any ex at' v L is kind g rv C now mem last w h hr wa).mono ?_
  rintro e w' ⟨hb, ⟨_, rfl⟩ | ⟨hz, _⟩⟩
  · exact ⟨by rw [hv]; rfl, hb⟩
  · exact absurd (hv.symm.trans hz) h0
theorem rapp_big (ex : Bool) (at' : Int) (v : Value) (L : List Tmd) (is : Bool) (kind : Int) (g : ByteArray) (rv : Value) (C : List Str) (now mem last : Int) (w : World) (h : Tms w v L) (hr : Strs w rv C) (wa : (Lit.int .i64 at').wf = true) (hv : verdict (pcheck (is && ex) (if is then at' else 0) (if is then L else [])) kind C.length now mem last = 0) (K : List Str) (hK : KeysOf' (inF kind (is && ex) (if is then at' else 0) (rd (if is then L else [])) (sasc C) (now + mem)) K) (h60 : 60 < K.length) :
    Calls Try.prog 21 #[.agg #[.bool ex, .int .i64 at', v], .bool is, .agg #[.int .i64 kind, .string g, rv], .int .i64 now, .int .i64 mem, .int .i64 last] w fun e w' => e = .returned (.tuple #[.agg #[.bool false, .int .i64 0, .slice none 0 0], .bool false, .agg #[.bool false, .slice none 0 0], .int .i64 1]) ∧ Below w.heap.size w w' := by
  refine (rapply_any ex at' v L is kind g rv C now mem last w h hr wa).mono ?_
  rintro e w' ⟨hb, ⟨hz, _⟩ | ⟨_, M, hM, ⟨_, rfl⟩ | ⟨hl, _⟩ | ⟨hl, _⟩⟩⟩
  · exact absurd hv hz
  · exact ⟨rfl, hb⟩
  · exact absurd hl (by rw [keys_len hK hM]; omega)
  · exact absurd hl (by rw [keys_len hK hM]; omega)
theorem rapp_none (ex : Bool) (at' : Int) (v : Value) (L : List Tmd) (is : Bool) (kind : Int) (g : ByteArray) (rv : Value) (C : List Str) (now mem last : Int) (w : World) (h : Tms w v L) (hr : Strs w rv C) (wa : (Lit.int .i64 at').wf = true) (hv : verdict (pcheck (is && ex) (if is then at' else 0) (if is then L else [])) kind C.length now mem last = 0) (K : List Str) (hK : KeysOf' (inF kind (is && ex) (if is then at' else 0) (rd (if is then L else [])) (sasc C) (now + mem)) K) (hno : inEx kind (is && ex) = false ∧ K = []) :
    Calls Try.prog 21 #[.agg #[.bool ex, .int .i64 at', v], .bool is, .agg #[.int .i64 kind, .string g, rv], .int .i64 now, .int .i64 mem, .int .i64 last] w fun e w' => e = .returned (.tuple #[.agg #[.bool false, .int .i64 0, .slice none 0 0], .bool false, .agg #[.bool false, .slice none 0 0], .int .i64 0]) ∧ Below w.heap.size w w' := by
  refine (rapply_any ex at' v L is kind g rv C now mem last w h hr wa).mono ?_
  obtain ⟨he, rfl⟩ := hno
  rintro e w' ⟨hb, ⟨hz, _⟩ | ⟨_, M, hM, ⟨hl, _⟩ | ⟨_, _, rfl⟩ | ⟨_, hn, _⟩⟩⟩
  · exact absurd hv hz
  · exact absurd hl (by rw [keys_len hK hM]; simp)
  · exact ⟨rfl, hb⟩
  · exact absurd ⟨he, List.eq_nil_of_length_eq_zero (keys_len hK hM)⟩ hn
theorem rapp_some (ex : Bool) (at' : Int) (v : Value) (L : List Tmd) (is : Bool) (kind : Int) (g : ByteArray) (rv : Value) (C : List Str) (now mem last : Int) (w : World) (h : Tms w v L) (hr : Strs w rv C) (wa : (Lit.int .i64 at').wf = true) (hv : verdict (pcheck (is && ex) (if is then at' else 0) (if is then L else [])) kind C.length now mem last = 0) (K : List Str) (hK : KeysOf' (inF kind (is && ex) (if is then at' else 0) (rd (if is then L else [])) (sasc C) (now + mem)) K) (h60 : K.length ≤ 60) (hyes : ¬ (inEx kind (is && ex) = false ∧ K = []))
    (R1 : List Str) (L1 : List Tmd) (hR : Rises (inQ kind (is && ex) (if is then at' else 0) (rd (if is then L else [])) (sasc C) (now + mem)) R1) (hA : Asc (soonF (inF kind (is && ex) (if is then at' else 0) (rd (if is then L else [])) (sasc C) (now + mem)) R1 (now + last)) L1)
    (e1 : Bool) (a1 : Int) (g1 : Bool) (he1 : inEx kind (is && ex) = e1) (ha1 : (if inG kind (is && ex) = true then min (inAt kind (if is then at' else 0) (now + mem)) (now + last) else inAt kind (if is then at' else 0) (now + mem)) = a1) (hg1 : inG kind (is && ex) = g1) :
    Calls Try.prog 21 #[.agg #[.bool ex, .int .i64 at', v], .bool is, .agg #[.int .i64 kind, .string g, rv], .int .i64 now, .int .i64 mem, .int .i64 last] w fun e w' => ∃ v2 u2, e = .returned (.tuple #[.agg #[.bool e1, .int .i64 a1, v2], .bool true, .agg #[.bool g1, u2], .int .i64 0]) ∧ Tms w' v2 L1 ∧ Strs w' u2 R1 ∧ Below w.heap.size w w' := by
  refine (rapply_any ex at' v L is kind g rv C now mem last w h hr wa).mono ?_
  rintro e w' ⟨hb, ⟨hz, _⟩ | ⟨_, M, hM, ⟨hl, _⟩ | ⟨_, ⟨hn1, hn2⟩, _⟩ | ⟨_, _, v2, L2, u2, R2, rfl, hT, hU, hR2, hA2⟩⟩⟩
  · exact absurd hv hz
  · exact absurd h60 (by rw [← keys_len hK hM]; omega)
  · subst hn2
    exact absurd ⟨hn1, List.eq_nil_of_length_eq_zero (keys_len hK hM).symm⟩ hyes
  · have hRR : R2 = R1 := rises_unique hR2 hR
    subst hRR
    have hLL : L2 = L1 := asc_unique hA2 hA
    subst hLL
    exact ⟨v2, u2, by rw [ha1, he1, hg1], hT, hU, hb⟩

set_option maxHeartbeats 2000000 in
theorem law_applies (ex : Bool) (at' : Int) (v : Value) (L : List Tmd) (is : Bool) (kind : Int) (g : ByteArray) (rv : Value) (C : List Str) (mem last : Int) (now : Int) (w : World) (h : Tms w v L) (wa : (Lit.int .i64 at').wf = true) (hr : Strs w rv C) :
    Calls Try.prog 4 #[.agg #[.bool ex, .int .i64 at', v, .bool is, .int .i64 kind, .string g, rv, .int .i64 mem, .int .i64 last], .int .i64 now] w fun e w' => e = .returned (.bool true) ∧ Below w.heap.size w w' := by
  obtain ⟨vo, vc, rfl⟩ := h.shape
  obtain ⟨ro, rc, rfl⟩ := hr.shape
  have HB := Lib.hid (Below.refl w.heap.size w)
  have TL := Lib.hid h
  have SC := Lib.hid hr
  clear h hr
  have hba : Below w.heap.size w (w.alloc (.cells #[.bool ex, .int .i64 at', .slice vo L.length vc, .bool is, .int .i64 kind, .string g, .slice ro C.length rc, .int .i64 mem, .int .i64 last] 41)) := ((Below.refl _ _).alloc (Nat.le_refl _) _)
  replace TL := Lib.hid (TL.out.mono hba)
  replace SC := Lib.hid (SC.out.mono hba)
  replace HB := Lib.hid (HB.out.trans (hba.mono HB.out.size))
  have Xc := Lib.hid (show CBox (w.alloc (.cells #[.bool ex, .int .i64 at', .slice vo L.length vc, .bool is, .int .i64 kind, .string g, .slice ro C.length rc, .int .i64 mem, .int .i64 last] 41)) (w.heap.size) 41 #[.bool ex, .int .i64 at', .slice vo L.length vc, .bool is, .int .i64 kind, .string g, .slice ro C.length rc, .int .i64 mem, .int .i64 last] from (CBox.new _ (by simp)))
  clear hba
  go_enter Try.func4, Try.ntmps4
  by_cases hf0 : L.length ≤ 100 ∧ C.length ≤ 100
  · have x1 := (Xc.out.at_ 0 (.bool ex) rfl).1
    have x2 := (Xc.out.at_ 1 (.int .i64 at') rfl).1
    have x3 := (Xc.out.at_ 2 (.slice vo L.length vc) rfl).1
    have x4 := (Xc.out.at_ 3 (.bool is) rfl).1
    have x5 := (Xc.out.at_ 4 (.int .i64 kind) rfl).1
    have x6 := (Xc.out.at_ 5 (.string g) rfl).1
    have x7 := (Xc.out.at_ 6 (.slice ro C.length rc) rfl).1
    have x8 := (Xc.out.at_ 7 (.int .i64 mem) rfl).1
    have x9 := (Xc.out.at_ 8 (.int .i64 last) rfl).1
    have hf := Lib.hid hf0; clear hf0
    have HC := Lib.hid (few_yes ex at' _ L kind g _ C _ TL.out SC.out hf.out)
    go_wp2_with fail
    refine HC.out.mono ?_
    clear HC
    clear x1 x2 x3 x4 x5 x6 x7 x8 x9
    rintro e w1 ⟨rfl, hb⟩
    replace Xc := Lib.hid (Xc.out.below hb Xc.out.lt)
    replace TL := Lib.hid (TL.out.mono hb)
    replace SC := Lib.hid (SC.out.mono hb)
    replace HB := Lib.hid (HB.out.trans (hb.mono HB.out.size))
    clear hb
    have x10 := (Xc.out.at_ 0 (.bool ex) rfl).1
    have x11 := (Xc.out.at_ 1 (.int .i64 at') rfl).1
    have x12 := (Xc.out.at_ 2 (.slice vo L.length vc) rfl).1
    have x13 := (Xc.out.at_ 3 (.bool is) rfl).1
    have x14 := (Xc.out.at_ 4 (.int .i64 kind) rfl).1
    have x15 := (Xc.out.at_ 5 (.string g) rfl).1
    have x16 := (Xc.out.at_ 6 (.slice ro C.length rc) rfl).1
    have x17 := (Xc.out.at_ 7 (.int .i64 mem) rfl).1
    have x18 := (Xc.out.at_ 8 (.int .i64 last) rfl).1
    have HC := Lib.hid (copied_any ex at' _ L _ TL.out)
    go_wp2_with fail
    refine HC.out.mono ?_
    clear HC
    clear x10 x11 x12 x13 x14 x15 x16 x17 x18
    rintro e w2 ⟨v0, rfl, hT0, hb, _⟩
    obtain ⟨v0o, v0c, rfl⟩ := hT0.shape
    have T0 := Lib.hid hT0
    clear hT0
    replace Xc := Lib.hid (Xc.out.below hb Xc.out.lt)
    replace TL := Lib.hid (TL.out.mono hb)
    replace SC := Lib.hid (SC.out.mono hb)
    replace HB := Lib.hid (HB.out.trans (hb.mono HB.out.size))
    clear hb
    have hba : Below w2.heap.size w2 (w2.alloc (.cells #[.bool ex, .int .i64 at', .slice v0o L.length v0c] 24)) := ((Below.refl _ _).alloc (Nat.le_refl _) _)
    replace Xc := Lib.hid (Xc.out.below hba Xc.out.lt)
    replace TL := Lib.hid (TL.out.mono hba)
    replace T0 := Lib.hid (T0.out.mono hba)
    replace SC := Lib.hid (SC.out.mono hba)
    replace HB := Lib.hid (HB.out.trans (hba.mono HB.out.size))
    have Xo := Lib.hid (show CBox (w2.alloc (.cells #[.bool ex, .int .i64 at', .slice v0o L.length v0c] 24)) (w2.heap.size) 24 #[.bool ex, .int .i64 at', .slice v0o L.length v0c] from (CBox.new _ (by simp)))
    clear hba
    have x19 := (Xo.out.at_ 0 (.bool ex) rfl).1
    have x20 := (Xo.out.at_ 1 (.int .i64 at') rfl).1
    have x21 := (Xo.out.at_ 2 (.slice v0o L.length v0c) rfl).1
    have x22 := (Xc.out.at_ 0 (.bool ex) rfl).1
    have x23 := (Xc.out.at_ 1 (.int .i64 at') rfl).1
    have x24 := (Xc.out.at_ 2 (.slice vo L.length vc) rfl).1
    have x25 := (Xc.out.at_ 3 (.bool is) rfl).1
    have x26 := (Xc.out.at_ 4 (.int .i64 kind) rfl).1
    have x27 := (Xc.out.at_ 5 (.string g) rfl).1
    have x28 := (Xc.out.at_ 6 (.slice ro C.length rc) rfl).1
    have x29 := (Xc.out.at_ 7 (.int .i64 mem) rfl).1
    have x30 := (Xc.out.at_ 8 (.int .i64 last) rfl).1
    have HC := Lib.hid (apply_any ex at' _ L is kind g _ C now mem last _ T0.out SC.out wa)
    go_wp2_with fail
    refine HC.out.mono ?_
    clear HC
    clear x19 x20 x21 x22 x23 x24 x25 x26 x27 x28 x29 x30
    rintro e w3 ⟨hb, hres⟩
    replace Xc := Lib.hid (Xc.out.below hb Xc.out.lt)
    replace Xo := Lib.hid (Xo.out.below hb Xo.out.lt)
    replace TL := Lib.hid (TL.out.mono hb)
    replace T0 := Lib.hid (T0.out.mono hb)
    replace SC := Lib.hid (SC.out.mono hb)
    replace HB := Lib.hid (HB.out.trans (hb.mono HB.out.size))
    clear hb
    obtain ⟨code, hcode⟩ : ∃ code, code = verdict (pcheck (is && ex) (if is then at' else 0) (if is then L else [])) kind C.length now mem last := ⟨_, rfl⟩
    rw [← hcode] at hres
    rcases hres with ⟨hv, rfl⟩ | ⟨hv, K, hK, ⟨h60, rfl⟩ | ⟨h60, hno, rfl⟩ | ⟨h60, hyes, v1, L1, u1, R1, rfl, hT1, hU1, hR1, hA1, hl1, hl2⟩⟩
    · have HVC := Lib.hid hcode.symm; have HV := Lib.hid hv; have hcc : (code != code) = false := by simp
      clear hcode hv
      simp only [noState, noAsk]
      have hba : Below w3.heap.size w3 ((w3.alloc (.cells #[.bool false, .int .i64 0, .slice none 0 0] 24)).alloc (.cells #[.bool false, .slice none 0 0] 44)) := (((Below.refl _ _).alloc (Nat.le_refl _) _).alloc (by simp <;> omega) _)
      replace Xc := Lib.hid (Xc.out.below hba Xc.out.lt)
      replace Xo := Lib.hid (Xo.out.below hba Xo.out.lt)
      replace TL := Lib.hid (TL.out.mono hba)
      replace T0 := Lib.hid (T0.out.mono hba)
      replace SC := Lib.hid (SC.out.mono hba)
      replace HB := Lib.hid (HB.out.trans (hba.mono HB.out.size))
      have Xs := Lib.hid (show CBox ((w3.alloc (.cells #[.bool false, .int .i64 0, .slice none 0 0] 24)).alloc (.cells #[.bool false, .slice none 0 0] 44)) (w3.heap.size) 24 #[.bool false, .int .i64 0, .slice none 0 0] from ((CBox.new _ (by simp)).old _))
      have Xk := Lib.hid (show CBox ((w3.alloc (.cells #[.bool false, .int .i64 0, .slice none 0 0] 24)).alloc (.cells #[.bool false, .slice none 0 0] 44)) (w3.heap.size + 1) 44 #[.bool false, .slice none 0 0] from (CBox.new _ (by simp)))
      clear hba
      have x31 := (Xc.out.at_ 0 (.bool ex) rfl).1
      have x32 := (Xc.out.at_ 1 (.int .i64 at') rfl).1
      have x33 := (Xc.out.at_ 2 (.slice vo L.length vc) rfl).1
      have x34 := (Xc.out.at_ 3 (.bool is) rfl).1
      have x35 := (Xc.out.at_ 4 (.int .i64 kind) rfl).1
      have x36 := (Xc.out.at_ 5 (.string g) rfl).1
      have x37 := (Xc.out.at_ 6 (.slice ro C.length rc) rfl).1
      have x38 := (Xc.out.at_ 7 (.int .i64 mem) rfl).1
      have x39 := (Xc.out.at_ 8 (.int .i64 last) rfl).1
      have HC := Lib.hid (rapp_bad ex at' _ L is kind g _ C now mem last code _ TL.out SC.out wa HVC.out HV.out)
      go_wp2_with fail
      refine HC.out.mono ?_
      clear HC
      clear x31 x32 x33 x34 x35 x36 x37 x38 x39
      rintro e w4 ⟨rfl, hb⟩
      replace Xc := Lib.hid (Xc.out.below hb Xc.out.lt)
      replace Xo := Lib.hid (Xo.out.below hb Xo.out.lt)
      replace Xs := Lib.hid (Xs.out.below hb Xs.out.lt)
      replace Xk := Lib.hid (Xk.out.below hb Xk.out.lt)
      replace TL := Lib.hid (TL.out.mono hb)
      replace T0 := Lib.hid (T0.out.mono hb)
      replace SC := Lib.hid (SC.out.mono hb)
      replace HB := Lib.hid (HB.out.trans (hb.mono HB.out.size))
      clear hb
      have hba : Below w4.heap.size w4 ((w4.alloc (.cells #[.bool false, .int .i64 0, .slice none 0 0] 24)).alloc (.cells #[.bool false, .slice none 0 0] 47)) := (((Below.refl _ _).alloc (Nat.le_refl _) _).alloc (by simp <;> omega) _)
      replace Xc := Lib.hid (Xc.out.below hba Xc.out.lt)
      replace Xo := Lib.hid (Xo.out.below hba Xo.out.lt)
      replace Xs := Lib.hid (Xs.out.below hba Xs.out.lt)
      replace Xk := Lib.hid (Xk.out.below hba Xk.out.lt)
      replace TL := Lib.hid (TL.out.mono hba)
      replace T0 := Lib.hid (T0.out.mono hba)
      replace SC := Lib.hid (SC.out.mono hba)
      replace HB := Lib.hid (HB.out.trans (hba.mono HB.out.size))
      have Xt := Lib.hid (show CBox ((w4.alloc (.cells #[.bool false, .int .i64 0, .slice none 0 0] 24)).alloc (.cells #[.bool false, .slice none 0 0] 47)) (w4.heap.size) 24 #[.bool false, .int .i64 0, .slice none 0 0] from ((CBox.new _ (by simp)).old _))
      have Xw := Lib.hid (show CBox ((w4.alloc (.cells #[.bool false, .int .i64 0, .slice none 0 0] 24)).alloc (.cells #[.bool false, .slice none 0 0] 47)) (w4.heap.size + 1) 47 #[.bool false, .slice none 0 0] from (CBox.new _ (by simp)))
      clear hba
      have x40 := (Xo.out.at_ 0 (.bool ex) rfl).1
      have x41 := (Xo.out.at_ 1 (.int .i64 at') rfl).1
      have x42 := (Xo.out.at_ 2 (.slice v0o L.length v0c) rfl).1
      have x43 := (Xc.out.at_ 0 (.bool ex) rfl).1
      have x44 := (Xc.out.at_ 1 (.int .i64 at') rfl).1
      have x45 := (Xc.out.at_ 2 (.slice vo L.length vc) rfl).1
      have x46 := (Xc.out.at_ 3 (.bool is) rfl).1
      have x47 := (Xc.out.at_ 4 (.int .i64 kind) rfl).1
      have x48 := (Xc.out.at_ 5 (.string g) rfl).1
      have x49 := (Xc.out.at_ 6 (.slice ro C.length rc) rfl).1
      have x50 := (Xc.out.at_ 7 (.int .i64 mem) rfl).1
      have x51 := (Xc.out.at_ 8 (.int .i64 last) rfl).1
      have HC := Lib.hid (tsame_yes ex at' _ _ L _ T0.out TL.out)
      go_wp2_with fail
      refine HC.out.mono ?_
      clear HC
      clear x40 x41 x42 x43 x44 x45 x46 x47 x48 x49 x50 x51
      rintro e w5 ⟨rfl, hb⟩
      replace Xc := Lib.hid (Xc.out.below hb Xc.out.lt)
      replace Xo := Lib.hid (Xo.out.below hb Xo.out.lt)
      replace Xs := Lib.hid (Xs.out.below hb Xs.out.lt)
      replace Xk := Lib.hid (Xk.out.below hb Xk.out.lt)
      replace Xt := Lib.hid (Xt.out.below hb Xt.out.lt)
      replace Xw := Lib.hid (Xw.out.below hb Xw.out.lt)
      replace TL := Lib.hid (TL.out.mono hb)
      replace T0 := Lib.hid (T0.out.mono hb)
      replace SC := Lib.hid (SC.out.mono hb)
      replace HB := Lib.hid (HB.out.trans (hb.mono HB.out.size))
      clear hb
      have x52 := (Xs.out.at_ 0 (.bool false) rfl).1
      have x53 := (Xs.out.at_ 1 (.int .i64 0) rfl).1
      have x54 := (Xs.out.at_ 2 (.slice none 0 0) rfl).1
      have x55 := (Xt.out.at_ 0 (.bool false) rfl).1
      have x56 := (Xt.out.at_ 1 (.int .i64 0) rfl).1
      have x57 := (Xt.out.at_ 2 (.slice none 0 0) rfl).1
      have HC := Lib.hid (tsame_yes false 0 _ _ [] (w5) (Tms.nil _) (Tms.nil _))
      go_wp2_with fail
      refine HC.out.mono ?_
      clear HC
      clear x52 x53 x54 x55 x56 x57
      rintro e w6 ⟨rfl, hb⟩
      replace Xc := Lib.hid (Xc.out.below hb Xc.out.lt)
      replace Xo := Lib.hid (Xo.out.below hb Xo.out.lt)
      replace Xs := Lib.hid (Xs.out.below hb Xs.out.lt)
      replace Xk := Lib.hid (Xk.out.below hb Xk.out.lt)
      replace Xt := Lib.hid (Xt.out.below hb Xt.out.lt)
      replace Xw := Lib.hid (Xw.out.below hb Xw.out.lt)
      replace TL := Lib.hid (TL.out.mono hb)
      replace T0 := Lib.hid (T0.out.mono hb)
      replace SC := Lib.hid (SC.out.mono hb)
      replace HB := Lib.hid (HB.out.trans (hb.mono HB.out.size))
      clear hb
      have x58 := (Xw.out.at_ 0 (.bool false) rfl).1
      have x59 := (Xw.out.at_ 1 (.slice none 0 0) rfl).1
      have x60 := (Xk.out.at_ 0 (.bool false) rfl).1
      have x61 := (Xk.out.at_ 1 (.slice none 0 0) rfl).1
      have HC := Lib.hid (sameask_yes false _ [] _ (w6) (Strs.nil _) (Strs.nil _))
      go_wp2_with fail
      refine HC.out.mono ?_
      clear HC
      clear x58 x59 x60 x61
      rintro e w7 ⟨rfl, hb⟩
      replace Xc := Lib.hid (Xc.out.below hb Xc.out.lt)
      replace Xo := Lib.hid (Xo.out.below hb Xo.out.lt)
      replace Xs := Lib.hid (Xs.out.below hb Xs.out.lt)
      replace Xk := Lib.hid (Xk.out.below hb Xk.out.lt)
      replace Xt := Lib.hid (Xt.out.below hb Xt.out.lt)
      replace Xw := Lib.hid (Xw.out.below hb Xw.out.lt)
      replace TL := Lib.hid (TL.out.mono hb)
      replace T0 := Lib.hid (T0.out.mono hb)
      replace SC := Lib.hid (SC.out.mono hb)
      replace HB := Lib.hid (HB.out.trans (hb.mono HB.out.size))
      clear hb
      go_wp2_with fail
      refine (live_yes _).mono ?_
      rintro e w8 ⟨rfl, hb⟩
      replace Xc := Lib.hid (Xc.out.below hb Xc.out.lt)
      replace Xo := Lib.hid (Xo.out.below hb Xo.out.lt)
      replace Xs := Lib.hid (Xs.out.below hb Xs.out.lt)
      replace Xk := Lib.hid (Xk.out.below hb Xk.out.lt)
      replace Xt := Lib.hid (Xt.out.below hb Xt.out.lt)
      replace Xw := Lib.hid (Xw.out.below hb Xw.out.lt)
      replace TL := Lib.hid (TL.out.mono hb)
      replace T0 := Lib.hid (T0.out.mono hb)
      replace SC := Lib.hid (SC.out.mono hb)
      replace HB := Lib.hid (HB.out.trans (hb.mono HB.out.size))
      clear hb
      go_wp2_with fail
      go_ret
      exact ⟨rfl, HB.out⟩
    · have HV := Lib.hid (hcode.symm.trans hv); have HK := Lib.hid hK; have H60 := Lib.hid h60
      clear hcode hv hK h60
      simp only [noState, noAsk]
      have hba : Below w3.heap.size w3 ((w3.alloc (.cells #[.bool false, .int .i64 0, .slice none 0 0] 24)).alloc (.cells #[.bool false, .slice none 0 0] 44)) := (((Below.refl _ _).alloc (Nat.le_refl _) _).alloc (by simp <;> omega) _)
      replace Xc := Lib.hid (Xc.out.below hba Xc.out.lt)
      replace Xo := Lib.hid (Xo.out.below hba Xo.out.lt)
      replace TL := Lib.hid (TL.out.mono hba)
      replace T0 := Lib.hid (T0.out.mono hba)
      replace SC := Lib.hid (SC.out.mono hba)
      replace HB := Lib.hid (HB.out.trans (hba.mono HB.out.size))
      have Xs := Lib.hid (show CBox ((w3.alloc (.cells #[.bool false, .int .i64 0, .slice none 0 0] 24)).alloc (.cells #[.bool false, .slice none 0 0] 44)) (w3.heap.size) 24 #[.bool false, .int .i64 0, .slice none 0 0] from ((CBox.new _ (by simp)).old _))
      have Xk := Lib.hid (show CBox ((w3.alloc (.cells #[.bool false, .int .i64 0, .slice none 0 0] 24)).alloc (.cells #[.bool false, .slice none 0 0] 44)) (w3.heap.size + 1) 44 #[.bool false, .slice none 0 0] from (CBox.new _ (by simp)))
      clear hba
      have x31 := (Xc.out.at_ 0 (.bool ex) rfl).1
      have x32 := (Xc.out.at_ 1 (.int .i64 at') rfl).1
      have x33 := (Xc.out.at_ 2 (.slice vo L.length vc) rfl).1
      have x34 := (Xc.out.at_ 3 (.bool is) rfl).1
      have x35 := (Xc.out.at_ 4 (.int .i64 kind) rfl).1
      have x36 := (Xc.out.at_ 5 (.string g) rfl).1
      have x37 := (Xc.out.at_ 6 (.slice ro C.length rc) rfl).1
      have x38 := (Xc.out.at_ 7 (.int .i64 mem) rfl).1
      have x39 := (Xc.out.at_ 8 (.int .i64 last) rfl).1
      have HC := Lib.hid (rapp_big ex at' _ L is kind g _ C now mem last _ TL.out SC.out wa HV.out K HK.out H60.out)
      go_wp2_with fail
      refine HC.out.mono ?_
      clear HC
      clear x31 x32 x33 x34 x35 x36 x37 x38 x39
      rintro e w4 ⟨rfl, hb⟩
      replace Xc := Lib.hid (Xc.out.below hb Xc.out.lt)
      replace Xo := Lib.hid (Xo.out.below hb Xo.out.lt)
      replace Xs := Lib.hid (Xs.out.below hb Xs.out.lt)
      replace Xk := Lib.hid (Xk.out.below hb Xk.out.lt)
      replace TL := Lib.hid (TL.out.mono hb)
      replace T0 := Lib.hid (T0.out.mono hb)
      replace SC := Lib.hid (SC.out.mono hb)
      replace HB := Lib.hid (HB.out.trans (hb.mono HB.out.size))
      clear hb
      have hba : Below w4.heap.size w4 ((w4.alloc (.cells #[.bool false, .int .i64 0, .slice none 0 0] 24)).alloc (.cells #[.bool false, .slice none 0 0] 47)) := (((Below.refl _ _).alloc (Nat.le_refl _) _).alloc (by simp <;> omega) _)
      replace Xc := Lib.hid (Xc.out.below hba Xc.out.lt)
      replace Xo := Lib.hid (Xo.out.below hba Xo.out.lt)
      replace Xs := Lib.hid (Xs.out.below hba Xs.out.lt)
      replace Xk := Lib.hid (Xk.out.below hba Xk.out.lt)
      replace TL := Lib.hid (TL.out.mono hba)
      replace T0 := Lib.hid (T0.out.mono hba)
      replace SC := Lib.hid (SC.out.mono hba)
      replace HB := Lib.hid (HB.out.trans (hba.mono HB.out.size))
      have Xt := Lib.hid (show CBox ((w4.alloc (.cells #[.bool false, .int .i64 0, .slice none 0 0] 24)).alloc (.cells #[.bool false, .slice none 0 0] 47)) (w4.heap.size) 24 #[.bool false, .int .i64 0, .slice none 0 0] from ((CBox.new _ (by simp)).old _))
      have Xw := Lib.hid (show CBox ((w4.alloc (.cells #[.bool false, .int .i64 0, .slice none 0 0] 24)).alloc (.cells #[.bool false, .slice none 0 0] 47)) (w4.heap.size + 1) 47 #[.bool false, .slice none 0 0] from (CBox.new _ (by simp)))
      clear hba
      have x40 := (Xo.out.at_ 0 (.bool ex) rfl).1
      have x41 := (Xo.out.at_ 1 (.int .i64 at') rfl).1
      have x42 := (Xo.out.at_ 2 (.slice v0o L.length v0c) rfl).1
      have x43 := (Xc.out.at_ 0 (.bool ex) rfl).1
      have x44 := (Xc.out.at_ 1 (.int .i64 at') rfl).1
      have x45 := (Xc.out.at_ 2 (.slice vo L.length vc) rfl).1
      have x46 := (Xc.out.at_ 3 (.bool is) rfl).1
      have x47 := (Xc.out.at_ 4 (.int .i64 kind) rfl).1
      have x48 := (Xc.out.at_ 5 (.string g) rfl).1
      have x49 := (Xc.out.at_ 6 (.slice ro C.length rc) rfl).1
      have x50 := (Xc.out.at_ 7 (.int .i64 mem) rfl).1
      have x51 := (Xc.out.at_ 8 (.int .i64 last) rfl).1
      have HC := Lib.hid (tsame_yes ex at' _ _ L _ T0.out TL.out)
      go_wp2_with fail
      refine HC.out.mono ?_
      clear HC
      clear x40 x41 x42 x43 x44 x45 x46 x47 x48 x49 x50 x51
      rintro e w5 ⟨rfl, hb⟩
      replace Xc := Lib.hid (Xc.out.below hb Xc.out.lt)
      replace Xo := Lib.hid (Xo.out.below hb Xo.out.lt)
      replace Xs := Lib.hid (Xs.out.below hb Xs.out.lt)
      replace Xk := Lib.hid (Xk.out.below hb Xk.out.lt)
      replace Xt := Lib.hid (Xt.out.below hb Xt.out.lt)
      replace Xw := Lib.hid (Xw.out.below hb Xw.out.lt)
      replace TL := Lib.hid (TL.out.mono hb)
      replace T0 := Lib.hid (T0.out.mono hb)
      replace SC := Lib.hid (SC.out.mono hb)
      replace HB := Lib.hid (HB.out.trans (hb.mono HB.out.size))
      clear hb
      have x52 := (Xs.out.at_ 0 (.bool false) rfl).1
      have x53 := (Xs.out.at_ 1 (.int .i64 0) rfl).1
      have x54 := (Xs.out.at_ 2 (.slice none 0 0) rfl).1
      have x55 := (Xt.out.at_ 0 (.bool false) rfl).1
      have x56 := (Xt.out.at_ 1 (.int .i64 0) rfl).1
      have x57 := (Xt.out.at_ 2 (.slice none 0 0) rfl).1
      have HC := Lib.hid (tsame_yes false 0 _ _ [] (w5) (Tms.nil _) (Tms.nil _))
      go_wp2_with fail
      refine HC.out.mono ?_
      clear HC
      clear x52 x53 x54 x55 x56 x57
      rintro e w6 ⟨rfl, hb⟩
      replace Xc := Lib.hid (Xc.out.below hb Xc.out.lt)
      replace Xo := Lib.hid (Xo.out.below hb Xo.out.lt)
      replace Xs := Lib.hid (Xs.out.below hb Xs.out.lt)
      replace Xk := Lib.hid (Xk.out.below hb Xk.out.lt)
      replace Xt := Lib.hid (Xt.out.below hb Xt.out.lt)
      replace Xw := Lib.hid (Xw.out.below hb Xw.out.lt)
      replace TL := Lib.hid (TL.out.mono hb)
      replace T0 := Lib.hid (T0.out.mono hb)
      replace SC := Lib.hid (SC.out.mono hb)
      replace HB := Lib.hid (HB.out.trans (hb.mono HB.out.size))
      clear hb
      have x58 := (Xw.out.at_ 0 (.bool false) rfl).1
      have x59 := (Xw.out.at_ 1 (.slice none 0 0) rfl).1
      have x60 := (Xk.out.at_ 0 (.bool false) rfl).1
      have x61 := (Xk.out.at_ 1 (.slice none 0 0) rfl).1
      have HC := Lib.hid (sameask_yes false _ [] _ (w6) (Strs.nil _) (Strs.nil _))
      go_wp2_with fail
      refine HC.out.mono ?_
      clear HC
      clear x58 x59 x60 x61
      rintro e w7 ⟨rfl, hb⟩
      replace Xc := Lib.hid (Xc.out.below hb Xc.out.lt)
      replace Xo := Lib.hid (Xo.out.below hb Xo.out.lt)
      replace Xs := Lib.hid (Xs.out.below hb Xs.out.lt)
      replace Xk := Lib.hid (Xk.out.below hb Xk.out.lt)
      replace Xt := Lib.hid (Xt.out.below hb Xt.out.lt)
      replace Xw := Lib.hid (Xw.out.below hb Xw.out.lt)
      replace TL := Lib.hid (TL.out.mono hb)
      replace T0 := Lib.hid (T0.out.mono hb)
      replace SC := Lib.hid (SC.out.mono hb)
      replace HB := Lib.hid (HB.out.trans (hb.mono HB.out.size))
      clear hb
      go_wp2_with fail
      refine (live_yes _).mono ?_
      rintro e w8 ⟨rfl, hb⟩
      replace Xc := Lib.hid (Xc.out.below hb Xc.out.lt)
      replace Xo := Lib.hid (Xo.out.below hb Xo.out.lt)
      replace Xs := Lib.hid (Xs.out.below hb Xs.out.lt)
      replace Xk := Lib.hid (Xk.out.below hb Xk.out.lt)
      replace Xt := Lib.hid (Xt.out.below hb Xt.out.lt)
      replace Xw := Lib.hid (Xw.out.below hb Xw.out.lt)
      replace TL := Lib.hid (TL.out.mono hb)
      replace T0 := Lib.hid (T0.out.mono hb)
      replace SC := Lib.hid (SC.out.mono hb)
      replace HB := Lib.hid (HB.out.trans (hb.mono HB.out.size))
      clear hb
      go_wp2_with fail
      go_ret
      exact ⟨rfl, HB.out⟩
    · have HV := Lib.hid (hcode.symm.trans hv); have HK := Lib.hid hK; have HNO := Lib.hid hno
      clear hcode hv hK h60 hno
      simp only [noState, noAsk]
      have hba : Below w3.heap.size w3 ((w3.alloc (.cells #[.bool false, .int .i64 0, .slice none 0 0] 24)).alloc (.cells #[.bool false, .slice none 0 0] 44)) := (((Below.refl _ _).alloc (Nat.le_refl _) _).alloc (by simp <;> omega) _)
      replace Xc := Lib.hid (Xc.out.below hba Xc.out.lt)
      replace Xo := Lib.hid (Xo.out.below hba Xo.out.lt)
      replace TL := Lib.hid (TL.out.mono hba)
      replace T0 := Lib.hid (T0.out.mono hba)
      replace SC := Lib.hid (SC.out.mono hba)
      replace HB := Lib.hid (HB.out.trans (hba.mono HB.out.size))
      have Xs := Lib.hid (show CBox ((w3.alloc (.cells #[.bool false, .int .i64 0, .slice none 0 0] 24)).alloc (.cells #[.bool false, .slice none 0 0] 44)) (w3.heap.size) 24 #[.bool false, .int .i64 0, .slice none 0 0] from ((CBox.new _ (by simp)).old _))
      have Xk := Lib.hid (show CBox ((w3.alloc (.cells #[.bool false, .int .i64 0, .slice none 0 0] 24)).alloc (.cells #[.bool false, .slice none 0 0] 44)) (w3.heap.size + 1) 44 #[.bool false, .slice none 0 0] from (CBox.new _ (by simp)))
      clear hba
      have x31 := (Xc.out.at_ 0 (.bool ex) rfl).1
      have x32 := (Xc.out.at_ 1 (.int .i64 at') rfl).1
      have x33 := (Xc.out.at_ 2 (.slice vo L.length vc) rfl).1
      have x34 := (Xc.out.at_ 3 (.bool is) rfl).1
      have x35 := (Xc.out.at_ 4 (.int .i64 kind) rfl).1
      have x36 := (Xc.out.at_ 5 (.string g) rfl).1
      have x37 := (Xc.out.at_ 6 (.slice ro C.length rc) rfl).1
      have x38 := (Xc.out.at_ 7 (.int .i64 mem) rfl).1
      have x39 := (Xc.out.at_ 8 (.int .i64 last) rfl).1
      have HC := Lib.hid (rapp_none ex at' _ L is kind g _ C now mem last _ TL.out SC.out wa HV.out K HK.out HNO.out)
      go_wp2_with fail
      refine HC.out.mono ?_
      clear HC
      clear x31 x32 x33 x34 x35 x36 x37 x38 x39
      rintro e w4 ⟨rfl, hb⟩
      replace Xc := Lib.hid (Xc.out.below hb Xc.out.lt)
      replace Xo := Lib.hid (Xo.out.below hb Xo.out.lt)
      replace Xs := Lib.hid (Xs.out.below hb Xs.out.lt)
      replace Xk := Lib.hid (Xk.out.below hb Xk.out.lt)
      replace TL := Lib.hid (TL.out.mono hb)
      replace T0 := Lib.hid (T0.out.mono hb)
      replace SC := Lib.hid (SC.out.mono hb)
      replace HB := Lib.hid (HB.out.trans (hb.mono HB.out.size))
      clear hb
      have hba : Below w4.heap.size w4 ((w4.alloc (.cells #[.bool false, .int .i64 0, .slice none 0 0] 24)).alloc (.cells #[.bool false, .slice none 0 0] 47)) := (((Below.refl _ _).alloc (Nat.le_refl _) _).alloc (by simp <;> omega) _)
      replace Xc := Lib.hid (Xc.out.below hba Xc.out.lt)
      replace Xo := Lib.hid (Xo.out.below hba Xo.out.lt)
      replace Xs := Lib.hid (Xs.out.below hba Xs.out.lt)
      replace Xk := Lib.hid (Xk.out.below hba Xk.out.lt)
      replace TL := Lib.hid (TL.out.mono hba)
      replace T0 := Lib.hid (T0.out.mono hba)
      replace SC := Lib.hid (SC.out.mono hba)
      replace HB := Lib.hid (HB.out.trans (hba.mono HB.out.size))
      have Xt := Lib.hid (show CBox ((w4.alloc (.cells #[.bool false, .int .i64 0, .slice none 0 0] 24)).alloc (.cells #[.bool false, .slice none 0 0] 47)) (w4.heap.size) 24 #[.bool false, .int .i64 0, .slice none 0 0] from ((CBox.new _ (by simp)).old _))
      have Xw := Lib.hid (show CBox ((w4.alloc (.cells #[.bool false, .int .i64 0, .slice none 0 0] 24)).alloc (.cells #[.bool false, .slice none 0 0] 47)) (w4.heap.size + 1) 47 #[.bool false, .slice none 0 0] from (CBox.new _ (by simp)))
      clear hba
      have x40 := (Xo.out.at_ 0 (.bool ex) rfl).1
      have x41 := (Xo.out.at_ 1 (.int .i64 at') rfl).1
      have x42 := (Xo.out.at_ 2 (.slice v0o L.length v0c) rfl).1
      have x43 := (Xc.out.at_ 0 (.bool ex) rfl).1
      have x44 := (Xc.out.at_ 1 (.int .i64 at') rfl).1
      have x45 := (Xc.out.at_ 2 (.slice vo L.length vc) rfl).1
      have x46 := (Xc.out.at_ 3 (.bool is) rfl).1
      have x47 := (Xc.out.at_ 4 (.int .i64 kind) rfl).1
      have x48 := (Xc.out.at_ 5 (.string g) rfl).1
      have x49 := (Xc.out.at_ 6 (.slice ro C.length rc) rfl).1
      have x50 := (Xc.out.at_ 7 (.int .i64 mem) rfl).1
      have x51 := (Xc.out.at_ 8 (.int .i64 last) rfl).1
      have HC := Lib.hid (tsame_yes ex at' _ _ L _ T0.out TL.out)
      go_wp2_with fail
      refine HC.out.mono ?_
      clear HC
      clear x40 x41 x42 x43 x44 x45 x46 x47 x48 x49 x50 x51
      rintro e w5 ⟨rfl, hb⟩
      replace Xc := Lib.hid (Xc.out.below hb Xc.out.lt)
      replace Xo := Lib.hid (Xo.out.below hb Xo.out.lt)
      replace Xs := Lib.hid (Xs.out.below hb Xs.out.lt)
      replace Xk := Lib.hid (Xk.out.below hb Xk.out.lt)
      replace Xt := Lib.hid (Xt.out.below hb Xt.out.lt)
      replace Xw := Lib.hid (Xw.out.below hb Xw.out.lt)
      replace TL := Lib.hid (TL.out.mono hb)
      replace T0 := Lib.hid (T0.out.mono hb)
      replace SC := Lib.hid (SC.out.mono hb)
      replace HB := Lib.hid (HB.out.trans (hb.mono HB.out.size))
      clear hb
      have x52 := (Xs.out.at_ 0 (.bool false) rfl).1
      have x53 := (Xs.out.at_ 1 (.int .i64 0) rfl).1
      have x54 := (Xs.out.at_ 2 (.slice none 0 0) rfl).1
      have x55 := (Xt.out.at_ 0 (.bool false) rfl).1
      have x56 := (Xt.out.at_ 1 (.int .i64 0) rfl).1
      have x57 := (Xt.out.at_ 2 (.slice none 0 0) rfl).1
      have HC := Lib.hid (tsame_yes false 0 _ _ [] (w5) (Tms.nil _) (Tms.nil _))
      go_wp2_with fail
      refine HC.out.mono ?_
      clear HC
      clear x52 x53 x54 x55 x56 x57
      rintro e w6 ⟨rfl, hb⟩
      replace Xc := Lib.hid (Xc.out.below hb Xc.out.lt)
      replace Xo := Lib.hid (Xo.out.below hb Xo.out.lt)
      replace Xs := Lib.hid (Xs.out.below hb Xs.out.lt)
      replace Xk := Lib.hid (Xk.out.below hb Xk.out.lt)
      replace Xt := Lib.hid (Xt.out.below hb Xt.out.lt)
      replace Xw := Lib.hid (Xw.out.below hb Xw.out.lt)
      replace TL := Lib.hid (TL.out.mono hb)
      replace T0 := Lib.hid (T0.out.mono hb)
      replace SC := Lib.hid (SC.out.mono hb)
      replace HB := Lib.hid (HB.out.trans (hb.mono HB.out.size))
      clear hb
      have x58 := (Xw.out.at_ 0 (.bool false) rfl).1
      have x59 := (Xw.out.at_ 1 (.slice none 0 0) rfl).1
      have x60 := (Xk.out.at_ 0 (.bool false) rfl).1
      have x61 := (Xk.out.at_ 1 (.slice none 0 0) rfl).1
      have HC := Lib.hid (sameask_yes false _ [] _ (w6) (Strs.nil _) (Strs.nil _))
      go_wp2_with fail
      refine HC.out.mono ?_
      clear HC
      clear x58 x59 x60 x61
      rintro e w7 ⟨rfl, hb⟩
      replace Xc := Lib.hid (Xc.out.below hb Xc.out.lt)
      replace Xo := Lib.hid (Xo.out.below hb Xo.out.lt)
      replace Xs := Lib.hid (Xs.out.below hb Xs.out.lt)
      replace Xk := Lib.hid (Xk.out.below hb Xk.out.lt)
      replace Xt := Lib.hid (Xt.out.below hb Xt.out.lt)
      replace Xw := Lib.hid (Xw.out.below hb Xw.out.lt)
      replace TL := Lib.hid (TL.out.mono hb)
      replace T0 := Lib.hid (T0.out.mono hb)
      replace SC := Lib.hid (SC.out.mono hb)
      replace HB := Lib.hid (HB.out.trans (hb.mono HB.out.size))
      clear hb
      go_wp2_with fail
      refine (live_yes _).mono ?_
      rintro e w8 ⟨rfl, hb⟩
      replace Xc := Lib.hid (Xc.out.below hb Xc.out.lt)
      replace Xo := Lib.hid (Xo.out.below hb Xo.out.lt)
      replace Xs := Lib.hid (Xs.out.below hb Xs.out.lt)
      replace Xk := Lib.hid (Xk.out.below hb Xk.out.lt)
      replace Xt := Lib.hid (Xt.out.below hb Xt.out.lt)
      replace Xw := Lib.hid (Xw.out.below hb Xw.out.lt)
      replace TL := Lib.hid (TL.out.mono hb)
      replace T0 := Lib.hid (T0.out.mono hb)
      replace SC := Lib.hid (SC.out.mono hb)
      replace HB := Lib.hid (HB.out.trans (hb.mono HB.out.size))
      clear hb
      go_wp2_with fail
      go_ret
      exact ⟨rfl, HB.out⟩
    · have hv' := hcode.symm.trans hv
      obtain ⟨v1o, v1c, rfl⟩ := hT1.shape
      obtain ⟨u1o, u1c, rfl⟩ := hU1.shape
      have HV := Lib.hid hv'; have HKK := Lib.hid hK; have HAS := Lib.hid hA1; have HRR := Lib.hid hR1; have HYES := Lib.hid hyes; have H60 := Lib.hid h60
      clear hcode hv hv' hK hA1 hR1 hyes hl1 hl2 h60
      obtain ⟨a1, ha1⟩ : ∃ a1, (if inG kind (is && ex) = true then min (inAt kind (if is then at' else 0) (now + mem)) (now + last) else inAt kind (if is then at' else 0) (now + mem)) = a1 := ⟨_, rfl⟩
      obtain ⟨e1, he1⟩ : ∃ e1, inEx kind (is && ex) = e1 := ⟨_, rfl⟩
      obtain ⟨g1, hg1⟩ : ∃ g1, inG kind (is && ex) = g1 := ⟨_, rfl⟩
      simp only [ha1]
      simp only [he1, hg1]
      have HE1 := Lib.hid he1; have HA1 := Lib.hid ha1; have HG1 := Lib.hid hg1
      have T1 := Lib.hid hT1; have S1 := Lib.hid hU1
      clear hT1 hU1 ha1 he1 hg1
      have hba : Below w3.heap.size w3 ((w3.alloc (.cells #[.bool e1, .int .i64 a1, .slice v1o L1.length v1c] 24)).alloc (.cells #[.bool g1, .slice u1o R1.length u1c] 44)) := (((Below.refl _ _).alloc (Nat.le_refl _) _).alloc (by simp <;> omega) _)
      replace Xc := Lib.hid (Xc.out.below hba Xc.out.lt)
      replace Xo := Lib.hid (Xo.out.below hba Xo.out.lt)
      replace TL := Lib.hid (TL.out.mono hba)
      replace T0 := Lib.hid (T0.out.mono hba)
      replace T1 := Lib.hid (T1.out.mono hba)
      replace SC := Lib.hid (SC.out.mono hba)
      replace S1 := Lib.hid (S1.out.mono hba)
      replace HB := Lib.hid (HB.out.trans (hba.mono HB.out.size))
      have Xs := Lib.hid (show CBox ((w3.alloc (.cells #[.bool e1, .int .i64 a1, .slice v1o L1.length v1c] 24)).alloc (.cells #[.bool g1, .slice u1o R1.length u1c] 44)) (w3.heap.size) 24 #[.bool e1, .int .i64 a1, .slice v1o L1.length v1c] from ((CBox.new _ (by simp)).old _))
      have Xk := Lib.hid (show CBox ((w3.alloc (.cells #[.bool e1, .int .i64 a1, .slice v1o L1.length v1c] 24)).alloc (.cells #[.bool g1, .slice u1o R1.length u1c] 44)) (w3.heap.size + 1) 44 #[.bool g1, .slice u1o R1.length u1c] from (CBox.new _ (by simp)))
      clear hba
      have x31 := (Xc.out.at_ 0 (.bool ex) rfl).1
      have x32 := (Xc.out.at_ 1 (.int .i64 at') rfl).1
      have x33 := (Xc.out.at_ 2 (.slice vo L.length vc) rfl).1
      have x34 := (Xc.out.at_ 3 (.bool is) rfl).1
      have x35 := (Xc.out.at_ 4 (.int .i64 kind) rfl).1
      have x36 := (Xc.out.at_ 5 (.string g) rfl).1
      have x37 := (Xc.out.at_ 6 (.slice ro C.length rc) rfl).1
      have x38 := (Xc.out.at_ 7 (.int .i64 mem) rfl).1
      have x39 := (Xc.out.at_ 8 (.int .i64 last) rfl).1
      have HC := Lib.hid (rapp_some ex at' _ L is kind g _ C now mem last _ TL.out SC.out wa HV.out K HKK.out H60.out HYES.out R1 L1 HRR.out HAS.out e1 a1 g1 HE1.out HA1.out HG1.out)
      go_wp2_with fail
      refine HC.out.mono ?_
      clear HC
      clear x31 x32 x33 x34 x35 x36 x37 x38 x39
      rintro e w4 ⟨v2, u2, rfl, hT2, hU2, hb⟩
      obtain ⟨v2o, v2c, rfl⟩ := hT2.shape
      obtain ⟨u2o, u2c, rfl⟩ := hU2.shape
      have T2 := Lib.hid hT2; have S2 := Lib.hid hU2; clear hT2 hU2
      replace Xc := Lib.hid (Xc.out.below hb Xc.out.lt)
      replace Xo := Lib.hid (Xo.out.below hb Xo.out.lt)
      replace Xs := Lib.hid (Xs.out.below hb Xs.out.lt)
      replace Xk := Lib.hid (Xk.out.below hb Xk.out.lt)
      replace TL := Lib.hid (TL.out.mono hb)
      replace T0 := Lib.hid (T0.out.mono hb)
      replace T1 := Lib.hid (T1.out.mono hb)
      replace SC := Lib.hid (SC.out.mono hb)
      replace S1 := Lib.hid (S1.out.mono hb)
      replace HB := Lib.hid (HB.out.trans (hb.mono HB.out.size))
      clear hb
      have hba : Below w4.heap.size w4 ((w4.alloc (.cells #[.bool e1, .int .i64 a1, .slice v2o L1.length v2c] 24)).alloc (.cells #[.bool g1, .slice u2o R1.length u2c] 47)) := (((Below.refl _ _).alloc (Nat.le_refl _) _).alloc (by simp <;> omega) _)
      replace Xc := Lib.hid (Xc.out.below hba Xc.out.lt)
      replace Xo := Lib.hid (Xo.out.below hba Xo.out.lt)
      replace Xs := Lib.hid (Xs.out.below hba Xs.out.lt)
      replace Xk := Lib.hid (Xk.out.below hba Xk.out.lt)
      replace TL := Lib.hid (TL.out.mono hba)
      replace T0 := Lib.hid (T0.out.mono hba)
      replace T1 := Lib.hid (T1.out.mono hba)
      replace T2 := Lib.hid (T2.out.mono hba)
      replace SC := Lib.hid (SC.out.mono hba)
      replace S1 := Lib.hid (S1.out.mono hba)
      replace S2 := Lib.hid (S2.out.mono hba)
      replace HB := Lib.hid (HB.out.trans (hba.mono HB.out.size))
      have Xt := Lib.hid (show CBox ((w4.alloc (.cells #[.bool e1, .int .i64 a1, .slice v2o L1.length v2c] 24)).alloc (.cells #[.bool g1, .slice u2o R1.length u2c] 47)) (w4.heap.size) 24 #[.bool e1, .int .i64 a1, .slice v2o L1.length v2c] from ((CBox.new _ (by simp)).old _))
      have Xw := Lib.hid (show CBox ((w4.alloc (.cells #[.bool e1, .int .i64 a1, .slice v2o L1.length v2c] 24)).alloc (.cells #[.bool g1, .slice u2o R1.length u2c] 47)) (w4.heap.size + 1) 47 #[.bool g1, .slice u2o R1.length u2c] from (CBox.new _ (by simp)))
      clear hba
      have x40 := (Xo.out.at_ 0 (.bool ex) rfl).1
      have x41 := (Xo.out.at_ 1 (.int .i64 at') rfl).1
      have x42 := (Xo.out.at_ 2 (.slice v0o L.length v0c) rfl).1
      have x43 := (Xc.out.at_ 0 (.bool ex) rfl).1
      have x44 := (Xc.out.at_ 1 (.int .i64 at') rfl).1
      have x45 := (Xc.out.at_ 2 (.slice vo L.length vc) rfl).1
      have x46 := (Xc.out.at_ 3 (.bool is) rfl).1
      have x47 := (Xc.out.at_ 4 (.int .i64 kind) rfl).1
      have x48 := (Xc.out.at_ 5 (.string g) rfl).1
      have x49 := (Xc.out.at_ 6 (.slice ro C.length rc) rfl).1
      have x50 := (Xc.out.at_ 7 (.int .i64 mem) rfl).1
      have x51 := (Xc.out.at_ 8 (.int .i64 last) rfl).1
      have HC := Lib.hid (tsame_yes ex at' _ _ L _ T0.out TL.out)
      go_wp2_with fail
      refine HC.out.mono ?_
      clear HC
      clear x40 x41 x42 x43 x44 x45 x46 x47 x48 x49 x50 x51
      rintro e w5 ⟨rfl, hb⟩
      replace Xc := Lib.hid (Xc.out.below hb Xc.out.lt)
      replace Xo := Lib.hid (Xo.out.below hb Xo.out.lt)
      replace Xs := Lib.hid (Xs.out.below hb Xs.out.lt)
      replace Xk := Lib.hid (Xk.out.below hb Xk.out.lt)
      replace Xt := Lib.hid (Xt.out.below hb Xt.out.lt)
      replace Xw := Lib.hid (Xw.out.below hb Xw.out.lt)
      replace TL := Lib.hid (TL.out.mono hb)
      replace T0 := Lib.hid (T0.out.mono hb)
      replace T1 := Lib.hid (T1.out.mono hb)
      replace T2 := Lib.hid (T2.out.mono hb)
      replace SC := Lib.hid (SC.out.mono hb)
      replace S1 := Lib.hid (S1.out.mono hb)
      replace S2 := Lib.hid (S2.out.mono hb)
      replace HB := Lib.hid (HB.out.trans (hb.mono HB.out.size))
      clear hb
      have x52 := (Xs.out.at_ 0 (.bool e1) rfl).1
      have x53 := (Xs.out.at_ 1 (.int .i64 a1) rfl).1
      have x54 := (Xs.out.at_ 2 (.slice v1o L1.length v1c) rfl).1
      have x55 := (Xt.out.at_ 0 (.bool e1) rfl).1
      have x56 := (Xt.out.at_ 1 (.int .i64 a1) rfl).1
      have x57 := (Xt.out.at_ 2 (.slice v2o L1.length v2c) rfl).1
      have HC := Lib.hid (tsame_yes e1 a1 _ _ L1 _ T1.out T2.out)
      go_wp2_with fail
      refine HC.out.mono ?_
      clear HC
      clear x52 x53 x54 x55 x56 x57
      rintro e w6 ⟨rfl, hb⟩
      replace Xc := Lib.hid (Xc.out.below hb Xc.out.lt)
      replace Xo := Lib.hid (Xo.out.below hb Xo.out.lt)
      replace Xs := Lib.hid (Xs.out.below hb Xs.out.lt)
      replace Xk := Lib.hid (Xk.out.below hb Xk.out.lt)
      replace Xt := Lib.hid (Xt.out.below hb Xt.out.lt)
      replace Xw := Lib.hid (Xw.out.below hb Xw.out.lt)
      replace TL := Lib.hid (TL.out.mono hb)
      replace T0 := Lib.hid (T0.out.mono hb)
      replace T1 := Lib.hid (T1.out.mono hb)
      replace T2 := Lib.hid (T2.out.mono hb)
      replace SC := Lib.hid (SC.out.mono hb)
      replace S1 := Lib.hid (S1.out.mono hb)
      replace S2 := Lib.hid (S2.out.mono hb)
      replace HB := Lib.hid (HB.out.trans (hb.mono HB.out.size))
      clear hb
      have x58 := (Xw.out.at_ 0 (.bool g1) rfl).1
      have x59 := (Xw.out.at_ 1 (.slice u2o R1.length u2c) rfl).1
      have x60 := (Xk.out.at_ 0 (.bool g1) rfl).1
      have x61 := (Xk.out.at_ 1 (.slice u1o R1.length u1c) rfl).1
      have HC := Lib.hid (sameask_yes g1 _ R1 _ _ S2.out S1.out)
      go_wp2_with fail
      refine HC.out.mono ?_
      clear HC
      clear x58 x59 x60 x61
      rintro e w7 ⟨rfl, hb⟩
      replace Xc := Lib.hid (Xc.out.below hb Xc.out.lt)
      replace Xo := Lib.hid (Xo.out.below hb Xo.out.lt)
      replace Xs := Lib.hid (Xs.out.below hb Xs.out.lt)
      replace Xk := Lib.hid (Xk.out.below hb Xk.out.lt)
      replace Xt := Lib.hid (Xt.out.below hb Xt.out.lt)
      replace Xw := Lib.hid (Xw.out.below hb Xw.out.lt)
      replace TL := Lib.hid (TL.out.mono hb)
      replace T0 := Lib.hid (T0.out.mono hb)
      replace T1 := Lib.hid (T1.out.mono hb)
      replace T2 := Lib.hid (T2.out.mono hb)
      replace SC := Lib.hid (SC.out.mono hb)
      replace S1 := Lib.hid (S1.out.mono hb)
      replace S2 := Lib.hid (S2.out.mono hb)
      replace HB := Lib.hid (HB.out.trans (hb.mono HB.out.size))
      clear hb
      go_wp2_with fail
      refine (live_yes _).mono ?_
      rintro e w8 ⟨rfl, hb⟩
      replace Xc := Lib.hid (Xc.out.below hb Xc.out.lt)
      replace Xo := Lib.hid (Xo.out.below hb Xo.out.lt)
      replace Xs := Lib.hid (Xs.out.below hb Xs.out.lt)
      replace Xk := Lib.hid (Xk.out.below hb Xk.out.lt)
      replace Xt := Lib.hid (Xt.out.below hb Xt.out.lt)
      replace Xw := Lib.hid (Xw.out.below hb Xw.out.lt)
      replace TL := Lib.hid (TL.out.mono hb)
      replace T0 := Lib.hid (T0.out.mono hb)
      replace T1 := Lib.hid (T1.out.mono hb)
      replace T2 := Lib.hid (T2.out.mono hb)
      replace SC := Lib.hid (SC.out.mono hb)
      replace S1 := Lib.hid (S1.out.mono hb)
      replace S2 := Lib.hid (S2.out.mono hb)
      replace HB := Lib.hid (HB.out.trans (hb.mono HB.out.size))
      clear hb
      go_wp2_with fail
      go_ret
      exact ⟨rfl, HB.out⟩
  · have x1 := (Xc.out.at_ 0 (.bool ex) rfl).1
    have x2 := (Xc.out.at_ 1 (.int .i64 at') rfl).1
    have x3 := (Xc.out.at_ 2 (.slice vo L.length vc) rfl).1
    have x4 := (Xc.out.at_ 3 (.bool is) rfl).1
    have x5 := (Xc.out.at_ 4 (.int .i64 kind) rfl).1
    have x6 := (Xc.out.at_ 5 (.string g) rfl).1
    have x7 := (Xc.out.at_ 6 (.slice ro C.length rc) rfl).1
    have x8 := (Xc.out.at_ 7 (.int .i64 mem) rfl).1
    have x9 := (Xc.out.at_ 8 (.int .i64 last) rfl).1
    have hf := Lib.hid hf0; clear hf0
    have HC := Lib.hid (few_no ex at' _ L kind g _ C _ TL.out SC.out hf.out)
    go_wp2_with fail
    refine HC.out.mono ?_
    clear HC
    clear x1 x2 x3 x4 x5 x6 x7 x8 x9
    rintro e w1 ⟨rfl, hb⟩
    replace Xc := Lib.hid (Xc.out.below hb Xc.out.lt)
    replace TL := Lib.hid (TL.out.mono hb)
    replace SC := Lib.hid (SC.out.mono hb)
    replace HB := Lib.hid (HB.out.trans (hb.mono HB.out.size))
    clear hb
    go_wp2_with fail
    refine (live_yes _).mono ?_
    rintro e w2 ⟨rfl, hb⟩
    replace Xc := Lib.hid (Xc.out.below hb Xc.out.lt)
    replace TL := Lib.hid (TL.out.mono hb)
    replace SC := Lib.hid (SC.out.mono hb)
    replace HB := Lib.hid (HB.out.trans (hb.mono HB.out.size))
    clear hb
    go_wp2_with fail
    go_ret
    exact ⟨rfl, HB.out⟩
end Go.Proofs.Ytkphgonbbhlnfaa
