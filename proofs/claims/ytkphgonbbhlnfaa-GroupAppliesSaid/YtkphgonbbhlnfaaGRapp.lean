/- The walk of siphonref17.Apply. -/
import Derived.Test.YtkphgonbbhlnfaaGStep
import Derived.Test.YtkphgonbbhlnfaaGPlain
import Derived.Test.YtkphgonbbhlnfaaGLive
namespace Go.Proofs.Ytkphgonbbhlnfaa
open Go.RowKit Go.Lib Go.Maps Go.Sort

theorem rcheck_no (ex : Bool) (at' : Int) (v : Value) (L : List Tmd) (w : World) (h : Tms w v L) (hp : pcheck ex at' L = false) :
    Calls Try.prog 17 #[.agg #[.bool ex, .int .i64 at', v]] w fun e w' => e = .returned (.int .i64 3) ∧ Below w.heap.size w w' := by
  have := rcheck_any ex at' v L w h
  rwa [hp] at this
theorem rcheck_yes (ex : Bool) (at' : Int) (v : Value) (L : List Tmd) (w : World) (h : Tms w v L) (hp : pcheck ex at' L = true) :
    Calls Try.prog 17 #[.agg #[.bool ex, .int .i64 at', v]] w fun e w' => e = .returned (.int .i64 0) ∧ Below w.heap.size w w' := by
  have := rcheck_any ex at' v L w h
  rwa [hp] at this
theorem CBox.inv {w : World} {b : Nat} {T : TypeId} {cs : Array Value} (h : CBox w b T cs) {i : Nat} {u : Value} (hc : w.cell? ⟨b, i, none⟩ = some u) : cs[i]? = some u := by
  have h' : w.heap[b]? = some (.cells cs T (0, 0)) := h
  simpa [World.cell?, h'] using hc
theorem Tms.ne_box {w : World} {v : Value} {L : List Tmd} {b : Nat} {T : TypeId} {cs : Array Value} (h : Tms w v L) (hb : CBox w b T cs) (hs : ∀ (i : Nat) (s : ByteArray), cs[i]? ≠ some (Value.string s)) : L ≠ [] → ∀ c, v.ownBlock = some c → c ≠ b := by
  intro hL c e he
  subst he
  obtain ⟨ao, cap, d, off, rfl, h0, h1, h2, h3⟩ := h
  rcases h0 with h0 | rfl
  · exact absurd h0 hL
  · obtain ⟨_, q, _⟩ := h3 0 (List.length_pos_iff.2 hL)
    simp [Value.ownBlock] at e
    subst e
    exact hs _ _ (hb.inv q)
theorem Strs.ne_box {w : World} {v : Value} {L : List Str} {b : Nat} {T : TypeId} {cs : Array Value} (h : Strs w v L) (hb : CBox w b T cs) (hs : ∀ (i : Nat) (s : ByteArray), cs[i]? ≠ some (Value.string s)) : L ≠ [] → ∀ c, v.ownBlock = some c → c ≠ b := by
  intro hL c e he
  subst he
  obtain ⟨ao, cap, d, off, rfl, h0, h1, h2, h3⟩ := h
  rcases h0 with h0 | rfl
  · exact absurd h0 hL
  · obtain ⟨_, q⟩ := h3 0 (List.length_pos_iff.2 hL)
    simp [Value.ownBlock] at e
    subst e
    exact hs _ _ (hb.inv q)
theorem ns3 (a : Bool) (z : Int) (o : Option Addr) (n c : Nat) : ∀ (i : Nat) (s : ByteArray), (#[.bool a, .int .i64 z, .slice o n c] : Array Value)[i]? ≠ some (Value.string s) := by
  intro i s
  match i with
  | 0 => simp
  | 1 => simp
  | 2 => simp
  | _ + 3 => simp
theorem ns2 (a : Bool) (o : Option Addr) (n c : Nat) : ∀ (i : Nat) (s : ByteArray), (#[.bool a, .slice o n c] : Array Value)[i]? ≠ some (Value.string s) := by
  intro i s
  match i with
  | 0 => simp
  | 1 => simp
  | _ + 2 => simp
theorem soon_nil {F : Str → Option Int} {Q : List Str} {z : Int} {M M' : List Tmd} (h : Asc F M) (h' : Asc (soonF F Q z) M') : M = [] ↔ M' = [] := by
  have : M.map Prod.fst = M'.map Prod.fst := keys_unique h.1 ⟨h'.1.1, fun a => by rw [h'.1.2, Ne, Ne, soonF_keys]⟩
  have h2 := congrArg List.length this
  rw [List.length_map, List.length_map] at h2
  rw [← List.length_eq_zero_iff, ← List.length_eq_zero_iff, h2]
theorem bn_own (a : Nat) : (a + 1 ≠ a ∧ a + 1 + 1 ≠ a ∧ a + 1 + 1 + 1 ≠ a) := by omega
theorem bn_far {a b : Nat} (h : a + 1 + 1 + 1 < b) : (a ≠ b ∧ a + 1 ≠ b ∧ a + 1 + 1 ≠ b ∧ a + 1 + 1 + 1 ≠ b) ∧ (a ≠ b + 1 ∧ a + 1 ≠ b + 1 ∧ a + 1 + 1 ≠ b + 1 ∧ a + 1 + 1 + 1 ≠ b + 1) ∧ (b + 1 ≠ b ∧ b ≠ b + 1) ∧ (a ≤ b ∧ a ≤ b + 1) := by omega
theorem pcheck_nil : pcheck false 0 [] = true := rfl
theorem rmay_yes (now mem last : Int) (w : World) (m : Bool) (h : may now mem last = m) :
    Calls Try.prog 37 #[.int .i64 now, .int .i64 mem, .int .i64 last] w fun e w' => e = .returned (.bool m) ∧ w' = w := by
  have := rmay_any now mem last w
  rwa [h] at this

set_option maxRecDepth 20000 in
set_option maxHeartbeats 24000000 in
theorem rapply_any (ex : Bool) (at' : Int) (v : Value) (L : List Tmd) (is : Bool) (kind : Int) (g : ByteArray) (rv : Value) (C : List Str) (now mem last : Int) (w : World) (h : Tms w v L) (hr : Strs w rv C) (wa : (Lit.int .i64 at').wf = true) :
    Calls Try.prog 21 #[.agg #[.bool ex, .int .i64 at', v], .bool is, .agg #[.int .i64 kind, .string g, rv], .int .i64 now, .int .i64 mem, .int .i64 last] w
      (RetRapp w (is && ex) (if is then at' else 0) (if is then L else []) kind (sasc C) C.length now mem last) := by
  obtain ⟨vo, vc, rfl⟩ := h.shape
  obtain ⟨ro, rc, rfl⟩ := hr.shape
  have HB := Lib.hid (Below.refl w.heap.size w)
  have TL := Lib.hid h
  have SC := Lib.hid hr
  have HWA := Lib.hid wa
  clear h hr wa
  have hba : Below w.heap.size w ((((w.alloc (.cells #[.bool ex, .int .i64 at', .slice vo L.length vc] 24)).alloc (.cells #[.int .i64 kind, .string g, .slice ro C.length rc] 37)).alloc (.cells #[.bool false, .int .i64 0, .slice none 0 0] 24)).alloc (.cells #[.bool false, .slice none 0 0] 47)) := (((((Below.refl _ _).alloc (Nat.le_refl _) _).alloc (by simp <;> omega) _).alloc (by simp <;> omega) _).alloc (by simp <;> omega) _)
  replace TL := Lib.hid (TL.out.mono hba)
  replace SC := Lib.hid (SC.out.mono hba)
  replace HB := Lib.hid (HB.out.trans (hba.mono HB.out.size))
  have Xs := Lib.hid (show CBox ((((w.alloc (.cells #[.bool ex, .int .i64 at', .slice vo L.length vc] 24)).alloc (.cells #[.int .i64 kind, .string g, .slice ro C.length rc] 37)).alloc (.cells #[.bool false, .int .i64 0, .slice none 0 0] 24)).alloc (.cells #[.bool false, .slice none 0 0] 47)) (w.heap.size) 24 #[.bool ex, .int .i64 at', .slice vo L.length vc] from ((((CBox.new _ (by simp)).old _).old _).old _))
  have Xc := Lib.hid (show CBox ((((w.alloc (.cells #[.bool ex, .int .i64 at', .slice vo L.length vc] 24)).alloc (.cells #[.int .i64 kind, .string g, .slice ro C.length rc] 37)).alloc (.cells #[.bool false, .int .i64 0, .slice none 0 0] 24)).alloc (.cells #[.bool false, .slice none 0 0] 47)) (w.heap.size + 1) 37 #[.int .i64 kind, .string g, .slice ro C.length rc] from (((CBox.new _ (by simp)).old _).old _))
  have Xo := Lib.hid (show CBox ((((w.alloc (.cells #[.bool ex, .int .i64 at', .slice vo L.length vc] 24)).alloc (.cells #[.int .i64 kind, .string g, .slice ro C.length rc] 37)).alloc (.cells #[.bool false, .int .i64 0, .slice none 0 0] 24)).alloc (.cells #[.bool false, .slice none 0 0] 47)) (w.heap.size + 1 + 1) 24 #[.bool false, .int .i64 0, .slice none 0 0] from ((CBox.new _ (by simp)).old _))
  have Xk := Lib.hid (show CBox ((((w.alloc (.cells #[.bool ex, .int .i64 at', .slice vo L.length vc] 24)).alloc (.cells #[.int .i64 kind, .string g, .slice ro C.length rc] 37)).alloc (.cells #[.bool false, .int .i64 0, .slice none 0 0] 24)).alloc (.cells #[.bool false, .slice none 0 0] 47)) (w.heap.size + 1 + 1 + 1) 47 #[.bool false, .slice none 0 0] from (CBox.new _ (by simp)))
  clear hba
  obtain ⟨W0, hW0⟩ : ∃ W0, W0 = ((((w.alloc (.cells #[.bool ex, .int .i64 at', .slice vo L.length vc] 24)).alloc (.cells #[.int .i64 kind, .string g, .slice ro C.length rc] 37)).alloc (.cells #[.bool false, .int .i64 0, .slice none 0 0] 24)).alloc (.cells #[.bool false, .slice none 0 0] 47)) := ⟨_, rfl⟩
  rw [← hW0] at HB TL SC Xs Xc Xo Xk
  have HW0 := Lib.hid (show w.heap.size + 1 + 1 + 1 < W0.heap.size from Xk.out.lt)
  cases is
  · have HVP := Lib.hid pcheck_nil
    have HRW := Lib.hid hW0; clear hW0
    go_enter Try.func21, Try.ntmps21
    go_wp2_with fail
    rw [← HRW.out]
    clear HRW
    have HD1 := Lib.hid (show decide (kind < 1) = true ↔ kind < 1 from decide_eq_true_iff)
    cases hm : may now mem last
    · have HM := Lib.hid (fun W => rmay_yes now mem last W false hm)
      have hv : verdict true kind C.length now mem last = 1 := by simp [verdict, hm]
      have x1 := (Xc.out.at_ 0 (.int .i64 kind) rfl).1
      have x2 := (Xc.out.at_ 1 (.string g) rfl).1
      have x3 := (Xc.out.at_ 2 (.slice ro C.length rc) rfl).1
      have HV := Lib.hid hv; clear hv
      obtain ⟨x4, f4⟩ := Xo.out.at_ 0 (.bool false) rfl
      obtain ⟨x5, f5⟩ := Xo.out.at_ 1 (.int .i64 0) rfl
      obtain ⟨x6, f6⟩ := Xo.out.at_ 2 (.slice none 0 0) rfl
      obtain ⟨x7, f7⟩ := Xk.out.at_ 0 (.bool false) rfl
      obtain ⟨x8, f8⟩ := Xk.out.at_ 1 (.slice none 0 0) rfl
      go_wp2_with ((with_reducible refine (HM.out _).mono ?_); rintro e w2 ⟨rfl, hw2⟩; subst w2)
      obtain ⟨r0, r1, r2, r3, r4⟩ := boxes_end5 Xo.out Xk.out (.bool false) (.int .i64 0) (.slice none 0 0) (.bool false) (.slice none 0 0)
      have hBB := below_end5' HB.out (lo := w.heap.size + 1 + 1) (Nat.le_add_right_of_le (Nat.le_add_right _ _)) (.bool false) (.int .i64 0) (.slice none 0 0) (.bool false) (.slice none 0 0)
      refine bodyPost_ret (v := .tuple #[noState, .bool false, noAsk, .int .i64 1]) (by simp only [results, Try.results21, go_sem, noState, noAsk]; simp [go_sem, r0, r1, r2, r3, r4]) rfl ⟨hBB, by refine .inl ⟨?_, ?_⟩ <;> simp [HVP.out, HV.out]⟩
    · have HM := Lib.hid (fun W => rmay_yes now mem last W true hm)
      have hm' := hm; clear hm
      cases d1 : decide (kind < 1)
      · cases d2 : decide (6 < kind)
        · cases d3 : decide ((60 : Int) < (C.length : Int))
          · have hk1 : 1 ≤ kind := by have := of_decide_eq_false d1; omega
            have hk2 : kind ≤ 6 := by have := of_decide_eq_false d2; omega
            have hC : C.length ≤ 60 := by have := of_decide_eq_false d3; omega
            have hv : verdict true kind C.length now mem last = 0 := by simp [verdict, hm', hk1, hk2, hC]
            have hvo := verdict_ok hv
            have HV := Lib.hid hv; clear hv
            clear hm' HD1
            have hsum : IntKind.i64.wrap (now + mem) = now + mem := IntWalk.i64_in _ (by omega)
            have hsum2 : IntKind.i64.wrap (now + last) = now + last := IntWalk.i64_in _ (by omega)
            have WFM := Lib.hid (show (Lit.int .i64 (now + mem)).wf = true from WalkArith.wf_i64 (n := now + mem) (by omega))
            have WFL := Lib.hid (show (Lit.int .i64 (now + last)).wf = true from WalkArith.wf_i64 (n := now + last) (by omega))
            have HL0 := Lib.hid (show 0 < now + last from by omega)
            have HCS := Lib.hid (Nat.le_trans (sasc_length C) hC)
            clear hvo
            clear TL
            obtain ⟨x1, f1⟩ := Xs.out.at_ 0 (.bool ex) rfl
            obtain ⟨x2, f2⟩ := Xs.out.at_ 1 (.int .i64 at') rfl
            obtain ⟨x3, f3⟩ := Xs.out.at_ 2 (.slice vo L.length vc) rfl
            have x4 := (Xc.out.at_ 0 (.int .i64 kind) rfl).1
            have x5 := (Xc.out.at_ 1 (.string g) rfl).1
            have x6 := (Xc.out.at_ 2 (.slice ro C.length rc) rfl).1
            go_wp2_with ((with_reducible refine (HM.out _).mono ?_); rintro e w2 ⟨rfl, hw2⟩; subst w2)
            clear x1 f1 x2 f2 x3 f3 x4 x5 x6
            clear HM
            obtain ⟨V1, hV1⟩ : ∃ V1, V1 = (((W0.setCell ⟨w.heap.size, 0, none⟩ (.bool false)).setCell ⟨w.heap.size, 1, none⟩ (.int .i64 0)).setCell ⟨w.heap.size, 2, none⟩ (.slice none 0 0)) := ⟨_, rfl⟩
            rw [← hV1]
            have nSCs := SC.out.ne_box Xs.out (ns3 _ _ _ _ _)
            replace SC := Lib.hid (show Strs V1 _ _ from by rw [hV1]; exact (((SC.out.apart' (p := ⟨w.heap.size, 0, none⟩) nSCs (.bool false)).apart' (p := ⟨w.heap.size, 1, none⟩) nSCs (.int .i64 0)).apart' (p := ⟨w.heap.size, 2, none⟩) nSCs (.slice none 0 0)))
            clear nSCs
            have HBn := Lib.hid (show Below w.heap.size w V1 from by rw [hV1]; exact (((HB.out.setCell (p := ⟨w.heap.size, 0, none⟩) (Nat.le_refl _) (.bool false)).setCell (p := ⟨w.heap.size, 1, none⟩) (Nat.le_refl _) (.int .i64 0)).setCell (p := ⟨w.heap.size, 2, none⟩) (Nat.le_refl _) (.slice none 0 0)))
            have Xns := Lib.hid (show CBox V1 (w.heap.size) 24 #[.bool false, .int .i64 0, .slice none 0 0] from by rw [hV1]; simpa using (((Xs.out.set 0 (.bool false)).set 1 (.int .i64 0)).set 2 (.slice none 0 0)))
            have Xnc := Lib.hid (show CBox V1 (w.heap.size + 1) 37 #[.int .i64 kind, .string g, .slice ro C.length rc] from by rw [hV1]; simpa using (((Xc.out.far (p := ⟨w.heap.size, 0, none⟩) (bn_own _).1 (.bool false)).far (p := ⟨w.heap.size, 1, none⟩) (bn_own _).1 (.int .i64 0)).far (p := ⟨w.heap.size, 2, none⟩) (bn_own _).1 (.slice none 0 0)))
            have Xno := Lib.hid (show CBox V1 (w.heap.size + 1 + 1) 24 #[.bool false, .int .i64 0, .slice none 0 0] from by rw [hV1]; simpa using (((Xo.out.far (p := ⟨w.heap.size, 0, none⟩) (bn_own _).2.1 (.bool false)).far (p := ⟨w.heap.size, 1, none⟩) (bn_own _).2.1 (.int .i64 0)).far (p := ⟨w.heap.size, 2, none⟩) (bn_own _).2.1 (.slice none 0 0)))
            have Xnk := Lib.hid (show CBox V1 (w.heap.size + 1 + 1 + 1) 47 #[.bool false, .slice none 0 0] from by rw [hV1]; simpa using (((Xk.out.far (p := ⟨w.heap.size, 0, none⟩) (bn_own _).2.2 (.bool false)).far (p := ⟨w.heap.size, 1, none⟩) (bn_own _).2.2 (.int .i64 0)).far (p := ⟨w.heap.size, 2, none⟩) (bn_own _).2.2 (.slice none 0 0)))
            replace Xs := Xns; clear Xns
            replace Xc := Xnc; clear Xnc
            replace Xo := Xno; clear Xno
            replace Xk := Xnk; clear Xnk
            replace HB := HBn; clear HBn
            clear hV1
            have TL := Lib.hid (Tms.nil V1)
            have RR := Lib.hid (show ∀ e w', RetRapp w false 0 [] kind (sasc C) C.length now mem last e w' → RetRapp w (false && ex) (if false = true then at' else 0) (if false = true then L else []) kind (sasc C) C.length now mem last e w' from fun e w' h => by simpa using h)
            have HPK := Lib.hid (pcheck_iff.1 HVP.out).1
            have HAS := Lib.hid (pcheck_asc HVP.out)
            have HGD := Lib.hid (pcheck_good HVP.out)
            have HVV := Lib.hid (show verdict (pcheck false (0) []) kind C.length now mem last = 0 from by rw [HVP.out]; exact HV.out)
            have x7 := (Xc.out.at_ 0 (.int .i64 kind) rfl).1
            have x8 := (Xc.out.at_ 1 (.string g) rfl).1
            have x9 := (Xc.out.at_ 2 (.slice ro C.length rc) rfl).1
            have HC := Lib.hid (srising_any _ C _ SC.out)
            go_wp2_with fail
            refine HC.out.mono ?_
            clear HC
            clear x7 x8 x9
            rintro e w1 ⟨o, rfl, hs, hb, _⟩
            obtain ⟨so, sc, rfl⟩ := hs.shape
            have SS := Lib.hid hs
            clear hs
            replace Xs := Lib.hid (Xs.out.below hb Xs.out.lt)
            replace Xc := Lib.hid (Xc.out.below hb Xc.out.lt)
            replace Xo := Lib.hid (Xo.out.below hb Xo.out.lt)
            replace Xk := Lib.hid (Xk.out.below hb Xk.out.lt)
            replace TL := Lib.hid (TL.out.mono hb)
            replace SC := Lib.hid (SC.out.mono hb)
            replace HB := Lib.hid (HB.out.trans (hb.mono HB.out.size))
            clear hb
            have x10 := (Xs.out.at_ 0 (.bool false) rfl).1
            have x11 := (Xs.out.at_ 1 (.int .i64 0) rfl).1
            have x12 := (Xs.out.at_ 2 (.slice none 0 0) rfl).1
            have x13 := (Xc.out.at_ 0 (.int .i64 kind) rfl).1
            have x14 := (Xc.out.at_ 1 (.string g) rfl).1
            have x15 := (Xc.out.at_ 2 (.slice ro C.length rc) rfl).1
            have HC := Lib.hid (rsome_in _ [] kind _ (sasc C) (now + mem) _ hk1 hk2 TL.out HAS.out HGD.out SS.out HPK.out HCS.out WFM.out)
            go_wp2_with fail
            refine HC.out.mono ?_
            clear HC
            clear x10 x11 x12 x13 x14 x15
            rintro e w2 ⟨v3, L3, u3, R3, rfl, hT3, hA3, hU3, hR3, hl3, hb⟩
            obtain ⟨v3o, v3c, rfl⟩ := hT3.shape
            obtain ⟨u3o, u3c, rfl⟩ := hU3.shape
            have T3 := Lib.hid hT3; have S3 := Lib.hid hU3; have A3 := Lib.hid hA3; have R3' := Lib.hid hR3; have L3' := Lib.hid hl3
            clear hT3 hU3 hA3 hR3 hl3
            obtain ⟨e3, he3⟩ : ∃ e3, inEx kind false = e3 := ⟨_, rfl⟩
            obtain ⟨a3, ha3⟩ : ∃ a3, inAt kind 0 (now + mem) = a3 := ⟨_, rfl⟩
            obtain ⟨g3, hg3⟩ : ∃ g3, inG kind false = g3 := ⟨_, rfl⟩
            rw [he3, ha3, hg3]
            have HE3 := Lib.hid he3; have HA3 := Lib.hid ha3; have HG3 := Lib.hid hg3
            clear he3 ha3 hg3
            replace Xs := Lib.hid (Xs.out.below hb Xs.out.lt)
            replace Xc := Lib.hid (Xc.out.below hb Xc.out.lt)
            replace Xo := Lib.hid (Xo.out.below hb Xo.out.lt)
            replace Xk := Lib.hid (Xk.out.below hb Xk.out.lt)
            replace TL := Lib.hid (TL.out.mono hb)
            replace SC := Lib.hid (SC.out.mono hb)
            replace SS := Lib.hid (SS.out.mono hb)
            replace HB := Lib.hid (HB.out.trans (hb.mono HB.out.size))
            clear hb
            have HQB := Lib.hid (bn_far (a := w.heap.size) (b := w2.heap.size) Xk.out.lt)
            have hba : Below w2.heap.size w2 ((w2.alloc (.cells #[.bool e3, .int .i64 a3, .slice v3o L3.length v3c] 24)).alloc (.cells #[.bool g3, .slice u3o R3.length u3c] 47)) := (((Below.refl _ _).alloc (Nat.le_refl _) _).alloc (by simp <;> omega) _)
            replace Xs := Lib.hid (Xs.out.below hba Xs.out.lt)
            replace Xc := Lib.hid (Xc.out.below hba Xc.out.lt)
            replace Xo := Lib.hid (Xo.out.below hba Xo.out.lt)
            replace Xk := Lib.hid (Xk.out.below hba Xk.out.lt)
            replace TL := Lib.hid (TL.out.mono hba)
            replace T3 := Lib.hid (T3.out.mono hba)
            replace SC := Lib.hid (SC.out.mono hba)
            replace SS := Lib.hid (SS.out.mono hba)
            replace S3 := Lib.hid (S3.out.mono hba)
            replace HB := Lib.hid (HB.out.trans (hba.mono HB.out.size))
            have Xq := Lib.hid (show CBox ((w2.alloc (.cells #[.bool e3, .int .i64 a3, .slice v3o L3.length v3c] 24)).alloc (.cells #[.bool g3, .slice u3o R3.length u3c] 47)) (w2.heap.size) 24 #[.bool e3, .int .i64 a3, .slice v3o L3.length v3c] from ((CBox.new _ (by simp)).old _))
            have Xr := Lib.hid (show CBox ((w2.alloc (.cells #[.bool e3, .int .i64 a3, .slice v3o L3.length v3c] 24)).alloc (.cells #[.bool g3, .slice u3o R3.length u3c] 47)) (w2.heap.size + 1) 47 #[.bool g3, .slice u3o R3.length u3c] from (CBox.new _ (by simp)))
            clear hba
            clear hsum
            cases d4 : decide ((60 : Int) < (L3.length : Int))
            · have hL3 : L3.length ≤ 60 := by have := of_decide_eq_false d4; omega
              have x16 := (Xs.out.at_ 0 (.bool false) rfl).1
              have x17 := (Xs.out.at_ 1 (.int .i64 0) rfl).1
              have x18 := (Xs.out.at_ 2 (.slice none 0 0) rfl).1
              have x19 := (Xq.out.at_ 0 (.bool e3) rfl).1
              have x20 := (Xq.out.at_ 1 (.int .i64 a3) rfl).1
              have x21 := (Xq.out.at_ 2 (.slice v3o L3.length v3c) rfl).1
              have x22 := (Xr.out.at_ 0 (.bool g3) rfl).1
              have x23 := (Xr.out.at_ 1 (.slice u3o R3.length u3c) rfl).1
              have HC := Lib.hid (asked_any e3 a3 _ L3 _ g3 _ R3 (now + last) _ T3.out A3.out S3.out (by have := L3'.out; omega) WFL.out HL0.out)
              go_wp2_with fail
              refine HC.out.mono ?_
              clear HC
              clear x16 x17 x18 x19 x20 x21 x22 x23
              rintro e w3 ⟨v5, L5, rfl, hT5, hA5, hb⟩
              obtain ⟨v5o, v5c, rfl⟩ := hT5.shape
              have T5 := Lib.hid hT5; have A5 := Lib.hid hA5; clear hT5 hA5
              obtain ⟨a5, ha5⟩ : ∃ a5, (if g3 = true then min a3 (now + last) else a3) = a5 := ⟨_, rfl⟩
              rw [ha5]
              have HA5 := Lib.hid ha5; clear ha5
              replace Xs := Lib.hid (Xs.out.below hb Xs.out.lt)
              replace Xc := Lib.hid (Xc.out.below hb Xc.out.lt)
              replace Xo := Lib.hid (Xo.out.below hb Xo.out.lt)
              replace Xk := Lib.hid (Xk.out.below hb Xk.out.lt)
              replace Xq := Lib.hid (Xq.out.below hb Xq.out.lt)
              replace Xr := Lib.hid (Xr.out.below hb Xr.out.lt)
              replace TL := Lib.hid (TL.out.mono hb)
              replace T3 := Lib.hid (T3.out.mono hb)
              replace SC := Lib.hid (SC.out.mono hb)
              replace SS := Lib.hid (SS.out.mono hb)
              replace S3 := Lib.hid (S3.out.mono hb)
              replace HB := Lib.hid (HB.out.trans (hb.mono HB.out.size))
              clear hb
              cases e3
              · have d5 := Lib.hid (soon_nil A3.out A5.out)
                cases hn : ((L5.length : Int) == 0)
                · have HNE := Lib.hid (show ¬ (inEx kind false = false ∧ L3 = []) from fun h => by have h5 := d5.out.1 h.2; rw [h5] at hn; simp at hn)
                  clear d5
                  obtain ⟨x24, f24⟩ := Xq.out.at_ 0 (.bool false) rfl
                  obtain ⟨x25, f25⟩ := Xq.out.at_ 1 (.int .i64 a3) rfl
                  obtain ⟨x26, f26⟩ := Xq.out.at_ 2 (.slice v3o L3.length v3c) rfl
                  have x27 := (Xr.out.at_ 0 (.bool g3) rfl).1
                  have x28 := (Xr.out.at_ 1 (.slice u3o R3.length u3c) rfl).1
                  go_wp2_with fail
                  clear x24 f24 x25 f25 x26 f26 x27 x28
                  obtain ⟨V2, hV2⟩ : ∃ V2, V2 = (((w3.setCell ⟨w2.heap.size, 0, none⟩ (.bool false)).setCell ⟨w2.heap.size, 1, none⟩ (.int .i64 a5)).setCell ⟨w2.heap.size, 2, none⟩ (.slice v5o L5.length v5c)) := ⟨_, rfl⟩
                  rw [← hV2]
                  have nTLq := TL.out.ne_box Xq.out (ns3 _ _ _ _ _)
                  have nT3q := T3.out.ne_box Xq.out (ns3 _ _ _ _ _)
                  have nT5q := T5.out.ne_box Xq.out (ns3 _ _ _ _ _)
                  have nSCq := SC.out.ne_box Xq.out (ns3 _ _ _ _ _)
                  have nSSq := SS.out.ne_box Xq.out (ns3 _ _ _ _ _)
                  have nS3q := S3.out.ne_box Xq.out (ns3 _ _ _ _ _)
                  replace TL := Lib.hid (show Tms V2 _ _ from by rw [hV2]; exact (((TL.out.apart (p := ⟨w2.heap.size, 0, none⟩) nTLq (.bool false)).apart (p := ⟨w2.heap.size, 1, none⟩) nTLq (.int .i64 a5)).apart (p := ⟨w2.heap.size, 2, none⟩) nTLq (.slice v5o L5.length v5c)))
                  clear nTLq
                  replace T3 := Lib.hid (show Tms V2 _ _ from by rw [hV2]; exact (((T3.out.apart (p := ⟨w2.heap.size, 0, none⟩) nT3q (.bool false)).apart (p := ⟨w2.heap.size, 1, none⟩) nT3q (.int .i64 a5)).apart (p := ⟨w2.heap.size, 2, none⟩) nT3q (.slice v5o L5.length v5c)))
                  clear nT3q
                  replace T5 := Lib.hid (show Tms V2 _ _ from by rw [hV2]; exact (((T5.out.apart (p := ⟨w2.heap.size, 0, none⟩) nT5q (.bool false)).apart (p := ⟨w2.heap.size, 1, none⟩) nT5q (.int .i64 a5)).apart (p := ⟨w2.heap.size, 2, none⟩) nT5q (.slice v5o L5.length v5c)))
                  clear nT5q
                  replace SC := Lib.hid (show Strs V2 _ _ from by rw [hV2]; exact (((SC.out.apart' (p := ⟨w2.heap.size, 0, none⟩) nSCq (.bool false)).apart' (p := ⟨w2.heap.size, 1, none⟩) nSCq (.int .i64 a5)).apart' (p := ⟨w2.heap.size, 2, none⟩) nSCq (.slice v5o L5.length v5c)))
                  clear nSCq
                  replace SS := Lib.hid (show Strs V2 _ _ from by rw [hV2]; exact (((SS.out.apart' (p := ⟨w2.heap.size, 0, none⟩) nSSq (.bool false)).apart' (p := ⟨w2.heap.size, 1, none⟩) nSSq (.int .i64 a5)).apart' (p := ⟨w2.heap.size, 2, none⟩) nSSq (.slice v5o L5.length v5c)))
                  clear nSSq
                  replace S3 := Lib.hid (show Strs V2 _ _ from by rw [hV2]; exact (((S3.out.apart' (p := ⟨w2.heap.size, 0, none⟩) nS3q (.bool false)).apart' (p := ⟨w2.heap.size, 1, none⟩) nS3q (.int .i64 a5)).apart' (p := ⟨w2.heap.size, 2, none⟩) nS3q (.slice v5o L5.length v5c)))
                  clear nS3q
                  have HBn := Lib.hid (show Below w.heap.size w V2 from by rw [hV2]; exact (((HB.out.setCell (p := ⟨w2.heap.size, 0, none⟩) HQB.out.2.2.2.1 (.bool false)).setCell (p := ⟨w2.heap.size, 1, none⟩) HQB.out.2.2.2.1 (.int .i64 a5)).setCell (p := ⟨w2.heap.size, 2, none⟩) HQB.out.2.2.2.1 (.slice v5o L5.length v5c)))
                  have Xns := Lib.hid (show CBox V2 (w.heap.size) 24 #[.bool false, .int .i64 0, .slice none 0 0] from by rw [hV2]; simpa using (((Xs.out.far (p := ⟨w2.heap.size, 0, none⟩) HQB.out.1.1 (.bool false)).far (p := ⟨w2.heap.size, 1, none⟩) HQB.out.1.1 (.int .i64 a5)).far (p := ⟨w2.heap.size, 2, none⟩) HQB.out.1.1 (.slice v5o L5.length v5c)))
                  have Xnc := Lib.hid (show CBox V2 (w.heap.size + 1) 37 #[.int .i64 kind, .string g, .slice ro C.length rc] from by rw [hV2]; simpa using (((Xc.out.far (p := ⟨w2.heap.size, 0, none⟩) HQB.out.1.2.1 (.bool false)).far (p := ⟨w2.heap.size, 1, none⟩) HQB.out.1.2.1 (.int .i64 a5)).far (p := ⟨w2.heap.size, 2, none⟩) HQB.out.1.2.1 (.slice v5o L5.length v5c)))
                  have Xno := Lib.hid (show CBox V2 (w.heap.size + 1 + 1) 24 #[.bool false, .int .i64 0, .slice none 0 0] from by rw [hV2]; simpa using (((Xo.out.far (p := ⟨w2.heap.size, 0, none⟩) HQB.out.1.2.2.1 (.bool false)).far (p := ⟨w2.heap.size, 1, none⟩) HQB.out.1.2.2.1 (.int .i64 a5)).far (p := ⟨w2.heap.size, 2, none⟩) HQB.out.1.2.2.1 (.slice v5o L5.length v5c)))
                  have Xnk := Lib.hid (show CBox V2 (w.heap.size + 1 + 1 + 1) 47 #[.bool false, .slice none 0 0] from by rw [hV2]; simpa using (((Xk.out.far (p := ⟨w2.heap.size, 0, none⟩) HQB.out.1.2.2.2 (.bool false)).far (p := ⟨w2.heap.size, 1, none⟩) HQB.out.1.2.2.2 (.int .i64 a5)).far (p := ⟨w2.heap.size, 2, none⟩) HQB.out.1.2.2.2 (.slice v5o L5.length v5c)))
                  have Xnq := Lib.hid (show CBox V2 (w2.heap.size) 24 #[.bool false, .int .i64 a5, .slice v5o L5.length v5c] from by rw [hV2]; simpa using (((Xq.out.set 0 (.bool false)).set 1 (.int .i64 a5)).set 2 (.slice v5o L5.length v5c)))
                  have Xnr := Lib.hid (show CBox V2 (w2.heap.size + 1) 47 #[.bool g3, .slice u3o R3.length u3c] from by rw [hV2]; simpa using (((Xr.out.far (p := ⟨w2.heap.size, 0, none⟩) HQB.out.2.2.1.1 (.bool false)).far (p := ⟨w2.heap.size, 1, none⟩) HQB.out.2.2.1.1 (.int .i64 a5)).far (p := ⟨w2.heap.size, 2, none⟩) HQB.out.2.2.1.1 (.slice v5o L5.length v5c)))
                  replace Xs := Xns; clear Xns
                  replace Xc := Xnc; clear Xnc
                  replace Xo := Xno; clear Xno
                  replace Xk := Xnk; clear Xnk
                  replace Xq := Xnq; clear Xnq
                  replace Xr := Xnr; clear Xnr
                  replace HB := HBn; clear HBn
                  clear hV2
                  have x29 := (Xq.out.at_ 0 (.bool false) rfl).1
                  have x30 := (Xq.out.at_ 1 (.int .i64 a5) rfl).1
                  have x31 := (Xq.out.at_ 2 (.slice v5o L5.length v5c) rfl).1
                  have x32 := (Xr.out.at_ 0 (.bool g3) rfl).1
                  have x33 := (Xr.out.at_ 1 (.slice u3o R3.length u3c) rfl).1
                  obtain ⟨x34, f34⟩ := Xo.out.at_ 0 (.bool false) rfl
                  obtain ⟨x35, f35⟩ := Xo.out.at_ 1 (.int .i64 0) rfl
                  obtain ⟨x36, f36⟩ := Xo.out.at_ 2 (.slice none 0 0) rfl
                  obtain ⟨x37, f37⟩ := Xk.out.at_ 0 (.bool false) rfl
                  obtain ⟨x38, f38⟩ := Xk.out.at_ 1 (.slice none 0 0) rfl
                  have nTo := T5.out.ne_box Xo.out (ns3 _ _ _ _ _); have nTk := T5.out.ne_box Xk.out (ns2 _ _ _ _); have nSo := S3.out.ne_box Xo.out (ns3 _ _ _ _ _); have nSk := S3.out.ne_box Xk.out (ns2 _ _ _ _)
                  have NT := Lib.hid (fun hL b hb => And.intro (nTo hL b hb) (nTk hL b hb)); have NS := Lib.hid (fun hL b hb => And.intro (nSo hL b hb) (nSk hL b hb)); clear nTo nTk nSo nSk
                  obtain ⟨_, N1, N2, N3⟩ := HQB.out.1
                  have M1 := N1.symm; have M2 := N2.symm; have M3 := N3.symm
                  go_wp2_with fail
                  go_region
                  all_goals
                    go_wp2_with fail
                    obtain ⟨r0, r1, r2, r3, r4⟩ := boxes_end5 Xo.out Xk.out (.bool false) (.int .i64 a5) (.slice v5o L5.length v5c) (.bool g3) (.slice u3o R3.length u3c)
                    have hT := T5.out.end5' (lo := w.heap.size + 1 + 1) NT.out (.bool false) (.int .i64 a5) (.slice v5o L5.length v5c) (.bool g3) (.slice u3o R3.length u3c)
                    have hU := S3.out.end5' (lo := w.heap.size + 1 + 1) NS.out (.bool false) (.int .i64 a5) (.slice v5o L5.length v5c) (.bool g3) (.slice u3o R3.length u3c)
                    have hBB := below_end5' HB.out (lo := w.heap.size + 1 + 1) (Nat.le_add_right_of_le (Nat.le_add_right _ _)) (.bool false) (.int .i64 a5) (.slice v5o L5.length v5c) (.bool g3) (.slice u3o R3.length u3c)
                    refine bodyPost_ret (v := .tuple #[.agg #[.bool false, .int .i64 a5, .slice v5o L5.length v5c], .bool true, .agg #[.bool g3, .slice u3o R3.length u3c], .int .i64 0]) (by simp [results, Try.results21, go_sem, r0, r1, r2, r3, r4]) rfl (RR.out _ _ ⟨?_, .inr ⟨HVV.out, L3, A3.out, .inr (.inr ⟨hL3, HNE.out, _, L5, _, R3, by rw [HE3.out, HG3.out, HA3.out, HA5.out], ?_, ?_, R3'.out, A5.out⟩)⟩⟩)
                    · first | with_reducible exact hBB | with_reducible exact hBB.drew
                    · first | with_reducible exact hT | with_reducible exact hT.drew
                    · first | with_reducible exact hU | with_reducible exact hU.drew
                · have HNN := Lib.hid (show inEx kind false = false ∧ L3 = [] from ⟨HE3.out, d5.out.2 (by simpa using hn)⟩)
                  clear d5
                  obtain ⟨x24, f24⟩ := Xq.out.at_ 0 (.bool false) rfl
                  obtain ⟨x25, f25⟩ := Xq.out.at_ 1 (.int .i64 a3) rfl
                  obtain ⟨x26, f26⟩ := Xq.out.at_ 2 (.slice v3o L3.length v3c) rfl
                  have x27 := (Xr.out.at_ 0 (.bool g3) rfl).1
                  have x28 := (Xr.out.at_ 1 (.slice u3o R3.length u3c) rfl).1
                  go_upto_region 15 with fail
                  clear x24 f24 x25 f25 x26 f26 x27 x28
                  obtain ⟨V2, hV2⟩ : ∃ V2, V2 = (((w3.setCell ⟨w2.heap.size, 0, none⟩ (.bool false)).setCell ⟨w2.heap.size, 1, none⟩ (.int .i64 a5)).setCell ⟨w2.heap.size, 2, none⟩ (.slice v5o L5.length v5c)) := ⟨_, rfl⟩
                  rw [← hV2]
                  have nTLq := TL.out.ne_box Xq.out (ns3 _ _ _ _ _)
                  have nT3q := T3.out.ne_box Xq.out (ns3 _ _ _ _ _)
                  have nT5q := T5.out.ne_box Xq.out (ns3 _ _ _ _ _)
                  have nSCq := SC.out.ne_box Xq.out (ns3 _ _ _ _ _)
                  have nSSq := SS.out.ne_box Xq.out (ns3 _ _ _ _ _)
                  have nS3q := S3.out.ne_box Xq.out (ns3 _ _ _ _ _)
                  replace TL := Lib.hid (show Tms V2 _ _ from by rw [hV2]; exact (((TL.out.apart (p := ⟨w2.heap.size, 0, none⟩) nTLq (.bool false)).apart (p := ⟨w2.heap.size, 1, none⟩) nTLq (.int .i64 a5)).apart (p := ⟨w2.heap.size, 2, none⟩) nTLq (.slice v5o L5.length v5c)))
                  clear nTLq
                  replace T3 := Lib.hid (show Tms V2 _ _ from by rw [hV2]; exact (((T3.out.apart (p := ⟨w2.heap.size, 0, none⟩) nT3q (.bool false)).apart (p := ⟨w2.heap.size, 1, none⟩) nT3q (.int .i64 a5)).apart (p := ⟨w2.heap.size, 2, none⟩) nT3q (.slice v5o L5.length v5c)))
                  clear nT3q
                  replace T5 := Lib.hid (show Tms V2 _ _ from by rw [hV2]; exact (((T5.out.apart (p := ⟨w2.heap.size, 0, none⟩) nT5q (.bool false)).apart (p := ⟨w2.heap.size, 1, none⟩) nT5q (.int .i64 a5)).apart (p := ⟨w2.heap.size, 2, none⟩) nT5q (.slice v5o L5.length v5c)))
                  clear nT5q
                  replace SC := Lib.hid (show Strs V2 _ _ from by rw [hV2]; exact (((SC.out.apart' (p := ⟨w2.heap.size, 0, none⟩) nSCq (.bool false)).apart' (p := ⟨w2.heap.size, 1, none⟩) nSCq (.int .i64 a5)).apart' (p := ⟨w2.heap.size, 2, none⟩) nSCq (.slice v5o L5.length v5c)))
                  clear nSCq
                  replace SS := Lib.hid (show Strs V2 _ _ from by rw [hV2]; exact (((SS.out.apart' (p := ⟨w2.heap.size, 0, none⟩) nSSq (.bool false)).apart' (p := ⟨w2.heap.size, 1, none⟩) nSSq (.int .i64 a5)).apart' (p := ⟨w2.heap.size, 2, none⟩) nSSq (.slice v5o L5.length v5c)))
                  clear nSSq
                  replace S3 := Lib.hid (show Strs V2 _ _ from by rw [hV2]; exact (((S3.out.apart' (p := ⟨w2.heap.size, 0, none⟩) nS3q (.bool false)).apart' (p := ⟨w2.heap.size, 1, none⟩) nS3q (.int .i64 a5)).apart' (p := ⟨w2.heap.size, 2, none⟩) nS3q (.slice v5o L5.length v5c)))
                  clear nS3q
                  have HBn := Lib.hid (show Below w.heap.size w V2 from by rw [hV2]; exact (((HB.out.setCell (p := ⟨w2.heap.size, 0, none⟩) HQB.out.2.2.2.1 (.bool false)).setCell (p := ⟨w2.heap.size, 1, none⟩) HQB.out.2.2.2.1 (.int .i64 a5)).setCell (p := ⟨w2.heap.size, 2, none⟩) HQB.out.2.2.2.1 (.slice v5o L5.length v5c)))
                  have Xns := Lib.hid (show CBox V2 (w.heap.size) 24 #[.bool false, .int .i64 0, .slice none 0 0] from by rw [hV2]; simpa using (((Xs.out.far (p := ⟨w2.heap.size, 0, none⟩) HQB.out.1.1 (.bool false)).far (p := ⟨w2.heap.size, 1, none⟩) HQB.out.1.1 (.int .i64 a5)).far (p := ⟨w2.heap.size, 2, none⟩) HQB.out.1.1 (.slice v5o L5.length v5c)))
                  have Xnc := Lib.hid (show CBox V2 (w.heap.size + 1) 37 #[.int .i64 kind, .string g, .slice ro C.length rc] from by rw [hV2]; simpa using (((Xc.out.far (p := ⟨w2.heap.size, 0, none⟩) HQB.out.1.2.1 (.bool false)).far (p := ⟨w2.heap.size, 1, none⟩) HQB.out.1.2.1 (.int .i64 a5)).far (p := ⟨w2.heap.size, 2, none⟩) HQB.out.1.2.1 (.slice v5o L5.length v5c)))
                  have Xno := Lib.hid (show CBox V2 (w.heap.size + 1 + 1) 24 #[.bool false, .int .i64 0, .slice none 0 0] from by rw [hV2]; simpa using (((Xo.out.far (p := ⟨w2.heap.size, 0, none⟩) HQB.out.1.2.2.1 (.bool false)).far (p := ⟨w2.heap.size, 1, none⟩) HQB.out.1.2.2.1 (.int .i64 a5)).far (p := ⟨w2.heap.size, 2, none⟩) HQB.out.1.2.2.1 (.slice v5o L5.length v5c)))
                  have Xnk := Lib.hid (show CBox V2 (w.heap.size + 1 + 1 + 1) 47 #[.bool false, .slice none 0 0] from by rw [hV2]; simpa using (((Xk.out.far (p := ⟨w2.heap.size, 0, none⟩) HQB.out.1.2.2.2 (.bool false)).far (p := ⟨w2.heap.size, 1, none⟩) HQB.out.1.2.2.2 (.int .i64 a5)).far (p := ⟨w2.heap.size, 2, none⟩) HQB.out.1.2.2.2 (.slice v5o L5.length v5c)))
                  have Xnq := Lib.hid (show CBox V2 (w2.heap.size) 24 #[.bool false, .int .i64 a5, .slice v5o L5.length v5c] from by rw [hV2]; simpa using (((Xq.out.set 0 (.bool false)).set 1 (.int .i64 a5)).set 2 (.slice v5o L5.length v5c)))
                  have Xnr := Lib.hid (show CBox V2 (w2.heap.size + 1) 47 #[.bool g3, .slice u3o R3.length u3c] from by rw [hV2]; simpa using (((Xr.out.far (p := ⟨w2.heap.size, 0, none⟩) HQB.out.2.2.1.1 (.bool false)).far (p := ⟨w2.heap.size, 1, none⟩) HQB.out.2.2.1.1 (.int .i64 a5)).far (p := ⟨w2.heap.size, 2, none⟩) HQB.out.2.2.1.1 (.slice v5o L5.length v5c)))
                  replace Xs := Xns; clear Xns
                  replace Xc := Xnc; clear Xnc
                  replace Xo := Xno; clear Xno
                  replace Xk := Xnk; clear Xnk
                  replace Xq := Xnq; clear Xnq
                  replace Xr := Xnr; clear Xnr
                  replace HB := HBn; clear HBn
                  clear hV2
                  obtain ⟨x29, f29⟩ := Xo.out.at_ 0 (.bool false) rfl
                  obtain ⟨x30, f30⟩ := Xo.out.at_ 1 (.int .i64 0) rfl
                  obtain ⟨x31, f31⟩ := Xo.out.at_ 2 (.slice none 0 0) rfl
                  obtain ⟨x32, f32⟩ := Xk.out.at_ 0 (.bool false) rfl
                  obtain ⟨x33, f33⟩ := Xk.out.at_ 1 (.slice none 0 0) rfl
                  go_wp2
                  obtain ⟨r0, r1, r2, r3, r4⟩ := boxes_end5 Xo.out Xk.out (.bool false) (.int .i64 0) (.slice none 0 0) (.bool false) (.slice none 0 0)
                  have hBB := below_end5' HB.out (lo := w.heap.size + 1 + 1) (Nat.le_add_right_of_le (Nat.le_add_right _ _)) (.bool false) (.int .i64 0) (.slice none 0 0) (.bool false) (.slice none 0 0)
                  refine bodyPost_ret (v := .tuple #[noState, .bool false, noAsk, .int .i64 0]) (by simp only [results, Try.results21, go_sem, noState, noAsk]; simp [go_sem, r0, r1, r2, r3, r4]) rfl (RR.out _ _ ⟨hBB, .inr ⟨HVV.out, L3, A3.out, .inr (.inl ⟨hL3, HNN.out, rfl⟩)⟩⟩)
              · have HNE := Lib.hid (show ¬ (inEx kind false = false ∧ L3 = []) from fun h => by have := HE3.out; rw [h.1] at this; cases this)
                obtain ⟨x24, f24⟩ := Xq.out.at_ 0 (.bool true) rfl
                obtain ⟨x25, f25⟩ := Xq.out.at_ 1 (.int .i64 a3) rfl
                obtain ⟨x26, f26⟩ := Xq.out.at_ 2 (.slice v3o L3.length v3c) rfl
                have x27 := (Xr.out.at_ 0 (.bool g3) rfl).1
                have x28 := (Xr.out.at_ 1 (.slice u3o R3.length u3c) rfl).1
                go_wp2_with fail
                clear x24 f24 x25 f25 x26 f26 x27 x28
                obtain ⟨V2, hV2⟩ : ∃ V2, V2 = (((w3.setCell ⟨w2.heap.size, 0, none⟩ (.bool true)).setCell ⟨w2.heap.size, 1, none⟩ (.int .i64 a5)).setCell ⟨w2.heap.size, 2, none⟩ (.slice v5o L5.length v5c)) := ⟨_, rfl⟩
                rw [← hV2]
                have nTLq := TL.out.ne_box Xq.out (ns3 _ _ _ _ _)
                have nT3q := T3.out.ne_box Xq.out (ns3 _ _ _ _ _)
                have nT5q := T5.out.ne_box Xq.out (ns3 _ _ _ _ _)
                have nSCq := SC.out.ne_box Xq.out (ns3 _ _ _ _ _)
                have nSSq := SS.out.ne_box Xq.out (ns3 _ _ _ _ _)
                have nS3q := S3.out.ne_box Xq.out (ns3 _ _ _ _ _)
                replace TL := Lib.hid (show Tms V2 _ _ from by rw [hV2]; exact (((TL.out.apart (p := ⟨w2.heap.size, 0, none⟩) nTLq (.bool true)).apart (p := ⟨w2.heap.size, 1, none⟩) nTLq (.int .i64 a5)).apart (p := ⟨w2.heap.size, 2, none⟩) nTLq (.slice v5o L5.length v5c)))
                clear nTLq
                replace T3 := Lib.hid (show Tms V2 _ _ from by rw [hV2]; exact (((T3.out.apart (p := ⟨w2.heap.size, 0, none⟩) nT3q (.bool true)).apart (p := ⟨w2.heap.size, 1, none⟩) nT3q (.int .i64 a5)).apart (p := ⟨w2.heap.size, 2, none⟩) nT3q (.slice v5o L5.length v5c)))
                clear nT3q
                replace T5 := Lib.hid (show Tms V2 _ _ from by rw [hV2]; exact (((T5.out.apart (p := ⟨w2.heap.size, 0, none⟩) nT5q (.bool true)).apart (p := ⟨w2.heap.size, 1, none⟩) nT5q (.int .i64 a5)).apart (p := ⟨w2.heap.size, 2, none⟩) nT5q (.slice v5o L5.length v5c)))
                clear nT5q
                replace SC := Lib.hid (show Strs V2 _ _ from by rw [hV2]; exact (((SC.out.apart' (p := ⟨w2.heap.size, 0, none⟩) nSCq (.bool true)).apart' (p := ⟨w2.heap.size, 1, none⟩) nSCq (.int .i64 a5)).apart' (p := ⟨w2.heap.size, 2, none⟩) nSCq (.slice v5o L5.length v5c)))
                clear nSCq
                replace SS := Lib.hid (show Strs V2 _ _ from by rw [hV2]; exact (((SS.out.apart' (p := ⟨w2.heap.size, 0, none⟩) nSSq (.bool true)).apart' (p := ⟨w2.heap.size, 1, none⟩) nSSq (.int .i64 a5)).apart' (p := ⟨w2.heap.size, 2, none⟩) nSSq (.slice v5o L5.length v5c)))
                clear nSSq
                replace S3 := Lib.hid (show Strs V2 _ _ from by rw [hV2]; exact (((S3.out.apart' (p := ⟨w2.heap.size, 0, none⟩) nS3q (.bool true)).apart' (p := ⟨w2.heap.size, 1, none⟩) nS3q (.int .i64 a5)).apart' (p := ⟨w2.heap.size, 2, none⟩) nS3q (.slice v5o L5.length v5c)))
                clear nS3q
                have HBn := Lib.hid (show Below w.heap.size w V2 from by rw [hV2]; exact (((HB.out.setCell (p := ⟨w2.heap.size, 0, none⟩) HQB.out.2.2.2.1 (.bool true)).setCell (p := ⟨w2.heap.size, 1, none⟩) HQB.out.2.2.2.1 (.int .i64 a5)).setCell (p := ⟨w2.heap.size, 2, none⟩) HQB.out.2.2.2.1 (.slice v5o L5.length v5c)))
                have Xns := Lib.hid (show CBox V2 (w.heap.size) 24 #[.bool false, .int .i64 0, .slice none 0 0] from by rw [hV2]; simpa using (((Xs.out.far (p := ⟨w2.heap.size, 0, none⟩) HQB.out.1.1 (.bool true)).far (p := ⟨w2.heap.size, 1, none⟩) HQB.out.1.1 (.int .i64 a5)).far (p := ⟨w2.heap.size, 2, none⟩) HQB.out.1.1 (.slice v5o L5.length v5c)))
                have Xnc := Lib.hid (show CBox V2 (w.heap.size + 1) 37 #[.int .i64 kind, .string g, .slice ro C.length rc] from by rw [hV2]; simpa using (((Xc.out.far (p := ⟨w2.heap.size, 0, none⟩) HQB.out.1.2.1 (.bool true)).far (p := ⟨w2.heap.size, 1, none⟩) HQB.out.1.2.1 (.int .i64 a5)).far (p := ⟨w2.heap.size, 2, none⟩) HQB.out.1.2.1 (.slice v5o L5.length v5c)))
                have Xno := Lib.hid (show CBox V2 (w.heap.size + 1 + 1) 24 #[.bool false, .int .i64 0, .slice none 0 0] from by rw [hV2]; simpa using (((Xo.out.far (p := ⟨w2.heap.size, 0, none⟩) HQB.out.1.2.2.1 (.bool true)).far (p := ⟨w2.heap.size, 1, none⟩) HQB.out.1.2.2.1 (.int .i64 a5)).far (p := ⟨w2.heap.size, 2, none⟩) HQB.out.1.2.2.1 (.slice v5o L5.length v5c)))
                have Xnk := Lib.hid (show CBox V2 (w.heap.size + 1 + 1 + 1) 47 #[.bool false, .slice none 0 0] from by rw [hV2]; simpa using (((Xk.out.far (p := ⟨w2.heap.size, 0, none⟩) HQB.out.1.2.2.2 (.bool true)).far (p := ⟨w2.heap.size, 1, none⟩) HQB.out.1.2.2.2 (.int .i64 a5)).far (p := ⟨w2.heap.size, 2, none⟩) HQB.out.1.2.2.2 (.slice v5o L5.length v5c)))
                have Xnq := Lib.hid (show CBox V2 (w2.heap.size) 24 #[.bool true, .int .i64 a5, .slice v5o L5.length v5c] from by rw [hV2]; simpa using (((Xq.out.set 0 (.bool true)).set 1 (.int .i64 a5)).set 2 (.slice v5o L5.length v5c)))
                have Xnr := Lib.hid (show CBox V2 (w2.heap.size + 1) 47 #[.bool g3, .slice u3o R3.length u3c] from by rw [hV2]; simpa using (((Xr.out.far (p := ⟨w2.heap.size, 0, none⟩) HQB.out.2.2.1.1 (.bool true)).far (p := ⟨w2.heap.size, 1, none⟩) HQB.out.2.2.1.1 (.int .i64 a5)).far (p := ⟨w2.heap.size, 2, none⟩) HQB.out.2.2.1.1 (.slice v5o L5.length v5c)))
                replace Xs := Xns; clear Xns
                replace Xc := Xnc; clear Xnc
                replace Xo := Xno; clear Xno
                replace Xk := Xnk; clear Xnk
                replace Xq := Xnq; clear Xnq
                replace Xr := Xnr; clear Xnr
                replace HB := HBn; clear HBn
                clear hV2
                have x29 := (Xq.out.at_ 0 (.bool true) rfl).1
                have x30 := (Xq.out.at_ 1 (.int .i64 a5) rfl).1
                have x31 := (Xq.out.at_ 2 (.slice v5o L5.length v5c) rfl).1
                have x32 := (Xr.out.at_ 0 (.bool g3) rfl).1
                have x33 := (Xr.out.at_ 1 (.slice u3o R3.length u3c) rfl).1
                obtain ⟨x34, f34⟩ := Xo.out.at_ 0 (.bool false) rfl
                obtain ⟨x35, f35⟩ := Xo.out.at_ 1 (.int .i64 0) rfl
                obtain ⟨x36, f36⟩ := Xo.out.at_ 2 (.slice none 0 0) rfl
                obtain ⟨x37, f37⟩ := Xk.out.at_ 0 (.bool false) rfl
                obtain ⟨x38, f38⟩ := Xk.out.at_ 1 (.slice none 0 0) rfl
                have nTo := T5.out.ne_box Xo.out (ns3 _ _ _ _ _); have nTk := T5.out.ne_box Xk.out (ns2 _ _ _ _); have nSo := S3.out.ne_box Xo.out (ns3 _ _ _ _ _); have nSk := S3.out.ne_box Xk.out (ns2 _ _ _ _)
                have NT := Lib.hid (fun hL b hb => And.intro (nTo hL b hb) (nTk hL b hb)); have NS := Lib.hid (fun hL b hb => And.intro (nSo hL b hb) (nSk hL b hb)); clear nTo nTk nSo nSk
                obtain ⟨_, N1, N2, N3⟩ := HQB.out.1
                have M1 := N1.symm; have M2 := N2.symm; have M3 := N3.symm
                go_wp2_with fail
                go_region
                all_goals
                  go_wp2_with fail
                  obtain ⟨r0, r1, r2, r3, r4⟩ := boxes_end5 Xo.out Xk.out (.bool true) (.int .i64 a5) (.slice v5o L5.length v5c) (.bool g3) (.slice u3o R3.length u3c)
                  have hT := T5.out.end5' (lo := w.heap.size + 1 + 1) NT.out (.bool true) (.int .i64 a5) (.slice v5o L5.length v5c) (.bool g3) (.slice u3o R3.length u3c)
                  have hU := S3.out.end5' (lo := w.heap.size + 1 + 1) NS.out (.bool true) (.int .i64 a5) (.slice v5o L5.length v5c) (.bool g3) (.slice u3o R3.length u3c)
                  have hBB := below_end5' HB.out (lo := w.heap.size + 1 + 1) (Nat.le_add_right_of_le (Nat.le_add_right _ _)) (.bool true) (.int .i64 a5) (.slice v5o L5.length v5c) (.bool g3) (.slice u3o R3.length u3c)
                  refine bodyPost_ret (v := .tuple #[.agg #[.bool true, .int .i64 a5, .slice v5o L5.length v5c], .bool true, .agg #[.bool g3, .slice u3o R3.length u3c], .int .i64 0]) (by simp [results, Try.results21, go_sem, r0, r1, r2, r3, r4]) rfl (RR.out _ _ ⟨?_, .inr ⟨HVV.out, L3, A3.out, .inr (.inr ⟨hL3, HNE.out, _, L5, _, R3, by rw [HE3.out, HG3.out, HA3.out, HA5.out], ?_, ?_, R3'.out, A5.out⟩)⟩⟩)
                  · first | with_reducible exact hBB | with_reducible exact hBB.drew
                  · first | with_reducible exact hT | with_reducible exact hT.drew
                  · first | with_reducible exact hU | with_reducible exact hU.drew
            · have hL3 : 60 < L3.length := by have := of_decide_eq_true d4; omega
              have x16 := (Xs.out.at_ 0 (.bool false) rfl).1
              have x17 := (Xs.out.at_ 1 (.int .i64 0) rfl).1
              have x18 := (Xs.out.at_ 2 (.slice none 0 0) rfl).1
              have x19 := (Xq.out.at_ 0 (.bool e3) rfl).1
              have x20 := (Xq.out.at_ 1 (.int .i64 a3) rfl).1
              have x21 := (Xq.out.at_ 2 (.slice v3o L3.length v3c) rfl).1
              have x22 := (Xr.out.at_ 0 (.bool g3) rfl).1
              have x23 := (Xr.out.at_ 1 (.slice u3o R3.length u3c) rfl).1
              obtain ⟨x24, f24⟩ := Xo.out.at_ 0 (.bool false) rfl
              obtain ⟨x25, f25⟩ := Xo.out.at_ 1 (.int .i64 0) rfl
              obtain ⟨x26, f26⟩ := Xo.out.at_ 2 (.slice none 0 0) rfl
              obtain ⟨x27, f27⟩ := Xk.out.at_ 0 (.bool false) rfl
              obtain ⟨x28, f28⟩ := Xk.out.at_ 1 (.slice none 0 0) rfl
              go_wp2
              obtain ⟨r0, r1, r2, r3, r4⟩ := boxes_end5 Xo.out Xk.out (.bool false) (.int .i64 0) (.slice none 0 0) (.bool false) (.slice none 0 0)
              have hBB := below_end5' HB.out (lo := w.heap.size + 1 + 1) (Nat.le_add_right_of_le (Nat.le_add_right _ _)) (.bool false) (.int .i64 0) (.slice none 0 0) (.bool false) (.slice none 0 0)
              refine bodyPost_ret (v := .tuple #[noState, .bool false, noAsk, .int .i64 1]) (by simp only [results, Try.results21, go_sem, noState, noAsk]; simp [go_sem, r0, r1, r2, r3, r4]) rfl (RR.out _ _ ⟨hBB, .inr ⟨HVV.out, L3, A3.out, .inl ⟨hL3, rfl⟩⟩⟩)
          · have hv : verdict true kind C.length now mem last = 1 := by have := of_decide_eq_true d3; simp [verdict, hm']; omega
            clear HD1 hm'
            have x1 := (Xc.out.at_ 0 (.int .i64 kind) rfl).1
            have x2 := (Xc.out.at_ 1 (.string g) rfl).1
            have x3 := (Xc.out.at_ 2 (.slice ro C.length rc) rfl).1
            have HV := Lib.hid hv; clear hv
            obtain ⟨x4, f4⟩ := Xo.out.at_ 0 (.bool false) rfl
            obtain ⟨x5, f5⟩ := Xo.out.at_ 1 (.int .i64 0) rfl
            obtain ⟨x6, f6⟩ := Xo.out.at_ 2 (.slice none 0 0) rfl
            obtain ⟨x7, f7⟩ := Xk.out.at_ 0 (.bool false) rfl
            obtain ⟨x8, f8⟩ := Xk.out.at_ 1 (.slice none 0 0) rfl
            go_wp2_with ((with_reducible refine (HM.out _).mono ?_); rintro e w2 ⟨rfl, hw2⟩; subst w2)
            obtain ⟨r0, r1, r2, r3, r4⟩ := boxes_end5 Xo.out Xk.out (.bool false) (.int .i64 0) (.slice none 0 0) (.bool false) (.slice none 0 0)
            have hBB := below_end5' HB.out (lo := w.heap.size + 1 + 1) (Nat.le_add_right_of_le (Nat.le_add_right _ _)) (.bool false) (.int .i64 0) (.slice none 0 0) (.bool false) (.slice none 0 0)
            refine bodyPost_ret (v := .tuple #[noState, .bool false, noAsk, .int .i64 1]) (by simp only [results, Try.results21, go_sem, noState, noAsk]; simp [go_sem, r0, r1, r2, r3, r4]) rfl ⟨hBB, by refine .inl ⟨?_, ?_⟩ <;> simp [HVP.out, HV.out]⟩
        · have hv : verdict true kind C.length now mem last = 1 := by have := of_decide_eq_true d2; simp [verdict, hm']; omega
          clear HD1 hm'
          have x1 := (Xc.out.at_ 0 (.int .i64 kind) rfl).1
          have x2 := (Xc.out.at_ 1 (.string g) rfl).1
          have x3 := (Xc.out.at_ 2 (.slice ro C.length rc) rfl).1
          have HV := Lib.hid hv; clear hv
          obtain ⟨x4, f4⟩ := Xo.out.at_ 0 (.bool false) rfl
          obtain ⟨x5, f5⟩ := Xo.out.at_ 1 (.int .i64 0) rfl
          obtain ⟨x6, f6⟩ := Xo.out.at_ 2 (.slice none 0 0) rfl
          obtain ⟨x7, f7⟩ := Xk.out.at_ 0 (.bool false) rfl
          obtain ⟨x8, f8⟩ := Xk.out.at_ 1 (.slice none 0 0) rfl
          go_wp2_with ((with_reducible refine (HM.out _).mono ?_); rintro e w2 ⟨rfl, hw2⟩; subst w2)
          obtain ⟨r0, r1, r2, r3, r4⟩ := boxes_end5 Xo.out Xk.out (.bool false) (.int .i64 0) (.slice none 0 0) (.bool false) (.slice none 0 0)
          have hBB := below_end5' HB.out (lo := w.heap.size + 1 + 1) (Nat.le_add_right_of_le (Nat.le_add_right _ _)) (.bool false) (.int .i64 0) (.slice none 0 0) (.bool false) (.slice none 0 0)
          refine bodyPost_ret (v := .tuple #[noState, .bool false, noAsk, .int .i64 1]) (by simp only [results, Try.results21, go_sem, noState, noAsk]; simp [go_sem, r0, r1, r2, r3, r4]) rfl ⟨hBB, by refine .inl ⟨?_, ?_⟩ <;> simp [HVP.out, HV.out]⟩
      · have hv : verdict true kind C.length now mem last = 1 := by have := of_decide_eq_true d1; simp [verdict, hm']; omega
        clear HD1 hm'
        have x1 := (Xc.out.at_ 0 (.int .i64 kind) rfl).1
        have x2 := (Xc.out.at_ 1 (.string g) rfl).1
        have x3 := (Xc.out.at_ 2 (.slice ro C.length rc) rfl).1
        have HV := Lib.hid hv; clear hv
        obtain ⟨x4, f4⟩ := Xo.out.at_ 0 (.bool false) rfl
        obtain ⟨x5, f5⟩ := Xo.out.at_ 1 (.int .i64 0) rfl
        obtain ⟨x6, f6⟩ := Xo.out.at_ 2 (.slice none 0 0) rfl
        obtain ⟨x7, f7⟩ := Xk.out.at_ 0 (.bool false) rfl
        obtain ⟨x8, f8⟩ := Xk.out.at_ 1 (.slice none 0 0) rfl
        go_wp2_with ((with_reducible refine (HM.out _).mono ?_); rintro e w2 ⟨rfl, hw2⟩; subst w2)
        obtain ⟨r0, r1, r2, r3, r4⟩ := boxes_end5 Xo.out Xk.out (.bool false) (.int .i64 0) (.slice none 0 0) (.bool false) (.slice none 0 0)
        have hBB := below_end5' HB.out (lo := w.heap.size + 1 + 1) (Nat.le_add_right_of_le (Nat.le_add_right _ _)) (.bool false) (.int .i64 0) (.slice none 0 0) (.bool false) (.slice none 0 0)
        refine bodyPost_ret (v := .tuple #[noState, .bool false, noAsk, .int .i64 1]) (by simp only [results, Try.results21, go_sem, noState, noAsk]; simp [go_sem, r0, r1, r2, r3, r4]) rfl ⟨hBB, by refine .inl ⟨?_, ?_⟩ <;> simp [HVP.out, HV.out]⟩
  · cases hp : pcheck ex at' L
    · have HP := Lib.hid hp; clear hp
      have HRW := Lib.hid hW0; clear hW0
      go_enter Try.func21, Try.ntmps21
      go_wp2_with fail
      rw [← HRW.out]
      clear HRW
      have x1 := (Xs.out.at_ 0 (.bool ex) rfl).1
      have x2 := (Xs.out.at_ 1 (.int .i64 at') rfl).1
      have x3 := (Xs.out.at_ 2 (.slice vo L.length vc) rfl).1
      have HC := Lib.hid (rcheck_no ex at' _ L _ TL.out HP.out)
      go_wp2_with fail
      refine HC.out.mono ?_
      clear HC
      clear x1 x2 x3
      rintro e w1 ⟨rfl, hb⟩
      replace Xs := Lib.hid (Xs.out.below hb Xs.out.lt)
      replace Xc := Lib.hid (Xc.out.below hb Xc.out.lt)
      replace Xo := Lib.hid (Xo.out.below hb Xo.out.lt)
      replace Xk := Lib.hid (Xk.out.below hb Xk.out.lt)
      replace TL := Lib.hid (TL.out.mono hb)
      replace SC := Lib.hid (SC.out.mono hb)
      replace HB := Lib.hid (HB.out.trans (hb.mono HB.out.size))
      clear hb
      obtain ⟨x4, f4⟩ := Xo.out.at_ 0 (.bool false) rfl
      obtain ⟨x5, f5⟩ := Xo.out.at_ 1 (.int .i64 0) rfl
      obtain ⟨x6, f6⟩ := Xo.out.at_ 2 (.slice none 0 0) rfl
      obtain ⟨x7, f7⟩ := Xk.out.at_ 0 (.bool false) rfl
      obtain ⟨x8, f8⟩ := Xk.out.at_ 1 (.slice none 0 0) rfl
      go_wp2
      obtain ⟨r0, r1, r2, r3, r4⟩ := boxes_end5 Xo.out Xk.out (.bool false) (.int .i64 0) (.slice none 0 0) (.bool false) (.slice none 0 0)
      have hBB := below_end5' HB.out (lo := w.heap.size + 1 + 1) (Nat.le_add_right_of_le (Nat.le_add_right _ _)) (.bool false) (.int .i64 0) (.slice none 0 0) (.bool false) (.slice none 0 0)
      refine bodyPost_ret (v := .tuple #[noState, .bool false, noAsk, .int .i64 3]) (by simp only [results, Try.results21, go_sem, noState, noAsk]; simp [go_sem, r0, r1, r2, r3, r4]) rfl ⟨hBB, by refine .inl ⟨?_, ?_⟩ <;> simp [HP.out, verdict]⟩
    · have HP := Lib.hid hp; clear hp
      have HRW := Lib.hid hW0; clear hW0
      go_enter Try.func21, Try.ntmps21
      go_wp2_with fail
      rw [← HRW.out]
      clear HRW
      have x1 := (Xs.out.at_ 0 (.bool ex) rfl).1
      have x2 := (Xs.out.at_ 1 (.int .i64 at') rfl).1
      have x3 := (Xs.out.at_ 2 (.slice vo L.length vc) rfl).1
      have HC := Lib.hid (rcheck_yes ex at' _ L _ TL.out HP.out)
      go_wp2_with fail
      refine HC.out.mono ?_
      clear HC
      clear x1 x2 x3
      rintro e w1 ⟨rfl, hb⟩
      replace Xs := Lib.hid (Xs.out.below hb Xs.out.lt)
      replace Xc := Lib.hid (Xc.out.below hb Xc.out.lt)
      replace Xo := Lib.hid (Xo.out.below hb Xo.out.lt)
      replace Xk := Lib.hid (Xk.out.below hb Xk.out.lt)
      replace TL := Lib.hid (TL.out.mono hb)
      replace SC := Lib.hid (SC.out.mono hb)
      replace HB := Lib.hid (HB.out.trans (hb.mono HB.out.size))
      clear hb
      have HVP := Lib.hid HP.out
      have HD1 := Lib.hid (show decide (kind < 1) = true ↔ kind < 1 from decide_eq_true_iff)
      cases hm : may now mem last
      · have HM := Lib.hid (fun W => rmay_yes now mem last W false hm)
        have hv : verdict true kind C.length now mem last = 1 := by simp [verdict, hm]
        have x4 := (Xc.out.at_ 0 (.int .i64 kind) rfl).1
        have x5 := (Xc.out.at_ 1 (.string g) rfl).1
        have x6 := (Xc.out.at_ 2 (.slice ro C.length rc) rfl).1
        have HV := Lib.hid hv; clear hv
        obtain ⟨x7, f7⟩ := Xo.out.at_ 0 (.bool false) rfl
        obtain ⟨x8, f8⟩ := Xo.out.at_ 1 (.int .i64 0) rfl
        obtain ⟨x9, f9⟩ := Xo.out.at_ 2 (.slice none 0 0) rfl
        obtain ⟨x10, f10⟩ := Xk.out.at_ 0 (.bool false) rfl
        obtain ⟨x11, f11⟩ := Xk.out.at_ 1 (.slice none 0 0) rfl
        go_wp2_with ((with_reducible refine (HM.out _).mono ?_); rintro e w2 ⟨rfl, hw2⟩; subst w2)
        obtain ⟨r0, r1, r2, r3, r4⟩ := boxes_end5 Xo.out Xk.out (.bool false) (.int .i64 0) (.slice none 0 0) (.bool false) (.slice none 0 0)
        have hBB := below_end5' HB.out (lo := w.heap.size + 1 + 1) (Nat.le_add_right_of_le (Nat.le_add_right _ _)) (.bool false) (.int .i64 0) (.slice none 0 0) (.bool false) (.slice none 0 0)
        refine bodyPost_ret (v := .tuple #[noState, .bool false, noAsk, .int .i64 1]) (by simp only [results, Try.results21, go_sem, noState, noAsk]; simp [go_sem, r0, r1, r2, r3, r4]) rfl ⟨hBB, by refine .inl ⟨?_, ?_⟩ <;> simp [HVP.out, HV.out]⟩
      · have HM := Lib.hid (fun W => rmay_yes now mem last W true hm)
        have hm' := hm; clear hm
        cases d1 : decide (kind < 1)
        · cases d2 : decide (6 < kind)
          · cases d3 : decide ((60 : Int) < (C.length : Int))
            · have hk1 : 1 ≤ kind := by have := of_decide_eq_false d1; omega
              have hk2 : kind ≤ 6 := by have := of_decide_eq_false d2; omega
              have hC : C.length ≤ 60 := by have := of_decide_eq_false d3; omega
              have hv : verdict true kind C.length now mem last = 0 := by simp [verdict, hm', hk1, hk2, hC]
              have hvo := verdict_ok hv
              have HV := Lib.hid hv; clear hv
              clear hm' HD1
              have hsum : IntKind.i64.wrap (now + mem) = now + mem := IntWalk.i64_in _ (by omega)
              have hsum2 : IntKind.i64.wrap (now + last) = now + last := IntWalk.i64_in _ (by omega)
              have WFM := Lib.hid (show (Lit.int .i64 (now + mem)).wf = true from WalkArith.wf_i64 (n := now + mem) (by omega))
              have WFL := Lib.hid (show (Lit.int .i64 (now + last)).wf = true from WalkArith.wf_i64 (n := now + last) (by omega))
              have HL0 := Lib.hid (show 0 < now + last from by omega)
              have HCS := Lib.hid (Nat.le_trans (sasc_length C) hC)
              clear hvo
              cases ex
              · obtain rfl : at' = 0 := by have h0 := pcheck_iff.1 HP.out; have h1 := h0.2.1; have h2 := h0.2.2.1; simp at h2; omega
                have RR := Lib.hid (show ∀ e w', RetRapp w false 0 L kind (sasc C) C.length now mem last e w' → RetRapp w (true && false) (if true = true then 0 else 0) (if true = true then L else []) kind (sasc C) C.length now mem last e w' from fun e w' h => by simpa using h)
                have x4 := (Xs.out.at_ 0 (.bool false) rfl).1
                have x5 := (Xs.out.at_ 1 (.int .i64 0) rfl).1
                have x6 := (Xs.out.at_ 2 (.slice vo L.length vc) rfl).1
                have x7 := (Xc.out.at_ 0 (.int .i64 kind) rfl).1
                have x8 := (Xc.out.at_ 1 (.string g) rfl).1
                have x9 := (Xc.out.at_ 2 (.slice ro C.length rc) rfl).1
                go_wp2_with ((with_reducible refine (HM.out _).mono ?_); rintro e w2 ⟨rfl, hw2⟩; subst w2)
                clear x4 x5 x6 x7 x8 x9
                clear HM
                have HPK := Lib.hid (pcheck_iff.1 HVP.out).1
                have HAS := Lib.hid (pcheck_asc HVP.out)
                have HGD := Lib.hid (pcheck_good HVP.out)
                have HVV := Lib.hid (show verdict (pcheck false (0) L) kind C.length now mem last = 0 from by rw [HVP.out]; exact HV.out)
                have x10 := (Xc.out.at_ 0 (.int .i64 kind) rfl).1
                have x11 := (Xc.out.at_ 1 (.string g) rfl).1
                have x12 := (Xc.out.at_ 2 (.slice ro C.length rc) rfl).1
                have HC := Lib.hid (srising_any _ C _ SC.out)
                go_wp2_with fail
                refine HC.out.mono ?_
                clear HC
                clear x10 x11 x12
                rintro e w2 ⟨o, rfl, hs, hb, _⟩
                obtain ⟨so, sc, rfl⟩ := hs.shape
                have SS := Lib.hid hs
                clear hs
                replace Xs := Lib.hid (Xs.out.below hb Xs.out.lt)
                replace Xc := Lib.hid (Xc.out.below hb Xc.out.lt)
                replace Xo := Lib.hid (Xo.out.below hb Xo.out.lt)
                replace Xk := Lib.hid (Xk.out.below hb Xk.out.lt)
                replace TL := Lib.hid (TL.out.mono hb)
                replace SC := Lib.hid (SC.out.mono hb)
                replace HB := Lib.hid (HB.out.trans (hb.mono HB.out.size))
                clear hb
                have x13 := (Xs.out.at_ 0 (.bool false) rfl).1
                have x14 := (Xs.out.at_ 1 (.int .i64 0) rfl).1
                have x15 := (Xs.out.at_ 2 (.slice vo L.length vc) rfl).1
                have x16 := (Xc.out.at_ 0 (.int .i64 kind) rfl).1
                have x17 := (Xc.out.at_ 1 (.string g) rfl).1
                have x18 := (Xc.out.at_ 2 (.slice ro C.length rc) rfl).1
                have HC := Lib.hid (rsome_in _ L kind _ (sasc C) (now + mem) _ hk1 hk2 TL.out HAS.out HGD.out SS.out HPK.out HCS.out WFM.out)
                go_wp2_with fail
                refine HC.out.mono ?_
                clear HC
                clear x13 x14 x15 x16 x17 x18
                rintro e w3 ⟨v3, L3, u3, R3, rfl, hT3, hA3, hU3, hR3, hl3, hb⟩
                obtain ⟨v3o, v3c, rfl⟩ := hT3.shape
                obtain ⟨u3o, u3c, rfl⟩ := hU3.shape
                have T3 := Lib.hid hT3; have S3 := Lib.hid hU3; have A3 := Lib.hid hA3; have R3' := Lib.hid hR3; have L3' := Lib.hid hl3
                clear hT3 hU3 hA3 hR3 hl3
                obtain ⟨e3, he3⟩ : ∃ e3, inEx kind false = e3 := ⟨_, rfl⟩
                obtain ⟨a3, ha3⟩ : ∃ a3, inAt kind 0 (now + mem) = a3 := ⟨_, rfl⟩
                obtain ⟨g3, hg3⟩ : ∃ g3, inG kind false = g3 := ⟨_, rfl⟩
                rw [he3, ha3, hg3]
                have HE3 := Lib.hid he3; have HA3 := Lib.hid ha3; have HG3 := Lib.hid hg3
                clear he3 ha3 hg3
                replace Xs := Lib.hid (Xs.out.below hb Xs.out.lt)
                replace Xc := Lib.hid (Xc.out.below hb Xc.out.lt)
                replace Xo := Lib.hid (Xo.out.below hb Xo.out.lt)
                replace Xk := Lib.hid (Xk.out.below hb Xk.out.lt)
                replace TL := Lib.hid (TL.out.mono hb)
                replace SC := Lib.hid (SC.out.mono hb)
                replace SS := Lib.hid (SS.out.mono hb)
                replace HB := Lib.hid (HB.out.trans (hb.mono HB.out.size))
                clear hb
                have HQB := Lib.hid (bn_far (a := w.heap.size) (b := w3.heap.size) Xk.out.lt)
                have hba : Below w3.heap.size w3 ((w3.alloc (.cells #[.bool e3, .int .i64 a3, .slice v3o L3.length v3c] 24)).alloc (.cells #[.bool g3, .slice u3o R3.length u3c] 47)) := (((Below.refl _ _).alloc (Nat.le_refl _) _).alloc (by simp <;> omega) _)
                replace Xs := Lib.hid (Xs.out.below hba Xs.out.lt)
                replace Xc := Lib.hid (Xc.out.below hba Xc.out.lt)
                replace Xo := Lib.hid (Xo.out.below hba Xo.out.lt)
                replace Xk := Lib.hid (Xk.out.below hba Xk.out.lt)
                replace TL := Lib.hid (TL.out.mono hba)
                replace T3 := Lib.hid (T3.out.mono hba)
                replace SC := Lib.hid (SC.out.mono hba)
                replace SS := Lib.hid (SS.out.mono hba)
                replace S3 := Lib.hid (S3.out.mono hba)
                replace HB := Lib.hid (HB.out.trans (hba.mono HB.out.size))
                have Xq := Lib.hid (show CBox ((w3.alloc (.cells #[.bool e3, .int .i64 a3, .slice v3o L3.length v3c] 24)).alloc (.cells #[.bool g3, .slice u3o R3.length u3c] 47)) (w3.heap.size) 24 #[.bool e3, .int .i64 a3, .slice v3o L3.length v3c] from ((CBox.new _ (by simp)).old _))
                have Xr := Lib.hid (show CBox ((w3.alloc (.cells #[.bool e3, .int .i64 a3, .slice v3o L3.length v3c] 24)).alloc (.cells #[.bool g3, .slice u3o R3.length u3c] 47)) (w3.heap.size + 1) 47 #[.bool g3, .slice u3o R3.length u3c] from (CBox.new _ (by simp)))
                clear hba
                clear hsum
                cases d4 : decide ((60 : Int) < (L3.length : Int))
                · have hL3 : L3.length ≤ 60 := by have := of_decide_eq_false d4; omega
                  have x19 := (Xs.out.at_ 0 (.bool false) rfl).1
                  have x20 := (Xs.out.at_ 1 (.int .i64 0) rfl).1
                  have x21 := (Xs.out.at_ 2 (.slice vo L.length vc) rfl).1
                  have x22 := (Xq.out.at_ 0 (.bool e3) rfl).1
                  have x23 := (Xq.out.at_ 1 (.int .i64 a3) rfl).1
                  have x24 := (Xq.out.at_ 2 (.slice v3o L3.length v3c) rfl).1
                  have x25 := (Xr.out.at_ 0 (.bool g3) rfl).1
                  have x26 := (Xr.out.at_ 1 (.slice u3o R3.length u3c) rfl).1
                  have HC := Lib.hid (asked_any e3 a3 _ L3 _ g3 _ R3 (now + last) _ T3.out A3.out S3.out (by have := L3'.out; omega) WFL.out HL0.out)
                  go_wp2_with fail
                  refine HC.out.mono ?_
                  clear HC
                  clear x19 x20 x21 x22 x23 x24 x25 x26
                  rintro e w4 ⟨v5, L5, rfl, hT5, hA5, hb⟩
                  obtain ⟨v5o, v5c, rfl⟩ := hT5.shape
                  have T5 := Lib.hid hT5; have A5 := Lib.hid hA5; clear hT5 hA5
                  obtain ⟨a5, ha5⟩ : ∃ a5, (if g3 = true then min a3 (now + last) else a3) = a5 := ⟨_, rfl⟩
                  rw [ha5]
                  have HA5 := Lib.hid ha5; clear ha5
                  replace Xs := Lib.hid (Xs.out.below hb Xs.out.lt)
                  replace Xc := Lib.hid (Xc.out.below hb Xc.out.lt)
                  replace Xo := Lib.hid (Xo.out.below hb Xo.out.lt)
                  replace Xk := Lib.hid (Xk.out.below hb Xk.out.lt)
                  replace Xq := Lib.hid (Xq.out.below hb Xq.out.lt)
                  replace Xr := Lib.hid (Xr.out.below hb Xr.out.lt)
                  replace TL := Lib.hid (TL.out.mono hb)
                  replace T3 := Lib.hid (T3.out.mono hb)
                  replace SC := Lib.hid (SC.out.mono hb)
                  replace SS := Lib.hid (SS.out.mono hb)
                  replace S3 := Lib.hid (S3.out.mono hb)
                  replace HB := Lib.hid (HB.out.trans (hb.mono HB.out.size))
                  clear hb
                  cases e3
                  · have d5 := Lib.hid (soon_nil A3.out A5.out)
                    cases hn : ((L5.length : Int) == 0)
                    · have HNE := Lib.hid (show ¬ (inEx kind false = false ∧ L3 = []) from fun h => by have h5 := d5.out.1 h.2; rw [h5] at hn; simp at hn)
                      clear d5
                      obtain ⟨x27, f27⟩ := Xq.out.at_ 0 (.bool false) rfl
                      obtain ⟨x28, f28⟩ := Xq.out.at_ 1 (.int .i64 a3) rfl
                      obtain ⟨x29, f29⟩ := Xq.out.at_ 2 (.slice v3o L3.length v3c) rfl
                      have x30 := (Xr.out.at_ 0 (.bool g3) rfl).1
                      have x31 := (Xr.out.at_ 1 (.slice u3o R3.length u3c) rfl).1
                      go_wp2_with fail
                      clear x27 f27 x28 f28 x29 f29 x30 x31
                      obtain ⟨V1, hV1⟩ : ∃ V1, V1 = (((w4.setCell ⟨w3.heap.size, 0, none⟩ (.bool false)).setCell ⟨w3.heap.size, 1, none⟩ (.int .i64 a5)).setCell ⟨w3.heap.size, 2, none⟩ (.slice v5o L5.length v5c)) := ⟨_, rfl⟩
                      rw [← hV1]
                      have nTLq := TL.out.ne_box Xq.out (ns3 _ _ _ _ _)
                      have nT3q := T3.out.ne_box Xq.out (ns3 _ _ _ _ _)
                      have nT5q := T5.out.ne_box Xq.out (ns3 _ _ _ _ _)
                      have nSCq := SC.out.ne_box Xq.out (ns3 _ _ _ _ _)
                      have nSSq := SS.out.ne_box Xq.out (ns3 _ _ _ _ _)
                      have nS3q := S3.out.ne_box Xq.out (ns3 _ _ _ _ _)
                      replace TL := Lib.hid (show Tms V1 _ _ from by rw [hV1]; exact (((TL.out.apart (p := ⟨w3.heap.size, 0, none⟩) nTLq (.bool false)).apart (p := ⟨w3.heap.size, 1, none⟩) nTLq (.int .i64 a5)).apart (p := ⟨w3.heap.size, 2, none⟩) nTLq (.slice v5o L5.length v5c)))
                      clear nTLq
                      replace T3 := Lib.hid (show Tms V1 _ _ from by rw [hV1]; exact (((T3.out.apart (p := ⟨w3.heap.size, 0, none⟩) nT3q (.bool false)).apart (p := ⟨w3.heap.size, 1, none⟩) nT3q (.int .i64 a5)).apart (p := ⟨w3.heap.size, 2, none⟩) nT3q (.slice v5o L5.length v5c)))
                      clear nT3q
                      replace T5 := Lib.hid (show Tms V1 _ _ from by rw [hV1]; exact (((T5.out.apart (p := ⟨w3.heap.size, 0, none⟩) nT5q (.bool false)).apart (p := ⟨w3.heap.size, 1, none⟩) nT5q (.int .i64 a5)).apart (p := ⟨w3.heap.size, 2, none⟩) nT5q (.slice v5o L5.length v5c)))
                      clear nT5q
                      replace SC := Lib.hid (show Strs V1 _ _ from by rw [hV1]; exact (((SC.out.apart' (p := ⟨w3.heap.size, 0, none⟩) nSCq (.bool false)).apart' (p := ⟨w3.heap.size, 1, none⟩) nSCq (.int .i64 a5)).apart' (p := ⟨w3.heap.size, 2, none⟩) nSCq (.slice v5o L5.length v5c)))
                      clear nSCq
                      replace SS := Lib.hid (show Strs V1 _ _ from by rw [hV1]; exact (((SS.out.apart' (p := ⟨w3.heap.size, 0, none⟩) nSSq (.bool false)).apart' (p := ⟨w3.heap.size, 1, none⟩) nSSq (.int .i64 a5)).apart' (p := ⟨w3.heap.size, 2, none⟩) nSSq (.slice v5o L5.length v5c)))
                      clear nSSq
                      replace S3 := Lib.hid (show Strs V1 _ _ from by rw [hV1]; exact (((S3.out.apart' (p := ⟨w3.heap.size, 0, none⟩) nS3q (.bool false)).apart' (p := ⟨w3.heap.size, 1, none⟩) nS3q (.int .i64 a5)).apart' (p := ⟨w3.heap.size, 2, none⟩) nS3q (.slice v5o L5.length v5c)))
                      clear nS3q
                      have HBn := Lib.hid (show Below w.heap.size w V1 from by rw [hV1]; exact (((HB.out.setCell (p := ⟨w3.heap.size, 0, none⟩) HQB.out.2.2.2.1 (.bool false)).setCell (p := ⟨w3.heap.size, 1, none⟩) HQB.out.2.2.2.1 (.int .i64 a5)).setCell (p := ⟨w3.heap.size, 2, none⟩) HQB.out.2.2.2.1 (.slice v5o L5.length v5c)))
                      have Xns := Lib.hid (show CBox V1 (w.heap.size) 24 #[.bool false, .int .i64 0, .slice vo L.length vc] from by rw [hV1]; simpa using (((Xs.out.far (p := ⟨w3.heap.size, 0, none⟩) HQB.out.1.1 (.bool false)).far (p := ⟨w3.heap.size, 1, none⟩) HQB.out.1.1 (.int .i64 a5)).far (p := ⟨w3.heap.size, 2, none⟩) HQB.out.1.1 (.slice v5o L5.length v5c)))
                      have Xnc := Lib.hid (show CBox V1 (w.heap.size + 1) 37 #[.int .i64 kind, .string g, .slice ro C.length rc] from by rw [hV1]; simpa using (((Xc.out.far (p := ⟨w3.heap.size, 0, none⟩) HQB.out.1.2.1 (.bool false)).far (p := ⟨w3.heap.size, 1, none⟩) HQB.out.1.2.1 (.int .i64 a5)).far (p := ⟨w3.heap.size, 2, none⟩) HQB.out.1.2.1 (.slice v5o L5.length v5c)))
                      have Xno := Lib.hid (show CBox V1 (w.heap.size + 1 + 1) 24 #[.bool false, .int .i64 0, .slice none 0 0] from by rw [hV1]; simpa using (((Xo.out.far (p := ⟨w3.heap.size, 0, none⟩) HQB.out.1.2.2.1 (.bool false)).far (p := ⟨w3.heap.size, 1, none⟩) HQB.out.1.2.2.1 (.int .i64 a5)).far (p := ⟨w3.heap.size, 2, none⟩) HQB.out.1.2.2.1 (.slice v5o L5.length v5c)))
                      have Xnk := Lib.hid (show CBox V1 (w.heap.size + 1 + 1 + 1) 47 #[.bool false, .slice none 0 0] from by rw [hV1]; simpa using (((Xk.out.far (p := ⟨w3.heap.size, 0, none⟩) HQB.out.1.2.2.2 (.bool false)).far (p := ⟨w3.heap.size, 1, none⟩) HQB.out.1.2.2.2 (.int .i64 a5)).far (p := ⟨w3.heap.size, 2, none⟩) HQB.out.1.2.2.2 (.slice v5o L5.length v5c)))
                      have Xnq := Lib.hid (show CBox V1 (w3.heap.size) 24 #[.bool false, .int .i64 a5, .slice v5o L5.length v5c] from by rw [hV1]; simpa using (((Xq.out.set 0 (.bool false)).set 1 (.int .i64 a5)).set 2 (.slice v5o L5.length v5c)))
                      have Xnr := Lib.hid (show CBox V1 (w3.heap.size + 1) 47 #[.bool g3, .slice u3o R3.length u3c] from by rw [hV1]; simpa using (((Xr.out.far (p := ⟨w3.heap.size, 0, none⟩) HQB.out.2.2.1.1 (.bool false)).far (p := ⟨w3.heap.size, 1, none⟩) HQB.out.2.2.1.1 (.int .i64 a5)).far (p := ⟨w3.heap.size, 2, none⟩) HQB.out.2.2.1.1 (.slice v5o L5.length v5c)))
                      replace Xs := Xns; clear Xns
                      replace Xc := Xnc; clear Xnc
                      replace Xo := Xno; clear Xno
                      replace Xk := Xnk; clear Xnk
                      replace Xq := Xnq; clear Xnq
                      replace Xr := Xnr; clear Xnr
                      replace HB := HBn; clear HBn
                      clear hV1
                      have x32 := (Xq.out.at_ 0 (.bool false) rfl).1
                      have x33 := (Xq.out.at_ 1 (.int .i64 a5) rfl).1
                      have x34 := (Xq.out.at_ 2 (.slice v5o L5.length v5c) rfl).1
                      have x35 := (Xr.out.at_ 0 (.bool g3) rfl).1
                      have x36 := (Xr.out.at_ 1 (.slice u3o R3.length u3c) rfl).1
                      obtain ⟨x37, f37⟩ := Xo.out.at_ 0 (.bool false) rfl
                      obtain ⟨x38, f38⟩ := Xo.out.at_ 1 (.int .i64 0) rfl
                      obtain ⟨x39, f39⟩ := Xo.out.at_ 2 (.slice none 0 0) rfl
                      obtain ⟨x40, f40⟩ := Xk.out.at_ 0 (.bool false) rfl
                      obtain ⟨x41, f41⟩ := Xk.out.at_ 1 (.slice none 0 0) rfl
                      have nTo := T5.out.ne_box Xo.out (ns3 _ _ _ _ _); have nTk := T5.out.ne_box Xk.out (ns2 _ _ _ _); have nSo := S3.out.ne_box Xo.out (ns3 _ _ _ _ _); have nSk := S3.out.ne_box Xk.out (ns2 _ _ _ _)
                      have NT := Lib.hid (fun hL b hb => And.intro (nTo hL b hb) (nTk hL b hb)); have NS := Lib.hid (fun hL b hb => And.intro (nSo hL b hb) (nSk hL b hb)); clear nTo nTk nSo nSk
                      obtain ⟨_, N1, N2, N3⟩ := HQB.out.1
                      have M1 := N1.symm; have M2 := N2.symm; have M3 := N3.symm
                      go_wp2_with fail
                      go_region
                      all_goals
                        go_wp2_with fail
                        obtain ⟨r0, r1, r2, r3, r4⟩ := boxes_end5 Xo.out Xk.out (.bool false) (.int .i64 a5) (.slice v5o L5.length v5c) (.bool g3) (.slice u3o R3.length u3c)
                        have hT := T5.out.end5' (lo := w.heap.size + 1 + 1) NT.out (.bool false) (.int .i64 a5) (.slice v5o L5.length v5c) (.bool g3) (.slice u3o R3.length u3c)
                        have hU := S3.out.end5' (lo := w.heap.size + 1 + 1) NS.out (.bool false) (.int .i64 a5) (.slice v5o L5.length v5c) (.bool g3) (.slice u3o R3.length u3c)
                        have hBB := below_end5' HB.out (lo := w.heap.size + 1 + 1) (Nat.le_add_right_of_le (Nat.le_add_right _ _)) (.bool false) (.int .i64 a5) (.slice v5o L5.length v5c) (.bool g3) (.slice u3o R3.length u3c)
                        refine bodyPost_ret (v := .tuple #[.agg #[.bool false, .int .i64 a5, .slice v5o L5.length v5c], .bool true, .agg #[.bool g3, .slice u3o R3.length u3c], .int .i64 0]) (by simp [results, Try.results21, go_sem, r0, r1, r2, r3, r4]) rfl (RR.out _ _ ⟨?_, .inr ⟨HVV.out, L3, A3.out, .inr (.inr ⟨hL3, HNE.out, _, L5, _, R3, by rw [HE3.out, HG3.out, HA3.out, HA5.out], ?_, ?_, R3'.out, A5.out⟩)⟩⟩)
                        · first | with_reducible exact hBB | with_reducible exact hBB.drew
                        · first | with_reducible exact hT | with_reducible exact hT.drew
                        · first | with_reducible exact hU | with_reducible exact hU.drew
                    · have HNN := Lib.hid (show inEx kind false = false ∧ L3 = [] from ⟨HE3.out, d5.out.2 (by simpa using hn)⟩)
                      clear d5
                      obtain ⟨x27, f27⟩ := Xq.out.at_ 0 (.bool false) rfl
                      obtain ⟨x28, f28⟩ := Xq.out.at_ 1 (.int .i64 a3) rfl
                      obtain ⟨x29, f29⟩ := Xq.out.at_ 2 (.slice v3o L3.length v3c) rfl
                      have x30 := (Xr.out.at_ 0 (.bool g3) rfl).1
                      have x31 := (Xr.out.at_ 1 (.slice u3o R3.length u3c) rfl).1
                      go_upto_region 15 with fail
                      clear x27 f27 x28 f28 x29 f29 x30 x31
                      obtain ⟨V1, hV1⟩ : ∃ V1, V1 = (((w4.setCell ⟨w3.heap.size, 0, none⟩ (.bool false)).setCell ⟨w3.heap.size, 1, none⟩ (.int .i64 a5)).setCell ⟨w3.heap.size, 2, none⟩ (.slice v5o L5.length v5c)) := ⟨_, rfl⟩
                      rw [← hV1]
                      have nTLq := TL.out.ne_box Xq.out (ns3 _ _ _ _ _)
                      have nT3q := T3.out.ne_box Xq.out (ns3 _ _ _ _ _)
                      have nT5q := T5.out.ne_box Xq.out (ns3 _ _ _ _ _)
                      have nSCq := SC.out.ne_box Xq.out (ns3 _ _ _ _ _)
                      have nSSq := SS.out.ne_box Xq.out (ns3 _ _ _ _ _)
                      have nS3q := S3.out.ne_box Xq.out (ns3 _ _ _ _ _)
                      replace TL := Lib.hid (show Tms V1 _ _ from by rw [hV1]; exact (((TL.out.apart (p := ⟨w3.heap.size, 0, none⟩) nTLq (.bool false)).apart (p := ⟨w3.heap.size, 1, none⟩) nTLq (.int .i64 a5)).apart (p := ⟨w3.heap.size, 2, none⟩) nTLq (.slice v5o L5.length v5c)))
                      clear nTLq
                      replace T3 := Lib.hid (show Tms V1 _ _ from by rw [hV1]; exact (((T3.out.apart (p := ⟨w3.heap.size, 0, none⟩) nT3q (.bool false)).apart (p := ⟨w3.heap.size, 1, none⟩) nT3q (.int .i64 a5)).apart (p := ⟨w3.heap.size, 2, none⟩) nT3q (.slice v5o L5.length v5c)))
                      clear nT3q
                      replace T5 := Lib.hid (show Tms V1 _ _ from by rw [hV1]; exact (((T5.out.apart (p := ⟨w3.heap.size, 0, none⟩) nT5q (.bool false)).apart (p := ⟨w3.heap.size, 1, none⟩) nT5q (.int .i64 a5)).apart (p := ⟨w3.heap.size, 2, none⟩) nT5q (.slice v5o L5.length v5c)))
                      clear nT5q
                      replace SC := Lib.hid (show Strs V1 _ _ from by rw [hV1]; exact (((SC.out.apart' (p := ⟨w3.heap.size, 0, none⟩) nSCq (.bool false)).apart' (p := ⟨w3.heap.size, 1, none⟩) nSCq (.int .i64 a5)).apart' (p := ⟨w3.heap.size, 2, none⟩) nSCq (.slice v5o L5.length v5c)))
                      clear nSCq
                      replace SS := Lib.hid (show Strs V1 _ _ from by rw [hV1]; exact (((SS.out.apart' (p := ⟨w3.heap.size, 0, none⟩) nSSq (.bool false)).apart' (p := ⟨w3.heap.size, 1, none⟩) nSSq (.int .i64 a5)).apart' (p := ⟨w3.heap.size, 2, none⟩) nSSq (.slice v5o L5.length v5c)))
                      clear nSSq
                      replace S3 := Lib.hid (show Strs V1 _ _ from by rw [hV1]; exact (((S3.out.apart' (p := ⟨w3.heap.size, 0, none⟩) nS3q (.bool false)).apart' (p := ⟨w3.heap.size, 1, none⟩) nS3q (.int .i64 a5)).apart' (p := ⟨w3.heap.size, 2, none⟩) nS3q (.slice v5o L5.length v5c)))
                      clear nS3q
                      have HBn := Lib.hid (show Below w.heap.size w V1 from by rw [hV1]; exact (((HB.out.setCell (p := ⟨w3.heap.size, 0, none⟩) HQB.out.2.2.2.1 (.bool false)).setCell (p := ⟨w3.heap.size, 1, none⟩) HQB.out.2.2.2.1 (.int .i64 a5)).setCell (p := ⟨w3.heap.size, 2, none⟩) HQB.out.2.2.2.1 (.slice v5o L5.length v5c)))
                      have Xns := Lib.hid (show CBox V1 (w.heap.size) 24 #[.bool false, .int .i64 0, .slice vo L.length vc] from by rw [hV1]; simpa using (((Xs.out.far (p := ⟨w3.heap.size, 0, none⟩) HQB.out.1.1 (.bool false)).far (p := ⟨w3.heap.size, 1, none⟩) HQB.out.1.1 (.int .i64 a5)).far (p := ⟨w3.heap.size, 2, none⟩) HQB.out.1.1 (.slice v5o L5.length v5c)))
                      have Xnc := Lib.hid (show CBox V1 (w.heap.size + 1) 37 #[.int .i64 kind, .string g, .slice ro C.length rc] from by rw [hV1]; simpa using (((Xc.out.far (p := ⟨w3.heap.size, 0, none⟩) HQB.out.1.2.1 (.bool false)).far (p := ⟨w3.heap.size, 1, none⟩) HQB.out.1.2.1 (.int .i64 a5)).far (p := ⟨w3.heap.size, 2, none⟩) HQB.out.1.2.1 (.slice v5o L5.length v5c)))
                      have Xno := Lib.hid (show CBox V1 (w.heap.size + 1 + 1) 24 #[.bool false, .int .i64 0, .slice none 0 0] from by rw [hV1]; simpa using (((Xo.out.far (p := ⟨w3.heap.size, 0, none⟩) HQB.out.1.2.2.1 (.bool false)).far (p := ⟨w3.heap.size, 1, none⟩) HQB.out.1.2.2.1 (.int .i64 a5)).far (p := ⟨w3.heap.size, 2, none⟩) HQB.out.1.2.2.1 (.slice v5o L5.length v5c)))
                      have Xnk := Lib.hid (show CBox V1 (w.heap.size + 1 + 1 + 1) 47 #[.bool false, .slice none 0 0] from by rw [hV1]; simpa using (((Xk.out.far (p := ⟨w3.heap.size, 0, none⟩) HQB.out.1.2.2.2 (.bool false)).far (p := ⟨w3.heap.size, 1, none⟩) HQB.out.1.2.2.2 (.int .i64 a5)).far (p := ⟨w3.heap.size, 2, none⟩) HQB.out.1.2.2.2 (.slice v5o L5.length v5c)))
                      have Xnq := Lib.hid (show CBox V1 (w3.heap.size) 24 #[.bool false, .int .i64 a5, .slice v5o L5.length v5c] from by rw [hV1]; simpa using (((Xq.out.set 0 (.bool false)).set 1 (.int .i64 a5)).set 2 (.slice v5o L5.length v5c)))
                      have Xnr := Lib.hid (show CBox V1 (w3.heap.size + 1) 47 #[.bool g3, .slice u3o R3.length u3c] from by rw [hV1]; simpa using (((Xr.out.far (p := ⟨w3.heap.size, 0, none⟩) HQB.out.2.2.1.1 (.bool false)).far (p := ⟨w3.heap.size, 1, none⟩) HQB.out.2.2.1.1 (.int .i64 a5)).far (p := ⟨w3.heap.size, 2, none⟩) HQB.out.2.2.1.1 (.slice v5o L5.length v5c)))
                      replace Xs := Xns; clear Xns
                      replace Xc := Xnc; clear Xnc
                      replace Xo := Xno; clear Xno
                      replace Xk := Xnk; clear Xnk
                      replace Xq := Xnq; clear Xnq
                      replace Xr := Xnr; clear Xnr
                      replace HB := HBn; clear HBn
                      clear hV1
                      obtain ⟨x32, f32⟩ := Xo.out.at_ 0 (.bool false) rfl
                      obtain ⟨x33, f33⟩ := Xo.out.at_ 1 (.int .i64 0) rfl
                      obtain ⟨x34, f34⟩ := Xo.out.at_ 2 (.slice none 0 0) rfl
                      obtain ⟨x35, f35⟩ := Xk.out.at_ 0 (.bool false) rfl
                      obtain ⟨x36, f36⟩ := Xk.out.at_ 1 (.slice none 0 0) rfl
                      go_wp2
                      obtain ⟨r0, r1, r2, r3, r4⟩ := boxes_end5 Xo.out Xk.out (.bool false) (.int .i64 0) (.slice none 0 0) (.bool false) (.slice none 0 0)
                      have hBB := below_end5' HB.out (lo := w.heap.size + 1 + 1) (Nat.le_add_right_of_le (Nat.le_add_right _ _)) (.bool false) (.int .i64 0) (.slice none 0 0) (.bool false) (.slice none 0 0)
                      refine bodyPost_ret (v := .tuple #[noState, .bool false, noAsk, .int .i64 0]) (by simp only [results, Try.results21, go_sem, noState, noAsk]; simp [go_sem, r0, r1, r2, r3, r4]) rfl (RR.out _ _ ⟨hBB, .inr ⟨HVV.out, L3, A3.out, .inr (.inl ⟨hL3, HNN.out, rfl⟩)⟩⟩)
                  · have HNE := Lib.hid (show ¬ (inEx kind false = false ∧ L3 = []) from fun h => by have := HE3.out; rw [h.1] at this; cases this)
                    obtain ⟨x27, f27⟩ := Xq.out.at_ 0 (.bool true) rfl
                    obtain ⟨x28, f28⟩ := Xq.out.at_ 1 (.int .i64 a3) rfl
                    obtain ⟨x29, f29⟩ := Xq.out.at_ 2 (.slice v3o L3.length v3c) rfl
                    have x30 := (Xr.out.at_ 0 (.bool g3) rfl).1
                    have x31 := (Xr.out.at_ 1 (.slice u3o R3.length u3c) rfl).1
                    go_wp2_with fail
                    clear x27 f27 x28 f28 x29 f29 x30 x31
                    obtain ⟨V1, hV1⟩ : ∃ V1, V1 = (((w4.setCell ⟨w3.heap.size, 0, none⟩ (.bool true)).setCell ⟨w3.heap.size, 1, none⟩ (.int .i64 a5)).setCell ⟨w3.heap.size, 2, none⟩ (.slice v5o L5.length v5c)) := ⟨_, rfl⟩
                    rw [← hV1]
                    have nTLq := TL.out.ne_box Xq.out (ns3 _ _ _ _ _)
                    have nT3q := T3.out.ne_box Xq.out (ns3 _ _ _ _ _)
                    have nT5q := T5.out.ne_box Xq.out (ns3 _ _ _ _ _)
                    have nSCq := SC.out.ne_box Xq.out (ns3 _ _ _ _ _)
                    have nSSq := SS.out.ne_box Xq.out (ns3 _ _ _ _ _)
                    have nS3q := S3.out.ne_box Xq.out (ns3 _ _ _ _ _)
                    replace TL := Lib.hid (show Tms V1 _ _ from by rw [hV1]; exact (((TL.out.apart (p := ⟨w3.heap.size, 0, none⟩) nTLq (.bool true)).apart (p := ⟨w3.heap.size, 1, none⟩) nTLq (.int .i64 a5)).apart (p := ⟨w3.heap.size, 2, none⟩) nTLq (.slice v5o L5.length v5c)))
                    clear nTLq
                    replace T3 := Lib.hid (show Tms V1 _ _ from by rw [hV1]; exact (((T3.out.apart (p := ⟨w3.heap.size, 0, none⟩) nT3q (.bool true)).apart (p := ⟨w3.heap.size, 1, none⟩) nT3q (.int .i64 a5)).apart (p := ⟨w3.heap.size, 2, none⟩) nT3q (.slice v5o L5.length v5c)))
                    clear nT3q
                    replace T5 := Lib.hid (show Tms V1 _ _ from by rw [hV1]; exact (((T5.out.apart (p := ⟨w3.heap.size, 0, none⟩) nT5q (.bool true)).apart (p := ⟨w3.heap.size, 1, none⟩) nT5q (.int .i64 a5)).apart (p := ⟨w3.heap.size, 2, none⟩) nT5q (.slice v5o L5.length v5c)))
                    clear nT5q
                    replace SC := Lib.hid (show Strs V1 _ _ from by rw [hV1]; exact (((SC.out.apart' (p := ⟨w3.heap.size, 0, none⟩) nSCq (.bool true)).apart' (p := ⟨w3.heap.size, 1, none⟩) nSCq (.int .i64 a5)).apart' (p := ⟨w3.heap.size, 2, none⟩) nSCq (.slice v5o L5.length v5c)))
                    clear nSCq
                    replace SS := Lib.hid (show Strs V1 _ _ from by rw [hV1]; exact (((SS.out.apart' (p := ⟨w3.heap.size, 0, none⟩) nSSq (.bool true)).apart' (p := ⟨w3.heap.size, 1, none⟩) nSSq (.int .i64 a5)).apart' (p := ⟨w3.heap.size, 2, none⟩) nSSq (.slice v5o L5.length v5c)))
                    clear nSSq
                    replace S3 := Lib.hid (show Strs V1 _ _ from by rw [hV1]; exact (((S3.out.apart' (p := ⟨w3.heap.size, 0, none⟩) nS3q (.bool true)).apart' (p := ⟨w3.heap.size, 1, none⟩) nS3q (.int .i64 a5)).apart' (p := ⟨w3.heap.size, 2, none⟩) nS3q (.slice v5o L5.length v5c)))
                    clear nS3q
                    have HBn := Lib.hid (show Below w.heap.size w V1 from by rw [hV1]; exact (((HB.out.setCell (p := ⟨w3.heap.size, 0, none⟩) HQB.out.2.2.2.1 (.bool true)).setCell (p := ⟨w3.heap.size, 1, none⟩) HQB.out.2.2.2.1 (.int .i64 a5)).setCell (p := ⟨w3.heap.size, 2, none⟩) HQB.out.2.2.2.1 (.slice v5o L5.length v5c)))
                    have Xns := Lib.hid (show CBox V1 (w.heap.size) 24 #[.bool false, .int .i64 0, .slice vo L.length vc] from by rw [hV1]; simpa using (((Xs.out.far (p := ⟨w3.heap.size, 0, none⟩) HQB.out.1.1 (.bool true)).far (p := ⟨w3.heap.size, 1, none⟩) HQB.out.1.1 (.int .i64 a5)).far (p := ⟨w3.heap.size, 2, none⟩) HQB.out.1.1 (.slice v5o L5.length v5c)))
                    have Xnc := Lib.hid (show CBox V1 (w.heap.size + 1) 37 #[.int .i64 kind, .string g, .slice ro C.length rc] from by rw [hV1]; simpa using (((Xc.out.far (p := ⟨w3.heap.size, 0, none⟩) HQB.out.1.2.1 (.bool true)).far (p := ⟨w3.heap.size, 1, none⟩) HQB.out.1.2.1 (.int .i64 a5)).far (p := ⟨w3.heap.size, 2, none⟩) HQB.out.1.2.1 (.slice v5o L5.length v5c)))
                    have Xno := Lib.hid (show CBox V1 (w.heap.size + 1 + 1) 24 #[.bool false, .int .i64 0, .slice none 0 0] from by rw [hV1]; simpa using (((Xo.out.far (p := ⟨w3.heap.size, 0, none⟩) HQB.out.1.2.2.1 (.bool true)).far (p := ⟨w3.heap.size, 1, none⟩) HQB.out.1.2.2.1 (.int .i64 a5)).far (p := ⟨w3.heap.size, 2, none⟩) HQB.out.1.2.2.1 (.slice v5o L5.length v5c)))
                    have Xnk := Lib.hid (show CBox V1 (w.heap.size + 1 + 1 + 1) 47 #[.bool false, .slice none 0 0] from by rw [hV1]; simpa using (((Xk.out.far (p := ⟨w3.heap.size, 0, none⟩) HQB.out.1.2.2.2 (.bool true)).far (p := ⟨w3.heap.size, 1, none⟩) HQB.out.1.2.2.2 (.int .i64 a5)).far (p := ⟨w3.heap.size, 2, none⟩) HQB.out.1.2.2.2 (.slice v5o L5.length v5c)))
                    have Xnq := Lib.hid (show CBox V1 (w3.heap.size) 24 #[.bool true, .int .i64 a5, .slice v5o L5.length v5c] from by rw [hV1]; simpa using (((Xq.out.set 0 (.bool true)).set 1 (.int .i64 a5)).set 2 (.slice v5o L5.length v5c)))
                    have Xnr := Lib.hid (show CBox V1 (w3.heap.size + 1) 47 #[.bool g3, .slice u3o R3.length u3c] from by rw [hV1]; simpa using (((Xr.out.far (p := ⟨w3.heap.size, 0, none⟩) HQB.out.2.2.1.1 (.bool true)).far (p := ⟨w3.heap.size, 1, none⟩) HQB.out.2.2.1.1 (.int .i64 a5)).far (p := ⟨w3.heap.size, 2, none⟩) HQB.out.2.2.1.1 (.slice v5o L5.length v5c)))
                    replace Xs := Xns; clear Xns
                    replace Xc := Xnc; clear Xnc
                    replace Xo := Xno; clear Xno
                    replace Xk := Xnk; clear Xnk
                    replace Xq := Xnq; clear Xnq
                    replace Xr := Xnr; clear Xnr
                    replace HB := HBn; clear HBn
                    clear hV1
                    have x32 := (Xq.out.at_ 0 (.bool true) rfl).1
                    have x33 := (Xq.out.at_ 1 (.int .i64 a5) rfl).1
                    have x34 := (Xq.out.at_ 2 (.slice v5o L5.length v5c) rfl).1
                    have x35 := (Xr.out.at_ 0 (.bool g3) rfl).1
                    have x36 := (Xr.out.at_ 1 (.slice u3o R3.length u3c) rfl).1
                    obtain ⟨x37, f37⟩ := Xo.out.at_ 0 (.bool false) rfl
                    obtain ⟨x38, f38⟩ := Xo.out.at_ 1 (.int .i64 0) rfl
                    obtain ⟨x39, f39⟩ := Xo.out.at_ 2 (.slice none 0 0) rfl
                    obtain ⟨x40, f40⟩ := Xk.out.at_ 0 (.bool false) rfl
                    obtain ⟨x41, f41⟩ := Xk.out.at_ 1 (.slice none 0 0) rfl
                    have nTo := T5.out.ne_box Xo.out (ns3 _ _ _ _ _); have nTk := T5.out.ne_box Xk.out (ns2 _ _ _ _); have nSo := S3.out.ne_box Xo.out (ns3 _ _ _ _ _); have nSk := S3.out.ne_box Xk.out (ns2 _ _ _ _)
                    have NT := Lib.hid (fun hL b hb => And.intro (nTo hL b hb) (nTk hL b hb)); have NS := Lib.hid (fun hL b hb => And.intro (nSo hL b hb) (nSk hL b hb)); clear nTo nTk nSo nSk
                    obtain ⟨_, N1, N2, N3⟩ := HQB.out.1
                    have M1 := N1.symm; have M2 := N2.symm; have M3 := N3.symm
                    go_wp2_with fail
                    go_region
                    all_goals
                      go_wp2_with fail
                      obtain ⟨r0, r1, r2, r3, r4⟩ := boxes_end5 Xo.out Xk.out (.bool true) (.int .i64 a5) (.slice v5o L5.length v5c) (.bool g3) (.slice u3o R3.length u3c)
                      have hT := T5.out.end5' (lo := w.heap.size + 1 + 1) NT.out (.bool true) (.int .i64 a5) (.slice v5o L5.length v5c) (.bool g3) (.slice u3o R3.length u3c)
                      have hU := S3.out.end5' (lo := w.heap.size + 1 + 1) NS.out (.bool true) (.int .i64 a5) (.slice v5o L5.length v5c) (.bool g3) (.slice u3o R3.length u3c)
                      have hBB := below_end5' HB.out (lo := w.heap.size + 1 + 1) (Nat.le_add_right_of_le (Nat.le_add_right _ _)) (.bool true) (.int .i64 a5) (.slice v5o L5.length v5c) (.bool g3) (.slice u3o R3.length u3c)
                      refine bodyPost_ret (v := .tuple #[.agg #[.bool true, .int .i64 a5, .slice v5o L5.length v5c], .bool true, .agg #[.bool g3, .slice u3o R3.length u3c], .int .i64 0]) (by simp [results, Try.results21, go_sem, r0, r1, r2, r3, r4]) rfl (RR.out _ _ ⟨?_, .inr ⟨HVV.out, L3, A3.out, .inr (.inr ⟨hL3, HNE.out, _, L5, _, R3, by rw [HE3.out, HG3.out, HA3.out, HA5.out], ?_, ?_, R3'.out, A5.out⟩)⟩⟩)
                      · first | with_reducible exact hBB | with_reducible exact hBB.drew
                      · first | with_reducible exact hT | with_reducible exact hT.drew
                      · first | with_reducible exact hU | with_reducible exact hU.drew
                · have hL3 : 60 < L3.length := by have := of_decide_eq_true d4; omega
                  have x19 := (Xs.out.at_ 0 (.bool false) rfl).1
                  have x20 := (Xs.out.at_ 1 (.int .i64 0) rfl).1
                  have x21 := (Xs.out.at_ 2 (.slice vo L.length vc) rfl).1
                  have x22 := (Xq.out.at_ 0 (.bool e3) rfl).1
                  have x23 := (Xq.out.at_ 1 (.int .i64 a3) rfl).1
                  have x24 := (Xq.out.at_ 2 (.slice v3o L3.length v3c) rfl).1
                  have x25 := (Xr.out.at_ 0 (.bool g3) rfl).1
                  have x26 := (Xr.out.at_ 1 (.slice u3o R3.length u3c) rfl).1
                  obtain ⟨x27, f27⟩ := Xo.out.at_ 0 (.bool false) rfl
                  obtain ⟨x28, f28⟩ := Xo.out.at_ 1 (.int .i64 0) rfl
                  obtain ⟨x29, f29⟩ := Xo.out.at_ 2 (.slice none 0 0) rfl
                  obtain ⟨x30, f30⟩ := Xk.out.at_ 0 (.bool false) rfl
                  obtain ⟨x31, f31⟩ := Xk.out.at_ 1 (.slice none 0 0) rfl
                  go_wp2
                  obtain ⟨r0, r1, r2, r3, r4⟩ := boxes_end5 Xo.out Xk.out (.bool false) (.int .i64 0) (.slice none 0 0) (.bool false) (.slice none 0 0)
                  have hBB := below_end5' HB.out (lo := w.heap.size + 1 + 1) (Nat.le_add_right_of_le (Nat.le_add_right _ _)) (.bool false) (.int .i64 0) (.slice none 0 0) (.bool false) (.slice none 0 0)
                  refine bodyPost_ret (v := .tuple #[noState, .bool false, noAsk, .int .i64 1]) (by simp only [results, Try.results21, go_sem, noState, noAsk]; simp [go_sem, r0, r1, r2, r3, r4]) rfl (RR.out _ _ ⟨hBB, .inr ⟨HVV.out, L3, A3.out, .inl ⟨hL3, rfl⟩⟩⟩)
              · have h1 : 1 ≤ at' := by have h0 := pcheck_iff.1 HP.out; have h2 := h0.2.2.1; simp at h2; omega
                have RR := Lib.hid (show ∀ e w', RetRapp w true at' L kind (sasc C) C.length now mem last e w' → RetRapp w (true && true) (if true = true then at' else 0) (if true = true then L else []) kind (sasc C) C.length now mem last e w' from fun e w' h => by simpa using h)
                have x4 := (Xs.out.at_ 0 (.bool true) rfl).1
                have x5 := (Xs.out.at_ 1 (.int .i64 at') rfl).1
                have x6 := (Xs.out.at_ 2 (.slice vo L.length vc) rfl).1
                have x7 := (Xc.out.at_ 0 (.int .i64 kind) rfl).1
                have x8 := (Xc.out.at_ 1 (.string g) rfl).1
                have x9 := (Xc.out.at_ 2 (.slice ro C.length rc) rfl).1
                go_wp2_with ((with_reducible refine (HM.out _).mono ?_); rintro e w2 ⟨rfl, hw2⟩; subst w2)
                clear x4 x5 x6 x7 x8 x9
                clear HM
                have HPK := Lib.hid (pcheck_iff.1 HVP.out).1
                have HAS := Lib.hid (pcheck_asc HVP.out)
                have HGD := Lib.hid (pcheck_good HVP.out)
                have HVV := Lib.hid (show verdict (pcheck true (at') L) kind C.length now mem last = 0 from by rw [HVP.out]; exact HV.out)
                have x10 := (Xc.out.at_ 0 (.int .i64 kind) rfl).1
                have x11 := (Xc.out.at_ 1 (.string g) rfl).1
                have x12 := (Xc.out.at_ 2 (.slice ro C.length rc) rfl).1
                have HC := Lib.hid (srising_any _ C _ SC.out)
                go_wp2_with fail
                refine HC.out.mono ?_
                clear HC
                clear x10 x11 x12
                rintro e w2 ⟨o, rfl, hs, hb, _⟩
                obtain ⟨so, sc, rfl⟩ := hs.shape
                have SS := Lib.hid hs
                clear hs
                replace Xs := Lib.hid (Xs.out.below hb Xs.out.lt)
                replace Xc := Lib.hid (Xc.out.below hb Xc.out.lt)
                replace Xo := Lib.hid (Xo.out.below hb Xo.out.lt)
                replace Xk := Lib.hid (Xk.out.below hb Xk.out.lt)
                replace TL := Lib.hid (TL.out.mono hb)
                replace SC := Lib.hid (SC.out.mono hb)
                replace HB := Lib.hid (HB.out.trans (hb.mono HB.out.size))
                clear hb
                have x13 := (Xs.out.at_ 0 (.bool true) rfl).1
                have x14 := (Xs.out.at_ 1 (.int .i64 at') rfl).1
                have x15 := (Xs.out.at_ 2 (.slice vo L.length vc) rfl).1
                have x16 := (Xc.out.at_ 0 (.int .i64 kind) rfl).1
                have x17 := (Xc.out.at_ 1 (.string g) rfl).1
                have x18 := (Xc.out.at_ 2 (.slice ro C.length rc) rfl).1
                have HC := Lib.hid (rsome_any true at' _ L kind _ (sasc C) (now + mem) _ hk1 hk2 TL.out HAS.out SS.out HPK.out HCS.out WFM.out)
                go_wp2_with fail
                refine HC.out.mono ?_
                clear HC
                clear x13 x14 x15 x16 x17 x18
                rintro e w3 ⟨e2, a2, F2, g2, R2, v2, L2, u2, rfl, hT2, _, hU2, hb⟩
                obtain ⟨v2o, v2c, rfl⟩ := hT2.shape
                obtain ⟨u2o, u2c, rfl⟩ := hU2.shape
                clear hT2 hU2
                replace Xs := Lib.hid (Xs.out.below hb Xs.out.lt)
                replace Xc := Lib.hid (Xc.out.below hb Xc.out.lt)
                replace Xo := Lib.hid (Xo.out.below hb Xo.out.lt)
                replace Xk := Lib.hid (Xk.out.below hb Xk.out.lt)
                replace TL := Lib.hid (TL.out.mono hb)
                replace SC := Lib.hid (SC.out.mono hb)
                replace SS := Lib.hid (SS.out.mono hb)
                replace HB := Lib.hid (HB.out.trans (hb.mono HB.out.size))
                clear hb
                have HQB := Lib.hid (bn_far (a := w.heap.size) (b := w3.heap.size) Xk.out.lt)
                have hba : Below w3.heap.size w3 ((w3.alloc (.cells #[.bool e2, .int .i64 a2, .slice v2o L2.length v2c] 24)).alloc (.cells #[.bool g2, .slice u2o R2.length u2c] 47)) := (((Below.refl _ _).alloc (Nat.le_refl _) _).alloc (by simp <;> omega) _)
                replace Xs := Lib.hid (Xs.out.below hba Xs.out.lt)
                replace Xc := Lib.hid (Xc.out.below hba Xc.out.lt)
                replace Xo := Lib.hid (Xo.out.below hba Xo.out.lt)
                replace Xk := Lib.hid (Xk.out.below hba Xk.out.lt)
                replace TL := Lib.hid (TL.out.mono hba)
                replace SC := Lib.hid (SC.out.mono hba)
                replace SS := Lib.hid (SS.out.mono hba)
                replace HB := Lib.hid (HB.out.trans (hba.mono HB.out.size))
                have Xq := Lib.hid (show CBox ((w3.alloc (.cells #[.bool e2, .int .i64 a2, .slice v2o L2.length v2c] 24)).alloc (.cells #[.bool g2, .slice u2o R2.length u2c] 47)) (w3.heap.size) 24 #[.bool e2, .int .i64 a2, .slice v2o L2.length v2c] from ((CBox.new _ (by simp)).old _))
                have Xr := Lib.hid (show CBox ((w3.alloc (.cells #[.bool e2, .int .i64 a2, .slice v2o L2.length v2c] 24)).alloc (.cells #[.bool g2, .slice u2o R2.length u2c] 47)) (w3.heap.size + 1) 47 #[.bool g2, .slice u2o R2.length u2c] from (CBox.new _ (by simp)))
                clear hba
                have x19 := (Xs.out.at_ 0 (.bool true) rfl).1
                have x20 := (Xs.out.at_ 1 (.int .i64 at') rfl).1
                have x21 := (Xs.out.at_ 2 (.slice vo L.length vc) rfl).1
                have x22 := (Xc.out.at_ 0 (.int .i64 kind) rfl).1
                have x23 := (Xc.out.at_ 1 (.string g) rfl).1
                have x24 := (Xc.out.at_ 2 (.slice ro C.length rc) rfl).1
                have HC := Lib.hid (rbut_in at' _ L kind _ (sasc C) (now + mem) _ hk1 hk2 TL.out HAS.out h1 SS.out HPK.out HCS.out WFM.out HWA.out)
                go_wp2_with fail
                refine HC.out.mono ?_
                clear HC
                clear x19 x20 x21 x22 x23 x24
                rintro e w4 ⟨v3, L3, u3, R3, rfl, hT3, hA3, hU3, hR3, hl3, hb⟩
                obtain ⟨v3o, v3c, rfl⟩ := hT3.shape
                obtain ⟨u3o, u3c, rfl⟩ := hU3.shape
                have T3 := Lib.hid hT3; have S3 := Lib.hid hU3; have A3 := Lib.hid hA3; have R3' := Lib.hid hR3; have L3' := Lib.hid hl3
                clear hT3 hU3 hA3 hR3 hl3
                obtain ⟨e3, he3⟩ : ∃ e3, inEx kind true = e3 := ⟨_, rfl⟩
                obtain ⟨a3, ha3⟩ : ∃ a3, inAt kind at' (now + mem) = a3 := ⟨_, rfl⟩
                obtain ⟨g3, hg3⟩ : ∃ g3, inG kind true = g3 := ⟨_, rfl⟩
                rw [he3, ha3, hg3]
                have HE3 := Lib.hid he3; have HA3 := Lib.hid ha3; have HG3 := Lib.hid hg3
                clear he3 ha3 hg3
                replace Xs := Lib.hid (Xs.out.below hb Xs.out.lt)
                replace Xc := Lib.hid (Xc.out.below hb Xc.out.lt)
                replace Xo := Lib.hid (Xo.out.below hb Xo.out.lt)
                replace Xk := Lib.hid (Xk.out.below hb Xk.out.lt)
                replace Xq := Lib.hid (Xq.out.below hb Xq.out.lt)
                replace Xr := Lib.hid (Xr.out.below hb Xr.out.lt)
                replace TL := Lib.hid (TL.out.mono hb)
                replace SC := Lib.hid (SC.out.mono hb)
                replace SS := Lib.hid (SS.out.mono hb)
                replace HB := Lib.hid (HB.out.trans (hb.mono HB.out.size))
                clear hb
                obtain ⟨x25, f25⟩ := Xq.out.at_ 0 (.bool e2) rfl
                obtain ⟨x26, f26⟩ := Xq.out.at_ 1 (.int .i64 a2) rfl
                obtain ⟨x27, f27⟩ := Xq.out.at_ 2 (.slice v2o L2.length v2c) rfl
                obtain ⟨x28, f28⟩ := Xr.out.at_ 0 (.bool g2) rfl
                obtain ⟨x29, f29⟩ := Xr.out.at_ 1 (.slice u2o R2.length u2c) rfl
                go_upto_region 11 with fail
                clear x25 f25 x26 f26 x27 f27 x28 f28 x29 f29
                obtain ⟨V1, hV1⟩ : ∃ V1, V1 = (((((w4.setCell ⟨w3.heap.size, 0, none⟩ (.bool e3)).setCell ⟨w3.heap.size, 1, none⟩ (.int .i64 a3)).setCell ⟨w3.heap.size, 2, none⟩ (.slice v3o L3.length v3c)).setCell ⟨w3.heap.size + 1, 0, none⟩ (.bool g3)).setCell ⟨w3.heap.size + 1, 1, none⟩ (.slice u3o R3.length u3c)) := ⟨_, rfl⟩
                rw [← hV1]
                have nTLq := TL.out.ne_box Xq.out (ns3 _ _ _ _ _)
                have nTLr := TL.out.ne_box Xr.out (ns2 _ _ _ _)
                have nT3q := T3.out.ne_box Xq.out (ns3 _ _ _ _ _)
                have nT3r := T3.out.ne_box Xr.out (ns2 _ _ _ _)
                have nSCq := SC.out.ne_box Xq.out (ns3 _ _ _ _ _)
                have nSCr := SC.out.ne_box Xr.out (ns2 _ _ _ _)
                have nSSq := SS.out.ne_box Xq.out (ns3 _ _ _ _ _)
                have nSSr := SS.out.ne_box Xr.out (ns2 _ _ _ _)
                have nS3q := S3.out.ne_box Xq.out (ns3 _ _ _ _ _)
                have nS3r := S3.out.ne_box Xr.out (ns2 _ _ _ _)
                replace TL := Lib.hid (show Tms V1 _ _ from by rw [hV1]; exact (((((TL.out.apart (p := ⟨w3.heap.size, 0, none⟩) nTLq (.bool e3)).apart (p := ⟨w3.heap.size, 1, none⟩) nTLq (.int .i64 a3)).apart (p := ⟨w3.heap.size, 2, none⟩) nTLq (.slice v3o L3.length v3c)).apart (p := ⟨w3.heap.size + 1, 0, none⟩) nTLr (.bool g3)).apart (p := ⟨w3.heap.size + 1, 1, none⟩) nTLr (.slice u3o R3.length u3c)))
                clear nTLq nTLr
                replace T3 := Lib.hid (show Tms V1 _ _ from by rw [hV1]; exact (((((T3.out.apart (p := ⟨w3.heap.size, 0, none⟩) nT3q (.bool e3)).apart (p := ⟨w3.heap.size, 1, none⟩) nT3q (.int .i64 a3)).apart (p := ⟨w3.heap.size, 2, none⟩) nT3q (.slice v3o L3.length v3c)).apart (p := ⟨w3.heap.size + 1, 0, none⟩) nT3r (.bool g3)).apart (p := ⟨w3.heap.size + 1, 1, none⟩) nT3r (.slice u3o R3.length u3c)))
                clear nT3q nT3r
                replace SC := Lib.hid (show Strs V1 _ _ from by rw [hV1]; exact (((((SC.out.apart' (p := ⟨w3.heap.size, 0, none⟩) nSCq (.bool e3)).apart' (p := ⟨w3.heap.size, 1, none⟩) nSCq (.int .i64 a3)).apart' (p := ⟨w3.heap.size, 2, none⟩) nSCq (.slice v3o L3.length v3c)).apart' (p := ⟨w3.heap.size + 1, 0, none⟩) nSCr (.bool g3)).apart' (p := ⟨w3.heap.size + 1, 1, none⟩) nSCr (.slice u3o R3.length u3c)))
                clear nSCq nSCr
                replace SS := Lib.hid (show Strs V1 _ _ from by rw [hV1]; exact (((((SS.out.apart' (p := ⟨w3.heap.size, 0, none⟩) nSSq (.bool e3)).apart' (p := ⟨w3.heap.size, 1, none⟩) nSSq (.int .i64 a3)).apart' (p := ⟨w3.heap.size, 2, none⟩) nSSq (.slice v3o L3.length v3c)).apart' (p := ⟨w3.heap.size + 1, 0, none⟩) nSSr (.bool g3)).apart' (p := ⟨w3.heap.size + 1, 1, none⟩) nSSr (.slice u3o R3.length u3c)))
                clear nSSq nSSr
                replace S3 := Lib.hid (show Strs V1 _ _ from by rw [hV1]; exact (((((S3.out.apart' (p := ⟨w3.heap.size, 0, none⟩) nS3q (.bool e3)).apart' (p := ⟨w3.heap.size, 1, none⟩) nS3q (.int .i64 a3)).apart' (p := ⟨w3.heap.size, 2, none⟩) nS3q (.slice v3o L3.length v3c)).apart' (p := ⟨w3.heap.size + 1, 0, none⟩) nS3r (.bool g3)).apart' (p := ⟨w3.heap.size + 1, 1, none⟩) nS3r (.slice u3o R3.length u3c)))
                clear nS3q nS3r
                have HBn := Lib.hid (show Below w.heap.size w V1 from by rw [hV1]; exact (((((HB.out.setCell (p := ⟨w3.heap.size, 0, none⟩) HQB.out.2.2.2.1 (.bool e3)).setCell (p := ⟨w3.heap.size, 1, none⟩) HQB.out.2.2.2.1 (.int .i64 a3)).setCell (p := ⟨w3.heap.size, 2, none⟩) HQB.out.2.2.2.1 (.slice v3o L3.length v3c)).setCell (p := ⟨w3.heap.size + 1, 0, none⟩) HQB.out.2.2.2.2 (.bool g3)).setCell (p := ⟨w3.heap.size + 1, 1, none⟩) HQB.out.2.2.2.2 (.slice u3o R3.length u3c)))
                have Xns := Lib.hid (show CBox V1 (w.heap.size) 24 #[.bool true, .int .i64 at', .slice vo L.length vc] from by rw [hV1]; simpa using (((((Xs.out.far (p := ⟨w3.heap.size, 0, none⟩) HQB.out.1.1 (.bool e3)).far (p := ⟨w3.heap.size, 1, none⟩) HQB.out.1.1 (.int .i64 a3)).far (p := ⟨w3.heap.size, 2, none⟩) HQB.out.1.1 (.slice v3o L3.length v3c)).far (p := ⟨w3.heap.size + 1, 0, none⟩) HQB.out.2.1.1 (.bool g3)).far (p := ⟨w3.heap.size + 1, 1, none⟩) HQB.out.2.1.1 (.slice u3o R3.length u3c)))
                have Xnc := Lib.hid (show CBox V1 (w.heap.size + 1) 37 #[.int .i64 kind, .string g, .slice ro C.length rc] from by rw [hV1]; simpa using (((((Xc.out.far (p := ⟨w3.heap.size, 0, none⟩) HQB.out.1.2.1 (.bool e3)).far (p := ⟨w3.heap.size, 1, none⟩) HQB.out.1.2.1 (.int .i64 a3)).far (p := ⟨w3.heap.size, 2, none⟩) HQB.out.1.2.1 (.slice v3o L3.length v3c)).far (p := ⟨w3.heap.size + 1, 0, none⟩) HQB.out.2.1.2.1 (.bool g3)).far (p := ⟨w3.heap.size + 1, 1, none⟩) HQB.out.2.1.2.1 (.slice u3o R3.length u3c)))
                have Xno := Lib.hid (show CBox V1 (w.heap.size + 1 + 1) 24 #[.bool false, .int .i64 0, .slice none 0 0] from by rw [hV1]; simpa using (((((Xo.out.far (p := ⟨w3.heap.size, 0, none⟩) HQB.out.1.2.2.1 (.bool e3)).far (p := ⟨w3.heap.size, 1, none⟩) HQB.out.1.2.2.1 (.int .i64 a3)).far (p := ⟨w3.heap.size, 2, none⟩) HQB.out.1.2.2.1 (.slice v3o L3.length v3c)).far (p := ⟨w3.heap.size + 1, 0, none⟩) HQB.out.2.1.2.2.1 (.bool g3)).far (p := ⟨w3.heap.size + 1, 1, none⟩) HQB.out.2.1.2.2.1 (.slice u3o R3.length u3c)))
                have Xnk := Lib.hid (show CBox V1 (w.heap.size + 1 + 1 + 1) 47 #[.bool false, .slice none 0 0] from by rw [hV1]; simpa using (((((Xk.out.far (p := ⟨w3.heap.size, 0, none⟩) HQB.out.1.2.2.2 (.bool e3)).far (p := ⟨w3.heap.size, 1, none⟩) HQB.out.1.2.2.2 (.int .i64 a3)).far (p := ⟨w3.heap.size, 2, none⟩) HQB.out.1.2.2.2 (.slice v3o L3.length v3c)).far (p := ⟨w3.heap.size + 1, 0, none⟩) HQB.out.2.1.2.2.2 (.bool g3)).far (p := ⟨w3.heap.size + 1, 1, none⟩) HQB.out.2.1.2.2.2 (.slice u3o R3.length u3c)))
                have Xnq := Lib.hid (show CBox V1 (w3.heap.size) 24 #[.bool e3, .int .i64 a3, .slice v3o L3.length v3c] from by rw [hV1]; simpa using (((((Xq.out.set 0 (.bool e3)).set 1 (.int .i64 a3)).set 2 (.slice v3o L3.length v3c)).far (p := ⟨w3.heap.size + 1, 0, none⟩) HQB.out.2.2.1.2 (.bool g3)).far (p := ⟨w3.heap.size + 1, 1, none⟩) HQB.out.2.2.1.2 (.slice u3o R3.length u3c)))
                have Xnr := Lib.hid (show CBox V1 (w3.heap.size + 1) 47 #[.bool g3, .slice u3o R3.length u3c] from by rw [hV1]; simpa using (((((Xr.out.far (p := ⟨w3.heap.size, 0, none⟩) HQB.out.2.2.1.1 (.bool e3)).far (p := ⟨w3.heap.size, 1, none⟩) HQB.out.2.2.1.1 (.int .i64 a3)).far (p := ⟨w3.heap.size, 2, none⟩) HQB.out.2.2.1.1 (.slice v3o L3.length v3c)).set 0 (.bool g3)).set 1 (.slice u3o R3.length u3c)))
                replace Xs := Xns; clear Xns
                replace Xc := Xnc; clear Xnc
                replace Xo := Xno; clear Xno
                replace Xk := Xnk; clear Xnk
                replace Xq := Xnq; clear Xnq
                replace Xr := Xnr; clear Xnr
                replace HB := HBn; clear HBn
                clear hV1
                clear hsum
                cases d4 : decide ((60 : Int) < (L3.length : Int))
                · have hL3 : L3.length ≤ 60 := by have := of_decide_eq_false d4; omega
                  have x30 := (Xs.out.at_ 0 (.bool true) rfl).1
                  have x31 := (Xs.out.at_ 1 (.int .i64 at') rfl).1
                  have x32 := (Xs.out.at_ 2 (.slice vo L.length vc) rfl).1
                  have x33 := (Xq.out.at_ 0 (.bool e3) rfl).1
                  have x34 := (Xq.out.at_ 1 (.int .i64 a3) rfl).1
                  have x35 := (Xq.out.at_ 2 (.slice v3o L3.length v3c) rfl).1
                  have x36 := (Xr.out.at_ 0 (.bool g3) rfl).1
                  have x37 := (Xr.out.at_ 1 (.slice u3o R3.length u3c) rfl).1
                  have HC := Lib.hid (asked_any e3 a3 _ L3 _ g3 _ R3 (now + last) _ T3.out A3.out S3.out (by have := L3'.out; omega) WFL.out HL0.out)
                  go_wp2_with fail
                  refine HC.out.mono ?_
                  clear HC
                  clear x30 x31 x32 x33 x34 x35 x36 x37
                  rintro e w5 ⟨v5, L5, rfl, hT5, hA5, hb⟩
                  obtain ⟨v5o, v5c, rfl⟩ := hT5.shape
                  have T5 := Lib.hid hT5; have A5 := Lib.hid hA5; clear hT5 hA5
                  obtain ⟨a5, ha5⟩ : ∃ a5, (if g3 = true then min a3 (now + last) else a3) = a5 := ⟨_, rfl⟩
                  rw [ha5]
                  have HA5 := Lib.hid ha5; clear ha5
                  replace Xs := Lib.hid (Xs.out.below hb Xs.out.lt)
                  replace Xc := Lib.hid (Xc.out.below hb Xc.out.lt)
                  replace Xo := Lib.hid (Xo.out.below hb Xo.out.lt)
                  replace Xk := Lib.hid (Xk.out.below hb Xk.out.lt)
                  replace Xq := Lib.hid (Xq.out.below hb Xq.out.lt)
                  replace Xr := Lib.hid (Xr.out.below hb Xr.out.lt)
                  replace TL := Lib.hid (TL.out.mono hb)
                  replace T3 := Lib.hid (T3.out.mono hb)
                  replace SC := Lib.hid (SC.out.mono hb)
                  replace SS := Lib.hid (SS.out.mono hb)
                  replace S3 := Lib.hid (S3.out.mono hb)
                  replace HB := Lib.hid (HB.out.trans (hb.mono HB.out.size))
                  clear hb
                  cases e3
                  · exact absurd HE3.out (by simp [inEx])
                  · have HNE := Lib.hid (show ¬ (inEx kind true = false ∧ L3 = []) from fun h => by have := HE3.out; rw [h.1] at this; cases this)
                    obtain ⟨x38, f38⟩ := Xq.out.at_ 0 (.bool true) rfl
                    obtain ⟨x39, f39⟩ := Xq.out.at_ 1 (.int .i64 a3) rfl
                    obtain ⟨x40, f40⟩ := Xq.out.at_ 2 (.slice v3o L3.length v3c) rfl
                    have x41 := (Xr.out.at_ 0 (.bool g3) rfl).1
                    have x42 := (Xr.out.at_ 1 (.slice u3o R3.length u3c) rfl).1
                    go_wp2_with fail
                    clear x38 f38 x39 f39 x40 f40 x41 x42
                    obtain ⟨V2, hV2⟩ : ∃ V2, V2 = (((w5.setCell ⟨w3.heap.size, 0, none⟩ (.bool true)).setCell ⟨w3.heap.size, 1, none⟩ (.int .i64 a5)).setCell ⟨w3.heap.size, 2, none⟩ (.slice v5o L5.length v5c)) := ⟨_, rfl⟩
                    rw [← hV2]
                    have nTLq := TL.out.ne_box Xq.out (ns3 _ _ _ _ _)
                    have nT3q := T3.out.ne_box Xq.out (ns3 _ _ _ _ _)
                    have nT5q := T5.out.ne_box Xq.out (ns3 _ _ _ _ _)
                    have nSCq := SC.out.ne_box Xq.out (ns3 _ _ _ _ _)
                    have nSSq := SS.out.ne_box Xq.out (ns3 _ _ _ _ _)
                    have nS3q := S3.out.ne_box Xq.out (ns3 _ _ _ _ _)
                    replace TL := Lib.hid (show Tms V2 _ _ from by rw [hV2]; exact (((TL.out.apart (p := ⟨w3.heap.size, 0, none⟩) nTLq (.bool true)).apart (p := ⟨w3.heap.size, 1, none⟩) nTLq (.int .i64 a5)).apart (p := ⟨w3.heap.size, 2, none⟩) nTLq (.slice v5o L5.length v5c)))
                    clear nTLq
                    replace T3 := Lib.hid (show Tms V2 _ _ from by rw [hV2]; exact (((T3.out.apart (p := ⟨w3.heap.size, 0, none⟩) nT3q (.bool true)).apart (p := ⟨w3.heap.size, 1, none⟩) nT3q (.int .i64 a5)).apart (p := ⟨w3.heap.size, 2, none⟩) nT3q (.slice v5o L5.length v5c)))
                    clear nT3q
                    replace T5 := Lib.hid (show Tms V2 _ _ from by rw [hV2]; exact (((T5.out.apart (p := ⟨w3.heap.size, 0, none⟩) nT5q (.bool true)).apart (p := ⟨w3.heap.size, 1, none⟩) nT5q (.int .i64 a5)).apart (p := ⟨w3.heap.size, 2, none⟩) nT5q (.slice v5o L5.length v5c)))
                    clear nT5q
                    replace SC := Lib.hid (show Strs V2 _ _ from by rw [hV2]; exact (((SC.out.apart' (p := ⟨w3.heap.size, 0, none⟩) nSCq (.bool true)).apart' (p := ⟨w3.heap.size, 1, none⟩) nSCq (.int .i64 a5)).apart' (p := ⟨w3.heap.size, 2, none⟩) nSCq (.slice v5o L5.length v5c)))
                    clear nSCq
                    replace SS := Lib.hid (show Strs V2 _ _ from by rw [hV2]; exact (((SS.out.apart' (p := ⟨w3.heap.size, 0, none⟩) nSSq (.bool true)).apart' (p := ⟨w3.heap.size, 1, none⟩) nSSq (.int .i64 a5)).apart' (p := ⟨w3.heap.size, 2, none⟩) nSSq (.slice v5o L5.length v5c)))
                    clear nSSq
                    replace S3 := Lib.hid (show Strs V2 _ _ from by rw [hV2]; exact (((S3.out.apart' (p := ⟨w3.heap.size, 0, none⟩) nS3q (.bool true)).apart' (p := ⟨w3.heap.size, 1, none⟩) nS3q (.int .i64 a5)).apart' (p := ⟨w3.heap.size, 2, none⟩) nS3q (.slice v5o L5.length v5c)))
                    clear nS3q
                    have HBn := Lib.hid (show Below w.heap.size w V2 from by rw [hV2]; exact (((HB.out.setCell (p := ⟨w3.heap.size, 0, none⟩) HQB.out.2.2.2.1 (.bool true)).setCell (p := ⟨w3.heap.size, 1, none⟩) HQB.out.2.2.2.1 (.int .i64 a5)).setCell (p := ⟨w3.heap.size, 2, none⟩) HQB.out.2.2.2.1 (.slice v5o L5.length v5c)))
                    have Xns := Lib.hid (show CBox V2 (w.heap.size) 24 #[.bool true, .int .i64 at', .slice vo L.length vc] from by rw [hV2]; simpa using (((Xs.out.far (p := ⟨w3.heap.size, 0, none⟩) HQB.out.1.1 (.bool true)).far (p := ⟨w3.heap.size, 1, none⟩) HQB.out.1.1 (.int .i64 a5)).far (p := ⟨w3.heap.size, 2, none⟩) HQB.out.1.1 (.slice v5o L5.length v5c)))
                    have Xnc := Lib.hid (show CBox V2 (w.heap.size + 1) 37 #[.int .i64 kind, .string g, .slice ro C.length rc] from by rw [hV2]; simpa using (((Xc.out.far (p := ⟨w3.heap.size, 0, none⟩) HQB.out.1.2.1 (.bool true)).far (p := ⟨w3.heap.size, 1, none⟩) HQB.out.1.2.1 (.int .i64 a5)).far (p := ⟨w3.heap.size, 2, none⟩) HQB.out.1.2.1 (.slice v5o L5.length v5c)))
                    have Xno := Lib.hid (show CBox V2 (w.heap.size + 1 + 1) 24 #[.bool false, .int .i64 0, .slice none 0 0] from by rw [hV2]; simpa using (((Xo.out.far (p := ⟨w3.heap.size, 0, none⟩) HQB.out.1.2.2.1 (.bool true)).far (p := ⟨w3.heap.size, 1, none⟩) HQB.out.1.2.2.1 (.int .i64 a5)).far (p := ⟨w3.heap.size, 2, none⟩) HQB.out.1.2.2.1 (.slice v5o L5.length v5c)))
                    have Xnk := Lib.hid (show CBox V2 (w.heap.size + 1 + 1 + 1) 47 #[.bool false, .slice none 0 0] from by rw [hV2]; simpa using (((Xk.out.far (p := ⟨w3.heap.size, 0, none⟩) HQB.out.1.2.2.2 (.bool true)).far (p := ⟨w3.heap.size, 1, none⟩) HQB.out.1.2.2.2 (.int .i64 a5)).far (p := ⟨w3.heap.size, 2, none⟩) HQB.out.1.2.2.2 (.slice v5o L5.length v5c)))
                    have Xnq := Lib.hid (show CBox V2 (w3.heap.size) 24 #[.bool true, .int .i64 a5, .slice v5o L5.length v5c] from by rw [hV2]; simpa using (((Xq.out.set 0 (.bool true)).set 1 (.int .i64 a5)).set 2 (.slice v5o L5.length v5c)))
                    have Xnr := Lib.hid (show CBox V2 (w3.heap.size + 1) 47 #[.bool g3, .slice u3o R3.length u3c] from by rw [hV2]; simpa using (((Xr.out.far (p := ⟨w3.heap.size, 0, none⟩) HQB.out.2.2.1.1 (.bool true)).far (p := ⟨w3.heap.size, 1, none⟩) HQB.out.2.2.1.1 (.int .i64 a5)).far (p := ⟨w3.heap.size, 2, none⟩) HQB.out.2.2.1.1 (.slice v5o L5.length v5c)))
                    replace Xs := Xns; clear Xns
                    replace Xc := Xnc; clear Xnc
                    replace Xo := Xno; clear Xno
                    replace Xk := Xnk; clear Xnk
                    replace Xq := Xnq; clear Xnq
                    replace Xr := Xnr; clear Xnr
                    replace HB := HBn; clear HBn
                    clear hV2
                    have x43 := (Xq.out.at_ 0 (.bool true) rfl).1
                    have x44 := (Xq.out.at_ 1 (.int .i64 a5) rfl).1
                    have x45 := (Xq.out.at_ 2 (.slice v5o L5.length v5c) rfl).1
                    have x46 := (Xr.out.at_ 0 (.bool g3) rfl).1
                    have x47 := (Xr.out.at_ 1 (.slice u3o R3.length u3c) rfl).1
                    obtain ⟨x48, f48⟩ := Xo.out.at_ 0 (.bool false) rfl
                    obtain ⟨x49, f49⟩ := Xo.out.at_ 1 (.int .i64 0) rfl
                    obtain ⟨x50, f50⟩ := Xo.out.at_ 2 (.slice none 0 0) rfl
                    obtain ⟨x51, f51⟩ := Xk.out.at_ 0 (.bool false) rfl
                    obtain ⟨x52, f52⟩ := Xk.out.at_ 1 (.slice none 0 0) rfl
                    have nTo := T5.out.ne_box Xo.out (ns3 _ _ _ _ _); have nTk := T5.out.ne_box Xk.out (ns2 _ _ _ _); have nSo := S3.out.ne_box Xo.out (ns3 _ _ _ _ _); have nSk := S3.out.ne_box Xk.out (ns2 _ _ _ _)
                    have NT := Lib.hid (fun hL b hb => And.intro (nTo hL b hb) (nTk hL b hb)); have NS := Lib.hid (fun hL b hb => And.intro (nSo hL b hb) (nSk hL b hb)); clear nTo nTk nSo nSk
                    obtain ⟨_, N1, N2, N3⟩ := HQB.out.1
                    have M1 := N1.symm; have M2 := N2.symm; have M3 := N3.symm
                    go_wp2_with fail
                    go_region
                    all_goals
                      go_wp2_with fail
                      obtain ⟨r0, r1, r2, r3, r4⟩ := boxes_end5 Xo.out Xk.out (.bool true) (.int .i64 a5) (.slice v5o L5.length v5c) (.bool g3) (.slice u3o R3.length u3c)
                      have hT := T5.out.end5' (lo := w.heap.size + 1 + 1) NT.out (.bool true) (.int .i64 a5) (.slice v5o L5.length v5c) (.bool g3) (.slice u3o R3.length u3c)
                      have hU := S3.out.end5' (lo := w.heap.size + 1 + 1) NS.out (.bool true) (.int .i64 a5) (.slice v5o L5.length v5c) (.bool g3) (.slice u3o R3.length u3c)
                      have hBB := below_end5' HB.out (lo := w.heap.size + 1 + 1) (Nat.le_add_right_of_le (Nat.le_add_right _ _)) (.bool true) (.int .i64 a5) (.slice v5o L5.length v5c) (.bool g3) (.slice u3o R3.length u3c)
                      refine bodyPost_ret (v := .tuple #[.agg #[.bool true, .int .i64 a5, .slice v5o L5.length v5c], .bool true, .agg #[.bool g3, .slice u3o R3.length u3c], .int .i64 0]) (by simp [results, Try.results21, go_sem, r0, r1, r2, r3, r4]) rfl (RR.out _ _ ⟨?_, .inr ⟨HVV.out, L3, A3.out, .inr (.inr ⟨hL3, HNE.out, _, L5, _, R3, by rw [HE3.out, HG3.out, HA3.out, HA5.out], ?_, ?_, R3'.out, A5.out⟩)⟩⟩)
                      · first | with_reducible exact hBB | with_reducible exact hBB.drew
                      · first | with_reducible exact hT | with_reducible exact hT.drew
                      · first | with_reducible exact hU | with_reducible exact hU.drew
                · have hL3 : 60 < L3.length := by have := of_decide_eq_true d4; omega
                  have x30 := (Xs.out.at_ 0 (.bool true) rfl).1
                  have x31 := (Xs.out.at_ 1 (.int .i64 at') rfl).1
                  have x32 := (Xs.out.at_ 2 (.slice vo L.length vc) rfl).1
                  have x33 := (Xq.out.at_ 0 (.bool e3) rfl).1
                  have x34 := (Xq.out.at_ 1 (.int .i64 a3) rfl).1
                  have x35 := (Xq.out.at_ 2 (.slice v3o L3.length v3c) rfl).1
                  have x36 := (Xr.out.at_ 0 (.bool g3) rfl).1
                  have x37 := (Xr.out.at_ 1 (.slice u3o R3.length u3c) rfl).1
                  obtain ⟨x38, f38⟩ := Xo.out.at_ 0 (.bool false) rfl
                  obtain ⟨x39, f39⟩ := Xo.out.at_ 1 (.int .i64 0) rfl
                  obtain ⟨x40, f40⟩ := Xo.out.at_ 2 (.slice none 0 0) rfl
                  obtain ⟨x41, f41⟩ := Xk.out.at_ 0 (.bool false) rfl
                  obtain ⟨x42, f42⟩ := Xk.out.at_ 1 (.slice none 0 0) rfl
                  go_wp2
                  obtain ⟨r0, r1, r2, r3, r4⟩ := boxes_end5 Xo.out Xk.out (.bool false) (.int .i64 0) (.slice none 0 0) (.bool false) (.slice none 0 0)
                  have hBB := below_end5' HB.out (lo := w.heap.size + 1 + 1) (Nat.le_add_right_of_le (Nat.le_add_right _ _)) (.bool false) (.int .i64 0) (.slice none 0 0) (.bool false) (.slice none 0 0)
                  refine bodyPost_ret (v := .tuple #[noState, .bool false, noAsk, .int .i64 1]) (by simp only [results, Try.results21, go_sem, noState, noAsk]; simp [go_sem, r0, r1, r2, r3, r4]) rfl (RR.out _ _ ⟨hBB, .inr ⟨HVV.out, L3, A3.out, .inl ⟨hL3, rfl⟩⟩⟩)
            · have hv : verdict true kind C.length now mem last = 1 := by have := of_decide_eq_true d3; simp [verdict, hm']; omega
              clear HD1 hm'
              have x4 := (Xc.out.at_ 0 (.int .i64 kind) rfl).1
              have x5 := (Xc.out.at_ 1 (.string g) rfl).1
              have x6 := (Xc.out.at_ 2 (.slice ro C.length rc) rfl).1
              have HV := Lib.hid hv; clear hv
              obtain ⟨x7, f7⟩ := Xo.out.at_ 0 (.bool false) rfl
              obtain ⟨x8, f8⟩ := Xo.out.at_ 1 (.int .i64 0) rfl
              obtain ⟨x9, f9⟩ := Xo.out.at_ 2 (.slice none 0 0) rfl
              obtain ⟨x10, f10⟩ := Xk.out.at_ 0 (.bool false) rfl
              obtain ⟨x11, f11⟩ := Xk.out.at_ 1 (.slice none 0 0) rfl
              go_wp2_with ((with_reducible refine (HM.out _).mono ?_); rintro e w2 ⟨rfl, hw2⟩; subst w2)
              obtain ⟨r0, r1, r2, r3, r4⟩ := boxes_end5 Xo.out Xk.out (.bool false) (.int .i64 0) (.slice none 0 0) (.bool false) (.slice none 0 0)
              have hBB := below_end5' HB.out (lo := w.heap.size + 1 + 1) (Nat.le_add_right_of_le (Nat.le_add_right _ _)) (.bool false) (.int .i64 0) (.slice none 0 0) (.bool false) (.slice none 0 0)
              refine bodyPost_ret (v := .tuple #[noState, .bool false, noAsk, .int .i64 1]) (by simp only [results, Try.results21, go_sem, noState, noAsk]; simp [go_sem, r0, r1, r2, r3, r4]) rfl ⟨hBB, by refine .inl ⟨?_, ?_⟩ <;> simp [HVP.out, HV.out]⟩
          · have hv : verdict true kind C.length now mem last = 1 := by have := of_decide_eq_true d2; simp [verdict, hm']; omega
            clear HD1 hm'
            have x4 := (Xc.out.at_ 0 (.int .i64 kind) rfl).1
            have x5 := (Xc.out.at_ 1 (.string g) rfl).1
            have x6 := (Xc.out.at_ 2 (.slice ro C.length rc) rfl).1
            have HV := Lib.hid hv; clear hv
            obtain ⟨x7, f7⟩ := Xo.out.at_ 0 (.bool false) rfl
            obtain ⟨x8, f8⟩ := Xo.out.at_ 1 (.int .i64 0) rfl
            obtain ⟨x9, f9⟩ := Xo.out.at_ 2 (.slice none 0 0) rfl
            obtain ⟨x10, f10⟩ := Xk.out.at_ 0 (.bool false) rfl
            obtain ⟨x11, f11⟩ := Xk.out.at_ 1 (.slice none 0 0) rfl
            go_wp2_with ((with_reducible refine (HM.out _).mono ?_); rintro e w2 ⟨rfl, hw2⟩; subst w2)
            obtain ⟨r0, r1, r2, r3, r4⟩ := boxes_end5 Xo.out Xk.out (.bool false) (.int .i64 0) (.slice none 0 0) (.bool false) (.slice none 0 0)
            have hBB := below_end5' HB.out (lo := w.heap.size + 1 + 1) (Nat.le_add_right_of_le (Nat.le_add_right _ _)) (.bool false) (.int .i64 0) (.slice none 0 0) (.bool false) (.slice none 0 0)
            refine bodyPost_ret (v := .tuple #[noState, .bool false, noAsk, .int .i64 1]) (by simp only [results, Try.results21, go_sem, noState, noAsk]; simp [go_sem, r0, r1, r2, r3, r4]) rfl ⟨hBB, by refine .inl ⟨?_, ?_⟩ <;> simp [HVP.out, HV.out]⟩
        · have hv : verdict true kind C.length now mem last = 1 := by have := of_decide_eq_true d1; simp [verdict, hm']; omega
          clear HD1 hm'
          have x4 := (Xc.out.at_ 0 (.int .i64 kind) rfl).1
          have x5 := (Xc.out.at_ 1 (.string g) rfl).1
          have x6 := (Xc.out.at_ 2 (.slice ro C.length rc) rfl).1
          have HV := Lib.hid hv; clear hv
          obtain ⟨x7, f7⟩ := Xo.out.at_ 0 (.bool false) rfl
          obtain ⟨x8, f8⟩ := Xo.out.at_ 1 (.int .i64 0) rfl
          obtain ⟨x9, f9⟩ := Xo.out.at_ 2 (.slice none 0 0) rfl
          obtain ⟨x10, f10⟩ := Xk.out.at_ 0 (.bool false) rfl
          obtain ⟨x11, f11⟩ := Xk.out.at_ 1 (.slice none 0 0) rfl
          go_wp2_with ((with_reducible refine (HM.out _).mono ?_); rintro e w2 ⟨rfl, hw2⟩; subst w2)
          obtain ⟨r0, r1, r2, r3, r4⟩ := boxes_end5 Xo.out Xk.out (.bool false) (.int .i64 0) (.slice none 0 0) (.bool false) (.slice none 0 0)
          have hBB := below_end5' HB.out (lo := w.heap.size + 1 + 1) (Nat.le_add_right_of_le (Nat.le_add_right _ _)) (.bool false) (.int .i64 0) (.slice none 0 0) (.bool false) (.slice none 0 0)
          refine bodyPost_ret (v := .tuple #[noState, .bool false, noAsk, .int .i64 1]) (by simp only [results, Try.results21, go_sem, noState, noAsk]; simp [go_sem, r0, r1, r2, r3, r4]) rfl ⟨hBB, by refine .inl ⟨?_, ?_⟩ <;> simp [HVP.out, HV.out]⟩
end Go.Proofs.Ytkphgonbbhlnfaa
