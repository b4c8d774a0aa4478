/- (*group.known).excepts: all but some sources are wanted. -/
import Derived.Test.YtkphgonbbhlnfaaGRefy
namespace Go.Proofs.Ytkphgonbbhlnfaa
open Go.RowKit Go.Lib Go.Maps Go.Sort

def excF (F : Str → Option Int) (S : List Str) (fr : Int) : Str → Option Int := fun a => if S.contains a then some ((F a).getD fr) else none
theorem excF_nil (F : Str → Option Int) (fr : Int) : excF F [] fr = fun _ => none := by funext a; simp [excF]
theorem excF_snoc (F : Str → Option Int) (S : List Str) (fr : Int) (k : Nat) (h : k < S.length) : excF F (S.take (k + 1)) fr = upd (excF F (S.take k) fr) S[k] ((F S[k]).getD fr) := by
  funext a
  unfold excF upd
  rw [mem_snoc S a k h]
  by_cases e : a = S[k]
  · subst e; simp
  · have e' : (S[k] == a) = false := by rw [beq_eq_false_iff_ne]; exact fun h => e h.symm
    rw [e', Bool.or_false, if_neg e]

theorem rises_only {F : Str → Option Int} {K : List Str} (h : KeysOf' F K) : Rises (runF F) (K.filter (runF F)) :=
  ⟨h.1.filter _, fun a => by rw [List.mem_filter, h.2]; exact ⟨fun h => h.2, fun h => ⟨runF_some h, h⟩⟩⟩

theorem CBox.drew {w : World} {b : Nat} {T : TypeId} {cs : Array Value} (h : CBox w b T cs) : CBox w.drew b T cs := h.below (Below.drew (Below.refl _ _)) h.lt
theorem Mp.drew {w : World} {b n : Nat} {F : Str → Option Int} (h : Mp w b n F) : Mp w.drew b n F := h.below (Below.drew (Below.refl _ _)) h.lt
theorem But.drew {w w' : World} {B b : Nat} (h : But w w' B b) : But w w'.drew B b := h.trans (But.of_below (Below.drew (Below.refl _ _)) B b)

def freshOf (ex t : Bool) (at' z : Int) : Int := if ex then (if t then at' else z) else 0

set_option maxRecDepth 20000 in
set_option maxHeartbeats 8000000 in
theorem excepts_any (ex : Bool) (at' : Int) (b n B : Nat) (F : Str → Option Int) (kind z : Int) (sv : Value) (S : List Str) (lo : Nat) (w : World) (hB : CBox w B 60 #[.bool ex, .int .i64 at', .map (some b)]) (h : Mp w b n F) (hn : n + S.length ≤ 8796093022200)
    (hS : Strs w sv S) (hl : Lies lo sv) (hBl : B < lo) (hbl : b < lo) (hz : (Lit.int .i64 z).wf = true) (ha' : (Lit.int .i64 at').wf = true) :
    Calls Try.prog 35 #[.pointer (some ⟨B, 0, none⟩), .agg #[.int .i64 kind, sv, .int .i64 z]] w (RetWork w B b true z (n + S.length) (excF F S (freshOf ex (kind == 4) at' z)) false (fun a => kind == 4 && runF (excF F S (freshOf ex (kind == 4) at' z)) a)) := by
  obtain ⟨so, sc, rfl⟩ := hS.shape
  obtain ⟨W0, hW0⟩ : ∃ W0, W0 = (w.alloc (.cells #[.int .i64 kind, .slice so S.length sc, .int .i64 z] 72)).alloc (.cells #[.bool false, .slice none 0 0] 44) := ⟨_, rfl⟩
  have hb0 : Below w.heap.size w W0 := by rw [hW0]; exact ((Below.refl _ _).alloc (Nat.le_refl _) _).alloc (by simp) _
  have hs0 : W0.heap.size = w.heap.size + 2 := by rw [hW0]; simp
  have s1 : CBox W0 w.heap.size 72 #[.int .i64 kind, .slice so S.length sc, .int .i64 z] := by rw [hW0]; exact (CBox.new _ rfl).old _
  have s2 : CBox W0 (w.heap.size + 1) 44 #[.bool false, .slice none 0 0] := by rw [hW0]; exact CBox.new _ (by simp)
  have hne := hB.ne_mp h
  obtain ⟨sb, soff, hsm, hslen, hsidx, hsc⟩ := hS.factsL hl
  have hsw := hS.len
  have hBw := hB.lt
  have hbw := h.lt
  have hbx := hB.below hb0 hB.lt
  have hm0 := h.below hb0 h.lt
  -- the map of its own
  obtain ⟨Wm, hWm⟩ : ∃ Wm, Wm = W0.alloc (.map #[] 0) := ⟨_, rfl⟩
  have hbm : Below W0.heap.size W0 Wm := by rw [hWm]; exact (Below.refl _ _).alloc (Nat.le_refl _) _
  have hsm' : Wm.heap.size = w.heap.size + 3 := by rw [hWm]; simp [hs0]
  have mk : Mp Wm (w.heap.size + 1 + 1) 0 (fun _ => none) := by
    have := Mp.made W0
    rw [hs0] at this
    rw [hWm]; exact this
  obtain ⟨W1, hW1⟩ : ∃ W1, W1 = Wm.setCell ⟨B, 2, none⟩ (.map (some (w.heap.size + 1 + 1))) := ⟨_, rfl⟩
  have hs1 : W1.heap.size = w.heap.size + 3 := by rw [hW1]; simp [hsm']
  have k1 : CBox W1 B 60 #[.bool ex, .int .i64 at', .map (some (w.heap.size + 1 + 1))] := by
    rw [hW1]; have := (hbx.below hbm (by omega)).set 2 (.map (some (w.heap.size + 1 + 1))); simpa using this
  have u1 : CBox W1 w.heap.size 72 #[.int .i64 kind, .slice so S.length sc, .int .i64 z] := by rw [hW1]; exact (s1.below hbm (by omega)).far (by simp; omega) _
  have a1 : CBox W1 (w.heap.size + 1) 44 #[.bool false, .slice none 0 0] := by rw [hW1]; exact (s2.below hbm (by omega)).far (by simp; omega) _
  have mo : Mp W1 b n F := by rw [hW1]; exact (hm0.below hbm hm0.lt).set (by simp; omega) _
  have mn : Mp W1 (w.heap.size + 1 + 1) 0 (fun _ => none) := by rw [hW1]; exact mk.set (by simp; omega) _
  have but1 : But w W1 B b := by rw [hW1]; exact (But.of_below (hb0.trans (hbm.mono hb0.size)) B b).set (.inl rfl) _
  have hcw : ∀ k, k < S.length → sb < w.heap.size ∧ W1.cell? ⟨sb, soff + k, none⟩ = some (encStr (S.getD k [])) := fun k hk =>
    have q := hsc k hk
    ⟨q.2.1, (World.cell?_of_block (w := w) (but1.2 sb q.2.1 (by omega) (by omega))).trans q.2.2⟩
  obtain ⟨x0, _⟩ := hbx.at_ 0 _ rfl
  obtain ⟨x1, _⟩ := hbx.at_ 1 _ rfl
  obtain ⟨x2, x2f⟩ := hbx.at_ 2 _ rfl
  obtain ⟨y0, _⟩ := s1.at_ 0 _ rfl
  obtain ⟨y1, _⟩ := s1.at_ 1 _ rfl
  obtain ⟨y2, _⟩ := s1.at_ 2 _ rfl
  have K1 := Lib.hid k1; have U1 := Lib.hid u1; have A1 := Lib.hid a1; have MO := Lib.hid mo; have BUT1 := Lib.hid but1; have HZ := Lib.hid hz; have HA := Lib.hid ha'
  have hmm := @run_makeMap Try.prog
  obtain ⟨fr, hfr⟩ : ∃ fr, freshOf ex (kind == 4) at' z = fr := ⟨_, rfl⟩
  rw [hfr]
  have HFW : Hid ((Lit.int .i64 fr).wf = true) := by
    rw [← hfr]; unfold freshOf
    cases ex
    · exact Lib.hid rfl
    · by_cases hk : (kind == 4) = true
      · simp [hk]; exact Lib.hid ha'
      · simp [hk]; exact Lib.hid hz
  have HFR := Lib.hid hfr
  clear hfr
  obtain ⟨t, ht⟩ : ∃ t, (kind == 4) = t := ⟨_, rfl⟩
  rw [ht] at HFR ⊢
  obtain ⟨q2, q2f⟩ := (hbx.below hbm (by omega)).at_ 2 _ rfl
  obtain ⟨r1, r1f⟩ := u1.at_ 1 _ rfl
  rw [hW0] at x0 x1 x2 x2f y0 y1 y2 hWm
  rw [hWm] at q2 q2f
  rw [hW1, hWm] at r1
  clear h hB hS hl hz ha' hb0 s1 s2 hbx hm0 hbm mk k1 u1 a1 mo but1 hsc
  go_enter Try.func35, Try.ntmps35
  cases ex <;> cases t
  · have hh : (0 : Int) = fr := HFR.out
    subst hh
    go_wp2_with fail
    rw [← hWm, ← hW1]
    clear x0 x1 x2 x2f y0 y1 y2 q2 q2f r1 hWm hW1 hW0 HFR
    go_loopw [35] (fun i wr => ∃ k : Nat, k ≤ S.length ∧ i = .int .i64 k ∧ Mp wr (w.heap.size + 1 + 1) k (excF F (S.take k) (0 : Int)) ∧ W1.grownBy wr (some (w.heap.size + 1 + 1))) (fun i _ => S.length - (intOf i).toNat)
    case atStart => exact ⟨0, Nat.zero_le _, rfl, by rw [List.take_zero, excF_nil]; exact mn, World.grownBy.refl _ _⟩
    case round =>
      clear mn
      obtain ⟨k, hk, rfl, hm, hg⟩ := hrel
      have tB := K1.out.grown hg (fun e => by injection e with e; omega)
      have tU := U1.out.grown hg (fun e => by injection e with e; omega)
      have tA := A1.out.grown hg (fun e => by injection e with e; omega)
      have tO := MO.out.kept hg (fun e => by injection e with e; omega)
      obtain ⟨a0, f0⟩ := tB.at_ 0 _ rfl
      obtain ⟨a1, f1⟩ := tB.at_ 1 _ rfl
      obtain ⟨a2, f2⟩ := tB.at_ 2 _ rfl
      obtain ⟨c0, _⟩ := tU.at_ 0 _ rfl
      obtain ⟨c2, _⟩ := tU.at_ 2 _ rfl
      have HG := Lib.hid hg; have TB := Lib.hid tB; have TA := Lib.hid tA; have TU := Lib.hid tU; have HMR := Lib.hid hm
      have hwr : w.heap.size + 1 + 1 < wr.heap.size := hm.lt
      by_cases hlt : k < S.length
      · obtain ⟨lb2, hcell⟩ := hcw k hlt
        have HE := Lib.hid (excF_snoc F S (0 : Int) k hlt)
        obtain ⟨a, ha⟩ : ∃ a, S[k] = a := ⟨_, rfl⟩
        have hal : a.length ≤ maxLen := by rw [← ha]; exact hsw _ (List.getElem_mem hlt)
        rw [show S.getD k [] = a from by rw [← ha]; simp [List.getD_eq_getElem?_getD, hlt], enc_bstr] at hcell
        rw [ha] at HE
        have hc : wr.cell? ⟨sb, soff + k, none⟩ = some (.string (bstr a)) := hg.cell hcell (fun e => by injection e with e; simp at e; omega)
        have hp := hsidx k hlt
        have hget := tO.getOk a hal
        have HWA := Lib.hid (fun v (hv : F a = some v) => tO.wf a hal v hv)
        obtain ⟨o, ho⟩ : ∃ o, F a = o := ⟨_, rfl⟩
        rw [ho] at hget HE HWA
        clear hsidx hcw hsw ha hcell hg tB tU tA tO ho
        cases o
        · simp only [Option.getD_none, Option.isSome_none] at hget
          obtain ⟨w2, hrun, hm2, hg2⟩ := hm.put a hal (0 : Int) HFW.out (by unfold maxLen; omega)
          have HM2 := Lib.hid hm2; have HG2 := Lib.hid hg2
          clear hm hm2 hg2 HWA
          go_wp2_with fail
          go_roundw
          case rel => exact ⟨k + 1, by omega, by go_num, by rw [HE.out]; exact HM2.out, HG.out.trans HG2.out⟩
          case measure => simp [intOf]; omega
        · rename_i c
          simp only [Option.getD_some, Option.isSome_some] at hget
          obtain ⟨w2, hrun, hm2, hg2⟩ := hm.put a hal c (HWA.out c rfl) (by unfold maxLen; omega)
          have HM2 := Lib.hid hm2; have HG2 := Lib.hid hg2
          clear hm hm2 hg2 HWA
          go_wp2_with fail
          go_roundw
          case rel => exact ⟨k + 1, by omega, by go_num, by rw [HE.out]; exact HM2.out, HG.out.trans HG2.out⟩
          case measure => simp [intOf]; omega
      · have HT := Lib.hid (show S.take k = S from List.take_of_length_le (by omega))
        have hk' : k = S.length := by omega
        have HMM := Lib.hid (show Mp wr (w.heap.size + 1 + 1) S.length (excF F S (0 : Int)) from by have := HMR.out; rw [HT.out, hk'] at this; exact this)
        have HBT := Lib.hid (BUT1.out.grown HG.out (fun j e => by injection e with e; exact .inr (.inr (by omega))))
        obtain ⟨g0, g0f⟩ := tA.at_ 0 _ rfl
        obtain ⟨g1, g1f⟩ := tA.at_ 1 _ rfl
        clear hsidx hcw hsw hm hg tB tU tA tO
        go_wp2_with fail
        go_region
        all_goals
          go_wp2_with fail
          have RR := fun u0 u1 u2 u3 => ((((TA.out.far (p := ⟨B, 0, none⟩) (by simp; omega) u0).far (p := ⟨B, 1, none⟩) (by simp; omega) u1).set 0 u2).set 1 u3)
          have r0 := fun u0 u1 u2 u3 => ((RR u0 u1 u2 u3).at_ 0 _ rfl).1
          have r1 := fun u0 u1 u2 u3 => ((RR u0 u1 u2 u3).at_ 1 _ rfl).1
          refine bodyPost_ret (v := .agg #[.bool false, .slice none 0 0]) (by simp [results, Try.results35, go_sem, r0, r1]) rfl ⟨w.heap.size + 1 + 1, _, [], w.heap.size + 3, rfl, Strs.nil _, rises_nil (fun _ => rfl), by simp, fun j hj => by simp [Value.ownBlock] at hj, by omega, by omega, .inr (by omega), ?_, ?_, ?_⟩
          · exact ((((TB.out.set 0 (.bool true)).set 1 (.int .i64 z)).far (p := ⟨w.heap.size + 1, 0, none⟩) (by simp; omega) _).far (p := ⟨w.heap.size + 1, 1, none⟩) (by simp; omega) _).drew
          · exact (((((HMM.out.set (by simp; omega) _).set (by simp; omega) _).set (by simp) _).set (by simp) _).drew).up (by omega)
          · exact ((((HBT.out.set (.inl rfl) _).set (.inl rfl) _).set (.inr (by simp)) _).set (.inr (by simp)) _).drew
  · have hh : (0 : Int) = fr := HFR.out
    subst hh
    go_wp2_with fail
    rw [← hWm, ← hW1]
    clear x0 x1 x2 x2f y0 y1 y2 q2 q2f r1 hWm hW1 hW0 HFR
    go_loopw [35] (fun i wr => ∃ k : Nat, k ≤ S.length ∧ i = .int .i64 k ∧ Mp wr (w.heap.size + 1 + 1) k (excF F (S.take k) (0 : Int)) ∧ W1.grownBy wr (some (w.heap.size + 1 + 1))) (fun i _ => S.length - (intOf i).toNat)
    case atStart => exact ⟨0, Nat.zero_le _, rfl, by rw [List.take_zero, excF_nil]; exact mn, World.grownBy.refl _ _⟩
    case round =>
      clear mn
      obtain ⟨k, hk, rfl, hm, hg⟩ := hrel
      have tB := K1.out.grown hg (fun e => by injection e with e; omega)
      have tU := U1.out.grown hg (fun e => by injection e with e; omega)
      have tA := A1.out.grown hg (fun e => by injection e with e; omega)
      have tO := MO.out.kept hg (fun e => by injection e with e; omega)
      obtain ⟨a0, f0⟩ := tB.at_ 0 _ rfl
      obtain ⟨a1, f1⟩ := tB.at_ 1 _ rfl
      obtain ⟨a2, f2⟩ := tB.at_ 2 _ rfl
      obtain ⟨c0, _⟩ := tU.at_ 0 _ rfl
      obtain ⟨c2, _⟩ := tU.at_ 2 _ rfl
      have HG := Lib.hid hg; have TB := Lib.hid tB; have TA := Lib.hid tA; have TU := Lib.hid tU; have HMR := Lib.hid hm
      have hwr : w.heap.size + 1 + 1 < wr.heap.size := hm.lt
      by_cases hlt : k < S.length
      · obtain ⟨lb2, hcell⟩ := hcw k hlt
        have HE := Lib.hid (excF_snoc F S (0 : Int) k hlt)
        obtain ⟨a, ha⟩ : ∃ a, S[k] = a := ⟨_, rfl⟩
        have hal : a.length ≤ maxLen := by rw [← ha]; exact hsw _ (List.getElem_mem hlt)
        rw [show S.getD k [] = a from by rw [← ha]; simp [List.getD_eq_getElem?_getD, hlt], enc_bstr] at hcell
        rw [ha] at HE
        have hc : wr.cell? ⟨sb, soff + k, none⟩ = some (.string (bstr a)) := hg.cell hcell (fun e => by injection e with e; simp at e; omega)
        have hp := hsidx k hlt
        have hget := tO.getOk a hal
        have HWA := Lib.hid (fun v (hv : F a = some v) => tO.wf a hal v hv)
        obtain ⟨o, ho⟩ : ∃ o, F a = o := ⟨_, rfl⟩
        rw [ho] at hget HE HWA
        clear hsidx hcw hsw ha hcell hg tB tU tA tO ho
        cases o
        · simp only [Option.getD_none, Option.isSome_none] at hget
          obtain ⟨w2, hrun, hm2, hg2⟩ := hm.put a hal (0 : Int) HFW.out (by unfold maxLen; omega)
          have HM2 := Lib.hid hm2; have HG2 := Lib.hid hg2
          clear hm hm2 hg2 HWA
          go_wp2_with fail
          go_roundw
          case rel => exact ⟨k + 1, by omega, by go_num, by rw [HE.out]; exact HM2.out, HG.out.trans HG2.out⟩
          case measure => simp [intOf]; omega
        · rename_i c
          simp only [Option.getD_some, Option.isSome_some] at hget
          obtain ⟨w2, hrun, hm2, hg2⟩ := hm.put a hal c (HWA.out c rfl) (by unfold maxLen; omega)
          have HM2 := Lib.hid hm2; have HG2 := Lib.hid hg2
          clear hm hm2 hg2 HWA
          go_wp2_with fail
          go_roundw
          case rel => exact ⟨k + 1, by omega, by go_num, by rw [HE.out]; exact HM2.out, HG.out.trans HG2.out⟩
          case measure => simp [intOf]; omega
      · have HT := Lib.hid (show S.take k = S from List.take_of_length_le (by omega))
        have hk' : k = S.length := by omega
        have HMM := Lib.hid (show Mp wr (w.heap.size + 1 + 1) S.length (excF F S (0 : Int)) from by have := HMR.out; rw [HT.out, hk'] at this; exact this)
        have HBT := Lib.hid (BUT1.out.grown HG.out (fun j e => by injection e with e; exact .inr (.inr (by omega))))
        obtain ⟨g0, g0f⟩ := tA.at_ 0 _ rfl
        obtain ⟨g1, g1f⟩ := tA.at_ 1 _ rfl
        have hbr := tB.lt
        have HR := Lib.hid (running_any false at' (w.heap.size + 1 + 1) S.length (excF F S (0 : Int)) wr HMM.out (by omega))
        clear hsidx hcw hsw hm hg tB tU tA tO
        go_wp2_with fail
        refine HR.out.mono ?_
        rintro e w2 ⟨K, hks, hkn, o, rfl, ho, hb2, hlo⟩
        obtain ⟨oo, oc, rfl⟩ := ho.shape
        have tB2 := TB.out.below hb2 hbr
        have tA2 := TA.out.below hb2 TA.out.lt
        have tU2 := TU.out.below hb2 TU.out.lt
        obtain ⟨d0, d0f⟩ := tB2.at_ 0 _ rfl
        obtain ⟨d1, d1f⟩ := tB2.at_ 1 _ rfl
        obtain ⟨e0, e0f⟩ := tA2.at_ 0 _ rfl
        obtain ⟨e1, e1f⟩ := tA2.at_ 1 _ rfl
        obtain ⟨e2, e2f⟩ := tU2.at_ 2 _ rfl
        have HKS := Lib.hid hks; have HKN := Lib.hid hkn; have HO := Lib.hid ho; have HLO := Lib.hid hlo; have HB2 := Lib.hid hb2
        have TB2 := Lib.hid tB2; have TA2 := Lib.hid tA2
        clear hks hkn ho hlo hb2 tB2 tA2 tU2 HR a0 a1 a2 f0 f1 f2 c0 c2 g0 g1 g0f g1f
        go_wp2_with fail
        go_region
        all_goals
          go_wp2_with fail
          have RR := fun u4 u0 u1 u2 u3 => (((((TA2.out.set 1 u4).far (p := ⟨B, 0, none⟩) (by simp; omega) u0).far (p := ⟨B, 1, none⟩) (by simp; omega) u1).set 0 u2).set 1 u3)
          have r0 := fun u4 u0 u1 u2 u3 => ((RR u4 u0 u1 u2 u3).at_ 0 _ rfl).1
          have r1 := fun u4 u0 u1 u2 u3 => ((RR u4 u0 u1 u2 u3).at_ 1 _ rfl).1
          have hL := HLO.out.mono (lo' := w.heap.size + 3) (by omega)
          refine bodyPost_ret (v := .agg #[.bool false, .slice oo (K.filter (runF (excF F S (0 : Int)))).length oc]) (by simp [results, Try.results35, go_sem, r0, r1]) rfl ⟨w.heap.size + 1 + 1, _, K.filter (runF (excF F S (0 : Int))), w.heap.size + 3, rfl, ?_, ?_, ?_, hL, by omega, by omega, .inr (by omega), ?_, ?_, ?_⟩
          · exact (((((HO.out.far hL (by simp) _).far hL (by simp; omega) _).far hL (by simp; omega) _).far hL (by simp) _).far hL (by simp) _).mono (Below.drew (Below.refl _ _))
          · have := rises_only HKS.out
            simp only [Bool.true_and]; exact this
          · have h1 := List.length_filter_le (runF (excF F S (0 : Int))) K
            have h2 := HKN.out
            omega
          · exact (((((TB2.out.far (p := ⟨w.heap.size + 1, 1, none⟩) (by simp; omega) _).set 0 (.bool true)).set 1 (.int .i64 z)).far (p := ⟨w.heap.size + 1, 0, none⟩) (by simp; omega) _).far (p := ⟨w.heap.size + 1, 1, none⟩) (by simp; omega) _).drew
          · exact ((((((HMM.out.below HB2.out HMM.out.lt).set (by simp) _).set (by simp; omega) _).set (by simp; omega) _).set (by simp) _).set (by simp) _).drew.up (by omega)
          · exact (((((((HBT.out.trans (But.of_below HB2.out B b)).set (.inr (by simp)) _).set (.inl rfl) _).set (.inl rfl) _).set (.inr (by simp)) _).set (.inr (by simp)) _)).drew
  · have hh : z = fr := HFR.out
    subst hh
    go_wp2_with fail
    rw [← hWm, ← hW1]
    clear x0 x1 x2 x2f y0 y1 y2 q2 q2f r1 hWm hW1 hW0 HFR
    go_loopw [35] (fun i wr => ∃ k : Nat, k ≤ S.length ∧ i = .int .i64 k ∧ Mp wr (w.heap.size + 1 + 1) k (excF F (S.take k) z) ∧ W1.grownBy wr (some (w.heap.size + 1 + 1))) (fun i _ => S.length - (intOf i).toNat)
    case atStart => exact ⟨0, Nat.zero_le _, rfl, by rw [List.take_zero, excF_nil]; exact mn, World.grownBy.refl _ _⟩
    case round =>
      clear mn
      obtain ⟨k, hk, rfl, hm, hg⟩ := hrel
      have tB := K1.out.grown hg (fun e => by injection e with e; omega)
      have tU := U1.out.grown hg (fun e => by injection e with e; omega)
      have tA := A1.out.grown hg (fun e => by injection e with e; omega)
      have tO := MO.out.kept hg (fun e => by injection e with e; omega)
      obtain ⟨a0, f0⟩ := tB.at_ 0 _ rfl
      obtain ⟨a1, f1⟩ := tB.at_ 1 _ rfl
      obtain ⟨a2, f2⟩ := tB.at_ 2 _ rfl
      obtain ⟨c0, _⟩ := tU.at_ 0 _ rfl
      obtain ⟨c2, _⟩ := tU.at_ 2 _ rfl
      have HG := Lib.hid hg; have TB := Lib.hid tB; have TA := Lib.hid tA; have TU := Lib.hid tU; have HMR := Lib.hid hm
      have hwr : w.heap.size + 1 + 1 < wr.heap.size := hm.lt
      by_cases hlt : k < S.length
      · obtain ⟨lb2, hcell⟩ := hcw k hlt
        have HE := Lib.hid (excF_snoc F S z k hlt)
        obtain ⟨a, ha⟩ : ∃ a, S[k] = a := ⟨_, rfl⟩
        have hal : a.length ≤ maxLen := by rw [← ha]; exact hsw _ (List.getElem_mem hlt)
        rw [show S.getD k [] = a from by rw [← ha]; simp [List.getD_eq_getElem?_getD, hlt], enc_bstr] at hcell
        rw [ha] at HE
        have hc : wr.cell? ⟨sb, soff + k, none⟩ = some (.string (bstr a)) := hg.cell hcell (fun e => by injection e with e; simp at e; omega)
        have hp := hsidx k hlt
        have hget := tO.getOk a hal
        have HWA := Lib.hid (fun v (hv : F a = some v) => tO.wf a hal v hv)
        obtain ⟨o, ho⟩ : ∃ o, F a = o := ⟨_, rfl⟩
        rw [ho] at hget HE HWA
        clear hsidx hcw hsw ha hcell hg tB tU tA tO ho
        cases o
        · simp only [Option.getD_none, Option.isSome_none] at hget
          obtain ⟨w2, hrun, hm2, hg2⟩ := hm.put a hal z HFW.out (by unfold maxLen; omega)
          have HM2 := Lib.hid hm2; have HG2 := Lib.hid hg2
          clear hm hm2 hg2 HWA
          go_wp2_with fail
          go_roundw
          case rel => exact ⟨k + 1, by omega, by go_num, by rw [HE.out]; exact HM2.out, HG.out.trans HG2.out⟩
          case measure => simp [intOf]; omega
        · rename_i c
          simp only [Option.getD_some, Option.isSome_some] at hget
          obtain ⟨w2, hrun, hm2, hg2⟩ := hm.put a hal c (HWA.out c rfl) (by unfold maxLen; omega)
          have HM2 := Lib.hid hm2; have HG2 := Lib.hid hg2
          clear hm hm2 hg2 HWA
          go_wp2_with fail
          go_roundw
          case rel => exact ⟨k + 1, by omega, by go_num, by rw [HE.out]; exact HM2.out, HG.out.trans HG2.out⟩
          case measure => simp [intOf]; omega
      · have HT := Lib.hid (show S.take k = S from List.take_of_length_le (by omega))
        have hk' : k = S.length := by omega
        have HMM := Lib.hid (show Mp wr (w.heap.size + 1 + 1) S.length (excF F S z) from by have := HMR.out; rw [HT.out, hk'] at this; exact this)
        have HBT := Lib.hid (BUT1.out.grown HG.out (fun j e => by injection e with e; exact .inr (.inr (by omega))))
        obtain ⟨g0, g0f⟩ := tA.at_ 0 _ rfl
        obtain ⟨g1, g1f⟩ := tA.at_ 1 _ rfl
        clear hsidx hcw hsw hm hg tB tU tA tO
        go_wp2_with fail
        go_region
        all_goals
          go_wp2_with fail
          have RR := fun u0 u1 u2 u3 => ((((TA.out.far (p := ⟨B, 0, none⟩) (by simp; omega) u0).far (p := ⟨B, 1, none⟩) (by simp; omega) u1).set 0 u2).set 1 u3)
          have r0 := fun u0 u1 u2 u3 => ((RR u0 u1 u2 u3).at_ 0 _ rfl).1
          have r1 := fun u0 u1 u2 u3 => ((RR u0 u1 u2 u3).at_ 1 _ rfl).1
          refine bodyPost_ret (v := .agg #[.bool false, .slice none 0 0]) (by simp [results, Try.results35, go_sem, r0, r1]) rfl ⟨w.heap.size + 1 + 1, _, [], w.heap.size + 3, rfl, Strs.nil _, rises_nil (fun _ => rfl), by simp, fun j hj => by simp [Value.ownBlock] at hj, by omega, by omega, .inr (by omega), ?_, ?_, ?_⟩
          · exact ((((TB.out.set 0 (.bool true)).set 1 (.int .i64 z)).far (p := ⟨w.heap.size + 1, 0, none⟩) (by simp; omega) _).far (p := ⟨w.heap.size + 1, 1, none⟩) (by simp; omega) _).drew
          · exact (((((HMM.out.set (by simp; omega) _).set (by simp; omega) _).set (by simp) _).set (by simp) _).drew).up (by omega)
          · exact ((((HBT.out.set (.inl rfl) _).set (.inl rfl) _).set (.inr (by simp)) _).set (.inr (by simp)) _).drew
  · have hh : at' = fr := HFR.out
    subst hh
    go_wp2_with fail
    rw [← hWm, ← hW1]
    clear x0 x1 x2 x2f y0 y1 y2 q2 q2f r1 hWm hW1 hW0 HFR
    go_loopw [35] (fun i wr => ∃ k : Nat, k ≤ S.length ∧ i = .int .i64 k ∧ Mp wr (w.heap.size + 1 + 1) k (excF F (S.take k) at') ∧ W1.grownBy wr (some (w.heap.size + 1 + 1))) (fun i _ => S.length - (intOf i).toNat)
    case atStart => exact ⟨0, Nat.zero_le _, rfl, by rw [List.take_zero, excF_nil]; exact mn, World.grownBy.refl _ _⟩
    case round =>
      clear mn
      obtain ⟨k, hk, rfl, hm, hg⟩ := hrel
      have tB := K1.out.grown hg (fun e => by injection e with e; omega)
      have tU := U1.out.grown hg (fun e => by injection e with e; omega)
      have tA := A1.out.grown hg (fun e => by injection e with e; omega)
      have tO := MO.out.kept hg (fun e => by injection e with e; omega)
      obtain ⟨a0, f0⟩ := tB.at_ 0 _ rfl
      obtain ⟨a1, f1⟩ := tB.at_ 1 _ rfl
      obtain ⟨a2, f2⟩ := tB.at_ 2 _ rfl
      obtain ⟨c0, _⟩ := tU.at_ 0 _ rfl
      obtain ⟨c2, _⟩ := tU.at_ 2 _ rfl
      have HG := Lib.hid hg; have TB := Lib.hid tB; have TA := Lib.hid tA; have TU := Lib.hid tU; have HMR := Lib.hid hm
      have hwr : w.heap.size + 1 + 1 < wr.heap.size := hm.lt
      by_cases hlt : k < S.length
      · obtain ⟨lb2, hcell⟩ := hcw k hlt
        have HE := Lib.hid (excF_snoc F S at' k hlt)
        obtain ⟨a, ha⟩ : ∃ a, S[k] = a := ⟨_, rfl⟩
        have hal : a.length ≤ maxLen := by rw [← ha]; exact hsw _ (List.getElem_mem hlt)
        rw [show S.getD k [] = a from by rw [← ha]; simp [List.getD_eq_getElem?_getD, hlt], enc_bstr] at hcell
        rw [ha] at HE
        have hc : wr.cell? ⟨sb, soff + k, none⟩ = some (.string (bstr a)) := hg.cell hcell (fun e => by injection e with e; simp at e; omega)
        have hp := hsidx k hlt
        have hget := tO.getOk a hal
        have HWA := Lib.hid (fun v (hv : F a = some v) => tO.wf a hal v hv)
        obtain ⟨o, ho⟩ : ∃ o, F a = o := ⟨_, rfl⟩
        rw [ho] at hget HE HWA
        clear hsidx hcw hsw ha hcell hg tB tU tA tO ho
        cases o
        · simp only [Option.getD_none, Option.isSome_none] at hget
          obtain ⟨w2, hrun, hm2, hg2⟩ := hm.put a hal at' HFW.out (by unfold maxLen; omega)
          have HM2 := Lib.hid hm2; have HG2 := Lib.hid hg2
          clear hm hm2 hg2 HWA
          go_wp2_with fail
          go_roundw
          case rel => exact ⟨k + 1, by omega, by go_num, by rw [HE.out]; exact HM2.out, HG.out.trans HG2.out⟩
          case measure => simp [intOf]; omega
        · rename_i c
          simp only [Option.getD_some, Option.isSome_some] at hget
          obtain ⟨w2, hrun, hm2, hg2⟩ := hm.put a hal c (HWA.out c rfl) (by unfold maxLen; omega)
          have HM2 := Lib.hid hm2; have HG2 := Lib.hid hg2
          clear hm hm2 hg2 HWA
          go_wp2_with fail
          go_roundw
          case rel => exact ⟨k + 1, by omega, by go_num, by rw [HE.out]; exact HM2.out, HG.out.trans HG2.out⟩
          case measure => simp [intOf]; omega
      · have HT := Lib.hid (show S.take k = S from List.take_of_length_le (by omega))
        have hk' : k = S.length := by omega
        have HMM := Lib.hid (show Mp wr (w.heap.size + 1 + 1) S.length (excF F S at') from by have := HMR.out; rw [HT.out, hk'] at this; exact this)
        have HBT := Lib.hid (BUT1.out.grown HG.out (fun j e => by injection e with e; exact .inr (.inr (by omega))))
        obtain ⟨g0, g0f⟩ := tA.at_ 0 _ rfl
        obtain ⟨g1, g1f⟩ := tA.at_ 1 _ rfl
        have hbr := tB.lt
        have HR := Lib.hid (running_any true at' (w.heap.size + 1 + 1) S.length (excF F S at') wr HMM.out (by omega))
        clear hsidx hcw hsw hm hg tB tU tA tO
        go_wp2_with fail
        refine HR.out.mono ?_
        rintro e w2 ⟨K, hks, hkn, o, rfl, ho, hb2, hlo⟩
        obtain ⟨oo, oc, rfl⟩ := ho.shape
        have tB2 := TB.out.below hb2 hbr
        have tA2 := TA.out.below hb2 TA.out.lt
        have tU2 := TU.out.below hb2 TU.out.lt
        obtain ⟨d0, d0f⟩ := tB2.at_ 0 _ rfl
        obtain ⟨d1, d1f⟩ := tB2.at_ 1 _ rfl
        obtain ⟨e0, e0f⟩ := tA2.at_ 0 _ rfl
        obtain ⟨e1, e1f⟩ := tA2.at_ 1 _ rfl
        obtain ⟨e2, e2f⟩ := tU2.at_ 2 _ rfl
        have HKS := Lib.hid hks; have HKN := Lib.hid hkn; have HO := Lib.hid ho; have HLO := Lib.hid hlo; have HB2 := Lib.hid hb2
        have TB2 := Lib.hid tB2; have TA2 := Lib.hid tA2
        clear hks hkn ho hlo hb2 tB2 tA2 tU2 HR a0 a1 a2 f0 f1 f2 c0 c2 g0 g1 g0f g1f
        go_wp2_with fail
        go_region
        all_goals
          go_wp2_with fail
          have RR := fun u4 u0 u1 u2 u3 => (((((TA2.out.set 1 u4).far (p := ⟨B, 0, none⟩) (by simp; omega) u0).far (p := ⟨B, 1, none⟩) (by simp; omega) u1).set 0 u2).set 1 u3)
          have r0 := fun u4 u0 u1 u2 u3 => ((RR u4 u0 u1 u2 u3).at_ 0 _ rfl).1
          have r1 := fun u4 u0 u1 u2 u3 => ((RR u4 u0 u1 u2 u3).at_ 1 _ rfl).1
          have hL := HLO.out.mono (lo' := w.heap.size + 3) (by omega)
          refine bodyPost_ret (v := .agg #[.bool false, .slice oo (K.filter (runF (excF F S at'))).length oc]) (by simp [results, Try.results35, go_sem, r0, r1]) rfl ⟨w.heap.size + 1 + 1, _, K.filter (runF (excF F S at')), w.heap.size + 3, rfl, ?_, ?_, ?_, hL, by omega, by omega, .inr (by omega), ?_, ?_, ?_⟩
          · exact (((((HO.out.far hL (by simp) _).far hL (by simp; omega) _).far hL (by simp; omega) _).far hL (by simp) _).far hL (by simp) _).mono (Below.drew (Below.refl _ _))
          · have := rises_only HKS.out
            simp only [Bool.true_and]; exact this
          · have h1 := List.length_filter_le (runF (excF F S at')) K
            have h2 := HKN.out
            omega
          · exact (((((TB2.out.far (p := ⟨w.heap.size + 1, 1, none⟩) (by simp; omega) _).set 0 (.bool true)).set 1 (.int .i64 z)).far (p := ⟨w.heap.size + 1, 0, none⟩) (by simp; omega) _).far (p := ⟨w.heap.size + 1, 1, none⟩) (by simp; omega) _).drew
          · exact ((((((HMM.out.below HB2.out HMM.out.lt).set (by simp) _).set (by simp; omega) _).set (by simp; omega) _).set (by simp) _).set (by simp) _).drew.up (by omega)
          · exact (((((((HBT.out.trans (But.of_below HB2.out B b)).set (.inr (by simp)) _).set (.inl rfl) _).set (.inl rfl) _).set (.inr (by simp)) _).set (.inr (by simp)) _)).drew
end Go.Proofs.Ytkphgonbbhlnfaa
