/- (*group.known).refuses at a state with Except. -/
import Derived.Test.YtkphgonbbhlnfaaGRefu
namespace Go.Proofs.Ytkphgonbbhlnfaa
open Go.RowKit Go.Lib Go.Maps Go.Sort

def notBlk (F : Str → Option Int) (a : Str) : Bool := !(F a == some 0)

set_option maxRecDepth 20000 in
set_option maxHeartbeats 4000000 in
theorem refuses_yes (at' : Int) (b n B : Nat) (F : Str → Option Int) (kind z : Int) (sv : Value) (S : List Str) (lo : Nat) (w : World) (hB : CBox w B 60 #[.bool true, .int .i64 at', .map (some b)]) (h : Mp w b n F) (hn : n + S.length ≤ 8796093022200)
    (hS : Strs w sv S) (hr : S.Pairwise (· < ·)) (hl : Lies lo sv) (_hBl : B < lo) (_hbl : b < lo) (hz : (Lit.int .i64 at').wf = true) :
    Calls Try.prog 34 #[.pointer (some ⟨B, 0, none⟩), .agg #[.int .i64 kind, sv, .int .i64 z]] w (RetWork w B b true at' (n + S.length) (fillF F (S.filter (notBlk F)) at') false (fun a => S.contains a && notBlk F a)) := by
  obtain ⟨so, sc, rfl⟩ := hS.shape
  obtain ⟨W0, hW0⟩ : ∃ W0, W0 = ((w.alloc (.cells #[.pointer (some ⟨B, 0, none⟩)] 82)).alloc (.cells #[.int .i64 kind, .slice so S.length sc, .int .i64 z] 72)).alloc (.cells #[.bool false, .slice none 0 0] 44) := ⟨_, rfl⟩
  have hb0 : Below w.heap.size w W0 := by rw [hW0]; exact (((Below.refl _ _).alloc (Nat.le_refl _) _).alloc (by simp) _).alloc (by simp <;> omega) _
  have hs0 : W0.heap.size = w.heap.size + 3 := by rw [hW0]; simp
  have s0 : CBox W0 w.heap.size 82 #[.pointer (some ⟨B, 0, none⟩)] := by rw [hW0]; exact ((CBox.new _ rfl).old _).old _
  have s2 : CBox W0 (w.heap.size + 1 + 1) 44 #[.bool false, .slice none 0 0] := by rw [hW0]; exact CBox.new _ (by simp)
  have hne := hB.ne_mp h
  have hBw := hB.lt
  have hbw := h.lt
  have HM := Lib.hid (h.below hb0 h.lt); have HBX := Lib.hid (hB.below hb0 hB.lt); have HSM := Lib.hid (hS.mono hb0)
  have HRISE := Lib.hid hr; have HZ := Lib.hid hz
  have hbx := hB.below hb0 hB.lt
  obtain ⟨x0, x0f⟩ := hbx.at_ 0 _ rfl
  obtain ⟨p0, p0f⟩ := s0.at_ 0 _ rfl
  have HW := Lib.hid (which_any _ S 50 #[] #[.pointer (some ⟨w.heap.size, 0, none⟩)] (notBlk F) W0 HSM.out (by omega) callOpen (fun x W hx hW =>
    open_tells true at' b n B w.heap.size F x hx W (((s0.below hW (by omega)).at_ 0 _ rfl).1) (HBX.out.below hW HBX.out.lt) (HM.out.below hW HM.out.lt)))
  have HBW := Lib.hid (show ∀ w', Below W0.heap.size W0 w' → Mp w' b n F ∧ CBox w' B 60 #[.bool true, .int .i64 at', .map (some b)] ∧ CBox w' w.heap.size 82 #[.pointer (some ⟨B, 0, none⟩)] ∧ CBox w' (w.heap.size + 1 + 1) 44 #[.bool false, .slice none 0 0] ∧ But w w' B b ∧ w.heap.size + 3 ≤ w'.heap.size from fun w' h2 => ⟨HM.out.below h2 HM.out.lt, HBX.out.below h2 HBX.out.lt, s0.below h2 (by omega), s2.below h2 (by omega), But.of_below (hb0.trans (h2.mono hb0.size)) B b, by have := h2.size; omega⟩)
  rw [hW0] at x0 x0f p0 p0f HW HBW
  obtain ⟨Q, hQ⟩ : ∃ Q, S.filter (notBlk F) = Q := ⟨_, rfl⟩
  have HQL := Lib.hid (show Q.length ≤ S.length from by rw [← hQ]; exact List.length_filter_le _ _)
  have HQR := Lib.hid (show Rises (fun a => S.contains a && notBlk F a) Q from by rw [← hQ]; exact rises_filter hr _)
  rw [hQ] at HW ⊢
  clear h hB hS hl hz hb0 s0 s2 hbx hs0 HM HSM HBX hr hQ x0f p0f hW0 W0
  go_enter Try.func34, Try.ntmps34
  go_wp2_with fail
  refine HW.out.mono ?_
  rintro e w3 ⟨o, rfl, ho, hb3, hlo⟩
  obtain ⟨oo, oc, rfl⟩ := ho.shape
  obtain ⟨m3, k3, p3, a3, but3, hz3⟩ := HBW.out w3 hb3
  have HOS := Lib.hid ho
  obtain ⟨w4, hw4⟩ : ∃ w4, w4 = w3.alloc (.cells #[.bool false, .slice oo Q.length oc] 44) := ⟨_, rfl⟩
  have h34 : Below w3.heap.size w3 w4 := by rw [hw4]; exact (Below.refl _ _).alloc (Nat.le_refl _) _
  have hs4 : w4.heap.size = w3.heap.size + 1 := by rw [hw4]; simp
  have e4 : CBox w4 w3.heap.size 44 #[.bool false, .slice oo Q.length oc] := by rw [hw4]; exact CBox.new _ rfl
  have m4 := m3.below h34 m3.lt
  have hlo' := hlo.mono (lo' := w.heap.size + 3) (by simp)
  have K4 := Lib.hid (k3.below h34 k3.lt); have P4 := Lib.hid (p3.below h34 p3.lt); have A4 := Lib.hid (a3.below h34 a3.lt); have E4 := Lib.hid e4; have BUT4 := Lib.hid (but3.trans (But.of_below h34 B b)); have HOS4 := Lib.hid (ho.mono h34); have HLO := Lib.hid hlo'
  obtain ⟨sb, soff, hsm, hslen, hsidx, hsc⟩ := (ho.mono h34).factsL hlo'
  have hsw := ho.len
  clear HW HBW hb3 m3 k3 p3 a3 but3 ho hlo hlo' h34 e4 x0 p0
  go_wp2_with fail
  rw [← hw4]
  go_loopw [29] (fun i wr => ∃ k : Nat, k ≤ Q.length ∧ i = .int .i64 k ∧ Mp wr b (n + k) (fillF F (Q.take k) at') ∧ w4.grownBy wr (some b)) (fun i _ => Q.length - (intOf i).toNat)
  case atStart => exact ⟨0, Nat.zero_le _, rfl, by rw [List.take_zero, fillF_nil]; exact m4, World.grownBy.refl _ _⟩
  case round =>
    obtain ⟨k, hk, rfl, hm, hg⟩ := hrel
    clear m4
    have tB := K4.out.grown hg (fun e => hne (by injection e))
    have tP := P4.out.grown hg (fun e => by injection e with e; omega)
    have tE := E4.out.grown hg (fun e => by injection e with e; omega)
    have tA := A4.out.grown hg (fun e => by injection e with e; omega)
    obtain ⟨a0, f0⟩ := tB.at_ 0 _ rfl
    obtain ⟨a1, f1⟩ := tB.at_ 1 _ rfl
    obtain ⟨a2, f2⟩ := tB.at_ 2 _ rfl
    obtain ⟨p0, f3⟩ := tP.at_ 0 _ rfl
    have hBr := tB.lt
    have hPr := tP.lt
    have HG := Lib.hid hg; have TB := Lib.hid tB; have TP := Lib.hid tP; have TE := Lib.hid tE; have TA := Lib.hid tA; have HMR := Lib.hid hm
    have hql := HQL.out
    by_cases hlt : k < Q.length
    · obtain ⟨lb1, lb2, hcell⟩ := hsc k hlt
      have HN := Lib.hid (fillF_no F Q at' k hlt)
      have HY := Lib.hid (fillF_yes F Q at' k hlt)
      obtain ⟨a, ha⟩ : ∃ a, Q[k] = a := ⟨_, rfl⟩
      have hal : a.length ≤ maxLen := by rw [← ha]; exact hsw _ (List.getElem_mem hlt)
      rw [show Q.getD k [] = a from by rw [← ha]; simp [List.getD_eq_getElem?_getD, hlt], enc_bstr] at hcell
      rw [ha] at HN HY
      have hc : wr.cell? ⟨sb, soff + k, none⟩ = some (.string (bstr a)) := hg.cell hcell (fun e => by injection e with e; simp at e; omega)
      have hp := hsidx k hlt
      have HR := Lib.hid (runs_any true at' b (n + k) (fillF F (Q.take k) at') a hal wr hm)
      obtain ⟨r, hr⟩ : ∃ r, runF (fillF F (Q.take k) at') a = r := ⟨_, rfl⟩
      have hr' : ((fillF F (Q.take k) at' a).getD 0 != 0) = r := hr
      rw [hr'] at HR
      clear hsidx hsc hsw ha hcell hm hg tB tP tE tA lb1 lb2 hr'
      cases r
      · have HE := Lib.hid (HN.out hr)
        clear hr HN HY
        go_wp2_with fail
        refine HR.out.mono ?_
        rintro e w2 ⟨rfl, hb2⟩
        have tB2 := TB.out.below hb2 hBr
        obtain ⟨a0', f0'⟩ := tB2.at_ 0 _ rfl
        obtain ⟨a1', f1'⟩ := tB2.at_ 1 _ rfl
        obtain ⟨a2', f2'⟩ := tB2.at_ 2 _ rfl
        obtain ⟨p0', f3'⟩ := (TP.out.below hb2 hPr).at_ 0 _ rfl
        have hm2 := HMR.out.below hb2 HMR.out.lt
        have hg2 := grown_below HG.out hb2
        have hmd := hm2.below (Below.drew (Below.refl w2.heap.size w2)) hm2.lt
        obtain ⟨w5, hrun, hm5, hg5⟩ := hmd.put a hal at' HZ.out (by unfold maxLen; omega)
        have HM5 := Lib.hid hm5; have HG5 := Lib.hid hg5; have HG2 := Lib.hid hg2
        clear hm2 hg2 hmd hm5 hg5 tB2 hb2 HR
        go_wp2_with fail
        go_region
        go_wp2_with fail
        go_roundw
        case rel => exact ⟨k + 1, by omega, by go_num, by rw [HE.out]; exact HM5.out, (grown_below HG2.out (Below.drew (Below.refl _ _))).trans HG5.out⟩
        case measure => simp [intOf]; omega
      · have HE := Lib.hid (HY.out hr)
        clear hr HN HY
        go_wp2_with ((with_reducible refine HR.out.mono ?_); rintro e w2 ⟨rfl, hb2⟩)
        go_roundw
        case rel => exact ⟨k + 1, by omega, by go_num, by rw [HE.out]; exact (HMR.out.below hb2 HMR.out.lt).up (by omega), grown_below HG.out hb2⟩
        case measure => simp [intOf]; omega
    · have HT := Lib.hid (show Q.take k = Q from List.take_of_length_le (by omega))
      have hk' : k = Q.length := by omega
      obtain ⟨z0, _⟩ := tE.at_ 0 _ rfl
      obtain ⟨z1, _⟩ := tE.at_ 1 _ rfl
      obtain ⟨v0, v0f⟩ := tA.at_ 0 _ rfl
      obtain ⟨v1, v1f⟩ := tA.at_ 1 _ rfl
      have hal := tA.lt
      have hel := tE.lt
      clear hsidx hsc hsw hm hg tB tP tE tA
      go_wp2_with fail
      have RR := fun u1 u2 => (TA.out.set 0 u1).set 1 u2
      have r0 := fun u1 u2 => ((RR u1 u2).at_ 0 _ rfl).1
      have r1 := fun u1 u2 => ((RR u1 u2).at_ 1 _ rfl).1
      have hbut : But w wr B b := BUT4.out.grown HG.out (fun j e => by injection e with e; exact .inr (.inl e.symm))
      refine bodyPost_ret (v := .agg #[.bool false, .slice oo Q.length oc]) (by simp [results, Try.results34, go_sem, r0, r1]) rfl ⟨b, _, Q, w.heap.size + 3, rfl, ?_, HQR.out, by omega, HLO.out, by omega, by omega, .inl rfl, ?_, ?_, ?_⟩
      · have h1 : Strs wr (.slice oo Q.length oc) Q := HOS4.out.grown' HG.out (fun hne' e => by have := HLO.out b e; omega)
        exact (h1.far HLO.out (by simp) _).far HLO.out (by simp) _
      · exact (TB.out.far (by simp; omega) _).far (by simp; omega) _
      · have := HMR.out
        rw [HT.out, hk'] at this
        exact ((this.set (by simp; omega) _).set (by simp; omega) _).up (by omega)
      · exact (hbut.set (.inr (by simp; omega)) _).set (.inr (by simp; omega)) _
end Go.Proofs.Ytkphgonbbhlnfaa
