/- Texts joined into one file: GRefy, GExc, GApp. -/
import Derived.Test.YtpibmjkbebkilaaGreatW10
import Derived.Deep.CutBlock

namespace Go.Proofs.YtpibmjkbebkilaaGreat
open Go.RowKit Go.Lib Go.Maps Go.Sort
set_option maxRecDepth 20000

def notBlk (F : Str → Option Int) (a : Str) : Bool := !(F a == some 0)

set_option maxRecDepth 20000 in
set_option maxHeartbeats 4000000 in
theorem refuses_yes (at' : Int) (b n B : Nat) (F : Str → Option Int) (kind z : Int) (sv : Value) (S : List Str) (lo : Nat) (w : World) (hB : CBox w B 109 #[.bool true, .int .i64 at', .map (some b)]) (h : Mp w b n F) (hn : n + S.length ≤ 8796093022200)
 (hS : Strs w sv S) (hr : S.Pairwise (· < ·)) (hl : Lies lo sv) (_hBl : B < lo) (_hbl : b < lo) (hz : (Lit.int .i64 at').wf = true) :
 Calls Tryz.prog 55 #[.pointer (some ⟨B, 0, none⟩), .agg #[.int .i64 kind, sv, .int .i64 z]] w (RetWork w B b true at' (n + S.length) (fillF F (S.filter (notBlk F)) at') false (fun a => S.contains a && notBlk F a)) := by
 obtain ⟨so, sc, rfl⟩ := hS.shape
 obtain ⟨W0, hW0⟩ : ∃ W0, W0 = ((w.alloc (.cells #[.pointer (some ⟨B, 0, none⟩)] 134)).alloc (.cells #[.int .i64 kind, .slice so S.length sc, .int .i64 z] 118)).alloc (.cells #[.bool false, .slice none 0 0] 51) := ⟨_, rfl⟩
 have hb0 : Below w.heap.size w W0 := by rw [hW0]; exact (((Below.refl _ _).alloc (Nat.le_refl _) _).alloc (by simp) _).alloc (by simp <;> omega) _
 have hs0 : W0.heap.size = w.heap.size + 3 := by rw [hW0]; simp
 have s0 : CBox W0 w.heap.size 134 #[.pointer (some ⟨B, 0, none⟩)] := by rw [hW0]; exact ((CBox.new _ rfl).old _).old _
 have s2 : CBox W0 (w.heap.size + 1 + 1) 51 #[.bool false, .slice none 0 0] := by rw [hW0]; exact CBox.new _ (by simp)
 have hne := hB.ne_mp h
 have hBw := hB.lt
 have hbw := h.lt
 have HM := Lib.hid (h.below hb0 h.lt); have HBX := Lib.hid (hB.below hb0 hB.lt); have HSM := Lib.hid (hS.mono hb0)
 have HRISE := Lib.hid hr; have HZ := Lib.hid hz
 have hbx := hB.below hb0 hB.lt
 obtain ⟨x0, x0f⟩ := hbx.at_ 0 _ rfl
 obtain ⟨p0, p0f⟩ := s0.at_ 0 _ rfl
 have HW := Lib.hid (which_any _ S 83 #[] #[.pointer (some ⟨w.heap.size, 0, none⟩)] (notBlk F) W0 HSM.out (by omega) callOpen (fun x W hx hW =>
  open_tells true at' b n B w.heap.size F x hx W (((s0.below hW (by omega)).at_ 0 _ rfl).1) (HBX.out.below hW HBX.out.lt) (HM.out.below hW HM.out.lt)))
 have HBW := Lib.hid (show ∀ w', Below W0.heap.size W0 w' → Mp w' b n F ∧ CBox w' B 109 #[.bool true, .int .i64 at', .map (some b)] ∧ CBox w' w.heap.size 134 #[.pointer (some ⟨B, 0, none⟩)] ∧ CBox w' (w.heap.size + 1 + 1) 51 #[.bool false, .slice none 0 0] ∧ But w w' B b ∧ w.heap.size + 3 ≤ w'.heap.size from fun w' h2 => ⟨HM.out.below h2 HM.out.lt, HBX.out.below h2 HBX.out.lt, s0.below h2 (by omega), s2.below h2 (by omega), But.of_below (hb0.trans (h2.mono hb0.size)) B b, by have := h2.size; omega⟩)
 rw [hW0] at x0 x0f p0 p0f HW HBW
 obtain ⟨Q, hQ⟩ : ∃ Q, S.filter (notBlk F) = Q := ⟨_, rfl⟩
 have HQL := Lib.hid (show Q.length ≤ S.length from by rw [← hQ]; exact List.length_filter_le _ _)
 have HQR := Lib.hid (show Rises (fun a => S.contains a && notBlk F a) Q from by rw [← hQ]; exact rises_filter hr _)
 rw [hQ] at HW ⊢
 clear h hB hS hl hz hb0 s0 s2 hbx hs0 HM HSM HBX hr hQ x0f p0f hW0 W0
 go_enter Tryz.func55, Tryz.ntmps55
 go_wp2_with fail
 refine HW.out.mono ?_
 rintro e w3 ⟨o, rfl, ho, hb3, hlo⟩
 obtain ⟨oo, oc, rfl⟩ := ho.shape
 obtain ⟨m3, k3, p3, a3, but3, hz3⟩ := HBW.out w3 hb3
 have HOS := Lib.hid ho
 obtain ⟨w4, hw4⟩ : ∃ w4, w4 = w3.alloc (.cells #[.bool false, .slice oo Q.length oc] 51) := ⟨_, rfl⟩
 have h34 : Below w3.heap.size w3 w4 := by rw [hw4]; exact (Below.refl _ _).alloc (Nat.le_refl _) _
 have hs4 : w4.heap.size = w3.heap.size + 1 := by rw [hw4]; simp
 have e4 : CBox w4 w3.heap.size 51 #[.bool false, .slice oo Q.length oc] := by rw [hw4]; exact CBox.new _ rfl
 have m4 := m3.below h34 m3.lt
 have hlo' := hlo.mono (lo' := w.heap.size + 3) (by simp)
 have K4 := Lib.hid (k3.below h34 k3.lt); have P4 := Lib.hid (p3.below h34 p3.lt); have A4 := Lib.hid (a3.below h34 a3.lt); have E4 := Lib.hid e4; have BUT4 := Lib.hid (but3.trans (But.of_below h34 B b)); have HOS4 := Lib.hid (ho.mono h34); have HLO := Lib.hid hlo'
 obtain ⟨sb, soff, hsm, hslen, hsidx, hsc⟩ := (ho.mono h34).factsL hlo'
 have hsw := ho.len
 clear HW HBW hb3 m3 k3 p3 a3 but3 ho hlo hlo' h34 e4 x0 p0
 go_wp2_with fail
 rw [← hw4]
 go_loopw [29] (fun i wr => ∃ k : Nat, k ≤ Q.length ∧ i = .int .i64 k ∧ Mp wr b (n + k) (fillF F (Q.take k) at') ∧ w4.grownBy wr (some b)) (fun i _ => Q.length - (intOf i).toNat)
 case atStart => exact ⟨0, Nat.zero_le _, rfl, by rw [List.take_zero, fillF_nil]; exact m4, World.grownBy.refl _ _⟩
 case round =>
  obtain ⟨k, hk, rfl, hm, hg⟩ := hrel
  clear m4
  have tB := K4.out.grown hg (fun e => hne (by injection e))
  have tP := P4.out.grown hg (fun e => by injection e with e; omega)
  have tE := E4.out.grown hg (fun e => by injection e with e; omega)
  have tA := A4.out.grown hg (fun e => by injection e with e; omega)
  obtain ⟨a0, f0⟩ := tB.at_ 0 _ rfl
  obtain ⟨a1, f1⟩ := tB.at_ 1 _ rfl
  obtain ⟨a2, f2⟩ := tB.at_ 2 _ rfl
  obtain ⟨p0, f3⟩ := tP.at_ 0 _ rfl
  have hBr := tB.lt
  have hPr := tP.lt
  have HG := Lib.hid hg; have TB := Lib.hid tB; have TP := Lib.hid tP; have TE := Lib.hid tE; have TA := Lib.hid tA; have HMR := Lib.hid hm
  have hql := HQL.out
  by_cases hlt : k < Q.length
  · obtain ⟨lb1, lb2, hcell⟩ := hsc k hlt
    have HN := Lib.hid (fillF_no F Q at' k hlt)
    have HY := Lib.hid (fillF_yes F Q at' k hlt)
    obtain ⟨a, ha⟩ : ∃ a, Q[k] = a := ⟨_, rfl⟩
    have hal : a.length ≤ maxLen := by rw [← ha]; exact hsw _ (List.getElem_mem hlt)
    rw [show Q.getD k [] = a from by rw [← ha]; simp [List.getD_eq_getElem?_getD, hlt], enc_bstr] at hcell
    rw [ha] at HN HY
    have hc : wr.cell? ⟨sb, soff + k, none⟩ = some (.string (bstr a)) := hg.cell hcell (fun e => by injection e with e; simp at e; omega)
    have hp := hsidx k hlt
    have HR := Lib.hid (runs_any true at' b (n + k) (fillF F (Q.take k) at') a hal wr hm)
    obtain ⟨r, hr⟩ : ∃ r, runF (fillF F (Q.take k) at') a = r := ⟨_, rfl⟩
    have hr' : ((fillF F (Q.take k) at' a).getD 0 != 0) = r := hr
    rw [hr'] at HR
    clear hsidx hsc hsw ha hcell hm hg tB tP tE tA lb1 lb2 hr'
    cases r
    · have HE := Lib.hid (HN.out hr)
      clear hr HN HY
      go_wp2_with fail
      refine HR.out.mono ?_
      rintro e w2 ⟨rfl, hb2⟩
      have tB2 := TB.out.below hb2 hBr
      obtain ⟨a0', f0'⟩ := tB2.at_ 0 _ rfl
      obtain ⟨a1', f1'⟩ := tB2.at_ 1 _ rfl
      obtain ⟨a2', f2'⟩ := tB2.at_ 2 _ rfl
      obtain ⟨p0', f3'⟩ := (TP.out.below hb2 hPr).at_ 0 _ rfl
      have hm2 := HMR.out.below hb2 HMR.out.lt
      have hg2 := grown_below HG.out hb2
      have hmd := hm2.below (Below.drew (Below.refl w2.heap.size w2)) hm2.lt
      obtain ⟨w5, hrun, hm5, hg5⟩ := hmd.put a hal at' HZ.out (by unfold maxLen; omega)
      have HM5 := Lib.hid hm5; have HG5 := Lib.hid hg5; have HG2 := Lib.hid hg2
      clear hm2 hg2 hmd hm5 hg5 tB2 hb2 HR
      go_wp2_with fail
      go_region
      go_wp2_with fail
      go_roundw
      case rel => exact ⟨k + 1, by omega, by go_num, by rw [HE.out]; exact HM5.out, (grown_below HG2.out (Below.drew (Below.refl _ _))).trans HG5.out⟩
      case measure => simp [intOf]; omega
    · have HE := Lib.hid (HY.out hr)
      clear hr HN HY
      go_wp2_with ((with_reducible refine HR.out.mono ?_); rintro e w2 ⟨rfl, hb2⟩)
      go_roundw
      case rel => exact ⟨k + 1, by omega, by go_num, by rw [HE.out]; exact (HMR.out.below hb2 HMR.out.lt).up (by omega), grown_below HG.out hb2⟩
      case measure => simp [intOf]; omega
  · have HT := Lib.hid (show Q.take k = Q from List.take_of_length_le (by omega))
    have hk' : k = Q.length := by omega
    obtain ⟨z0, _⟩ := tE.at_ 0 _ rfl
    obtain ⟨z1, _⟩ := tE.at_ 1 _ rfl
    obtain ⟨v0, v0f⟩ := tA.at_ 0 _ rfl
    obtain ⟨v1, v1f⟩ := tA.at_ 1 _ rfl
    have hal := tA.lt
    have hel := tE.lt
    clear hsidx hsc hsw hm hg tB tP tE tA
    go_wp2_with fail
    have RR := fun u1 u2 => (TA.out.set 0 u1).set 1 u2
    have r0 := fun u1 u2 => ((RR u1 u2).at_ 0 _ rfl).1
    have r1 := fun u1 u2 => ((RR u1 u2).at_ 1 _ rfl).1
    have hbut : But w wr B b := BUT4.out.grown HG.out (fun j e => by injection e with e; exact .inr (.inl e.symm))
    refine bodyPost_ret (v := .agg #[.bool false, .slice oo Q.length oc]) (by simp [results, Tryz.results55, go_sem, r0, r1]) rfl ⟨b, _, Q, w.heap.size + 3, rfl, ?_, HQR.out, by omega, HLO.out, by omega, by omega, .inl rfl, ?_, ?_, ?_⟩
    · have h1 : Strs wr (.slice oo Q.length oc) Q := HOS4.out.grown' HG.out (fun hne' e => by have := HLO.out b e; omega)
      exact (h1.far HLO.out (by simp) _).far HLO.out (by simp) _
    · exact (TB.out.far (by simp; omega) _).far (by simp; omega) _
    · have := HMR.out
      rw [HT.out, hk'] at this
      exact ((this.set (by simp; omega) _).set (by simp; omega) _).up (by omega)
    · exact (hbut.set (.inr (by simp; omega)) _).set (.inr (by simp; omega)) _

def excF (F : Str → Option Int) (S : List Str) (fr : Int) : Str → Option Int := fun a => if S.contains a then some ((F a).getD fr) else none
theorem excF_nil (F : Str → Option Int) (fr : Int) : excF F [] fr = fun _ => none := by funext a; simp [excF]
theorem excF_snoc (F : Str → Option Int) (S : List Str) (fr : Int) (k : Nat) (h : k < S.length) : excF F (S.take (k + 1)) fr = upd (excF F (S.take k) fr) S[k] ((F S[k]).getD fr) := by
 funext a
 unfold excF upd
 rw [mem_snoc S a k h]
 by_cases e : a = S[k]
 · subst e; simp
 · have e' : (S[k] == a) = false := by rw [beq_eq_false_iff_ne]; exact fun h => e h.symm
   rw [e', Bool.or_false, if_neg e]

theorem rises_only {F : Str → Option Int} {K : List Str} (h : KeysOf' F K) : Rises (runF F) (K.filter (runF F)) :=
 ⟨h.1.filter _, fun a => by rw [List.mem_filter, h.2]; exact ⟨fun h => h.2, fun h => ⟨runF_some h, h⟩⟩⟩

theorem CBox.drew {w : World} {b : Nat} {T : TypeId} {cs : Array Value} (h : CBox w b T cs) : CBox w.drew b T cs := h.below (Below.drew (Below.refl _ _)) h.lt
theorem Mp.drew {w : World} {b n : Nat} {F : Str → Option Int} (h : Mp w b n F) : Mp w.drew b n F := h.below (Below.drew (Below.refl _ _)) h.lt
theorem But.drew {w w' : World} {B b : Nat} (h : But w w' B b) : But w w'.drew B b := h.trans (But.of_below (Below.drew (Below.refl _ _)) B b)

def freshOf (ex t : Bool) (at' z : Int) : Int := if ex then (if t then at' else z) else 0

set_option maxRecDepth 20000 in
set_option maxHeartbeats 8000000 in
theorem excepts_any (ex : Bool) (at' : Int) (b n B : Nat) (F : Str → Option Int) (kind z : Int) (sv : Value) (S : List Str) (lo : Nat) (w : World) (hB : CBox w B 109 #[.bool ex, .int .i64 at', .map (some b)]) (h : Mp w b n F) (hn : n + S.length ≤ 8796093022200)
 (hS : Strs w sv S) (hl : Lies lo sv) (hBl : B < lo) (hbl : b < lo) (hz : (Lit.int .i64 z).wf = true) (ha' : (Lit.int .i64 at').wf = true) :
 Calls Tryz.prog 56 #[.pointer (some ⟨B, 0, none⟩), .agg #[.int .i64 kind, sv, .int .i64 z]] w (RetWork w B b true z (n + S.length) (excF F S (freshOf ex (kind == 4) at' z)) false (fun a => kind == 4 && runF (excF F S (freshOf ex (kind == 4) at' z)) a)) := by
 obtain ⟨so, sc, rfl⟩ := hS.shape
 obtain ⟨W0, hW0⟩ : ∃ W0, W0 = (w.alloc (.cells #[.int .i64 kind, .slice so S.length sc, .int .i64 z] 118)).alloc (.cells #[.bool false, .slice none 0 0] 51) := ⟨_, rfl⟩
 have hb0 : Below w.heap.size w W0 := by rw [hW0]; exact ((Below.refl _ _).alloc (Nat.le_refl _) _).alloc (by simp) _
 have hs0 : W0.heap.size = w.heap.size + 2 := by rw [hW0]; simp
 have s1 : CBox W0 w.heap.size 118 #[.int .i64 kind, .slice so S.length sc, .int .i64 z] := by rw [hW0]; exact (CBox.new _ rfl).old _
 have s2 : CBox W0 (w.heap.size + 1) 51 #[.bool false, .slice none 0 0] := by rw [hW0]; exact CBox.new _ (by simp)
 have hne := hB.ne_mp h
 obtain ⟨sb, soff, hsm, hslen, hsidx, hsc⟩ := hS.factsL hl
 have hsw := hS.len
 have hBw := hB.lt
 have hbw := h.lt
 have hbx := hB.below hb0 hB.lt
 have hm0 := h.below hb0 h.lt
 -- the map of its own
 obtain ⟨Wm, hWm⟩ : ∃ Wm, Wm = W0.alloc (.map #[] 0) := ⟨_, rfl⟩
 have hbm : Below W0.heap.size W0 Wm := by rw [hWm]; exact (Below.refl _ _).alloc (Nat.le_refl _) _
 have hsm' : Wm.heap.size = w.heap.size + 3 := by rw [hWm]; simp [hs0]
 have mk : Mp Wm (w.heap.size + 1 + 1) 0 (fun _ => none) := by
  have := Mp.made W0
  rw [hs0] at this
  rw [hWm]; exact this
 obtain ⟨W1, hW1⟩ : ∃ W1, W1 = Wm.setCell ⟨B, 2, none⟩ (.map (some (w.heap.size + 1 + 1))) := ⟨_, rfl⟩
 have hs1 : W1.heap.size = w.heap.size + 3 := by rw [hW1]; simp [hsm']
 have k1 : CBox W1 B 109 #[.bool ex, .int .i64 at', .map (some (w.heap.size + 1 + 1))] := by
  rw [hW1]; have := (hbx.below hbm (by omega)).set 2 (.map (some (w.heap.size + 1 + 1))); simpa using this
 have u1 : CBox W1 w.heap.size 118 #[.int .i64 kind, .slice so S.length sc, .int .i64 z] := by rw [hW1]; exact (s1.below hbm (by omega)).far (by simp; omega) _
 have a1 : CBox W1 (w.heap.size + 1) 51 #[.bool false, .slice none 0 0] := by rw [hW1]; exact (s2.below hbm (by omega)).far (by simp; omega) _
 have mo : Mp W1 b n F := by rw [hW1]; exact (hm0.below hbm hm0.lt).set (by simp; omega) _
 have mn : Mp W1 (w.heap.size + 1 + 1) 0 (fun _ => none) := by rw [hW1]; exact mk.set (by simp; omega) _
 have but1 : But w W1 B b := by rw [hW1]; exact (But.of_below (hb0.trans (hbm.mono hb0.size)) B b).set (.inl rfl) _
 have hcw : ∀ k, k < S.length → sb < w.heap.size ∧ W1.cell? ⟨sb, soff + k, none⟩ = some (encStr (S.getD k [])) := fun k hk =>
  have q := hsc k hk
  ⟨q.2.1, (World.cell?_of_block (w := w) (but1.2 sb q.2.1 (by omega) (by omega))).trans q.2.2⟩
 obtain ⟨x0, _⟩ := hbx.at_ 0 _ rfl
 obtain ⟨x1, _⟩ := hbx.at_ 1 _ rfl
 obtain ⟨x2, x2f⟩ := hbx.at_ 2 _ rfl
 obtain ⟨y0, _⟩ := s1.at_ 0 _ rfl
 obtain ⟨y1, _⟩ := s1.at_ 1 _ rfl
 obtain ⟨y2, _⟩ := s1.at_ 2 _ rfl
 have K1 := Lib.hid k1; have U1 := Lib.hid u1; have A1 := Lib.hid a1; have MO := Lib.hid mo; have BUT1 := Lib.hid but1; have HZ := Lib.hid hz; have HA := Lib.hid ha'
 have hmm := @run_makeMap Tryz.prog
 obtain ⟨fr, hfr⟩ : ∃ fr, freshOf ex (kind == 4) at' z = fr := ⟨_, rfl⟩
 rw [hfr]
 have HFW : Hid ((Lit.int .i64 fr).wf = true) := by
  rw [← hfr]; unfold freshOf
  cases ex
  · exact Lib.hid rfl
  · by_cases hk : (kind == 4) = true
    · simp [hk]; exact Lib.hid ha'
    · simp [hk]; exact Lib.hid hz
 have HFR := Lib.hid hfr
 clear hfr
 obtain ⟨t, ht⟩ : ∃ t, (kind == 4) = t := ⟨_, rfl⟩
 rw [ht] at HFR ⊢
 obtain ⟨q2, q2f⟩ := (hbx.below hbm (by omega)).at_ 2 _ rfl
 obtain ⟨r1, r1f⟩ := u1.at_ 1 _ rfl
 rw [hW0] at x0 x1 x2 x2f y0 y1 y2 hWm
 rw [hWm] at q2 q2f
 rw [hW1, hWm] at r1
 clear h hB hS hl hz ha' hb0 s1 s2 hbx hm0 hbm mk k1 u1 a1 mo but1 hsc
 go_enter Tryz.func56, Tryz.ntmps56
 cases ex <;> cases t
 · have hh : (0 : Int) = fr := HFR.out
   subst hh
   go_wp2_with fail
   rw [← hWm, ← hW1]
   clear x0 x1 x2 x2f y0 y1 y2 q2 q2f r1 hWm hW1 hW0 HFR
   go_loopw [35] (fun i wr => ∃ k : Nat, k ≤ S.length ∧ i = .int .i64 k ∧ Mp wr (w.heap.size + 1 + 1) k (excF F (S.take k) (0 : Int)) ∧ W1.grownBy wr (some (w.heap.size + 1 + 1))) (fun i _ => S.length - (intOf i).toNat)
   case atStart => exact ⟨0, Nat.zero_le _, rfl, by rw [List.take_zero, excF_nil]; exact mn, World.grownBy.refl _ _⟩
   case round =>
    clear mn
    obtain ⟨k, hk, rfl, hm, hg⟩ := hrel
    have tB := K1.out.grown hg (fun e => by injection e with e; omega)
    have tU := U1.out.grown hg (fun e => by injection e with e; omega)
    have tA := A1.out.grown hg (fun e => by injection e with e; omega)
    have tO := MO.out.kept hg (fun e => by injection e with e; omega)
    obtain ⟨a0, f0⟩ := tB.at_ 0 _ rfl
    obtain ⟨a1, f1⟩ := tB.at_ 1 _ rfl
    obtain ⟨a2, f2⟩ := tB.at_ 2 _ rfl
    obtain ⟨c0, _⟩ := tU.at_ 0 _ rfl
    obtain ⟨c2, _⟩ := tU.at_ 2 _ rfl
    have HG := Lib.hid hg; have TB := Lib.hid tB; have TA := Lib.hid tA; have TU := Lib.hid tU; have HMR := Lib.hid hm
    have hwr : w.heap.size + 1 + 1 < wr.heap.size := hm.lt
    by_cases hlt : k < S.length
    · obtain ⟨lb2, hcell⟩ := hcw k hlt
      have HE := Lib.hid (excF_snoc F S (0 : Int) k hlt)
      obtain ⟨a, ha⟩ : ∃ a, S[k] = a := ⟨_, rfl⟩
      have hal : a.length ≤ maxLen := by rw [← ha]; exact hsw _ (List.getElem_mem hlt)
      rw [show S.getD k [] = a from by rw [← ha]; simp [List.getD_eq_getElem?_getD, hlt], enc_bstr] at hcell
      rw [ha] at HE
      have hc : wr.cell? ⟨sb, soff + k, none⟩ = some (.string (bstr a)) := hg.cell hcell (fun e => by injection e with e; simp at e; omega)
      have hp := hsidx k hlt
      have hget := tO.getOk a hal
      have HWA := Lib.hid (fun v (hv : F a = some v) => tO.wf a hal v hv)
      obtain ⟨o, ho⟩ : ∃ o, F a = o := ⟨_, rfl⟩
      rw [ho] at hget HE HWA
      clear hsidx hcw hsw ha hcell hg tB tU tA tO ho
      cases o
      · simp only [Option.getD_none, Option.isSome_none] at hget
        obtain ⟨w2, hrun, hm2, hg2⟩ := hm.put a hal (0 : Int) HFW.out (by unfold maxLen; omega)
        have HM2 := Lib.hid hm2; have HG2 := Lib.hid hg2
        clear hm hm2 hg2 HWA
        go_wp2_with fail
        go_roundw
        case rel => exact ⟨k + 1, by omega, by go_num, by rw [HE.out]; exact HM2.out, HG.out.trans HG2.out⟩
        case measure => simp [intOf]; omega
      · rename_i c
        simp only [Option.getD_some, Option.isSome_some] at hget
        obtain ⟨w2, hrun, hm2, hg2⟩ := hm.put a hal c (HWA.out c rfl) (by unfold maxLen; omega)
        have HM2 := Lib.hid hm2; have HG2 := Lib.hid hg2
        clear hm hm2 hg2 HWA
        go_wp2_with fail
        go_roundw
        case rel => exact ⟨k + 1, by omega, by go_num, by rw [HE.out]; exact HM2.out, HG.out.trans HG2.out⟩
        case measure => simp [intOf]; omega
    · have HT := Lib.hid (show S.take k = S from List.take_of_length_le (by omega))
      have hk' : k = S.length := by omega
      have HMM := Lib.hid (show Mp wr (w.heap.size + 1 + 1) S.length (excF F S (0 : Int)) from by have := HMR.out; rw [HT.out, hk'] at this; exact this)
      have HBT := Lib.hid (BUT1.out.grown HG.out (fun j e => by injection e with e; exact .inr (.inr (by omega))))
      obtain ⟨g0, g0f⟩ := tA.at_ 0 _ rfl
      obtain ⟨g1, g1f⟩ := tA.at_ 1 _ rfl
      clear hsidx hcw hsw hm hg tB tU tA tO
      go_wp2_with fail
      go_region
      all_goals
       go_wp2_with fail
       have RR := fun u0 u1 u2 u3 => ((((TA.out.far (p := ⟨B, 0, none⟩) (by simp; omega) u0).far (p := ⟨B, 1, none⟩) (by simp; omega) u1).set 0 u2).set 1 u3)
       have r0 := fun u0 u1 u2 u3 => ((RR u0 u1 u2 u3).at_ 0 _ rfl).1
       have r1 := fun u0 u1 u2 u3 => ((RR u0 u1 u2 u3).at_ 1 _ rfl).1
       refine bodyPost_ret (v := .agg #[.bool false, .slice none 0 0]) (by simp [results, Tryz.results56, go_sem, r0, r1]) rfl ⟨w.heap.size + 1 + 1, _, [], w.heap.size + 3, rfl, Strs.nil _, rises_nil (fun _ => rfl), by simp, fun j hj => by simp [Value.ownBlock] at hj, by omega, by omega, .inr (by omega), ?_, ?_, ?_⟩
       · exact ((((TB.out.set 0 (.bool true)).set 1 (.int .i64 z)).far (p := ⟨w.heap.size + 1, 0, none⟩) (by simp; omega) _).far (p := ⟨w.heap.size + 1, 1, none⟩) (by simp; omega) _).drew
       · exact (((((HMM.out.set (by simp; omega) _).set (by simp; omega) _).set (by simp) _).set (by simp) _).drew).up (by omega)
       · exact ((((HBT.out.set (.inl rfl) _).set (.inl rfl) _).set (.inr (by simp)) _).set (.inr (by simp)) _).drew
 · have hh : (0 : Int) = fr := HFR.out
   subst hh
   go_wp2_with fail
   rw [← hWm, ← hW1]
   clear x0 x1 x2 x2f y0 y1 y2 q2 q2f r1 hWm hW1 hW0 HFR
   go_loopw [35] (fun i wr => ∃ k : Nat, k ≤ S.length ∧ i = .int .i64 k ∧ Mp wr (w.heap.size + 1 + 1) k (excF F (S.take k) (0 : Int)) ∧ W1.grownBy wr (some (w.heap.size + 1 + 1))) (fun i _ => S.length - (intOf i).toNat)
   case atStart => exact ⟨0, Nat.zero_le _, rfl, by rw [List.take_zero, excF_nil]; exact mn, World.grownBy.refl _ _⟩
   case round =>
    clear mn
    obtain ⟨k, hk, rfl, hm, hg⟩ := hrel
    have tB := K1.out.grown hg (fun e => by injection e with e; omega)
    have tU := U1.out.grown hg (fun e => by injection e with e; omega)
    have tA := A1.out.grown hg (fun e => by injection e with e; omega)
    have tO := MO.out.kept hg (fun e => by injection e with e; omega)
    obtain ⟨a0, f0⟩ := tB.at_ 0 _ rfl
    obtain ⟨a1, f1⟩ := tB.at_ 1 _ rfl
    obtain ⟨a2, f2⟩ := tB.at_ 2 _ rfl
    obtain ⟨c0, _⟩ := tU.at_ 0 _ rfl
    obtain ⟨c2, _⟩ := tU.at_ 2 _ rfl
    have HG := Lib.hid hg; have TB := Lib.hid tB; have TA := Lib.hid tA; have TU := Lib.hid tU; have HMR := Lib.hid hm
    have hwr : w.heap.size + 1 + 1 < wr.heap.size := hm.lt
    by_cases hlt : k < S.length
    · obtain ⟨lb2, hcell⟩ := hcw k hlt
      have HE := Lib.hid (excF_snoc F S (0 : Int) k hlt)
      obtain ⟨a, ha⟩ : ∃ a, S[k] = a := ⟨_, rfl⟩
      have hal : a.length ≤ maxLen := by rw [← ha]; exact hsw _ (List.getElem_mem hlt)
      rw [show S.getD k [] = a from by rw [← ha]; simp [List.getD_eq_getElem?_getD, hlt], enc_bstr] at hcell
      rw [ha] at HE
      have hc : wr.cell? ⟨sb, soff + k, none⟩ = some (.string (bstr a)) := hg.cell hcell (fun e => by injection e with e; simp at e; omega)
      have hp := hsidx k hlt
      have hget := tO.getOk a hal
      have HWA := Lib.hid (fun v (hv : F a = some v) => tO.wf a hal v hv)
      obtain ⟨o, ho⟩ : ∃ o, F a = o := ⟨_, rfl⟩
      rw [ho] at hget HE HWA
      clear hsidx hcw hsw ha hcell hg tB tU tA tO ho
      cases o
      · simp only [Option.getD_none, Option.isSome_none] at hget
        obtain ⟨w2, hrun, hm2, hg2⟩ := hm.put a hal (0 : Int) HFW.out (by unfold maxLen; omega)
        have HM2 := Lib.hid hm2; have HG2 := Lib.hid hg2
        clear hm hm2 hg2 HWA
        go_wp2_with fail
        go_roundw
        case rel => exact ⟨k + 1, by omega, by go_num, by rw [HE.out]; exact HM2.out, HG.out.trans HG2.out⟩
        case measure => simp [intOf]; omega
      · rename_i c
        simp only [Option.getD_some, Option.isSome_some] at hget
        obtain ⟨w2, hrun, hm2, hg2⟩ := hm.put a hal c (HWA.out c rfl) (by unfold maxLen; omega)
        have HM2 := Lib.hid hm2; have HG2 := Lib.hid hg2
        clear hm hm2 hg2 HWA
        go_wp2_with fail
        go_roundw
        case rel => exact ⟨k + 1, by omega, by go_num, by rw [HE.out]; exact HM2.out, HG.out.trans HG2.out⟩
        case measure => simp [intOf]; omega
    · have HT := Lib.hid (show S.take k = S from List.take_of_length_le (by omega))
      have hk' : k = S.length := by omega
      have HMM := Lib.hid (show Mp wr (w.heap.size + 1 + 1) S.length (excF F S (0 : Int)) from by have := HMR.out; rw [HT.out, hk'] at this; exact this)
      have HBT := Lib.hid (BUT1.out.grown HG.out (fun j e => by injection e with e; exact .inr (.inr (by omega))))
      obtain ⟨g0, g0f⟩ := tA.at_ 0 _ rfl
      obtain ⟨g1, g1f⟩ := tA.at_ 1 _ rfl
      have hbr := tB.lt
      have HR := Lib.hid (running_any false at' (w.heap.size + 1 + 1) S.length (excF F S (0 : Int)) wr HMM.out (by omega))
      clear hsidx hcw hsw hm hg tB tU tA tO
      go_wp2_with fail
      refine HR.out.mono ?_
      rintro e w2 ⟨K, hks, hkn, o, rfl, ho, hb2, hlo⟩
      obtain ⟨oo, oc, rfl⟩ := ho.shape
      have tB2 := TB.out.below hb2 hbr
      have tA2 := TA.out.below hb2 TA.out.lt
      have tU2 := TU.out.below hb2 TU.out.lt
      obtain ⟨d0, d0f⟩ := tB2.at_ 0 _ rfl
      obtain ⟨d1, d1f⟩ := tB2.at_ 1 _ rfl
      obtain ⟨e0, e0f⟩ := tA2.at_ 0 _ rfl
      obtain ⟨e1, e1f⟩ := tA2.at_ 1 _ rfl
      obtain ⟨e2, e2f⟩ := tU2.at_ 2 _ rfl
      have HKS := Lib.hid hks; have HKN := Lib.hid hkn; have HO := Lib.hid ho; have HLO := Lib.hid hlo; have HB2 := Lib.hid hb2
      have TB2 := Lib.hid tB2; have TA2 := Lib.hid tA2
      clear hks hkn ho hlo hb2 tB2 tA2 tU2 HR a0 a1 a2 f0 f1 f2 c0 c2 g0 g1 g0f g1f
      go_wp2_with fail
      go_region
      all_goals
       go_wp2_with fail
       have RR := fun u4 u0 u1 u2 u3 => (((((TA2.out.set 1 u4).far (p := ⟨B, 0, none⟩) (by simp; omega) u0).far (p := ⟨B, 1, none⟩) (by simp; omega) u1).set 0 u2).set 1 u3)
       have r0 := fun u4 u0 u1 u2 u3 => ((RR u4 u0 u1 u2 u3).at_ 0 _ rfl).1
       have r1 := fun u4 u0 u1 u2 u3 => ((RR u4 u0 u1 u2 u3).at_ 1 _ rfl).1
       have hL := HLO.out.mono (lo' := w.heap.size + 3) (by omega)
       refine bodyPost_ret (v := .agg #[.bool false, .slice oo (K.filter (runF (excF F S (0 : Int)))).length oc]) (by simp [results, Tryz.results56, go_sem, r0, r1]) rfl ⟨w.heap.size + 1 + 1, _, K.filter (runF (excF F S (0 : Int))), w.heap.size + 3, rfl, ?_, ?_, ?_, hL, by omega, by omega, .inr (by omega), ?_, ?_, ?_⟩
       · exact (((((HO.out.far hL (by simp) _).far hL (by simp; omega) _).far hL (by simp; omega) _).far hL (by simp) _).far hL (by simp) _).mono (Below.drew (Below.refl _ _))
       · have := rises_only HKS.out
         simp only [Bool.true_and]; exact this
       · have h1 := List.length_filter_le (runF (excF F S (0 : Int))) K
         have h2 := HKN.out
         omega
       · exact (((((TB2.out.far (p := ⟨w.heap.size + 1, 1, none⟩) (by simp; omega) _).set 0 (.bool true)).set 1 (.int .i64 z)).far (p := ⟨w.heap.size + 1, 0, none⟩) (by simp; omega) _).far (p := ⟨w.heap.size + 1, 1, none⟩) (by simp; omega) _).drew
       · exact ((((((HMM.out.below HB2.out HMM.out.lt).set (by simp) _).set (by simp; omega) _).set (by simp; omega) _).set (by simp) _).set (by simp) _).drew.up (by omega)
       · exact (((((((HBT.out.trans (But.of_below HB2.out B b)).set (.inr (by simp)) _).set (.inl rfl) _).set (.inl rfl) _).set (.inr (by simp)) _).set (.inr (by simp)) _)).drew
 · have hh : z = fr := HFR.out
   subst hh
   go_wp2_with fail
   rw [← hWm, ← hW1]
   clear x0 x1 x2 x2f y0 y1 y2 q2 q2f r1 hWm hW1 hW0 HFR
   go_loopw [35] (fun i wr => ∃ k : Nat, k ≤ S.length ∧ i = .int .i64 k ∧ Mp wr (w.heap.size + 1 + 1) k (excF F (S.take k) z) ∧ W1.grownBy wr (some (w.heap.size + 1 + 1))) (fun i _ => S.length - (intOf i).toNat)
   case atStart => exact ⟨0, Nat.zero_le _, rfl, by rw [List.take_zero, excF_nil]; exact mn, World.grownBy.refl _ _⟩
   case round =>
    clear mn
    obtain ⟨k, hk, rfl, hm, hg⟩ := hrel
    have tB := K1.out.grown hg (fun e => by injection e with e; omega)
    have tU := U1.out.grown hg (fun e => by injection e with e; omega)
    have tA := A1.out.grown hg (fun e => by injection e with e; omega)
    have tO := MO.out.kept hg (fun e => by injection e with e; omega)
    obtain ⟨a0, f0⟩ := tB.at_ 0 _ rfl
    obtain ⟨a1, f1⟩ := tB.at_ 1 _ rfl
    obtain ⟨a2, f2⟩ := tB.at_ 2 _ rfl
    obtain ⟨c0, _⟩ := tU.at_ 0 _ rfl
    obtain ⟨c2, _⟩ := tU.at_ 2 _ rfl
    have HG := Lib.hid hg; have TB := Lib.hid tB; have TA := Lib.hid tA; have TU := Lib.hid tU; have HMR := Lib.hid hm
    have hwr : w.heap.size + 1 + 1 < wr.heap.size := hm.lt
    by_cases hlt : k < S.length
    · obtain ⟨lb2, hcell⟩ := hcw k hlt
      have HE := Lib.hid (excF_snoc F S z k hlt)
      obtain ⟨a, ha⟩ : ∃ a, S[k] = a := ⟨_, rfl⟩
      have hal : a.length ≤ maxLen := by rw [← ha]; exact hsw _ (List.getElem_mem hlt)
      rw [show S.getD k [] = a from by rw [← ha]; simp [List.getD_eq_getElem?_getD, hlt], enc_bstr] at hcell
      rw [ha] at HE
      have hc : wr.cell? ⟨sb, soff + k, none⟩ = some (.string (bstr a)) := hg.cell hcell (fun e => by injection e with e; simp at e; omega)
      have hp := hsidx k hlt
      have hget := tO.getOk a hal
      have HWA := Lib.hid (fun v (hv : F a = some v) => tO.wf a hal v hv)
      obtain ⟨o, ho⟩ : ∃ o, F a = o := ⟨_, rfl⟩
      rw [ho] at hget HE HWA
      clear hsidx hcw hsw ha hcell hg tB tU tA tO ho
      cases o
      · simp only [Option.getD_none, Option.isSome_none] at hget
        obtain ⟨w2, hrun, hm2, hg2⟩ := hm.put a hal z HFW.out (by unfold maxLen; omega)
        have HM2 := Lib.hid hm2; have HG2 := Lib.hid hg2
        clear hm hm2 hg2 HWA
        go_wp2_with fail
        go_roundw
        case rel => exact ⟨k + 1, by omega, by go_num, by rw [HE.out]; exact HM2.out, HG.out.trans HG2.out⟩
        case measure => simp [intOf]; omega
      · rename_i c
        simp only [Option.getD_some, Option.isSome_some] at hget
        obtain ⟨w2, hrun, hm2, hg2⟩ := hm.put a hal c (HWA.out c rfl) (by unfold maxLen; omega)
        have HM2 := Lib.hid hm2; have HG2 := Lib.hid hg2
        clear hm hm2 hg2 HWA
        go_wp2_with fail
        go_roundw
        case rel => exact ⟨k + 1, by omega, by go_num, by rw [HE.out]; exact HM2.out, HG.out.trans HG2.out⟩
        case measure => simp [intOf]; omega
    · have HT := Lib.hid (show S.take k = S from List.take_of_length_le (by omega))
      have hk' : k = S.length := by omega
      have HMM := Lib.hid (show Mp wr (w.heap.size + 1 + 1) S.length (excF F S z) from by have := HMR.out; rw [HT.out, hk'] at this; exact this)
      have HBT := Lib.hid (BUT1.out.grown HG.out (fun j e => by injection e with e; exact .inr (.inr (by omega))))
      obtain ⟨g0, g0f⟩ := tA.at_ 0 _ rfl
      obtain ⟨g1, g1f⟩ := tA.at_ 1 _ rfl
      clear hsidx hcw hsw hm hg tB tU tA tO
      go_wp2_with fail
      go_region
      all_goals
       go_wp2_with fail
       have RR := fun u0 u1 u2 u3 => ((((TA.out.far (p := ⟨B, 0, none⟩) (by simp; omega) u0).far (p := ⟨B, 1, none⟩) (by simp; omega) u1).set 0 u2).set 1 u3)
       have r0 := fun u0 u1 u2 u3 => ((RR u0 u1 u2 u3).at_ 0 _ rfl).1
       have r1 := fun u0 u1 u2 u3 => ((RR u0 u1 u2 u3).at_ 1 _ rfl).1
       refine bodyPost_ret (v := .agg #[.bool false, .slice none 0 0]) (by simp [results, Tryz.results56, go_sem, r0, r1]) rfl ⟨w.heap.size + 1 + 1, _, [], w.heap.size + 3, rfl, Strs.nil _, rises_nil (fun _ => rfl), by simp, fun j hj => by simp [Value.ownBlock] at hj, by omega, by omega, .inr (by omega), ?_, ?_, ?_⟩
       · exact ((((TB.out.set 0 (.bool true)).set 1 (.int .i64 z)).far (p := ⟨w.heap.size + 1, 0, none⟩) (by simp; omega) _).far (p := ⟨w.heap.size + 1, 1, none⟩) (by simp; omega) _).drew
       · exact (((((HMM.out.set (by simp; omega) _).set (by simp; omega) _).set (by simp) _).set (by simp) _).drew).up (by omega)
       · exact ((((HBT.out.set (.inl rfl) _).set (.inl rfl) _).set (.inr (by simp)) _).set (.inr (by simp)) _).drew
 · have hh : at' = fr := HFR.out
   subst hh
   go_wp2_with fail
   rw [← hWm, ← hW1]
   clear x0 x1 x2 x2f y0 y1 y2 q2 q2f r1 hWm hW1 hW0 HFR
   go_loopw [35] (fun i wr => ∃ k : Nat, k ≤ S.length ∧ i = .int .i64 k ∧ Mp wr (w.heap.size + 1 + 1) k (excF F (S.take k) at') ∧ W1.grownBy wr (some (w.heap.size + 1 + 1))) (fun i _ => S.length - (intOf i).toNat)
   case atStart => exact ⟨0, Nat.zero_le _, rfl, by rw [List.take_zero, excF_nil]; exact mn, World.grownBy.refl _ _⟩
   case round =>
    clear mn
    obtain ⟨k, hk, rfl, hm, hg⟩ := hrel
    have tB := K1.out.grown hg (fun e => by injection e with e; omega)
    have tU := U1.out.grown hg (fun e => by injection e with e; omega)
    have tA := A1.out.grown hg (fun e => by injection e with e; omega)
    have tO := MO.out.kept hg (fun e => by injection e with e; omega)
    obtain ⟨a0, f0⟩ := tB.at_ 0 _ rfl
    obtain ⟨a1, f1⟩ := tB.at_ 1 _ rfl
    obtain ⟨a2, f2⟩ := tB.at_ 2 _ rfl
    obtain ⟨c0, _⟩ := tU.at_ 0 _ rfl
    obtain ⟨c2, _⟩ := tU.at_ 2 _ rfl
    have HG := Lib.hid hg; have TB := Lib.hid tB; have TA := Lib.hid tA; have TU := Lib.hid tU; have HMR := Lib.hid hm
    have hwr : w.heap.size + 1 + 1 < wr.heap.size := hm.lt
    by_cases hlt : k < S.length
    · obtain ⟨lb2, hcell⟩ := hcw k hlt
      have HE := Lib.hid (excF_snoc F S at' k hlt)
      obtain ⟨a, ha⟩ : ∃ a, S[k] = a := ⟨_, rfl⟩
      have hal : a.length ≤ maxLen := by rw [← ha]; exact hsw _ (List.getElem_mem hlt)
      rw [show S.getD k [] = a from by rw [← ha]; simp [List.getD_eq_getElem?_getD, hlt], enc_bstr] at hcell
      rw [ha] at HE
      have hc : wr.cell? ⟨sb, soff + k, none⟩ = some (.string (bstr a)) := hg.cell hcell (fun e => by injection e with e; simp at e; omega)
      have hp := hsidx k hlt
      have hget := tO.getOk a hal
      have HWA := Lib.hid (fun v (hv : F a = some v) => tO.wf a hal v hv)
      obtain ⟨o, ho⟩ : ∃ o, F a = o := ⟨_, rfl⟩
      rw [ho] at hget HE HWA
      clear hsidx hcw hsw ha hcell hg tB tU tA tO ho
      cases o
      · simp only [Option.getD_none, Option.isSome_none] at hget
        obtain ⟨w2, hrun, hm2, hg2⟩ := hm.put a hal at' HFW.out (by unfold maxLen; omega)
        have HM2 := Lib.hid hm2; have HG2 := Lib.hid hg2
        clear hm hm2 hg2 HWA
        go_wp2_with fail
        go_roundw
        case rel => exact ⟨k + 1, by omega, by go_num, by rw [HE.out]; exact HM2.out, HG.out.trans HG2.out⟩
        case measure => simp [intOf]; omega
      · rename_i c
        simp only [Option.getD_some, Option.isSome_some] at hget
        obtain ⟨w2, hrun, hm2, hg2⟩ := hm.put a hal c (HWA.out c rfl) (by unfold maxLen; omega)
        have HM2 := Lib.hid hm2; have HG2 := Lib.hid hg2
        clear hm hm2 hg2 HWA
        go_wp2_with fail
        go_roundw
        case rel => exact ⟨k + 1, by omega, by go_num, by rw [HE.out]; exact HM2.out, HG.out.trans HG2.out⟩
        case measure => simp [intOf]; omega
    · have HT := Lib.hid (show S.take k = S from List.take_of_length_le (by omega))
      have hk' : k = S.length := by omega
      have HMM := Lib.hid (show Mp wr (w.heap.size + 1 + 1) S.length (excF F S at') from by have := HMR.out; rw [HT.out, hk'] at this; exact this)
      have HBT := Lib.hid (BUT1.out.grown HG.out (fun j e => by injection e with e; exact .inr (.inr (by omega))))
      obtain ⟨g0, g0f⟩ := tA.at_ 0 _ rfl
      obtain ⟨g1, g1f⟩ := tA.at_ 1 _ rfl
      have hbr := tB.lt
      have HR := Lib.hid (running_any true at' (w.heap.size + 1 + 1) S.length (excF F S at') wr HMM.out (by omega))
      clear hsidx hcw hsw hm hg tB tU tA tO
      go_wp2_with fail
      refine HR.out.mono ?_
      rintro e w2 ⟨K, hks, hkn, o, rfl, ho, hb2, hlo⟩
      obtain ⟨oo, oc, rfl⟩ := ho.shape
      have tB2 := TB.out.below hb2 hbr
      have tA2 := TA.out.below hb2 TA.out.lt
      have tU2 := TU.out.below hb2 TU.out.lt
      obtain ⟨d0, d0f⟩ := tB2.at_ 0 _ rfl
      obtain ⟨d1, d1f⟩ := tB2.at_ 1 _ rfl
      obtain ⟨e0, e0f⟩ := tA2.at_ 0 _ rfl
      obtain ⟨e1, e1f⟩ := tA2.at_ 1 _ rfl
      obtain ⟨e2, e2f⟩ := tU2.at_ 2 _ rfl
      have HKS := Lib.hid hks; have HKN := Lib.hid hkn; have HO := Lib.hid ho; have HLO := Lib.hid hlo; have HB2 := Lib.hid hb2
      have TB2 := Lib.hid tB2; have TA2 := Lib.hid tA2
      clear hks hkn ho hlo hb2 tB2 tA2 tU2 HR a0 a1 a2 f0 f1 f2 c0 c2 g0 g1 g0f g1f
      go_wp2_with fail
      go_region
      all_goals
       go_wp2_with fail
       have RR := fun u4 u0 u1 u2 u3 => (((((TA2.out.set 1 u4).far (p := ⟨B, 0, none⟩) (by simp; omega) u0).far (p := ⟨B, 1, none⟩) (by simp; omega) u1).set 0 u2).set 1 u3)
       have r0 := fun u4 u0 u1 u2 u3 => ((RR u4 u0 u1 u2 u3).at_ 0 _ rfl).1
       have r1 := fun u4 u0 u1 u2 u3 => ((RR u4 u0 u1 u2 u3).at_ 1 _ rfl).1
       have hL := HLO.out.mono (lo' := w.heap.size + 3) (by omega)
       refine bodyPost_ret (v := .agg #[.bool false, .slice oo (K.filter (runF (excF F S at'))).length oc]) (by simp [results, Tryz.results56, go_sem, r0, r1]) rfl ⟨w.heap.size + 1 + 1, _, K.filter (runF (excF F S at')), w.heap.size + 3, rfl, ?_, ?_, ?_, hL, by omega, by omega, .inr (by omega), ?_, ?_, ?_⟩
       · exact (((((HO.out.far hL (by simp) _).far hL (by simp; omega) _).far hL (by simp; omega) _).far hL (by simp) _).far hL (by simp) _).mono (Below.drew (Below.refl _ _))
       · have := rises_only HKS.out
         simp only [Bool.true_and]; exact this
       · have h1 := List.length_filter_le (runF (excF F S at')) K
         have h2 := HKN.out
         omega
       · exact (((((TB2.out.far (p := ⟨w.heap.size + 1, 1, none⟩) (by simp; omega) _).set 0 (.bool true)).set 1 (.int .i64 z)).far (p := ⟨w.heap.size + 1, 0, none⟩) (by simp; omega) _).far (p := ⟨w.heap.size + 1, 1, none⟩) (by simp; omega) _).drew
       · exact ((((((HMM.out.below HB2.out HMM.out.lt).set (by simp) _).set (by simp; omega) _).set (by simp; omega) _).set (by simp) _).set (by simp) _).drew.up (by omega)
       · exact (((((((HBT.out.trans (But.of_below HB2.out B b)).set (.inr (by simp)) _).set (.inl rfl) _).set (.inl rfl) _).set (.inr (by simp)) _).set (.inr (by simp)) _)).drew

def inF (kind : Int) (ex : Bool) (at' : Int) (F : Str → Option Int) (S : List Str) (m : Int) : Str → Option Int :=
 if kind = 6 then (if ex then fillF F (S.filter (notBlk F)) at' else F)
 else if kind = 2 ∨ kind = 4 then excF F S (freshOf ex (kind == 4) at' m)
 else setF F S m
def inEx (kind : Int) (ex : Bool) : Bool := ex || kind == 2 || kind == 4
def inAt (kind at' m : Int) : Int := if kind = 2 ∨ kind = 4 then m else at'
def inG (kind : Int) (ex : Bool) : Bool := kind == 3 && ex
def inQ (kind : Int) (ex : Bool) (at' : Int) (F : Str → Option Int) (S : List Str) (m : Int) (a : Str) : Bool :=
 if kind = 6 then S.contains a && (if ex then notBlk F a else runF F a)
 else if kind = 2 ∨ kind = 4 then kind == 4 && runF (excF F S (freshOf ex (kind == 4) at' m)) a
 else kind == 3 && (runF F a && !S.contains a)

def may (now mem last : Int) : Bool := decide (1 ≤ now ∧ now ≤ 1099511627776 ∧ 1 ≤ mem ∧ mem ≤ 1000000 ∧ 1 ≤ last ∧ last ≤ 1000000)
def verdict (ok : Bool) (kind : Int) (n : Nat) (now mem last : Int) : Int :=
 if ok then (if may now mem last && decide (n ≤ 60) && decide (1 ≤ kind ∧ kind ≤ 6) then 0 else 1) else 3

def noState : Value := .agg #[.bool false, .int .i64 0, .slice none 0 0]
def noAsk : Value := .agg #[.bool false, .slice none 0 0]

def RetApp (w : World) (ex : Bool) (at' : Int) (L : List Tmd) (kind : Int) (S : List Str) (n : Nat) (now mem last : Int) (e : Ending) (w' : World) : Prop :=
 Below w.heap.size w w' ∧
 ((verdict (pcheck ex at' L) kind n now mem last ≠ 0 ∧ e = .returned (.tuple #[noState, .bool false, noAsk, .int .i64 (verdict (pcheck ex at' L) kind n now mem last)])) ∨
  (verdict (pcheck ex at' L) kind n now mem last = 0 ∧ ∃ K, KeysOf' (inF kind ex at' (rd L) S (now + mem)) K ∧
    ((60 < K.length ∧ e = .returned (.tuple #[noState, .bool false, noAsk, .int .i64 1])) ∨
     (K.length ≤ 60 ∧ (inEx kind ex = false ∧ K = []) ∧ e = .returned (.tuple #[noState, .bool false, noAsk, .int .i64 0])) ∨
     (K.length ≤ 60 ∧ ¬ (inEx kind ex = false ∧ K = []) ∧ ∃ v L' u R, e = .returned (.tuple #[.agg #[.bool (inEx kind ex), .int .i64 (if inG kind ex then min (inAt kind at' (now + mem)) (now + last) else inAt kind at' (now + mem)), v], .bool true, .agg #[.bool (inG kind ex), u], .int .i64 0]) ∧
       Tms w' v L' ∧ Strs w' u R ∧ Rises (inQ kind ex at' (rd L) S (now + mem)) R ∧ Asc (soonF (inF kind ex at' (rd L) S (now + mem)) R (now + last)) L' ∧ Lies w.heap.size v ∧ Lies w.heap.size u))))

theorem Mp.count {w : World} {b n : Nat} {F : Str → Option Int} (h : Mp w b n F) : ∃ K, KeysOf' F K ∧ ∀ ty, (Builtin.len_ #[107] ty #[.map (some b)]).run Tryz.prog w = .ok (.int .i64 K.length) w := by
 obtain ⟨D, h, e⟩ := h
 refine ⟨(strKeys D).mergeSort fun x y => decide (x ≤ y), keys_sorted h e (List.Perm.refl _), fun ty => ?_⟩
 have hl : (strKeys D).length = Maps.size D := by obtain ⟨es, rfl⟩ := h.isMap; simp [strKeys, Maps.size]
 rw [List.length_mergeSort, hl]
 exact h.len Tryz.underlying107 ty

-- THE WALK
def AppBox (w : World) (lo : Nat) (ex : Bool) (at' : Int) (v : Value) (kind : Int) (g : ByteArray) (rv : Value) (mem last : Int) : Prop :=
 CBox w lo 71 #[.bool ex, .int .i64 at', v] ∧ CBox w (lo + 1) 39 #[.int .i64 kind, .string g, rv] ∧ CBox w (lo + 1 + 1) 23 #[.int .i64 mem, .int .i64 last] ∧
  CBox w (lo + 1 + 1 + 1) 71 #[.bool false, .int .i64 0, .slice none 0 0] ∧ CBox w (lo + 1 + 1 + 1 + 1) 51 #[.bool false, .slice none 0 0]
section
variable {w w' : World} {lo : Nat} {ex : Bool} {at' : Int} {v : Value} {kind : Int} {g : ByteArray} {rv : Value} {mem last : Int}
theorem AppBox.cells (h : AppBox w lo ex at' v kind g rv mem last) : w.cell? ⟨lo, 0, none⟩ = some (.bool ex) ∧ w.cell? ⟨lo, 1, none⟩ = some (.int .i64 at') ∧ w.cell? ⟨lo, 2, none⟩ = some v ∧ w.cell? ⟨lo + 1, 0, none⟩ = some (.int .i64 kind) ∧ w.cell? ⟨lo + 1, 2, none⟩ = some rv ∧
 w.cell? ⟨lo + 1 + 1, 0, none⟩ = some (.int .i64 mem) ∧ w.cell? ⟨lo + 1 + 1, 1, none⟩ = some (.int .i64 last) ∧ w.cell? ⟨lo + 1 + 1 + 1, 0, none⟩ = some (.bool false) ∧ w.cell? ⟨lo + 1 + 1 + 1, 1, none⟩ = some (.int .i64 0) ∧ w.cell? ⟨lo + 1 + 1 + 1, 2, none⟩ = some (.slice none 0 0) ∧
 w.cell? ⟨lo + 1 + 1 + 1 + 1, 0, none⟩ = some (.bool false) ∧ w.cell? ⟨lo + 1 + 1 + 1 + 1, 1, none⟩ = some (.slice none 0 0) ∧ w.frozen? ⟨lo + 1 + 1 + 1, 0, none⟩ = false ∧ w.frozen? ⟨lo + 1 + 1 + 1, 1, none⟩ = false ∧ w.frozen? ⟨lo + 1 + 1 + 1, 2, none⟩ = false ∧ w.frozen? ⟨lo + 1 + 1 + 1 + 1, 0, none⟩ = false ∧ w.frozen? ⟨lo + 1 + 1 + 1 + 1, 1, none⟩ = false := by
 obtain ⟨h1, h2, h3, h4, h5⟩ := h
 exact ⟨(h1.at_ 0 _ rfl).1, (h1.at_ 1 _ rfl).1, (h1.at_ 2 _ rfl).1, (h2.at_ 0 _ rfl).1, (h2.at_ 2 _ rfl).1, (h3.at_ 0 _ rfl).1, (h3.at_ 1 _ rfl).1, (h4.at_ 0 _ rfl).1, (h4.at_ 1 _ rfl).1, (h4.at_ 2 _ rfl).1, (h5.at_ 0 _ rfl).1, (h5.at_ 1 _ rfl).1, h4.thaw 0, h4.thaw 1, h4.thaw 2, h5.thaw 0, h5.thaw 1⟩
theorem AppBox.below {B : Nat} (h : AppBox w lo ex at' v kind g rv mem last) (hb : Below B w w') (hB : lo + 4 < B) : AppBox w' lo ex at' v kind g rv mem last :=
 ⟨h.1.below hb (by omega), h.2.1.below hb (by omega), h.2.2.1.below hb (by omega), h.2.2.2.1.below hb (by omega), h.2.2.2.2.below hb (by omega)⟩
theorem AppBox.lt (h : AppBox w lo ex at' v kind g rv mem last) : lo + 4 < w.heap.size := h.2.2.2.2.lt
theorem AppBox.but {B b : Nat} (h : AppBox w lo ex at' v kind g rv mem last) (hb : But w w' B b) (h1 : lo + 4 < B) (h2 : lo + 4 < b) : AppBox w' lo ex at' v kind g rv mem last :=
 ⟨hb.box h.1 (by omega) (by omega), hb.box h.2.1 (by omega) (by omega), hb.box h.2.2.1 (by omega) (by omega), hb.box h.2.2.2.1 (by omega) (by omega), hb.box h.2.2.2.2 (by omega) (by omega)⟩
theorem AppBox.far {p : Addr} (h : AppBox w lo ex at' v kind g rv mem last) (hp : lo + 4 < p.block) (u : Value) : AppBox (w.setCell p u) lo ex at' v kind g rv mem last :=
 ⟨h.1.far (by omega) u, h.2.1.far (by omega) u, h.2.2.1.far (by omega) u, h.2.2.2.1.far (by omega) u, h.2.2.2.2.far (by omega) u⟩
theorem AppBox.start (w : World) (ex : Bool) (at' : Int) (v : Value) (kind : Int) (g : ByteArray) (rv : Value) (mem last : Int) :
 AppBox (((((w.alloc (.cells #[.bool ex, .int .i64 at', v] 71)).alloc (.cells #[.int .i64 kind, .string g, rv] 39)).alloc (.cells #[.int .i64 mem, .int .i64 last] 23)).alloc (.cells #[.bool false, .int .i64 0, .slice none 0 0] 71)).alloc (.cells #[.bool false, .slice none 0 0] 51)) w.heap.size ex at' v kind g rv mem last ∧
 Below w.heap.size w (((((w.alloc (.cells #[.bool ex, .int .i64 at', v] 71)).alloc (.cells #[.int .i64 kind, .string g, rv] 39)).alloc (.cells #[.int .i64 mem, .int .i64 last] 23)).alloc (.cells #[.bool false, .int .i64 0, .slice none 0 0] 71)).alloc (.cells #[.bool false, .slice none 0 0] 51)) :=
 ⟨⟨((((CBox.new _ rfl).old _).old _).old _).old _, (((CBox.new _ (by simp)).old _).old _).old _, ((CBox.new _ (by simp)).old _).old _, (CBox.new _ (by simp)).old _, CBox.new _ (by simp)⟩,
  (((((Below.refl _ _).alloc (Nat.le_refl _) _).alloc (by simp) _).alloc (by simp <;> omega) _).alloc (by simp <;> omega) _).alloc (by simp <;> omega) _⟩
theorem AppBox.end5 (h : AppBox w lo ex at' v kind g rv mem last) (u0 u1 u2 u3 u4 : Value) :
 (((((w.setCell ⟨lo + 1 + 1 + 1, 0, none⟩ u0).setCell ⟨lo + 1 + 1 + 1, 1, none⟩ u1).setCell ⟨lo + 1 + 1 + 1, 2, none⟩ u2).setCell ⟨lo + 1 + 1 + 1 + 1, 0, none⟩ u3).setCell ⟨lo + 1 + 1 + 1 + 1, 1, none⟩ u4).cell? ⟨lo + 1 + 1 + 1, 0, none⟩ = some u0 ∧ (((((w.setCell ⟨lo + 1 + 1 + 1, 0, none⟩ u0).setCell ⟨lo + 1 + 1 + 1, 1, none⟩ u1).setCell ⟨lo + 1 + 1 + 1, 2, none⟩ u2).setCell ⟨lo + 1 + 1 + 1 + 1, 0, none⟩ u3).setCell ⟨lo + 1 + 1 + 1 + 1, 1, none⟩ u4).cell? ⟨lo + 1 + 1 + 1, 1, none⟩ = some u1 ∧ (((((w.setCell ⟨lo + 1 + 1 + 1, 0, none⟩ u0).setCell ⟨lo + 1 + 1 + 1, 1, none⟩ u1).setCell ⟨lo + 1 + 1 + 1, 2, none⟩ u2).setCell ⟨lo + 1 + 1 + 1 + 1, 0, none⟩ u3).setCell ⟨lo + 1 + 1 + 1 + 1, 1, none⟩ u4).cell? ⟨lo + 1 + 1 + 1, 2, none⟩ = some u2 ∧ (((((w.setCell ⟨lo + 1 + 1 + 1, 0, none⟩ u0).setCell ⟨lo + 1 + 1 + 1, 1, none⟩ u1).setCell ⟨lo + 1 + 1 + 1, 2, none⟩ u2).setCell ⟨lo + 1 + 1 + 1 + 1, 0, none⟩ u3).setCell ⟨lo + 1 + 1 + 1 + 1, 1, none⟩ u4).cell? ⟨lo + 1 + 1 + 1 + 1, 0, none⟩ = some u3 ∧ (((((w.setCell ⟨lo + 1 + 1 + 1, 0, none⟩ u0).setCell ⟨lo + 1 + 1 + 1, 1, none⟩ u1).setCell ⟨lo + 1 + 1 + 1, 2, none⟩ u2).setCell ⟨lo + 1 + 1 + 1 + 1, 0, none⟩ u3).setCell ⟨lo + 1 + 1 + 1 + 1, 1, none⟩ u4).cell? ⟨lo + 1 + 1 + 1 + 1, 1, none⟩ = some u4 := by
 have RS := (((((h.2.2.2.1.set 0 u0).set 1 u1).set 2 u2).far (p := ⟨lo + 1 + 1 + 1 + 1, 0, none⟩) (by simp) u3).far (p := ⟨lo + 1 + 1 + 1 + 1, 1, none⟩) (by simp) u4)
 have RK := (((((h.2.2.2.2.far (p := ⟨lo + 1 + 1 + 1, 0, none⟩) (by simp) u0).far (p := ⟨lo + 1 + 1 + 1, 1, none⟩) (by simp) u1).far (p := ⟨lo + 1 + 1 + 1, 2, none⟩) (by simp) u2).set 0 u3).set 1 u4)
 exact ⟨(RS.at_ 0 _ rfl).1, (RS.at_ 1 _ rfl).1, (RS.at_ 2 _ rfl).1, (RK.at_ 0 _ rfl).1, (RK.at_ 1 _ rfl).1⟩
theorem below_end5 {B : Nat} {a w : World} (h : Below B a w) {lo : Nat} (hB : B ≤ lo + 1 + 1 + 1) (u0 u1 u2 u3 u4 : Value) : Below B a (((((w.setCell ⟨lo + 1 + 1 + 1, 0, none⟩ u0).setCell ⟨lo + 1 + 1 + 1, 1, none⟩ u1).setCell ⟨lo + 1 + 1 + 1, 2, none⟩ u2).setCell ⟨lo + 1 + 1 + 1 + 1, 0, none⟩ u3).setCell ⟨lo + 1 + 1 + 1 + 1, 1, none⟩ u4) :=
 ((((h.setCell hB u0).setCell hB u1).setCell hB u2).setCell (Nat.le_succ_of_le hB) u3).setCell (Nat.le_succ_of_le hB) u4
theorem Tms.end5 {w : World} {v : Value} {L : List Tmd} {l lo : Nat} (h : Tms w v L) (hl : Lies l v) (hlo : lo + 1 + 1 + 1 + 1 < l) (u0 u1 u2 u3 u4 : Value) : Tms (((((w.setCell ⟨lo + 1 + 1 + 1, 0, none⟩ u0).setCell ⟨lo + 1 + 1 + 1, 1, none⟩ u1).setCell ⟨lo + 1 + 1 + 1, 2, none⟩ u2).setCell ⟨lo + 1 + 1 + 1 + 1, 0, none⟩ u3).setCell ⟨lo + 1 + 1 + 1 + 1, 1, none⟩ u4) v L :=
 ((((h.far hl (p := ⟨lo + 1 + 1 + 1, 0, none⟩) (by simp; omega) u0).far hl (p := ⟨lo + 1 + 1 + 1, 1, none⟩) (by simp; omega) u1).far hl (p := ⟨lo + 1 + 1 + 1, 2, none⟩) (by simp; omega) u2).far hl (p := ⟨lo + 1 + 1 + 1 + 1, 0, none⟩) (by simp; omega) u3).far hl (p := ⟨lo + 1 + 1 + 1 + 1, 1, none⟩) (by simp; omega) u4
theorem Strs.end5 {w : World} {v : Value} {L : List Str} {l lo : Nat} (h : Strs w v L) (hl : Lies l v) (hlo : lo + 1 + 1 + 1 + 1 < l) (u0 u1 u2 u3 u4 : Value) : Strs (((((w.setCell ⟨lo + 1 + 1 + 1, 0, none⟩ u0).setCell ⟨lo + 1 + 1 + 1, 1, none⟩ u1).setCell ⟨lo + 1 + 1 + 1, 2, none⟩ u2).setCell ⟨lo + 1 + 1 + 1 + 1, 0, none⟩ u3).setCell ⟨lo + 1 + 1 + 1 + 1, 1, none⟩ u4) v L :=
 ((((h.far hl (p := ⟨lo + 1 + 1 + 1, 0, none⟩) (by simp; omega) u0).far hl (p := ⟨lo + 1 + 1 + 1, 1, none⟩) (by simp; omega) u1).far hl (p := ⟨lo + 1 + 1 + 1, 2, none⟩) (by simp; omega) u2).far hl (p := ⟨lo + 1 + 1 + 1 + 1, 0, none⟩) (by simp; omega) u3).far hl (p := ⟨lo + 1 + 1 + 1 + 1, 1, none⟩) (by simp; omega) u4
end

theorem wants_in (ex : Bool) (at' : Int) (b n B : Nat) (F : Str → Option Int) (kind z : Int) (sv : Value) (S : List Str) (lo : Nat) (w : World) (hk : kind = 1 ∨ kind = 3 ∨ kind = 5) (hB : CBox w B 109 #[.bool ex, .int .i64 at', .map (some b)]) (h : Mp w b n F) (hn : n + S.length ≤ 8796093022200)
 (hS : Strs w sv S) (hl : Lies lo sv) (hBl : B < lo) (hbl : b < lo) (hz : (Lit.int .i64 z).wf = true) :
 Calls Tryz.prog 54 #[.pointer (some ⟨B, 0, none⟩), .agg #[.int .i64 kind, sv, .int .i64 z]] w (RetWork w B b (inEx kind ex) (inAt kind at' z) (n + S.length) (inF kind ex at' F S z) (inG kind ex) (fun a => inQ kind ex at' F S z a)) := by
 have := wants_any ex at' b n B F kind z sv S lo w hB h hn hS hl hBl hbl hz
 rcases hk with rfl | rfl | rfl <;> simpa [inEx, inAt, inF, inG, inQ] using this
theorem refuses_in (ex : Bool) (at' : Int) (b n B : Nat) (F : Str → Option Int) (z : Int) (sv : Value) (S : List Str) (lo : Nat) (w : World) (hB : CBox w B 109 #[.bool ex, .int .i64 at', .map (some b)]) (h : Mp w b n F) (hn : n + S.length ≤ 8796093022200)
 (hS : Strs w sv S) (hr : S.Pairwise (· < ·)) (hl : Lies lo sv) (hBl : B < lo) (hbl : b < lo) (ha : (Lit.int .i64 at').wf = true) :
 Calls Tryz.prog 55 #[.pointer (some ⟨B, 0, none⟩), .agg #[.int .i64 6, sv, .int .i64 z]] w (RetWork w B b (inEx 6 ex) (inAt 6 at' z) (n + S.length) (inF 6 ex at' F S z) (inG 6 ex) (fun a => inQ 6 ex at' F S z a)) := by
 cases ex
 · have := refuses_no at' b n B F 6 z sv S lo w hB h hn hS hr hl hBl hbl
   simpa [inEx, inAt, inF, inG, inQ] using this
 · have := refuses_yes at' b n B F 6 z sv S lo w hB h hn hS hr hl hBl hbl ha
   simpa [inEx, inAt, inF, inG, inQ] using this
theorem excepts_in (ex : Bool) (at' : Int) (b n B : Nat) (F : Str → Option Int) (kind z : Int) (sv : Value) (S : List Str) (lo : Nat) (w : World) (hk : kind = 2 ∨ kind = 4) (hB : CBox w B 109 #[.bool ex, .int .i64 at', .map (some b)]) (h : Mp w b n F) (hn : n + S.length ≤ 8796093022200)
 (hS : Strs w sv S) (hl : Lies lo sv) (hBl : B < lo) (hbl : b < lo) (hz : (Lit.int .i64 z).wf = true) (ha : (Lit.int .i64 at').wf = true) :
 Calls Tryz.prog 56 #[.pointer (some ⟨B, 0, none⟩), .agg #[.int .i64 kind, sv, .int .i64 z]] w (RetWork w B b (inEx kind ex) (inAt kind at' z) (n + S.length) (inF kind ex at' F S z) (inG kind ex) (fun a => inQ kind ex at' F S z a)) := by
 have := excepts_any ex at' b n B F kind z sv S lo w hB h hn hS hl hBl hbl hz ha
 rcases hk with rfl | rfl <;> simpa [inEx, inAt, inF, inG, inQ] using this

theorem may_eq (now mem last : Int) : may now mem last = ((decide (1 ≤ now) && decide (now ≤ 1099511627776)) && (decide (1 ≤ mem) && decide (mem ≤ 1000000)) && (decide (1 ≤ last) && decide (last ≤ 1000000))) := by
 unfold may
 rw [Bool.eq_iff_iff]
 simp only [Bool.and_eq_true, decide_eq_true_eq, and_assoc]

theorem Strs.apart {w : World} {v : Value} {L : List Str} (h : Strs w v L) {p : Addr} (hne : ∀ b, v.ownBlock = some b → b ≠ p.block) (u : Value) : Strs (w.setCell p u) v L := by
 obtain ⟨ao, cap, b, off, rfl, h0, h1, h2, h3⟩ := h
 refine ⟨ao, cap, b, off, rfl, h0, h1, h2, fun k hk => ?_⟩
 obtain ⟨hlt, hc⟩ := h3 k hk
 have hb : b ≠ p.block := by
  rcases h0 with rfl | rfl
  · simp at hk
  · exact hne b rfl
 refine ⟨by simpa using hlt, ?_⟩
 rw [World.cell?_setCell_other w p _ u (fun e => hb (by rw [e]))]
 exact hc

theorem bcell {B : Nat} {w w' : World} (hb : Below B w w') : (∀ b o, b < B → w'.cell? ⟨b, o, none⟩ = w.cell? ⟨b, o, none⟩) ∧ (∀ b o, b < B → w'.frozen? ⟨b, o, none⟩ = w.frozen? ⟨b, o, none⟩) :=
 ⟨fun b o h => hb.cell (p := ⟨b, o, none⟩) h, fun b o h => hb.frozen (p := ⟨b, o, none⟩) h⟩

def SortedAt (w4 W : World) (C : List Str) (e : Ending) (W' : World) : Prop :=
 Below w4.heap.size w4 W ∧ ∃ v, e = .returned v ∧ Below W.heap.size W W' ∧ (∀ b, v.ownBlock = some b → W.heap.size ≤ b ∧ b < W'.heap.size) ∧ ∀ W2, Below W'.heap.size W' W2 → Calls Tryz.prog 51 #[v] W2 fun e w'' =>
       ∃ o, e = .returned o ∧ Strs w'' o (sasc C) ∧ W2.grownBy w'' v.ownBlock ∧ o.ownBlock = v.ownBlock

def CompactAt (w4 W w6 W2 : World) (C : List Str) (e : Ending) (w7 : World) : Prop :=
 ∃ oo oc, e = .returned (.slice oo (sasc C).length oc) ∧ Strs w7 (.slice oo (sasc C).length oc) (sasc C) ∧ (∀ b o, b < W.heap.size → w7.cell? ⟨b, o, none⟩ = W.cell? ⟨b, o, none⟩) ∧ (∀ b o, b < W.heap.size → w7.frozen? ⟨b, o, none⟩ = W.frozen? ⟨b, o, none⟩) ∧
   (∀ b o, w6.heap.size ≤ b → b < W2.heap.size → w7.cell? ⟨b, o, none⟩ = W2.cell? ⟨b, o, none⟩) ∧ (∀ b o, w6.heap.size ≤ b → b < W2.heap.size → w7.frozen? ⟨b, o, none⟩ = W2.frozen? ⟨b, o, none⟩) ∧
   (∀ b, (Value.slice oo (sasc C).length oc).ownBlock = some b → W.heap.size ≤ b ∧ b < w6.heap.size) ∧ Hid (Below w4.heap.size w4 w7 ∧ Below W.heap.size W w7 ∧ (∀ b, w6.heap.size ≤ b → b < W2.heap.size → w7.heap[b]? = W2.heap[b]?) ∧ W.heap.size ≤ w6.heap.size)

theorem compact_at {w4 W w6 W2 : World} {L : List Str} {v : Value} (_h1 : Below w4.heap.size w4 w6) (h0 : Below w4.heap.size w4 W) (h2 : Below W.heap.size W w6) (h3 : ∀ b, v.ownBlock = some b → W.heap.size ≤ b ∧ b < w6.heap.size) (h4 : Below w6.heap.size w6 W2)
 (hc : Calls Tryz.prog 51 #[v] W2 fun e w'' => ∃ o, e = .returned o ∧ Strs w'' o (sasc L) ∧ W2.grownBy w'' v.ownBlock ∧ o.ownBlock = v.ownBlock) : Calls Tryz.prog 51 #[v] W2 (CompactAt w4 W w6 W2 L) := by
 refine hc.mono ?_
 rintro e w7 ⟨o, rfl, hs, hg, hob⟩
 obtain ⟨oo, oc, rfl⟩ := hs.shape
 have hbW2 : Below W.heap.size W W2 := h2.trans (h4.mono h2.size)
 have hb7 : Below W.heap.size W w7 := hbW2.grown hg hbW2.size (fun k e => (h3 k e).1)
 have hh : ∀ b, w6.heap.size ≤ b → b < W2.heap.size → w7.heap[b]? = W2.heap[b]? := fun b h5 h6 => hg.block b h6 (fun e => by have := (h3 b e.symm).2; omega)
 exact ⟨oo, oc, rfl, hs, (bcell hb7).1, (bcell hb7).2, fun b o h5 h6 => World.cell?_of_block (w := W2) (hh b h5 h6), fun b o h5 h6 => World.frozen?_of_block (w := W2) (hh b h5 h6), fun b e => h3 b (hob ▸ e), Lib.hid ⟨h0.trans (hb7.mono h0.size), hb7, hh, h2.size⟩⟩

set_option maxRecDepth 20000 in
set_option maxHeartbeats 16000000 in
theorem apply_any (ex : Bool) (at' : Int) (v : Value) (L : List Tmd) (is : Bool) (kind : Int) (g : ByteArray) (rv : Value) (C : List Str) (now mem last : Int) (w : World) (h : Tms w v L) (hr : Strs w rv C) (ha : (Lit.int .i64 at').wf = true) :
 Calls Tryz.prog 31 #[.agg #[.bool ex, .int .i64 at', v], .bool is, .agg #[.int .i64 kind, .string g, rv], .int .i64 now, .agg #[.int .i64 mem, .int .i64 last]] w (RetApp w (is && ex) (if is then at' else 0) (if is then L else []) kind (sasc C) C.length now mem last) := by
 obtain ⟨vo, vc, rfl⟩ := h.shape
 obtain ⟨ro, rc, rfl⟩ := hr.shape
 obtain ⟨W0, hW0⟩ : ∃ W0, W0 = ((((w.alloc (.cells #[.bool ex, .int .i64 at', .slice vo L.length vc] 71)).alloc (.cells #[.int .i64 kind, .string g, .slice ro C.length rc] 39)).alloc (.cells #[.int .i64 mem, .int .i64 last] 23)).alloc (.cells #[.bool false, .int .i64 0, .slice none 0 0] 71)).alloc (.cells #[.bool false, .slice none 0 0] 51) := ⟨_, rfl⟩
 have hb0 : Below w.heap.size w W0 := by rw [hW0]; exact (((((Below.refl _ _).alloc (Nat.le_refl _) _).alloc (by simp) _).alloc (by simp <;> omega) _).alloc (by simp <;> omega) _).alloc (by simp <;> omega) _
 have hs0 : W0.heap.size = w.heap.size + 5 := by rw [hW0]; simp
 have hbx : AppBox W0 w.heap.size ex at' (.slice vo L.length vc) kind g (.slice ro C.length rc) mem last := by
  rw [hW0]
  exact ⟨((((CBox.new _ rfl).old _).old _).old _).old _, (((CBox.new _ (by simp)).old _).old _).old _, ((CBox.new _ (by simp)).old _).old _, (CBox.new _ (by simp)).old _, CBox.new _ (by simp)⟩
 obtain ⟨e0, he0⟩ : ∃ e0, e0 = (is && ex) := ⟨_, rfl⟩
 obtain ⟨a0, ha0⟩ : ∃ a0, a0 = (if is then at' else 0) := ⟨_, rfl⟩
 obtain ⟨L0, hL0⟩ : ∃ L0, L0 = (if is then L else []) := ⟨_, rfl⟩
 obtain ⟨v0, hv0⟩ : ∃ v0 : Value, v0 = (if is then .slice vo L.length vc else .slice none 0 0) := ⟨_, rfl⟩
 rw [← he0, ← ha0, ← hL0]
 have HWA : Hid ((Lit.int .i64 a0).wf = true) := by rw [ha0]; cases is; exact Lib.hid rfl; exact Lib.hid ha
 have HE := Lib.hid (And.intro he0 (And.intro ha0 (And.intro hL0 hv0)))
 have HB0 := Lib.hid hb0; have HBX := Lib.hid hbx; have HT := Lib.hid (h.mono hb0); have HR := Lib.hid (hr.mono hb0); have HR0 := Lib.hid hr
 obtain ⟨s0, s1, s2, k0, k2, m0, m1, n0, n1, n2, o0, o1, n0f, n1f, n2f, o0f, o1f⟩ := hbx.cells
 have s0f := hbx.1.thaw 0; have s1f := hbx.1.thaw 1; have s2f := hbx.1.thaw 2
 have hrl : C.length ≤ 8796093022208 := by obtain ⟨_, _, _, _, _, _, h, _⟩ := hr; exact h
 rw [hW0] at s0 s1 s2 k0 k2 m0 m1 n0 n1 n2 o0 o1 n0f n1f n2f o0f o1f s0f s1f s2f
 clear h hr ha hb0 hbx he0 ha0 hL0 hv0
 go_enter Tryz.func31, Tryz.ntmps31
 go_upto_if 19 with fail
 go_cut [] (fun w' => AppBox w' w.heap.size e0 a0 v0 kind g (.slice ro C.length rc) mem last ∧ Tms w' v0 L0 ∧ Strs w' (.slice ro C.length rc) C ∧ Below w.heap.size w w' ∧ w.heap.size + 5 ≤ w'.heap.size)
 case first =>
  cases is
  · go_wp2_with fail
    go_meet
    case rel =>
     obtain ⟨rfl, rfl, rfl, rfl⟩ := HE.out
     obtain ⟨q1, q2⟩ := AppBox.start w false 0 (.slice none 0 0) kind g (.slice ro C.length rc) mem last
     exact ⟨q1, Tms.nil _, HR0.out.mono q2, q2, q1.lt⟩
  · go_wp2_with fail
    go_meet
    case rel =>
     obtain ⟨rfl, rfl, rfl, rfl⟩ := HE.out
     rw [← hW0]
     exact ⟨HBX.out, HT.out, HR.out, HB0.out, by omega⟩
 case rest =>
  obtain ⟨w1, rfl⟩ : ∃ w1, w1 = wc := ⟨_, rfl⟩
  obtain ⟨hA, hT, hC, hB, hz⟩ := hcut
  obtain ⟨o0', c0', rfl⟩ := hT.shape
  have A1 := Lib.hid hA; have T1 := Lib.hid hT; have C1 := Lib.hid hC; have B1 := Lib.hid hB; have Z1 := Lib.hid hz
  have HCK := Lib.hid (check_any e0 a0 _ L0 w1 hT)
  clear s0 s1 s2 k0 k2 m0 m1 n0 n1 n2 o0 o1 n0f n1f n2f o0f o1f s0f s1f s2f HE HB0 HBX HT HR HR0 hs0 hW0 W0
  obtain ⟨s0, s1, s2, _⟩ := hA.cells
  clear hA hT hC hB hz
  go_wp2_with fail
  refine HCK.out.mono ?_
  rintro e w2 ⟨rfl, hb2⟩
  have A2 := Lib.hid (A1.out.below hb2 A1.out.lt); have T2 := Lib.hid (T1.out.mono hb2); have C2 := Lib.hid (C1.out.mono hb2); have B2 := Lib.hid (B1.out.trans (hb2.mono B1.out.size)); have Z2 := Lib.hid (show w.heap.size + 5 ≤ w2.heap.size from Nat.le_trans Z1.out hb2.size)
  clear s0 s1 s2 hb2 HCK A1 T1 C1 B1 Z1
  obtain ⟨s0, s1, s2, k0, k2, m0, m1, n0, n1, n2, o0, o1, n0f, n1f, n2f, o0f, o1f⟩ := A2.out.cells
  have z2 := Z2.out
  cases hp : pcheck e0 a0 L0
  · have HP := Lib.hid hp
    go_wp2_with fail
    obtain ⟨r0, r1, r2, r3, r4⟩ := A2.out.end5 (.bool false) (.int .i64 0) (.slice none 0 0) (.bool false) (.slice none 0 0)
    have hBB := below_end5 B2.out (lo := w.heap.size) (by omega) (.bool false) (.int .i64 0) (.slice none 0 0) (.bool false) (.slice none 0 0)
    refine bodyPost_ret (v := .tuple #[noState, .bool false, noAsk, .int .i64 3]) (by simp only [results, Tryz.results31, go_sem, noState, noAsk]; simp [go_sem, r0, r1, r2, r3, r4]) rfl ⟨hBB, by rw [HP.out]; exact .inl ⟨by simp [verdict], rfl⟩⟩
  · have HP := Lib.hid hp
    clear hp
    obtain ⟨b1, hb1⟩ : ∃ b1, (decide (1 ≤ now) && decide (now ≤ 1099511627776)) = b1 := ⟨_, rfl⟩
    obtain ⟨b2, hb2⟩ : ∃ b2, (decide (1 ≤ mem) && decide (mem ≤ 1000000)) = b2 := ⟨_, rfl⟩
    obtain ⟨b3, hb3⟩ : ∃ b3, (decide (1 ≤ last) && decide (last ≤ 1000000)) = b3 := ⟨_, rfl⟩
    obtain ⟨b4, hb4⟩ : ∃ b4, decide (60 < C.length) = b4 := ⟨_, rfl⟩
    have G1 : Hid (∀ W, Calls Tryz.prog 50 #[.int .i64 now, .int .i64 1, .int .i64 1099511627776] W fun e w' => e = .returned (.bool b1) ∧ W = w') := Lib.hid (fun W => by rw [← hb1]; exact within_any now 1 1099511627776 W)
    have G2 : Hid (∀ W, Calls Tryz.prog 50 #[.int .i64 mem, .int .i64 1, .int .i64 1000000] W fun e w' => e = .returned (.bool b2) ∧ W = w') := Lib.hid (fun W => by rw [← hb2]; exact within_any mem 1 1000000 W)
    have G3 : Hid (∀ W, Calls Tryz.prog 50 #[.int .i64 last, .int .i64 1, .int .i64 1000000] W fun e w' => e = .returned (.bool b3) ∧ W = w') := Lib.hid (fun W => by rw [← hb3]; exact within_any last 1 1000000 W)
    have HV : Hid (∀ ok, verdict ok kind C.length now mem last = if ok then (if (b1 && b2 && b3) && !b4 && decide (1 ≤ kind ∧ kind ≤ 6) then 0 else 1) else 3) := Lib.hid (fun ok => by
     unfold verdict
     rw [may_eq, hb1, hb2, hb3, show decide (C.length ≤ 60) = !b4 from by rw [← hb4, ← decide_not, decide_eq_decide]; exact Nat.not_lt.symm])
    have hb4' : decide ((60 : Int) < (C.length : Int)) = b4 := by rw [← hb4, decide_eq_decide]; exact Int.ofNat_lt (n := 60)
    have HB1 := Lib.hid hb1; have HB2 := Lib.hid hb2; have HB3 := Lib.hid hb3; have HB4 := Lib.hid hb4
    clear hb1 hb2 hb3
    by_cases hall : (b1 && b2 && b3) && !b4 = true
    · obtain ⟨⟨⟨rfl, rfl⟩, rfl⟩, h4⟩ : ((b1 = true ∧ b2 = true) ∧ b3 = true) ∧ b4 = false := by simpa using hall
      subst h4
      clear hall
      have HVV : Hid (verdict (pcheck e0 a0 L0) kind C.length now mem last = if decide (1 ≤ kind ∧ kind ≤ 6) then 0 else 1) := Lib.hid (by rw [HV.out, HP.out]; simp)
      go_wp2_with (first | ((with_reducible refine (G1.out _).mono ?_); rintro e w' ⟨rfl, rfl⟩) | ((with_reducible refine (G2.out _).mono ?_); rintro e w' ⟨rfl, rfl⟩) | ((with_reducible refine (G3.out _).mono ?_); rintro e w' ⟨rfl, rfl⟩))
      have HRD := Lib.hid (read_any e0 a0 _ L0 w2 T2.out)
      refine HRD.out.mono ?_
      rintro e w3 ⟨b, rfl, hm3, hbb, hb3⟩
      obtain ⟨w4, hw4⟩ : ∃ w4, w4 = w3.alloc (.cells #[.bool e0, .int .i64 a0, .map (some b)] 109) := ⟨_, rfl⟩
      have h34 : Below w3.heap.size w3 w4 := by rw [hw4]; exact (Below.refl _ _).alloc (Nat.le_refl _) _
      have hs4 : w4.heap.size = w3.heap.size + 1 := by rw [hw4]; simp
      have h24 : Below w2.heap.size w2 w4 := hb3.trans (h34.mono hb3.size)
      have k4 : CBox w4 w3.heap.size 109 #[.bool e0, .int .i64 a0, .map (some b)] := by rw [hw4]; exact CBox.new _ rfl
      have A4 := Lib.hid (A2.out.below h24 A2.out.lt); have C4 := Lib.hid (C2.out.mono h24); have B4 := Lib.hid (B2.out.trans (h24.mono B2.out.size)); have K4 := Lib.hid k4; have M4 := Lib.hid (hm3.below h34 hm3.lt)
      have z3 := hb3.size
      have hbl := hm3.lt
      have hll : L0.length ≤ 60 := by have := HP.out; unfold pcheck at this; simp only [Bool.and_eq_true, decide_eq_true_eq] at this; omega
      have hcl : C.length ≤ 60 := by have := HB4.out; simpa [Nat.not_lt] using this
      obtain ⟨hn1, hn2, hm1, hm2, hl1, hl2⟩ : 1 ≤ now ∧ now ≤ 1099511627776 ∧ 1 ≤ mem ∧ mem ≤ 1000000 ∧ 1 ≤ last ∧ last ≤ 1000000 := by
       have h1 := HB1.out; have h2 := HB2.out; have h3 := HB3.out
       simp only [Bool.and_eq_true, decide_eq_true_eq] at h1 h2 h3
       exact ⟨h1.1, h1.2, h2.1, h2.2, h3.1, h3.2⟩
      clear s0 s1 s2 k0 k2 m0 m1 n0 n1 n2 o0 o1 n0f n1f n2f o0f o1f hm3 hb3 h34 k4 A2 T2 C2 B2 Z2 HRD G1 G2 G3 HP HV hb4 hb4' h24 HB1 HB2 HB3 HB4
      go_upto_region 9 with fail
      rw [← hw4]
      have HW4 := Lib.hid hw4; have HS4 := Lib.hid hs4
      clear hw4 hs4
      obtain ⟨s0, s1, s2, k0, k2, m0, m1, n0, n1, n2, o0, o1, n0f, n1f, n2f, o0f, o1f⟩ := A4.out.cells
      have SK := Lib.hid (show ∀ w', Below w4.heap.size w4 w' → w'.cell? ⟨w.heap.size + 1, 0, none⟩ = some (.int .i64 kind) ∧ w'.cell? ⟨w.heap.size + 1, 2, none⟩ = some (.slice ro C.length rc) ∧ w'.cell? ⟨w.heap.size + 1 + 1, 0, none⟩ = some (.int .i64 mem) from fun w' hb =>
       have q := (A4.out.below hb A4.out.lt).cells
       ⟨q.2.2.2.1, q.2.2.2.2.1, q.2.2.2.2.2.1⟩)
      have HSV := Lib.hid (fun (W : World) (Bs : Nat) (h1 : Below w4.heap.size w4 W) (h2 : Bs < W.heap.size) (h3 : W.cell? ⟨Bs, 0, none⟩ = some (.slice ro C.length rc)) => show Calls Tryz.prog 52 #[.func (.func 79) #[] #[.pointer (some ⟨Bs, 0, none⟩)]] W (SortedAt w4 W C) from (sortedVals w4 Bs (.slice ro C.length rc) C C4.out W h1 h2 h3).mono (fun _ _ h => ⟨h1, h⟩))
      have HVA := Lib.hid (fun W => (callsIn_wide (n := 5)).1 (vals_in 5 ro C.length rc W))
      have R0 := Lib.hid (Below.drew (Below.refl w4.heap.size w4))
      have hsum : IntKind.i64.wrap (now + mem) = now + mem := IntWalk.i64_in _ (by omega)
      go_cut [16] (fun s16 w' => ∃ X sv, s16 = .pointer (some ⟨X, 0, none⟩) ∧ CBox w' X 118 #[.int .i64 kind, sv, .int .i64 (now + mem)] ∧ Strs w' sv (sasc C) ∧ Lies w4.heap.size sv ∧ w4.heap.size ≤ X ∧ Below w4.heap.size w4 w')
      case first =>
       go_wp2_with fail
       go_region_held3 (fun w' => w'.cell? ⟨w.heap.size + 1, 0, none⟩ = some (.int .i64 kind) ∧ w'.cell? ⟨w.heap.size + 1, 2, none⟩ = some (.slice ro C.length rc) ∧ w'.cell? ⟨w.heap.size + 1 + 1, 0, none⟩ = some (.int .i64 mem)) (first | exact SK.out _ R3.out | exact SK.out _ (R3.out.alloc R3.out.size _) | exact SK.out _ R2.out | exact SK.out _ (R2.out.alloc R2.out.size _) | exact SK.out _ R0.out | exact SK.out _ ((Below.refl _ _).alloc (Nat.le_refl _) _).drew | exact SK.out _ (((Below.refl _ _).alloc (Nat.le_refl _) _).alloc (by simp) _).drew | exact SK.out _ (((R3.out.setCell R2.out.size _).setCell R2.out.size _).setCell R2.out.size _) | exact SK.out _ (((R3.out.setCell (Nat.le_refl _) _).setCell (Nat.le_refl _) _).setCell (Nat.le_refl _) _) | exact SK.out _ (((R3.out.setCell (Nat.le_succ _) _).setCell (Nat.le_succ _) _).setCell (Nat.le_succ _) _))
        (first
          | (go_at_call 51; refine (HCP.out _ (by first | exact Below.refl _ _ | exact (Below.refl _ _).alloc (Nat.le_refl _) _)).mono ?_; rintro e w7 ⟨oo, oc, rfl, ho, hc7, hf7, hc8, hf8, hlo, HX7⟩; have HO := Lib.hid ho; have HLO := Lib.hid hlo; have R3 := Lib.hid (HX7.out.1); clear ho hlo)
          | (go_at_call 52; refine (HSV.out _ _ (by first | exact ((Below.refl _ _).alloc (Nat.le_refl _) _).drew | exact (((Below.refl _ _).alloc (Nat.le_refl _) _).alloc (by simp) _).drew) (by simp <;> omega) (by simp)).mono ?_; rintro e w6 ⟨hW6, vs, rfl, hb6, hcl6, hcp⟩; obtain ⟨hc6, hf6⟩ := bcell hb6; have R2 := Lib.hid (hW6.trans (hb6.mono hW6.size)); have HCP := Lib.hid (fun (W : World) (hW : Below w6.heap.size w6 W) => compact_at (L := C) R2.out hW6 hb6 hcl6 hW (hcp W hW)); clear hcp hb6 hcl6 hW6)
          | (go_at_call 53; refine (HVA.out _).mono ?_; rintro e w5' ⟨rfl, rfl⟩))
       all_goals
        go_wp2_with fail
        go_meet
        case rel =>
        have hl : Lies w4.heap.size (.slice oo (sasc C).length oc) := fun b e => by have := (HLO.out b e).1; simp at this; omega
        first
         | exact ⟨_, _, rfl, CBox.new _ rfl, HO.out.mono ((Below.refl _ _).alloc (Nat.le_refl _) _), hl, R3.out.size, R3.out.alloc R3.out.size _⟩
         | (have q : CBox w7 w6.heap.size 118 #[.int .i64 0, .slice none 0 0, .int .i64 0] := (HX7.out.2.2.1 w6.heap.size (Nat.le_refl _) (by simp)).trans (CBox.new _ rfl)
            have q3 := ((q.set 0 (.int .i64 kind)).set 1 (.slice oo (sasc C).length oc)).set 2 (.int .i64 (now + mem))
            exact ⟨_, _, rfl, by simpa using q3, ((HO.out.apart (p := ⟨w6.heap.size, 0, none⟩) (fun b e => by have := HLO.out b e; simp at this ⊢; omega) _).apart (p := ⟨w6.heap.size, 1, none⟩) (fun b e => by have := HLO.out b e; simp at this ⊢; omega) _).apart (p := ⟨w6.heap.size, 2, none⟩) (fun b e => by have := HLO.out b e; simp at this ⊢; omega) _, hl, R2.out.size, ((R3.out.setCell R2.out.size _).setCell R2.out.size _).setCell R2.out.size _⟩)
         | (have q : CBox w7 (w4.heap.size + 1) 118 #[.int .i64 0, .slice none 0 0, .int .i64 0] := ((CBox.new _ (by simp)).drew).below HX7.out.2.1 (by simp <;> omega)
            have q3 := ((q.set 0 (.int .i64 kind)).set 1 (.slice oo (sasc C).length oc)).set 2 (.int .i64 (now + mem))
            exact ⟨_, _, rfl, by simpa using q3, ((HO.out.apart (p := ⟨(w4.heap.size + 1), 0, none⟩) (fun b e => by have := HLO.out b e; simp at this ⊢; omega) _).apart (p := ⟨(w4.heap.size + 1), 1, none⟩) (fun b e => by have := HLO.out b e; simp at this ⊢; omega) _).apart (p := ⟨(w4.heap.size + 1), 2, none⟩) (fun b e => by have := HLO.out b e; simp at this ⊢; omega) _, hl, (Nat.le_succ _), ((R3.out.setCell (Nat.le_succ _) _).setCell (Nat.le_succ _) _).setCell (Nat.le_succ _) _⟩)
         | (have q : CBox w7 w4.heap.size 118 #[.int .i64 0, .slice none 0 0, .int .i64 0] := (((CBox.new _ rfl).old _).drew).below HX7.out.2.1 (by simp <;> omega)
            have q3 := ((q.set 0 (.int .i64 kind)).set 1 (.slice oo (sasc C).length oc)).set 2 (.int .i64 (now + mem))
            exact ⟨_, _, rfl, by simpa using q3, ((HO.out.apart (p := ⟨w4.heap.size, 0, none⟩) (fun b e => by have := HLO.out b e; simp at this ⊢; omega) _).apart (p := ⟨w4.heap.size, 1, none⟩) (fun b e => by have := HLO.out b e; simp at this ⊢; omega) _).apart (p := ⟨w4.heap.size, 2, none⟩) (fun b e => by have := HLO.out b e; simp at this ⊢; omega) _, hl, (Nat.le_refl _), ((R3.out.setCell (Nat.le_refl _) _).setCell (Nat.le_refl _) _).setCell (Nat.le_refl _) _⟩)
      case rest =>
       obtain ⟨w8, rfl⟩ : ∃ w8, w8 = wc := ⟨_, rfl⟩
       obtain ⟨X, sv, rfl, hX, hsv, hlsv, hX4, hb8⟩ := hcut
       obtain ⟨so, sc, rfl⟩ := hsv.shape
       obtain ⟨w9, hw9⟩ : ∃ w9, w9 = w8.alloc (.cells #[.bool false, .slice none 0 0] 51) := ⟨_, rfl⟩
       have h89 : Below w8.heap.size w8 w9 := by rw [hw9]; exact (Below.refl _ _).alloc (Nat.le_refl _) _
       have h49 := hb8.trans (h89.mono hb8.size)
       have hbw4 : w3.heap.size < w4.heap.size := K4.out.lt
       have hbl : b < w4.heap.size := M4.out.lt
       have A9 := Lib.hid (A4.out.below h49 A4.out.lt); have K9 := Lib.hid (K4.out.below h49 hbw4); have M9 := Lib.hid (M4.out.below h49 hbl); have B9 := Lib.hid (B4.out.trans (h49.mono B4.out.size)); have S9 := Lib.hid (hsv.mono h89)
       have X9 := Lib.hid (hX.below h89 hX.lt)
       have Y9 := Lib.hid (show CBox w9 w8.heap.size 51 #[.bool false, .slice none 0 0] from by rw [hw9]; exact CBox.new _ rfl)
       have kk0 := A9.out.cells.2.2.2.1
       rw [hw9] at kk0
       have h48 := hb8.size
       have hs9 : w8.heap.size < w9.heap.size := Y9.out.lt
       have hnn : L0.length + (sasc C).length ≤ 8796093022200 := by have := sasc_length C; omega
       have hnn2 : L0.length + (sasc C).length ≤ 200 := by have := sasc_length C; omega
       have wfm : (Lit.int .i64 (now + mem)).wf = true := WalkArith.wf_i64 (n := now + mem) (by omega)
       have hbb5 : w.heap.size + 5 ≤ b := by omega
       have hb35 : w.heap.size + 5 ≤ w3.heap.size := by omega
       have hlsv' := hlsv
       obtain ⟨w4s, hw4s⟩ : ∃ s, s = w4.heap.size := ⟨_, rfl⟩
       rw [← hw4s] at hbw4 hbl hlsv' h48 hX4
       have hne : w3.heap.size ≠ b := K4.out.ne_mp M4.out
       obtain ⟨Bk, hBk⟩ : ∃ Bk, Bk = w3.heap.size := ⟨_, rfl⟩
       rw [← hBk] at K9 hbw4 hb35 hne
       have hBk4 := hbw4
       have z9 := B9.out.size
       clear hX hsv hlsv hb8 h89 h49 s0 s1 s2 k0 k2 m0 m1 n0 n1 n2 o0 o1 n0f n1f n2f o0f o1f SK HSV HVA R0 hsum A4 C4 B4 K4 M4 HW4 HS4 hbb z3
       go_upto_block 0 with fail
       rw [← hw9, ← hBk]
       have HW9 := Lib.hid (And.intro hw9 (And.intro hBk hw4s))
       clear hw9 hBk hw4s kk0
       by_cases hk : 1 ≤ kind ∧ kind ≤ 6
       · have HVK : Hid (verdict (pcheck e0 a0 L0) kind C.length now mem last = 0) := Lib.hid (by rw [HVV.out]; simp [hk])
         have hks : kind = 1 ∨ kind = 2 ∨ kind = 3 ∨ kind = 4 ∨ kind = 5 ∨ kind = 6 := by omega
         go_cut [] (fun w' => ∃ b1 u R lo', AppBox w' w.heap.size e0 a0 (.slice o0' L0.length c0') kind g (.slice ro C.length rc) mem last ∧ CBox w' Bk 109 #[.bool (inEx kind e0), .int .i64 (inAt kind a0 (now + mem)), .map (some b1)] ∧ Mp w' b1 (L0.length + (sasc C).length) (inF kind e0 a0 (rd L0) (sasc C) (now + mem)) ∧
          CBox w' w8.heap.size 51 #[.bool (inG kind e0), u] ∧ Strs w' u R ∧ Rises (fun a => inQ kind e0 a0 (rd L0) (sasc C) (now + mem) a) R ∧ R.length ≤ L0.length + (sasc C).length ∧ Lies lo' u ∧ b1 < lo' ∧ Bk < lo' ∧ w8.heap.size < lo' ∧ w.heap.size + 5 ≤ b1 ∧ b1 ≠ w8.heap.size ∧ Below w.heap.size w w')
         case first =>
          obtain ⟨x0, _⟩ := X9.out.at_ 0 _ rfl
          obtain ⟨x1, _⟩ := X9.out.at_ 1 _ rfl
          obtain ⟨x2, _⟩ := X9.out.at_ 2 _ rfl
          clear HVK hk
          rcases hks with rfl | rfl | rfl | rfl | rfl | rfl
          · have HC := Lib.hid (wants_in e0 a0 b L0.length Bk (rd L0) 1 (now + mem) _ (sasc C) w4s w9 (.inl rfl) K9.out M9.out hnn S9.out hlsv' hBk4 hbl wfm)
            go_wp2_with fail
            refine HC.out.mono ?_
            rintro e w10 ⟨b1, u, R, lo', rfl, hu, hR, hRn, hlu, hb1, hlo, hbb1, hk10, hm10, hbut⟩
            obtain ⟨uo, uc, rfl⟩ := hu.shape
            have hY := hbut.box Y9.out (by omega) (by omega)
            have Y10 := Lib.hid hY
            obtain ⟨q0, q0f⟩ := hY.at_ 0 _ rfl
            obtain ⟨q1, q1f⟩ := hY.at_ 1 _ rfl
            have HH := Lib.hid (And.intro hu (And.intro hR (And.intro hRn (And.intro hlu (And.intro hk10 (And.intro hm10 hbut))))))
            have hYl := hY.lt
            clear hu hR hRn hlu hk10 hm10 hbut hY HC
            go_wp2_with fail
            go_meet
            case rel =>
            obtain ⟨hu, hR, hRn, hlu, hk10, hm10, hbut⟩ := HH.out
            have q3 := (Y10.out.set 0 (.bool (inG 1 e0))).set 1 (.slice uo R.length uc)
            refine ⟨b1, .slice uo R.length uc, R, lo', ((A9.out.but hbut (by omega) (by omega)).far (by simp; omega) _).far (by simp; omega) _, (hk10.far (by simp; omega) _).far (by simp; omega) _, (hm10.set (by simp; omega) _).set (by simp; omega) _, by simpa using q3, (hu.far hlu (by simp; omega) _).far hlu (by simp; omega) _, hR, hRn, hlu, hb1, by omega, by omega, by omega, by omega, ?_⟩
            exact ((B9.out.trans ((hbut.below (lo := w.heap.size) (by omega) (by omega) (by omega)))).setCell (by simp; omega) _).setCell (by simp; omega) _
          · have HC := Lib.hid (excepts_in e0 a0 b L0.length Bk (rd L0) 2 (now + mem) _ (sasc C) w4s w9 (.inl rfl) K9.out M9.out hnn S9.out hlsv' hBk4 hbl wfm HWA.out)
            go_wp2_with fail
            refine HC.out.mono ?_
            rintro e w10 ⟨b1, u, R, lo', rfl, hu, hR, hRn, hlu, hb1, hlo, hbb1, hk10, hm10, hbut⟩
            obtain ⟨uo, uc, rfl⟩ := hu.shape
            have hY := hbut.box Y9.out (by omega) (by omega)
            have Y10 := Lib.hid hY
            obtain ⟨q0, q0f⟩ := hY.at_ 0 _ rfl
            obtain ⟨q1, q1f⟩ := hY.at_ 1 _ rfl
            have HH := Lib.hid (And.intro hu (And.intro hR (And.intro hRn (And.intro hlu (And.intro hk10 (And.intro hm10 hbut))))))
            have hYl := hY.lt
            clear hu hR hRn hlu hk10 hm10 hbut hY HC
            go_wp2_with fail
            go_meet
            case rel =>
            obtain ⟨hu, hR, hRn, hlu, hk10, hm10, hbut⟩ := HH.out
            have q3 := (Y10.out.set 0 (.bool (inG 2 e0))).set 1 (.slice uo R.length uc)
            refine ⟨b1, .slice uo R.length uc, R, lo', ((A9.out.but hbut (by omega) (by omega)).far (by simp; omega) _).far (by simp; omega) _, (hk10.far (by simp; omega) _).far (by simp; omega) _, (hm10.set (by simp; omega) _).set (by simp; omega) _, by simpa using q3, (hu.far hlu (by simp; omega) _).far hlu (by simp; omega) _, hR, hRn, hlu, hb1, by omega, by omega, by omega, by omega, ?_⟩
            exact ((B9.out.trans ((hbut.below (lo := w.heap.size) (by omega) (by omega) (by omega)))).setCell (by simp; omega) _).setCell (by simp; omega) _
          · have HC := Lib.hid (wants_in e0 a0 b L0.length Bk (rd L0) 3 (now + mem) _ (sasc C) w4s w9 (.inr (.inl rfl)) K9.out M9.out hnn S9.out hlsv' hBk4 hbl wfm)
            go_wp2_with fail
            refine HC.out.mono ?_
            rintro e w10 ⟨b1, u, R, lo', rfl, hu, hR, hRn, hlu, hb1, hlo, hbb1, hk10, hm10, hbut⟩
            obtain ⟨uo, uc, rfl⟩ := hu.shape
            have hY := hbut.box Y9.out (by omega) (by omega)
            have Y10 := Lib.hid hY
            obtain ⟨q0, q0f⟩ := hY.at_ 0 _ rfl
            obtain ⟨q1, q1f⟩ := hY.at_ 1 _ rfl
            have HH := Lib.hid (And.intro hu (And.intro hR (And.intro hRn (And.intro hlu (And.intro hk10 (And.intro hm10 hbut))))))
            have hYl := hY.lt
            clear hu hR hRn hlu hk10 hm10 hbut hY HC
            go_wp2_with fail
            go_meet
            case rel =>
            obtain ⟨hu, hR, hRn, hlu, hk10, hm10, hbut⟩ := HH.out
            have q3 := (Y10.out.set 0 (.bool (inG 3 e0))).set 1 (.slice uo R.length uc)
            refine ⟨b1, .slice uo R.length uc, R, lo', ((A9.out.but hbut (by omega) (by omega)).far (by simp; omega) _).far (by simp; omega) _, (hk10.far (by simp; omega) _).far (by simp; omega) _, (hm10.set (by simp; omega) _).set (by simp; omega) _, by simpa using q3, (hu.far hlu (by simp; omega) _).far hlu (by simp; omega) _, hR, hRn, hlu, hb1, by omega, by omega, by omega, by omega, ?_⟩
            exact ((B9.out.trans ((hbut.below (lo := w.heap.size) (by omega) (by omega) (by omega)))).setCell (by simp; omega) _).setCell (by simp; omega) _
          · have HC := Lib.hid (excepts_in e0 a0 b L0.length Bk (rd L0) 4 (now + mem) _ (sasc C) w4s w9 (.inr rfl) K9.out M9.out hnn S9.out hlsv' hBk4 hbl wfm HWA.out)
            go_wp2_with fail
            refine HC.out.mono ?_
            rintro e w10 ⟨b1, u, R, lo', rfl, hu, hR, hRn, hlu, hb1, hlo, hbb1, hk10, hm10, hbut⟩
            obtain ⟨uo, uc, rfl⟩ := hu.shape
            have hY := hbut.box Y9.out (by omega) (by omega)
            have Y10 := Lib.hid hY
            obtain ⟨q0, q0f⟩ := hY.at_ 0 _ rfl
            obtain ⟨q1, q1f⟩ := hY.at_ 1 _ rfl
            have HH := Lib.hid (And.intro hu (And.intro hR (And.intro hRn (And.intro hlu (And.intro hk10 (And.intro hm10 hbut))))))
            have hYl := hY.lt
            clear hu hR hRn hlu hk10 hm10 hbut hY HC
            go_wp2_with fail
            go_meet
            case rel =>
            obtain ⟨hu, hR, hRn, hlu, hk10, hm10, hbut⟩ := HH.out
            have q3 := (Y10.out.set 0 (.bool (inG 4 e0))).set 1 (.slice uo R.length uc)
            refine ⟨b1, .slice uo R.length uc, R, lo', ((A9.out.but hbut (by omega) (by omega)).far (by simp; omega) _).far (by simp; omega) _, (hk10.far (by simp; omega) _).far (by simp; omega) _, (hm10.set (by simp; omega) _).set (by simp; omega) _, by simpa using q3, (hu.far hlu (by simp; omega) _).far hlu (by simp; omega) _, hR, hRn, hlu, hb1, by omega, by omega, by omega, by omega, ?_⟩
            exact ((B9.out.trans ((hbut.below (lo := w.heap.size) (by omega) (by omega) (by omega)))).setCell (by simp; omega) _).setCell (by simp; omega) _
          · have HC := Lib.hid (wants_in e0 a0 b L0.length Bk (rd L0) 5 (now + mem) _ (sasc C) w4s w9 (.inr (.inr rfl)) K9.out M9.out hnn S9.out hlsv' hBk4 hbl wfm)
            go_wp2_with fail
            refine HC.out.mono ?_
            rintro e w10 ⟨b1, u, R, lo', rfl, hu, hR, hRn, hlu, hb1, hlo, hbb1, hk10, hm10, hbut⟩
            obtain ⟨uo, uc, rfl⟩ := hu.shape
            have hY := hbut.box Y9.out (by omega) (by omega)
            have Y10 := Lib.hid hY
            obtain ⟨q0, q0f⟩ := hY.at_ 0 _ rfl
            obtain ⟨q1, q1f⟩ := hY.at_ 1 _ rfl
            have HH := Lib.hid (And.intro hu (And.intro hR (And.intro hRn (And.intro hlu (And.intro hk10 (And.intro hm10 hbut))))))
            have hYl := hY.lt
            clear hu hR hRn hlu hk10 hm10 hbut hY HC
            go_wp2_with fail
            go_meet
            case rel =>
            obtain ⟨hu, hR, hRn, hlu, hk10, hm10, hbut⟩ := HH.out
            have q3 := (Y10.out.set 0 (.bool (inG 5 e0))).set 1 (.slice uo R.length uc)
            refine ⟨b1, .slice uo R.length uc, R, lo', ((A9.out.but hbut (by omega) (by omega)).far (by simp; omega) _).far (by simp; omega) _, (hk10.far (by simp; omega) _).far (by simp; omega) _, (hm10.set (by simp; omega) _).set (by simp; omega) _, by simpa using q3, (hu.far hlu (by simp; omega) _).far hlu (by simp; omega) _, hR, hRn, hlu, hb1, by omega, by omega, by omega, by omega, ?_⟩
            exact ((B9.out.trans ((hbut.below (lo := w.heap.size) (by omega) (by omega) (by omega)))).setCell (by simp; omega) _).setCell (by simp; omega) _
          · have HC := Lib.hid (refuses_in e0 a0 b L0.length Bk (rd L0) (now + mem) _ (sasc C) w4s w9 K9.out M9.out hnn S9.out (sasc_rising C) hlsv' hBk4 hbl HWA.out)
            go_wp2_with fail
            refine HC.out.mono ?_
            rintro e w10 ⟨b1, u, R, lo', rfl, hu, hR, hRn, hlu, hb1, hlo, hbb1, hk10, hm10, hbut⟩
            obtain ⟨uo, uc, rfl⟩ := hu.shape
            have hY := hbut.box Y9.out (by omega) (by omega)
            have Y10 := Lib.hid hY
            obtain ⟨q0, q0f⟩ := hY.at_ 0 _ rfl
            obtain ⟨q1, q1f⟩ := hY.at_ 1 _ rfl
            have HH := Lib.hid (And.intro hu (And.intro hR (And.intro hRn (And.intro hlu (And.intro hk10 (And.intro hm10 hbut))))))
            have hYl := hY.lt
            clear hu hR hRn hlu hk10 hm10 hbut hY HC
            go_wp2_with fail
            go_meet
            case rel =>
            obtain ⟨hu, hR, hRn, hlu, hk10, hm10, hbut⟩ := HH.out
            have q3 := (Y10.out.set 0 (.bool (inG 6 e0))).set 1 (.slice uo R.length uc)
            refine ⟨b1, .slice uo R.length uc, R, lo', ((A9.out.but hbut (by omega) (by omega)).far (by simp; omega) _).far (by simp; omega) _, (hk10.far (by simp; omega) _).far (by simp; omega) _, (hm10.set (by simp; omega) _).set (by simp; omega) _, by simpa using q3, (hu.far hlu (by simp; omega) _).far hlu (by simp; omega) _, hR, hRn, hlu, hb1, by omega, by omega, by omega, by omega, ?_⟩
            exact ((B9.out.trans ((hbut.below (lo := w.heap.size) (by omega) (by omega) (by omega)))).setCell (by simp; omega) _).setCell (by simp; omega) _
         case rest =>
          obtain ⟨w11, rfl⟩ : ∃ w11, w11 = wc := ⟨_, rfl⟩
          obtain ⟨b1, u, R, lo', hA11, hK11, hM11, hY11, hu, hR, hRn, hlu, hb1, hbk, hy, hbb1, hby, hB11⟩ := hcut
          obtain ⟨uo, uc, rfl⟩ := hu.shape
          obtain ⟨e1, he1⟩ : ∃ e1, inEx kind e0 = e1 := ⟨_, rfl⟩
          rw [he1] at hK11
          obtain ⟨K, hKs, hlen⟩ := hM11.count
          have hneB := hK11.ne_mp hM11
          have hYB : w8.heap.size ≠ Bk := by have := HW9.out.2.1; have := HW9.out.2.2; omega
          have A11 := Lib.hid hA11; have K11 := Lib.hid hK11; have M11 := Lib.hid hM11; have Y11 := Lib.hid hY11; have U11 := Lib.hid hu; have HR := Lib.hid hR; have HLU := Lib.hid hlu; have B11 := Lib.hid hB11; have HKS := Lib.hid hKs; have HE1 := Lib.hid he1
          have wfl : (Lit.int .i64 (now + last)).wf = true := WalkArith.wf_i64 (n := now + last) (by omega)
          have hsum2 : IntKind.i64.wrap (now + last) = now + last := IntWalk.i64_in _ (by omega)
          obtain ⟨s0, s1, s2, k0, k2, m0, m1, n0, n1, n2, o0, o1, n0f, n1f, n2f, o0f, o1f⟩ := hA11.cells
          obtain ⟨x0, x0f⟩ := hK11.at_ 0 _ rfl
          obtain ⟨x1, x1f⟩ := hK11.at_ 1 _ rfl
          obtain ⟨x2, x2f⟩ := hK11.at_ 2 _ rfl
          obtain ⟨y0, y0f⟩ := hY11.at_ 0 _ rfl
          obtain ⟨y1, y1f⟩ := hY11.at_ 1 _ rfl
          clear hA11 hK11 hM11 hY11 hu hR hlu hB11 hKs he1 hks hk A9 K9 M9 B9 S9 X9 Y9 HVV
          by_cases h60 : 60 < K.length
          · have d1 : decide (60 < K.length) = true := decide_eq_true h60
            have d2 : decide ((60 : Int) < (K.length : Int)) = true := decide_eq_true (by omega)
            clear hsum2
            go_wp2_with fail
            obtain ⟨r0, r1, r2, r3, r4⟩ := A11.out.end5 (.bool false) (.int .i64 0) (.slice none 0 0) (.bool false) (.slice none 0 0)
            have hBB := below_end5 B11.out (lo := w.heap.size) (by omega) (.bool false) (.int .i64 0) (.slice none 0 0) (.bool false) (.slice none 0 0)
            refine bodyPost_ret (v := .tuple #[noState, .bool false, noAsk, .int .i64 1]) (by simp only [results, Tryz.results31, go_sem, noState, noAsk]; simp [go_sem, r0, r1, r2, r3, r4]) rfl ⟨hBB, .inr ⟨HVK.out, K, HKS.out, .inl ⟨h60, rfl⟩⟩⟩
          · have d1 : decide (60 < K.length) = false := decide_eq_false h60
            have d2 : decide ((60 : Int) < (K.length : Int)) = false := decide_eq_false (by omega)
            cases e1
            · by_cases hK0 : K.length = 0
              · have dz : ((K.length : Int) == 0) = true := by simp [hK0]
                have HK0 := Lib.hid hK0
                clear hK0 hsum2
                go_wp2_with fail
                obtain ⟨r0, r1, r2, r3, r4⟩ := A11.out.end5 (.bool false) (.int .i64 0) (.slice none 0 0) (.bool false) (.slice none 0 0)
                have hBB := below_end5 B11.out (lo := w.heap.size) (by omega) (.bool false) (.int .i64 0) (.slice none 0 0) (.bool false) (.slice none 0 0)
                refine bodyPost_ret (v := .tuple #[noState, .bool false, noAsk, .int .i64 0]) (by simp only [results, Tryz.results31, go_sem, noState, noAsk]; simp [go_sem, r0, r1, r2, r3, r4]) rfl ⟨hBB, .inr ⟨HVK.out, K, HKS.out, .inr (.inl ⟨by omega, ⟨HE1.out, List.length_eq_zero_iff.1 HK0.out⟩, rfl⟩)⟩⟩
              · have dz : ((K.length : Int) == 0) = false := by rw [beq_eq_false_iff_ne]; omega
                have HNE := Lib.hid (show ¬ (inEx kind e0 = false ∧ K = []) from fun h => hK0 (by rw [h.2]; rfl))
                have HSO := Lib.hid (soon_any false (inAt kind a0 (now + mem)) b1 _ Bk _ (inG kind e0) (now + last) _ R lo' w11 K11.out M11.out (by omega) U11.out HLU.out hbk hb1 wfl (by omega))
                go_wp2_with fail
                refine HSO.out.mono ?_
                rintro e w12 ⟨rfl, hk12, hm12, hbut⟩
                clear s0 s1 s2 k0 k2 m0 m1 n0 n1 n2 o0 o1 n0f n1f n2f o0f o1f x0f x1f x2f y0f y1f
                obtain ⟨a3, ha3⟩ : ∃ a3, (if inG kind e0 then min (inAt kind a0 (now + mem)) (now + last) else inAt kind a0 (now + mem)) = a3 := ⟨_, rfl⟩
                rw [ha3] at hk12
                have A12 := Lib.hid (A11.out.but hbut (by omega) (by omega)); have Y12 := Lib.hid (hbut.box Y11.out (by omega) (by omega)); have U12 := Lib.hid (hbut.strs U11.out HLU.out hbk hb1); have K12 := Lib.hid hk12
                have B12 := Lib.hid (B11.out.trans (hbut.below (lo := w.heap.size) (by have := B11.out.size; omega) (by omega) (by omega)))
                have HST := Lib.hid (fun (W : World) (hW : Below w12.heap.size w12 W) => state_any false a3 b1 _ _ W (hm12.below hW hm12.lt) (by omega))
                have HA3 := Lib.hid ha3
                have R0 := Lib.hid (Below.drew (Below.refl w12.heap.size w12))
                have z12 := B12.out.size
                have zA := A12.out.lt
                clear ha3 hbut hm12 x0 x1 x2 y0 y1 HSO hsum2
                obtain ⟨x0, _⟩ := hk12.at_ 0 _ rfl
                obtain ⟨x1, _⟩ := hk12.at_ 1 _ rfl
                obtain ⟨x2, _⟩ := hk12.at_ 2 _ rfl
                obtain ⟨y0, _⟩ := Y12.out.at_ 0 _ rfl
                obtain ⟨y1, _⟩ := Y12.out.at_ 1 _ rfl
                clear hk12
                go_wp2_with fail
                go_region_with ((go_at_call 49; refine (HST.out _ (by first | exact Below.refl _ _ | exact Below.drew (Below.refl _ _))).mono ?_; rintro e w13 ⟨v13, L13, rfl, hT13, hA13, hl13, hlo13, hb13'⟩; have hb13 : Below w12.heap.size w12 w13 := (by first | exact hb13' | exact (Below.drew (Below.refl _ _)).trans hb13'); have hlo13 : Lies w12.heap.size _ := hlo13; obtain ⟨o13, c13, rfl⟩ := hT13.shape; have A13 := Lib.hid (A12.out.below hb13 zA); have Y13 := Lib.hid (Y12.out.below hb13 Y12.out.lt); obtain ⟨yy0, _⟩ := Y13.out.at_ 0 _ rfl; obtain ⟨yy1, _⟩ := Y13.out.at_ 1 _ rfl; obtain ⟨s0, s1, s2, k0, k2, m0, m1, n0, n1, n2, o0, o1, n0f, n1f, n2f, o0f, o1f⟩ := A13.out.cells; have U13 := Lib.hid (U12.out.mono hb13); have T13 := Lib.hid hT13; have AS13 := Lib.hid hA13; have LO13 := Lib.hid hlo13; have B13 := Lib.hid hb13; clear hT13 hA13 hl13 hlo13 hb13 hb13'))
                all_goals
                 go_wp2_with fail
                 obtain ⟨r0, r1, r2, r3, r4⟩ := A13.out.end5 (.bool false) (.int .i64 a3) (.slice o13 L13.length c13) (.bool (inG kind e0)) (.slice uo R.length uc)
                 have hT := T13.out.end5 LO13.out (lo := w.heap.size) (by omega) (.bool false) (.int .i64 a3) (.slice o13 L13.length c13) (.bool (inG kind e0)) (.slice uo R.length uc)
                 have hU := U13.out.end5 HLU.out (lo := w.heap.size) (by omega) (.bool false) (.int .i64 a3) (.slice o13 L13.length c13) (.bool (inG kind e0)) (.slice uo R.length uc)
                 have hBB := below_end5 (B12.out.trans (B13.out.mono z12)) (lo := w.heap.size) (by omega) (.bool false) (.int .i64 a3) (.slice o13 L13.length c13) (.bool (inG kind e0)) (.slice uo R.length uc)
                 refine bodyPost_ret (v := .tuple #[.agg #[.bool false, .int .i64 a3, .slice o13 L13.length c13], .bool true, .agg #[.bool (inG kind e0), .slice uo R.length uc], .int .i64 0]) (by simp [results, Tryz.results31, go_sem, r0, r1, r2, r3, r4]) rfl ⟨?_, .inr ⟨HVK.out, K, HKS.out, .inr (.inr ⟨by omega, HNE.out, _, L13, _, R, by rw [HE1.out, HA3.out], ?_, ?_, HR.out, AS13.out, LO13.out.mono z12, HLU.out.mono (by omega)⟩)⟩⟩
                 · first | exact hBB | exact hBB.drew
                 · first | exact hT | exact hT.mono (Below.drew (Below.refl _ _))
                 · first | exact hU | exact hU.mono (Below.drew (Below.refl _ _))
            · skip
              have HNE := Lib.hid (show ¬ (inEx kind e0 = false ∧ K = []) from fun h => by have := HE1.out; rw [h.1] at this; cases this)
              have HSO := Lib.hid (soon_any true (inAt kind a0 (now + mem)) b1 _ Bk _ (inG kind e0) (now + last) _ R lo' w11 K11.out M11.out (by omega) U11.out HLU.out hbk hb1 wfl (by omega))
              go_wp2_with fail
              refine HSO.out.mono ?_
              rintro e w12 ⟨rfl, hk12, hm12, hbut⟩
              clear s0 s1 s2 k0 k2 m0 m1 n0 n1 n2 o0 o1 n0f n1f n2f o0f o1f x0f x1f x2f y0f y1f
              obtain ⟨a3, ha3⟩ : ∃ a3, (if inG kind e0 then min (inAt kind a0 (now + mem)) (now + last) else inAt kind a0 (now + mem)) = a3 := ⟨_, rfl⟩
              rw [ha3] at hk12
              have A12 := Lib.hid (A11.out.but hbut (by omega) (by omega)); have Y12 := Lib.hid (hbut.box Y11.out (by omega) (by omega)); have U12 := Lib.hid (hbut.strs U11.out HLU.out hbk hb1); have K12 := Lib.hid hk12
              have B12 := Lib.hid (B11.out.trans (hbut.below (lo := w.heap.size) (by have := B11.out.size; omega) (by omega) (by omega)))
              have HST := Lib.hid (fun (W : World) (hW : Below w12.heap.size w12 W) => state_any true a3 b1 _ _ W (hm12.below hW hm12.lt) (by omega))
              have HA3 := Lib.hid ha3
              have R0 := Lib.hid (Below.drew (Below.refl w12.heap.size w12))
              have z12 := B12.out.size
              have zA := A12.out.lt
              clear ha3 hbut hm12 x0 x1 x2 y0 y1 HSO hsum2
              obtain ⟨x0, _⟩ := hk12.at_ 0 _ rfl
              obtain ⟨x1, _⟩ := hk12.at_ 1 _ rfl
              obtain ⟨x2, _⟩ := hk12.at_ 2 _ rfl
              obtain ⟨y0, _⟩ := Y12.out.at_ 0 _ rfl
              obtain ⟨y1, _⟩ := Y12.out.at_ 1 _ rfl
              clear hk12
              go_wp2_with fail
              go_region_with ((go_at_call 49; refine (HST.out _ (by first | exact Below.refl _ _ | exact Below.drew (Below.refl _ _))).mono ?_; rintro e w13 ⟨v13, L13, rfl, hT13, hA13, hl13, hlo13, hb13'⟩; have hb13 : Below w12.heap.size w12 w13 := (by first | exact hb13' | exact (Below.drew (Below.refl _ _)).trans hb13'); have hlo13 : Lies w12.heap.size _ := hlo13; obtain ⟨o13, c13, rfl⟩ := hT13.shape; have A13 := Lib.hid (A12.out.below hb13 zA); have Y13 := Lib.hid (Y12.out.below hb13 Y12.out.lt); obtain ⟨yy0, _⟩ := Y13.out.at_ 0 _ rfl; obtain ⟨yy1, _⟩ := Y13.out.at_ 1 _ rfl; obtain ⟨s0, s1, s2, k0, k2, m0, m1, n0, n1, n2, o0, o1, n0f, n1f, n2f, o0f, o1f⟩ := A13.out.cells; have U13 := Lib.hid (U12.out.mono hb13); have T13 := Lib.hid hT13; have AS13 := Lib.hid hA13; have LO13 := Lib.hid hlo13; have B13 := Lib.hid hb13; clear hT13 hA13 hl13 hlo13 hb13 hb13'))
              all_goals
               go_wp2_with fail
               obtain ⟨r0, r1, r2, r3, r4⟩ := A13.out.end5 (.bool true) (.int .i64 a3) (.slice o13 L13.length c13) (.bool (inG kind e0)) (.slice uo R.length uc)
               have hT := T13.out.end5 LO13.out (lo := w.heap.size) (by omega) (.bool true) (.int .i64 a3) (.slice o13 L13.length c13) (.bool (inG kind e0)) (.slice uo R.length uc)
               have hU := U13.out.end5 HLU.out (lo := w.heap.size) (by omega) (.bool true) (.int .i64 a3) (.slice o13 L13.length c13) (.bool (inG kind e0)) (.slice uo R.length uc)
               have hBB := below_end5 (B12.out.trans (B13.out.mono z12)) (lo := w.heap.size) (by omega) (.bool true) (.int .i64 a3) (.slice o13 L13.length c13) (.bool (inG kind e0)) (.slice uo R.length uc)
               refine bodyPost_ret (v := .tuple #[.agg #[.bool true, .int .i64 a3, .slice o13 L13.length c13], .bool true, .agg #[.bool (inG kind e0), .slice uo R.length uc], .int .i64 0]) (by simp [results, Tryz.results31, go_sem, r0, r1, r2, r3, r4]) rfl ⟨?_, .inr ⟨HVK.out, K, HKS.out, .inr (.inr ⟨by omega, HNE.out, _, L13, _, R, by rw [HE1.out, HA3.out], ?_, ?_, HR.out, AS13.out, LO13.out.mono z12, HLU.out.mono (by omega)⟩)⟩⟩
               · first | exact hBB | exact hBB.drew
               · first | exact hT | exact hT.mono (Below.drew (Below.refl _ _))
               · first | exact hU | exact hU.mono (Below.drew (Below.refl _ _))
       · have HVK : Hid (verdict (pcheck e0 a0 L0) kind C.length now mem last = 1) := Lib.hid (by rw [HVV.out]; simp [hk])
         have g1 : (kind == 1) = false := by rw [beq_eq_false_iff_ne]; omega
         have g2 : (kind == 2) = false := by rw [beq_eq_false_iff_ne]; omega
         have g3 : (kind == 3) = false := by rw [beq_eq_false_iff_ne]; omega
         have g4 : (kind == 4) = false := by rw [beq_eq_false_iff_ne]; omega
         have g5 : (kind == 5) = false := by rw [beq_eq_false_iff_ne]; omega
         have g6 : (kind == 6) = false := by rw [beq_eq_false_iff_ne]; omega
         obtain ⟨s0, s1, s2, k0, k2, m0, m1, n0, n1, n2, o0, o1, n0f, n1f, n2f, o0f, o1f⟩ := A9.out.cells
         clear hk
         go_wp2_with fail
         obtain ⟨r0, r1, r2, r3, r4⟩ := A9.out.end5 (.bool false) (.int .i64 0) (.slice none 0 0) (.bool false) (.slice none 0 0)
         have hBB := below_end5 B9.out (lo := w.heap.size) (by omega) (.bool false) (.int .i64 0) (.slice none 0 0) (.bool false) (.slice none 0 0)
         refine bodyPost_ret (v := .tuple #[noState, .bool false, noAsk, .int .i64 1]) (by simp only [results, Tryz.results31, go_sem, noState, noAsk]; simp [go_sem, r0, r1, r2, r3, r4]) rfl ⟨hBB, by rw [HVK.out]; exact .inl ⟨by simp, rfl⟩⟩
    · have HVER : Hid (verdict (pcheck e0 a0 L0) kind C.length now mem last = 1) := Lib.hid (by rw [HV.out, HP.out]; simp at hall ⊢; intro h1 h2 h3 h4; exact absurd h4 (by simp [hall h1 h2 h3]))
      have HALL := Lib.hid hall
      clear HV hall
      go_wp2_with (first | ((with_reducible refine (G1.out _).mono ?_); rintro e w' ⟨rfl, rfl⟩) | ((with_reducible refine (G2.out _).mono ?_); rintro e w' ⟨rfl, rfl⟩) | ((with_reducible refine (G3.out _).mono ?_); rintro e w' ⟨rfl, rfl⟩))
      all_goals (first | (exfalso; refine HALL.out ?_; simp_all; done) | skip)
      all_goals
       obtain ⟨r0, r1, r2, r3, r4⟩ := A2.out.end5 (.bool false) (.int .i64 0) (.slice none 0 0) (.bool false) (.slice none 0 0)
       have hBB := below_end5 B2.out (lo := w.heap.size) (by omega) (.bool false) (.int .i64 0) (.slice none 0 0) (.bool false) (.slice none 0 0)
       refine bodyPost_ret (v := .tuple #[noState, .bool false, noAsk, .int .i64 1]) (by simp only [results, Tryz.results31, go_sem, noState, noAsk]; simp [go_sem, r0, r1, r2, r3, r4]) rfl ⟨hBB, by rw [HVER.out]; exact .inl ⟨by simp, rfl⟩⟩
end Go.Proofs.YtpibmjkbebkilaaGreat
