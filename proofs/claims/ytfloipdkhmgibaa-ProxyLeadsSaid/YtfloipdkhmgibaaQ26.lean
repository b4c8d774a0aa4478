/- Texts joined into one file: PLawLeads. -/
import Derived.Test.YtfloipdkhmgibaaQ25

/- The walk of ProxyLeads. -/
namespace Go.Proofs.Ytfloipdkhmgibaa
open Go.RowKit Go.Lib Go.Maps Go.Sort
set_option maxRecDepth 20000
set_option maxRecDepth 20000
attribute [local go_sem ↓] Go.wp_at_zero Go.wp_at_succ

/-- told's box, in whichever way -/
def ToldAt (W5 : World) (tb : Nat) (E : Bool) (L : List Str) (w' : World) : Prop := ∃ tv, CBox w' tb 28 #[.bool E, tv] ∧ Strs w' tv L ∧ W5.grownBy w' (some tb)
theorem grown_set (W : World) (b i : Nat) (v : Value) : W.grownBy (W.setCell ⟨b, i, none⟩ v) (some b) := ⟨rfl, rfl, rfl, (KeepsWalks.setCell W _ v).size, fun k _ hk => Below.heap_setCell _ _ _ k (fun e => hk (by rw [e]))⟩

set_option maxHeartbeats 16000000 in
theorem law_leads (v : Value) (R : List (Bool × List Str)) (w : World) (h : Fils w v R) :
    Calls Try.prog 7 #[v] w fun e w' => e = .returned (.bool true) ∧ Below w.heap.size w w' := by
  obtain ⟨vo, vc, rfl⟩ := h.shape
  obtain ⟨b0, off, src, hm, hlen, hidx, hc⟩ := h.facts
  have HFI := Lib.hid h
  clear h
  cases d1 : decide ((40 : Int) < (R.length : Int))
  · have h40 : R.length ≤ 40 := by have := of_decide_eq_false d1; omega
    have HN := Lib.hid (new_yes 1 w (by decide) (by decide))
    go_enter Try.func7, Try.ntmps7
    go_upto_region 6 with ((with_reducible refine HN.out.mono ?_); rintro e w1 ⟨p, b, rfl, hpx, hpb, hbb, hpne, hb1⟩; have HPX := Lib.hid hpx; have HLT := Lib.hid hpx.lt; have HBB := Lib.hid hbb; have HB1 := Lib.hid hb1; clear hpx hpb hbb hpne hb1 HN)
    obtain ⟨W2, hW2⟩ : ∃ W2, W2 = w1.alloc (.cells #[.bool false, .slice none 0 0] 28) := ⟨_, rfl⟩
    obtain ⟨nb, hnb⟩ : ∃ nb, nb = w1.heap.size := ⟨_, rfl⟩
    have hb2 : Below w1.heap.size w1 W2 := by rw [hW2]; exact (Below.refl _ _).alloc (Nat.le_refl _) _
    have hbox : CBox W2 nb 28 #[.bool false, .slice none 0 0] := by rw [hW2, hnb]; exact CBox.new _ rfl
    have HBX := Lib.hid hbox
    have HP2 := Lib.hid (show Px W2 p b 0 1 (GL (false, [])) from HPX.out.below hb2)
    have HB2 := Lib.hid (HB1.out.trans (hb2.mono HB1.out.size))
    have HNB := Lib.hid (show w.heap.size ≤ nb ∧ p ≠ nb ∧ b ≠ nb from by rw [hnb]; have := HLT.out; have := HB1.out.size; omega)
    have HW2 := Lib.hid hW2; have HNN := Lib.hid hnb
    clear hb2 hbox HPX HB1 HLT hW2 hnb
    go_upto_region 7 with fail
    rw [← HW2.out, ← HNN.out]
    clear HW2 HNN
    go_wp2_with fail
    go_loopw [6] (fun i wr => ∃ k n f fv, k ≤ R.length ∧ i = .int .i64 (k : Nat) ∧ n ≤ k ∧ CBox wr nb 28 #[.bool f.1, fv] ∧ Strs wr fv f.2 ∧ f.2.Pairwise (· < ·) ∧ f.2.length ≤ 60 ∧ Px wr p b n 1 (GL f) ∧ Below w.heap.size w wr) (fun i _ => R.length - (intOf i).toNat)
    case atStart => exact ⟨0, 0, (false, []), _, Nat.zero_le _, rfl, Nat.le_refl _, HBX.out, Strs.nil _, List.Pairwise.nil, by simp, HP2.out, HB2.out⟩
    case round =>
      obtain ⟨k, n, f, fv, hk, rfl, hnk, hbox, hfs, hfp, hfl, hpx, hbr⟩ := hrel
      obtain ⟨fo, fc, rfl⟩ := hfs.shape
      have HBX := Lib.hid hbox; have HFS := Lib.hid hfs; have HFP := Lib.hid hfp; have HPX := Lib.hid hpx; have HBR := Lib.hid hbr
      clear hbox hfs hfp hpx hbr HP2
      by_cases hlt : k < R.length
      · obtain ⟨⟨e, A⟩, hst⟩ : ∃ t : Bool × List Str, t = R.getD k default := ⟨_, rfl⟩
        obtain ⟨hlb, c0, c1, hT⟩ := hc k hlt
        rw [← hst] at c0 hT
        obtain ⟨so, sc, hso⟩ := hT.shape
        rw [hso] at c1 hT
        dsimp only at c0 c1 hT
        have hTw := hT.mono HBR.out
        have d0 := (HBR.out.cell (p := ⟨b0, off + k * 2, none⟩) hlb).trans c0
        have d1' := (HBR.out.cell (p := ⟨b0, off + k * 2 + 1, none⟩) hlb).trans c1
        have hp := hidx k hlt
        have HC := Lib.hid (And.intro hlb (And.intro c0 (And.intro c1 hT)))
        have HTW := Lib.hid hTw
        have HIX := Lib.hid hp
        clear hidx hc hlb c0 c1 hT hso hst
        cases d60 : decide ((60 : Int) < (A.length : Int))
        · have hA60 : A.length ≤ 60 := by have := of_decide_eq_false d60; omega
          have HT := Lib.hid (tell_lead p b n f e _ A wr HPX.out (by omega) hTw hA60 hfl)
          clear hTw
          go_wp2_with fail
          refine HT.out.mono ?_
          rintro x w3 ⟨rv, rfl, hrv, hpx, hck, hgr⟩
          have B3 := Lib.hid (HBR.out.grown hgr HBR.out.size (fun k e => by injection e with e; subst e; exact Nat.le_trans (by have := HBB.out; omega) HBB.out))
          have X3 := Lib.hid (hck.box HBX.out); have F3 := Lib.hid (hck.strs HFS.out); have P3 := Lib.hid hpx; have RV := Lib.hid hrv
          obtain ⟨r1, r2, r3, r4⟩ := leads_plain pOne f.1 f.2 e (sasc A)
          have hR60 := pdiff_len pOne f.1 f.2 e (sasc A)
          have hsl := sasc_length A
          have HRL := Lib.hid (And.intro r2 (And.intro r3 (And.intro r4 (fun r hr => Nat.le_trans (hR60 r hr) (show f.2.length + (sasc A).length ≤ 120 from by omega)))))
          obtain ⟨bl, roff, rsrc, _, rlen, ridx, rcell⟩ := hrv.facts
          generalize pdiff pOne f.1 f.2 e (sasc A) = Q at RV HRL r1 rlen ridx rcell
          clear hpx hck hgr HT hrv r2 r3 r4 hR60 d0 d1' hp HBX HFS HPX
          go_wp2_with fail
          go_loopw [9] (fun i wr => ∃ j, ∃ E u L, j ≤ Q.length ∧ i = .int .i64 (j : Nat) ∧ CBox wr nb 28 #[.bool E, u] ∧ Strs wr u L ∧ L.Pairwise (· < ·) ∧ L.length ≤ 60 + j * 120 ∧ E = foldE f.1 (Q.take j) ∧ (∀ x, adm E L x = foldB x (adm f.1 f.2 x) (Q.take j)) ∧ w3.grownBy wr (some nb)) (fun i _ => Q.length - (intOf i).toNat)
          case atStart => exact ⟨0, f.1, _, f.2, Nat.zero_le _, rfl, X3.out, F3.out, HFP.out, by omega, rfl, fun x => rfl, World.grownBy.refl _ _⟩
          case round =>
            obtain ⟨wq, rfl⟩ : ∃ wq : World, wq = wr := ⟨_, rfl⟩
            obtain ⟨j, E, u, L, hj, rfl, hbx, hst, hpw, hll, hE, hx, hgb⟩ := hrel
            obtain ⟨uo, uc, rfl⟩ := hst.shape
            have HX := Lib.hid (And.intro hE hx)
            have HBX := Lib.hid hbx; have HSV := Lib.hid hst; have HBL := Lib.hid hgb; have HPW := Lib.hid hpw
            have RVW := Lib.hid (show Recs wq rv Q from by
              obtain ⟨ao, cap, rb, ro, rs, rfl, h0, h1, h2⟩ := RV.out
              refine ⟨ao, cap, rb, ro, rs, rfl, h0, h1, fun k hk => ?_⟩
              obtain ⟨q1, q2, q3, q4, q5, q6⟩ := h2 k hk
              have hne : rb ≠ nb := fun e => by
                subst e
                have := X3.out.inv q3
                exact ns2 _ _ _ _ _ _ this
              have hcl : ∀ i, wq.cell? ⟨rb, i, none⟩ = w3.cell? ⟨rb, i, none⟩ := fun i => World.cell?_of_block (hgb.block rb q1 (fun e => hne (by injection e)))
              exact ⟨Nat.lt_of_lt_of_le q1 hgb.size, (hcl _).trans q2, (hcl _).trans q3, (hcl _).trans q4, q5.kept_box X3.out hgb, q6⟩)
            obtain ⟨c0, cf0⟩ := hbx.at_ 0 _ rfl
            obtain ⟨c1, cf1⟩ := hbx.at_ 1 _ rfl
            have hlt3 := hbx.lt
            clear hE hx hbx hst hpw hgb rlen ridx rcell
            by_cases hltj : j < Q.length
            · obtain ⟨rb, roff, rsrc, _, _, ridx, rcell⟩ := RVW.out.facts
              obtain ⟨_, e0, e1, e2, hsr, _⟩ := rcell j hltj
              have hp := ridx j hltj
              have hmem : Q.getD j default ∈ Q := by rw [List.getD_eq_getElem?_getD, List.getElem?_eq_getElem hltj]; exact List.getElem_mem hltj
              have hkk := HRL.out.1 _ hmem
              have hsl := HRL.out.2.2.2 _ hmem
              have HF := Lib.hid (And.intro (foldE_snoc f.1 Q j hltj) (fun x => foldB_snoc x (adm f.1 f.2 x) Q j hltj))
              obtain ⟨⟨kk, gg, S⟩, hr⟩ : ∃ r, Q.getD j default = r := ⟨_, rfl⟩
              rw [hr] at e0 e1 hsr hkk hsl HF
              simp only at e0 e1 hsr hkk hsl HF
              obtain ⟨sv, hsv⟩ : ∃ s, rsrc j = s := ⟨_, rfl⟩
              rw [hsv] at e2 hsr
              obtain ⟨so', sc', rfl⟩ := hsr.shape
              have HA := Lib.hid (fun W' (hb : Below wq.heap.size wq W') => after_any E (.slice uo L.length uc) L kk gg (.slice so' S.length sc') S W' (HSV.out.mono hb) (hsr.mono hb) hkk (by omega))
              have HKK := Lib.hid (And.intro hkk hsl)
              have hrl := RVW.out.shape
              obtain ⟨ro', rc', hro⟩ := hrl
              clear ridx rcell hmem hr hsv hsr hkk hsl hro
              go_wp2
              go_region_with ((with_reducible refine (HA.out _ (Below.drew (Below.refl _ _))).mono ?_); rintro en w9 ⟨E', L', ⟨o, rfl, ho, hb, hlo⟩, hp', hE', hx'⟩; obtain ⟨oo, oc, rfl⟩ := ho.shape; have hb9 := Lib.hid ((Below.drew (Below.refl wq.heap.size wq)).trans (hb.mono (by simp))); have X9 := HBX.out.below hb9.out HBX.out.lt; obtain ⟨z0, z1⟩ := X9.at_ 0 _ rfl; obtain ⟨z2, z3⟩ := X9.at_ 1 _ rfl; have HN := Lib.hid (And.intro ho (And.intro (hlo.mono (lo' := wq.heap.size) (by simp)) (And.intro hp' (And.intro hE' hx')))); have HX9 := Lib.hid X9; clear ho hb hlo hp' hE' hx' X9)
              all_goals
                go_wp2
                go_roundw
                case rel =>
                  obtain ⟨n1, n2, n3, n4, n5⟩ := HN.out
                  refine ⟨j + 1, E', _, L', by omega, by go_num, FBox.set2 (show FBox w9 nb E _ from HX9.out) _ _, (n1.far n2 hlt3 _).far n2 hlt3 _, n3, ?_, ?_, fun x => ?_, ((grown_below HBL.out hb9.out).trans (grown_set _ _ _ _)).trans (grown_set _ _ _ _)⟩
                  · have := aft_len HKK.out.1 n3 n4 n5
                    have := HKK.out.2
                    omega
                  · rw [HF.out.1, ← HX.out.1]; exact n4
                  · rw [HF.out.2, ← HX.out.2]; exact n5 x
                case measure => simp [intOf]; omega
            · obtain rfl : j = Q.length := by omega
              have EQ : E = e ∧ L = sasc A := by
                have h1 := HX.out.1
                rw [List.take_of_length_le (Nat.le_refl _), HRL.out.2.1] at h1
                refine fil_same h1 HPW.out (sasc_rising A) (fun x => ?_)
                rw [HX.out.2 x, List.take_of_length_le (Nat.le_refl _), HRL.out.2.2.1 x, adm_sasc]
              obtain ⟨rfl, rfl⟩ := EQ
              have HPXW := Lib.hid (P3.out.kept_box X3.out HNB.out.2.1 HNB.out.2.2 HBL.out)
              have HBW := Lib.hid (B3.out.grown HBL.out B3.out.size (fun k e => by injection e with e; subst e; exact HNB.out.1))
              have HAL := Lib.hid (all_any p b (n + 1) 1 7 (GL (E, sasc A)) wq HPXW.out (by omega) (GL_small (show (sasc A).length ≤ 60 from by omega)))
              obtain ⟨ro', rc', hro⟩ := RVW.out.shape
              obtain ⟨_, _, _, _, rlen, _, _⟩ := RVW.out.facts
              clear c0 c1 cf0 cf1 HX HRL RV hro X3 F3 P3 B3
              go_wp2_with fail
              refine HAL.out.mono ?_
              rintro x w4 ⟨r, Q', K, _, rfl, _, hq, hok, _, hqr, hb4⟩
              have hKK := GL_keys hok
              obtain ⟨W5, hW5⟩ : ∃ W5, W5 = w4.alloc (.cells #[.bool false, .slice none 0 0] 28) := ⟨_, rfl⟩
              have hb45 : Below w4.heap.size w4 W5 := by rw [hW5]; exact (Below.refl _ _).alloc (Nat.le_refl _) _
              have T5 := Lib.hid (show CBox W5 w4.heap.size 28 #[.bool false, .slice none 0 0] from by rw [hW5]; exact CBox.new _ rfl)
              have hb5 : Below wq.heap.size wq W5 := hb4.trans (hb45.mono hb4.size)
              have X5 := Lib.hid (HBX.out.below hb5 HBX.out.lt); have S5 := Lib.hid (HSV.out.mono hb5); have P5 := Lib.hid (HPXW.out.below hb5); have B5 := Lib.hid (HBW.out.trans (hb5.mono HBW.out.size))
              have hnl : nb < w4.heap.size := Nat.lt_of_lt_of_le hlt3 hb4.size
              have HLP := Lib.hid (show p < w4.heap.size ∧ b < w4.heap.size ∧ w.heap.size ≤ w4.heap.size from by have h1 := HPXW.out.lt; have h2 := hb4.size; have h3 := HBW.out.size; omega)
              have HN5 := Lib.hid (fun W (hW : Below W5.heap.size W5 W) => norm_any E _ A W (HC.out.2.2.2.mono (B5.out.trans (hW.mono B5.out.size))) (by omega))
              have HW5 := Lib.hid hW5
              have hRR : Recs w4 r (K.map (recT (GL (E, sasc A)))) := by
                have h1 := hq.recs (by rw [show Q'.length = (K.map (recT (GL (E, sasc A)))).length from by rw [← hqr]; simp]; rw [hKK]; split <;> simp)
                rwa [hqr] at h1
              have hK1 : K.length ≤ 1 := by rw [hKK]; split <;> simp
              obtain ⟨ab, aoff, asrc, _, alen, aix, ac⟩ := (hRR.mono hb45).facts
              obtain ⟨M, hM⟩ : ∃ M, M = K.length := ⟨_, rfl⟩
              rw [List.length_map, ← hM] at alen
              have HRR := Lib.hid (show ∀ t, K = [t] → ∃ ao' ac', W5.cell? ⟨ab, aoff, none⟩ = some (.int .i64 (recT (GL (E, sasc A)) t).1) ∧ W5.cell? ⟨ab, aoff + 2, none⟩ = some (.slice ao' (recT (GL (E, sasc A)) t).2.2.length ac') ∧ Strs W5 (.slice ao' (recT (GL (E, sasc A)) t).2.2.length ac') (recT (GL (E, sasc A)) t).2.2 ∧ (∀ w', (Instr.indexAt 47 r (.int .i64 0)).run Try.prog w' = .ok (.pointer (some ⟨ab, aoff, none⟩)) w') ∧ ab < W5.heap.size from fun t ht => by
                subst ht
                obtain ⟨q1, a0, _, a2, ha, _⟩ := ac 0 (by simp)
                simp only [Nat.zero_mul, Nat.add_zero, List.map_cons, List.map_nil, List.getD_cons_zero] at a0 a2 ha
                obtain ⟨ao', ac', has⟩ := ha.shape
                rw [has] at a2 ha
                exact ⟨ao', ac', a0, a2, ha, aix 0 (by simp), q1⟩)
              have d2 : decide ((1 : Int) < (M : Int)) = false := decide_eq_false (by omega)
              have HMM := Lib.hid hM
              have HKK := Lib.hid hKK
              clear aix ac hq hok hqr hb4 hb45 hb5 hKK hRR hW5 HAL HBX HSV HBL HPW HPXW HBW RVW hK1 hM
              go_upto_if 69 with fail
              rw [← HW5.out]
              go_cut [] (fun w' => ToldAt W5 w4.heap.size E (sasc A) w')
              case first =>
                cases hem : emptyF (E, sasc A)
                · have hK := HKK.out
                  rw [hem] at hK
                  simp only [Bool.false_eq_true, if_false] at hK
                  obtain ⟨ao', ac', a0, a2, ha, aix, hab⟩ := HRR.out _ hK
                  rw [GL_rec] at a0 a2 ha
                  dsimp only at a0 a2 ha
                  obtain ⟨kd, hkd⟩ : ∃ kd : Int, kd = (if E = true then 2 else 1) := ⟨_, rfl⟩
                  rw [← hkd] at a0
                  have hk2 : (kd == 2) = E := by rw [hkd]; cases E <;> rfl
                  have hd0 : 0 < M := by rw [HMM.out, hK]; decide
                  obtain ⟨W6, hW6⟩ : ∃ W6, W6 = ((W5.setCell ⟨w4.heap.size, 0, none⟩ (.bool E)).setCell ⟨w4.heap.size, 1, none⟩ (.slice ao' (sasc A).length ac')).drew := ⟨_, rfl⟩
                  have HT6 := Lib.hid (show ToldAt W5 w4.heap.size E (sasc A) W6 from by
                    have hg : W5.grownBy W6 (some w4.heap.size) := by
                      rw [hW6]; exact grown_below ((grown_set _ _ _ _).trans (grown_set _ _ _ _)) (Below.drew (Below.refl _ _))
                    have hx : CBox W6 w4.heap.size 28 #[.bool E, .slice ao' (sasc A).length ac'] := by
                      rw [hW6]
                      show CBox ((W5.setCell _ _).setCell _ _) _ _ _
                      simpa using (T5.out.set 0 (.bool E)).set 1 (.slice ao' (sasc A).length ac')
                    exact ⟨.slice ao' (sasc A).length ac', hx, ha.kept_box T5.out hg, hg⟩)
                  have HW6 := Lib.hid hW6
                  obtain ⟨t0, tf0⟩ := T5.out.at_ 0 _ rfl
                  obtain ⟨t1, tf1⟩ := T5.out.at_ 1 _ rfl
                  clear hK hkd alen ha hW6 HKK HRR
                  go_wp2_with fail
                  go_region
                  all_goals
                    go_wp2_with fail
                    go_meet
                    case rel => rw [← HW6.out]; exact HT6.out
                · have hK := HKK.out
                  rw [hem] at hK
                  simp only [if_true] at hK
                  have hd0 : ¬ 0 < M := by rw [HMM.out, hK]; decide
                  have he := emptyF_eq hem
                  injection he with he1 he2
                  have HT6 := Lib.hid (show ToldAt W5 w4.heap.size E (sasc A) W5 from ⟨_, by rw [he1]; exact T5.out, by rw [he2]; exact Strs.nil _, World.grownBy.refl _ _⟩)
                  clear hK alen HKK HRR he1 he2 hem
                  go_wp2_with fail
                  go_meet
                  case rel => exact HT6.out
              case rest =>
              obtain ⟨W7, rfl⟩ : ∃ W7 : World, W7 = wc := ⟨_, rfl⟩
              obtain ⟨tv, htb, hts, htg⟩ := hcut
              obtain ⟨tvo, tvc, rfl⟩ := hts.shape
              have hne : nb ≠ w4.heap.size := by omega
              have hx7 : CBox W7 nb 28 #[.bool E, .slice uo (sasc A).length uc] := X5.out.grown htg (fun e => hne (by injection e))
              have P7 := Lib.hid (P5.out.kept_box T5.out (by have := P5.out.lt; have := HLP.out; omega) (by have := HLP.out; omega) htg)
              have S7 := Lib.hid (S5.out.kept_box T5.out htg)
              have B7 := Lib.hid (B5.out.grown htg B5.out.size (fun k e => by injection e with e; subst e; exact HLP.out.2.2))
              have X7 := Lib.hid hx7; have TS := Lib.hid hts; have TB := Lib.hid htb
              have HN7 := Lib.hid (fun W (hW : Below W7.heap.size W7 W) => norm_any E _ A W (HC.out.2.2.2.mono (B7.out.trans (hW.mono B7.out.size))) (by omega))
              have HK := Lib.hid (show ∀ w', Below W7.heap.size W7 w' → w'.cell? ⟨nb, 0, none⟩ = some (.bool E) ∧ w'.cell? ⟨nb, 1, none⟩ = some (.slice uo (sasc A).length uc) ∧ w'.cell? ⟨w4.heap.size, 0, none⟩ = some (.bool E) ∧ w'.cell? ⟨w4.heap.size, 1, none⟩ = some (.slice tvo (sasc A).length tvc) ∧ w'.cell? ⟨b0, off + k * 2, none⟩ = some (.bool E) ∧ w'.cell? ⟨b0, off + k * 2 + 1, none⟩ = some (.slice so A.length sc) from fun w' hb =>
                have x7 := X7.out.below hb X7.out.lt
                have t7 := TB.out.below hb TB.out.lt
                have bb := B7.out.trans (hb.mono B7.out.size)
                ⟨(x7.at_ 0 _ rfl).1, (x7.at_ 1 _ rfl).1, (t7.at_ 0 _ rfl).1, (t7.at_ 1 _ rfl).1, (bb.cell (p := ⟨b0, off + k * 2, none⟩) HC.out.1).trans HC.out.2.1, (bb.cell (p := ⟨b0, off + k * 2 + 1, none⟩) HC.out.1).trans HC.out.2.2.1⟩)
              have R0 := Lib.hid (Below.drew (Below.refl W7.heap.size W7))
              have hp := HIX.out
              have hal : (sasc A).length ≤ 60 := by omega
              clear hx7 hts htb htg X5 S5 P5 B5 T5 HN5 HW5 HRR HKK hne
              go_wp2_with fail
              go_region_held3 (fun w' => w'.cell? ⟨nb, 0, none⟩ = some (.bool E) ∧ w'.cell? ⟨nb, 1, none⟩ = some (.slice uo (sasc A).length uc) ∧ w'.cell? ⟨w4.heap.size, 0, none⟩ = some (.bool E) ∧ w'.cell? ⟨w4.heap.size, 1, none⟩ = some (.slice tvo (sasc A).length tvc) ∧ w'.cell? ⟨b0, off + k * 2, none⟩ = some (.bool E) ∧ w'.cell? ⟨b0, off + k * 2 + 1, none⟩ = some (.slice so A.length sc)) (first | exact HK.out _ R3.out | exact HK.out _ R2.out | exact HK.out _ R1.out | exact HK.out _ R0.out) (first | ((with_reducible refine (psame_yes _ _ _ _ _ _ _ (S7.out.mono R2.out) Tn.out rfl rfl).mono ?_); rintro x v3w ⟨rfl, hb⟩; have R3 := Lib.hid (R2.out.trans (hb.mono R2.out.size)); clear hb) | ((with_reducible refine (HN7.out _ R1.out).mono ?_); rintro x v2w ⟨un, rfl, ho, hb, _⟩; obtain ⟨on, cn, rfl⟩ := ho.shape; have Tn := Lib.hid ho; clear ho; have R2 := Lib.hid (R1.out.trans (hb.mono R1.out.size)); clear hb) | ((with_reducible refine (psame_yes _ _ _ _ _ _ _ (S7.out.mono R0.out) (TS.out.mono R0.out) rfl rfl).mono ?_); rintro x v1w ⟨rfl, hb⟩; have R1 := Lib.hid (R0.out.trans (hb.mono R0.out.size)); clear hb))
              have X8 := Lib.hid (X7.out.below R3.out X7.out.lt); have S8 := Lib.hid (S7.out.mono R3.out); have P8 := Lib.hid (P7.out.below R3.out); have B8 := Lib.hid (B7.out.trans (R3.out.mono B7.out.size))
              clear R0 R1 R2 R3 Tn HK HN7 X7 S7 P7 B7 TS TB
              go_wp2_with fail
              go_roundw
              case rel => exact ⟨k + 1, n + 1, (E, sasc A), _, by omega, by go_num, by omega, X8.out, S8.out, sasc_rising A, hal, P8.out, B8.out⟩
              case measure => simp [intOf]; omega
        · clear hTw
          go_wp2_with fail
          refine (live_yes _).mono ?_
          rintro e w2 ⟨rfl, hb⟩
          have HB := Lib.hid (HBR.out.trans (hb.mono HBR.out.size))
          clear hb
          go_wp2_with fail
          go_ret
          exact ⟨rfl, HB.out⟩
      · clear hidx hc
        go_wp2_with fail
        refine (live_yes _).mono ?_
        rintro e w2 ⟨rfl, hb⟩
        have HB := Lib.hid (HBR.out.trans (hb.mono HBR.out.size))
        clear hb
        go_wp2_with fail
        go_ret
        exact ⟨rfl, HB.out⟩
  · clear hidx hc hm
    go_enter Try.func7, Try.ntmps7
    go_wp2_with fail
    refine (live_yes _).mono ?_
    rintro e w2 ⟨rfl, hb⟩
    have HB := Lib.hid hb
    clear hb
    go_wp2_with fail
    go_ret
    exact ⟨rfl, HB.out⟩
end Go.Proofs.Ytfloipdkhmgibaa
