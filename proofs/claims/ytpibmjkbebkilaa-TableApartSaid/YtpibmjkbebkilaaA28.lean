/- Texts joined into one file: TLawApart. -/
import Derived.Test.YtpibmjkbebkilaaA27
import Derived.Maps.AppendAt

/- The walk of TableApart. -/
namespace Go.Proofs.Ytpibmjkbebkilaa
open Go.RowKit Go.Lib Go.Maps Go.Sort
set_option maxRecDepth 20000
set_option maxRecDepth 20000
attribute [local go_sem ↓] Go.wp_at_zero Go.wp_at_succ

theorem scells_new (W : World) (a : Bool) (t : Int) (u : Value) (T : TypeId) : ∀ (j : Nat) (x : Value), (scells ((a, t, []), u))[j]? = some x → (W.alloc (.cells #[.bool a, .int .i64 t, u] T)).cell? ((⟨W.heap.size, 0, none⟩ : Addr).add j) = some x := by
  intro j x hj
  have hb : CBox (W.alloc (.cells #[.bool a, .int .i64 t, u] T)) W.heap.size T #[.bool a, .int .i64 t, u] := CBox.new _ rfl
  rw [add_lit]
  match j with
  | 0 => simp [scells] at hj; subst hj; exact (hb.at_ 0 _ rfl).1
  | 1 => simp [scells] at hj; subst hj; exact (hb.at_ 1 _ rfl).1
  | 2 => simp [scells] at hj; subst hj; exact (hb.at_ 2 _ rfl).1
  | j + 3 => simp [scells] at hj
theorem scells_one (a : Bool) (t : Int) (ao : Option Addr) (n c : Nat) : ∀ u ∈ scells ((a, t, []), .slice ao n c), u.oneCell' = true := by
  intro u hu
  simp [scells] at hu
  rcases hu with rfl | rfl | rfl <;> rfl

theorem tsame_y (e : Bool) (a : Int) (v u : Value) (A : List Tmd) (w : World) (h : Tms w v A) (h' : Tms w u A) :
    Calls Try.prog 17 #[.agg #[.bool e, .int .i64 a, v], .agg #[.bool e, .int .i64 a, u]] w fun e w' => e = .returned (.bool true) ∧ Below w.heap.size w w' :=
  (tsame_any e e a a v u A A w h h').mono (fun _ _ ⟨h1, h2⟩ => ⟨by rw [h1]; simp, h2⟩)

set_option maxHeartbeats 8000000 in
theorem tapart_no (room M L : Int) (v : Value) (w : World) (hf : ¬ fitsT room M L) :
    Calls Try.prog 5 #[.int .i64 room, .agg #[.int .i64 M, .int .i64 L], v] w fun e w' => e = .returned (.bool true) ∧ Below w.heap.size w w' := by
  obtain ⟨W0, hW0⟩ : ∃ W0, W0 = w.alloc (.cells #[.int .i64 M, .int .i64 L] 23) := ⟨_, rfl⟩
  have hb0 : Below w.heap.size w W0 := by rw [hW0]; exact (Below.refl _ _).alloc (Nat.le_refl _) _
  have b0 : CBox W0 w.heap.size 23 #[.int .i64 M, .int .i64 L] := by rw [hW0]; exact CBox.new _ rfl
  have HN := Lib.hid (tnew_no room M L W0 hf)
  obtain ⟨x0, _⟩ := b0.at_ 0 _ rfl
  obtain ⟨x1, _⟩ := b0.at_ 1 _ rfl
  have HB1 := Lib.hid hb0; have HW := Lib.hid hW0
  clear hb0 b0 hW0
  go_enter Try.func5, Try.ntmps5
  go_upto_region 1 with fail
  rw [← HW.out]
  go_wp2_with fail
  refine HN.out.mono ?_
  rintro e w2 ⟨rfl, hb⟩
  have HB2 := Lib.hid (HB1.out.trans (hb.mono HB1.out.size))
  clear hb HN HB1 x0 x1
  have HL := Lib.hid (tlive_any w2)
  go_wp2_with ((with_reducible refine HL.out.mono ?_); rintro e w3 ⟨rfl, hb3⟩; have HB3 := Lib.hid hb3; clear hb3)
  go_ret
  exact ⟨rfl, HB2.out.trans (HB3.out.mono HB2.out.size)⟩

set_option maxHeartbeats 16000000 in
theorem law_tapart (room M L : Int) (v : Value) (R : List TOp) (w : World) (h : OpsT w v R) :
    Calls Try.prog 5 #[.int .i64 room, .agg #[.int .i64 M, .int .i64 L], v] w fun e w' => e = .returned (.bool true) ∧ Below w.heap.size w w' := by
  by_cases hf : ¬ fitsT room M L
  · exact tapart_no room M L v w hf
  replace hf : fitsT room M L := Classical.not_not.1 hf
  obtain ⟨so, sc, rfl⟩ := h.shape
  obtain ⟨bs, off, src, hm, hlen, hidx, hc⟩ := h.facts
  clear h
  obtain ⟨W0, hW0⟩ : ∃ W0, W0 = w.alloc (.cells #[.int .i64 M, .int .i64 L] 23) := ⟨_, rfl⟩
  have hb0 : Below w.heap.size w W0 := by rw [hW0]; exact (Below.refl _ _).alloc (Nat.le_refl _) _
  have b0 : CBox W0 w.heap.size 23 #[.int .i64 M, .int .i64 L] := by rw [hW0]; exact CBox.new _ rfl
  have HN := Lib.hid (tnew_yes room M L W0 hf)
  obtain ⟨x0, _⟩ := b0.at_ 0 _ rfl
  obtain ⟨x1, _⟩ := b0.at_ 1 _ rfl
  have HB1 := Lib.hid hb0; have HW := Lib.hid hW0
  clear hb0 b0 hW0
  go_enter Try.func5, Try.ntmps5
  go_upto_region 1 with fail
  rw [← HW.out]
  go_wp2_with fail
  refine HN.out.mono ?_
  rintro e w2 ⟨p, b, o, rfl, hT, hpb, hpo, hb⟩
  have HNE := Lib.hid (show w.heap.size ≤ b ∧ w.heap.size ≤ o from by have := HB1.out.size; omega)
  have HS0 := Lib.hid (show Scr w p b o room M L 0 w2 from ⟨_, _, [], hT, TInv.empty hf.1.1, HB1.out.trans (hb.mono HB1.out.size)⟩)
  have HR := Lib.hid hf
  clear hb hT hpb hpo HN HB1 hf x0 x1 HW
  go_wp2_with fail
  go_loopw [9] (fun i wr => ∃ k, k ≤ R.length ∧ k ≤ 40 ∧ i = .int .i64 (k : Nat) ∧ Scr w p b o room M L k wr) (fun i _ => R.length - (intOf i).toNat)
  case atStart => exact ⟨0, Nat.zero_le _, Nat.zero_le _, rfl, HS0.out⟩
  case round =>
    obtain ⟨k, hk, hk40, rfl, hsc⟩ := hrel
    have HSC := Lib.hid hsc
    clear hsc HS0
    by_cases hlt : k < R.length
    · by_cases h40 : k < 40
      · obtain ⟨hlb, hcs, hok⟩ := hc k hlt
        have hp := hidx k hlt
        obtain ⟨q, hq⟩ : ∃ q, q = R.getD k default := ⟨_, rfl⟩
        rw [← hq] at hcs hok
        have HQ := Lib.hid (And.intro (And.intro hok.gl hok.sl) hok.wvl)
        obtain ⟨F, O, K, hT, hI, hbr⟩ := HSC.out
        obtain ⟨ro, rc, hrs⟩ := hok.strs.shape
        obtain ⟨c0, c1, c2, c3, c4, c5, c6, c7⟩ := TOp.row hbr hlb hcs
        rw [hrs] at c5
        have HT := Lib.hid hT; have HI := Lib.hid hI; have HBR := Lib.hid hbr
        have HST := Lib.hid (show Strs wr (.slice ro q.S.length rc) q.S from hrs ▸ hok.strs.mono hbr)
        clear hidx hc hlb hcs hok hq hrs hT hI hbr HSC
        go_upto_region 10 with fail
        obtain ⟨W3, hW3⟩ : ∃ W3, W3 = wr.alloc (.cells #[.int .i64 q.d, .int .i64 q.vl, .int .i64 q.pt, .int .i64 q.kind, .string (bstr q.g), .slice ro q.S.length rc, .string (bstr q.src), .int .i64 q.now] 37) := ⟨_, rfl⟩
        have hb3 : Below wr.heap.size wr W3 := by rw [hW3]; exact (Below.refl _ _).alloc (Nat.le_refl _) _
        obtain ⟨nb, hnb⟩ : ∃ nb, nb = wr.heap.size := ⟨_, rfl⟩
        have HX := Lib.hid (show CBox W3 nb 37 #[.int .i64 q.d, .int .i64 q.vl, .int .i64 q.pt, .int .i64 q.kind, .string (bstr q.g), .slice ro q.S.length rc, .string (bstr q.src), .int .i64 q.now] from by rw [hW3, hnb]; exact CBox.new _ rfl)
        have HT3 := Lib.hid (HT.out.mono hb3)
        have HST3 := Lib.hid (HST.out.mono hb3)
        have HB3 := Lib.hid (HBR.out.trans (hb3.mono HBR.out.size))
        have HW3 := Lib.hid hW3; have HNB := Lib.hid hnb
        clear hnb hb3 hW3 HT HST HBR c0 c1 c2 c3 c4 c5 c6 c7 hp
        rw [← HW3.out, ← HNB.out]
        clear HW3 HNB
        obtain ⟨x5, _⟩ := HX.out.at_ 5 _ rfl
        have xl := HX.out.lt
        cases d60 : decide ((60 : Int) < (q.S.length : Int))
        · obtain ⟨K0, hK0, _, hok0, _⟩ := HT3.out.keys
          have HOK := Lib.hid (show ∀ x ∈ K, okT x from by have := hK0.unique HI.out.keys; subst this; exact hok0)
          have HKS := Lib.hid (keys_fn (some ⟨p, 0, none⟩) k F K W3 ⟨HI.out.keys, .inr ⟨p, b, o, _, _, _, _, _, rfl, HT3.out⟩⟩ (by omega))
          clear hK0 hok0
          go_wp2_with fail
          refine HKS.out.mono ?_
          rintro e w4 ⟨u4, rfl, hk4, _, hb4⟩
          obtain ⟨uo, uc, rfl⟩ := hk4.shape
          have HT4 := Lib.hid (HT3.out.mono hb4)
          have HX4 := Lib.hid (HX.out.below hb4 HX.out.lt)
          have HST4 := Lib.hid (HST3.out.mono hb4)
          have HB4 := Lib.hid (HB3.out.trans (hb4.mono HB3.out.size))
          have HK4 := Lib.hid hk4
          obtain ⟨ba, offa, hlena, hidxa, hca⟩ := hk4.facts
          have hKl : K.length ≤ 4096 := by have h1 := HI.out.few; have h2 := HR.out.1.2; omega
          obtain ⟨i0, hi, hz0, hz1, hz2⟩ := info_parts infoStt
          have HI0 := Lib.hid (And.intro hi (And.intro hz0 (And.intro hz1 hz2)))
          have HLA := Lib.hid hlena; have HIA := Lib.hid hidxa; have HCA := Lib.hid hca
          clear hk4 hb4 HKS HT3 HX HB3 HST3 x5 xl hi hz0 hz1 hz2 hlena hidxa hca
          have hlena := HLA.out
          go_wp2_with fail
          go_loopw [12, 13] (fun u i wr => ∃ (j : Nat) (Q : List SQ), j ≤ K.length ∧ i = .int .i64 (j : Nat) ∧ Q.length = j ∧ Q.map Prod.fst = (K.take j).map (oldS F) ∧ SRow wr w4.heap.size u Q ∧ Below w4.heap.size w4 wr) (fun _ i _ => K.length - (intOf i).toNat)
          case atStart => exact ⟨0, [], Nat.zero_le _, rfl, rfl, rfl, SRow.nil _ _, Below.refl _ _⟩
          case round =>
            obtain ⟨j, Q, hj, rfl, hQl, hQe, hrow, hb4r⟩ := hrel
            obtain ⟨go, gc, rfl⟩ := own_form hrow.1
            subst hQl
            by_cases hj' : Q.length < K.length
            · obtain ⟨h1, a0, a1, a2⟩ := HCA.out Q.length hj'
              have hgx : K.getD Q.length default = K[Q.length] := by simp [List.getD_eq_getElem?_getD, hj']
              rw [hgx] at a0 a1 a2
              have a0 := (hb4r.cell (p := ⟨ba, offa + Q.length * 3, none⟩) h1).trans a0
              have a1 := (hb4r.cell (p := ⟨ba, offa + Q.length * 3 + 1, none⟩) h1).trans a1
              have a2 := (hb4r.cell (p := ⟨ba, offa + Q.length * 3 + 2, none⟩) h1).trans a2
              have hpa := HIA.out Q.length hj'
              have HS := Lib.hid (tstateL_any p b o k k room M L F O K[Q.length] wr (HT4.out.mono hb4r) (HOK.out _ (List.getElem_mem hj')))
              obtain ⟨⟨sa, st, sl⟩, hss⟩ : ∃ s, oldS F K[Q.length] = s := ⟨_, rfl⟩
              rw [hss] at HS
              unfold encT at HS
              have HSS := Lib.hid hss; have HROW := Lib.hid hrow; have H4R := Lib.hid hb4r; have HQE := Lib.hid hQe
              clear hss hrow hb4r hgx h1 hQe
              go_wp2_with fail
              refine HS.out.mono ?_
              rintro e w6 ⟨sv, rfl, hs6, hl6, hb6⟩
              obtain ⟨vo, vc, rfl⟩ := hs6.shape
              unfold encS
              dsimp only
              obtain ⟨W7, hW7⟩ : ∃ W7, W7 = w6.alloc (.cells #[.bool sa, .int .i64 st, .slice vo sl.length vc] 52) := ⟨_, rfl⟩
              have hb67 : Below w6.heap.size w6 W7 := by rw [hW7]; exact (Below.refl _ _).alloc (Nat.le_refl _) _
              have hb7 : Below wr.heap.size wr W7 := hb6.trans (hb67.mono hb6.size)
              have S7 := Lib.hid (show CBox W7 w6.heap.size 52 #[.bool sa, .int .i64 st, .slice vo sl.length vc] from by rw [hW7]; exact CBox.new _ rfl)
              have HNE6 := Lib.hid (show sl ≠ [] → (Value.slice vo sl.length vc).ownBlock ≠ (Value.slice go Q.length gc).ownBlock from fun _ e => by
                cases hgb : (Value.slice go Q.length gc).ownBlock with
                | none =>
                  rw [hgb] at e
                  cases vo with
                  | none =>
                    obtain ⟨_, _, _, _, ee, h0, _⟩ := hs6
                    injection ee with e1 e2 e3
                    rcases h0 with h0 | h0
                    · contradiction
                    · rw [h0] at e1; cases e1
                  | some a => simp [Value.ownBlock] at e
                | some c =>
                  have q1 := hl6 c (by rw [e, hgb])
                  have q2 := (HROW.out.1.lt c hgb).2
                  omega)
              have HW7 := Lib.hid hW7
              have HT7 := Lib.hid (hs6.mono hb67)
              have HR7 := Lib.hid (HROW.out.below hb7)
              have H47 := Lib.hid (H4R.out.trans (hb7.mono H4R.out.size))
              clear hb67 hb7 hs6 hl6 hb6 hW7 HS HROW H4R a0 a1 a2 hpa
              obtain ⟨s0, _⟩ := S7.out.at_ 0 _ rfl
              obtain ⟨s1, _⟩ := S7.out.at_ 1 _ rfl
              obtain ⟨s2, _⟩ := S7.out.at_ 2 _ rfl
              go_upto_region 18 with fail
              rw [← HW7.out]
              have hc3 : Q.length + 1 ≤ maxLen := by unfold maxLen; omega
              have hc4 : (Q.length + 1) * 40 ≤ 140737488355328 := by omega
              have hi := HI0.out.1; have hz0 := HI0.out.2.1; have hz1 := HI0.out.2.2.1; have hz2 := HI0.out.2.2.2
              have hr8 := HR7.out.1.alloc (.cells #[.bool sa, .int .i64 st, .slice vo sl.length vc] 52)
              have hs8 : w4.heap.size ≤ (W7.alloc (.cells #[.bool sa, .int .i64 st, .slice vo sl.length vc] 52)).heap.size := by have := H47.out.size; simp; omega
              go_wp2_with (at_builtin; refine wpList_append_own_at _ rfl _ _ 59 rfl w4.heap.size 52 i0 (.agg #[.bool false, .int .i64 0, .slice none 0 0]) 3 40 Try.underlying59 hi hz0 hz1 hz2 rfl (by decide) (.slice go Q.length gc) Q.length (Q.flatMap scells) rfl hr8 ⟨W7.heap.size, 0, none⟩ 1 1 (scells ((sa, st, []), .slice vo sl.length vc)) rfl rfl (scells_new _ _ _ _ _) (scells_one _ _ _ _ _) hc3 hc4 hs8 ?_; intro v9 w9 hown9 hg9 _ halt9)
              go_roundw
              case rel =>
                have hal : Below W7.heap.size W7 (W7.alloc (.cells #[.bool sa, .int .i64 st, .slice vo sl.length vc] 52)) := (Below.refl _ _).alloc (Nat.le_refl _) _
                have hp8 := SRow.push (q := ((sa, st, sl), .slice vo sl.length vc)) (HR7.out.below hal) (HT7.out.mono hal) HNE6.out hown9 hg9 halt9
                refine ⟨Q.length + 1, Q ++ [((sa, st, sl), .slice vo sl.length vc)], by omega, by go_num, by simp, ?_, hp8, ?_⟩
                · rw [List.map_append, HQE.out, List.take_succ_eq_append_getElem hj', List.map_append, List.map_singleton, List.map_singleton, HSS.out]
                · exact below_own (H47.out.trans (hal.mono H47.out.size)) hr8 (Nat.le_refl _) hs8 hg9
              case measure => simp [intOf]; omega
            · have hQK : Q.length = K.length := by omega
              have hQm : Q.map Prod.fst = K.map (oldS F) := by rw [hQe, hQK, List.take_length]
              have hTr := HT4.out.mono hb4r
              have hXr := HX4.out.below hb4r HX4.out.lt
              have HRP := Lib.hid (report_all p b o k k room M L q.vl q.pt q.kind q.now q.g _ q.S F O K wr hTr HI.out (HST4.out.mono hb4r) (by omega) (by omega))
              obtain ⟨x1, _⟩ := hXr.at_ 1 _ rfl
              obtain ⟨x2, _⟩ := hXr.at_ 2 _ rfl
              obtain ⟨x3, _⟩ := hXr.at_ 3 _ rfl
              obtain ⟨x4, _⟩ := hXr.at_ 4 _ rfl
              obtain ⟨x5, _⟩ := hXr.at_ 5 _ rfl
              obtain ⟨x7, _⟩ := hXr.at_ 7 _ rfl
              have HSQ := Lib.hid hrow.read
              have HKr := Lib.hid (HK4.out.mono hb4r)
              have HTR := Lib.hid hTr; have HXR := Lib.hid hXr
              have HBr := Lib.hid (HB4.out.trans (hb4r.mono HB4.out.size))
              have HQM := Lib.hid hQm; have HQK := Lib.hid hQK
              clear hTr hXr hrow hb4r hQe hQm HT4 HX4 HST4 HK4 HLA HIA HCA HB4
              go_wp2_with fail
              refine HRP.out.mono ?_
              rintro e w5 ⟨u5, f5, rs5, err5, F', O', K', rfl, hu5, hT5, hM5, hI5, hF5⟩
              have hck := HTR.out.ckeep hM5
              obtain ⟨bb, offb, hlenb, hidxb, hcb⟩ := (HKr.out.keep hck).facts
              obtain ⟨bq, offq, hidxq, hcq⟩ := (HSQ.out.keep hck).facts
              have HX5 := Lib.hid (hck.box HXR.out)
              have HT5 := Lib.hid hT5; have HI5 := Lib.hid hI5; have HF5 := Lib.hid hF5
              have HB5 := Lib.hid (HBr.out.trans (hM5.below HBr.out.size HNE.out.1 HNE.out.2))
              have HIB := Lib.hid hidxb; have HCB := Lib.hid hcb; have HIQ := Lib.hid hidxq; have HCQ := Lib.hid hcq
              clear hck hu5 hT5 hM5 hI5 hF5 hidxb hcb hidxq hcq HRP HTR HXR HKr HSQ x1 x2 x3 x4 x5 x7 HBr
              go_wp2_with fail
              go_loopw [16] (fun i wr => ∃ j : Nat, j ≤ K.length ∧ i = .int .i64 (j : Nat) ∧ Below w5.heap.size w5 wr) (fun i _ => K.length - (intOf i).toNat)
              case atStart => exact ⟨0, Nat.zero_le _, rfl, Below.refl _ _⟩
              case round =>
                obtain ⟨j, hj, rfl, hb5r⟩ := hrel
                by_cases hj' : j < K.length
                · obtain ⟨⟨xv, xg, xp⟩, hx⟩ : ∃ x, K[j] = x := ⟨_, rfl⟩
                  have hmem : (xv, xg, xp) ∈ K := by rw [← hx]; exact List.getElem_mem hj'
                  have hjQ : j < Q.length := by rw [HQK.out]; exact hj'
                  obtain ⟨h1, a0, a1, a2⟩ := HCB.out j hj'
                  have hgx : K.getD j default = (xv, xg, xp) := by rw [← hx]; simp [List.getD_eq_getElem?_getD, hj']
                  rw [hgx] at a0 a1 a2
                  obtain ⟨h2, c0, c1, c2, hTq⟩ := HCQ.out j hjQ
                  have hqs : (Q.getD j default).1 = oldS F (xv, xg, xp) := by
                    have := congrArg (fun l => l[j]?) HQM.out
                    simp [hjQ, hj', hx] at this
                    rw [← this]
                    simp [List.getD_eq_getElem?_getD, hjQ]
                  obtain ⟨⟨⟨qa, qt, ql⟩, qv⟩, hqq⟩ : ∃ x, Q.getD j default = x := ⟨_, rfl⟩
                  rw [hqq] at c0 c1 c2 hTq hqs
                  dsimp only at c0 c1 c2 hTq hqs a0 a1 a2
                  have a0 := (hb5r.cell (p := ⟨bb, offb + j * 3, none⟩) h1).trans a0
                  have a1 := (hb5r.cell (p := ⟨bb, offb + j * 3 + 1, none⟩) h1).trans a1
                  have a2 := (hb5r.cell (p := ⟨bb, offb + j * 3 + 2, none⟩) h1).trans a2
                  have c0 := (hb5r.cell (p := ⟨bq, offq + j * 3, none⟩) h2).trans c0
                  have c1 := (hb5r.cell (p := ⟨bq, offq + j * 3 + 1, none⟩) h2).trans c1
                  have c2 := (hb5r.cell (p := ⟨bq, offq + j * 3 + 2, none⟩) h2).trans c2
                  have hpa := HIB.out j hj'
                  have hpq := HIQ.out j hjQ
                  obtain ⟨qo, qc, rfl⟩ := hTq.shape
                  have h1r := Nat.lt_of_lt_of_le h1 hb5r.size
                  have h2r := Nat.lt_of_lt_of_le h2 hb5r.size
                  have HTQ := Lib.hid (hTq.mono hb5r)
                  have HXr := Lib.hid (HX5.out.below hb5r HX5.out.lt)
                  have HS := Lib.hid (tstate_any p b o (k + 1) (k + 1) room M L F' O' (xv, xg, xp) wr (HT5.out.mono hb5r) (HOK.out _ hmem))
                  obtain ⟨⟨sa, st, sl⟩, hss⟩ : ∃ s, oldS F' (xv, xg, xp) = s := ⟨_, rfl⟩
                  obtain ⟨is, his⟩ : ∃ x, (F' (xv, xg, xp)).isSome = x := ⟨_, rfl⟩
                  have HOT := Lib.hid (show (xv, xg, xp) ≠ (q.vl, q.g, q.pt) → is = true ∧ (sa, st, sl) = (qa, qt, ql) from fun hne => by
                    have hF := HF5.out _ hne
                    refine ⟨?_, ?_⟩
                    · rw [← his, hF]
                      exact Option.isSome_iff_ne_none.2 ((HI.out.keys.2 _).1 hmem)
                    · rw [← hss, hqs]
                      unfold oldS
                      rw [hF])
                  rw [hss, his] at HS
                  unfold encT at HS
                  dsimp only at HS
                  have HCL := Lib.hid (show ∀ wq, Below wr.heap.size wr wq → (wq.cell? ⟨bb, offb + j * 3, none⟩ = some (.int .i64 xv) ∧ wq.cell? ⟨bb, offb + j * 3 + 1, none⟩ = some (.string (bstr xg)) ∧ wq.cell? ⟨bb, offb + j * 3 + 2, none⟩ = some (.int .i64 xp)) ∧ (wq.cell? ⟨bq, offq + j * 3, none⟩ = some (.bool qa) ∧ wq.cell? ⟨bq, offq + j * 3 + 1, none⟩ = some (.int .i64 qt) ∧ wq.cell? ⟨bq, offq + j * 3 + 2, none⟩ = some (.slice qo ql.length qc)) from fun wq hb =>
                    ⟨⟨(hb.cell (p := ⟨bb, offb + j * 3, none⟩) h1r).trans a0, (hb.cell (p := ⟨bb, offb + j * 3 + 1, none⟩) h1r).trans a1, (hb.cell (p := ⟨bb, offb + j * 3 + 2, none⟩) h1r).trans a2⟩, (hb.cell (p := ⟨bq, offq + j * 3, none⟩) h2r).trans c0, (hb.cell (p := ⟨bq, offq + j * 3 + 1, none⟩) h2r).trans c1, (hb.cell (p := ⟨bq, offq + j * 3 + 2, none⟩) h2r).trans c2⟩)
                  have H5R := Lib.hid hb5r; have HPQ := Lib.hid hpq
                  clear hx hmem h1 h2 h1r h2r hgx c0 c1 c2 hTq hqs hqq hb5r hss his hpq
                  go_wp2_with fail
                  refine HS.out.mono ?_
                  rintro e w6 ⟨sv, rfl, hs6, hb6⟩
                  obtain ⟨vo, vc, rfl⟩ := hs6.shape
                  unfold encS
                  dsimp only
                  obtain ⟨W7, hW7⟩ : ∃ W7, W7 = w6.alloc (.cells #[.bool sa, .int .i64 st, .slice vo sl.length vc] 52) := ⟨_, rfl⟩
                  have hb67 : Below w6.heap.size w6 W7 := by rw [hW7]; exact (Below.refl _ _).alloc (Nat.le_refl _) _
                  have hb7 : Below wr.heap.size wr W7 := hb6.trans (hb67.mono hb6.size)
                  have S7 := Lib.hid (show CBox W7 w6.heap.size 52 #[.bool sa, .int .i64 st, .slice vo sl.length vc] from by rw [hW7]; exact CBox.new _ rfl)
                  have HW7 := Lib.hid hW7
                  have HT7 := Lib.hid (hs6.mono hb67)
                  have HR7 := Lib.hid hb7
                  have HX7 := Lib.hid (HXr.out.below hb7 HXr.out.lt)
                  clear hb67 hb7 hs6 hb6 hW7 HS HXr a0 a1 a2
                  go_upto_region 24 with fail
                  rw [← HW7.out]
                  have hd : Below W7.heap.size W7 W7.drew := Below.drew (Below.refl _ _)
                  go_cut [19] (fun s19 w' => (∃ ot : Bool, s19 = .bool ot ∧ (ot = true → (xv, xg, xp) ≠ (q.vl, q.g, q.pt))) ∧ Below W7.heap.size W7 w')
                  case first =>
                    have HF := Lib.hid (show ∀ wq, Below W7.heap.size W7 wq → wq.cell? ⟨bb, offb + j * 3, none⟩ = some (.int .i64 xv) ∧ wq.cell? ⟨bb, offb + j * 3 + 1, none⟩ = some (.string (bstr xg)) ∧ wq.cell? ⟨bb, offb + j * 3 + 2, none⟩ = some (.int .i64 xp) ∧ wq.cell? ⟨nb, 1, none⟩ = some (.int .i64 q.vl) ∧ wq.cell? ⟨nb, 2, none⟩ = some (.int .i64 q.pt) ∧ wq.cell? ⟨nb, 4, none⟩ = some (.string (bstr q.g)) from fun wq hb =>
                      have c := (HCL.out wq (HR7.out.trans (hb.mono HR7.out.size))).1
                      have x := HX7.out.below hb HX7.out.lt
                      ⟨c.1, c.2.1, c.2.2, (x.at_ 1 _ rfl).1, (x.at_ 2 _ rfl).1, (x.at_ 4 _ rfl).1⟩)
                    have hbt := bstr_toList
                    by_cases e1 : xp = q.pt
                    · subst e1
                      by_cases e2 : xv = q.vl
                      · subst e2
                        by_cases e3 : xg = q.g
                        · subst e3
                          refine wp_region_held_drew (S := fun W' => Below W7.heap.size W7 W') (by kernel_rfl) hd (fun hHeld => ?_)
                          refine takeL 0 (v := ?_) rfl (by kernel_rfl) (by kernel_rfl) (by kernel_rfl) (fun _ _ _ h => h) (Or.inl ⟨by rfl, ?_⟩) (by assumption) ?_
                          rotate_left
                          focus (intro wq hSq; obtain ⟨f0, f1, f2, f3, f4, f5⟩ := HF.out wq hSq; go_simp <;> with_reducible rfl)
                          simp only [Act.put, List.setIfInBounds_toArray, List.set_cons_zero, List.set_cons_succ]
                          refine takeL 1 (v := ?_) rfl (by kernel_rfl) (by kernel_rfl) (by kernel_rfl) (fun _ _ _ h => h) (Or.inl ⟨by rfl, ?_⟩) (by assumption) ?_
                          rotate_left
                          focus (intro wq hSq; obtain ⟨f0, f1, f2, f3, f4, f5⟩ := HF.out wq hSq; go_simp <;> with_reducible rfl)
                          simp only [Act.put, List.setIfInBounds_toArray, List.set_cons_zero, List.set_cons_succ]
                          refine takeL 2 (v := ?_) rfl (by kernel_rfl) (by kernel_rfl) (by kernel_rfl) (fun _ _ _ h => h) (Or.inl ⟨by rfl, ?_⟩) (by assumption) ?_
                          rotate_left
                          focus (intro wq hSq; obtain ⟨f0, f1, f2, f3, f4, f5⟩ := HF.out wq hSq; go_simp <;> with_reducible rfl)
                          simp only [Act.put, List.setIfInBounds_toArray, List.set_cons_zero, List.set_cons_succ]
                          refine takeL 3 (v := ?_) rfl (by kernel_rfl) (by kernel_rfl) (by kernel_rfl) (fun _ _ _ h => h) (Or.inl ⟨by rfl, ?_⟩) (by assumption) ?_
                          rotate_left
                          focus (intro wq hSq; obtain ⟨f0, f1, f2, f3, f4, f5⟩ := HF.out wq hSq; go_simp <;> with_reducible rfl)
                          simp only [Act.put, List.setIfInBounds_toArray, List.set_cons_zero, List.set_cons_succ]
                          refine takeL 4 (v := ?_) rfl (by kernel_rfl) (by kernel_rfl) (by kernel_rfl) (fun _ _ _ h => h) (Or.inl ⟨by rfl, ?_⟩) (by assumption) ?_
                          rotate_left
                          focus (intro wq hSq; obtain ⟨f0, f1, f2, f3, f4, f5⟩ := HF.out wq hSq; go_simp <;> with_reducible rfl)
                          simp only [Act.put, List.setIfInBounds_toArray, List.set_cons_zero, List.set_cons_succ]
                          refine takeL 5 (v := ?_) rfl (by kernel_rfl) (by kernel_rfl) (by kernel_rfl) (fun _ _ _ h => h) (Or.inl ⟨by rfl, ?_⟩) (by assumption) ?_
                          rotate_left
                          focus (intro wq hSq; obtain ⟨f0, f1, f2, f3, f4, f5⟩ := HF.out wq hSq; go_simp <;> with_reducible rfl)
                          simp only [Act.put, List.setIfInBounds_toArray, List.set_cons_zero, List.set_cons_succ]
                          refine takeL 6 (v := ?_) rfl (by kernel_rfl) (by kernel_rfl) (by kernel_rfl) (fun _ _ _ h => h) (Or.inl ⟨by rfl, ?_⟩) (by assumption) ?_
                          rotate_left
                          focus (intro wq hSq; obtain ⟨f0, f1, f2, f3, f4, f5⟩ := HF.out wq hSq; go_simp <;> with_reducible rfl)
                          simp only [Act.put, List.setIfInBounds_toArray, List.set_cons_zero, List.set_cons_succ]
                          refine takeL 7 (v := ?_) rfl (by kernel_rfl) (by kernel_rfl) (by kernel_rfl) (fun _ _ _ h => h) (Or.inl ⟨by rfl, ?_⟩) (by assumption) ?_
                          rotate_left
                          focus (intro wq hSq; obtain ⟨f0, f1, f2, f3, f4, f5⟩ := HF.out wq hSq; go_simp <;> with_reducible rfl)
                          simp only [Act.put, List.setIfInBounds_toArray, List.set_cons_zero, List.set_cons_succ]
                          refine takeL 8 (v := ?_) rfl (by kernel_rfl) (by kernel_rfl) (by kernel_rfl) (fun _ _ _ h => h) (Or.inl ⟨by rfl, ?_⟩) (by assumption) ?_
                          rotate_left
                          focus (intro wq hSq; obtain ⟨f0, f1, f2, f3, f4, f5⟩ := HF.out wq hSq; go_simp <;> with_reducible rfl)
                          simp only [Act.put, List.setIfInBounds_toArray, List.set_cons_zero, List.set_cons_succ]
                          refine takeL 9 (v := ?_) rfl (by kernel_rfl) (by kernel_rfl) (by kernel_rfl) (fun _ _ _ h => h) (Or.inl ⟨by rfl, ?_⟩) (by assumption) ?_
                          rotate_left
                          focus (intro wq hSq; obtain ⟨f0, f1, f2, f3, f4, f5⟩ := HF.out wq hSq; go_simp <;> with_reducible rfl)
                          simp only [Act.put, List.setIfInBounds_toArray, List.set_cons_zero, List.set_cons_succ]
                          refine takeL 10 (v := ?_) rfl (by kernel_rfl) (by kernel_rfl) (by kernel_rfl) (fun _ _ _ h => h) (Or.inl ⟨by rfl, ?_⟩) (by assumption) ?_
                          rotate_left
                          focus (intro wq hSq; obtain ⟨f0, f1, f2, f3, f4, f5⟩ := HF.out wq hSq; go_simp <;> with_reducible rfl)
                          simp only [Act.put, List.setIfInBounds_toArray, List.set_cons_zero, List.set_cons_succ]
                          refine takeL 11 (v := ?_) rfl (by kernel_rfl) (by kernel_rfl) (by kernel_rfl) (fun _ _ _ h => h) (Or.inl ⟨by rfl, ?_⟩) (by assumption) ?_
                          rotate_left
                          focus (intro wq hSq; obtain ⟨f0, f1, f2, f3, f4, f5⟩ := HF.out wq hSq; go_simp <;> with_reducible rfl)
                          simp only [Act.put, List.setIfInBounds_toArray, List.set_cons_zero, List.set_cons_succ]
                          refine takeL 12 (v := ?_) rfl (by kernel_rfl) (by kernel_rfl) (by kernel_rfl) (fun _ _ _ h => h) (Or.inl ⟨by rfl, ?_⟩) (by assumption) ?_
                          rotate_left
                          focus (intro wq hSq; obtain ⟨f0, f1, f2, f3, f4, f5⟩ := HF.out wq hSq; go_simp <;> with_reducible rfl)
                          simp only [Act.put, List.setIfInBounds_toArray, List.set_cons_zero, List.set_cons_succ]
                          refine takeL 13 (v := ?_) rfl (by kernel_rfl) (by kernel_rfl) (by kernel_rfl) (fun _ _ _ h => h) (Or.inl ⟨by rfl, ?_⟩) (by assumption) ?_
                          rotate_left
                          focus (intro wq hSq; obtain ⟨f0, f1, f2, f3, f4, f5⟩ := HF.out wq hSq; go_simp <;> with_reducible rfl)
                          simp only [Act.put, List.setIfInBounds_toArray, List.set_cons_zero, List.set_cons_succ]
                          refine takeL 14 (v := ?_) rfl (by kernel_rfl) (by kernel_rfl) (by kernel_rfl) (fun _ _ _ h => h) (Or.inl ⟨by rfl, ?_⟩) (by assumption) ?_
                          rotate_left
                          focus (intro wq hSq; obtain ⟨f0, f1, f2, f3, f4, f5⟩ := HF.out wq hSq; go_simp <;> with_reducible rfl)
                          simp only [Act.put, List.setIfInBounds_toArray, List.set_cons_zero, List.set_cons_succ]
                          refine takeL 15 (v := ?_) rfl (by kernel_rfl) (by kernel_rfl) (by kernel_rfl) (fun _ _ _ h => h) (Or.inl ⟨by rfl, ?_⟩) (by assumption) ?_
                          rotate_left
                          focus (intro wq hSq; obtain ⟨f0, f1, f2, f3, f4, f5⟩ := HF.out wq hSq; go_simp <;> with_reducible rfl)
                          simp only [Act.put, List.setIfInBounds_toArray, List.set_cons_zero, List.set_cons_succ]
                          refine takeL 16 (v := ?_) rfl (by kernel_rfl) (by kernel_rfl) (by kernel_rfl) (fun _ _ _ h => h) (Or.inl ⟨by rfl, ?_⟩) (by assumption) ?_
                          rotate_left
                          focus (intro wq hSq; obtain ⟨f0, f1, f2, f3, f4, f5⟩ := HF.out wq hSq; go_simp <;> with_reducible rfl)
                          simp only [Act.put, List.setIfInBounds_toArray, List.set_cons_zero, List.set_cons_succ]
                          refine takeL 17 (v := ?_) rfl (by kernel_rfl) (by kernel_rfl) (by kernel_rfl) (fun _ _ _ h => h) (Or.inl ⟨by rfl, ?_⟩) (by assumption) ?_
                          rotate_left
                          focus (intro wq hSq; obtain ⟨f0, f1, f2, f3, f4, f5⟩ := HF.out wq hSq; go_simp <;> with_reducible rfl)
                          simp only [Act.put, List.setIfInBounds_toArray, List.set_cons_zero, List.set_cons_succ]
                          refine takeL 18 (v := ?_) rfl (by kernel_rfl) (by kernel_rfl) (by kernel_rfl) (fun _ _ _ h => h) (Or.inl ⟨by rfl, ?_⟩) (by assumption) ?_
                          rotate_left
                          focus (intro wq hSq; obtain ⟨f0, f1, f2, f3, f4, f5⟩ := HF.out wq hSq; go_simp <;> with_reducible rfl)
                          simp only [Act.put, List.setIfInBounds_toArray, List.set_cons_zero, List.set_cons_succ]
                          refine takeL 19 (v := ?_) rfl (by kernel_rfl) (by kernel_rfl) (by kernel_rfl) (fun _ _ _ h => h) (Or.inl ⟨by rfl, ?_⟩) (by assumption) ?_
                          rotate_left
                          focus (intro wq hSq; obtain ⟨f0, f1, f2, f3, f4, f5⟩ := HF.out wq hSq; go_simp <;> with_reducible rfl)
                          simp only [Act.put, List.setIfInBounds_toArray, List.set_cons_zero, List.set_cons_succ]
                          refine takeL 20 (v := ?_) rfl (by kernel_rfl) (by kernel_rfl) (by kernel_rfl) (fun _ _ _ h => h) (Or.inl ⟨by rfl, ?_⟩) (by assumption) ?_
                          rotate_left
                          focus (intro wq hSq; obtain ⟨f0, f1, f2, f3, f4, f5⟩ := HF.out wq hSq; go_simp <;> with_reducible rfl)
                          simp only [Act.put, List.setIfInBounds_toArray, List.set_cons_zero, List.set_cons_succ]
                          refine takeL 21 (v := ?_) rfl (by kernel_rfl) (by kernel_rfl) (by kernel_rfl) (fun _ _ _ h => h) (Or.inl ⟨by rfl, ?_⟩) (by assumption) ?_
                          rotate_left
                          focus (intro wq hSq; obtain ⟨f0, f1, f2, f3, f4, f5⟩ := HF.out wq hSq; go_simp <;> with_reducible rfl)
                          simp only [Act.put, List.setIfInBounds_toArray, List.set_cons_zero, List.set_cons_succ]
                          refine takeL 22 (v := ?_) rfl (by kernel_rfl) (by kernel_rfl) (by kernel_rfl) (fun _ _ _ h => h) (Or.inl ⟨by rfl, ?_⟩) (by assumption) ?_
                          rotate_left
                          focus (intro wq hSq; obtain ⟨f0, f1, f2, f3, f4, f5⟩ := HF.out wq hSq; go_simp <;> with_reducible rfl)
                          simp only [Act.put, List.setIfInBounds_toArray, List.set_cons_zero, List.set_cons_succ]
                          refine takeL 23 (v := ?_) rfl (by kernel_rfl) (by kernel_rfl) (by kernel_rfl) (fun _ _ _ h => h) (Or.inl ⟨by rfl, ?_⟩) (by assumption) ?_
                          rotate_left
                          focus (intro wq hSq; obtain ⟨f0, f1, f2, f3, f4, f5⟩ := HF.out wq hSq; go_simp <;> with_reducible rfl)
                          simp only [Act.put, List.setIfInBounds_toArray, List.set_cons_zero, List.set_cons_succ]
                          refine takeL 24 (v := ?_) rfl (by kernel_rfl) (by kernel_rfl) (by kernel_rfl) (fun _ _ _ h => h) (Or.inl ⟨by rfl, ?_⟩) (by assumption) ?_
                          rotate_left
                          focus (intro wq hSq; obtain ⟨f0, f1, f2, f3, f4, f5⟩ := HF.out wq hSq; go_simp <;> with_reducible rfl)
                          simp only [Act.put, List.setIfInBounds_toArray, List.set_cons_zero, List.set_cons_succ]
                          refine takeL 25 (v := ?_) rfl (by kernel_rfl) (by kernel_rfl) (by kernel_rfl) (fun _ _ _ h => h) (Or.inl ⟨by rfl, ?_⟩) (by assumption) ?_
                          rotate_left
                          focus (intro wq hSq; obtain ⟨f0, f1, f2, f3, f4, f5⟩ := HF.out wq hSq; go_simp <;> with_reducible rfl)
                          simp only [Act.put, List.setIfInBounds_toArray, List.set_cons_zero, List.set_cons_succ]
                          refine takeL 26 (v := ?_) rfl (by kernel_rfl) (by kernel_rfl) (by kernel_rfl) (fun _ _ _ h => h) (Or.inl ⟨by rfl, ?_⟩) (by assumption) ?_
                          rotate_left
                          focus (intro wq hSq; obtain ⟨f0, f1, f2, f3, f4, f5⟩ := HF.out wq hSq; go_simp <;> with_reducible rfl)
                          simp only [Act.put, List.setIfInBounds_toArray, List.set_cons_zero, List.set_cons_succ]
                          refine takeL 27 (v := ?_) rfl (by kernel_rfl) (by kernel_rfl) (by kernel_rfl) (fun _ _ _ h => h) (Or.inl ⟨by rfl, ?_⟩) (by assumption) ?_
                          rotate_left
                          focus (intro wq hSq; obtain ⟨f0, f1, f2, f3, f4, f5⟩ := HF.out wq hSq; go_simp <;> with_reducible rfl)
                          simp only [Act.put, List.setIfInBounds_toArray, List.set_cons_zero, List.set_cons_succ]
                          refine takeL 28 (v := ?_) rfl (by kernel_rfl) (by kernel_rfl) (by kernel_rfl) (fun _ _ _ h => h) (Or.inl ⟨by rfl, ?_⟩) (by assumption) ?_
                          rotate_left
                          focus (intro wq hSq; obtain ⟨f0, f1, f2, f3, f4, f5⟩ := HF.out wq hSq; go_simp <;> with_reducible rfl)
                          simp only [Act.put, List.setIfInBounds_toArray, List.set_cons_zero, List.set_cons_succ]
                          refine takeL 29 (v := ?_) rfl (by kernel_rfl) (by kernel_rfl) (by kernel_rfl) (fun _ _ _ h => h) (Or.inl ⟨by rfl, ?_⟩) (by assumption) ?_
                          rotate_left
                          focus (intro wq hSq; obtain ⟨f0, f1, f2, f3, f4, f5⟩ := HF.out wq hSq; go_simp <;> with_reducible rfl)
                          simp only [Act.put, List.setIfInBounds_toArray, List.set_cons_zero, List.set_cons_succ]
                          refine wpAnyH_done (by kernel_rfl) ?_ _
                          go_wp2_with fail
                          go_meet
                          case rel => exact ⟨⟨_, rfl, fun h => by cases h⟩, hd⟩
                        · have g3 : (xg == q.g) = false := by simp [e3]
                          refine wp_region_held_drew (S := fun W' => Below W7.heap.size W7 W') (by kernel_rfl) hd (fun hHeld => ?_)
                          refine takeL 0 (v := ?_) rfl (by kernel_rfl) (by kernel_rfl) (by kernel_rfl) (fun _ _ _ h => h) (Or.inl ⟨by rfl, ?_⟩) (by assumption) ?_
                          rotate_left
                          focus (intro wq hSq; obtain ⟨f0, f1, f2, f3, f4, f5⟩ := HF.out wq hSq; go_simp <;> with_reducible rfl)
                          simp only [Act.put, List.setIfInBounds_toArray, List.set_cons_zero, List.set_cons_succ]
                          refine takeL 1 (v := ?_) rfl (by kernel_rfl) (by kernel_rfl) (by kernel_rfl) (fun _ _ _ h => h) (Or.inl ⟨by rfl, ?_⟩) (by assumption) ?_
                          rotate_left
                          focus (intro wq hSq; obtain ⟨f0, f1, f2, f3, f4, f5⟩ := HF.out wq hSq; go_simp <;> with_reducible rfl)
                          simp only [Act.put, List.setIfInBounds_toArray, List.set_cons_zero, List.set_cons_succ]
                          refine takeL 2 (v := ?_) rfl (by kernel_rfl) (by kernel_rfl) (by kernel_rfl) (fun _ _ _ h => h) (Or.inl ⟨by rfl, ?_⟩) (by assumption) ?_
                          rotate_left
                          focus (intro wq hSq; obtain ⟨f0, f1, f2, f3, f4, f5⟩ := HF.out wq hSq; go_simp <;> with_reducible rfl)
                          simp only [Act.put, List.setIfInBounds_toArray, List.set_cons_zero, List.set_cons_succ]
                          refine takeL 3 (v := ?_) rfl (by kernel_rfl) (by kernel_rfl) (by kernel_rfl) (fun _ _ _ h => h) (Or.inl ⟨by rfl, ?_⟩) (by assumption) ?_
                          rotate_left
                          focus (intro wq hSq; obtain ⟨f0, f1, f2, f3, f4, f5⟩ := HF.out wq hSq; go_simp <;> with_reducible rfl)
                          simp only [Act.put, List.setIfInBounds_toArray, List.set_cons_zero, List.set_cons_succ]
                          refine takeL 4 (v := ?_) rfl (by kernel_rfl) (by kernel_rfl) (by kernel_rfl) (fun _ _ _ h => h) (Or.inl ⟨by rfl, ?_⟩) (by assumption) ?_
                          rotate_left
                          focus (intro wq hSq; obtain ⟨f0, f1, f2, f3, f4, f5⟩ := HF.out wq hSq; go_simp <;> with_reducible rfl)
                          simp only [Act.put, List.setIfInBounds_toArray, List.set_cons_zero, List.set_cons_succ]
                          refine takeL 5 (v := ?_) rfl (by kernel_rfl) (by kernel_rfl) (by kernel_rfl) (fun _ _ _ h => h) (Or.inl ⟨by rfl, ?_⟩) (by assumption) ?_
                          rotate_left
                          focus (intro wq hSq; obtain ⟨f0, f1, f2, f3, f4, f5⟩ := HF.out wq hSq; go_simp <;> with_reducible rfl)
                          simp only [Act.put, List.setIfInBounds_toArray, List.set_cons_zero, List.set_cons_succ]
                          refine takeL 6 (v := ?_) rfl (by kernel_rfl) (by kernel_rfl) (by kernel_rfl) (fun _ _ _ h => h) (Or.inl ⟨by rfl, ?_⟩) (by assumption) ?_
                          rotate_left
                          focus (intro wq hSq; obtain ⟨f0, f1, f2, f3, f4, f5⟩ := HF.out wq hSq; go_simp <;> with_reducible rfl)
                          simp only [Act.put, List.setIfInBounds_toArray, List.set_cons_zero, List.set_cons_succ]
                          refine takeL 7 (v := ?_) rfl (by kernel_rfl) (by kernel_rfl) (by kernel_rfl) (fun _ _ _ h => h) (Or.inl ⟨by rfl, ?_⟩) (by assumption) ?_
                          rotate_left
                          focus (intro wq hSq; obtain ⟨f0, f1, f2, f3, f4, f5⟩ := HF.out wq hSq; go_simp <;> with_reducible rfl)
                          simp only [Act.put, List.setIfInBounds_toArray, List.set_cons_zero, List.set_cons_succ]
                          refine takeL 8 (v := ?_) rfl (by kernel_rfl) (by kernel_rfl) (by kernel_rfl) (fun _ _ _ h => h) (Or.inl ⟨by rfl, ?_⟩) (by assumption) ?_
                          rotate_left
                          focus (intro wq hSq; obtain ⟨f0, f1, f2, f3, f4, f5⟩ := HF.out wq hSq; go_simp <;> with_reducible rfl)
                          simp only [Act.put, List.setIfInBounds_toArray, List.set_cons_zero, List.set_cons_succ]
                          refine takeL 9 (v := ?_) rfl (by kernel_rfl) (by kernel_rfl) (by kernel_rfl) (fun _ _ _ h => h) (Or.inl ⟨by rfl, ?_⟩) (by assumption) ?_
                          rotate_left
                          focus (intro wq hSq; obtain ⟨f0, f1, f2, f3, f4, f5⟩ := HF.out wq hSq; go_simp <;> with_reducible rfl)
                          simp only [Act.put, List.setIfInBounds_toArray, List.set_cons_zero, List.set_cons_succ]
                          refine takeL 10 (v := ?_) rfl (by kernel_rfl) (by kernel_rfl) (by kernel_rfl) (fun _ _ _ h => h) (Or.inl ⟨by rfl, ?_⟩) (by assumption) ?_
                          rotate_left
                          focus (intro wq hSq; obtain ⟨f0, f1, f2, f3, f4, f5⟩ := HF.out wq hSq; go_simp <;> with_reducible rfl)
                          simp only [Act.put, List.setIfInBounds_toArray, List.set_cons_zero, List.set_cons_succ]
                          refine takeL 11 (v := ?_) rfl (by kernel_rfl) (by kernel_rfl) (by kernel_rfl) (fun _ _ _ h => h) (Or.inl ⟨by rfl, ?_⟩) (by assumption) ?_
                          rotate_left
                          focus (intro wq hSq; obtain ⟨f0, f1, f2, f3, f4, f5⟩ := HF.out wq hSq; go_simp <;> with_reducible rfl)
                          simp only [Act.put, List.setIfInBounds_toArray, List.set_cons_zero, List.set_cons_succ]
                          refine takeL 12 (v := ?_) rfl (by kernel_rfl) (by kernel_rfl) (by kernel_rfl) (fun _ _ _ h => h) (Or.inl ⟨by rfl, ?_⟩) (by assumption) ?_
                          rotate_left
                          focus (intro wq hSq; obtain ⟨f0, f1, f2, f3, f4, f5⟩ := HF.out wq hSq; go_simp <;> with_reducible rfl)
                          simp only [Act.put, List.setIfInBounds_toArray, List.set_cons_zero, List.set_cons_succ]
                          refine takeL 13 (v := ?_) rfl (by kernel_rfl) (by kernel_rfl) (by kernel_rfl) (fun _ _ _ h => h) (Or.inl ⟨by rfl, ?_⟩) (by assumption) ?_
                          rotate_left
                          focus (intro wq hSq; obtain ⟨f0, f1, f2, f3, f4, f5⟩ := HF.out wq hSq; go_simp <;> with_reducible rfl)
                          simp only [Act.put, List.setIfInBounds_toArray, List.set_cons_zero, List.set_cons_succ]
                          refine takeL 14 (v := ?_) rfl (by kernel_rfl) (by kernel_rfl) (by kernel_rfl) (fun _ _ _ h => h) (Or.inl ⟨by rfl, ?_⟩) (by assumption) ?_
                          rotate_left
                          focus (intro wq hSq; obtain ⟨f0, f1, f2, f3, f4, f5⟩ := HF.out wq hSq; go_simp <;> with_reducible rfl)
                          simp only [Act.put, List.setIfInBounds_toArray, List.set_cons_zero, List.set_cons_succ]
                          refine takeL 15 (v := ?_) rfl (by kernel_rfl) (by kernel_rfl) (by kernel_rfl) (fun _ _ _ h => h) (Or.inl ⟨by rfl, ?_⟩) (by assumption) ?_
                          rotate_left
                          focus (intro wq hSq; obtain ⟨f0, f1, f2, f3, f4, f5⟩ := HF.out wq hSq; go_simp <;> with_reducible rfl)
                          simp only [Act.put, List.setIfInBounds_toArray, List.set_cons_zero, List.set_cons_succ]
                          refine takeL 16 (v := ?_) rfl (by kernel_rfl) (by kernel_rfl) (by kernel_rfl) (fun _ _ _ h => h) (Or.inl ⟨by rfl, ?_⟩) (by assumption) ?_
                          rotate_left
                          focus (intro wq hSq; obtain ⟨f0, f1, f2, f3, f4, f5⟩ := HF.out wq hSq; go_simp <;> with_reducible rfl)
                          simp only [Act.put, List.setIfInBounds_toArray, List.set_cons_zero, List.set_cons_succ]
                          refine takeL 17 (v := ?_) rfl (by kernel_rfl) (by kernel_rfl) (by kernel_rfl) (fun _ _ _ h => h) (Or.inl ⟨by rfl, ?_⟩) (by assumption) ?_
                          rotate_left
                          focus (intro wq hSq; obtain ⟨f0, f1, f2, f3, f4, f5⟩ := HF.out wq hSq; go_simp <;> with_reducible rfl)
                          simp only [Act.put, List.setIfInBounds_toArray, List.set_cons_zero, List.set_cons_succ]
                          refine takeL 18 (v := ?_) rfl (by kernel_rfl) (by kernel_rfl) (by kernel_rfl) (fun _ _ _ h => h) (Or.inl ⟨by rfl, ?_⟩) (by assumption) ?_
                          rotate_left
                          focus (intro wq hSq; obtain ⟨f0, f1, f2, f3, f4, f5⟩ := HF.out wq hSq; go_simp <;> with_reducible rfl)
                          simp only [Act.put, List.setIfInBounds_toArray, List.set_cons_zero, List.set_cons_succ]
                          refine takeL 19 (v := ?_) rfl (by kernel_rfl) (by kernel_rfl) (by kernel_rfl) (fun _ _ _ h => h) (Or.inl ⟨by rfl, ?_⟩) (by assumption) ?_
                          rotate_left
                          focus (intro wq hSq; obtain ⟨f0, f1, f2, f3, f4, f5⟩ := HF.out wq hSq; go_simp <;> with_reducible rfl)
                          simp only [Act.put, List.setIfInBounds_toArray, List.set_cons_zero, List.set_cons_succ]
                          refine takeL 20 (v := ?_) rfl (by kernel_rfl) (by kernel_rfl) (by kernel_rfl) (fun _ _ _ h => h) (Or.inl ⟨by rfl, ?_⟩) (by assumption) ?_
                          rotate_left
                          focus (intro wq hSq; obtain ⟨f0, f1, f2, f3, f4, f5⟩ := HF.out wq hSq; go_simp <;> with_reducible rfl)
                          simp only [Act.put, List.setIfInBounds_toArray, List.set_cons_zero, List.set_cons_succ]
                          refine takeL 21 (v := ?_) rfl (by kernel_rfl) (by kernel_rfl) (by kernel_rfl) (fun _ _ _ h => h) (Or.inl ⟨by rfl, ?_⟩) (by assumption) ?_
                          rotate_left
                          focus (intro wq hSq; obtain ⟨f0, f1, f2, f3, f4, f5⟩ := HF.out wq hSq; go_simp <;> with_reducible rfl)
                          simp only [Act.put, List.setIfInBounds_toArray, List.set_cons_zero, List.set_cons_succ]
                          refine takeL 22 (v := ?_) rfl (by kernel_rfl) (by kernel_rfl) (by kernel_rfl) (fun _ _ _ h => h) (Or.inl ⟨by rfl, ?_⟩) (by assumption) ?_
                          rotate_left
                          focus (intro wq hSq; obtain ⟨f0, f1, f2, f3, f4, f5⟩ := HF.out wq hSq; go_simp <;> with_reducible rfl)
                          simp only [Act.put, List.setIfInBounds_toArray, List.set_cons_zero, List.set_cons_succ]
                          refine takeL 23 (v := ?_) rfl (by kernel_rfl) (by kernel_rfl) (by kernel_rfl) (fun _ _ _ h => h) (Or.inl ⟨by rfl, ?_⟩) (by assumption) ?_
                          rotate_left
                          focus (intro wq hSq; obtain ⟨f0, f1, f2, f3, f4, f5⟩ := HF.out wq hSq; go_simp <;> with_reducible rfl)
                          simp only [Act.put, List.setIfInBounds_toArray, List.set_cons_zero, List.set_cons_succ]
                          refine takeL 24 (v := ?_) rfl (by kernel_rfl) (by kernel_rfl) (by kernel_rfl) (fun _ _ _ h => h) (Or.inl ⟨by rfl, ?_⟩) (by assumption) ?_
                          rotate_left
                          focus (intro wq hSq; obtain ⟨f0, f1, f2, f3, f4, f5⟩ := HF.out wq hSq; go_simp <;> with_reducible rfl)
                          simp only [Act.put, List.setIfInBounds_toArray, List.set_cons_zero, List.set_cons_succ]
                          refine takeL 25 (v := ?_) rfl (by kernel_rfl) (by kernel_rfl) (by kernel_rfl) (fun _ _ _ h => h) (Or.inl ⟨by rfl, ?_⟩) (by assumption) ?_
                          rotate_left
                          focus (intro wq hSq; obtain ⟨f0, f1, f2, f3, f4, f5⟩ := HF.out wq hSq; go_simp <;> with_reducible rfl)
                          simp only [Act.put, List.setIfInBounds_toArray, List.set_cons_zero, List.set_cons_succ]
                          refine takeL 26 (v := ?_) rfl (by kernel_rfl) (by kernel_rfl) (by kernel_rfl) (fun _ _ _ h => h) (Or.inl ⟨by rfl, ?_⟩) (by assumption) ?_
                          rotate_left
                          focus (intro wq hSq; obtain ⟨f0, f1, f2, f3, f4, f5⟩ := HF.out wq hSq; go_simp <;> with_reducible rfl)
                          simp only [Act.put, List.setIfInBounds_toArray, List.set_cons_zero, List.set_cons_succ]
                          refine takeL 27 (v := ?_) rfl (by kernel_rfl) (by kernel_rfl) (by kernel_rfl) (fun _ _ _ h => h) (Or.inl ⟨by rfl, ?_⟩) (by assumption) ?_
                          rotate_left
                          focus (intro wq hSq; obtain ⟨f0, f1, f2, f3, f4, f5⟩ := HF.out wq hSq; go_simp <;> with_reducible rfl)
                          simp only [Act.put, List.setIfInBounds_toArray, List.set_cons_zero, List.set_cons_succ]
                          refine takeL 28 (v := ?_) rfl (by kernel_rfl) (by kernel_rfl) (by kernel_rfl) (fun _ _ _ h => h) (Or.inl ⟨by rfl, ?_⟩) (by assumption) ?_
                          rotate_left
                          focus (intro wq hSq; obtain ⟨f0, f1, f2, f3, f4, f5⟩ := HF.out wq hSq; go_simp <;> with_reducible rfl)
                          simp only [Act.put, List.setIfInBounds_toArray, List.set_cons_zero, List.set_cons_succ]
                          refine takeL 29 (v := ?_) rfl (by kernel_rfl) (by kernel_rfl) (by kernel_rfl) (fun _ _ _ h => h) (Or.inl ⟨by rfl, ?_⟩) (by assumption) ?_
                          rotate_left
                          focus (intro wq hSq; obtain ⟨f0, f1, f2, f3, f4, f5⟩ := HF.out wq hSq; go_simp <;> with_reducible rfl)
                          simp only [Act.put, List.setIfInBounds_toArray, List.set_cons_zero, List.set_cons_succ]
                          refine wpAnyH_done (by kernel_rfl) ?_ _
                          go_wp2_with fail
                          go_meet
                          case rel => exact ⟨⟨_, rfl, fun _ h => e3 (by injection h with _ h; injection h)⟩, hd⟩
                      · have g2 : (xv == q.vl) = false := by simp [e2]
                        have g2' : (xv != q.vl) = true := by simp [e2]
                        refine wp_region_held_drew (S := fun W' => Below W7.heap.size W7 W') (by kernel_rfl) hd (fun hHeld => ?_)
                        refine takeL 0 (v := ?_) rfl (by kernel_rfl) (by kernel_rfl) (by kernel_rfl) (fun _ _ _ h => h) (Or.inl ⟨by rfl, ?_⟩) (by assumption) ?_
                        rotate_left
                        focus (intro wq hSq; obtain ⟨f0, f1, f2, f3, f4, f5⟩ := HF.out wq hSq; go_simp <;> with_reducible rfl)
                        simp only [Act.put, List.setIfInBounds_toArray, List.set_cons_zero, List.set_cons_succ]
                        refine takeL 1 (v := ?_) rfl (by kernel_rfl) (by kernel_rfl) (by kernel_rfl) (fun _ _ _ h => h) (Or.inl ⟨by rfl, ?_⟩) (by assumption) ?_
                        rotate_left
                        focus (intro wq hSq; obtain ⟨f0, f1, f2, f3, f4, f5⟩ := HF.out wq hSq; go_simp <;> with_reducible rfl)
                        simp only [Act.put, List.setIfInBounds_toArray, List.set_cons_zero, List.set_cons_succ]
                        refine takeL 2 (v := ?_) rfl (by kernel_rfl) (by kernel_rfl) (by kernel_rfl) (fun _ _ _ h => h) (Or.inl ⟨by rfl, ?_⟩) (by assumption) ?_
                        rotate_left
                        focus (intro wq hSq; obtain ⟨f0, f1, f2, f3, f4, f5⟩ := HF.out wq hSq; go_simp <;> with_reducible rfl)
                        simp only [Act.put, List.setIfInBounds_toArray, List.set_cons_zero, List.set_cons_succ]
                        refine takeL 3 (v := ?_) rfl (by kernel_rfl) (by kernel_rfl) (by kernel_rfl) (fun _ _ _ h => h) (Or.inl ⟨by rfl, ?_⟩) (by assumption) ?_
                        rotate_left
                        focus (intro wq hSq; obtain ⟨f0, f1, f2, f3, f4, f5⟩ := HF.out wq hSq; go_simp <;> with_reducible rfl)
                        simp only [Act.put, List.setIfInBounds_toArray, List.set_cons_zero, List.set_cons_succ]
                        refine takeL 4 (v := ?_) rfl (by kernel_rfl) (by kernel_rfl) (by kernel_rfl) (fun _ _ _ h => h) (Or.inl ⟨by rfl, ?_⟩) (by assumption) ?_
                        rotate_left
                        focus (intro wq hSq; obtain ⟨f0, f1, f2, f3, f4, f5⟩ := HF.out wq hSq; go_simp <;> with_reducible rfl)
                        simp only [Act.put, List.setIfInBounds_toArray, List.set_cons_zero, List.set_cons_succ]
                        refine takeL 5 (v := ?_) rfl (by kernel_rfl) (by kernel_rfl) (by kernel_rfl) (fun _ _ _ h => h) (Or.inl ⟨by rfl, ?_⟩) (by assumption) ?_
                        rotate_left
                        focus (intro wq hSq; obtain ⟨f0, f1, f2, f3, f4, f5⟩ := HF.out wq hSq; go_simp <;> with_reducible rfl)
                        simp only [Act.put, List.setIfInBounds_toArray, List.set_cons_zero, List.set_cons_succ]
                        refine takeL 6 (v := ?_) rfl (by kernel_rfl) (by kernel_rfl) (by kernel_rfl) (fun _ _ _ h => h) (Or.inl ⟨by rfl, ?_⟩) (by assumption) ?_
                        rotate_left
                        focus (intro wq hSq; obtain ⟨f0, f1, f2, f3, f4, f5⟩ := HF.out wq hSq; go_simp <;> with_reducible rfl)
                        simp only [Act.put, List.setIfInBounds_toArray, List.set_cons_zero, List.set_cons_succ]
                        refine takeL 7 (v := ?_) rfl (by kernel_rfl) (by kernel_rfl) (by kernel_rfl) (fun _ _ _ h => h) (Or.inl ⟨by rfl, ?_⟩) (by assumption) ?_
                        rotate_left
                        focus (intro wq hSq; obtain ⟨f0, f1, f2, f3, f4, f5⟩ := HF.out wq hSq; go_simp <;> with_reducible rfl)
                        simp only [Act.put, List.setIfInBounds_toArray, List.set_cons_zero, List.set_cons_succ]
                        refine takeL 8 (v := ?_) rfl (by kernel_rfl) (by kernel_rfl) (by kernel_rfl) (fun _ _ _ h => h) (Or.inl ⟨by rfl, ?_⟩) (by assumption) ?_
                        rotate_left
                        focus (intro wq hSq; obtain ⟨f0, f1, f2, f3, f4, f5⟩ := HF.out wq hSq; go_simp <;> with_reducible rfl)
                        simp only [Act.put, List.setIfInBounds_toArray, List.set_cons_zero, List.set_cons_succ]
                        refine takeL 9 (v := ?_) rfl (by kernel_rfl) (by kernel_rfl) (by kernel_rfl) (fun _ _ _ h => h) (Or.inl ⟨by rfl, ?_⟩) (by assumption) ?_
                        rotate_left
                        focus (intro wq hSq; obtain ⟨f0, f1, f2, f3, f4, f5⟩ := HF.out wq hSq; go_simp <;> with_reducible rfl)
                        simp only [Act.put, List.setIfInBounds_toArray, List.set_cons_zero, List.set_cons_succ]
                        refine takeL 10 (v := ?_) rfl (by kernel_rfl) (by kernel_rfl) (by kernel_rfl) (fun _ _ _ h => h) (Or.inl ⟨by rfl, ?_⟩) (by assumption) ?_
                        rotate_left
                        focus (intro wq hSq; obtain ⟨f0, f1, f2, f3, f4, f5⟩ := HF.out wq hSq; go_simp <;> with_reducible rfl)
                        simp only [Act.put, List.setIfInBounds_toArray, List.set_cons_zero, List.set_cons_succ]
                        refine takeL 11 (v := ?_) rfl (by kernel_rfl) (by kernel_rfl) (by kernel_rfl) (fun _ _ _ h => h) (Or.inl ⟨by rfl, ?_⟩) (by assumption) ?_
                        rotate_left
                        focus (intro wq hSq; obtain ⟨f0, f1, f2, f3, f4, f5⟩ := HF.out wq hSq; go_simp <;> with_reducible rfl)
                        simp only [Act.put, List.setIfInBounds_toArray, List.set_cons_zero, List.set_cons_succ]
                        refine takeL 12 (v := ?_) rfl (by kernel_rfl) (by kernel_rfl) (by kernel_rfl) (fun _ _ _ h => h) (Or.inl ⟨by rfl, ?_⟩) (by assumption) ?_
                        rotate_left
                        focus (intro wq hSq; obtain ⟨f0, f1, f2, f3, f4, f5⟩ := HF.out wq hSq; go_simp <;> with_reducible rfl)
                        simp only [Act.put, List.setIfInBounds_toArray, List.set_cons_zero, List.set_cons_succ]
                        refine takeL 13 (v := ?_) rfl (by kernel_rfl) (by kernel_rfl) (by kernel_rfl) (fun _ _ _ h => h) (Or.inl ⟨by rfl, ?_⟩) (by assumption) ?_
                        rotate_left
                        focus (intro wq hSq; obtain ⟨f0, f1, f2, f3, f4, f5⟩ := HF.out wq hSq; go_simp <;> with_reducible rfl)
                        simp only [Act.put, List.setIfInBounds_toArray, List.set_cons_zero, List.set_cons_succ]
                        refine takeL 14 (v := ?_) rfl (by kernel_rfl) (by kernel_rfl) (by kernel_rfl) (fun _ _ _ h => h) (Or.inl ⟨by rfl, ?_⟩) (by assumption) ?_
                        rotate_left
                        focus (intro wq hSq; obtain ⟨f0, f1, f2, f3, f4, f5⟩ := HF.out wq hSq; go_simp <;> with_reducible rfl)
                        simp only [Act.put, List.setIfInBounds_toArray, List.set_cons_zero, List.set_cons_succ]
                        refine takeL 15 (v := ?_) rfl (by kernel_rfl) (by kernel_rfl) (by kernel_rfl) (fun _ _ _ h => h) (Or.inl ⟨by rfl, ?_⟩) (by assumption) ?_
                        rotate_left
                        focus (intro wq hSq; obtain ⟨f0, f1, f2, f3, f4, f5⟩ := HF.out wq hSq; go_simp <;> with_reducible rfl)
                        simp only [Act.put, List.setIfInBounds_toArray, List.set_cons_zero, List.set_cons_succ]
                        refine takeL 16 (v := ?_) rfl (by kernel_rfl) (by kernel_rfl) (by kernel_rfl) (fun _ _ _ h => h) (Or.inl ⟨by rfl, ?_⟩) (by assumption) ?_
                        rotate_left
                        focus (intro wq hSq; obtain ⟨f0, f1, f2, f3, f4, f5⟩ := HF.out wq hSq; go_simp <;> with_reducible rfl)
                        simp only [Act.put, List.setIfInBounds_toArray, List.set_cons_zero, List.set_cons_succ]
                        refine takeL 17 (v := ?_) rfl (by kernel_rfl) (by kernel_rfl) (by kernel_rfl) (fun _ _ _ h => h) (Or.inl ⟨by rfl, ?_⟩) (by assumption) ?_
                        rotate_left
                        focus (intro wq hSq; obtain ⟨f0, f1, f2, f3, f4, f5⟩ := HF.out wq hSq; go_simp <;> with_reducible rfl)
                        simp only [Act.put, List.setIfInBounds_toArray, List.set_cons_zero, List.set_cons_succ]
                        refine takeL 18 (v := ?_) rfl (by kernel_rfl) (by kernel_rfl) (by kernel_rfl) (fun _ _ _ h => h) (Or.inl ⟨by rfl, ?_⟩) (by assumption) ?_
                        rotate_left
                        focus (intro wq hSq; obtain ⟨f0, f1, f2, f3, f4, f5⟩ := HF.out wq hSq; go_simp <;> with_reducible rfl)
                        simp only [Act.put, List.setIfInBounds_toArray, List.set_cons_zero, List.set_cons_succ]
                        refine takeL 19 (v := undef) rfl (by kernel_rfl) (by kernel_rfl) (by kernel_rfl) (fun _ _ _ h => h) (Or.inr ⟨by rfl, rfl⟩) (by assumption) ?_
                        simp only [Act.put, List.setIfInBounds_toArray, List.set_cons_zero, List.set_cons_succ]
                        refine takeL 20 (v := undef) rfl (by kernel_rfl) (by kernel_rfl) (by kernel_rfl) (fun _ _ _ h => h) (Or.inr ⟨by rfl, rfl⟩) (by assumption) ?_
                        simp only [Act.put, List.setIfInBounds_toArray, List.set_cons_zero, List.set_cons_succ]
                        refine takeL 21 (v := undef) rfl (by kernel_rfl) (by kernel_rfl) (by kernel_rfl) (fun _ _ _ h => h) (Or.inr ⟨by rfl, rfl⟩) (by assumption) ?_
                        simp only [Act.put, List.setIfInBounds_toArray, List.set_cons_zero, List.set_cons_succ]
                        refine takeL 22 (v := undef) rfl (by kernel_rfl) (by kernel_rfl) (by kernel_rfl) (fun _ _ _ h => h) (Or.inr ⟨by rfl, rfl⟩) (by assumption) ?_
                        simp only [Act.put, List.setIfInBounds_toArray, List.set_cons_zero, List.set_cons_succ]
                        refine takeL 23 (v := undef) rfl (by kernel_rfl) (by kernel_rfl) (by kernel_rfl) (fun _ _ _ h => h) (Or.inr ⟨by rfl, rfl⟩) (by assumption) ?_
                        simp only [Act.put, List.setIfInBounds_toArray, List.set_cons_zero, List.set_cons_succ]
                        refine takeL 24 (v := undef) rfl (by kernel_rfl) (by kernel_rfl) (by kernel_rfl) (fun _ _ _ h => h) (Or.inr ⟨by rfl, rfl⟩) (by assumption) ?_
                        simp only [Act.put, List.setIfInBounds_toArray, List.set_cons_zero, List.set_cons_succ]
                        refine takeL 25 (v := undef) rfl (by kernel_rfl) (by kernel_rfl) (by kernel_rfl) (fun _ _ _ h => h) (Or.inr ⟨by rfl, rfl⟩) (by assumption) ?_
                        simp only [Act.put, List.setIfInBounds_toArray, List.set_cons_zero, List.set_cons_succ]
                        refine takeL 26 (v := undef) rfl (by kernel_rfl) (by kernel_rfl) (by kernel_rfl) (fun _ _ _ h => h) (Or.inr ⟨by rfl, rfl⟩) (by assumption) ?_
                        simp only [Act.put, List.setIfInBounds_toArray, List.set_cons_zero, List.set_cons_succ]
                        refine takeL 27 (v := undef) rfl (by kernel_rfl) (by kernel_rfl) (by kernel_rfl) (fun _ _ _ h => h) (Or.inr ⟨by rfl, rfl⟩) (by assumption) ?_
                        simp only [Act.put, List.setIfInBounds_toArray, List.set_cons_zero, List.set_cons_succ]
                        refine takeL 28 (v := ?_) rfl (by kernel_rfl) (by kernel_rfl) (by kernel_rfl) (fun _ _ _ h => h) (Or.inl ⟨by rfl, ?_⟩) (by assumption) ?_
                        rotate_left
                        focus (intro wq hSq; obtain ⟨f0, f1, f2, f3, f4, f5⟩ := HF.out wq hSq; go_simp <;> with_reducible rfl)
                        simp only [Act.put, List.setIfInBounds_toArray, List.set_cons_zero, List.set_cons_succ]
                        refine takeL 29 (v := ?_) rfl (by kernel_rfl) (by kernel_rfl) (by kernel_rfl) (fun _ _ _ h => h) (Or.inl ⟨by rfl, ?_⟩) (by assumption) ?_
                        rotate_left
                        focus (intro wq hSq; obtain ⟨f0, f1, f2, f3, f4, f5⟩ := HF.out wq hSq; go_simp <;> with_reducible rfl)
                        simp only [Act.put, List.setIfInBounds_toArray, List.set_cons_zero, List.set_cons_succ]
                        refine wpAnyH_done (by kernel_rfl) ?_ _
                        go_wp2_with fail
                        go_meet
                        case rel => exact ⟨⟨_, rfl, fun _ h => e2 (by injection h)⟩, hd⟩
                    · have g1 : (xp == q.pt) = false := by simp [e1]
                      have g1' : (xp != q.pt) = true := by simp [e1]
                      refine wp_region_held_drew (S := fun W' => Below W7.heap.size W7 W') (by kernel_rfl) hd (fun hHeld => ?_)
                      refine takeL 0 (v := ?_) rfl (by kernel_rfl) (by kernel_rfl) (by kernel_rfl) (fun _ _ _ h => h) (Or.inl ⟨by rfl, ?_⟩) (by assumption) ?_
                      rotate_left
                      focus (intro wq hSq; obtain ⟨f0, f1, f2, f3, f4, f5⟩ := HF.out wq hSq; go_simp <;> with_reducible rfl)
                      simp only [Act.put, List.setIfInBounds_toArray, List.set_cons_zero, List.set_cons_succ]
                      refine takeL 1 (v := ?_) rfl (by kernel_rfl) (by kernel_rfl) (by kernel_rfl) (fun _ _ _ h => h) (Or.inl ⟨by rfl, ?_⟩) (by assumption) ?_
                      rotate_left
                      focus (intro wq hSq; obtain ⟨f0, f1, f2, f3, f4, f5⟩ := HF.out wq hSq; go_simp <;> with_reducible rfl)
                      simp only [Act.put, List.setIfInBounds_toArray, List.set_cons_zero, List.set_cons_succ]
                      refine takeL 2 (v := ?_) rfl (by kernel_rfl) (by kernel_rfl) (by kernel_rfl) (fun _ _ _ h => h) (Or.inl ⟨by rfl, ?_⟩) (by assumption) ?_
                      rotate_left
                      focus (intro wq hSq; obtain ⟨f0, f1, f2, f3, f4, f5⟩ := HF.out wq hSq; go_simp <;> with_reducible rfl)
                      simp only [Act.put, List.setIfInBounds_toArray, List.set_cons_zero, List.set_cons_succ]
                      refine takeL 3 (v := ?_) rfl (by kernel_rfl) (by kernel_rfl) (by kernel_rfl) (fun _ _ _ h => h) (Or.inl ⟨by rfl, ?_⟩) (by assumption) ?_
                      rotate_left
                      focus (intro wq hSq; obtain ⟨f0, f1, f2, f3, f4, f5⟩ := HF.out wq hSq; go_simp <;> with_reducible rfl)
                      simp only [Act.put, List.setIfInBounds_toArray, List.set_cons_zero, List.set_cons_succ]
                      refine takeL 4 (v := ?_) rfl (by kernel_rfl) (by kernel_rfl) (by kernel_rfl) (fun _ _ _ h => h) (Or.inl ⟨by rfl, ?_⟩) (by assumption) ?_
                      rotate_left
                      focus (intro wq hSq; obtain ⟨f0, f1, f2, f3, f4, f5⟩ := HF.out wq hSq; go_simp <;> with_reducible rfl)
                      simp only [Act.put, List.setIfInBounds_toArray, List.set_cons_zero, List.set_cons_succ]
                      refine takeL 5 (v := ?_) rfl (by kernel_rfl) (by kernel_rfl) (by kernel_rfl) (fun _ _ _ h => h) (Or.inl ⟨by rfl, ?_⟩) (by assumption) ?_
                      rotate_left
                      focus (intro wq hSq; obtain ⟨f0, f1, f2, f3, f4, f5⟩ := HF.out wq hSq; go_simp <;> with_reducible rfl)
                      simp only [Act.put, List.setIfInBounds_toArray, List.set_cons_zero, List.set_cons_succ]
                      refine takeL 6 (v := ?_) rfl (by kernel_rfl) (by kernel_rfl) (by kernel_rfl) (fun _ _ _ h => h) (Or.inl ⟨by rfl, ?_⟩) (by assumption) ?_
                      rotate_left
                      focus (intro wq hSq; obtain ⟨f0, f1, f2, f3, f4, f5⟩ := HF.out wq hSq; go_simp <;> with_reducible rfl)
                      simp only [Act.put, List.setIfInBounds_toArray, List.set_cons_zero, List.set_cons_succ]
                      refine takeL 7 (v := ?_) rfl (by kernel_rfl) (by kernel_rfl) (by kernel_rfl) (fun _ _ _ h => h) (Or.inl ⟨by rfl, ?_⟩) (by assumption) ?_
                      rotate_left
                      focus (intro wq hSq; obtain ⟨f0, f1, f2, f3, f4, f5⟩ := HF.out wq hSq; go_simp <;> with_reducible rfl)
                      simp only [Act.put, List.setIfInBounds_toArray, List.set_cons_zero, List.set_cons_succ]
                      refine takeL 8 (v := ?_) rfl (by kernel_rfl) (by kernel_rfl) (by kernel_rfl) (fun _ _ _ h => h) (Or.inl ⟨by rfl, ?_⟩) (by assumption) ?_
                      rotate_left
                      focus (intro wq hSq; obtain ⟨f0, f1, f2, f3, f4, f5⟩ := HF.out wq hSq; go_simp <;> with_reducible rfl)
                      simp only [Act.put, List.setIfInBounds_toArray, List.set_cons_zero, List.set_cons_succ]
                      refine takeL 9 (v := undef) rfl (by kernel_rfl) (by kernel_rfl) (by kernel_rfl) (fun _ _ _ h => h) (Or.inr ⟨by rfl, rfl⟩) (by assumption) ?_
                      simp only [Act.put, List.setIfInBounds_toArray, List.set_cons_zero, List.set_cons_succ]
                      refine takeL 10 (v := undef) rfl (by kernel_rfl) (by kernel_rfl) (by kernel_rfl) (fun _ _ _ h => h) (Or.inr ⟨by rfl, rfl⟩) (by assumption) ?_
                      simp only [Act.put, List.setIfInBounds_toArray, List.set_cons_zero, List.set_cons_succ]
                      refine takeL 11 (v := undef) rfl (by kernel_rfl) (by kernel_rfl) (by kernel_rfl) (fun _ _ _ h => h) (Or.inr ⟨by rfl, rfl⟩) (by assumption) ?_
                      simp only [Act.put, List.setIfInBounds_toArray, List.set_cons_zero, List.set_cons_succ]
                      refine takeL 12 (v := undef) rfl (by kernel_rfl) (by kernel_rfl) (by kernel_rfl) (fun _ _ _ h => h) (Or.inr ⟨by rfl, rfl⟩) (by assumption) ?_
                      simp only [Act.put, List.setIfInBounds_toArray, List.set_cons_zero, List.set_cons_succ]
                      refine takeL 13 (v := undef) rfl (by kernel_rfl) (by kernel_rfl) (by kernel_rfl) (fun _ _ _ h => h) (Or.inr ⟨by rfl, rfl⟩) (by assumption) ?_
                      simp only [Act.put, List.setIfInBounds_toArray, List.set_cons_zero, List.set_cons_succ]
                      refine takeL 14 (v := undef) rfl (by kernel_rfl) (by kernel_rfl) (by kernel_rfl) (fun _ _ _ h => h) (Or.inr ⟨by rfl, rfl⟩) (by assumption) ?_
                      simp only [Act.put, List.setIfInBounds_toArray, List.set_cons_zero, List.set_cons_succ]
                      refine takeL 15 (v := undef) rfl (by kernel_rfl) (by kernel_rfl) (by kernel_rfl) (fun _ _ _ h => h) (Or.inr ⟨by rfl, rfl⟩) (by assumption) ?_
                      simp only [Act.put, List.setIfInBounds_toArray, List.set_cons_zero, List.set_cons_succ]
                      refine takeL 16 (v := undef) rfl (by kernel_rfl) (by kernel_rfl) (by kernel_rfl) (fun _ _ _ h => h) (Or.inr ⟨by rfl, rfl⟩) (by assumption) ?_
                      simp only [Act.put, List.setIfInBounds_toArray, List.set_cons_zero, List.set_cons_succ]
                      refine takeL 17 (v := ?_) rfl (by kernel_rfl) (by kernel_rfl) (by kernel_rfl) (fun _ _ _ h => h) (Or.inl ⟨by rfl, ?_⟩) (by assumption) ?_
                      rotate_left
                      focus (intro wq hSq; obtain ⟨f0, f1, f2, f3, f4, f5⟩ := HF.out wq hSq; go_simp <;> with_reducible rfl)
                      simp only [Act.put, List.setIfInBounds_toArray, List.set_cons_zero, List.set_cons_succ]
                      refine takeL 18 (v := ?_) rfl (by kernel_rfl) (by kernel_rfl) (by kernel_rfl) (fun _ _ _ h => h) (Or.inl ⟨by rfl, ?_⟩) (by assumption) ?_
                      rotate_left
                      focus (intro wq hSq; obtain ⟨f0, f1, f2, f3, f4, f5⟩ := HF.out wq hSq; go_simp <;> with_reducible rfl)
                      simp only [Act.put, List.setIfInBounds_toArray, List.set_cons_zero, List.set_cons_succ]
                      refine takeL 19 (v := undef) rfl (by kernel_rfl) (by kernel_rfl) (by kernel_rfl) (fun _ _ _ h => h) (Or.inr ⟨by rfl, rfl⟩) (by assumption) ?_
                      simp only [Act.put, List.setIfInBounds_toArray, List.set_cons_zero, List.set_cons_succ]
                      refine takeL 20 (v := undef) rfl (by kernel_rfl) (by kernel_rfl) (by kernel_rfl) (fun _ _ _ h => h) (Or.inr ⟨by rfl, rfl⟩) (by assumption) ?_
                      simp only [Act.put, List.setIfInBounds_toArray, List.set_cons_zero, List.set_cons_succ]
                      refine takeL 21 (v := undef) rfl (by kernel_rfl) (by kernel_rfl) (by kernel_rfl) (fun _ _ _ h => h) (Or.inr ⟨by rfl, rfl⟩) (by assumption) ?_
                      simp only [Act.put, List.setIfInBounds_toArray, List.set_cons_zero, List.set_cons_succ]
                      refine takeL 22 (v := undef) rfl (by kernel_rfl) (by kernel_rfl) (by kernel_rfl) (fun _ _ _ h => h) (Or.inr ⟨by rfl, rfl⟩) (by assumption) ?_
                      simp only [Act.put, List.setIfInBounds_toArray, List.set_cons_zero, List.set_cons_succ]
                      refine takeL 23 (v := undef) rfl (by kernel_rfl) (by kernel_rfl) (by kernel_rfl) (fun _ _ _ h => h) (Or.inr ⟨by rfl, rfl⟩) (by assumption) ?_
                      simp only [Act.put, List.setIfInBounds_toArray, List.set_cons_zero, List.set_cons_succ]
                      refine takeL 24 (v := undef) rfl (by kernel_rfl) (by kernel_rfl) (by kernel_rfl) (fun _ _ _ h => h) (Or.inr ⟨by rfl, rfl⟩) (by assumption) ?_
                      simp only [Act.put, List.setIfInBounds_toArray, List.set_cons_zero, List.set_cons_succ]
                      refine takeL 25 (v := undef) rfl (by kernel_rfl) (by kernel_rfl) (by kernel_rfl) (fun _ _ _ h => h) (Or.inr ⟨by rfl, rfl⟩) (by assumption) ?_
                      simp only [Act.put, List.setIfInBounds_toArray, List.set_cons_zero, List.set_cons_succ]
                      refine takeL 26 (v := undef) rfl (by kernel_rfl) (by kernel_rfl) (by kernel_rfl) (fun _ _ _ h => h) (Or.inr ⟨by rfl, rfl⟩) (by assumption) ?_
                      simp only [Act.put, List.setIfInBounds_toArray, List.set_cons_zero, List.set_cons_succ]
                      refine takeL 27 (v := undef) rfl (by kernel_rfl) (by kernel_rfl) (by kernel_rfl) (fun _ _ _ h => h) (Or.inr ⟨by rfl, rfl⟩) (by assumption) ?_
                      simp only [Act.put, List.setIfInBounds_toArray, List.set_cons_zero, List.set_cons_succ]
                      refine takeL 28 (v := ?_) rfl (by kernel_rfl) (by kernel_rfl) (by kernel_rfl) (fun _ _ _ h => h) (Or.inl ⟨by rfl, ?_⟩) (by assumption) ?_
                      rotate_left
                      focus (intro wq hSq; obtain ⟨f0, f1, f2, f3, f4, f5⟩ := HF.out wq hSq; go_simp <;> with_reducible rfl)
                      simp only [Act.put, List.setIfInBounds_toArray, List.set_cons_zero, List.set_cons_succ]
                      refine takeL 29 (v := ?_) rfl (by kernel_rfl) (by kernel_rfl) (by kernel_rfl) (fun _ _ _ h => h) (Or.inl ⟨by rfl, ?_⟩) (by assumption) ?_
                      rotate_left
                      focus (intro wq hSq; obtain ⟨f0, f1, f2, f3, f4, f5⟩ := HF.out wq hSq; go_simp <;> with_reducible rfl)
                      simp only [Act.put, List.setIfInBounds_toArray, List.set_cons_zero, List.set_cons_succ]
                      refine wpAnyH_done (by kernel_rfl) ?_ _
                      go_wp2_with fail
                      go_meet
                      case rel => exact ⟨⟨_, rfl, fun _ h => e1 (by injection h with _ h; injection h)⟩, hd⟩
                  case rest =>
                  obtain ⟨⟨ot, rfl, hot⟩, hbc⟩ := hcut
                  have hdc : Below wc.heap.size wc wc.drew := Below.drew (Below.refl _ _)
                  have h7c := HR7.out.trans (hbc.mono HR7.out.size)
                  have H5c := Lib.hid (H5R.out.trans (h7c.mono H5R.out.size))
                  have HT8 := Lib.hid (HT7.out.mono hbc)
                  have HQ8 := Lib.hid (HTQ.out.mono h7c)
                  have HF := Lib.hid (show ∀ wq, Below wc.heap.size wc wq → wq.cell? ⟨w6.heap.size, 0, none⟩ = some (.bool sa) ∧ wq.cell? ⟨w6.heap.size, 1, none⟩ = some (.int .i64 st) ∧ wq.cell? ⟨w6.heap.size, 2, none⟩ = some (.slice vo sl.length vc) ∧ wq.cell? ⟨bq, offq + j * 3, none⟩ = some (.bool qa) ∧ wq.cell? ⟨bq, offq + j * 3 + 1, none⟩ = some (.int .i64 qt) ∧ wq.cell? ⟨bq, offq + j * 3 + 2, none⟩ = some (.slice qo ql.length qc) from fun wq hb =>
                    have c := (HCL.out wq (h7c.trans (hb.mono h7c.size))).2
                    have x := (S7.out.below hbc S7.out.lt).below hb (S7.out.below hbc S7.out.lt).lt
                    ⟨(x.at_ 0 _ rfl).1, (x.at_ 1 _ rfl).1, (x.at_ 2 _ rfl).1, c.1, c.2.1, c.2.2⟩)
                  have hpq := HPQ.out
                  rw [HQK.out] at hpq
                  clear hd hbc h7c HCL S7 HW7 HT7 HR7 HX7 H5R HTQ HPQ
                  cases ot
                  · go_upto_region 25 with fail
                    refine wp_region_held_drew (S := fun W' => Below wc.heap.size wc W') (by kernel_rfl) hdc (fun hHeld => ?_)
                    refine takeL 0 (v := ?_) rfl (by kernel_rfl) (by kernel_rfl) (by kernel_rfl) (fun _ _ _ h => h) (Or.inl ⟨by rfl, ?_⟩) (by assumption) ?_
                    rotate_left
                    focus (intro wq hSq; obtain ⟨f0, f1, f2, f3, f4, f5⟩ := HF.out wq hSq; go_simp <;> with_reducible rfl)
                    simp only [Act.put, List.setIfInBounds_toArray, List.set_cons_zero, List.set_cons_succ]
                    refine takeL 1 (v := ?_) rfl (by kernel_rfl) (by kernel_rfl) (by kernel_rfl) (fun _ _ _ h => h) (Or.inl ⟨by rfl, ?_⟩) (by assumption) ?_
                    rotate_left
                    focus (intro wq hSq; obtain ⟨f0, f1, f2, f3, f4, f5⟩ := HF.out wq hSq; go_simp <;> with_reducible rfl)
                    simp only [Act.put, List.setIfInBounds_toArray, List.set_cons_zero, List.set_cons_succ]
                    refine takeL 2 (v := undef) rfl (by kernel_rfl) (by kernel_rfl) (by kernel_rfl) (fun _ _ _ h => h) (Or.inr ⟨by rfl, rfl⟩) (by assumption) ?_
                    simp only [Act.put, List.setIfInBounds_toArray, List.set_cons_zero, List.set_cons_succ]
                    refine takeL 3 (v := undef) rfl (by kernel_rfl) (by kernel_rfl) (by kernel_rfl) (fun _ _ _ h => h) (Or.inr ⟨by rfl, rfl⟩) (by assumption) ?_
                    simp only [Act.put, List.setIfInBounds_toArray, List.set_cons_zero, List.set_cons_succ]
                    refine takeL 4 (v := undef) rfl (by kernel_rfl) (by kernel_rfl) (by kernel_rfl) (fun _ _ _ h => h) (Or.inr ⟨by rfl, rfl⟩) (by assumption) ?_
                    simp only [Act.put, List.setIfInBounds_toArray, List.set_cons_zero, List.set_cons_succ]
                    refine takeL 5 (v := undef) rfl (by kernel_rfl) (by kernel_rfl) (by kernel_rfl) (fun _ _ _ h => h) (Or.inr ⟨by rfl, rfl⟩) (by assumption) ?_
                    simp only [Act.put, List.setIfInBounds_toArray, List.set_cons_zero, List.set_cons_succ]
                    refine takeL 6 (v := undef) rfl (by kernel_rfl) (by kernel_rfl) (by kernel_rfl) (fun _ _ _ h => h) (Or.inr ⟨by rfl, rfl⟩) (by assumption) ?_
                    simp only [Act.put, List.setIfInBounds_toArray, List.set_cons_zero, List.set_cons_succ]
                    refine takeL 7 (v := undef) rfl (by kernel_rfl) (by kernel_rfl) (by kernel_rfl) (fun _ _ _ h => h) (Or.inr ⟨by rfl, rfl⟩) (by assumption) ?_
                    simp only [Act.put, List.setIfInBounds_toArray, List.set_cons_zero, List.set_cons_succ]
                    refine takeL 8 (v := undef) rfl (by kernel_rfl) (by kernel_rfl) (by kernel_rfl) (fun _ _ _ h => h) (Or.inr ⟨by rfl, rfl⟩) (by assumption) ?_
                    simp only [Act.put, List.setIfInBounds_toArray, List.set_cons_zero, List.set_cons_succ]
                    refine takeL 9 (v := undef) rfl (by kernel_rfl) (by kernel_rfl) (by kernel_rfl) (fun _ _ _ h => h) (Or.inr ⟨by rfl, rfl⟩) (by assumption) ?_
                    simp only [Act.put, List.setIfInBounds_toArray, List.set_cons_zero, List.set_cons_succ]
                    refine takeL 10 (v := undef) rfl (by kernel_rfl) (by kernel_rfl) (by kernel_rfl) (fun _ _ _ h => h) (Or.inr ⟨by rfl, rfl⟩) (by assumption) ?_
                    simp only [Act.put, List.setIfInBounds_toArray, List.set_cons_zero, List.set_cons_succ]
                    refine takeL 11 (v := undef) rfl (by kernel_rfl) (by kernel_rfl) (by kernel_rfl) (fun _ _ _ h => h) (Or.inr ⟨by rfl, rfl⟩) (by assumption) ?_
                    simp only [Act.put, List.setIfInBounds_toArray, List.set_cons_zero, List.set_cons_succ]
                    refine takeL 12 (v := undef) rfl (by kernel_rfl) (by kernel_rfl) (by kernel_rfl) (fun _ _ _ h => h) (Or.inr ⟨by rfl, rfl⟩) (by assumption) ?_
                    simp only [Act.put, List.setIfInBounds_toArray, List.set_cons_zero, List.set_cons_succ]
                    refine takeL 13 (v := ?_) rfl (by kernel_rfl) (by kernel_rfl) (by kernel_rfl) (fun _ _ _ h => h) (Or.inl ⟨by rfl, ?_⟩) (by assumption) ?_
                    rotate_left
                    focus (intro wq hSq; obtain ⟨f0, f1, f2, f3, f4, f5⟩ := HF.out wq hSq; go_simp <;> with_reducible rfl)
                    simp only [Act.put, List.setIfInBounds_toArray, List.set_cons_zero, List.set_cons_succ]
                    refine wpAnyH_done (by kernel_rfl) ?_ _
                    go_wp2_with fail
                    go_roundw
                    case rel => exact ⟨j + 1, by omega, by go_num, H5c.out.trans (hdc.mono H5c.out.size)⟩
                    case measure => simp [intOf]; omega
                  · obtain ⟨rfl, he⟩ := HOT.out (hot rfl)
                    cases he
                    have HT9 : Tms wc (.slice vo ql.length vc) ql := HT8.out
                    have HY := Lib.hid (tsame_y qa qt (.slice vo ql.length vc) (.slice qo ql.length qc) ql wc.drew (HT9.mono hdc) (HQ8.out.mono hdc))
                    clear HT8 HQ8 HT9
                    go_upto_region 25 with fail
                    refine wp_region_held_drew (S := fun W' => Below wc.heap.size wc W') (by kernel_rfl) hdc (fun hHeld => ?_)
                    refine takeL 0 (v := ?_) rfl (by kernel_rfl) (by kernel_rfl) (by kernel_rfl) (fun _ _ _ h => h) (Or.inl ⟨by rfl, ?_⟩) (by assumption) ?_
                    rotate_left
                    focus (intro wq hSq; obtain ⟨f0, f1, f2, f3, f4, f5⟩ := HF.out wq hSq; go_simp <;> with_reducible rfl)
                    simp only [Act.put, List.setIfInBounds_toArray, List.set_cons_zero, List.set_cons_succ]
                    refine takeL 1 (v := ?_) rfl (by kernel_rfl) (by kernel_rfl) (by kernel_rfl) (fun _ _ _ h => h) (Or.inl ⟨by rfl, ?_⟩) (by assumption) ?_
                    rotate_left
                    focus (intro wq hSq; obtain ⟨f0, f1, f2, f3, f4, f5⟩ := HF.out wq hSq; go_simp <;> with_reducible rfl)
                    simp only [Act.put, List.setIfInBounds_toArray, List.set_cons_zero, List.set_cons_succ]
                    refine takeL 2 (v := ?_) rfl (by kernel_rfl) (by kernel_rfl) (by kernel_rfl) (fun _ _ _ h => h) (Or.inl ⟨by rfl, ?_⟩) (by assumption) ?_
                    rotate_left
                    focus (intro wq hSq; obtain ⟨f0, f1, f2, f3, f4, f5⟩ := HF.out wq hSq; go_simp <;> with_reducible rfl)
                    simp only [Act.put, List.setIfInBounds_toArray, List.set_cons_zero, List.set_cons_succ]
                    refine takeL 3 (v := ?_) rfl (by kernel_rfl) (by kernel_rfl) (by kernel_rfl) (fun _ _ _ h => h) (Or.inl ⟨by rfl, ?_⟩) (by assumption) ?_
                    rotate_left
                    focus (intro wq hSq; obtain ⟨f0, f1, f2, f3, f4, f5⟩ := HF.out wq hSq; go_simp <;> with_reducible rfl)
                    simp only [Act.put, List.setIfInBounds_toArray, List.set_cons_zero, List.set_cons_succ]
                    refine takeL 4 (v := ?_) rfl (by kernel_rfl) (by kernel_rfl) (by kernel_rfl) (fun _ _ _ h => h) (Or.inl ⟨by rfl, ?_⟩) (by assumption) ?_
                    rotate_left
                    focus (intro wq hSq; obtain ⟨f0, f1, f2, f3, f4, f5⟩ := HF.out wq hSq; go_simp <;> with_reducible rfl)
                    simp only [Act.put, List.setIfInBounds_toArray, List.set_cons_zero, List.set_cons_succ]
                    refine takeL 5 (v := ?_) rfl (by kernel_rfl) (by kernel_rfl) (by kernel_rfl) (fun _ _ _ h => h) (Or.inl ⟨by rfl, ?_⟩) (by assumption) ?_
                    rotate_left
                    focus (intro wq hSq; obtain ⟨f0, f1, f2, f3, f4, f5⟩ := HF.out wq hSq; go_simp <;> with_reducible rfl)
                    simp only [Act.put, List.setIfInBounds_toArray, List.set_cons_zero, List.set_cons_succ]
                    refine takeL 6 (v := ?_) rfl (by kernel_rfl) (by kernel_rfl) (by kernel_rfl) (fun _ _ _ h => h) (Or.inl ⟨by rfl, ?_⟩) (by assumption) ?_
                    rotate_left
                    focus (intro wq hSq; obtain ⟨f0, f1, f2, f3, f4, f5⟩ := HF.out wq hSq; go_simp <;> with_reducible rfl)
                    simp only [Act.put, List.setIfInBounds_toArray, List.set_cons_zero, List.set_cons_succ]
                    refine takeL 7 (v := ?_) rfl (by kernel_rfl) (by kernel_rfl) (by kernel_rfl) (fun _ _ _ h => h) (Or.inl ⟨by rfl, ?_⟩) (by assumption) ?_
                    rotate_left
                    focus (intro wq hSq; obtain ⟨f0, f1, f2, f3, f4, f5⟩ := HF.out wq hSq; go_simp <;> with_reducible rfl)
                    simp only [Act.put, List.setIfInBounds_toArray, List.set_cons_zero, List.set_cons_succ]
                    refine takeL 8 (v := ?_) rfl (by kernel_rfl) (by kernel_rfl) (by kernel_rfl) (fun _ _ _ h => h) (Or.inl ⟨by rfl, ?_⟩) (by assumption) ?_
                    rotate_left
                    focus (intro wq hSq; obtain ⟨f0, f1, f2, f3, f4, f5⟩ := HF.out wq hSq; go_simp <;> with_reducible rfl)
                    simp only [Act.put, List.setIfInBounds_toArray, List.set_cons_zero, List.set_cons_succ]
                    refine takeL 9 (v := ?_) rfl (by kernel_rfl) (by kernel_rfl) (by kernel_rfl) (fun _ _ _ h => h) (Or.inl ⟨by rfl, ?_⟩) (by assumption) ?_
                    rotate_left
                    focus (intro wq hSq; obtain ⟨f0, f1, f2, f3, f4, f5⟩ := HF.out wq hSq; go_simp <;> with_reducible rfl)
                    simp only [Act.put, List.setIfInBounds_toArray, List.set_cons_zero, List.set_cons_succ]
                    refine wpAnyH_ready (rs := [10]) (by kernel_rfl) (by simp) (nextL 10 rfl (fun Kr hKr => ?_) AllReadyH.nil)
                    rw [if_pos (by rfl)]
                    go_simp
                    refine HY.out.mono ?_
                    rintro e w9 ⟨rfl, hb9⟩
                    refine hKr.out _ _ (hdc.trans hb9) (fun hHeld2 => ?_)
                    clear hKr hHeld
                    refine takeL 11 (v := ?_) rfl (by kernel_rfl) (by kernel_rfl) (by kernel_rfl) (fun _ _ _ h => h) (Or.inl ⟨by rfl, ?_⟩) (by assumption) ?_
                    rotate_left
                    focus (intro wq hSq; obtain ⟨f0, f1, f2, f3, f4, f5⟩ := HF.out wq hSq; go_simp <;> with_reducible rfl)
                    simp only [Act.put, List.setIfInBounds_toArray, List.set_cons_zero, List.set_cons_succ]
                    refine takeL 12 (v := ?_) rfl (by kernel_rfl) (by kernel_rfl) (by kernel_rfl) (fun _ _ _ h => h) (Or.inl ⟨by rfl, ?_⟩) (by assumption) ?_
                    rotate_left
                    focus (intro wq hSq; obtain ⟨f0, f1, f2, f3, f4, f5⟩ := HF.out wq hSq; go_simp <;> with_reducible rfl)
                    simp only [Act.put, List.setIfInBounds_toArray, List.set_cons_zero, List.set_cons_succ]
                    refine takeL 13 (v := ?_) rfl (by kernel_rfl) (by kernel_rfl) (by kernel_rfl) (fun _ _ _ h => h) (Or.inl ⟨by rfl, ?_⟩) (by assumption) ?_
                    rotate_left
                    focus (intro wq hSq; obtain ⟨f0, f1, f2, f3, f4, f5⟩ := HF.out wq hSq; go_simp <;> with_reducible rfl)
                    simp only [Act.put, List.setIfInBounds_toArray, List.set_cons_zero, List.set_cons_succ]
                    refine wpAnyH_done (by kernel_rfl) ?_ _
                    go_wp2_with fail
                    go_roundw
                    case rel => exact ⟨j + 1, by omega, by go_num, H5c.out.trans (hHeld2.mono H5c.out.size)⟩
                    case measure => simp [intOf]; omega
                · have HKF := Lib.hid (keys_fn (some ⟨p, 0, none⟩) (k + 1) F' K' wr ⟨HI5.out.keys, .inr ⟨p, b, o, _, _, _, _, _, rfl, HT5.out.mono hb5r⟩⟩ (by omega))
                  have H5R := Lib.hid hb5r
                  have hkr : decide (room < (K'.length : Int)) = false := decide_eq_false (by have := HI5.out.few; omega)
                  obtain rfl : j = K.length := by omega
                  clear hb5r
                  go_wp2_with fail
                  refine HKF.out.mono ?_
                  rintro e w6 ⟨u6, rfl, hk6, _, hb6⟩
                  obtain ⟨ko, kc, rfl⟩ := hk6.shape
                  obtain ⟨_, _, hlen6, _, _⟩ := hk6.facts
                  have HEN := Lib.hid (show Scr w p b o room M L (k + 1) w6 from ⟨F', O', K', (HT5.out.mono H5R.out).mono hb6, HI5.out, (HB5.out.trans (H5R.out.mono HB5.out.size)).trans (hb6.mono (Nat.le_trans HB5.out.size H5R.out.size))⟩)
                  clear hk6 hb6 HKF
                  go_wp2_with fail
                  go_roundw
                  case rel => exact ⟨k + 1, by omega, by omega, by go_num, HEN.out⟩
                  case measure => simp [intOf]; omega
        · go_wp2_with fail
          refine (tlive_any _).mono ?_
          rintro e w4 ⟨rfl, hb⟩
          have HB := Lib.hid (HB3.out.trans (hb.mono HB3.out.size))
          clear hb
          go_wp2_with fail
          go_ret
          exact ⟨rfl, HB.out⟩
      · obtain rfl : k = 40 := by omega
        have HL := Lib.hid (tlive_any wr)
        obtain ⟨_, _, _, _, _, hbr⟩ := HSC.out
        have HBR := Lib.hid hbr
        clear hidx hc HSC hbr
        go_wp2_with ((with_reducible refine HL.out.mono ?_); rintro e w4 ⟨rfl, hb⟩; have HB := Lib.hid (HBR.out.trans (hb.mono HBR.out.size)); clear hb)
        go_ret
        exact ⟨rfl, HB.out⟩
    · have HL := Lib.hid (tlive_any wr)
      obtain ⟨_, _, _, _, _, hbr⟩ := HSC.out
      have HBR := Lib.hid hbr
      clear hidx hc HSC hbr
      go_wp2_with ((with_reducible refine HL.out.mono ?_); rintro e w4 ⟨rfl, hb⟩; have HB := Lib.hid (HBR.out.trans (hb.mono HBR.out.size)); clear hb)
      go_ret
      exact ⟨rfl, HB.out⟩
end Go.Proofs.Ytpibmjkbebkilaa
