/- Texts joined into one file: PRf, PRt, PAny. -/
import Derived.Test.YtfloipdkhmgibaaS24
import Derived.Test.YtfloipdkhmgibaaS22

/- The reference's Forget and All. -/
namespace Go.Proofs.Ytfloipdkhmgibaa
open Go.RowKit Go.Lib Go.Maps Go.Sort
set_option maxRecDepth 20000

def keepQ (v : Int) (Q : List QRow) : List QRow := Q.filter fun q => !(q.1.1.1 == v)
def vanQ (v : Int) (Q : List QRow) : List QRow := Q.filter fun q => q.1.1.1 == v
def RetRF (w : World) (p : Nat) (room v : Int) (Q : List QRow) (e : Ending) (w' : World) : Prop := e = .returned (.int .i64 (vanQ v Q).length) ∧ Kx w' p room (keepQ v Q) ∧ w.grownBy w' (some p)

theorem keepQ_step {v : Int} {Q : List QRow} {m : Nat} (hm : m < Q.length) : (Q[m].1.1.1 == v) = true →
    (Q.take (m + 1) ++ keepQ v (Q.drop (m + 1))).eraseIdx m = Q.take m ++ keepQ v (Q.drop m) ∧ (vanQ v (Q.drop m)).length = (vanQ v (Q.drop (m + 1))).length + 1 := by
  intro h
  have e : Q.drop m = Q[m] :: Q.drop (m + 1) := by rw [List.drop_eq_getElem_cons hm]
  refine ⟨?_, by rw [e, vanQ, List.filter_cons, if_pos h]; rfl⟩
  rw [e, keepQ, keepQ, List.filter_cons, if_neg (by simp [h]), take_snoc Q m hm, List.append_assoc, List.eraseIdx_append_of_length_le (by simp; omega)]
  have : m - (Q.take m).length = 0 := by simp; omega
  rw [this]
  rfl
theorem keepQ_skip {v : Int} {Q : List QRow} {m : Nat} (hm : m < Q.length) : (Q[m].1.1.1 == v) = false →
    Q.take (m + 1) ++ keepQ v (Q.drop (m + 1)) = Q.take m ++ keepQ v (Q.drop m) ∧ (vanQ v (Q.drop m)).length = (vanQ v (Q.drop (m + 1))).length := by
  intro h
  have e : Q.drop m = Q[m] :: Q.drop (m + 1) := by rw [List.drop_eq_getElem_cons hm]
  refine ⟨?_, by rw [e, vanQ, List.filter_cons, if_neg (by simp [h])]; rfl⟩
  rw [e, keepQ, keepQ, List.filter_cons, if_pos (by simp [h]), take_snoc Q m hm, List.append_assoc]
  rfl

set_option maxHeartbeats 4000000 in
theorem rforget_any (p : Nat) (room v : Int) (Q : List QRow) (w : World) (h : Kx w p room Q) (hQ : Q.length ≤ 10000) :
    Calls Try.prog 21 #[.pointer (some ⟨p, 0, none⟩), .int .i64 v] w (RetRF w p room v Q) := by
  have HK := Lib.hid h
  obtain ⟨v0, hbox, hrows⟩ := h
  obtain ⟨_, hlen, _, _⟩ := hrows.facts
  obtain ⟨x1, _⟩ := hbox.at_ 1 _ rfl
  clear hbox hrows
  go_enter Try.func21, Try.ntmps21
  go_wp2
  go_loopw [5, 6] (fun n i wr => ∃ m, m ≤ Q.length ∧ i = .int .i64 ((m : Int) - 1) ∧ n = .int .i64 ((vanQ v (Q.drop m)).length : Nat) ∧ Kx wr p room (Q.take m ++ keepQ v (Q.drop m)) ∧ w.grownBy wr (some p)) (fun _ i _ => (intOf i + 1).toNat)
  case atStart => exact ⟨Q.length, Nat.le_refl _, rfl, by simp [vanQ], by simpa [keepQ] using HK.out, World.grownBy.refl _ _⟩
  case round =>
    obtain ⟨m, hm, rfl, rfl, hkx, hg⟩ := hrel
    have HKX := Lib.hid hkx; have HG := Lib.hid hg
    clear hlen x1 hkx hg
    cases m with
    | succ m =>
      have hlt : m < Q.length := by omega
      simp only [show ((m + 1 : Nat) : Int) - 1 = (m : Int) from by omega]
      obtain ⟨v1, hbox, hrows⟩ := HKX.out
      obtain ⟨g, _, hidx, hc⟩ := hrows.facts
      have hl : (Q.take (m + 1) ++ keepQ v (Q.drop (m + 1))).length ≤ 10000 := by
        rw [List.length_append, List.length_take]
        have : (keepQ v (Q.drop (m + 1))).length ≤ (Q.drop (m + 1)).length := List.length_filter_le _ _
        rw [List.length_drop] at this
        omega
      have hml : m < (Q.take (m + 1) ++ keepQ v (Q.drop (m + 1))).length := by rw [List.length_append, List.length_take]; omega
      have hget : (Q.take (m + 1) ++ keepQ v (Q.drop (m + 1))).getD m default = Q[m] := by
        rw [List.getD_eq_getElem?_getD, List.getElem?_append_left (by rw [List.length_take]; omega)]
        simp [hlt]
      obtain ⟨_, c0, _, _, _⟩ := hc m hml
      have hp := hidx m hml
      rw [hget] at c0
      obtain ⟨x1, _⟩ := hbox.at_ 1 _ rfl
      have HCT := Lib.hid (cut_any p m room _ wr HKX.out hml hl)
      have HL := Lib.hid (show (vanQ v (Q.drop (m + 1))).length ≤ 10000 from by
        have : (vanQ v (Q.drop (m + 1))).length ≤ (Q.drop (m + 1)).length := List.length_filter_le _ _
        rw [List.length_drop] at this
        omega)
      have HY := Lib.hid (keepQ_step (v := v) hlt); have HN := Lib.hid (keepQ_skip (v := v) hlt)
      generalize Q[m].1.1.1 = vm at c0 HY HN
      have hl2 := HL.out
      clear hidx hc hbox hrows hl hml hget
      cases hq : (vm == v)
      · have HE := Lib.hid (HN.out hq)
        go_wp2_with fail
        go_roundw
        case rel => exact ⟨m, by omega, rfl, by rw [HE.out.2], by rw [← HE.out.1]; exact HKX.out, HG.out⟩
        case measure => simp [intOf]
      · have HE := Lib.hid (HY.out hq)
        go_wp2_with ((with_reducible refine HCT.out.mono ?_); rintro e w1 ⟨rfl, hk1, hg1⟩; have HK1 := Lib.hid hk1; have HG1 := Lib.hid hg1; clear hk1 hg1)
        go_roundw
        case rel => exact ⟨m, by omega, rfl, by rw [HE.out.2]; go_num, by rw [← HE.out.1]; exact HK1.out, HG.out.trans HG1.out⟩
        case measure => simp [intOf]
    | zero =>
      simp only [show ((0 : Nat) : Int) - 1 = (-1 : Int) from rfl]
      go_wp2_with fail
      go_ret
      exact ⟨ret_int (by rw [List.drop_zero]), by simpa using HKX.out, HG.out⟩

/-- strings as what is appended -/
theorem strs_slice {w : World} {v : Value} {L : List Str} (h : Strs w v L) : SliceOf w 1 v L.length (L.map encStr) := by
  obtain ⟨ao, cap, b, off, rfl, h0, h1, h2, h3⟩ := h
  refine ⟨ao, cap, rfl, by simp, fun x hx => by obtain ⟨s, _, rfl⟩ := List.mem_map.1 hx; rfl, ?_⟩
  rcases h0 with rfl | rfl
  · exact .inl rfl
  · refine .inr ⟨_, rfl, fun j x hj => ?_⟩
    have hj' : j < L.length := by simpa using (List.getElem?_eq_some_iff.1 hj).1
    rw [add_lit, (h3 j hj').2]
    simpa [List.getD_eq_getElem?_getD, hj'] using hj

def RetRAll (w : World) (v : Int) (Q : List QRow) (e : Ending) (w' : World) : Prop := ∃ r, e = .returned r ∧ Recs w' r ((vanQ v Q).map fun q => recR q.1) ∧ Below w.heap.size w w'
theorem vanQ_snoc {v : Int} {Q : List QRow} {k : Nat} (h : k < Q.length) : vanQ v (Q.take (k + 1)) = vanQ v (Q.take k) ++ (if (Q[k].1.1.1 == v) = true then [Q[k]] else []) := by
  unfold vanQ
  rw [take_snoc Q k h, List.filter_append, List.filter_cons, List.filter_nil]

set_option maxHeartbeats 8000000 in
theorem rall_any (p : Nat) (room v : Int) (Q : List QRow) (w : World) (h : Kx w p room Q) (hQ : Q.length ≤ 10000) :
    Calls Try.prog 23 #[.pointer (some ⟨p, 0, none⟩), .int .i64 v] w (RetRAll w v Q) := by
  obtain ⟨i0, hi, hz0, hz1, hz2⟩ := info_parts infoRec
  obtain ⟨j0, hj, hy0, hy1, hy2⟩ := info_parts infoAddr
  obtain ⟨v0, hbox, hrows⟩ := h
  have HR := Lib.hid hrows; have HBX := Lib.hid hbox
  obtain ⟨g, hlen, hidx, hc⟩ := hrows.facts
  have HC := Lib.hid hc; have HIX := Lib.hid hidx
  clear hbox hrows hidx hc
  go_enter Try.func23, Try.ntmps23
  go_wp2
  go_loopw [5, 6] (fun r i wr => ∃ k R, k ≤ Q.length ∧ i = .int .i64 (k : Nat) ∧ RowQ wr w.heap.size r R ∧ R.map qrec = (vanQ v (Q.take k)).map (fun q => recR q.1) ∧ Below w.heap.size w wr) (fun _ i _ => Q.length - (intOf i).toNat)
  case atStart => exact ⟨0, [], Nat.zero_le _, rfl, RowQ.nil _ _, rfl, Below.refl _ _⟩
  case round =>
    obtain ⟨k, R, hk, rfl, hq, hqr, hb⟩ := hrel
    have HRL := Lib.hid (show R.length + 1 ≤ maxLen ∧ (R.length + 1) * 48 ≤ 140737488355328 ∧ R.length ≤ 10000 from by
      have h1 : R.length = (vanQ v (Q.take k)).length := by simpa using congrArg List.length hqr
      have h2 : (vanQ v (Q.take k)).length ≤ (Q.take k).length := List.length_filter_le _ _
      rw [List.length_take] at h2
      unfold maxLen
      omega)
    have HQ := Lib.hid hq; have HQR := Lib.hid hqr; have HB := Lib.hid hb
    obtain ⟨x1, _⟩ := (HBX.out.below hb HBX.out.lt).at_ 1 _ rfl
    clear hq hqr hb
    by_cases hlt : k < Q.length
    · have HSN := Lib.hid (vanQ_snoc (v := v) hlt)
      obtain ⟨⟨⟨⟨kv, kg⟩, ⟨ke, kl⟩⟩, ks⟩, hst⟩ : ∃ q : QRow, q = Q[k] := ⟨_, rfl⟩
      have hgd : Q.getD k default = Q[k] := by simp [List.getD_eq_getElem?_getD, hlt]
      obtain ⟨hgl, c0, c1, c2, c3⟩ := HC.out k hlt
      have hp := HIX.out k hlt
      rw [hgd, ← hst] at c0 c1 c2 c3
      obtain ⟨hs, hgm, _⟩ := HR.out.2 Q[k] (List.getElem_mem hlt)
      rw [← hst] at hs hgm
      rw [← hst] at HSN
      dsimp only at c0 c1 c2 c3 hs hgm HSN
      have HLL := Lib.hid hs.len
      obtain ⟨so, sc, rfl⟩ := hs.shape
      have d0 := (HB.out.cell (p := ⟨g, k * 4, none⟩) hgl).trans c0
      have d1 := (HB.out.cell (p := ⟨g, k * 4 + 1, none⟩) hgl).trans c1
      have d2 := (HB.out.cell (p := ⟨g, k * 4 + 2, none⟩) hgl).trans c2
      have d3 := (HB.out.cell (p := ⟨g, k * 4 + 3, none⟩) hgl).trans c3
      have HSW := Lib.hid (hs.mono HB.out)
      have hl60 : kl.length ≤ 60 := by have := (HR.out.2 Q[k] (List.getElem_mem hlt)).2.2; rw [← hst] at this; exact this
      have HGM := Lib.hid hgm
      clear c0 c1 c2 c3 hs hgm hst hgd hgl
      cases hqv : (kv == v)
      · have HE := Lib.hid (show vanQ v (Q.take (k + 1)) = vanQ v (Q.take k) from by rw [HSN.out, hqv]; simp)
        have hqn : (kv != v) = true := by simp [bne, hqv]
        go_wp2_with fail
        go_roundw
        case rel => exact ⟨k + 1, R, by omega, by go_num, HQ.out.below ((Below.refl _ _).alloc (Nat.le_refl _) _), by rw [HE.out]; exact HQR.out, HB.out.alloc HB.out.size _⟩
        case measure => simp [intOf]; omega
      · have HE := Lib.hid (show (vanQ v (Q.take (k + 1))).map (fun q => recR q.1) = R.map qrec ++ [(if ke then 2 else 1, kg, kl)] from by rw [HSN.out, hqv, HQR.out]; simp [recR])
        have hqn : (kv != v) = false := by simp [bne, hqv]
        obtain ⟨W1, hW1⟩ : ∃ W1, W1 = wr.alloc (.cells #[.int .i64 kv, .string (bstr kg), .bool ke, .slice so kl.length sc] 84) := ⟨_, rfl⟩
        have hb1 : Below wr.heap.size wr W1 := by rw [hW1]; exact (Below.refl _ _).alloc (Nat.le_refl _) _
        have HSL := Lib.hid (strs_slice (HSW.out.mono hb1))
        have HK1 := Lib.hid (show CBox W1 wr.heap.size 84 #[.int .i64 kv, .string (bstr kg), .bool ke, .slice so kl.length sc] from by rw [hW1]; exact CBox.new _ rfl)
        have HB1 := Lib.hid hb1
        have HKL := Lib.hid (show kl.length ≤ maxLen ∧ kl.length * 16 ≤ 140737488355328 from by unfold maxLen; omega)
        have HW1 := Lib.hid hW1
        have y1 := (HK1.out.at_ 1 _ rfl).1
        rw [hW1] at HSL HB1 HK1 y1
        clear hb1 hW1 HW1 W1
        cases ke
        · go_wp2_with (first
            | (at_builtin; refine wpList_append_vals _ rfl _ _ 26 rfl (wr.heap.size + 1) 44 j0 _ 1 16 Try.underlying26 hj hy0 hy1 hy2 rfl (by decide) (.slice none 0 0) 0 [] rfl (World.ownsRow_nil _ _ _ _) (.slice so kl.length sc) kl.length (kl.map encStr) rfl HSL.out (by rw [Nat.zero_add]; exact HKL.out.1) (by rw [Nat.zero_add]; exact HKL.out.2) (by simp) ?_; intro lv w2 hown2 hg2 _; rw [Nat.zero_add, List.nil_append] at hown2; have hb2 : Below wr.heap.size wr w2 := HB1.out.grown hg2 HB1.out.size (fun b e => by simp [Value.ownBlock] at e); have y2 := (hg2.block wr.heap.size (by simp) (by simp [Value.ownBlock])); have y3 : w2.cell? ⟨wr.heap.size, 1, none⟩ = some (.string (bstr kg)) := (World.cell?_of_block y2).trans y1; have hs2 := Strs.own hown2 (by have := HKL.out.2; omega) HLL.out; have hl2 : Lies wr.heap.size lv := (Lies.own hown2).mono (by omega); obtain ⟨lo, lc, rfl⟩ := hs2.shape; have hx := fun (v' : Value) (w4 : World) => allstep (v' := v') (w4 := w4) (kind := 1) HQ.out hb2 HB.out.size hs2 hl2 HGM.out; have T1 := Lib.hid ((HQ.out.below hb2).1.alloc (.cells #[.int .i64 1, .string (bstr kg), .slice lo kl.length lc] 54)); have T2 := Lib.hid (sliceOf_block (size := 3) (m := 1) (c := 1) (heap_new w2 (.cells #[.int .i64 1, .string (bstr kg), .slice lo kl.length lc] 54) _ rfl) rfl (by simp [Value.oneCell'])); have T3 := Lib.hid (show w.heap.size ≤ (w2.alloc (.cells #[.int .i64 1, .string (bstr kg), .slice lo kl.length lc] 54)).heap.size from by have := HB.out.size; have := hb2.size; simp; omega); have T5 := Lib.hid hx; clear hown2 hg2 hb2 y2 hs2 hl2 hx y1)
            | (at_builtin; refine wpList_append_vals _ rfl _ _ 47 rfl w.heap.size 54 i0 _ 3 48 Try.underlying47 hi hz0 hz1 hz2 rfl (by decide) _ R.length (R.flatMap qcells) rfl T1.out _ 1 [.int .i64 1, .string (bstr kg), .slice lo kl.length lc] rfl T2.out HRL.out.1 HRL.out.2.1 T3.out ?_; intro v' w4 hown4 hg4 hv4; have HA4 := Lib.hid (T5.out _ _ hown4 hg4 hv4); clear hown4 hg4 hv4))
          obtain ⟨Q', hq', hqr', hb', _⟩ := HA4.out
          have HX' := Lib.hid (hqr'.trans HE.out.symm)
          have HQ' := Lib.hid hq'
          have HB' := Lib.hid (HB.out.trans hb')
          clear hq' hqr' hb'
          go_roundw
          case rel => exact ⟨k + 1, Q', by omega, by go_num, HQ'.out, HX'.out, HB'.out⟩
          case measure => simp [intOf]; omega
        · go_wp2_with (first
            | (at_builtin; refine wpList_append_vals _ rfl _ _ 26 rfl (wr.heap.size + 1) 44 j0 _ 1 16 Try.underlying26 hj hy0 hy1 hy2 rfl (by decide) (.slice none 0 0) 0 [] rfl (World.ownsRow_nil _ _ _ _) (.slice so kl.length sc) kl.length (kl.map encStr) rfl HSL.out (by rw [Nat.zero_add]; exact HKL.out.1) (by rw [Nat.zero_add]; exact HKL.out.2) (by simp) ?_; intro lv w2 hown2 hg2 _; rw [Nat.zero_add, List.nil_append] at hown2; have hb2 : Below wr.heap.size wr w2 := HB1.out.grown hg2 HB1.out.size (fun b e => by simp [Value.ownBlock] at e); have y2 := (hg2.block wr.heap.size (by simp) (by simp [Value.ownBlock])); have y3 : w2.cell? ⟨wr.heap.size, 1, none⟩ = some (.string (bstr kg)) := (World.cell?_of_block y2).trans y1; have hs2 := Strs.own hown2 (by have := HKL.out.2; omega) HLL.out; have hl2 : Lies wr.heap.size lv := (Lies.own hown2).mono (by omega); obtain ⟨lo, lc, rfl⟩ := hs2.shape; have hx := fun (v' : Value) (w4 : World) => allstep (v' := v') (w4 := w4) (kind := 2) HQ.out hb2 HB.out.size hs2 hl2 HGM.out; have T1 := Lib.hid ((HQ.out.below hb2).1.alloc (.cells #[.int .i64 2, .string (bstr kg), .slice lo kl.length lc] 54)); have T2 := Lib.hid (sliceOf_block (size := 3) (m := 1) (c := 1) (heap_new w2 (.cells #[.int .i64 2, .string (bstr kg), .slice lo kl.length lc] 54) _ rfl) rfl (by simp [Value.oneCell'])); have T3 := Lib.hid (show w.heap.size ≤ (w2.alloc (.cells #[.int .i64 2, .string (bstr kg), .slice lo kl.length lc] 54)).heap.size from by have := HB.out.size; have := hb2.size; simp; omega); have T5 := Lib.hid hx; clear hown2 hg2 hb2 y2 hs2 hl2 hx y1)
            | (at_builtin; refine wpList_append_vals _ rfl _ _ 47 rfl w.heap.size 54 i0 _ 3 48 Try.underlying47 hi hz0 hz1 hz2 rfl (by decide) _ R.length (R.flatMap qcells) rfl T1.out _ 1 [.int .i64 2, .string (bstr kg), .slice lo kl.length lc] rfl T2.out HRL.out.1 HRL.out.2.1 T3.out ?_; intro v' w4 hown4 hg4 hv4; have HA4 := Lib.hid (T5.out _ _ hown4 hg4 hv4); clear hown4 hg4 hv4))
          obtain ⟨Q', hq', hqr', hb', _⟩ := HA4.out
          have HX' := Lib.hid (hqr'.trans HE.out.symm)
          have HQ' := Lib.hid hq'
          have HB' := Lib.hid (HB.out.trans hb')
          clear hq' hqr' hb'
          go_roundw
          case rel => exact ⟨k + 1, Q', by omega, by go_num, HQ'.out, HX'.out, HB'.out⟩
          case measure => simp [intOf]; omega
    · obtain rfl : k = Q.length := by omega
      have HE := Lib.hid (show Q.take Q.length = Q from List.take_length)
      have HREC := Lib.hid (HQ.out.recs (by have := HRL.out.2.2; omega))
      go_wp2_with fail
      go_ret
      exact ⟨_, rfl, by rw [← HE.out, ← HQR.out]; exact HREC.out, HB.out⟩
end Go.Proofs.Ytfloipdkhmgibaa

/- The reference's Tell. -/
namespace Go.Proofs.Ytfloipdkhmgibaa
open Go.RowKit Go.Lib Go.Maps Go.Sort
set_option maxRecDepth 20000

theorem rtell_bad (q : Addr) (v : Int) (g : Str) (e : Bool) (u : Value) (A : List Str) (w : World) (hv : Strs w u A) (hbad : ¬ (1 ≤ v ∧ v ≤ 4094 ∧ isGrp g = true)) :
    Calls Try.prog 18 #[.pointer (some q), .int .i64 v, .string (bstr g), .agg #[.bool e, u]] w fun x w' => x = .returned (.tuple #[.slice none 0 0, .int .i64 1]) ∧ Below w.heap.size w w' := by
  obtain ⟨uo, uc, rfl⟩ := hv.shape
  have hb0 : Below w.heap.size w (w.alloc (.cells #[.bool e, .slice uo A.length uc] 28)) := (Below.refl _ _).alloc (Nat.le_refl _) _
  have HB0 := Lib.hid hb0
  have HE := Lib.hid (isgroup_any g (w.alloc (.cells #[.bool e, .slice uo A.length uc] 28)))
  clear hv hb0
  cases d1 : decide (v < 1)
  · cases d2 : decide (4094 < v)
    · have d3 : isGrp g = false := by
        have h1 := of_decide_eq_false d1
        have h2 := of_decide_eq_false d2
        cases h : isGrp g
        · rfl
        · exact absurd ⟨by omega, by omega, h⟩ hbad
      rw [d3] at HE
      clear hbad
      go_enter Try.func18, Try.ntmps18
      go_wp2_with ((with_reducible refine HE.out.mono ?_); rintro x w1 ⟨rfl, hw1⟩; subst w1)
      exact bodyPost_ret (v := .tuple #[.slice none 0 0, .int .i64 1]) (by simp [results, Try.results18, go_sem]) rfl ⟨rfl, HB0.out⟩
    · clear hbad HE
      go_enter Try.func18, Try.ntmps18
      go_wp2
      exact bodyPost_ret (v := .tuple #[.slice none 0 0, .int .i64 1]) (by simp [results, Try.results18, go_sem]) rfl ⟨rfl, HB0.out⟩
  · clear hbad HE
    go_enter Try.func18, Try.ntmps18
    go_wp2
    exact bodyPost_ret (v := .tuple #[.slice none 0 0, .int .i64 1]) (by simp [results, Try.results18, go_sem]) rfl ⟨rfl, HB0.out⟩

/-- where a key was found among the first j rows -/
def AtOf (R : List RowL) (k : Int × Str) (j : Nat) (a : Int) : Prop := (a = -1 ∧ ∀ i, (h : i < R.length) → i < j → R[i].1 ≠ k) ∨ ∃ i, ∃ h : i < R.length, i < j ∧ R[i].1 = k ∧ a = i
theorem AtOf.snoc {R : List RowL} {k : Int × Str} {j : Nat} {a : Int} (h : AtOf R k j a) (hj : j < R.length) : AtOf R k (j + 1) (if R[j].1 = k then (j : Int) else a) := by
  by_cases e : R[j].1 = k
  · rw [if_pos e]
    exact .inr ⟨j, hj, by omega, e, rfl⟩
  · rw [if_neg e]
    rcases h with ⟨h1, h2⟩ | ⟨i, hi, h1, h2, h3⟩
    · refine .inl ⟨h1, fun i hi hlt => ?_⟩
      by_cases ej : i = j
      · subst ej; exact e
      · exact h2 i hi (by omega)
    · exact .inr ⟨i, hi, by omega, h2, h3⟩

def RetRT (w : World) (p : Nat) (room : Int) (t : List Rec × Int × Told) (x : Ending) (w' : World) : Prop :=
  ∃ rv Q', x = .returned (.tuple #[rv, .int .i64 t.2.1]) ∧ Recs w' rv t.1 ∧ Kx w' p room Q' ∧ RelG t.2.2 (Q'.map Prod.fst) ∧ w.grownBy w' (some p)

/-- the load of a whole row, in a quiet walk -/
theorem quiet_load_row {P : Program} {C : World → Prop} {K : Act → Prop} {a : Act} {o : Oper} (ty : TypeId) (x : Operand) (ho : o.op = .load ty x) (g : Nat) (hx : a.eval x = .pointer (some ⟨g, 0, none⟩)) (t : TypeId) (cs : Array Value) (fr : Nat × Nat) (d : TypeDesc)
    (hg : ∀ w, C w → w.heap[g]? = some (.cells cs t fr)) (hu : P.underlying ty = some d) (hd : (match d with | .struct _ | .array _ _ => true | _ => false) = true) (hi : (P.info? ty).map (·.size) = some cs.size) (hk : K (a.put o.dst (.agg cs))) : o.quiet P a C K :=
  ⟨.agg cs, fun w hw => by
    unfold Oper.quietAt execOp
    simp only [ho, hx, Instr.loadAt, Instr.sureAddr, Sem.run_bind, Sem.run_pure, Result.andThen_ok, run_loadVar_row w g t ty cs fr d (hg w hw) hu hd hi]
    exact ⟨rfl, rfl⟩, hk⟩
theorem infoFil : (Try.prog.info? 28).map (·.size) = some 2 := by kernel_rfl
theorem at_found {G : Told} {R : List RowL} {k : Int × Str} {a : Int} (hR : RelG G R) (h : AtOf R k R.length a) : (a = -1 ∧ G k = none) ∨ ∃ i, ∃ h : i < R.length, a = (i : Int) ∧ R[i].1 = k ∧ G k = some R[i].2 := by
  rcases h with ⟨h1, h2⟩ | ⟨i, hi, _, h2, h3⟩
  · exact .inl ⟨h1, hR.none_ fun i hi => h2 i hi hi⟩
  · exact .inr ⟨i, hi, h3, h2, by rw [← h2]; exact hR.at_ hi⟩

theorem Strs.skept {w w' : World} {v : Value} {L : List Str} {nb : Nat} {e : Bool} {o : Option Addr} {n c : Nat} (h : Strs w v L) (hb : CBox w nb 28 #[.bool e, .slice o n c]) (hg : w.grownBy w' (some nb)) : Strs w' v L :=
  h.grown' hg fun hL e => by
    cases hv : v.ownBlock with
    | none => rw [hv] at e; cases e
    | some c => rw [hv] at e; injection e with e; exact h.ne_box hb (ns2 _ _ _ _) hL c hv e

/-- behind the taking away of what was told -/
def StB (w : World) (p : Nat) (room : Int) (G : Told) (k : Int × Str) (kc n : Nat) (fb ob : Nat) (e : Bool) (nv : Value) (L : List Str) (w' : World) : Prop :=
  ∃ Q1 ov, Kx w' p room Q1 ∧ RelG (delT G k) (Q1.map Prod.fst) ∧ cnt (Q1.map Prod.fst) k = kc ∧ Q1.length ≤ n ∧ CBox w' ob 28 #[.bool (oldT G k).1, ov] ∧ Strs w' ov (oldT G k).2 ∧ CBox w' fb 28 #[.bool e, nv] ∧ Strs w' nv L ∧ w.grownBy w' (some p)

set_option maxHeartbeats 16000000 in
theorem rtell_good (p : Nat) (room v : Int) (g : Str) (e : Bool) (u : Value) (A : List Str) (Q : List QRow) (G : Told) (w : World) (h : Kx w p room Q) (hR : RelG G (Q.map Prod.fst)) (hQ : Q.length ≤ 1000) (h1 : 1 ≤ v) (h2 : v ≤ 4094) (hg : isGrp g = true) (hv : Strs w u A) (hA : A.length ≤ 60) :
    Calls Try.prog 18 #[.pointer (some ⟨p, 0, none⟩), .int .i64 v, .string (bstr g), .agg #[.bool e, u]] w (RetRT w p room (ptell room Q.length G (v, g) (e, sasc A))) := by
  have d1 : decide (v < 1) = false := decide_eq_false (by omega)
  have d2 : decide (4094 < v) = false := decide_eq_false (by omega)
  have hbt := bstr_toList
  obtain ⟨uo, uc, rfl⟩ := hv.shape
  obtain ⟨W0, hW0⟩ : ∃ W0, W0 = w.alloc (.cells #[.bool e, .slice uo A.length uc] 28) := ⟨_, rfl⟩
  have hb0 : Below w.heap.size w W0 := by rw [hW0]; exact (Below.refl _ _).alloc (Nat.le_refl _) _
  have f0 : CBox W0 w.heap.size 28 #[.bool e, .slice uo A.length uc] := by rw [hW0]; exact CBox.new _ rfl
  have HE := Lib.hid (isgroup_any g W0)
  rw [hg] at HE
  obtain ⟨v0, hboxw, hrowsw⟩ := h
  have HBXW := Lib.hid hboxw; have HRWW := Lib.hid hrowsw
  have hK0 : Kx W0 p room Q := ⟨v0, hboxw.below hb0 hboxw.lt, hrowsw.below hb0⟩
  have HUA := Lib.hid (hv.mono hb0)
  have HB0 := Lib.hid hb0; have F0 := Lib.hid f0; have HK := Lib.hid hK0; have HRG := Lib.hid hR; have HPL := Lib.hid hboxw.lt; have HGM := Lib.hid (isGrp_max hg)
  have hbox := hboxw.below hb0 hboxw.lt
  have hrows := hrowsw.below hb0
  obtain ⟨gb, hlen, hidx, hc⟩ := hrows.facts
  obtain ⟨x1, _⟩ := hbox.at_ 1 _ rfl
  have HC := Lib.hid hc; have HIX := Lib.hid hidx
  have HW0 := Lib.hid hW0
  clear hK0 hboxw hrowsw hR hg hv hb0 f0 hbox hrows hidx hc hW0 h1 h2
  go_enter Try.func18, Try.ntmps18
  go_upto_region 1 with fail
  rw [← HW0.out]
  clear HW0
  go_wp2_with ((with_reducible refine HE.out.mono ?_); rintro x w1 ⟨rfl, hw1⟩; subst w1; clear HE)
  go_loop [10, 11, 12] (fun a k i => ∃ j a', j ≤ Q.length ∧ i = .int .i64 (j : Nat) ∧ a = .int .i64 a' ∧ AtOf (Q.map Prod.fst) (v, g) j a' ∧ k = .int .i64 (cnt ((Q.map Prod.fst).take j) (v, g) : Nat)) (fun _ _ i => Q.length - (intOf i).toNat)
  case atStart => exact ⟨0, -1, Nat.zero_le _, rfl, rfl, .inl ⟨rfl, fun i hi h => absurd h (by omega)⟩, rfl⟩
  case round =>
    obtain ⟨j, a', hj, rfl, rfl, hat, rfl⟩ := hrel
    have HAT := Lib.hid hat
    clear hat
    by_cases hlt : j < Q.length
    · have hlm : j < (Q.map Prod.fst).length := by simpa using hlt
      have HSA := Lib.hid (HAT.out.snoc hlm)
      have HSC := Lib.hid (cnt_snoc HRG.out.1 (v, g) j hlm)
      have hcl : cnt ((Q.map Prod.fst).take j) (v, g) ≤ 1000 := Nat.le_trans (cnt_le _ _) (by rw [List.length_take]; simp; omega)
      obtain ⟨⟨⟨⟨rv, rg⟩, rf⟩, rs⟩, hst⟩ : ∃ q : QRow, q = Q[j] := ⟨_, rfl⟩
      have hgd : Q.getD j default = Q[j] := by simp [List.getD_eq_getElem?_getD, hlt]
      have hge : (Q.map Prod.fst)[j] = ((rv, rg), rf) := by simp [← hst]
      rw [hge] at HSA HSC
      obtain ⟨_, c0, c1, _, _⟩ := HC.out j hlt
      have hp := HIX.out j hlt
      rw [hgd, ← hst] at c0 c1
      dsimp only at c0 c1 HSA HSC
      generalize cnt ((Q.map Prod.fst).take j) (v, g) = kc at HSC hcl
      clear hst hgd hge hlm
      cases q1 : (rv == v) <;> cases q2 : (rg == g) <;> cases q3 : decide (rv < v) <;> cases q4 : Op.bytesLess rg g
      all_goals
        have HNX := Lib.hid (show AtOf (Q.map Prod.fst) (v, g) (j + 1) (if ((rv == v) && (rg == g)) = true then (j : Int) else a') ∧ cnt ((Q.map Prod.fst).take (j + 1)) (v, g) = (if (decide (rv < v) || (rv == v && Op.bytesLess rg g)) = true then j + 1 else kc) from by
          refine ⟨?_, ?_⟩
          · have e1 : ((rv, rg) = (v, g)) = (((rv == v) && (rg == g)) = true) := by simp
            have := HSA.out
            simp only [e1] at this
            exact this
          · rw [HSC.out]
            unfold klt
            rw [Go.Proofs.bytesLess_eq])
        rw [q1, q2, q3, q4] at HNX
        clear HSA HSC
        go_wp2_with fail
        go_round
        case rel => exact ⟨j + 1, _, by omega, by go_num, rfl, HNX.out.1, by rw [HNX.out.2]; rfl⟩
        case measure => simp [intOf]; omega
    · obtain rfl : j = Q.length := by omega
      have hRt : (Q.map Prod.fst).take Q.length = Q.map Prod.fst := List.take_of_length_le (by simp)
      rw [hRt]
      have HFN := Lib.hid (at_found HRG.out (show AtOf (Q.map Prod.fst) (v, g) (Q.map Prod.fst).length a' from by rw [List.length_map]; exact HAT.out))
      obtain ⟨kc, hkc⟩ : ∃ kc, kc = cnt (Q.map Prod.fst) (v, g) := ⟨_, rfl⟩
      rw [← hkc]
      have hkl : kc ≤ Q.length := by rw [hkc]; exact Nat.le_trans (cnt_le _ _) (by simp)
      have HKC := Lib.hid hkc
      have HNO := Lib.hid (rnorm_any e _ A W0 HUA.out)
      obtain ⟨q0, qf0⟩ := F0.out.at_ 0 _ rfl
      obtain ⟨q1, qf1⟩ := F0.out.at_ 1 _ rfl
      clear HAT hkc hRt HUA HK HC HIX
      go_upto_region 13 with ((with_reducible refine HNO.out.mono ?_); rintro x w4 ⟨nv, rfl, hns, hb4, hnl⟩; obtain ⟨no, nc, rfl⟩ := hns.shape; have f4 := F0.out.below hb4 F0.out.lt; obtain ⟨z0, zf0⟩ := f4.at_ 0 _ rfl; obtain ⟨z1, zf1⟩ := f4.at_ 1 _ rfl; have HB4 := Lib.hid hb4; have HNS := Lib.hid hns; have HNL := Lib.hid hnl; have F4 := Lib.hid f4; clear hb4 hns hnl f4 q0 q1 qf0 qf1 HNO)
      obtain ⟨W5, hW5⟩ : ∃ W5, W5 = (w4.setCell ⟨w.heap.size, 0, none⟩ (.bool e)).setCell ⟨w.heap.size, 1, none⟩ (.slice no (sasc A).length nc) := ⟨_, rfl⟩
      have hlw : w.heap.size < W0.heap.size := F0.out.lt
      have hb5 : Below w.heap.size w W5 := by rw [hW5]; exact ((HB0.out.trans (HB4.out.mono HB0.out.size)).setCell (by simp) _).setCell (by simp) _
      have F5 := Lib.hid (show CBox W5 w.heap.size 28 #[.bool e, .slice no (sasc A).length nc] from by rw [hW5]; simpa using (F4.out.set 0 (.bool e)).set 1 (.slice no (sasc A).length nc))
      have NS5 := Lib.hid (show Strs W5 (.slice no (sasc A).length nc) (sasc A) from by rw [hW5]; exact (HNS.out.far HNL.out (p := ⟨w.heap.size, 0, none⟩) hlw _).far HNL.out (p := ⟨w.heap.size, 1, none⟩) hlw _)
      have HB5 := Lib.hid hb5; have HW5 := Lib.hid hW5
      have x5 : W5.cell? ⟨p, 1, none⟩ = some v0 := ((HBXW.out.below hb5 HBXW.out.lt).at_ 1 _ rfl).1
      have x50 : W5.cell? ⟨p, 0, none⟩ = some (.int .i64 room) := ((HBXW.out.below hb5 HBXW.out.lt).at_ 0 _ rfl).1
      have hsl := sasc_length A
      clear hb5 hW5 z0 z1 zf0 zf1 x1 HB0 F0 HNS HNL F4 HB4 hlw
      rw [← HW5.out]
      clear HW5
      obtain ⟨emp, hemp⟩ : ∃ b, (!e && decide (sasc A = [])) = b := ⟨_, rfl⟩
      have HEMP := Lib.hid hemp
      have HN13 := Lib.hid (fun W (hW : Below W5.heap.size W5 W) => none_any e _ (sasc A) W (NS5.out.mono hW))
      simp only [hemp] at HN13
      have y0 : W5.cell? ⟨w.heap.size, 0, none⟩ = some (.bool e) := (F5.out.at_ 0 _ rfl).1
      have y1 : W5.cell? ⟨w.heap.size, 1, none⟩ = some (.slice no (sasc A).length nc) := (F5.out.at_ 1 _ rfl).1
      have ql1 : w.heap.size < W5.heap.size := F5.out.lt
      have ql2 : p < W5.heap.size := Nat.lt_of_lt_of_le HPL.out HB5.out.size
      clear hemp
      go_cut [114] (fun s114 w' => s114 = .bool (decide (a' < 0) && !emp && decide (room ≤ (Q.length : Int))) ∧ Below W5.heap.size W5 w')
      case first =>
        have HBW := Lib.hid (Below.refl W5.heap.size W5)
        have F5' := F5
        have x5r := fun d os => cell_regrown x5 d os
        have x50r := fun d os => cell_regrown x50 d os
        clear HBXW HRWW HRG HPL HGM HFN HKC F5 NS5 HB5 HEMP
        cases ha : decide (a' < 0) <;> cases emp <;> cases hd : decide (room ≤ (Q.length : Int))
        all_goals
          refine wp_region_quiet_below (by kernel_rfl) (by kernel_rfl) ?_
          repeat (first | go_big_quiet_step (with_reducible exact Calls.regrown_of (HN13.out _ (below_rg HBW.out))) | quiet_step (with_reducible exact Calls.regrown_of (HN13.out _ (below_rg HBW.out))) | (refine BigFrame.wpQuiet_want (by simp [Region.wanted, yielded]) (fun K hK => ?_); refine quiet_load_row 28 (.tmp 7) rfl w.heap.size rfl 28 #[.bool e, .slice no (sasc A).length nc] (0, 0) _ (fun w' hw' => (by obtain ⟨pr, rfl⟩ := hw'; exact (F5'.out.below (below_regrown W5 pr.d pr.os) ql1))) Try.underlying28 rfl infoFil ?_; refine hK _ ?_; clear hK K))
          refine wpQuiet_nil ?_
          intro _ hw'
          obtain ⟨⟨nd, nos⟩, hw''⟩ := hw'
          subst hw''
          have hb6 := Lib.hid (below_regrown W5 nd nos)
          go_wp2_with fail
          go_meet
          case rel => exact ⟨by simp [ha, hd], hb6.out⟩
      case rest =>
      obtain ⟨w6, rfl⟩ : ∃ w6 : World, w6 = wc := ⟨_, rfl⟩
      obtain ⟨rfl, hb6⟩ := hcut
      have HB6 := Lib.hid hb6
      clear x5 x50 y0 y1 HN13 hb6 hlen ql1 ql2
      have hb06 : Below w.heap.size w w6 := HB5.out.trans (HB6.out.mono HB5.out.size)
      have HB06 := Lib.hid hb06
      have HKW := Lib.hid (fun W (hW : Below w.heap.size w W) => show Kx W p room Q from ⟨v0, HBXW.out.below hW HBXW.out.lt, HRWW.out.below hW⟩)
      have F6 := Lib.hid (F5.out.below HB6.out F5.out.lt); have NS6 := Lib.hid (NS5.out.mono HB6.out)
      obtain ⟨full, hfull⟩ : ∃ b, (decide (a' < 0) && !emp && decide (room ≤ (Q.length : Int))) = b := ⟨_, rfl⟩
      rw [hfull]
      have HFULL := Lib.hid hfull
      clear hb06 F5 NS5 HB5 HB6 hfull
      cases full
      · obtain ⟨W7, hW7⟩ : ∃ W7, W7 = w6.alloc (.cells #[.bool false, .slice none 0 0] 28) := ⟨_, rfl⟩
        have hb67 : Below w6.heap.size w6 W7 := by rw [hW7]; exact (Below.refl _ _).alloc (Nat.le_refl _) _
        have O7 := Lib.hid (show CBox W7 w6.heap.size 28 #[.bool false, .slice none 0 0] from by rw [hW7]; exact CBox.new _ rfl)
        have F7 := Lib.hid (F6.out.below hb67 F6.out.lt); have NS7 := Lib.hid (NS6.out.mono hb67); have HB07 := Lib.hid (HB06.out.trans (hb67.mono HB06.out.size))
        have HW7 := Lib.hid hW7
        have hfl : w.heap.size < w6.heap.size := F6.out.lt
        have HNF := Lib.hid (show emp = false → ¬ ((G (v, g)).isSome = false ∧ room ≤ (Q.length : Int)) from by
          rintro rfl ⟨hn1, hn2⟩
          have hf := HFULL.out
          rcases HFN.out with ⟨h, _⟩ | ⟨i, _, _, _, h⟩
          · rw [h, decide_eq_true hn2] at hf
            simp at hf
          · rw [h] at hn1
            cases hn1)
        have HLL := Lib.hid (show p < w.heap.size ∧ w.heap.size < w6.heap.size from ⟨HPL.out, hfl⟩)
        clear hb67 hW7 F6 NS6 hfl
        go_upto_if 117 with fail
        rw [← HW7.out]
        clear HW7
        go_cut [] (fun w' => StB w p room G (v, g) kc Q.length w.heap.size w6.heap.size e (.slice no (sasc A).length nc) (sasc A) w')
        case first =>
          rcases HFN.out with ⟨ha, hG⟩ | ⟨i, hi, ha, hkey, hG⟩
          · subst ha
            have HX := Lib.hid (show StB w p room G (v, g) kc Q.length w.heap.size w6.heap.size e (.slice no (sasc A).length nc) (sasc A) W7 from by
              have ho : oldT G (v, g) = (false, []) := by unfold oldT; rw [hG]; rfl
              exact ⟨Q, .slice none 0 0, HKW.out _ HB07.out, by rw [del_none hG]; exact HRG.out, HKC.out.symm, Nat.le_refl _, by rw [ho]; exact O7.out, by rw [ho]; exact Strs.nil _, F7.out, NS7.out, grown_below (World.grownBy.refl _ _) HB07.out⟩)
            clear hG
            go_wp2_with fail
            go_meet
            case rel => exact HX.out
          · subst ha
            have hi' : i < Q.length := by simpa using hi
            have hkey' : Q[i].1.1 = (v, g) := by simpa using hkey
            have hG' : G (v, g) = some Q[i].1.2 := by simpa using hG
            have hrw7 := HRWW.out.below HB07.out
            obtain ⟨gb', _, hidx, hc⟩ := hrw7.facts
            obtain ⟨_, _, _, c2, c3⟩ := hc i hi'
            have hp := hidx i hi'
            have hgd : Q.getD i default = Q[i] := by simp [List.getD_eq_getElem?_getD, hi']
            rw [hgd] at c2 c3
            have hsr := (hrw7.2 Q[i] (List.getElem_mem hi')).1
            obtain ⟨⟨⟨kk, ⟨re, rl⟩⟩, rs⟩, hst⟩ : ∃ q : QRow, q = Q[i] := ⟨_, rfl⟩
            rw [← hst] at c2 c3 hsr hkey' hG'
            dsimp only at c2 c3 hsr hkey' hG'
            obtain ⟨ro, rc, rfl⟩ := hsr.shape
            have ho : oldT G (v, g) = (re, rl) := by unfold oldT; rw [hG']; rfl
            have x7 : W7.cell? ⟨p, 1, none⟩ = some v0 := ((HBXW.out.below HB07.out HBXW.out.lt).at_ 1 _ rfl).1
            obtain ⟨W8, hW8⟩ : ∃ W8, W8 = (W7.setCell ⟨w6.heap.size, 0, none⟩ (.bool re)).setCell ⟨w6.heap.size, 1, none⟩ (.slice ro rl.length rc) := ⟨_, rfl⟩
            have hl := HLL.out
            have hg78 : W7.grownBy W8 (some w6.heap.size) := by rw [hW8]; exact (kgrown_set _ _ _ _).trans (kgrown_set _ _ _ _)
            have hb08 : Below w.heap.size w W8 := HB07.out.grown hg78 HB07.out.size (fun b e => by injection e with e; omega)
            have o8 : CBox W8 w6.heap.size 28 #[.bool re, .slice ro rl.length rc] := by rw [hW8]; simpa using (O7.out.set 0 (.bool re)).set 1 (.slice ro rl.length rc)
            have f8 : CBox W8 w.heap.size 28 #[.bool e, .slice no (sasc A).length nc] := F7.out.grown hg78 (fun e => by injection e with e; omega)
            have n8 := NS7.out.skept O7.out hg78
            have s8 := hsr.skept O7.out hg78
            have bx8 := HBXW.out.below hb08 HBXW.out.lt
            have HCT := Lib.hid (cut_any p i room Q W8 (HKW.out _ hb08) hi' (by omega))
            have HY := Lib.hid (show ∀ w9, Kx w9 p room (Q.eraseIdx i) → W8.grownBy w9 (some p) → StB w p room G (v, g) kc Q.length w.heap.size w6.heap.size e (.slice no (sasc A).length nc) (sasc A) w9 from fun w9 hk hg => by
              have hm : (Q.eraseIdx i).map Prod.fst = (Q.map Prod.fst).eraseIdx i := by rw [List.eraseIdx_eq_take_drop_succ, List.eraseIdx_eq_take_drop_succ, List.map_append, List.map_take, List.map_drop]
              have h1 := erase_rel HRG.out hi
              have h2 := cnt_erase (Q.map Prod.fst) i hi
              rw [hkey] at h1 h2
              refine ⟨Q.eraseIdx i, .slice ro rl.length rc, hk, by rw [hm]; exact h1, by rw [hm, h2]; exact HKC.out.symm, by rw [List.length_eraseIdx]; split <;> omega, by rw [ho]; exact o8.grown hg (fun e => by injection e with e; omega), by rw [ho]; exact s8.kept_kx bx8 HRWW.out.isSlice hg, f8.grown hg (fun e => by injection e with e; omega), n8.kept_kx bx8 HRWW.out.isSlice hg, (grown_below (World.grownBy.refl w (some p)) hb08).trans hg⟩)
            have HW8 := Lib.hid hW8
            obtain ⟨t0, tf0⟩ := O7.out.at_ 0 _ rfl
            obtain ⟨t1, tf1⟩ := O7.out.at_ 1 _ rfl
            clear hkey hG hkey' hG' hrw7 hidx hc hgd hsr hst ho hW8 hl hg78 hb08 o8 f8 n8 s8 bx8 hi
            go_wp2_with ((rw [← HW8.out]); (with_reducible refine HCT.out.mono ?_); rintro x w9 ⟨rfl, hk9, hg9⟩; have HX := Lib.hid (HY.out w9 hk9 hg9); clear hk9 hg9)
            go_meet
            case rel => exact HX.out
        case rest =>
        obtain ⟨w9, rfl⟩ : ∃ w9 : World, w9 = wc := ⟨_, rfl⟩
        obtain ⟨Q1, ov, hk9, hrg9, hcnt9, hle9, hob9, hos9, hfb9, hns9, hgr9⟩ := hcut
        obtain ⟨oo, oc, rfl⟩ := hos9.shape
        have HEM2 := Lib.hid (none_any e _ (sasc A) w9 hns9)
        simp only [HEMP.out] at HEM2
        have K9 := Lib.hid hk9; have RG9 := Lib.hid hrg9; have CN9 := Lib.hid hcnt9; have O9 := Lib.hid hob9; have OS9 := Lib.hid hos9; have F9 := Lib.hid hfb9; have NS9 := Lib.hid hns9; have GR9 := Lib.hid hgr9
        have y0 : w9.cell? ⟨w.heap.size, 0, none⟩ = some (.bool e) := (hfb9.at_ 0 _ rfl).1
        have y1 : w9.cell? ⟨w.heap.size, 1, none⟩ = some (.slice no (sasc A).length nc) := (hfb9.at_ 1 _ rfl).1
        have hlo : kc ≤ Q1.length := by rw [← hcnt9]; exact Nat.le_trans (cnt_le _ _) (by simp)
        generalize hold : oldT G (v, g) = old at O9 OS9
        have HOLD := Lib.hid hold
        clear hk9 hrg9 hcnt9 hob9 hos9 hfb9 hns9 hgr9 hold HBXW HRWW HRG HFN HKC HKW HFULL O7 F7 NS7 HB07
        go_upto_if 131 with ((with_reducible refine HEM2.out.mono ?_); rintro x w10 ⟨rfl, hb10⟩; have HB10 := Lib.hid hb10; clear hb10 HEM2 y0 y1)
        have K10 := Lib.hid (K9.out.below HB10.out); have O10 := Lib.hid (O9.out.below HB10.out O9.out.lt); have F10 := Lib.hid (F9.out.below HB10.out F9.out.lt); have OS10 := Lib.hid (OS9.out.mono HB10.out); have NS10 := Lib.hid (NS9.out.mono HB10.out); have GR10 := Lib.hid (grown_below GR9.out HB10.out)
        clear K9 O9 F9 OS9 NS9 GR9 HB10
        cases emp
        · obtain ⟨v9, hbx, hrw⟩ := K10.out
          have HBX := Lib.hid hbx; have HRW := Lib.hid hrw; have HVS := Lib.hid hrw.isSlice
          obtain ⟨u1, u2, s1, s2, sl1, sl2⟩ := hrw.cuts kc hlo
          have HS1 := Lib.hid (sl1 w10 (Below.refl _ _)); have HS2 := Lib.hid sl2
          have hp10 := hbx.lt
          have x10 : w10.cell? ⟨p, 1, none⟩ = some v9 := (hbx.at_ 1 _ rfl).1
          have xf10 := (hbx.at_ 1 _ rfl).2
          have z0 : w10.cell? ⟨w.heap.size, 0, none⟩ = some (.bool e) := (F10.out.at_ 0 _ rfl).1
          have z1 : w10.cell? ⟨w.heap.size, 1, none⟩ = some (.slice no (sasc A).length nc) := (F10.out.at_ 1 _ rfl).1
          have hfl := F10.out.lt
          obtain ⟨i0, hi0, hz0, hz1, hz2⟩ := info_parts infoRow
          have HN := Lib.hid (show kc ≤ 1000 ∧ Q1.length - kc ≤ 1000 from by omega)
          have HHF := Lib.hid (And.intro hfl (And.intro z0 z1))
          clear hbx hrw sl1 sl2
          go_upto_region 24 with (first
            | (at_builtin; refine wpList_append_vals _ rfl _ _ 41 rfl w10.heap.size 84 i0 _ 4 56 Try.underlying41 hi0 hz0 hz1 hz2 rfl (by decide) (.slice none 0 0) 0 [] rfl (World.ownsRow_nil _ _ _ _) u1 kc ((Q1.take kc).flatMap kcell) rfl HS1.out (by have := HN.out; unfold maxLen; omega) (by have := HN.out; omega) (Nat.le_refl _) ?_; intro v1 w11 hown1 hg1 _; have hb1 : Below w10.heap.size w10 w11 := (Below.refl _ _).grown hg1 (Nat.le_refl _) (fun b e => by simp [Value.ownBlock] at e); rw [Nat.zero_add, List.nil_append] at hown1; have z0' := (hb1.cell (p := ⟨w.heap.size, 0, none⟩) HHF.out.1).trans HHF.out.2.1; have z1' := (hb1.cell (p := ⟨w.heap.size, 1, none⟩) HHF.out.1).trans HHF.out.2.2; have T1 := Lib.hid (hown1.alloc (.cells #[.int .i64 v, .string (bstr g), .bool e, .slice no (sasc A).length nc] 84)); have T2 := Lib.hid (sliceOf_block (size := 4) (m := 1) (c := 1) (heap_new w11 (.cells #[.int .i64 v, .string (bstr g), .bool e, .slice no (sasc A).length nc] 84) _ rfl) rfl (by simp [Value.oneCell'])); have T3 := Lib.hid (show w10.heap.size ≤ (w11.alloc (.cells #[.int .i64 v, .string (bstr g), .bool e, .slice no (sasc A).length nc] 84)).heap.size from by have := hb1.size; rw [World.size_alloc]; omega); have H1 := Lib.hid hb1; clear hown1 hg1 hb1 z0 z1)
            | (at_builtin; refine wpList_append_vals _ rfl _ _ 41 rfl w10.heap.size 84 i0 _ 4 56 Try.underlying41 hi0 hz0 hz1 hz2 rfl (by decide) v1 kc ((Q1.take kc).flatMap kcell) rfl T1.out (.slice (some ⟨w11.heap.size, 0, none⟩) 1 1) 1 [.int .i64 v, .string (bstr g), .bool e, .slice no (sasc A).length nc] rfl T2.out (by have := HN.out; unfold maxLen; omega) (by have := HN.out; omega) T3.out ?_; intro v2 w12 hown2 hg2 _; have hb2 : Below w10.heap.size w10 w12 := (H1.out.alloc H1.out.size _).grown hg2 T3.out (fun b e => (T1.out.lt b e).1); have x12 := (hb2.cell (p := ⟨p, 1, none⟩) hp10).trans x10; have H2 := Lib.hid (And.intro hown2 hb2); clear hown2 hg2 hb2)
            | (at_builtin; refine wpList_append_vals _ rfl _ _ 41 rfl w10.heap.size 84 i0 _ 4 56 Try.underlying41 hi0 hz0 hz1 hz2 rfl (by decide) v2 (kc + 1) ((Q1.take kc).flatMap kcell ++ [.int .i64 v, .string (bstr g), .bool e, .slice no (sasc A).length nc]) rfl H2.out.1 u2 (Q1.length - kc) ((Q1.drop kc).flatMap kcell) rfl (HS2.out _ H2.out.2) (by have := HN.out; unfold maxLen; omega) (by have := HN.out; omega) H2.out.2.size ?_; intro v3 w13 hown3 hg3 _; have hb3 : Below w10.heap.size w10 w13 := H2.out.2.grown hg3 H2.out.2.size (fun b e => (H2.out.1.lt b e).1); have x13 := (hb3.cell (p := ⟨p, 1, none⟩) hp10).trans x10; have xf13 := (hb3.frozen (p := ⟨p, 1, none⟩) hp10).trans xf10; obtain ⟨o3, c3, rfl⟩ := own_form hown3; have H3 := Lib.hid (And.intro hown3 hb3); clear hown3 hg3 hb3))
          obtain ⟨W14, hW14⟩ : ∃ W14, W14 = w13.setCell ⟨p, 1, none⟩ (.slice o3 (kc + 1 + (Q1.length - kc)) c3) := ⟨_, rfl⟩
          obtain ⟨Q2, hQ2⟩ : ∃ Q2 : List QRow, Q2 = Q1.take kc ++ ((((v, g), (e, sasc A)), Value.slice no (sasc A).length nc) :: Q1.drop kc) := ⟨_, rfl⟩
          have hl2 : kc + 1 + (Q1.length - kc) = Q2.length := by rw [hQ2, List.length_append, List.length_cons, List.length_take, List.length_drop]; omega
          have hf2 : ((Q1.take kc).flatMap kcell ++ [.int .i64 v, .string (bstr g), .bool e, .slice no (sasc A).length nc]) ++ (Q1.drop kc).flatMap kcell = Q2.flatMap kcell := by rw [hQ2, List.flatMap_append, List.flatMap_cons, List.append_assoc]; rfl
          have hown : w13.ownsRow w10.heap.size 84 4 (.slice o3 (kc + 1 + (Q1.length - kc)) c3) Q2.length (Q2.flatMap kcell) := by
            rw [← hl2, ← hf2]
            exact H3.out.1
          obtain ⟨k1, k2⟩ := Kx.stored HBX.out HVS.out H3.out.2 (Nat.le_refl _) hown (fun q hq => by
            rw [hQ2] at hq
            rcases List.mem_append.1 hq with hq | hq
            · exact ⟨(HRW.out.2 q (List.mem_of_mem_take hq)).1.mono H3.out.2, (HRW.out.2 q (List.mem_of_mem_take hq)).2⟩
            · rcases List.mem_cons.1 hq with rfl | hq
              · exact ⟨NS10.out.mono H3.out.2, HGM.out, show (sasc A).length ≤ 60 from by omega⟩
              · exact ⟨(HRW.out.2 q (List.mem_of_mem_drop hq)).1.mono H3.out.2, (HRW.out.2 q (List.mem_of_mem_drop hq)).2⟩)
          rw [← hW14] at k1 k2
          have hl := HLL.out
          have o14 := O10.out.grown k2 (fun e => by injection e with e; omega)
          have f14 := F10.out.grown k2 (fun e => by injection e with e; omega)
          have n14 := NS10.out.kept_kx HBX.out HVS.out k2
          have s14 := OS10.out.kept_kx HBX.out HVS.out k2
          have HD := Lib.hid (rdiff_any g old.1 e _ _ old.2 (sasc A) W14 HGM.out s14 n14)
          have HX := Lib.hid (show ∀ rv w15, Recs w15 rv (pdiff g old.1 old.2 e (sasc A)) → Below W14.heap.size W14 w15 → RetRT w p room (ptell room Q.length G (v, g) (e, sasc A)) (.returned (.tuple #[rv, .int .i64 0])) w15 from fun rv w15 h1 h2 => by
            have hr := ins_rel (e, sasc A) RG9.out (del_self G (v, g))
            rw [upd_del, CN9.out] at hr
            have hm : Q2.map Prod.fst = (Q1.map Prod.fst).take kc ++ (((v, g), (e, sasc A)) :: (Q1.map Prod.fst).drop kc) := by rw [hQ2, List.map_append, List.map_cons, List.map_take, List.map_drop]
            have ht : ptell room Q.length G (v, g) (e, sasc A) = (pdiff g old.1 old.2 e (sasc A), 0, updT G (v, g) (e, sasc A)) := by
              unfold ptell
              have he := HEMP.out
              dsimp only
              rw [he, if_neg (by simp), HOLD.out]
              rw [if_neg]
              rintro ⟨hn1, hn2⟩
              exact HNF.out rfl ⟨hn1, hn2⟩
            rw [ht]
            exact ⟨rv, Q2, rfl, h1, k1.below h2, by rw [hm]; exact hr, grown_below (GR10.out.trans k2) h2⟩)
          have HW14 := Lib.hid hW14
          have t0 : W14.cell? ⟨w6.heap.size, 0, none⟩ = some (.bool old.1) := (o14.at_ 0 _ rfl).1
          have t1 : W14.cell? ⟨w6.heap.size, 1, none⟩ = some (.slice oo old.2.length oc) := (o14.at_ 1 _ rfl).1
          have z2 : W14.cell? ⟨w.heap.size, 0, none⟩ = some (.bool e) := (f14.at_ 0 _ rfl).1
          have z3 : W14.cell? ⟨w.heap.size, 1, none⟩ = some (.slice no (sasc A).length nc) := (f14.at_ 1 _ rfl).1
          clear hl2 hf2 hown k1 k2 hl o14 f14 n14 s14 hW14 hQ2 x10 xf10 x12 x13 xf13 z0' z1' HBX HRW HVS HS1 HS2 HHF T1 T2 T3 H1 H2 H3
          rw [← HW14.out]
          go_wp2_with ((with_reducible refine HD.out.mono ?_); rintro x w15 ⟨rv, rfl, hrv, hb15⟩; have HZ := Lib.hid (HX.out rv w15 hrv hb15); clear hrv hb15 HD)
          refine bodyPost_ret (v := .tuple #[rv, .int .i64 0]) (by simp [results, Try.results18, go_sem]) rfl HZ.out
        · have HD := Lib.hid (rdiff_any g old.1 e _ _ old.2 (sasc A) w10 HGM.out OS10.out NS10.out)
          have HX := Lib.hid (show ∀ rv w11, Recs w11 rv (pdiff g old.1 old.2 e (sasc A)) → Below w10.heap.size w10 w11 → RetRT w p room (ptell room Q.length G (v, g) (e, sasc A)) (.returned (.tuple #[rv, .int .i64 0])) w11 from fun rv w11 h1 h2 => by
            have ht : ptell room Q.length G (v, g) (e, sasc A) = (pdiff g old.1 old.2 e (sasc A), 0, delT G (v, g)) := by
              unfold ptell
              have he := HEMP.out
              dsimp only
              rw [he, if_pos rfl, HOLD.out]
            rw [ht]
            exact ⟨rv, Q1, rfl, h1, K10.out.below h2, RG9.out, grown_below GR10.out h2⟩)
          have z0 : w10.cell? ⟨w.heap.size, 0, none⟩ = some (.bool e) := (F10.out.at_ 0 _ rfl).1
          have z1 : w10.cell? ⟨w.heap.size, 1, none⟩ = some (.slice no (sasc A).length nc) := (F10.out.at_ 1 _ rfl).1
          have t0 : w10.cell? ⟨w6.heap.size, 0, none⟩ = some (.bool old.1) := (O10.out.at_ 0 _ rfl).1
          have t1 : w10.cell? ⟨w6.heap.size, 1, none⟩ = some (.slice oo old.2.length oc) := (O10.out.at_ 1 _ rfl).1
          clear K10 O10 F10 OS10 NS10 GR10 RG9 CN9
          go_wp2_with ((with_reducible refine HD.out.mono ?_); rintro x w11 ⟨rv, rfl, hrv, hb11⟩; have HZ := Lib.hid (HX.out rv w11 hrv hb11); clear hrv hb11 HD)
          refine bodyPost_ret (v := .tuple #[rv, .int .i64 0]) (by simp [results, Try.results18, go_sem]) rfl HZ.out
      · have HX := Lib.hid (show RetRT w p room (ptell room Q.length G (v, g) (e, sasc A)) (.returned (.tuple #[.slice none 0 0, .int .i64 5])) w6 from by
          have hf := HFULL.out
          rw [Bool.and_eq_true, Bool.and_eq_true, decide_eq_true_eq, decide_eq_true_eq] at hf
          obtain ⟨⟨hf1, hf2⟩, hf3⟩ := hf
          have hem : emp = false := by cases emp <;> simp_all
          have hG : G (v, g) = none := by
            rcases HFN.out with ⟨_, h⟩ | ⟨i, _, h, _⟩
            · exact h
            · omega
          have ht : ptell room Q.length G (v, g) (e, sasc A) = ([], 5, G) := by
            unfold ptell
            have he := HEMP.out
            rw [hem] at he
            dsimp only
            rw [he, if_neg (by simp), if_pos ⟨by rw [hG]; rfl, hf3⟩]
          rw [ht]
          exact ⟨_, Q, rfl, Recs.nil _, HKW.out _ HB06.out, HRG.out, grown_below (World.grownBy.refl _ _) HB06.out⟩)
        clear F6 NS6
        go_wp2_with fail
        refine bodyPost_ret (v := .tuple #[.slice none 0 0, .int .i64 5]) (by simp [results, Try.results18, go_sem]) rfl HX.out
end Go.Proofs.Ytfloipdkhmgibaa

/- (*proxy.Proxy).Tell of a good group, whole. -/
namespace Go.Proofs.Ytfloipdkhmgibaa
open Go.RowKit Go.Lib Go.Maps Go.Sort
set_option maxRecDepth 20000

theorem TKeys.len_eq {G : Told} {K L : List (Int × Str)} (h : TKeys G K) (k : TKeys G L) : K.length = L.length :=
  ((List.perm_ext_iff_of_nodup h.1 k.1).2 fun x => (h.2 x).trans (k.2 x).symm).length_eq

/-- Tell of a good group -/
theorem tell_any (p b n : Nat) (room v : Int) (g : Str) (e : Bool) (u : Value) (A : List Str) (G : Told) (w : World) (c : Nat) (h : Px w p b n room G) (hn : n < 1000000) (h1 : 1 ≤ v) (h2 : v ≤ 4094) (hg : isGrp g = true) (hv : Strs w u A) (hA : A.length ≤ 60) (hG : SmallT G) (hc : ∃ L, TKeys G L ∧ L.length = c) :
    Calls Try.prog 17 #[.pointer (some ⟨p, 0, none⟩), .int .i64 v, .string (bstr g), .agg #[.bool e, u]] w (RetTell w p b n room (ptell room c G (v, g) (e, sasc A))) := by
  obtain ⟨L, hL, rfl⟩ := hc
  unfold ptell
  dsimp only
  cases hE : (!e && decide (sasc A = []))
  · rw [if_neg (by simp)]
    cases hS : (G (v, g)).isSome
    · by_cases hR : room ≤ (L.length : Int)
      · rw [if_pos ⟨rfl, hR⟩]
        exact tell_full p b n room v g e u A G w h hn h1 h2 hg hv hA hG hE hS ⟨L, hL, hR⟩
      · rw [if_neg (fun x => hR x.2)]
        exact tell_put2 p b n room v g e u A G w h hn h1 h2 hg hv hA hG hE hS (fun L' h' => by rw [h'.len_eq hL]; omega)
    · rw [if_neg (fun x => by simp at x)]
      exact tell_put1 p b n room v g e u A G w h hn h1 h2 hg hv hA hG hE hS
  · rw [if_pos rfl]
    exact tell_del p b n room v g e u A G w h hn h1 h2 hg hv hA hG hE
/-- it stays small -/
theorem ptell_small {room : Int} {c : Nat} {G : Told} {k : Int × Str} {e : Bool} {A : List Str} (h : SmallT G) (hA : A.length ≤ 60) : SmallT (ptell room c G k (e, sasc A)).2.2 := by
  unfold ptell
  split
  · exact fun x g q => by
      dsimp only [delT] at q
      split at q
      · cases q
      · exact h x g q
  · split
    · exact h
    · exact h.upd _ _ (Nat.le_trans (sasc_length A) hA)
end Go.Proofs.Ytfloipdkhmgibaa
