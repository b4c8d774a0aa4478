/- Texts joined into one file: PLawAdmits, PLawNil, PLawTurned. -/
import Derived.Test.YtfloipdkhmgibaaQ23
import Derived.Test.YtfloipdkhmgibaaQ22

/- The walk of ProxyAdmits. -/
namespace Go.Proofs.Ytfloipdkhmgibaa
open Go.RowKit Go.Lib Go.Maps Go.Sort
set_option maxRecDepth 20000

set_option maxRecDepth 20000

set_option maxHeartbeats 8000000 in
theorem law_admits (v : Value) (R : List Stt) (now : Int) (x : Str) (w : World) (h : Sts w v R) (hx : x.length ≤ maxLen) :
    Calls Try.prog 8 #[v, .int .i64 now, .string (bstr x)] w fun e w' => e = .returned (.bool true) ∧ Below w.heap.size w w' := by
  obtain ⟨vo, vc, rfl⟩ := h.shape
  cases hf : pfew R
  · have HF := Lib.hid (pfew_any _ R w h)
    rw [hf] at HF
    clear h hf
    go_enter Try.func8, Try.ntmps8
    go_wp2_with ((with_reducible refine HF.out.mono ?_); rintro e w1 ⟨rfl, hw1⟩; subst w1)
    refine (live_yes _).mono ?_
    rintro e w2 ⟨rfl, hb⟩
    have HB := Lib.hid hb
    clear hb HF
    go_wp2_with fail
    go_ret
    exact ⟨rfl, HB.out⟩
  · have HF := Lib.hid (pfew_any _ R w h)
    rw [hf] at HF
    have hfe := hf
    unfold pfew at hfe
    rw [Bool.and_eq_true, decide_eq_true_eq, List.all_eq_true] at hfe
    have HS := Lib.hid (show ∀ s ∈ R, s.2.2.length ≤ 60 from fun s hs => of_decide_eq_true (hfe.2 s hs))
    have hl10 := hfe.1
    obtain ⟨b, off, src, hm, hlen, hidx, hc⟩ := h.facts
    have HX := Lib.hid h
    clear h hf hfe
    go_enter Try.func8, Try.ntmps8
    go_wp2_with ((with_reducible refine HF.out.mono ?_); rintro e w1 ⟨rfl, hw1⟩; subst w1)
    clear HF
    go_loopw [7, 8] (fun y i wr => ∃ k, k ≤ R.length ∧ i = .int .i64 (k : Nat) ∧ y = .bool ((R.take k).any fun s => padm s.1 s.2.1 s.2.2 now x) ∧ Below w.heap.size w wr) (fun _ i _ => R.length - (intOf i).toNat)
    case atStart => exact ⟨0, Nat.zero_le _, rfl, by simp, Below.refl _ _⟩
    case round =>
      obtain ⟨k, hk, rfl, rfl, hbr⟩ := hrel
      have HBR := Lib.hid hbr
      clear hbr
      by_cases hlt : k < R.length
      · obtain ⟨⟨e, a, L⟩, hst⟩ : ∃ t : Stt, t = R.getD k default := ⟨_, rfl⟩
        obtain ⟨hlb, c0, c1, c2, hT, _⟩ := hc k hlt
        rw [← hst] at c0 c1 hT
        have hL60 : L.length ≤ 60 := by
          have := HS.out (R.getD k default) (by simp [List.getD_eq_getElem?_getD, hlt])
          rw [← hst] at this
          exact this
        obtain ⟨so, sc, hso⟩ := hT.shape
        rw [hso] at c2 hT
        dsimp only at c0 c1 hT
        have hTw := hT.mono HBR.out
        have d0 := (HBR.out.cell (p := ⟨b, off + k * 3, none⟩) hlb).trans c0
        have d1 := (HBR.out.cell (p := ⟨b, off + k * 3 + 1, none⟩) hlb).trans c1
        have d2 := (HBR.out.cell (p := ⟨b, off + k * 3 + 2, none⟩) hlb).trans c2
        have hp := hidx k hlt
        have hlb' : b < wr.heap.size := Nat.lt_of_lt_of_le hlb HBR.out.size
        have HST := Lib.hid hst
        have HSN := Lib.hid (show ((R.take (k + 1)).any fun s => padm s.1 s.2.1 s.2.2 now x) = (((R.take k).any fun s => padm s.1 s.2.1 s.2.2 now x) || padm e a L now x) from by
          rw [take_snoc R k hlt, List.any_append, show R[k] = (e, a, L) from by rw [hst]; simp [List.getD_eq_getElem?_getD, hlt]]
          simp)
        generalize ((R.take k).any fun s => padm s.1 s.2.1 s.2.2 now x) = y at HSN
        have HG := Lib.hid (gadmits_any e a _ L now x hx wr hTw)
        have HF := Lib.hid (fun W (hW : Below wr.heap.size wr W) => filter_any e a _ L now W (hTw.mono hW))
        have HE := Lib.hid (adm_fil e a L now x)
        generalize padm e a L now x = q at HG HSN HE
        generalize pfil e a L now = g at HF HE
        have HD := Lib.hid (And.intro hlb' (And.intro d0 (And.intro d1 d2)))
        clear hidx hc hlb c0 c1 c2 hT hL60 hso hTw hlb' hst
        go_wp2_with fail
        refine HG.out.mono ?_
        rintro e1 w1 ⟨rfl, hb1⟩
        replace d0 := (hb1.cell (p := ⟨b, off + k * 3, none⟩) HD.out.1).trans HD.out.2.1
        replace d1 := (hb1.cell (p := ⟨b, off + k * 3 + 1, none⟩) HD.out.1).trans HD.out.2.2.1
        replace d2 := (hb1.cell (p := ⟨b, off + k * 3 + 2, none⟩) HD.out.1).trans HD.out.2.2.2
        have HF1 := Lib.hid (HF.out w1 hb1)
        have HB1 := Lib.hid (HBR.out.trans (hb1.mono HBR.out.size))
        clear hb1 HF HG
        go_wp2_with fail
        refine HF1.out.mono ?_
        rintro e2 w2 ⟨u2, rfl, hs2, hb2, _⟩
        obtain ⟨o2, c2, rfl⟩ := hs2.shape
        have HA := Lib.hid (admitsB g.1 _ g.2 x w2 hs2)
        rw [HE.out] at HA
        have HB2 := Lib.hid (HB1.out.trans (hb2.mono HB1.out.size))
        clear hs2 hb2 HF1 HB1 d0 d1 d2
        go_wp2_with fail
        refine HA.out.mono ?_
        rintro e3 w3 ⟨rfl, hb3⟩
        have HB3 := Lib.hid (HB2.out.trans (hb3.mono HB2.out.size))
        clear hb3 HA HB2 HE
        cases q <;> cases y
        all_goals
          go_wp2_with fail
          go_roundw
          case rel => exact ⟨k + 1, by omega, by go_num, by rw [HSN.out]; rfl, HB3.out⟩
          case measure => simp [intOf]; omega
      · have HM := Lib.hid (merge_any _ R now wr (HX.out.mono HBR.out) (by omega) HS.out)
        have HE := Lib.hid (show adm (pmerge now R).1 (pmerge now R).2 x = ((R.take k).any fun s => padm s.1 s.2.1 s.2.2 now x) from by rw [pmerge_adm, List.take_of_length_le (by omega)])
        generalize ((R.take k).any fun s => padm s.1 s.2.1 s.2.2 now x) = y at HE
        generalize pmerge now R = g at HM HE
        clear hidx hc
        go_wp2_with fail
        refine HM.out.mono ?_
        rintro e w1 ⟨u1, rfl, hs1, hb1, _⟩
        obtain ⟨o1, c1, rfl⟩ := hs1.shape
        have HB1 := Lib.hid (HBR.out.trans (hb1.mono HBR.out.size))
        have HA := Lib.hid (admitsB g.1 _ g.2 x w1 hs1)
        rw [HE.out] at HA
        clear hs1 hb1 HM HBR HE
        go_wp2_with fail
        refine HA.out.mono ?_
        rintro e w3 ⟨rfl, hb3⟩
        have HB3 := Lib.hid (HB1.out.trans (hb3.mono HB1.out.size))
        clear hb3 HB1 HA
        cases y
        all_goals
          go_wp2_with fail
          refine (live_yes _).mono ?_
          rintro e w4 ⟨rfl, hb4⟩
          have HB4 := Lib.hid (HB3.out.trans (hb4.mono HB3.out.size))
          clear hb4 HB3
          go_wp2_with fail
          go_ret
          exact ⟨rfl, HB4.out⟩
end Go.Proofs.Ytfloipdkhmgibaa

/- The walk of ProxyNil. -/
namespace Go.Proofs.Ytfloipdkhmgibaa
open Go.RowKit Go.Lib Go.Maps Go.Sort
set_option maxRecDepth 20000

set_option maxRecDepth 20000

set_option maxHeartbeats 4000000 in
theorem law_nil (z : Int) (g : Str) (e : Bool) (u : Value) (A : List Str) (w : World) (h : Strs w u A) :
    Calls Try.prog 5 #[.int .i64 z, .string (bstr g), .agg #[.bool e, u]] w fun e w' => e = .returned (.bool true) ∧ Below w.heap.size w w' := by
  obtain ⟨uo, uc, rfl⟩ := h.shape
  obtain ⟨W0, hW0⟩ : ∃ W0, W0 = w.alloc (.cells #[.bool e, .slice uo A.length uc] 28) := ⟨_, rfl⟩
  have hb0 : Below w.heap.size w W0 := by rw [hW0]; exact (Below.refl _ _).alloc (Nat.le_refl _) _
  have f0 : CBox W0 w.heap.size 28 #[.bool e, .slice uo A.length uc] := by rw [hW0]; exact CBox.new _ rfl
  have HN := Lib.hid (new_no 0 W0 (by decide))
  have HT := Lib.hid (tell_nil z g e _ A W0 (h.mono hb0))
  obtain ⟨x0, _⟩ := f0.at_ 0 _ rfl
  obtain ⟨x1, _⟩ := f0.at_ 1 _ rfl
  have HB0 := Lib.hid hb0; have HW0 := Lib.hid hW0
  clear hb0 f0 h hW0
  go_enter Try.func5, Try.ntmps5
  go_wp2_with ((rw [← HW0.out]); (with_reducible refine HN.out.mono ?_); rintro e w1 ⟨rfl, hw1⟩; subst w1; clear HN HW0)
  refine HT.out.mono ?_
  rintro e w1 ⟨rfl, hb1⟩
  have HB1 := Lib.hid (HB0.out.trans (hb1.mono HB0.out.size))
  clear hb1 HT HB0 x0 x1
  go_wp2_with fail
  refine (all_nil z _).mono ?_
  rintro e w2 ⟨rfl, hb2⟩
  have HB2 := Lib.hid (HB1.out.trans (hb2.mono HB1.out.size))
  clear hb2 HB1
  go_wp2_with fail
  refine (forget_nil z _).mono ?_
  rintro e w3 ⟨rfl, hb3⟩
  have HB3 := Lib.hid (HB2.out.trans (hb3.mono HB2.out.size))
  clear hb3 HB2
  go_wp2_with fail
  refine (live_yes _).mono ?_
  rintro e w4 ⟨rfl, hb4⟩
  have HB4 := Lib.hid (HB3.out.trans (hb4.mono HB3.out.size))
  clear hb4 HB3
  go_wp2_with fail
  go_ret
  exact ⟨rfl, HB4.out⟩
end Go.Proofs.Ytfloipdkhmgibaa

/- The walk of ProxyTurned. -/
namespace Go.Proofs.Ytfloipdkhmgibaa
open Go.RowKit Go.Lib Go.Maps Go.Sort
set_option maxRecDepth 20000

set_option maxRecDepth 20000

theorem infoState : (Try.prog.info? 32).map (fun i => (i.zero, i.size, i.bytes)) = some (some (.agg #[.bool false, .int .i64 0, .slice none 0 0]), 3, 40) := by kernel_rfl

/-- a state's cells, by its number -/
def scell (R : List Stt) (src : Nat → Value) (k : Nat) : List Value := [.bool (R.getD k default).1, .int .i64 (R.getD k default).2.1, src k]
theorem sflat_get (R : List Stt) (src : Nat → Value) (I : List Nat) (k : Nat) (hk : k < I.length) : (I.flatMap (scell R src))[k * 3]? = some (.bool (R.getD (I.getD k 0) default).1) ∧ (I.flatMap (scell R src))[k * 3 + 1]? = some (.int .i64 (R.getD (I.getD k 0) default).2.1) ∧ (I.flatMap (scell R src))[k * 3 + 2]? = some (src (I.getD k 0)) := by
  induction I generalizing k with
  | nil => simp at hk
  | cons q Q ih =>
    cases k with
    | zero => simp [scell]
    | succ k =>
      have := ih k (by simpa using hk)
      have e : ∀ j, (k + 1) * 3 + j = (k * 3 + j) + 3 := fun j => by omega
      have e0 : (k + 1) * 3 = (k * 3) + 3 := by omega
      rw [e, e, e0]
      simpa [scell] using this
theorem sflat_len (R : List Stt) (src : Nat → Value) (I : List Nat) : (I.flatMap (scell R src)).length = I.length * 3 := by
  induction I with
  | nil => simp
  | cons q Q ih => rw [List.flatMap_cons, List.length_append, ih, List.length_cons]; simp [scell]; omega

/-- states one behind the other in a slice of the call's own -/
theorem sts_own {w' : World} {base : Nat} {v : Value} {R : List Stt} {src : Nat → Value} {I : List Nat} (h : w'.ownsRow base 32 3 v I.length (I.flatMap (scell R src))) (hl : I.length ≤ 3518437208883)
    (hT : ∀ i ∈ I, Tms w' (src i) (R.getD i default).2.2 ∧ (Lit.int .i64 (R.getD i default).2.1).wf = true) : Sts w' v (I.map fun i => R.getD i default) := by
  rcases h.2 with ⟨rfl, h0⟩ | ⟨g, cap, cur, rfl, hb, hg, hn, hm, hs, ht⟩
  · rw [List.length_eq_zero_iff] at h0
    subst h0
    exact Sts.nil w'
  · refine ⟨_, cap, g, 0, fun k => src (I.getD k 0), by simp, .inr rfl, by simpa using hl, fun k hk => ?_⟩
    have hk' : k < I.length := by simpa using hk
    obtain ⟨x0, x1, x2⟩ := sflat_get R src I k hk'
    have hc := h.cells (g := g) rfl
    have c0 := hc _ _ x0
    have c1 := hc _ _ x1
    have c2 := hc _ _ x2
    rw [add_lit] at c0 c1 c2
    have hi := hT (I.getD k 0) (by simp [List.getD_eq_getElem?_getD, hk'])
    have e : (I.map fun i => R.getD i default).getD k default = R.getD (I.getD k 0) default := by simp [List.getD_eq_getElem?_getD, hk']
    rw [e]
    refine ⟨(Array.getElem?_eq_some_iff.1 hg).1, c0, ?_, ?_, hi⟩
    · rw [show 0 + k * 3 + 1 = 0 + (k * 3 + 1) from by omega]; exact c1
    · rw [show 0 + k * 3 + 2 = 0 + (k * 3 + 2) from by omega]; exact c2

theorem Sts.parts {w : World} {v : Value} {R : List Stt} (h : Sts w v R) :
    ∃ ao cap b off, ∃ src : Nat → Value, v = .slice ao R.length cap ∧ (R = [] ∨ ao = some ⟨b, off, none⟩) ∧ R.length ≤ 3518437208883 ∧ (∀ ty w', (Builtin.len_ #[22] ty #[v]).run Try.prog w' = .ok (.int .i64 R.length) w') ∧
      (∀ k, k < R.length → ∀ w', (Instr.indexAt 22 v (.int .i64 k)).run Try.prog w' = .ok (.pointer (some ⟨b, off + k * 3, none⟩)) w') ∧
      (∀ k, k < R.length → b < w.heap.size ∧ w.cell? ⟨b, off + k * 3, none⟩ = some (.bool (R.getD k default).1) ∧ w.cell? ⟨b, off + k * 3 + 1, none⟩ = some (.int .i64 (R.getD k default).2.1) ∧ w.cell? ⟨b, off + k * 3 + 2, none⟩ = some (src k) ∧
        Tms w (src k) (R.getD k default).2.2 ∧ (Lit.int .i64 (R.getD k default).2.1).wf = true) := by
  obtain ⟨ao, cap, b, off, src, rfl, h0, h1, h2⟩ := h
  refine ⟨ao, cap, b, off, src, rfl, h0, h1, fun ty w' => run_len_any Try.underlying22 ao R.length cap ty w', fun k hk w' => ?_, h2⟩
  rcases h0 with h0 | rfl
  · subst h0; exact absurd hk (by simp)
  · exact run_index_any (P := Try.prog) (s := 3) Try.underlying22 (fun w => by kernel_rfl) b off R.length cap k hk w'
/-- a slice that came in, as what is appended -/
theorem sts_slice {w W : World} {ao : Option Addr} {cap b off : Nat} {src : Nat → Value} {R : List Stt} (hao : R = [] ∨ ao = some ⟨b, off, none⟩) (hB : Below w.heap.size w W)
    (hc : ∀ k, k < R.length → b < w.heap.size ∧ w.cell? ⟨b, off + k * 3, none⟩ = some (.bool (R.getD k default).1) ∧ w.cell? ⟨b, off + k * 3 + 1, none⟩ = some (.int .i64 (R.getD k default).2.1) ∧ w.cell? ⟨b, off + k * 3 + 2, none⟩ = some (src k) ∧
        Tms w (src k) (R.getD k default).2.2 ∧ (Lit.int .i64 (R.getD k default).2.1).wf = true) : SliceOf W 3 (.slice ao R.length cap) R.length ((List.range R.length).flatMap (scell R src)) := by
  refine ⟨ao, cap, rfl, by rw [sflat_len]; simp, fun x hx => ?_, ?_⟩
  · obtain ⟨k, hk, hx⟩ := List.mem_flatMap.1 hx
    obtain ⟨_, _, _, _, hT, _⟩ := hc k (List.mem_range.1 hk)
    obtain ⟨so, sc, e⟩ := hT.shape
    simp [scell] at hx
    rcases hx with rfl | rfl | rfl
    · rfl
    · rfl
    · rw [e]; rfl
  · rcases hao with rfl | rfl
    · exact .inl rfl
    · refine .inr ⟨_, rfl, fun j x hj => ?_⟩
      have hlt : j < R.length * 3 := by
        have := (List.getElem?_eq_some_iff.1 hj).1
        rw [sflat_len] at this
        simpa using this
      have hk : j / 3 < R.length := by omega
      obtain ⟨hb, c0, c1, c2, _⟩ := hc (j / 3) hk
      obtain ⟨x0, x1, x2⟩ := sflat_get R src (List.range R.length) (j / 3) (by simpa using hk)
      have eg : (List.range R.length).getD (j / 3) 0 = j / 3 := by simp [List.getD_eq_getElem?_getD, hk]
      rw [eg] at x0 x1 x2
      rw [add_lit, hB.cell (p := ⟨b, off + j, none⟩) hb]
      have h3 : j % 3 = 0 ∨ j % 3 = 1 ∨ j % 3 = 2 := by omega
      rcases h3 with h3 | h3 | h3
      · have e : j = j / 3 * 3 := by omega
        rw [e] at hj ⊢
        rw [x0] at hj
        rw [← hj]; exact c0
      · have e : j = j / 3 * 3 + 1 := by omega
        rw [e] at hj ⊢
        rw [x1] at hj
        rw [← hj]; exact c1
      · have e : j = j / 3 * 3 + 2 := by omega
        rw [e] at hj ⊢
        rw [x2] at hj
        rw [← hj]; exact c2

theorem rev_get (n k : Nat) (h : k < n) : (List.range n).reverse.take (n - k) = (List.range n).reverse.take (n - (k + 1)) ++ [k] := by
  have h1 : n - k = (n - (k + 1)) + 1 := by omega
  have h2 : n - (k + 1) < (List.range n).reverse.length := by simp; omega
  rw [h1, take_snoc _ _ h2]
  congr 1
  simp
  omega
theorem range_gets (R : List Stt) : (List.range R.length).map (fun i => R.getD i default) = R := by
  refine List.ext_getElem (by simp) fun i h1 h2 => ?_
  simp [List.getD_eq_getElem?_getD, h2]

set_option maxHeartbeats 8000000 in
theorem law_turned (v : Value) (R : List Stt) (now : Int) (w : World) (h : Sts w v R) (hcp : ∀ ao n c, v = .slice ao n c → n ≤ c) :
    Calls Try.prog 6 #[v, .int .i64 now] w fun e w' => e = .returned (.bool true) ∧ Below w.heap.size w w' := by
  obtain ⟨vo, vc, rfl⟩ := h.shape
  cases hf : pfew R
  · have HF := Lib.hid (pfew_any _ R w h)
    rw [hf] at HF
    clear h hf
    go_enter Try.func6, Try.ntmps6
    go_wp2_with ((with_reducible refine HF.out.mono ?_); rintro e w1 ⟨rfl, hw1⟩; subst w1)
    refine (live_yes _).mono ?_
    rintro e w2 ⟨rfl, hb⟩
    have HB := Lib.hid hb
    clear hb HF
    go_wp2_with fail
    go_ret
    exact ⟨rfl, HB.out⟩
  · have HF := Lib.hid (pfew_any _ R w h)
    rw [hf] at HF
    have hfe := hf
    unfold pfew at hfe
    rw [Bool.and_eq_true, decide_eq_true_eq, List.all_eq_true] at hfe
    have HS := Lib.hid (show ∀ s ∈ R, s.2.2.length ≤ 60 from fun s hs => of_decide_eq_true (hfe.2 s hs))
    have hl10 := hfe.1
    have hcap := hcp _ _ _ rfl
    obtain ⟨ao, cap, b, off, src, e, hao, hm, hlen, hidx, hc⟩ := h.parts
    injection e with e1 _ e2
    subst e1 e2
    clear hcp
    obtain ⟨i0, hi, hz0, hz1, hz2⟩ := info_parts infoState
    have HX := Lib.hid h
    clear h hf hfe
    go_enter Try.func6, Try.ntmps6
    go_wp2_with ((with_reducible refine HF.out.mono ?_); rintro e w1 ⟨rfl, hw1⟩; subst w1)
    clear HF
    go_loopw [5, 6] (fun y i wr => ∃ k, k ≤ R.length ∧ i = .int .i64 ((k : Int) - 1) ∧ wr.ownsRow w.heap.size 32 3 y ((List.range R.length).reverse.take (R.length - k)).length (((List.range R.length).reverse.take (R.length - k)).flatMap (scell R src)) ∧ Below w.heap.size w wr) (fun _ i _ => (intOf i + 1).toNat)
    case atStart => exact ⟨R.length, Nat.le_refl _, rfl, by rw [Nat.sub_self]; exact World.ownsRow_nil _ _ _ _, Below.refl _ _⟩
    case round =>
      obtain ⟨k, hk, rfl, hrow, hbr⟩ := hrel
      have HBR := Lib.hid hbr
      clear hbr
      cases k with
      | succ m =>
        have hlt : m < R.length := by omega
        have HEQ := Lib.hid (rev_get R.length m hlt)
        have hIl : ((List.range R.length).reverse.take (R.length - (m + 1))).length ≤ 10 := by rw [List.length_take]; simp; omega
        generalize (List.range R.length).reverse.take (R.length - (m + 1)) = I at hrow HEQ hIl
        obtain ⟨⟨e, a, L⟩, hst⟩ : ∃ t : Stt, t = R.getD m default := ⟨_, rfl⟩
        obtain ⟨hlb, c0, c1, c2, hT, _⟩ := hc m hlt
        rw [← hst] at c0 c1 hT
        have hL60 : L.length ≤ 60 := by
          have := HS.out (R.getD m default) (by simp [List.getD_eq_getElem?_getD, hlt])
          rw [← hst] at this
          exact this
        obtain ⟨so, sc, hso⟩ := hT.shape
        rw [hso] at c2 hT
        dsimp only at c0 c1 hT
        have hTw := hT.mono HBR.out
        have d0 := (HBR.out.cell (p := ⟨b, off + m * 3, none⟩) hlb).trans c0
        have d1 := (HBR.out.cell (p := ⟨b, off + m * 3 + 1, none⟩) hlb).trans c1
        have d2 := (HBR.out.cell (p := ⟨b, off + m * 3 + 2, none⟩) hlb).trans c2
        have hp := hidx m hlt
        have hlb' : b < wr.heap.size := Nat.lt_of_lt_of_le hlb HBR.out.size
        have HST := Lib.hid hst

        simp only [show ((m + 1 : Nat) : Int) - 1 = (m : Int) from by omega]
        have HL3 := Lib.hid (show I.length + 1 ≤ maxLen ∧ (I.length + 1) * 40 ≤ 140737488355328 from by unfold maxLen; omega)
        have HRW := Lib.hid hrow
        have HSO := Lib.hid hso
        clear hidx hc hlb hT hL60 hTw c0 c1 c2 hlb' hst hIl hrow hso
        go_wp2_with (at_builtin; refine wpList_append_vals _ rfl _ _ 22 rfl w.heap.size 32 i0 _ 3 40 Try.underlying22 hi hz0 hz1 hz2 rfl (by decide) _ I.length (I.flatMap (scell R src)) rfl (HRW.out.alloc _) _ 1 [.bool e, .int .i64 a, .slice so L.length sc] rfl (sliceOf_block (heap_new _ _ _ rfl) rfl (by simp [Value.oneCell'])) HL3.out.1 HL3.out.2 (by have := HBR.out.size; simp; omega) ?_; intro v' w2 hown hg _; have HOW := Lib.hid hown; have HG := Lib.hid hg; clear hown hg)
        go_roundw
        case rel =>
          refine ⟨m, by omega, rfl, ?_, ((HBR.out.alloc HBR.out.size _).grown HG.out (by rw [World.size_alloc]; have := HBR.out.size; omega) (fun b e => (HRW.out.lt b e).1))⟩
          rw [HEQ.out, List.length_append, List.flatMap_append]
          have := HOW.out
          simp only [List.flatMap_cons, List.flatMap_nil, List.append_nil, scell, List.length_singleton]
          rw [← HST.out, HSO.out]
          exact this
        case measure => simp [intOf]
      | zero =>
        have hIl : ((List.range R.length).reverse.take (R.length - 0)) = (List.range R.length).reverse := List.take_of_length_le (by simp)
        rw [hIl] at hrow
        simp only [show ((0 : Nat) : Int) - 1 = (-1 : Int) from rfl]
        have HL3 := Lib.hid (show (List.range R.length).reverse.length + R.length ≤ maxLen ∧ ((List.range R.length).reverse.length + R.length) * 40 ≤ 140737488355328 from by unfold maxLen; simp; omega)
        have HSL := Lib.hid (sts_slice (cap := vc) hao HBR.out hc)
        have HRW := Lib.hid hrow
        have HC := Lib.hid hc
        clear hc hrow hIl
        go_wp2_with (at_builtin; refine wpList_append_vals _ rfl _ _ 22 rfl w.heap.size 32 i0 _ 3 40 Try.underlying22 hi hz0 hz1 hz2 rfl (by decide) _ _ _ rfl HRW.out _ R.length ((List.range R.length).flatMap (scell R src)) rfl HSL.out HL3.out.1 HL3.out.2 HBR.out.size ?_; intro v' w2 hown hg _; have HOW := Lib.hid hown; have HG := Lib.hid hg; clear hown hg)
        have HB2 := Lib.hid (HBR.out.grown HG.out HBR.out.size (fun b e => (HRW.out.lt b e).1))
        have HM2 := Lib.hid (show Sts w2 v' (R.reverse ++ R) from by
          have h1 : w2.ownsRow w.heap.size 32 3 v' ((List.range R.length).reverse ++ List.range R.length).length (((List.range R.length).reverse ++ List.range R.length).flatMap (scell R src)) := by
            rw [List.length_append, List.flatMap_append, List.length_range]
            exact HOW.out
          have h2 := sts_own h1 (by simp; omega) (fun i hi => by
            have hlt : i < R.length := by simpa using hi
            obtain ⟨_, _, _, _, hT, hw⟩ := HC.out i hlt
            exact ⟨hT.mono HB2.out, hw⟩)
          rwa [List.map_append, List.map_reverse, range_gets] at h2)
        clear HOW HG HRW HSL HL3 HBR
        have HHX := Lib.hid (HX.out.mono HB2.out)
        have HAO := Lib.hid hao
        clear HX hao hi hz0 hz1 hz2
        go_loopw [7] (fun i wr => ∃ k, k ≤ R.length ∧ i = .int .i64 (k : Nat) ∧ Below w2.heap.size w2 wr) (fun i _ => R.length - (intOf i).toNat)
        case atStart => exact ⟨0, Nat.zero_le _, rfl, Below.refl _ _⟩
        case round =>
          obtain ⟨k, hk, rfl, hbr⟩ := hrel
          have HBW := Lib.hid hbr
          have HBR := Lib.hid (HB2.out.trans (hbr.mono HB2.out.size))
          clear hbr
          by_cases hlt : k < R.length
          · have hao' : vo = some ⟨b, off, none⟩ := by
              rcases HAO.out with h | h
              · subst h; simp at hlt
              · exact h
            subst hao'
            have hc := HC.out
            obtain ⟨⟨e, a, L⟩, hst⟩ : ∃ t : Stt, t = R.getD k default := ⟨_, rfl⟩
            obtain ⟨hlb, c0, c1, c2, hT, _⟩ := hc k hlt
            rw [← hst] at c0 c1 hT
            have hL60 : L.length ≤ 60 := by
              have := HS.out (R.getD k default) (by simp [List.getD_eq_getElem?_getD, hlt])
              rw [← hst] at this
              exact this
            obtain ⟨so, sc, hso⟩ := hT.shape
            rw [hso] at c2 hT
            dsimp only at c0 c1 hT
            have hTw := hT.mono HBR.out
            have d0 := (HBR.out.cell (p := ⟨b, off + k * 3, none⟩) hlb).trans c0
            have d1 := (HBR.out.cell (p := ⟨b, off + k * 3 + 1, none⟩) hlb).trans c1
            have d2 := (HBR.out.cell (p := ⟨b, off + k * 3 + 2, none⟩) hlb).trans c2
            have hp := hidx k hlt
            have hlb' : b < wr.heap.size := Nat.lt_of_lt_of_le hlb HBR.out.size
            have HST := Lib.hid hst

            have hsub : Sts wr (.slice (some ⟨b, off + k * 3, none⟩) 1 (vc - k)) [(e, a, L)] := by
              refine ⟨_, _, b, off + k * 3, fun _ => .slice so L.length sc, rfl, .inr rfl, by simp, fun j hj => ?_⟩
              obtain rfl : j = 0 := by simp at hj; omega
              have hw := (hc k hlt).2.2.2.2.2
              rw [← hst] at hw
              exact ⟨hlb', by simpa using d0, by simpa using d1, by simpa using d2, hTw, hw⟩
            have HM1 := Lib.hid (fun W (hW : Below wr.heap.size wr W) => merge_any _ [(e, a, L)] now W (hsub.mono hW) (by simp) (by simpa using hL60))
            have HF1 := Lib.hid (fun W (hW : Below wr.heap.size wr W) => filter_any e a _ L now W (hTw.mono hW))
            have HP1 := Lib.hid (pmerge_one now (e, a, L))
            dsimp only at HP1
            generalize pmerge now [(e, a, L)] = g1 at HM1 HP1
            generalize pfil e a L now = g2 at HF1 HP1
            have hne : vc ≠ k := by omega
            have hb1 : (k : Int) ≤ (k : Int) + 1 := by omega
            have hb2 : (k : Int) + 1 ≤ (vc : Int) := by omega
            have hb3 : ((k : Int) + 1).toNat = k + 1 := by omega
            have hb4 : k + 1 - k = 1 := by omega
            have hwr : IntKind.i64.wrap ((k : Int) + 1) = (k : Int) + 1 := IntWalk.i64_in _ (by omega)
            have hb5 : (⟨b, off, none⟩ : Addr).add (k * 3) = ⟨b, off + k * 3, none⟩ := add_lit _ _ _
            have HK := Lib.hid (show ∀ w', Below wr.heap.size wr w' → w'.cell? ⟨b, off + k * 3, none⟩ = some (.bool e) ∧ w'.cell? ⟨b, off + k * 3 + 1, none⟩ = some (.int .i64 a) ∧ w'.cell? ⟨b, off + k * 3 + 2, none⟩ = some (.slice so L.length sc) from fun w' hb => ⟨(hb.cell (p := ⟨b, off + k * 3, none⟩) hlb').trans d0, (hb.cell (p := ⟨b, off + k * 3 + 1, none⟩) hlb').trans d1, (hb.cell (p := ⟨b, off + k * 3 + 2, none⟩) hlb').trans d2⟩)
            have R0 := Lib.hid (Below.drew (Below.refl wr.heap.size wr))
            clear hidx hc hlb c0 c1 c2 hT hL60 hso hTw d0 d1 d2 hlb' hst hsub HAO
            go_wp2_with fail
            go_region_held3 (fun w' => w'.cell? ⟨b, off + k * 3, none⟩ = some (.bool e) ∧ w'.cell? ⟨b, off + k * 3 + 1, none⟩ = some (.int .i64 a) ∧ w'.cell? ⟨b, off + k * 3 + 2, none⟩ = some (.slice so L.length sc)) (first | exact HK.out _ R3.out | exact HK.out _ R2.out | exact HK.out _ R1.out | exact HK.out _ R0.out) (first | ((with_reducible refine (psame_yes _ _ _ _ _ _ _ T1.out T2.out HP1.out.1 HP1.out.2).mono ?_); rintro e v3w ⟨rfl, hb⟩; replace T1 := Lib.hid (T1.out.mono hb); replace T2 := Lib.hid (T2.out.mono hb); have R3 := Lib.hid (R2.out.trans (hb.mono R2.out.size)); clear hb) | ((with_reducible refine (HF1.out _ R1.out).mono ?_); rintro e v2w ⟨u2, rfl, ho, hb, _⟩; obtain ⟨o2, c2, rfl⟩ := ho.shape; have T2 := Lib.hid ho; clear ho; replace T1 := Lib.hid (T1.out.mono hb); have R2 := Lib.hid (R1.out.trans (hb.mono R1.out.size)); clear hb) | ((with_reducible refine (HM1.out _ R0.out).mono ?_); rintro e v1w ⟨u1, rfl, ho, hb, _⟩; obtain ⟨o1, c1, rfl⟩ := ho.shape; have T1 := Lib.hid ho; clear ho; have R1 := Lib.hid (R0.out.trans (hb.mono R0.out.size)); clear hb))
            have HB4 := Lib.hid (HBW.out.trans (R3.out.mono HBW.out.size))
            clear R0 R1 R2 R3 T1 T2 HK HM1 HF1 HP1
            go_wp2_with fail
            go_roundw
            case rel => exact ⟨k + 1, by omega, by go_num, HB4.out⟩
            case measure => simp [intOf]; omega
          · have HM := Lib.hid (merge_any _ R now wr (HHX.out.mono HBW.out) (by omega) HS.out)
            go_wp2_with fail
            refine HM.out.mono ?_
            rintro e w3 ⟨u1, rfl, hs1, hb1, _⟩
            obtain ⟨o1, c1, rfl⟩ := hs1.shape
            have S1 := Lib.hid hs1; have HB1 := Lib.hid (HBW.out.trans (hb1.mono HBW.out.size))
            clear hs1 hb1 HM HBR HBW
            have HM := Lib.hid (merge_any _ (R.reverse ++ R) now w3 (HM2.out.mono HB1.out) (by simp; omega) (fun s hs => HS.out s (by simpa using hs)))
            go_wp2_with fail
            refine HM.out.mono ?_
            rintro e w4 ⟨u2, rfl, hs2, hb2, _⟩
            obtain ⟨o2, c2, rfl⟩ := hs2.shape
            have HB4 := Lib.hid (HB1.out.trans (hb2.mono HB1.out.size))
            have HQ := Lib.hid (psame_yes _ _ _ _ _ _ w4 (S1.out.mono hb2) hs2 (pmerge_twice now R).1 (pmerge_twice now R).2)
            clear hs2 hb2 HM HB1 S1
            go_wp2_with fail
            refine HQ.out.mono ?_
            rintro e w5 ⟨rfl, hb3⟩
            have HB3 := Lib.hid (HB4.out.trans (hb3.mono HB4.out.size))
            clear hb3 HB4 HQ
            go_wp2_with fail
            refine (live_yes _).mono ?_
            rintro e w6 ⟨rfl, hb4⟩
            have HB4 := Lib.hid (HB2.out.trans ((HB3.out.trans (hb4.mono HB3.out.size)).mono HB2.out.size))
            clear hb4 HB3
            go_wp2_with fail
            go_ret
            exact ⟨rfl, HB4.out⟩
end Go.Proofs.Ytfloipdkhmgibaa
