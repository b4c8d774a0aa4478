/- siphonlaw08.copied. -/
import Derived.Test.YthkogdgfkhhleaaJDecode
import Derived.Test.YthkogdgfkhhleaaJEnc
import Derived.Test.YthkogdgfkhhleaaJBody2
namespace Go.Proofs.Ythkogdgfkhhleaa
open Go.RowKit Go.Sort
set_option maxRecDepth 20000
set_option maxRecDepth 20000
attribute [local go_sem] bstr_size bstr_extract bstr_toList bstr_get

theorem strs_slice8 {w : World} {v : Value} {L : List Str} (h : Strs w v L) (n : Nat) (hn : L.length = n) : SliceOf w 1 v n (L.map encStr) := by
  subst hn
  obtain ⟨ao, cap, b, off, rfl, h0, h1, h2, h3⟩ := h
  refine ⟨ao, cap, rfl, by simp, fun x hx => by obtain ⟨s, _, rfl⟩ := List.mem_map.1 hx; rfl, ?_⟩
  rcases h0 with rfl | rfl
  · exact .inl rfl
  · refine .inr ⟨_, rfl, fun j x hj => ?_⟩
    have hj' : j < L.length := by simpa using (List.getElem?_eq_some_iff.1 hj).1
    rw [add_lit, (h3 j hj').2]
    simpa [List.getD_eq_getElem?_getD, hj'] using hj
theorem cp_after {W w8 : World} {o : Obj} {vs vr v' : Value} {L : List Str} (hst : Strs W vs L) (hne : L ≠ [] → vs.ownBlock ≠ vr.ownBlock) (hg : (W.alloc o).grownBy w8 vr.ownBlock) (hv : v'.ownBlock = vr.ownBlock ∨ v'.ownBlock = some (W.alloc o).heap.size) :
    Strs w8 vs L ∧ (L ≠ [] → vs.ownBlock ≠ v'.ownBlock) := by
  refine ⟨(hst.mono ((Below.refl _ _).alloc (Nat.le_refl _) o)).grown' hg hne, fun hL => ?_⟩
  rcases hv with e | e
  · rw [e]; exact hne hL
  · obtain ⟨b, hb, hlt⟩ := hst.block hL
    rw [e, hb, World.size_alloc]
    intro e'
    injection e' with e'
    omega
theorem rowq9 {w : World} {v : Value} {Q : List QRec} {lo b : Nat} (h : RowQ w lo v Q) (hb : b < lo) (v0 v1 v2 v3 v4 v5 v6 v7 v8 : Value) :
    RowQ (((((((((w.setCell ⟨b, 0, none⟩ v0).setCell ⟨b, 1, none⟩ v1).setCell ⟨b, 2, none⟩ v2).setCell ⟨b, 3, none⟩ v3).setCell ⟨b, 4, none⟩ v4).setCell ⟨b, 5, none⟩ v5).setCell ⟨b, 6, none⟩ v6).setCell ⟨b, 7, none⟩ v7).setCell ⟨b, 8, none⟩ v8) lo v Q :=
  ((((((((h.far (p := ⟨b, 0, none⟩) hb v0).far (p := ⟨b, 1, none⟩) hb v1).far (p := ⟨b, 2, none⟩) hb v2).far (p := ⟨b, 3, none⟩) hb v3).far (p := ⟨b, 4, none⟩) hb v4).far (p := ⟨b, 5, none⟩) hb v5).far (p := ⟨b, 6, none⟩) hb v6).far (p := ⟨b, 7, none⟩) hb v7).far (p := ⟨b, 8, none⟩) hb v8
def RetCopy (w : World) (k v : Int) (g : Str) (mx : Int) (q : Bool) (r ev : Int) (L : List Str) (R : List Rec) (e : Ending) (w' : World) : Prop :=
  ∃ so sc ro rc, e = .returned (.agg (msgCells k v g mx q r ev so L.length sc ro R.length rc)) ∧ Strs w' (.slice so L.length sc) L ∧ Recs w' (.slice ro R.length rc) R ∧ Below w.heap.size w w'
theorem row_nat (n : Nat) (h : n ≤ 100) : n ≤ maxLen ∧ 0 + n ≤ maxLen ∧ (0 + n) * 16 ≤ 140737488355328 ∧ n + 1 ≤ maxLen ∧ (n + 1) * 48 ≤ 140737488355328 := by
  refine ⟨Nat.le_trans h (by decide), ?_, ?_, ?_, ?_⟩
  · rw [Nat.zero_add]; exact Nat.le_trans h (by decide)
  · rw [Nat.zero_add]; exact Nat.le_trans (Nat.mul_le_mul_right 16 h) (by decide)
  · exact Nat.le_trans (Nat.succ_le_succ h) (by decide)
  · exact Nat.le_trans (Nat.mul_le_mul_right 48 (Nat.succ_le_succ h)) (by decide)

set_option maxHeartbeats 4000000 in
theorem copied_any (k v mx r ev : Int) (g : Str) (q : Bool) (so : Option Addr) (L : List Str) (sc : Nat) (ro : Option Addr) (R : List Rec) (rc : Nat) (w : World)
    (hs : Strs w (.slice so L.length sc) L) (hr : Recs w (.slice ro R.length rc) R) (hL : L.length ≤ 100) (hR : R.length ≤ 40) (hRS : ∀ r ∈ R, r.2.2.length ≤ 100) :
    Calls Try.prog 15 #[.agg (msgCells k v g mx q r ev so L.length sc ro R.length rc)] w (RetCopy w k v g mx q r ev L R) := by
  have b0 : (⟨#[]⟩ : ByteArray) = bstr [] := bstr_nil.symm
  obtain ⟨i1, hi1, hz10, hz11, hz12⟩ := info_parts infoAddr8
  obtain ⟨i0, hi, hz0, hz1, hz2⟩ := info_parts infoRec
  obtain ⟨ns, hns⟩ : ∃ ns, L.length = ns := ⟨_, rfl⟩
  obtain ⟨nr, hnr⟩ : ∃ nr, R.length = nr := ⟨_, rfl⟩
  have l2 := run_len_any (P := Try.prog) Try.underlying25 ro nr rc
  unfold RetCopy
  rw [hns] at hs ⊢
  rw [hnr] at hr ⊢
  obtain ⟨b1, hb1⟩ : ∃ b, w.heap.size = b := ⟨_, rfl⟩
  obtain ⟨b2, hb2⟩ : ∃ b, b1 + 1 = b := ⟨_, rfl⟩
  obtain ⟨b3, hb3⟩ : ∃ b, b2 + 1 = b := ⟨_, rfl⟩
  obtain ⟨W1, hW1⟩ : ∃ W1, w.alloc (.cells (msgCells k v g mx q r ev so ns sc ro nr rc) 27) = W1 := ⟨_, rfl⟩
  obtain ⟨W2, hW2⟩ : ∃ W2, W1.alloc (.cells #[.int .i64 0, .int .i64 0, .string (bstr []), .int .i64 0, .bool false, .int .i64 0, .int .i64 0, .slice none 0 0, .slice none 0 0] 27) = W2 := ⟨_, rfl⟩
  obtain ⟨W3, hW3⟩ : ∃ W3, W2.alloc (.cells (msgCells k v g mx q r ev so ns sc ro nr rc) 27) = W3 := ⟨_, rfl⟩
  have hs1 : W1.heap.size = b2 := by rw [← hW1, World.size_alloc, hb1, hb2]
  have hs2 : W2.heap.size = b3 := by rw [← hW2, World.size_alloc, hs1, hb3]
  have hs3 : W3.heap.size = b3 + 1 := by rw [← hW3, World.size_alloc, hs2]
  have k1 : Below b1 w W1 := by rw [← hW1]; exact (Below.refl b1 w).alloc (by rw [hb1]; exact Nat.le_refl _) _
  have k2 : Below b2 W1 W2 := by rw [← hW2]; exact (Below.refl b2 W1).alloc (by rw [hs1]; exact Nat.le_refl _) _
  have k3 : Below b3 W2 W3 := by rw [← hW3]; exact (Below.refl b3 W2).alloc (by rw [hs2]; exact Nat.le_refl _) _
  have X1 : CBox W3 b1 27 (msgCells k v g mx q r ev so ns sc ro nr rc) := ((show CBox W1 b1 _ _ from by rw [← hW1]; exact CBox.new _ hb1.symm).below k2 (by omega)).below k3 (by omega)
  have X2 : CBox W3 b2 27 #[.int .i64 0, .int .i64 0, .string (bstr []), .int .i64 0, .bool false, .int .i64 0, .int .i64 0, .slice none 0 0, .slice none 0 0] := (show CBox W2 b2 _ _ from by rw [← hW2]; exact CBox.new _ hs1.symm).below k3 (by omega)
  have X3 : CBox W3 b3 27 (msgCells k v g mx q r ev so ns sc ro nr rc) := by rw [← hW3]; exact CBox.new _ hs2.symm
  have HX1 := Lib.hid X1; have HX2 := Lib.hid X2; have HX3 := Lib.hid X3
  have HB := Lib.hid (show Below b1 w W3 from k1.trans ((k2.trans (k3.mono (by omega))).mono (by omega)))
  have HN := Lib.hid (And.intro hb1 (And.intro hb2 (And.intro hb3 (And.intro hs3 (And.intro hs1 hs2)))))
  have HW1 := Lib.hid hW1; have HW2 := Lib.hid hW2; have HW3 := Lib.hid hW3
  have HS := Lib.hid hs; have HR := Lib.hid hr
  have HNN := Lib.hid (And.intro hns hnr)
  have HBD := Lib.hid (And.intro hL (And.intro hR hRS))
  have HX0 := Lib.hid (((show CBox W1 b1 27 (msgCells k v g mx q r ev so ns sc ro nr rc) from by rw [← hW1]; exact CBox.new _ hb1.symm).below k2 (by omega)))
  clear hs hr hL hR hRS hns hnr hb1 hb2 hb3 hW1 hW2 hW3 hs1 hs2 hs3 k1 k2 k3 X1 X2 X3
  go_enter Try.func15, Try.ntmps15
  go_upto_region 1 with fail
  rw [HW1.out, HN.out.1, HN.out.2.1, HW2.out]
  have X0 := HX0.out
  obtain ⟨x0, xf0⟩ := CBox.at_ X0 0 _ rfl
  obtain ⟨x1, xf1⟩ := CBox.at_ X0 1 _ rfl
  obtain ⟨x2, xf2⟩ := CBox.at_ X0 2 _ rfl
  obtain ⟨x3, xf3⟩ := CBox.at_ X0 3 _ rfl
  obtain ⟨x4, xf4⟩ := CBox.at_ X0 4 _ rfl
  obtain ⟨x5, xf5⟩ := CBox.at_ X0 5 _ rfl
  obtain ⟨x6, xf6⟩ := CBox.at_ X0 6 _ rfl
  obtain ⟨x7, xf7⟩ := CBox.at_ X0 7 _ rfl
  obtain ⟨x8, xf8⟩ := CBox.at_ X0 8 _ rfl
  clear X0
  go_upto_region 2 with fail
  rw [HN.out.2.2.2.2.2, HW3.out]
  clear x0 xf0 x1 xf1 x2 xf2 x3 xf3 x4 xf4 x5 xf5 x6 xf6 x7 xf7 x8 xf8
  have x7 := (HX1.out.at_ 7 _ rfl).1
  obtain ⟨y7, yf7⟩ := HX3.out.at_ 7 _ rfl
  go_upto_region 3 with fail
  obtain ⟨W4, hW4⟩ : ∃ W4, W3.setCell ⟨b3, 7, none⟩ (.slice none 0 0) = W4 := ⟨_, rfl⟩
  have k4 : Below b3 W3 W4 := by rw [← hW4]; exact (Below.refl b3 W3).setCell (p := ⟨b3, 7, none⟩) (Nat.le_refl _) _
  have hs4 : W4.heap.size = b3 + 1 := by rw [← hW4, World.size_setCell, HN.out.2.2.2.1]
  have HX4 := Lib.hid (show CBox W4 b3 27 #[.int .i64 k, .int .i64 v, .string (bstr g), .int .i64 mx, .bool q, .int .i64 r, .int .i64 ev, .slice none 0 0, .slice ro nr rc] from by rw [← hW4]; exact HX3.out.set 7 _)
  have HA1 := Lib.hid (HX1.out.below k4 (by have := HN.out; omega)); have HA2 := Lib.hid (HX2.out.below k4 (by have := HN.out; omega))
  have HB4 := Lib.hid (HB.out.trans (k4.mono (by have := HN.out; omega)))
  have HSL := Lib.hid (strs_slice8 (HS.out.mono (HN.out.1 ▸ HB4.out)) ns HNN.out.1)
  have HLen := Lib.hid HS.out.len
  obtain ⟨_, hn2, hn3, _, _⟩ := row_nat ns (HNN.out.1 ▸ HBD.out.1)
  have hbs : b3 + 1 ≤ W4.heap.size := by rw [hs4]; exact Nat.le_refl _
  rw [hW4]
  have x7 := (HA1.out.at_ 7 _ rfl).1
  obtain ⟨y7, yf7⟩ := HX4.out.at_ 7 _ rfl
  clear hW4 k4 hs4
  go_upto_region 4 with ((at_builtin; refine wpList_append_vals _ rfl _ _ 24 rfl (b3 + 1) 23 i1 _ 1 16 Try.underlying24 hi1 hz10 hz11 hz12 rfl (by decide) (.slice none 0 0) 0 [] rfl (World.ownsRow_nil _ _ _ _) _ ns (L.map encStr) rfl HSL.out hn2 hn3 hbs ?_; intro v5 w5 ho hgr hv; obtain ⟨lo, lc, rfl⟩ := own_form ho; have HO5 := Lib.hid (And.intro ho (And.intro hgr hv)); have HX5 := Lib.hid (HX4.out.grown hgr (by simp [Value.ownBlock])); clear ho hgr hv x7 y7 yf7; obtain ⟨y7, yf7⟩ := HX5.out.at_ 7 _ rfl))
  obtain ⟨W6, hW6⟩ : ∃ W6, w5.setCell ⟨b3, 7, none⟩ (.slice lo ns lc) = W6 := ⟨_, rfl⟩
  have k5 : Below (b3 + 1) W4 w5 := below_own (Below.refl _ _) (World.ownsRow_nil W4 (b3 + 1) 23 1) (Nat.le_refl _) hbs HO5.out.2.1
  have k6 : Below b3 w5 W6 := by rw [← hW6]; exact (Below.refl b3 w5).setCell (p := ⟨b3, 7, none⟩) (Nat.le_refl _) _
  have k56 : Below b3 W4 W6 := (k5.mono (Nat.le_succ _)).trans k6
  have HX6 := Lib.hid (show CBox W6 b3 27 #[.int .i64 k, .int .i64 v, .string (bstr g), .int .i64 mx, .bool q, .int .i64 r, .int .i64 ev, .slice lo ns lc, .slice ro nr rc] from by rw [← hW6]; exact HX5.out.set 7 _)
  have HT6 := Lib.hid (show Strs W6 (.slice lo ns lc) L ∧ Lies (b3 + 1) (.slice lo ns lc) from by
    have h1 := HO5.out.1
    rw [Nat.zero_add, List.nil_append, ← HNN.out.1] at h1
    have h2 := Strs.own h1 (Nat.le_trans HBD.out.1 (by decide)) HLen.out
    have h3 := Lies.own h1
    rw [HNN.out.1] at h2 h3
    exact ⟨by rw [← hW6]; exact h2.far h3 (p := ⟨b3, 7, none⟩) (Nat.lt_succ_self _) _, h3⟩)
  rw [hW6]
  obtain ⟨W7, hW7⟩ : ∃ W7, W6.setCell ⟨b3, 8, none⟩ (.slice none 0 0) = W7 := ⟨_, rfl⟩
  have k7 : Below b3 W6 W7 := by rw [← hW7]; exact (Below.refl b3 W6).setCell (p := ⟨b3, 8, none⟩) (Nat.le_refl _) _
  have k47 := k56.trans k7
  have HX7 := Lib.hid (show CBox W7 b3 27 #[.int .i64 k, .int .i64 v, .string (bstr g), .int .i64 mx, .bool q, .int .i64 r, .int .i64 ev, .slice lo ns lc, .slice none 0 0] from by rw [← hW7]; exact HX6.out.set 8 _)
  have HT7 := Lib.hid (show Strs W7 (.slice lo ns lc) L from by rw [← hW7]; exact HT6.out.1.far HT6.out.2 (p := ⟨b3, 8, none⟩) (Nat.lt_succ_self _) _)
  have HLS := Lib.hid HT6.out.2
  have HA3 := Lib.hid (HA1.out.below k47 (by have := HN.out; omega)); have HA4 := Lib.hid (HA2.out.below k47 (by have := HN.out; omega))
  have HB7 := Lib.hid (HB4.out.trans (k47.mono (by have := HN.out; omega)))
  clear y7 yf7 hW6 k5 k6 k56 k7 k47 hn2 hn3 hbs
  obtain ⟨y8, yf8⟩ := HX6.out.at_ 8 _ rfl
  go_upto_region 5 with fail
  clear y8 yf8 hW7
  go_wp2_with fail
  go_loopw [4] (fun i wr => ∃ (j : Nat) (Q : List QRec) (vr : Value), j ≤ nr ∧ i = .int .i64 j ∧ CBox wr b1 27 (msgCells k v g mx q r ev so ns sc ro nr rc) ∧ CBox wr b2 27 #[.int .i64 0, .int .i64 0, .string (bstr []), .int .i64 0, .bool false, .int .i64 0, .int .i64 0, .slice none 0 0, .slice none 0 0] ∧ CBox wr b3 27 #[.int .i64 k, .int .i64 v, .string (bstr g), .int .i64 mx, .bool q, .int .i64 r, .int .i64 ev, .slice lo ns lc, vr] ∧ RowQ wr (b3 + 1) vr Q ∧ Q.map qrec = R.take j ∧ Strs wr (.slice lo ns lc) L ∧ (L ≠ [] → (Value.slice lo ns lc).ownBlock ≠ vr.ownBlock) ∧ Below b1 w wr) (fun i _ => nr - (RowKit.intOf i).toNat)
  case atStart => exact ⟨0, [], _, Nat.zero_le _, rfl, HA3.out, HA4.out, HX7.out, RowQ.nil _ _, rfl, HT7.out, fun h => by obtain ⟨b, hb, _⟩ := HT7.out.block h; rw [hb]; simp [Value.ownBlock], HB7.out⟩
  case round =>
    clear HX7 HT7 HA3 HA4 HB7 HX1 HX2 HX3 HX4 HX5 HX6 HA1 HA2 HT6 HO5 HX0 HSL
    obtain ⟨j, Q, vr, hj, rfl, h1, h2, h3, hrow, hQR, hst, hne, hb⟩ := hrel
    obtain ⟨qo, qc, rfl⟩ := own_form hrow.1
    have hQl : Q.length = j := by have := congrArg List.length hQR; rw [List.length_map, List.length_take, HNN.out.2] at this; omega
    have HI := Lib.hid (And.intro hrow (And.intro hQR (And.intro hst (And.intro hne (And.intro hb hQl)))))
    have H1 := Lib.hid h1; have H2 := Lib.hid h2; have H3 := Lib.hid h3
    have x8 := (h1.at_ 8 _ rfl).1
    clear hrow hQR hst hne hb h1 h2 h3 hQl
    by_cases hlt : j < nr
    · have hltR : j < R.length := by rw [HNN.out.2]; exact hlt
      have HBW := Lib.hid (show Below w.heap.size w wr from HN.out.1 ▸ HI.out.2.2.2.2.1)
      obtain ⟨bb, off, src, _, _, hidx, hc⟩ := (HR.out.mono HBW.out).facts
      have hp := hidx j hltR
      obtain ⟨hbb, c0, c1, c2, hss, hgl⟩ := hc j hltR
      obtain ⟨⟨K, G, S⟩, hKGS⟩ : ∃ r, R.getD j default = r := ⟨_, rfl⟩
      rw [hKGS] at c0 c1 hss hgl
      dsimp only at c0 c1 hss hgl
      obtain ⟨vs, hvs⟩ : ∃ vs, src j = vs := ⟨_, rfl⟩
      rw [hvs] at c2 hss
      obtain ⟨sa, sb, rfl⟩ := hss.shape
      obtain ⟨m, hm⟩ : ∃ m, S.length = m := ⟨_, rfl⟩
      rw [hm] at c2 hss
      have hS100 : S.length ≤ 100 := by
        have h1 : R.getD j default ∈ R := by rw [List.getD_eq_getElem?_getD, List.getElem?_eq_getElem hltR]; exact List.getElem_mem hltR
        rw [hKGS] at h1
        exact HBD.out.2.2 _ h1
      have HRT := Lib.hid (show R.take (j + 1) = R.take j ++ [(K, G, S)] from by
        rw [take_snoc R j hltR]
        have : R[j] = (K, G, S) := by rw [← hKGS, List.getD_eq_getElem?_getD, List.getElem?_eq_getElem hltR]; rfl
        rw [this])
      have HSS := Lib.hid (And.intro hss (And.intro hgl (And.intro hm hS100)))
      obtain ⟨B5, hB5⟩ : ∃ B5, wr.heap.size = B5 := ⟨_, rfl⟩
      obtain ⟨U1, hU1⟩ : ∃ U1, wr.alloc (.cells #[.int .i64 K, .string (bstr G), .slice sa m sb] 57) = U1 := ⟨_, rfl⟩
      have u1 : Below wr.heap.size wr U1 := by rw [← hU1]; exact (Below.refl _ _).alloc (Nat.le_refl _) _
      have V1 : CBox U1 B5 57 #[.int .i64 K, .string (bstr G), .slice sa m sb] := by rw [← hU1]; exact CBox.new _ hB5.symm
      obtain ⟨U2, hU2⟩ : ∃ U2, U1.setCell ⟨B5, 2, none⟩ (.slice none 0 0) = U2 := ⟨_, rfl⟩
      have HU := Lib.hid (And.intro hB5 (And.intro hU1 hU2))
      have HV1 := Lib.hid V1
      have HV2 := Lib.hid (show CBox U2 B5 57 #[.int .i64 K, .string (bstr G), .slice none 0 0] from by rw [← hU2]; exact V1.set 2 _)
      have HU2 := Lib.hid (show Below B5 wr U2 from by rw [← hU2]; exact ((hB5 ▸ u1).setCell (p := ⟨B5, 2, none⟩) (Nat.le_refl _) _))
      have HF := Lib.hid (show ∀ wq, Below B5 wr wq → wq.cell? ⟨b1, 8, none⟩ = some (.slice ro nr rc) ∧ wq.cell? ⟨bb, off + j * 3 + 2, none⟩ = some (.slice sa m sb) from fun wq hq =>
        ⟨((H1.out.below hq (hB5 ▸ H1.out.lt)).at_ 8 _ rfl).1, (hq.cell (p := ⟨bb, off + j * 3 + 2, none⟩) (hB5 ▸ hbb)).trans c2⟩)
      have hwk : wrap64 ((j : Int) + 1) = (j : Int) + 1 := w64 _ (by omega) (by have := HBD.out.2.1; have := HNN.out.2; omega)
      clear hidx hc hKGS hvs hbb hss hgl hm hS100 hB5 hU1 hU2 u1 V1 hltR hj
      go_upto_region 9 with fail
      rw [HU.out.1, HU.out.2.1]
      clear x8 c0 c1 c2
      obtain ⟨y2, yf2⟩ := HV1.out.at_ 2 _ rfl
      go_upto_region 10 with fail
      rw [HU.out.2.2]
      clear y2 yf2
      have HV3 := Lib.hid (HV2.out.below (Below.drew (Below.refl _ _)) HV2.out.lt)
      obtain ⟨_, hn2, hn3, _, _⟩ := row_nat m (HSS.out.2.2.1 ▸ HSS.out.2.2.2)
      refine wp_region_held_drew (S := fun W' => Below B5 wr W') (by kernel_rfl) (Below.drew HU2.out) (fun hHeld => ?_)
      refine takeL 0 (v := ?_) rfl (by kernel_rfl) (by kernel_rfl) (by kernel_rfl) (fun _ _ _ h => h) (Or.inl ⟨by rfl, ?_⟩) (by assumption) ?_
      rotate_left
      focus (intro wq hSq; obtain ⟨f0, f1⟩ := HF.out wq hSq; go_simp <;> with_reducible rfl)
      simp only [Act.put, List.setIfInBounds_toArray, List.set_cons_zero, List.set_cons_succ]
      refine takeL 2 (v := ?_) rfl (by kernel_rfl) (by kernel_rfl) (by kernel_rfl) (fun _ _ _ h => h) (Or.inl ⟨by rfl, ?_⟩) (by assumption) ?_
      rotate_left
      focus (intro wq hSq; obtain ⟨f0, f1⟩ := HF.out wq hSq; go_simp <;> with_reducible rfl)
      simp only [Act.put, List.setIfInBounds_toArray, List.set_cons_zero, List.set_cons_succ]
      refine takeL 3 (v := ?_) rfl (by kernel_rfl) (by kernel_rfl) (by kernel_rfl) (fun _ _ _ h => h) (Or.inl ⟨by rfl, ?_⟩) (by assumption) ?_
      rotate_left
      focus (intro wq hSq; obtain ⟨f0, f1⟩ := HF.out wq hSq; go_simp <;> with_reducible rfl)
      simp only [Act.put, List.setIfInBounds_toArray, List.set_cons_zero, List.set_cons_succ]
      refine takeL 4 (v := ?_) rfl (by kernel_rfl) (by kernel_rfl) (by kernel_rfl) (fun _ _ _ h => h) (Or.inl ⟨by rfl, ?_⟩) (by assumption) ?_
      rotate_left
      focus (intro wq hSq; obtain ⟨f0, f1⟩ := HF.out wq hSq; go_simp <;> with_reducible rfl)
      simp only [Act.put, List.setIfInBounds_toArray, List.set_cons_zero, List.set_cons_succ]
      refine takeL 5 (v := ?_) rfl (by kernel_rfl) (by kernel_rfl) (by kernel_rfl) (fun _ _ _ h => h) (Or.inl ⟨by rfl, ?_⟩) (by assumption) ?_
      rotate_left
      focus (intro wq hSq; obtain ⟨f0, f1⟩ := HF.out wq hSq; go_simp <;> with_reducible rfl)
      simp only [Act.put, List.setIfInBounds_toArray, List.set_cons_zero, List.set_cons_succ]
      refine takeL 6 (v := ?_) rfl (by kernel_rfl) (by kernel_rfl) (by kernel_rfl) (fun _ _ _ h => h) (Or.inl ⟨by rfl, ?_⟩) (by assumption) ?_
      rotate_left
      focus (intro wq hSq; obtain ⟨f0, f1⟩ := HF.out wq hSq; go_simp <;> with_reducible rfl)
      simp only [Act.put, List.setIfInBounds_toArray, List.set_cons_zero, List.set_cons_succ]
      refine takeL 7 (v := ?_) rfl (by kernel_rfl) (by kernel_rfl) (by kernel_rfl) (fun _ _ _ h => h) (Or.inl ⟨by rfl, ?_⟩) (by assumption) ?_
      rotate_left
      focus (intro wq hSq; obtain ⟨f0, f1⟩ := HF.out wq hSq; go_simp <;> with_reducible rfl)
      simp only [Act.put, List.setIfInBounds_toArray, List.set_cons_zero, List.set_cons_succ]
      refine wpAnyH_ready (rs := [1]) (by kernel_rfl) (by simp) (nextL 1 rfl (fun Kr hKr => ?_) AllReadyH.nil)
      rw [if_pos (by rfl)]
      have y2 := (HV3.out.at_ 2 _ rfl).1
      go_simp
      refine hKr.out _ _ hHeld (fun hHeld2 => ?_)
      clear hKr y2
      refine wpAnyH_ready (rs := [8]) (by kernel_rfl) (by simp) (nextL 8 rfl (fun Kr hKr => ?_) AllReadyH.nil)
      refine step_append_vals (by rfl) (.tmp 29) (.tmp 35) 24 (by rfl) (B5 + 1) 23 i1 _ 1 16 Try.underlying24 hi1 hz10 hz11 hz12 rfl (by decide) (.slice none 0 0) 0 [] (by rfl) (World.ownsRow_nil _ _ _ _) (.slice sa m sb) m (S.map encStr) (by rfl) (strs_slice8 (HSS.out.1.mono (HU.out.1 ▸ hHeld)) m HSS.out.2.2.1) hn2 hn3 HV3.out.lt ?_
      intro v9 w9 ho hgr hv
      obtain ⟨sa', sb', rfl⟩ := own_form ho
      have hHeld9 : Below B5 wr w9 := below_own hHeld (World.ownsRow_nil _ B5 23 1) (Nat.le_refl _) (Nat.le_of_lt HV3.out.lt) hgr
      have HV9 := Lib.hid (HV3.out.grown hgr (by simp [Value.ownBlock]))
      have HT9 := Lib.hid (show Strs w9 (.slice sa' m sb') S ∧ Lies (B5 + 1) (.slice sa' m sb') from by
        have h1 := ho
        rw [Nat.zero_add, List.nil_append, ← HSS.out.2.2.1] at h1
        have h2 := Strs.own h1 (Nat.le_trans HSS.out.2.2.2 (by decide)) HSS.out.1.len
        have h3 := Lies.own h1
        rw [HSS.out.2.2.1] at h2 h3
        exact ⟨h2, h3⟩)
      rw [Nat.zero_add]
      refine hKr.out _ _ hHeld9 (fun _ => ?_)
      clear hKr ho hgr hv hHeld hHeld2
      refine takeL 9 (v := ?_) rfl (by kernel_rfl) (by kernel_rfl) (by kernel_rfl) (fun _ _ _ h => h) (Or.inl ⟨by rfl, ?_⟩) (by assumption) ?_
      rotate_left
      focus (intro wq hSq; obtain ⟨f0, f1⟩ := HF.out wq hSq; go_simp <;> with_reducible rfl)
      simp only [Act.put, List.setIfInBounds_toArray, List.set_cons_zero, List.set_cons_succ]
      refine wpAnyH_ready (rs := [10]) (by kernel_rfl) (by simp) (nextL 10 rfl (fun Kr hKr => ?_) AllReadyH.nil)
      rw [if_pos (by rfl)]
      obtain ⟨y2, yf2⟩ := HV9.out.at_ 2 _ rfl
      go_simp
      have hHeld10 : Below B5 wr (w9.setCell ⟨B5, 2, none⟩ (.slice sa' m sb')) := hHeld9.setCell (p := ⟨B5, 2, none⟩) (Nat.le_refl _) _
      refine hKr.out _ _ hHeld10 (fun _ => ?_)
      refine wpAnyH_done (by kernel_rfl) ?_ _
      have HV10 := Lib.hid (show CBox (w9.setCell ⟨B5, 2, none⟩ (.slice sa' m sb')) B5 57 #[.int .i64 K, .string (bstr G), .slice sa' m sb'] from HV9.out.set 2 _)
      have HT10 := Lib.hid (HT9.out.1.far HT9.out.2 (p := ⟨B5, 2, none⟩) (Nat.lt_succ_self _) (.slice sa' m sb'))
      obtain ⟨U4, hU4⟩ : ∃ U4, w9.setCell ⟨B5, 2, none⟩ (.slice sa' m sb') = U4 := ⟨_, rfl⟩
      rw [hU4] at hHeld10 HV10 HT10 ⊢
      have hbU : Below wr.heap.size wr U4 := HU.out.1 ▸ hHeld10
      have HROW := Lib.hid (HI.out.1.below hbU)
      have HST4 := Lib.hid (HI.out.2.2.1.mono hbU)
      have HBU := Lib.hid (HI.out.2.2.2.2.1.trans (hbU.mono (Nat.le_trans (Nat.le_of_lt H1.out.lt) (Nat.le_refl _))))
      have H1' := Lib.hid (H1.out.below hbU H1.out.lt); have H2' := Lib.hid (H2.out.below hbU H2.out.lt); have H3' := Lib.hid (H3.out.below hbU H3.out.lt)
      have HB35 := Lib.hid (show b3 + 1 ≤ B5 from HU.out.1 ▸ H3.out.lt)
      have HNE5 := Lib.hid (show S ≠ [] → (Value.slice sa' m sb').ownBlock ≠ (Value.slice qo Q.length qc).ownBlock from fun hne e => by
        obtain ⟨bz, hbz, _⟩ := HT10.out.block hne
        have g1 := HT9.out.2 bz hbz
        have g2 := (HI.out.1.1.lt bz (e ▸ hbz)).2
        have g3 := HU.out.1
        omega)
      clear hKr hHeld9 hHeld10 y2 yf2 hU4 hbU hn2 hn3
      obtain ⟨y8, yf8⟩ := H3'.out.at_ 8 _ rfl
      obtain ⟨z0, zf0⟩ := HV10.out.at_ 0 _ rfl
      obtain ⟨z1, zf1⟩ := HV10.out.at_ 1 _ rfl
      obtain ⟨z2, zf2⟩ := HV10.out.at_ 2 _ rfl
      obtain ⟨_, _, _, hc3, hc4⟩ := row_nat Q.length (by have := HI.out.2.2.2.2.2; have := HBD.out.2.1; have := HNN.out.2; omega)
      have hbs : b3 + 1 ≤ (U4.alloc (.cells #[.int .i64 K, .string (bstr G), .slice sa' m sb'] 57)).heap.size := by rw [World.size_alloc]; exact Nat.le_succ_of_le (Nat.le_trans HB35.out (Nat.le_of_lt HV10.out.lt))
      go_upto_region 7 with (first | (at_builtin; refine wpList_append_vals _ rfl _ _ 25 rfl (b3 + 1) 57 i0 _ 3 48 Try.underlying25 hi hz0 hz1 hz2 rfl (by decide) (.slice qo Q.length qc) Q.length (Q.flatMap qcells) rfl (HROW.out.1.alloc _) _ 1 [.int .i64 K, .string (bstr G), .slice sa' m sb'] rfl (qcells_new _ _ _ _ _ _ _) hc3 hc4 hbs ?_; intro v8 w8 ho hgr hv; obtain ⟨vo, vc, rfl⟩ := own_form ho; have HV8 := Lib.hid (And.intro hgr hv); have HX8 := Lib.hid ((H3'.out.old (.cells #[.int .i64 K, .string (bstr G), .slice sa' m sb'] 57)).grown hgr (fun e => by have g1 := (HROW.out.1.lt b3 e.symm).1; omega)); have HP8 := Lib.hid (HROW.out.push_new (L := S) HT10.out (HT9.out.2.mono (Nat.le_trans HB35.out (Nat.le_succ _))) HSS.out.2.1 (Nat.le_trans HB35.out (Nat.le_of_lt HV10.out.lt)) HNE5.out ho hgr hv); clear ho hgr hv y8 yf8; obtain ⟨y8, yf8⟩ := HX8.out.at_ 8 _ rfl))
      have HAF := Lib.hid (cp_after HST4.out HI.out.2.2.2.1 HV8.out.1 HV8.out.2)
      have HX9 := Lib.hid (show CBox (w8.setCell ⟨b3, 8, none⟩ (.slice vo (Q.length + 1) vc)) b3 27 #[.int .i64 k, .int .i64 v, .string (bstr g), .int .i64 mx, .bool q, .int .i64 r, .int .i64 ev, .slice lo ns lc, .slice vo (Q.length + 1) vc] from HX8.out.set 8 _)
      have K9 := Lib.hid (show Below b3 U4 (w8.setCell ⟨b3, 8, none⟩ (.slice vo (Q.length + 1) vc)) from (HP8.out.2.mono (Nat.le_succ _)).setCell (p := ⟨b3, 8, none⟩) (Nat.le_refl _) _)
      have HR9 := Lib.hid (HP8.out.1.far (p := ⟨b3, 8, none⟩) (Nat.lt_succ_self _) (.slice vo (Q.length + 1) vc))
      have HS9 := Lib.hid (HAF.out.1.far HLS.out (p := ⟨b3, 8, none⟩) (Nat.lt_succ_self _) (.slice vo (Q.length + 1) vc))
      have HN1 := HN.out
      go_wp2_with fail
      refine ⟨⟨j + 1, Q ++ [(K, G, .slice sa' m sb', S)], _, hlt, by rw [hwk]; rfl, H1'.out.below K9.out (by omega), H2'.out.below K9.out (by omega), HX9.out, HR9.out, by rw [List.map_append, HI.out.2.1, HRT.out]; rfl, HS9.out, HAF.out.2, HBU.out.trans (K9.out.mono (by omega))⟩, by rw [hwk]; exact meas_up nr j hlt⟩
    · obtain rfl : nr = j := Nat.le_antisymm (Nat.le_of_not_lt hlt) hj
      have HQ := Lib.hid (show Q.map qrec = R from by rw [HI.out.2.1, ← HNN.out.2, List.take_length])
      have HQl := Lib.hid HI.out.2.2.2.2.2
      clear hlt hj
      obtain ⟨y0, yf0⟩ := H3.out.at_ 0 _ rfl
      obtain ⟨y1, yf1⟩ := H3.out.at_ 1 _ rfl
      obtain ⟨y2, yf2⟩ := H3.out.at_ 2 _ rfl
      obtain ⟨y3, yf3⟩ := H3.out.at_ 3 _ rfl
      obtain ⟨y4, yf4⟩ := H3.out.at_ 4 _ rfl
      obtain ⟨y5, yf5⟩ := H3.out.at_ 5 _ rfl
      obtain ⟨y6, yf6⟩ := H3.out.at_ 6 _ rfl
      obtain ⟨y7, yf7⟩ := H3.out.at_ 7 _ rfl
      obtain ⟨y8, yf8⟩ := H3.out.at_ 8 _ rfl
      have X2 := H2.out
      obtain ⟨z0, zf0⟩ := CBox.at_ X2 0 _ rfl
      obtain ⟨z1, zf1⟩ := CBox.at_ X2 1 _ rfl
      obtain ⟨z2, zf2⟩ := CBox.at_ X2 2 _ rfl
      obtain ⟨z3, zf3⟩ := CBox.at_ X2 3 _ rfl
      obtain ⟨z4, zf4⟩ := CBox.at_ X2 4 _ rfl
      obtain ⟨z5, zf5⟩ := CBox.at_ X2 5 _ rfl
      obtain ⟨z6, zf6⟩ := CBox.at_ X2 6 _ rfl
      obtain ⟨z7, zf7⟩ := CBox.at_ X2 7 _ rfl
      obtain ⟨z8, zf8⟩ := CBox.at_ X2 8 _ rfl
      clear X2
      go_wp2_with fail
      have HN1 := HN.out
      obtain ⟨r0, r1, r2, r3, r4, r5, r6, r7, r8⟩ := ret9 (cells9 H2.out (.int .i64 k) (.int .i64 v) (.string (bstr g)) (.int .i64 mx) (.bool q) (.int .i64 r) (.int .i64 ev) (.slice lo ns lc) (.slice qo Q.length qc))
      refine bodyPost_ret (v := .agg #[.int .i64 k, .int .i64 v, .string (bstr g), .int .i64 mx, .bool q, .int .i64 r, .int .i64 ev, .slice lo ns lc, .slice qo Q.length qc]) (by simp [results, Try.results15, go_sem, r0, r1, r2, r3, r4, r5, r6, r7, r8]) rfl ?_
      have h9 := rowq9 HI.out.1 (b := b2) (by omega) (.int .i64 k) (.int .i64 v) (.string (bstr g)) (.int .i64 mx) (.bool q) (.int .i64 r) (.int .i64 ev) (.slice lo ns lc) (.slice qo Q.length qc)
      have h10 := h9.recs (by rw [HQl.out, ← HNN.out.2]; exact Nat.le_trans HBD.out.2.1 (by decide))
      rw [HQ.out] at h10
      rw [HQl.out] at h10 ⊢
      exact ⟨lo, lc, qo, qc, rfl, strs9 HI.out.2.2.1 HLS.out (by omega) _ _ _ _ _ _ _ _ _, h10, HN.out.1 ▸ below9 HI.out.2.2.2.2.1 (by omega) _ _ _ _ _ _ _ _ _⟩
end Go.Proofs.Ythkogdgfkhhleaa
