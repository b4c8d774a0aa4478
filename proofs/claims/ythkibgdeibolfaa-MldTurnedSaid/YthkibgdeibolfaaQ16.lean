/- Texts joined into one file: MAsks. -/
import Derived.Test.YthkibgdeibolfaaQ15
import Derived.Test.YthkibgdeibolfaaQ14

/- mld.asks. -/
namespace Go.Proofs.Ythkibgdeibolfaa
open Go.RowKit Go.Sort
set_option maxRecDepth 20000
set_option maxRecDepth 20000
attribute [local go_sem] bstr_size bstr_extract bstr_toList bstr_get

/-- asks on its way: the result's box, the reader's, the message's -/
def AS (w W : World) (b2 rb mb : Nat) (l : Str) (er : Int) (cs : Array Value) : Prop :=
  CBox W b2 29 #[.int .i64 0, .int .i64 0, .string (bstr []), .int .i64 0, .bool false, .int .i64 0, .int .i64 0, .slice none 0 0, .slice none 0 0] ∧ RdB W rb l er ∧ CBox W mb 29 cs ∧ Below b2 w W ∧ b2 < rb ∧ rb < mb
theorem AS.read {w W W' : World} {b2 rb mb : Nat} {l l' : Str} {er er' : Int} {cs : Array Value} (h : AS w W b2 rb mb l er cs) (hr : RdB W' rb l' er') (hg : W.grownBy W' (some rb)) : AS w W' b2 rb mb l' er' cs := by
  obtain ⟨h1, h2, h3, h4, h5, h6⟩ := h
  exact ⟨h1.grown hg (fun e => by injection e with e; omega), hr, h3.grown hg (fun e => by injection e with e; omega), gb_under h4 hg (by omega) (Nat.le_of_lt h1.lt), h5, h6⟩
theorem AS.to {w W W' : World} {b2 rb mb : Nat} {l : Str} {er : Int} {cs : Array Value} (h : AS w W b2 rb mb l er cs) (hb : Below W.heap.size W W') : AS w W' b2 rb mb l er cs := by
  obtain ⟨h1, h2, h3, h4, h5, h6⟩ := h
  exact ⟨h1.below hb h1.lt, CBox.below h2 hb (CBox.lt h2), h3.below hb h3.lt, h4.trans (hb.mono (Nat.le_of_lt h1.lt)), h5, h6⟩
theorem AS.set {w W : World} {b2 rb mb : Nat} {l : Str} {er : Int} {cs : Array Value} (h : AS w W b2 rb mb l er cs) (i : Nat) (u : Value) : AS w (W.setCell ⟨mb, i, none⟩ u) b2 rb mb l er (cs.setIfInBounds i u) := by
  obtain ⟨h1, h2, h3, h4, h5, h6⟩ := h
  exact ⟨h1.far (p := ⟨mb, i, none⟩) (show b2 ≠ mb by omega) u, CBox.far h2 (p := ⟨mb, i, none⟩) (show rb ≠ mb by omega) u, h3.set i u, h4.setCell (p := ⟨mb, i, none⟩) (show b2 ≤ mb by omega) u, h5, h6⟩
theorem AS.row {w W W' : World} {b2 rb mb base : Nat} {l : Str} {er : Int} {cs : Array Value} (h : AS w W b2 rb mb l er cs) {v : Value} {n : Nat} {xs : List Value} (ho : W.ownsRow base 22 1 v n xs) (hb : b2 ≤ base) (hg : W.grownBy W' v.ownBlock) : AS w W' b2 rb mb l er cs := by
  obtain ⟨h1, h2, h3, h4, h5, h6⟩ := h
  exact ⟨h1.grown hg (fun e => own_box ho h1 (by decide) e.symm), CBox.grown h2 hg (fun e => own_box ho h2 (by decide) e.symm), h3.grown hg (fun e => own_box ho h3 (by decide) e.symm), below_own h4 ho hb (Nat.le_of_lt h1.lt) hg, h5, h6⟩
theorem AS.cells {w W : World} {b2 rb mb : Nat} {l : Str} {er : Int} {cs : Array Value} (h : AS w W b2 rb mb l er cs) : CBox W b2 29 #[.int .i64 0, .int .i64 0, .string (bstr []), .int .i64 0, .bool false, .int .i64 0, .int .i64 0, .slice none 0 0, .slice none 0 0] ∧ CBox W rb 66 #[.string (bstr l), .int .i64 er] ∧ CBox W mb 29 cs := ⟨h.1, h.2.1, h.2.2.1⟩
theorem drop_drop' (s : Str) (i n : Nat) : (s.drop i).drop n = s.drop (i + n) := by rw [List.drop_drop]
theorem num_at (b : Nat) (s : Str) (i n : Nat) (er : Int) (w : World) (h : RdB w b (s.drop i) er) (hs : s.length ≤ 1000000) (hn : n = 1 ∨ n = 2) (hin : i + n ≤ s.length) :
    Calls Try.prog 37 #[.pointer (some ⟨b, 0, none⟩), .int .i64 n] w fun e w' => e = .returned (.int .i64 (numAt s i n : Nat)) ∧ RdB w' b (s.drop (i + n)) er ∧ w.grownBy w' (some b) := by
  have hl : n ≤ (s.drop i).length := by rw [List.length_drop]; omega
  have h1 := number9_any b (s.drop i) er n w h (by rw [List.length_drop]; omega) hn
  unfold RetNb nbR tkL tkE at h1
  rw [if_pos hl, if_pos hl, if_pos hl, drop_drop'] at h1
  have e : numAt (s.drop i) 0 n = numAt s i n := by unfold numAt; rw [List.drop_zero]
  rw [e] at h1
  exact h1
theorem addr_at (b : Nat) (s : Str) (i : Nat) (er : Int) (w : World) (h : RdB w b (s.drop i) er) (hs : s.length ≤ 1000000) (hin : i + 16 ≤ s.length) :
    Calls Try.prog 38 #[.pointer (some ⟨b, 0, none⟩)] w fun e w' => e = .returned (.string (bstr ((s.drop i).take 16))) ∧ RdB w' b (s.drop (i + 16)) er ∧ w.grownBy w' (some b) := by
  have hl : 16 ≤ (s.drop i).length := by rw [List.length_drop]; omega
  have h1 := addr9_any b (s.drop i) er w h (by rw [List.length_drop]; omega)
  unfold RetTk tkS tkL tkE at h1
  rw [if_pos hl, if_pos hl, if_pos hl, drop_drop'] at h1
  exact h1
theorem tkL_len (l : Str) (n : Nat) : (tkL l n).length ≤ l.length := by
  unfold tkL
  split
  · rw [List.length_drop]; omega
  · exact Nat.le_refl _

def asInv (s : Str) (n k : Nat) (A : List Str) (l : Str) (er : Int) : Prop :=
  (er = 0 ∧ l = s.drop (28 + k * 16) ∧ A = srcs s 28 k 16 ∧ 28 + k * 16 ≤ s.length) ∨ (er = 2 ∧ s.length < 28 + n * 16)
theorem asInv_step (s : Str) (n k : Nat) (A : List Str) (l : Str) (er : Int) (hk : k < n) (h : asInv s n k A l er) : asInv s n (k + 1) (A ++ [tkS l 16]) (tkL l 16) (tkE l er 16) := by
  unfold asInv at h ⊢
  unfold tkS tkL tkE
  rcases h with ⟨rfl, rfl, rfl, hl⟩ | ⟨rfl, hl⟩
  · have e : (s.drop (28 + k * 16)).length = s.length - (28 + k * 16) := List.length_drop
    by_cases hc : 16 ≤ (s.drop (28 + k * 16)).length
    · rw [if_pos hc, if_pos hc, if_pos hc]
      refine .inl ⟨rfl, ?_, ?_, by omega⟩
      · rw [List.drop_drop]; congr 1; omega
      · rw [srcs_succ]
    · rw [if_neg hc, if_neg hc, if_neg hc]
      exact .inr ⟨rfl, by omega⟩
  · refine .inr ⟨?_, hl⟩
    split <;> rfl
theorem tkS16_len (l : Str) : (tkS l 16).length ≤ 16 := Nat.le_of_eq (tkS_len l 16)
theorem and8 : ∀ x : Fin 256, (bits .and .i64 ((x : Nat) : Int) 8 != 0) = decide ((x : Nat) / 8 % 2 = 1) ∧ bits .and .i64 ((x : Nat) : Int) 7 = (((x : Nat) % 8 : Nat) : Int) := of_decide_eq_true (by kernel_rfl)
theorem numAt_one (s : Str) (i : Nat) (h : i < s.length) : numAt s i 1 = (s.getD i 0).toNat := by
  have h1 := numAt_succ s i 0 (by omega)
  rw [h1, show numAt s i 0 = 0 from rfl, Nat.zero_mul, Nat.zero_add, Nat.add_zero]
theorem mquery_short (s G g' : Str) (h : 24 ≤ s.length) (h2 : ¬ 24 < s.length) (hG : (s.drop 8).take 16 = G) (hg' : g' = if G = nobody16 then [] else G) :
    mquery s = if g' ≠ [] ∧ grp g' 16 = false then (3, .zero) else (0, ⟨1, 1, g', numAt s 4 2, false, 0, 0, [], []⟩) := by
  unfold mquery
  simp only [hG, ← hg', if_neg h2]
  rw [if_neg (by omega)]
theorem mquery_long (s G g' : Str) (h : 24 < s.length) (hG : (s.drop 8).take 16 = G) (hg' : g' = if G = nobody16 then [] else G) :
    mquery s = if s.length < 28 then (3, .zero) else
    if 60 < numAt s 26 2 then (3, .zero) else
    if s.length < 28 + numAt s 26 2 * 16 then (2, .zero) else
    if (g' ≠ [] ∧ grp g' 16 = false) ∨ (g' = [] ∧ 0 < numAt s 26 2) then (3, .zero) else
    (0, ⟨1, 2, g', pdecode (numAt s 4 2) 12, decide ((s.getD 24 0).toNat / 8 % 2 = 1), ((s.getD 24 0).toNat % 8 : Nat), pdecode (s.getD 25 0).toNat 4, srcs s 28 (numAt s 26 2) 16, []⟩) := by
  unfold mquery
  simp only [hG, ← hg', if_pos h]
  rw [if_neg (by omega)]

set_option maxHeartbeats 4000000 in
theorem masks_any (s : Str) (w : World) (h8 : 8 ≤ s.length) (hs : s.length ≤ 1000000) :
    Calls Try.prog 17 #[.string (bstr s)] w (RetMsg w (mquery s).1 (mquery s).2) := by
  have b0 : (⟨#[]⟩ : ByteArray) = bstr [] := bstr_nil.symm
  have b16 : (⟨#[0, 0, 0, 0, 0, 0, 0, 0, 0, 0, 0, 0, 0, 0, 0, 0]⟩ : ByteArray) = bstr nobody16 := by rw [bstr_eq]; rfl
  obtain ⟨P, hP⟩ : ∃ P, P = mquery s := ⟨_, rfl⟩
  rw [← hP]
  have HP := Lib.hid hP
  obtain ⟨rb2, hrb2⟩ : ∃ b, w.heap.size = b := ⟨_, rfl⟩
  obtain ⟨rb, hrb⟩ : ∃ b, rb2 + 1 = b := ⟨_, rfl⟩
  obtain ⟨W1, hW1⟩ : ∃ W1, w.alloc (.cells #[.int .i64 0, .int .i64 0, .string (bstr []), .int .i64 0, .bool false, .int .i64 0, .int .i64 0, .slice none 0 0, .slice none 0 0] 29) = W1 := ⟨_, rfl⟩
  obtain ⟨W2, hW2⟩ : ∃ W2, W1.alloc (.cells #[.string (bstr (s.drop 4)), .int .i64 0] 66) = W2 := ⟨_, rfl⟩
  have hs1 : W1.heap.size = rb := by rw [← hW1, World.size_alloc, hrb2, hrb]
  have k1 : Below rb2 w W1 := by rw [← hW1]; exact (Below.refl rb2 w).alloc (by rw [hrb2]; exact Nat.le_refl _) _
  have k2 : Below rb W1 W2 := by rw [← hW2]; exact (Below.refl rb W1).alloc (by rw [hs1]; exact Nat.le_refl _) _
  have X1 : CBox W2 rb2 29 #[.int .i64 0, .int .i64 0, .string (bstr []), .int .i64 0, .bool false, .int .i64 0, .int .i64 0, .slice none 0 0, .slice none 0 0] := (show CBox W1 rb2 _ _ from by rw [← hW1]; exact CBox.new _ hrb2.symm).below k2 (by omega)
  have X2 : RdB W2 rb (s.drop 4) 0 := by rw [← hW2]; exact CBox.new _ hs1.symm
  have HX1 := Lib.hid X1; have HX2 := Lib.hid X2
  have HB2 := Lib.hid (show Below rb2 w W2 from k1.trans (k2.mono (by omega)))
  have HW1 := Lib.hid hW1; have HW2 := Lib.hid hW2
  have HN := Lib.hid (And.intro hrb2 (And.intro hrb hs1))
  have H8 := Lib.hid (And.intro h8 hs)
  have HN1 := Lib.hid (show Calls Try.prog 37 #[.pointer (some ⟨rb, 0, none⟩), .int .i64 2] W2 _ from num_at rb s 4 2 0 W2 X2 hs (.inr rfl) (by omega))
  obtain ⟨X, hX⟩ : ∃ X, numAt s 4 2 = X := ⟨_, rfl⟩
  have HXX := Lib.hid hX
  have hX65 : X ≤ 65535 := by have := numAt_lt s 4 2; omega
  rw [hX] at HN1
  have htS : List.take (s.length - 4) (s.drop 4) = s.drop 4 := List.take_of_length_le (by rw [List.length_drop]; exact Nat.le_refl _)
  have h4 : (4 : Int) ≤ s.length := by omega
  clear hP hrb2 hrb hW1 hW2 hs1 k1 k2 X1 X2 h8 hs hX
  have HX65 := Lib.hid hX65
  clear hX65
  go_enter Try.func17, Try.ntmps17
  go_upto_region 2 with fail
  rw [HW1.out, HN.out.1, HN.out.2.1, HW2.out]
  clear htS h4
  go_upto_region 3 with ((with_reducible refine HN1.out.mono ?_); rintro e w3 ⟨rfl, hr3, hg3⟩; have HR3 := Lib.hid (And.intro hr3 hg3); clear hr3 hg3)
  obtain ⟨mb, hmb⟩ : ∃ b, w3.heap.size = b := ⟨_, rfl⟩
  obtain ⟨W4, hW4⟩ : ∃ W4, w3.alloc (.cells #[.int .i64 1, .int .i64 1, .string (bstr []), .int .i64 X, .bool false, .int .i64 0, .int .i64 0, .slice none 0 0, .slice none 0 0] 29) = W4 := ⟨_, rfl⟩
  have HA4 := Lib.hid (show AS w W4 rb2 rb mb (s.drop 6) 0 #[.int .i64 1, .int .i64 1, .string (bstr []), .int .i64 X, .bool false, .int .i64 0, .int .i64 0, .slice none 0 0, .slice none 0 0] from by
    have hn := HN.out
    have k4 : Below w3.heap.size w3 W4 := by rw [← hW4]; exact (Below.refl _ _).alloc (Nat.le_refl _) _
    have r3 : CBox w3 rb2 29 #[.int .i64 0, .int .i64 0, .string (bstr []), .int .i64 0, .bool false, .int .i64 0, .int .i64 0, .slice none 0 0, .slice none 0 0] := HX1.out.grown HR3.out.2 (fun e => by injection e with e; omega)
    have hl := CBox.lt HR3.out.1
    have kb : Below rb2 w w3 := gb_under HB2.out HR3.out.2 (by omega) (Nat.le_of_lt HX1.out.lt)
    exact ⟨r3.below k4 r3.lt, CBox.below HR3.out.1 k4 hl, by rw [← hW4]; exact CBox.new _ hmb.symm, kb.trans (k4.mono (Nat.le_of_lt r3.lt)), by omega, by omega⟩)
  rw [hW4, hmb]
  clear hW4 hmb HX1 HX2 HB2 HR3
  have HN2 := Lib.hid (show Calls Try.prog 37 #[.pointer (some ⟨rb, 0, none⟩), .int .i64 2] W4 _ from num_at rb s 6 2 0 W4 HA4.out.2.1 H8.out.2 (.inr rfl) (by have := H8.out.1; omega))
  go_upto_region 4 with ((with_reducible refine HN2.out.mono ?_); rintro e w5 ⟨rfl, hr5, hg5⟩; have HA5 := Lib.hid (HA4.out.read hr5 hg5); clear hr5 hg5)
  by_cases h24 : 24 ≤ s.length
  · obtain ⟨G, hG⟩ : ∃ G, (s.drop 8).take 16 = G := ⟨_, rfl⟩
    have HAD := Lib.hid (addr_at rb s 8 0 w5 HA5.out.2.1 H8.out.2 h24)
    rw [hG] at HAD
    have HG := Lib.hid hG
    have H24 := Lib.hid h24
    clear hG h24
    go_upto_region 5 with ((with_reducible refine HAD.out.mono ?_); rintro e w6 ⟨rfl, hr6, hg6⟩; have HA6 := Lib.hid (HA5.out.read hr6 hg6); clear hr6 hg6; obtain ⟨m2, mf2⟩ := HA6.out.2.2.1.at_ 2 _ rfl)
    have HA7 := Lib.hid (show AS w (w6.setCell ⟨mb, 2, none⟩ (.string (bstr G))) rb2 rb mb (s.drop 24) 0 #[.int .i64 1, .int .i64 1, .string (bstr G), .int .i64 X, .bool false, .int .i64 0, .int .i64 0, .slice none 0 0, .slice none 0 0] from HA6.out.set 2 (.string (bstr G)))
    obtain ⟨W7, hW7⟩ : ∃ W7, w6.setCell ⟨mb, 2, none⟩ (.string (bstr G)) = W7 := ⟨_, rfl⟩
    rw [hW7] at HA7 ⊢
    clear hW7 m2 mf2 HAD HN1 HN2
    have e1 := (HA7.out.cells.2.1.at_ 1 _ rfl).1
    obtain ⟨m2, mf2⟩ := HA7.out.2.2.1.at_ 2 _ rfl
    obtain ⟨g', hg'⟩ : ∃ g', g' = if G = nobody16 then [] else G := ⟨_, rfl⟩
    go_upto_if 32 with fail
    obtain ⟨t, ht⟩ : ∃ t, (G == nobody16) = t := ⟨_, rfl⟩
    rw [ht]
    clear e1
    go_cut [] (fun w' => AS w w' rb2 rb mb (s.drop 24) 0 #[.int .i64 1, .int .i64 1, .string (bstr g'), .int .i64 X, .bool false, .int .i64 0, .int .i64 0, .slice none 0 0, .slice none 0 0])
    case first =>
      cases t
      rotate_left
      · have HG1 := Lib.hid (show g' = [] from by rw [hg', if_pos (beq_iff_eq.1 ht)])
        clear hg' ht
        go_wp2_with fail
        go_meet
        case rel => rw [HG1.out]; exact HA7.out.set 2 _
      · have HG1 := Lib.hid (show g' = G from by rw [hg', if_neg (beq_eq_false_iff_ne.1 ht)])
        clear hg' ht
        go_wp2_with fail
        go_meet
        case rel => rw [HG1.out]; exact HA7.out
    case rest =>
      have HA8 := Lib.hid hcut
      have HG1 := Lib.hid hg'
      clear hcut hg' m2 mf2 ht HA7
      have HGL := Lib.hid (show g'.length ≤ maxLen from by
        rw [HG1.out]
        split
        · exact Nat.zero_le _
        · rw [← HG.out]; exact Nat.le_trans (List.length_take_le _ _) (by decide))
      by_cases hl : 24 < s.length
      · have d24 : decide ((24 : Int) < s.length) = true := decide_eq_true (by omega)
        have d24' : decide (24 < s.length) = true := decide_eq_true hl
        have hPq := mquery_long s G g' hl HG.out HG1.out
        rw [← HP.out] at hPq
        by_cases h28 : s.length < 28
        · have d28 : decide ((s.length : Int) < 28) = true := decide_eq_true (by omega)
          have d28' : decide (s.length < 28) = true := decide_eq_true h28
          have HPE := Lib.hid (show P = (3, .zero) from by rw [hPq, if_pos h28])
          have XR := HA8.out.1
          obtain ⟨y0, yf0⟩ := CBox.at_ XR 0 _ rfl
          obtain ⟨y1, yf1⟩ := CBox.at_ XR 1 _ rfl
          obtain ⟨y2, yf2⟩ := CBox.at_ XR 2 _ rfl
          obtain ⟨y3, yf3⟩ := CBox.at_ XR 3 _ rfl
          obtain ⟨y4, yf4⟩ := CBox.at_ XR 4 _ rfl
          obtain ⟨y5, yf5⟩ := CBox.at_ XR 5 _ rfl
          obtain ⟨y6, yf6⟩ := CBox.at_ XR 6 _ rfl
          obtain ⟨y7, yf7⟩ := CBox.at_ XR 7 _ rfl
          obtain ⟨y8, yf8⟩ := CBox.at_ XR 8 _ rfl
          clear XR h28 hPq hl
          go_wp2_with fail
          obtain ⟨r0, r1, r2, r3, r4, r5, r6, r7, r8⟩ := ret9 (cells9 HA8.out.1 (.int .i64 0) (.int .i64 0) (.string (bstr [])) (.int .i64 0) (.bool false) (.int .i64 0) (.int .i64 0) (.slice none 0 0) (.slice none 0 0))
          refine bodyPost_ret (v := .tuple #[.agg #[.int .i64 0, .int .i64 0, .string (bstr []), .int .i64 0, .bool false, .int .i64 0, .int .i64 0, .slice none 0 0, .slice none 0 0], .int .i64 3]) (by simp [results, Try.results17, go_sem, r0, r1, r2, r3, r4, r5, r6, r7, r8]) rfl ?_
          rw [HPE.out]
          exact retMsg_bad w _ 3 (HN.out.1 ▸ below9 HA8.out.2.2.2.1 (Nat.le_refl _) _ _ _ _ _ _ _ _ _)
        · have d28 : decide ((s.length : Int) < 28) = false := decide_eq_false (by omega)
          have d28' : decide (s.length < 28) = false := decide_eq_false h28
          rw [if_neg h28] at hPq
          have HPQ := Lib.hid hPq
          have HL28 := Lib.hid (Nat.le_of_not_lt h28)
          clear h28 hPq hl
          obtain ⟨m1, mf1⟩ := HA8.out.2.2.1.at_ 1 _ rfl
          go_upto_region 13 with fail
          have HA9 := Lib.hid (show AS w (wc.setCell ⟨mb, 1, none⟩ (.int .i64 2)) rb2 rb mb (s.drop 24) 0 #[.int .i64 1, .int .i64 2, .string (bstr g'), .int .i64 X, .bool false, .int .i64 0, .int .i64 0, .slice none 0 0, .slice none 0 0] from HA8.out.set 1 (.int .i64 2))
          obtain ⟨W9, hW9⟩ : ∃ W, wc.setCell ⟨mb, 1, none⟩ (.int .i64 2) = W := ⟨_, rfl⟩
          rw [hW9] at HA9 ⊢
          clear hW9
          clear m1 mf1 d24 d24' d28 d28'
          have HD := Lib.hid (fun W => dec16_any X W (Nat.lt_succ_of_le HX65.out))
          obtain ⟨M, hM⟩ : ∃ M, pdecode X 12 = M := ⟨_, rfl⟩
          rw [hM] at HD
          have m3 := (HA9.out.2.2.1.at_ 3 _ rfl).1
          go_upto_region 14 with ((with_reducible refine (HD.out _).mono ?_); rintro e w10 ⟨rfl, hb10⟩; have HA10 := Lib.hid (HA9.out.to hb10); clear hb10 m3; obtain ⟨m3, mf3⟩ := HA10.out.2.2.1.at_ 3 _ rfl)
          have HA11 := Lib.hid (show AS w (w10.setCell ⟨mb, 3, none⟩ (.int .i64 M)) rb2 rb mb (s.drop 24) 0 #[.int .i64 1, .int .i64 2, .string (bstr g'), .int .i64 M, .bool false, .int .i64 0, .int .i64 0, .slice none 0 0, .slice none 0 0] from HA10.out.set 3 (.int .i64 M))
          obtain ⟨W11, hW11⟩ : ∃ W, w10.setCell ⟨mb, 3, none⟩ (.int .i64 M) = W := ⟨_, rfl⟩
          rw [hW11] at HA11 ⊢
          clear hW11
          clear m3 mf3
          have HN3 := Lib.hid (show Calls Try.prog 37 #[.pointer (some ⟨rb, 0, none⟩), .int .i64 1] W11 _ from num_at rb s 24 1 0 W11 HA11.out.2.1 H8.out.2 (by decide) (by have := HL28.out; omega))
          obtain ⟨F, hF⟩ : ∃ F, numAt s 24 1 = F := ⟨_, rfl⟩
          have hF256 : F < 256 := by have := numAt_lt s 24 1; omega
          have hFg : (s.getD 24 0).toNat = F := by rw [← hF, numAt_one s 24 (by have := HL28.out; omega)]
          rw [hF] at HN3
          obtain ⟨a8, a7⟩ := and8 ⟨F, hF256⟩
          dsimp only at a8 a7
          obtain ⟨q, hq0⟩ : ∃ q, decide (F / 8 % 2 = 1) = q := ⟨_, rfl⟩
          obtain ⟨r, hr0⟩ : ∃ r : Nat, F % 8 = r := ⟨_, rfl⟩
          rw [hq0] at a8
          rw [hr0] at a7
          have HFX := Lib.hid (And.intro hFg (And.intro hq0 hr0))
          clear hF hF256 hFg hq0 hr0
          go_upto_region 15 with ((with_reducible refine HN3.out.mono ?_); rintro e w12 ⟨rfl, hr12, hg12⟩; have HA12 := Lib.hid (HA11.out.read hr12 hg12); clear hr12 hg12)
          obtain ⟨m4, mf4⟩ := HA12.out.2.2.1.at_ 4 _ rfl
          obtain ⟨m5, mf5⟩ := HA12.out.2.2.1.at_ 5 _ rfl
          go_upto_region 16 with fail
          have HA13 := Lib.hid (show AS w (w12.setCell ⟨mb, 4, none⟩ (.bool q)) rb2 rb mb (s.drop 25) 0 #[.int .i64 1, .int .i64 2, .string (bstr g'), .int .i64 M, .bool q, .int .i64 0, .int .i64 0, .slice none 0 0, .slice none 0 0] from HA12.out.set 4 (.bool q))
          obtain ⟨W13, hW13⟩ : ∃ W, w12.setCell ⟨mb, 4, none⟩ (.bool q) = W := ⟨_, rfl⟩
          rw [hW13] at HA13 ⊢
          clear hW13
          have HA14 := Lib.hid (show AS w (W13.setCell ⟨mb, 5, none⟩ (.int .i64 r)) rb2 rb mb (s.drop 25) 0 #[.int .i64 1, .int .i64 2, .string (bstr g'), .int .i64 M, .bool q, .int .i64 r, .int .i64 0, .slice none 0 0, .slice none 0 0] from HA13.out.set 5 (.int .i64 r))
          obtain ⟨W14, hW14⟩ : ∃ W, W13.setCell ⟨mb, 5, none⟩ (.int .i64 r) = W := ⟨_, rfl⟩
          rw [hW14] at HA14 ⊢
          clear hW14
          clear m4 mf4 m5 mf5 a8 a7 HN3
          have HN4 := Lib.hid (show Calls Try.prog 37 #[.pointer (some ⟨rb, 0, none⟩), .int .i64 1] W14 _ from num_at rb s 25 1 0 W14 HA14.out.2.1 H8.out.2 (by decide) (by have := HL28.out; omega))
          obtain ⟨Y, hY⟩ : ∃ Y, numAt s 25 1 = Y := ⟨_, rfl⟩
          have hY256 : Y < 256 := by have := numAt_lt s 25 1; omega
          have HYX := Lib.hid (show (s.getD 25 0).toNat = Y from by rw [← hY, numAt_one s 25 (by have := HL28.out; omega)])
          rw [hY] at HN4
          have HD8 := Lib.hid (fun W => dec8_any Y W hY256)
          obtain ⟨ev, hev⟩ : ∃ ev, pdecode Y 4 = ev := ⟨_, rfl⟩
          rw [hev] at HD8
          have HEV := Lib.hid hev
          clear hY hY256 hev
          go_upto_region 17 with (first | ((with_reducible refine HN4.out.mono ?_); rintro e w15 ⟨rfl, hr15, hg15⟩; have HA15 := Lib.hid (HA14.out.read hr15 hg15); clear hr15 hg15) | ((with_reducible refine (HD8.out _).mono ?_); rintro e w16 ⟨rfl, hb16⟩; have HA16 := Lib.hid (HA15.out.to hb16); clear hb16; obtain ⟨m6, mf6⟩ := HA16.out.2.2.1.at_ 6 _ rfl))
          have HA17 := Lib.hid (show AS w (w16.setCell ⟨mb, 6, none⟩ (.int .i64 ev)) rb2 rb mb (s.drop 26) 0 #[.int .i64 1, .int .i64 2, .string (bstr g'), .int .i64 M, .bool q, .int .i64 r, .int .i64 ev, .slice none 0 0, .slice none 0 0] from HA16.out.set 6 (.int .i64 ev))
          obtain ⟨W17, hW17⟩ : ∃ W, w16.setCell ⟨mb, 6, none⟩ (.int .i64 ev) = W := ⟨_, rfl⟩
          rw [hW17] at HA17 ⊢
          clear hW17
          clear m6 mf6 HN4 HD8
          have HN5 := Lib.hid (show Calls Try.prog 37 #[.pointer (some ⟨rb, 0, none⟩), .int .i64 2] W17 _ from num_at rb s 26 2 0 W17 HA17.out.2.1 H8.out.2 (by decide) (by have := HL28.out; omega))
          obtain ⟨n, hn⟩ : ∃ n, numAt s 26 2 = n := ⟨_, rfl⟩
          have hn65 : n ≤ 65535 := by have := numAt_lt s 26 2; omega
          rw [hn] at HN5
          have hpq := HPQ.out
          rw [hn, HXX.out, hM, HFX.out.1, HFX.out.2.1, HFX.out.2.2, HYX.out, HEV.out] at hpq
          have HPN := Lib.hid hpq
          clear hpq hn hM
          go_upto_region 18 with ((with_reducible refine HN5.out.mono ?_); rintro e w18 ⟨rfl, hr18, hg18⟩; have HA18 := Lib.hid (HA17.out.read hr18 hg18); clear hr18 hg18)
          by_cases h60 : 60 < n
          · have d60 : decide ((60 : Int) < n) = true := decide_eq_true (by omega)
            have d60' : decide (60 < n) = true := decide_eq_true h60
            have HPE := Lib.hid (show P = (3, .zero) from by rw [HPN.out, if_pos h60])
            have XR := HA18.out.1
            obtain ⟨y0, yf0⟩ := CBox.at_ XR 0 _ rfl
            obtain ⟨y1, yf1⟩ := CBox.at_ XR 1 _ rfl
            obtain ⟨y2, yf2⟩ := CBox.at_ XR 2 _ rfl
            obtain ⟨y3, yf3⟩ := CBox.at_ XR 3 _ rfl
            obtain ⟨y4, yf4⟩ := CBox.at_ XR 4 _ rfl
            obtain ⟨y5, yf5⟩ := CBox.at_ XR 5 _ rfl
            obtain ⟨y6, yf6⟩ := CBox.at_ XR 6 _ rfl
            obtain ⟨y7, yf7⟩ := CBox.at_ XR 7 _ rfl
            obtain ⟨y8, yf8⟩ := CBox.at_ XR 8 _ rfl
            clear XR h60 hn65
            go_wp2_with fail
            obtain ⟨r0, r1, r2, r3, r4, r5, r6, r7, r8⟩ := ret9 (cells9 HA18.out.1 (.int .i64 0) (.int .i64 0) (.string (bstr [])) (.int .i64 0) (.bool false) (.int .i64 0) (.int .i64 0) (.slice none 0 0) (.slice none 0 0))
            refine bodyPost_ret (v := .tuple #[.agg #[.int .i64 0, .int .i64 0, .string (bstr []), .int .i64 0, .bool false, .int .i64 0, .int .i64 0, .slice none 0 0, .slice none 0 0], .int .i64 3]) (by simp [results, Try.results17, go_sem, r0, r1, r2, r3, r4, r5, r6, r7, r8]) rfl ?_
            rw [HPE.out]
            exact retMsg_bad w _ 3 (HN.out.1 ▸ below9 HA18.out.2.2.2.1 (Nat.le_refl _) _ _ _ _ _ _ _ _ _)
          · have d60 : decide ((60 : Int) < n) = false := decide_eq_false (by omega)
            have d60' : decide (60 < n) = false := decide_eq_false h60
            have hpn := HPN.out
            rw [if_neg h60] at hpn
            have HPN := Lib.hid hpn
            have HN60 := Lib.hid (Nat.le_of_not_lt h60)
            clear h60 hpn hn65
            obtain ⟨i0, hi, hz0, hz1, hz2⟩ := info_parts infoAddr8
            go_wp2_with fail
            clear d60 d60'
            go_loopw [71] (fun i wr => ∃ (k : Nat) (A : List Str) (l : Str) (er : Int) (v : Value), k ≤ n ∧ i = .int .i64 k ∧ AS w wr rb2 rb mb l er #[.int .i64 1, .int .i64 2, .string (bstr g'), .int .i64 M, .bool q, .int .i64 r, .int .i64 ev, v, .slice none 0 0] ∧ wr.ownsRow (rb2 + 1) 22 1 v k (A.map encStr) ∧ A.length = k ∧ (∀ x ∈ A, x.length ≤ 16) ∧ l.length ≤ 1000000 ∧ asInv s n k A l er) (fun i _ => n - (RowKit.intOf i).toNat)
            case atStart =>
              exact ⟨0, [], _, _, _, Nat.zero_le _, rfl, HA18.out, World.ownsRow_nil _ _ _ _, rfl, by simp, by rw [List.length_drop]; have := H8.out.2; omega, .inl ⟨rfl, rfl, rfl, by have := HL28.out; omega⟩⟩
            case round =>
              obtain ⟨k, A, l, er, v, hk, rfl, ha, hrow, hAl, hA16, hll, hinv⟩ := hrel
              obtain ⟨qo, qc, rfl⟩ := own_form hrow
              have HI := Lib.hid (And.intro hrow (And.intro hAl (And.intro hA16 (And.intro hll hinv))))
              have HA := Lib.hid ha
              clear hrow hAl hA16 hll hinv ha
              by_cases hlt : k < n
              · have HAD := Lib.hid (show Calls Try.prog 38 #[.pointer (some ⟨rb, 0, none⟩)] wr.drew _ from addr9_any rb l er wr.drew (CBox.below HA.out.2.1 (Below.drew (Below.refl _ _)) (CBox.lt HA.out.2.1)) HI.out.2.2.2.1)
                unfold RetTk at HAD
                obtain ⟨T, hT⟩ : ∃ T, tkS l 16 = T := ⟨_, rfl⟩
                have HST := Lib.hid (show asInv s n (k + 1) (A ++ [T]) (tkL l 16) (tkE l er 16) ∧ T.length ≤ 16 from by rw [← hT]; exact ⟨asInv_step s n k A l er hlt HI.out.2.2.2.2, tkS16_len l⟩)
                rw [hT] at HAD
                have hwk : wrap64 ((k : Int) + 1) = (k : Int) + 1 := w64 _ (by omega) (by have := HN60.out; omega)
                have hc3 : k + 1 ≤ maxLen := Nat.le_trans (Nat.succ_le_succ (Nat.le_trans hk HN60.out)) (by decide)
                have hc4 : (k + 1) * 16 ≤ 140737488355328 := Nat.le_trans (Nat.mul_le_mul_right 16 (Nat.succ_le_succ (Nat.le_trans hk HN60.out))) (by decide)
                have x7 := (HA.out.2.2.1.at_ 7 _ rfl).1
                have HLT := Lib.hid (And.intro hlt (HA.out.2.2.1.lt))
                have dlt : decide ((k : Int) < n) = true := decide_eq_true (by omega)
                have dlt' : decide (k < n) = true := decide_eq_true hlt
                clear hT hk hlt
                go_upto_region 22 with fail
                have HAD0 := Lib.hid (HA.out.to (Below.drew (Below.refl wr.heap.size wr)))
                refine wp_region_held_drew (S := fun _ => True) (by kernel_rfl) trivial (fun _ => ?_)
                refine takeL 0 (v := ?_) rfl (by kernel_rfl) (by kernel_rfl) (by kernel_rfl) (fun _ _ _ h => h) (Or.inl ⟨by rfl, ?_⟩) (by assumption) ?_
                rotate_left
                focus (intro wq hSq; go_simp <;> with_reducible rfl)
                simp only [Act.put, List.setIfInBounds_toArray, List.set_cons_zero, List.set_cons_succ]
                refine takeL 2 (v := ?_) rfl (by kernel_rfl) (by kernel_rfl) (by kernel_rfl) (fun _ _ _ h => h) (Or.inl ⟨by rfl, ?_⟩) (by assumption) ?_
                rotate_left
                focus (intro wq hSq; go_simp <;> with_reducible rfl)
                simp only [Act.put, List.setIfInBounds_toArray, List.set_cons_zero, List.set_cons_succ]
                refine wpAnyH_ready (rs := [1, 3]) (by kernel_rfl) (by simp) (nextL 1 rfl (fun Kr hKr => ?_) (nextL 3 rfl (fun Kr hKr => ?_) AllReadyH.nil))
                · rw [if_pos (by rfl)]
                  have y7 := (HAD0.out.2.2.1.at_ 7 _ rfl).1
                  go_simp
                  refine hKr.out _ _ trivial (fun _ => ?_)
                  clear hKr y7
                  refine wpAnyH_ready (rs := [3]) (by kernel_rfl) (by simp) (nextL 3 rfl (fun Kr hKr => ?_) AllReadyH.nil)
                  rw [if_pos (by rfl)]
                  go_simp
                  refine HAD.out.mono ?_
                  rintro e w3 ⟨rfl, hr3, hg3⟩
                  have HA3 := Lib.hid ((HA.out.to (Below.drew (Below.refl _ _))).read hr3 hg3)
                  have HO3 := Lib.hid ((own_below HI.out.1 (Below.drew (Below.refl wr.heap.size wr))).kept hg3 (.inr (own_box (own_below HI.out.1 (Below.drew (Below.refl wr.heap.size wr))) (HA.out.to (Below.drew (Below.refl _ _))).2.1 (by decide))))
                  refine hKr.out _ _ trivial (fun _ => ?_)
                  clear hKr hr3 hg3
                  refine wpAnyH_ready (rs := [4]) (by kernel_rfl) (by simp) (nextL 4 rfl (fun Kr hKr => ?_) AllReadyH.nil)
                  rw [if_pos (by rfl)]
                  go_simp
                  have ka : Below w3.heap.size w3 (w3.alloc (.cells #[.string (bstr T)] 22)) := (Below.refl _ _).alloc (Nat.le_refl _) _
                  have T1 := Lib.hid (own_below HO3.out ka)
                  have T2 := Lib.hid (sliceOf_block (size := 1) (m := 1) (c := 1) (heap_new w3 (.cells #[.string (bstr T)] 22) _ rfl) rfl (by simp [Value.oneCell']))
                  have T3 := Lib.hid (show rb2 + 1 ≤ (w3.alloc (.cells #[.string (bstr T)] 22)).heap.size from by rw [World.size_alloc]; exact Nat.succ_le_succ (Nat.le_of_lt HA3.out.1.lt))
                  have T4 := Lib.hid (HA3.out.to ka)
                  obtain ⟨W4, hW4⟩ : ∃ W4, w3.alloc (.cells #[.string (bstr T)] 22) = W4 := ⟨_, rfl⟩
                  rw [hW4] at T1 T2 T3 T4 ⊢
                  refine hKr.out _ _ trivial (fun _ => ?_)
                  clear hKr ka hW4
                  refine wpAnyH_ready (rs := [5]) (by kernel_rfl) (by simp) (nextL 5 rfl (fun Kr hKr => ?_) AllReadyH.nil)
                  refine step_append_vals (by rfl) (.tmp 74) (.tmp 77) 26 (by rfl) (rb2 + 1) 22 i0 _ 1 16 Try.underlying26 hi hz0 hz1 hz2 rfl (by decide) (.slice qo k qc) k (A.map encStr) (by rfl) T1.out (.slice (some ⟨w3.heap.size, 0, none⟩) 1 1) 1 [.string (bstr T)] (by rfl) T2.out hc3 hc4 T3.out ?_
                  intro v' w4 ho hg hv
                  obtain ⟨vo, vc, rfl⟩ := own_form ho
                  have HA4 := Lib.hid (T4.out.row T1.out (Nat.le_succ _) hg)
                  have HO4 := Lib.hid ho
                  refine hKr.out _ _ trivial (fun _ => ?_)
                  clear hKr ho hg hv
                  refine takeL 6 (v := ?_) rfl (by kernel_rfl) (by kernel_rfl) (by kernel_rfl) (fun _ _ _ h => h) (Or.inl ⟨by rfl, ?_⟩) (by assumption) ?_
                  rotate_left
                  focus (intro wq hSq; go_simp <;> with_reducible rfl)
                  simp only [Act.put, List.setIfInBounds_toArray, List.set_cons_zero, List.set_cons_succ]
                  refine wpAnyH_ready (rs := [7]) (by kernel_rfl) (by simp) (nextL 7 rfl (fun Kr hKr => ?_) AllReadyH.nil)
                  rw [if_pos (by rfl)]
                  obtain ⟨z7, zf7⟩ := HA4.out.2.2.1.at_ 7 _ rfl
                  go_simp
                  refine hKr.out _ _ trivial (fun _ => ?_)
                  clear hKr z7 zf7
                  refine wpAnyH_done (by kernel_rfl) ?_ _
                  have HA5 := Lib.hid (show AS w (w4.setCell ⟨mb, 7, none⟩ (.slice vo (k + 1) vc)) rb2 rb mb (tkL l 16) (tkE l er 16) #[.int .i64 1, .int .i64 2, .string (bstr g'), .int .i64 M, .bool q, .int .i64 r, .int .i64 ev, .slice vo (k + 1) vc, .slice none 0 0] from HA4.out.set 7 _)
                  have HO5 := Lib.hid (show (w4.setCell ⟨mb, 7, none⟩ (.slice vo (k + 1) vc)).ownsRow (rb2 + 1) 22 1 (.slice vo (k + 1) vc) (k + 1) ((A ++ [T]).map encStr) from by rw [List.map_append, List.map_cons, List.map_nil, enc_bstr]; exact HO4.out.kept (gb_set w4 mb 7 (.slice vo (k + 1) vc)) (.inr (own_box HO4.out HA4.out.2.2.1 (by decide))))
                  obtain ⟨W5, hW5⟩ : ∃ W5, w4.setCell ⟨mb, 7, none⟩ (.slice vo (k + 1) vc) = W5 := ⟨_, rfl⟩
                  rw [hW5] at HA5 HO5 ⊢
                  clear hW5 hc3 hc4
                  go_wp2_with fail
                  refine ⟨⟨k + 1, A ++ [T], tkL l 16, tkE l er 16, _, HLT.out.1, by rw [hwk]; rfl, HA5.out, HO5.out, by rw [List.length_append, HI.out.2.1]; rfl, fun x hx => by
                    rcases List.mem_append.1 hx with hx | hx
                    · exact HI.out.2.2.1 x hx
                    · rw [List.mem_singleton] at hx; subst hx; exact HST.out.2, Nat.le_trans (tkL_len l 16) HI.out.2.2.2.1, HST.out.1⟩, by rw [hwk]; exact meas_up n k HLT.out.1⟩
                · rw [if_pos (by rfl)]
                  go_simp
                  refine HAD.out.mono ?_
                  rintro e w3 ⟨rfl, hr3, hg3⟩
                  have HA3 := Lib.hid ((HA.out.to (Below.drew (Below.refl _ _))).read hr3 hg3)
                  have HO3 := Lib.hid ((own_below HI.out.1 (Below.drew (Below.refl wr.heap.size wr))).kept hg3 (.inr (own_box (own_below HI.out.1 (Below.drew (Below.refl wr.heap.size wr))) (HA.out.to (Below.drew (Below.refl _ _))).2.1 (by decide))))
                  refine hKr.out _ _ trivial (fun _ => ?_)
                  clear hKr hr3 hg3
                  refine wpAnyH_ready (rs := [1, 4]) (by kernel_rfl) (by simp) (nextL 1 rfl (fun Kr hKr => ?_) (nextL 4 rfl (fun Kr hKr => ?_) AllReadyH.nil))
                  · rw [if_pos (by rfl)]
                    have y7 := (HA3.out.2.2.1.at_ 7 _ rfl).1
                    go_simp
                    refine hKr.out _ _ trivial (fun _ => ?_)
                    clear hKr y7
                    refine wpAnyH_ready (rs := [4]) (by kernel_rfl) (by simp) (nextL 4 rfl (fun Kr hKr => ?_) AllReadyH.nil)
                    rw [if_pos (by rfl)]
                    go_simp
                    have ka : Below w3.heap.size w3 (w3.alloc (.cells #[.string (bstr T)] 22)) := (Below.refl _ _).alloc (Nat.le_refl _) _
                    have T1 := Lib.hid (own_below HO3.out ka)
                    have T2 := Lib.hid (sliceOf_block (size := 1) (m := 1) (c := 1) (heap_new w3 (.cells #[.string (bstr T)] 22) _ rfl) rfl (by simp [Value.oneCell']))
                    have T3 := Lib.hid (show rb2 + 1 ≤ (w3.alloc (.cells #[.string (bstr T)] 22)).heap.size from by rw [World.size_alloc]; exact Nat.succ_le_succ (Nat.le_of_lt HA3.out.1.lt))
                    have T4 := Lib.hid (HA3.out.to ka)
                    obtain ⟨W4, hW4⟩ : ∃ W4, w3.alloc (.cells #[.string (bstr T)] 22) = W4 := ⟨_, rfl⟩
                    rw [hW4] at T1 T2 T3 T4 ⊢
                    refine hKr.out _ _ trivial (fun _ => ?_)
                    clear hKr ka hW4
                    refine wpAnyH_ready (rs := [5]) (by kernel_rfl) (by simp) (nextL 5 rfl (fun Kr hKr => ?_) AllReadyH.nil)
                    refine step_append_vals (by rfl) (.tmp 74) (.tmp 77) 26 (by rfl) (rb2 + 1) 22 i0 _ 1 16 Try.underlying26 hi hz0 hz1 hz2 rfl (by decide) (.slice qo k qc) k (A.map encStr) (by rfl) T1.out (.slice (some ⟨w3.heap.size, 0, none⟩) 1 1) 1 [.string (bstr T)] (by rfl) T2.out hc3 hc4 T3.out ?_
                    intro v' w4 ho hg hv
                    obtain ⟨vo, vc, rfl⟩ := own_form ho
                    have HA4 := Lib.hid (T4.out.row T1.out (Nat.le_succ _) hg)
                    have HO4 := Lib.hid ho
                    refine hKr.out _ _ trivial (fun _ => ?_)
                    clear hKr ho hg hv
                    refine takeL 6 (v := ?_) rfl (by kernel_rfl) (by kernel_rfl) (by kernel_rfl) (fun _ _ _ h => h) (Or.inl ⟨by rfl, ?_⟩) (by assumption) ?_
                    rotate_left
                    focus (intro wq hSq; go_simp <;> with_reducible rfl)
                    simp only [Act.put, List.setIfInBounds_toArray, List.set_cons_zero, List.set_cons_succ]
                    refine wpAnyH_ready (rs := [7]) (by kernel_rfl) (by simp) (nextL 7 rfl (fun Kr hKr => ?_) AllReadyH.nil)
                    rw [if_pos (by rfl)]
                    obtain ⟨z7, zf7⟩ := HA4.out.2.2.1.at_ 7 _ rfl
                    go_simp
                    refine hKr.out _ _ trivial (fun _ => ?_)
                    clear hKr z7 zf7
                    refine wpAnyH_done (by kernel_rfl) ?_ _
                    have HA5 := Lib.hid (show AS w (w4.setCell ⟨mb, 7, none⟩ (.slice vo (k + 1) vc)) rb2 rb mb (tkL l 16) (tkE l er 16) #[.int .i64 1, .int .i64 2, .string (bstr g'), .int .i64 M, .bool q, .int .i64 r, .int .i64 ev, .slice vo (k + 1) vc, .slice none 0 0] from HA4.out.set 7 _)
                    have HO5 := Lib.hid (show (w4.setCell ⟨mb, 7, none⟩ (.slice vo (k + 1) vc)).ownsRow (rb2 + 1) 22 1 (.slice vo (k + 1) vc) (k + 1) ((A ++ [T]).map encStr) from by rw [List.map_append, List.map_cons, List.map_nil, enc_bstr]; exact HO4.out.kept (gb_set w4 mb 7 (.slice vo (k + 1) vc)) (.inr (own_box HO4.out HA4.out.2.2.1 (by decide))))
                    obtain ⟨W5, hW5⟩ : ∃ W5, w4.setCell ⟨mb, 7, none⟩ (.slice vo (k + 1) vc) = W5 := ⟨_, rfl⟩
                    rw [hW5] at HA5 HO5 ⊢
                    clear hW5 hc3 hc4
                    go_wp2_with fail
                    refine ⟨⟨k + 1, A ++ [T], tkL l 16, tkE l er 16, _, HLT.out.1, by rw [hwk]; rfl, HA5.out, HO5.out, by rw [List.length_append, HI.out.2.1]; rfl, fun x hx => by
                      rcases List.mem_append.1 hx with hx | hx
                      · exact HI.out.2.2.1 x hx
                      · rw [List.mem_singleton] at hx; subst hx; exact HST.out.2, Nat.le_trans (tkL_len l 16) HI.out.2.2.2.1, HST.out.1⟩, by rw [hwk]; exact meas_up n k HLT.out.1⟩
                  · rw [if_pos (by rfl)]
                    go_simp
                    have ka : Below w3.heap.size w3 (w3.alloc (.cells #[.string (bstr T)] 22)) := (Below.refl _ _).alloc (Nat.le_refl _) _
                    have T1 := Lib.hid (own_below HO3.out ka)
                    have T2 := Lib.hid (sliceOf_block (size := 1) (m := 1) (c := 1) (heap_new w3 (.cells #[.string (bstr T)] 22) _ rfl) rfl (by simp [Value.oneCell']))
                    have T3 := Lib.hid (show rb2 + 1 ≤ (w3.alloc (.cells #[.string (bstr T)] 22)).heap.size from by rw [World.size_alloc]; exact Nat.succ_le_succ (Nat.le_of_lt HA3.out.1.lt))
                    have T4 := Lib.hid (HA3.out.to ka)
                    obtain ⟨W4, hW4⟩ : ∃ W4, w3.alloc (.cells #[.string (bstr T)] 22) = W4 := ⟨_, rfl⟩
                    rw [hW4] at T1 T2 T3 T4 ⊢
                    refine hKr.out _ _ trivial (fun _ => ?_)
                    clear hKr ka hW4
                    refine wpAnyH_ready (rs := [1]) (by kernel_rfl) (by simp) (nextL 1 rfl (fun Kr hKr => ?_) AllReadyH.nil)
                    rw [if_pos (by rfl)]
                    have y7 := (T4.out.2.2.1.at_ 7 _ rfl).1
                    go_simp
                    refine hKr.out _ _ trivial (fun _ => ?_)
                    clear hKr y7
                    refine wpAnyH_ready (rs := [5]) (by kernel_rfl) (by simp) (nextL 5 rfl (fun Kr hKr => ?_) AllReadyH.nil)
                    refine step_append_vals (by rfl) (.tmp 74) (.tmp 77) 26 (by rfl) (rb2 + 1) 22 i0 _ 1 16 Try.underlying26 hi hz0 hz1 hz2 rfl (by decide) (.slice qo k qc) k (A.map encStr) (by rfl) T1.out (.slice (some ⟨w3.heap.size, 0, none⟩) 1 1) 1 [.string (bstr T)] (by rfl) T2.out hc3 hc4 T3.out ?_
                    intro v' w4 ho hg hv
                    obtain ⟨vo, vc, rfl⟩ := own_form ho
                    have HA4 := Lib.hid (T4.out.row T1.out (Nat.le_succ _) hg)
                    have HO4 := Lib.hid ho
                    refine hKr.out _ _ trivial (fun _ => ?_)
                    clear hKr ho hg hv
                    refine takeL 6 (v := ?_) rfl (by kernel_rfl) (by kernel_rfl) (by kernel_rfl) (fun _ _ _ h => h) (Or.inl ⟨by rfl, ?_⟩) (by assumption) ?_
                    rotate_left
                    focus (intro wq hSq; go_simp <;> with_reducible rfl)
                    simp only [Act.put, List.setIfInBounds_toArray, List.set_cons_zero, List.set_cons_succ]
                    refine wpAnyH_ready (rs := [7]) (by kernel_rfl) (by simp) (nextL 7 rfl (fun Kr hKr => ?_) AllReadyH.nil)
                    rw [if_pos (by rfl)]
                    obtain ⟨z7, zf7⟩ := HA4.out.2.2.1.at_ 7 _ rfl
                    go_simp
                    refine hKr.out _ _ trivial (fun _ => ?_)
                    clear hKr z7 zf7
                    refine wpAnyH_done (by kernel_rfl) ?_ _
                    have HA5 := Lib.hid (show AS w (w4.setCell ⟨mb, 7, none⟩ (.slice vo (k + 1) vc)) rb2 rb mb (tkL l 16) (tkE l er 16) #[.int .i64 1, .int .i64 2, .string (bstr g'), .int .i64 M, .bool q, .int .i64 r, .int .i64 ev, .slice vo (k + 1) vc, .slice none 0 0] from HA4.out.set 7 _)
                    have HO5 := Lib.hid (show (w4.setCell ⟨mb, 7, none⟩ (.slice vo (k + 1) vc)).ownsRow (rb2 + 1) 22 1 (.slice vo (k + 1) vc) (k + 1) ((A ++ [T]).map encStr) from by rw [List.map_append, List.map_cons, List.map_nil, enc_bstr]; exact HO4.out.kept (gb_set w4 mb 7 (.slice vo (k + 1) vc)) (.inr (own_box HO4.out HA4.out.2.2.1 (by decide))))
                    obtain ⟨W5, hW5⟩ : ∃ W5, w4.setCell ⟨mb, 7, none⟩ (.slice vo (k + 1) vc) = W5 := ⟨_, rfl⟩
                    rw [hW5] at HA5 HO5 ⊢
                    clear hW5 hc3 hc4
                    go_wp2_with fail
                    refine ⟨⟨k + 1, A ++ [T], tkL l 16, tkE l er 16, _, HLT.out.1, by rw [hwk]; rfl, HA5.out, HO5.out, by rw [List.length_append, HI.out.2.1]; rfl, fun x hx => by
                      rcases List.mem_append.1 hx with hx | hx
                      · exact HI.out.2.2.1 x hx
                      · rw [List.mem_singleton] at hx; subst hx; exact HST.out.2, Nat.le_trans (tkL_len l 16) HI.out.2.2.2.1, HST.out.1⟩, by rw [hwk]; exact meas_up n k HLT.out.1⟩
              · obtain rfl : n = k := Nat.le_antisymm (Nat.le_of_not_lt hlt) hk
                clear hlt hk
                rcases HI.out.2.2.2.2 with ⟨he, hl, hA, hlen⟩ | ⟨he, hlen⟩
                · subst he
                  obtain ⟨V, hV⟩ : ∃ V : Int, V = 2 := ⟨_, rfl⟩
                  obtain ⟨ao, hao⟩ : ∃ ao, ao = qo := ⟨_, rfl⟩
                  obtain ⟨c, hc⟩ : ∃ c, c = qc := ⟨_, rfl⟩
                  obtain ⟨L, hL⟩ : ∃ L, L = A := ⟨_, rfl⟩
                  have HF0 := Lib.hid (show AS w wr rb2 rb mb l 0 #[.int .i64 1, .int .i64 V, .string (bstr g'), .int .i64 M, .bool q, .int .i64 r, .int .i64 ev, .slice ao n c, .slice none 0 0] from by rw [hV, hao, hc]; exact HA.out)
                  have HST := Lib.hid (show Strs wr (.slice ao n c) L from by
                    rw [hao, hc, hL]
                    have h1 := HI.out.1
                    obtain ⟨kk, hkk⟩ : ∃ kk, A.length = kk := ⟨_, rfl⟩
                    have h2 : kk = n := hkk.symm.trans HI.out.2.1
                    have h3 : wr.ownsRow (rb2 + 1) 22 1 (.slice qo n qc) A.length (A.map encStr) := by rw [hkk, h2]; exact h1
                    exact Strs.own h3 (by rw [hkk, h2]; exact Nat.le_trans HN60.out (by decide)) (fun x hx => Nat.le_trans (HI.out.2.2.1 x hx) (by decide)))
                  have HLI := Lib.hid (show Lies (rb2 + 1) (.slice ao n c) from by rw [hao, hc]; exact Lies.own HI.out.1)
                  have hpn := HPN.out
                  rw [if_neg (Nat.not_lt.2 hlen), ← hA, ← hL, ← hV] at hpn
                  have HBAD := Lib.hid (show (g' ≠ [] ∧ grp g' 16 = false) ∨ (g' = [] ∧ 0 < n) → P = (3, .zero) from fun h => by rw [hpn, if_pos h])
                  have HGOOD := Lib.hid (show ¬ ((g' ≠ [] ∧ grp g' 16 = false) ∨ (g' = [] ∧ 0 < n)) → P = (0, ⟨1, V, g', M, q, r, ev, L, []⟩) from fun h => by rw [hpn, if_neg h])
                  clear hV hao hc hL hl hA hlen hpn
                  have XA := HF0.out.cells
                  obtain ⟨e1, _⟩ := XA.2.1.at_ 1 _ rfl
                  have XM := XA.2.2
                  obtain ⟨x0, xf0⟩ := CBox.at_ XM 0 _ rfl
                  obtain ⟨x1, xf1⟩ := CBox.at_ XM 1 _ rfl
                  obtain ⟨x2, xf2⟩ := CBox.at_ XM 2 _ rfl
                  obtain ⟨x3, xf3⟩ := CBox.at_ XM 3 _ rfl
                  obtain ⟨x4, xf4⟩ := CBox.at_ XM 4 _ rfl
                  obtain ⟨x5, xf5⟩ := CBox.at_ XM 5 _ rfl
                  obtain ⟨x6, xf6⟩ := CBox.at_ XM 6 _ rfl
                  obtain ⟨x7, xf7⟩ := CBox.at_ XM 7 _ rfl
                  obtain ⟨x8, xf8⟩ := CBox.at_ XM 8 _ rfl
                  have XR := XA.1
                  obtain ⟨y0, yf0⟩ := CBox.at_ XR 0 _ rfl
                  obtain ⟨y1, yf1⟩ := CBox.at_ XR 1 _ rfl
                  obtain ⟨y2, yf2⟩ := CBox.at_ XR 2 _ rfl
                  obtain ⟨y3, yf3⟩ := CBox.at_ XR 3 _ rfl
                  obtain ⟨y4, yf4⟩ := CBox.at_ XR 4 _ rfl
                  obtain ⟨y5, yf5⟩ := CBox.at_ XR 5 _ rfl
                  obtain ⟨y6, yf6⟩ := CBox.at_ XR 6 _ rfl
                  obtain ⟨y7, yf7⟩ := CBox.at_ XR 7 _ rfl
                  obtain ⟨y8, yf8⟩ := CBox.at_ XR 8 _ rfl
                  clear XM XR XA
                  have l7 := run_len_any (P := Try.prog) Try.underlying26 ao n c
                  by_cases hg0 : g' = []
                  · by_cases hn : 0 < n
                    · have dn : decide ((0 : Int) < n) = true := decide_eq_true (by omega)
                      have dn' : decide (0 < n) = true := decide_eq_true hn
                      have HPE := Lib.hid (HBAD.out (.inr ⟨hg0, hn⟩))
                      subst hg0
                      clear hn
                      go_wp2_with fail
                      obtain ⟨r0, r1, r2, r3, r4, r5, r6, r7, r8⟩ := ret9 (cells9 HF0.out.1 (.int .i64 0) (.int .i64 0) (.string (bstr [])) (.int .i64 0) (.bool false) (.int .i64 0) (.int .i64 0) (.slice none 0 0) (.slice none 0 0))
                      refine bodyPost_ret (v := .tuple #[.agg #[.int .i64 0, .int .i64 0, .string (bstr []), .int .i64 0, .bool false, .int .i64 0, .int .i64 0, .slice none 0 0, .slice none 0 0], .int .i64 3]) (by simp [results, Try.results17, go_sem, r0, r1, r2, r3, r4, r5, r6, r7, r8]) rfl ?_
                      rw [HPE.out]
                      exact retMsg_bad w _ 3 (HN.out.1 ▸ below9 HF0.out.2.2.2.1 (Nat.le_refl _) _ _ _ _ _ _ _ _ _)
                    · have dn : decide ((0 : Int) < n) = false := decide_eq_false (by omega)
                      have dn' : decide (0 < n) = false := decide_eq_false hn
                      have HPE := Lib.hid (HGOOD.out (fun h => by rcases h with h | h; exact h.1 hg0; exact hn h.2))
                      subst hg0
                      clear hn
                      go_wp2_with fail
                      obtain ⟨r0, r1, r2, r3, r4, r5, r6, r7, r8⟩ := ret9 (cells9 HF0.out.1 (.int .i64 1) (.int .i64 V) (.string (bstr [])) (.int .i64 M) (.bool q) (.int .i64 r) (.int .i64 ev) (.slice ao n c) (.slice none 0 0))
                      refine bodyPost_ret (v := .tuple #[.agg #[.int .i64 1, .int .i64 V, .string (bstr []), .int .i64 M, .bool q, .int .i64 r, .int .i64 ev, .slice ao n c, .slice none 0 0], .int .i64 0]) (by simp [results, Try.results17, go_sem, r0, r1, r2, r3, r4, r5, r6, r7, r8]) rfl ?_
                      rw [HPE.out]
                      exact ⟨.slice ao n c, .slice none 0 0, rfl, strs9 HST.out HLI.out (Nat.lt_succ_self _) _ _ _ _ _ _ _ _ _, HLI.out.mono (by rw [HN.out.1]; exact Nat.le_succ _), Row.nil _ _, HN.out.1 ▸ below9 HF0.out.2.2.2.1 (Nat.le_refl _) _ _ _ _ _ _ _ _ _⟩
                  · have e2 : (g' == []) = false := beq_eq_false_iff_ne.2 hg0
                    have e3 : (g' != []) = true := bne_iff_ne.2 hg0
                    have HGR := Lib.hid (fun W => mgroup_any g' W HGL.out)
                    cases hq : grp g' 16
                    · rw [hq] at HGR
                      have HPE := Lib.hid (HBAD.out (.inl ⟨hg0, hq⟩))
                      clear hg0 hq
                      go_wp2_with ((with_reducible refine (HGR.out _).mono ?_); rintro e w7 ⟨rfl, hb7⟩; clear x0 xf0 x1 xf1 x2 xf2 x3 xf3 x4 xf4 x5 xf5 x6 xf6 x7 xf7 x8 xf8 y0 yf0 y1 yf1 y2 yf2 y3 yf3 y4 yf4 y5 yf5 y6 yf6 y7 yf7 y8 yf8; have HF7 := Lib.hid (HF0.out.to hb7); obtain ⟨y0, yf0⟩ := CBox.at_ HF7.out.1 0 _ rfl; obtain ⟨y1, yf1⟩ := CBox.at_ HF7.out.1 1 _ rfl; obtain ⟨y2, yf2⟩ := CBox.at_ HF7.out.1 2 _ rfl; obtain ⟨y3, yf3⟩ := CBox.at_ HF7.out.1 3 _ rfl; obtain ⟨y4, yf4⟩ := CBox.at_ HF7.out.1 4 _ rfl; obtain ⟨y5, yf5⟩ := CBox.at_ HF7.out.1 5 _ rfl; obtain ⟨y6, yf6⟩ := CBox.at_ HF7.out.1 6 _ rfl; obtain ⟨y7, yf7⟩ := CBox.at_ HF7.out.1 7 _ rfl; obtain ⟨y8, yf8⟩ := CBox.at_ HF7.out.1 8 _ rfl; clear hb7)
                      obtain ⟨r0, r1, r2, r3, r4, r5, r6, r7, r8⟩ := ret9 (cells9 HF7.out.1 (.int .i64 0) (.int .i64 0) (.string (bstr [])) (.int .i64 0) (.bool false) (.int .i64 0) (.int .i64 0) (.slice none 0 0) (.slice none 0 0))
                      refine bodyPost_ret (v := .tuple #[.agg #[.int .i64 0, .int .i64 0, .string (bstr []), .int .i64 0, .bool false, .int .i64 0, .int .i64 0, .slice none 0 0, .slice none 0 0], .int .i64 3]) (by simp [results, Try.results17, go_sem, r0, r1, r2, r3, r4, r5, r6, r7, r8]) rfl ?_
                      rw [HPE.out]
                      exact retMsg_bad w _ 3 (HN.out.1 ▸ below9 HF7.out.2.2.2.1 (Nat.le_refl _) _ _ _ _ _ _ _ _ _)
                    · rw [hq] at HGR
                      have HPE := Lib.hid (HGOOD.out (fun h => by rcases h with h | h; rw [hq] at h; cases h.2; exact hg0 h.1))
                      clear hg0 hq
                      go_wp2_with ((with_reducible refine (HGR.out _).mono ?_); rintro e w7 ⟨rfl, hb7⟩; clear x0 xf0 x1 xf1 x2 xf2 x3 xf3 x4 xf4 x5 xf5 x6 xf6 x7 xf7 x8 xf8 y0 yf0 y1 yf1 y2 yf2 y3 yf3 y4 yf4 y5 yf5 y6 yf6 y7 yf7 y8 yf8; have HF7 := Lib.hid (HF0.out.to hb7); have HST7 := Lib.hid (HST.out.mono hb7); obtain ⟨x0, xf0⟩ := CBox.at_ HF7.out.2.2.1 0 _ rfl; obtain ⟨x1, xf1⟩ := CBox.at_ HF7.out.2.2.1 1 _ rfl; obtain ⟨x2, xf2⟩ := CBox.at_ HF7.out.2.2.1 2 _ rfl; obtain ⟨x3, xf3⟩ := CBox.at_ HF7.out.2.2.1 3 _ rfl; obtain ⟨x4, xf4⟩ := CBox.at_ HF7.out.2.2.1 4 _ rfl; obtain ⟨x5, xf5⟩ := CBox.at_ HF7.out.2.2.1 5 _ rfl; obtain ⟨x6, xf6⟩ := CBox.at_ HF7.out.2.2.1 6 _ rfl; obtain ⟨x7, xf7⟩ := CBox.at_ HF7.out.2.2.1 7 _ rfl; obtain ⟨x8, xf8⟩ := CBox.at_ HF7.out.2.2.1 8 _ rfl; obtain ⟨y0, yf0⟩ := CBox.at_ HF7.out.1 0 _ rfl; obtain ⟨y1, yf1⟩ := CBox.at_ HF7.out.1 1 _ rfl; obtain ⟨y2, yf2⟩ := CBox.at_ HF7.out.1 2 _ rfl; obtain ⟨y3, yf3⟩ := CBox.at_ HF7.out.1 3 _ rfl; obtain ⟨y4, yf4⟩ := CBox.at_ HF7.out.1 4 _ rfl; obtain ⟨y5, yf5⟩ := CBox.at_ HF7.out.1 5 _ rfl; obtain ⟨y6, yf6⟩ := CBox.at_ HF7.out.1 6 _ rfl; obtain ⟨y7, yf7⟩ := CBox.at_ HF7.out.1 7 _ rfl; obtain ⟨y8, yf8⟩ := CBox.at_ HF7.out.1 8 _ rfl; clear hb7)
                      obtain ⟨r0, r1, r2, r3, r4, r5, r6, r7, r8⟩ := ret9 (cells9 HF7.out.1 (.int .i64 1) (.int .i64 V) (.string (bstr g')) (.int .i64 M) (.bool q) (.int .i64 r) (.int .i64 ev) (.slice ao n c) (.slice none 0 0))
                      refine bodyPost_ret (v := .tuple #[.agg #[.int .i64 1, .int .i64 V, .string (bstr g'), .int .i64 M, .bool q, .int .i64 r, .int .i64 ev, .slice ao n c, .slice none 0 0], .int .i64 0]) (by simp [results, Try.results17, go_sem, r0, r1, r2, r3, r4, r5, r6, r7, r8]) rfl ?_
                      rw [HPE.out]
                      exact ⟨.slice ao n c, .slice none 0 0, rfl, strs9 HST7.out HLI.out (Nat.lt_succ_self _) _ _ _ _ _ _ _ _ _, HLI.out.mono (by rw [HN.out.1]; exact Nat.le_succ _), Row.nil _ _, HN.out.1 ▸ below9 HF7.out.2.2.2.1 (Nat.le_refl _) _ _ _ _ _ _ _ _ _⟩
                · subst he
                  have HPE := Lib.hid (show P = (2, .zero) from by rw [HPN.out, if_pos hlen])
                  clear hlen
                  have e1 := (HA.out.cells.2.1.at_ 1 _ rfl).1
                  go_upto_region 25 with fail
                  clear e1
                  have HFX := Lib.hid (show ∀ wq, (CBox wq rb 66 #[.string (bstr l), .int .i64 2] ∧ Below rb2 w wq) → wq.cell? ⟨rb, 1, none⟩ = some (.int .i64 2) from fun wq h => (h.1.at_ 1 _ rfl).1)
                  have HF := HFX
                  refine wp_region_held_drew (S := fun W' => CBox W' rb 66 #[.string (bstr l), .int .i64 2] ∧ Below rb2 w W') (by kernel_rfl) ⟨CBox.below HA.out.2.1 (Below.drew (Below.refl _ _)) (CBox.lt HA.out.2.1), Below.drew HA.out.2.2.2.1⟩ (fun hHeld => ?_)
                  have HXR := Lib.hid (HA.out.1.below (Below.drew (Below.refl _ _)) HA.out.1.lt)
                  obtain ⟨U, hU⟩ : ∃ U, World.drew wr = U := ⟨_, rfl⟩
                  rw [hU] at hHeld HXR ⊢
                  clear hU
                  refine takeL 0 (v := ?_) rfl (by kernel_rfl) (by kernel_rfl) (by kernel_rfl) (fun _ _ _ h => h) (Or.inl ⟨by rfl, ?_⟩) (by assumption) ?_
                  rotate_left
                  focus (intro wq hSq; have f0 := HF.out wq hSq; go_simp <;> with_reducible rfl)
                  simp only [Act.put, List.setIfInBounds_toArray, List.set_cons_zero, List.set_cons_succ]
                  refine takeL 1 (v := ?_) rfl (by kernel_rfl) (by kernel_rfl) (by kernel_rfl) (fun _ _ _ h => h) (Or.inl ⟨by rfl, ?_⟩) (by assumption) ?_
                  rotate_left
                  focus (intro wq hSq; have f0 := HF.out wq hSq; go_simp <;> with_reducible rfl)
                  simp only [Act.put, List.setIfInBounds_toArray, List.set_cons_zero, List.set_cons_succ]
                  refine takeL 2 (v := ?_) rfl (by kernel_rfl) (by kernel_rfl) (by kernel_rfl) (fun _ _ _ h => h) (Or.inl ⟨by rfl, ?_⟩) (by assumption) ?_
                  rotate_left
                  focus (intro wq hSq; have f0 := HF.out wq hSq; go_simp <;> with_reducible rfl)
                  simp only [Act.put, List.setIfInBounds_toArray, List.set_cons_zero, List.set_cons_succ]
                  refine takeL 3 (v := ?_) rfl (by kernel_rfl) (by kernel_rfl) (by kernel_rfl) (fun _ _ _ h => h) (Or.inl ⟨by rfl, ?_⟩) (by assumption) ?_
                  rotate_left
                  focus (intro wq hSq; have f0 := HF.out wq hSq; go_simp <;> with_reducible rfl)
                  simp only [Act.put, List.setIfInBounds_toArray, List.set_cons_zero, List.set_cons_succ]
                  refine takeL 4 (v := ?_) rfl (by kernel_rfl) (by kernel_rfl) (by kernel_rfl) (fun _ _ _ h => h) (Or.inl ⟨by rfl, ?_⟩) (by assumption) ?_
                  rotate_left
                  focus (intro wq hSq; have f0 := HF.out wq hSq; go_simp <;> with_reducible rfl)
                  simp only [Act.put, List.setIfInBounds_toArray, List.set_cons_zero, List.set_cons_succ]
                  refine wpAnyH_ready (rs := [5]) (by kernel_rfl) (by simp) (nextL 5 rfl (fun Kr hKr => ?_) AllReadyH.nil)
                  rw [if_pos (by rfl)]
                  obtain ⟨y0, yf0⟩ := CBox.at_ HXR.out 0 _ rfl
                  obtain ⟨y1, yf1⟩ := CBox.at_ HXR.out 1 _ rfl
                  obtain ⟨y2, yf2⟩ := CBox.at_ HXR.out 2 _ rfl
                  obtain ⟨y3, yf3⟩ := CBox.at_ HXR.out 3 _ rfl
                  obtain ⟨y4, yf4⟩ := CBox.at_ HXR.out 4 _ rfl
                  obtain ⟨y5, yf5⟩ := CBox.at_ HXR.out 5 _ rfl
                  obtain ⟨y6, yf6⟩ := CBox.at_ HXR.out 6 _ rfl
                  obtain ⟨y7, yf7⟩ := CBox.at_ HXR.out 7 _ rfl
                  obtain ⟨y8, yf8⟩ := CBox.at_ HXR.out 8 _ rfl
                  go_simp
                  have hR5 := HA.out.2.2.2.2.1
                  refine hKr.out _ _ ⟨(((((((((hHeld.1.far (p := ⟨rb2, 0, none⟩) (show rb ≠ rb2 by omega) _).far (p := ⟨rb2, 1, none⟩) (show rb ≠ rb2 by omega) _).far (p := ⟨rb2, 2, none⟩) (show rb ≠ rb2 by omega) _).far (p := ⟨rb2, 3, none⟩) (show rb ≠ rb2 by omega) _).far (p := ⟨rb2, 4, none⟩) (show rb ≠ rb2 by omega) _).far (p := ⟨rb2, 5, none⟩) (show rb ≠ rb2 by omega) _).far (p := ⟨rb2, 6, none⟩) (show rb ≠ rb2 by omega) _).far (p := ⟨rb2, 7, none⟩) (show rb ≠ rb2 by omega) _).far (p := ⟨rb2, 8, none⟩) (show rb ≠ rb2 by omega) _), below9 hHeld.2 (Nat.le_refl _) _ _ _ _ _ _ _ _ _⟩ (fun hHeld2 => ?_)
                  clear hKr hR5
                  refine takeL 6 (v := ?_) rfl (by kernel_rfl) (by kernel_rfl) (by kernel_rfl) (fun _ _ _ h => h) (Or.inl ⟨by rfl, ?_⟩) (by assumption) ?_
                  rotate_left
                  focus (intro wq hSq; have f0 := HF.out wq hSq; go_simp <;> with_reducible rfl)
                  simp only [Act.put, List.setIfInBounds_toArray, List.set_cons_zero, List.set_cons_succ]
                  refine wpAnyH_done (by kernel_rfl) ?_ _
                  obtain ⟨r0, r1, r2, r3, r4, r5, r6, r7, r8⟩ := ret9 (cells9 HXR.out (.int .i64 0) (.int .i64 0) (.string (bstr [])) (.int .i64 0) (.bool false) (.int .i64 0) (.int .i64 0) (.slice none 0 0) (.slice none 0 0))
                  have HB9 := Lib.hid hHeld2.2
                  clear y0 yf0 y1 yf1 y2 yf2 y3 yf3 y4 yf4 y5 yf5 y6 yf6 y7 yf7 y8 yf8 hHeld hHeld2 HF HFX
                  go_wp2_with fail
                  refine bodyPost_ret (v := .tuple #[.agg #[.int .i64 0, .int .i64 0, .string (bstr []), .int .i64 0, .bool false, .int .i64 0, .int .i64 0, .slice none 0 0, .slice none 0 0], .int .i64 2]) (by simp [results, Try.results17, go_sem, r0, r1, r2, r3, r4, r5, r6, r7, r8]) rfl ?_
                  rw [HPE.out]
                  exact retMsg_bad w _ 2 (HN.out.1 ▸ HB9.out)
      · have d24 : decide ((24 : Int) < s.length) = false := decide_eq_false (by omega)
        have d24' : decide (24 < s.length) = false := decide_eq_false hl
        have hPq := mquery_short s G g' H24.out hl HG.out HG1.out
        rw [← HP.out, HXX.out] at hPq
        obtain ⟨n, hn0⟩ : ∃ n : Nat, n = 0 := ⟨_, rfl⟩
        obtain ⟨ao, hao⟩ : ∃ ao : Option Addr, ao = none := ⟨_, rfl⟩
        obtain ⟨c, hc0⟩ : ∃ c : Nat, c = 0 := ⟨_, rfl⟩
        obtain ⟨L, hL0⟩ : ∃ L : List Str, L = [] := ⟨_, rfl⟩
        obtain ⟨V, hV⟩ : ∃ V : Int, V = 1 := ⟨_, rfl⟩
        obtain ⟨M, hM⟩ : ∃ M : Int, M = (X : Int) := ⟨_, rfl⟩
        obtain ⟨q, hq0⟩ : ∃ q, q = false := ⟨_, rfl⟩
        obtain ⟨r, hr0⟩ : ∃ r : Int, r = 0 := ⟨_, rfl⟩
        obtain ⟨ev, hev⟩ : ∃ ev : Int, ev = 0 := ⟨_, rfl⟩
        have HF0 := Lib.hid (show AS w wc rb2 rb mb (s.drop 24) 0 #[.int .i64 1, .int .i64 V, .string (bstr g'), .int .i64 M, .bool q, .int .i64 r, .int .i64 ev, .slice ao n c, .slice none 0 0] from by rw [hn0, hao, hc0, hV, hM, hq0, hr0, hev]; exact HA8.out)
        have HST := Lib.hid (show Strs wc (.slice ao n c) L from by rw [hn0, hao, hc0, hL0]; exact Strs.nil _)
        have HLI := Lib.hid (show Lies (rb2 + 1) (.slice ao n c) from by rw [hao]; intro b hb; simp [Value.ownBlock] at hb)
        have HBAD := Lib.hid (show (g' ≠ [] ∧ grp g' 16 = false) ∨ (g' = [] ∧ 0 < n) → P = (3, .zero) from fun h => by rcases h with h | h; rw [hPq, if_pos h]; rw [hn0] at h; exact absurd h.2 (by decide))
        have HGOOD := Lib.hid (show ¬ ((g' ≠ [] ∧ grp g' 16 = false) ∨ (g' = [] ∧ 0 < n)) → P = (0, ⟨1, V, g', M, q, r, ev, L, []⟩) from fun h => by rw [hPq, if_neg (fun h2 => h (.inl h2)), hV, hM, hq0, hr0, hev, hL0])
        clear hPq hn0 hao hc0 hL0 hV hM hq0 hr0 hev hl HA8
        have XA := HF0.out.cells
        obtain ⟨e1, _⟩ := XA.2.1.at_ 1 _ rfl
        have XM := XA.2.2
        obtain ⟨x0, xf0⟩ := CBox.at_ XM 0 _ rfl
        obtain ⟨x1, xf1⟩ := CBox.at_ XM 1 _ rfl
        obtain ⟨x2, xf2⟩ := CBox.at_ XM 2 _ rfl
        obtain ⟨x3, xf3⟩ := CBox.at_ XM 3 _ rfl
        obtain ⟨x4, xf4⟩ := CBox.at_ XM 4 _ rfl
        obtain ⟨x5, xf5⟩ := CBox.at_ XM 5 _ rfl
        obtain ⟨x6, xf6⟩ := CBox.at_ XM 6 _ rfl
        obtain ⟨x7, xf7⟩ := CBox.at_ XM 7 _ rfl
        obtain ⟨x8, xf8⟩ := CBox.at_ XM 8 _ rfl
        have XR := XA.1
        obtain ⟨y0, yf0⟩ := CBox.at_ XR 0 _ rfl
        obtain ⟨y1, yf1⟩ := CBox.at_ XR 1 _ rfl
        obtain ⟨y2, yf2⟩ := CBox.at_ XR 2 _ rfl
        obtain ⟨y3, yf3⟩ := CBox.at_ XR 3 _ rfl
        obtain ⟨y4, yf4⟩ := CBox.at_ XR 4 _ rfl
        obtain ⟨y5, yf5⟩ := CBox.at_ XR 5 _ rfl
        obtain ⟨y6, yf6⟩ := CBox.at_ XR 6 _ rfl
        obtain ⟨y7, yf7⟩ := CBox.at_ XR 7 _ rfl
        obtain ⟨y8, yf8⟩ := CBox.at_ XR 8 _ rfl
        clear XM XR XA
        have l7 := run_len_any (P := Try.prog) Try.underlying26 ao n c
        by_cases hg0 : g' = []
        · by_cases hn : 0 < n
          · have dn : decide ((0 : Int) < n) = true := decide_eq_true (by omega)
            have dn' : decide (0 < n) = true := decide_eq_true hn
            have HPE := Lib.hid (HBAD.out (.inr ⟨hg0, hn⟩))
            subst hg0
            clear hn
            go_wp2_with fail
            obtain ⟨r0, r1, r2, r3, r4, r5, r6, r7, r8⟩ := ret9 (cells9 HF0.out.1 (.int .i64 0) (.int .i64 0) (.string (bstr [])) (.int .i64 0) (.bool false) (.int .i64 0) (.int .i64 0) (.slice none 0 0) (.slice none 0 0))
            refine bodyPost_ret (v := .tuple #[.agg #[.int .i64 0, .int .i64 0, .string (bstr []), .int .i64 0, .bool false, .int .i64 0, .int .i64 0, .slice none 0 0, .slice none 0 0], .int .i64 3]) (by simp [results, Try.results17, go_sem, r0, r1, r2, r3, r4, r5, r6, r7, r8]) rfl ?_
            rw [HPE.out]
            exact retMsg_bad w _ 3 (HN.out.1 ▸ below9 HF0.out.2.2.2.1 (Nat.le_refl _) _ _ _ _ _ _ _ _ _)
          · have dn : decide ((0 : Int) < n) = false := decide_eq_false (by omega)
            have dn' : decide (0 < n) = false := decide_eq_false hn
            have HPE := Lib.hid (HGOOD.out (fun h => by rcases h with h | h; exact h.1 hg0; exact hn h.2))
            subst hg0
            clear hn
            go_wp2_with fail
            obtain ⟨r0, r1, r2, r3, r4, r5, r6, r7, r8⟩ := ret9 (cells9 HF0.out.1 (.int .i64 1) (.int .i64 V) (.string (bstr [])) (.int .i64 M) (.bool q) (.int .i64 r) (.int .i64 ev) (.slice ao n c) (.slice none 0 0))
            refine bodyPost_ret (v := .tuple #[.agg #[.int .i64 1, .int .i64 V, .string (bstr []), .int .i64 M, .bool q, .int .i64 r, .int .i64 ev, .slice ao n c, .slice none 0 0], .int .i64 0]) (by simp [results, Try.results17, go_sem, r0, r1, r2, r3, r4, r5, r6, r7, r8]) rfl ?_
            rw [HPE.out]
            exact ⟨.slice ao n c, .slice none 0 0, rfl, strs9 HST.out HLI.out (Nat.lt_succ_self _) _ _ _ _ _ _ _ _ _, HLI.out.mono (by rw [HN.out.1]; exact Nat.le_succ _), Row.nil _ _, HN.out.1 ▸ below9 HF0.out.2.2.2.1 (Nat.le_refl _) _ _ _ _ _ _ _ _ _⟩
        · have e2 : (g' == []) = false := beq_eq_false_iff_ne.2 hg0
          have e3 : (g' != []) = true := bne_iff_ne.2 hg0
          have HGR := Lib.hid (fun W => mgroup_any g' W HGL.out)
          cases hq : grp g' 16
          · rw [hq] at HGR
            have HPE := Lib.hid (HBAD.out (.inl ⟨hg0, hq⟩))
            clear hg0 hq
            go_wp2_with ((with_reducible refine (HGR.out _).mono ?_); rintro e w7 ⟨rfl, hb7⟩; clear x0 xf0 x1 xf1 x2 xf2 x3 xf3 x4 xf4 x5 xf5 x6 xf6 x7 xf7 x8 xf8 y0 yf0 y1 yf1 y2 yf2 y3 yf3 y4 yf4 y5 yf5 y6 yf6 y7 yf7 y8 yf8; have HF7 := Lib.hid (HF0.out.to hb7); obtain ⟨y0, yf0⟩ := CBox.at_ HF7.out.1 0 _ rfl; obtain ⟨y1, yf1⟩ := CBox.at_ HF7.out.1 1 _ rfl; obtain ⟨y2, yf2⟩ := CBox.at_ HF7.out.1 2 _ rfl; obtain ⟨y3, yf3⟩ := CBox.at_ HF7.out.1 3 _ rfl; obtain ⟨y4, yf4⟩ := CBox.at_ HF7.out.1 4 _ rfl; obtain ⟨y5, yf5⟩ := CBox.at_ HF7.out.1 5 _ rfl; obtain ⟨y6, yf6⟩ := CBox.at_ HF7.out.1 6 _ rfl; obtain ⟨y7, yf7⟩ := CBox.at_ HF7.out.1 7 _ rfl; obtain ⟨y8, yf8⟩ := CBox.at_ HF7.out.1 8 _ rfl; clear hb7)
            obtain ⟨r0, r1, r2, r3, r4, r5, r6, r7, r8⟩ := ret9 (cells9 HF7.out.1 (.int .i64 0) (.int .i64 0) (.string (bstr [])) (.int .i64 0) (.bool false) (.int .i64 0) (.int .i64 0) (.slice none 0 0) (.slice none 0 0))
            refine bodyPost_ret (v := .tuple #[.agg #[.int .i64 0, .int .i64 0, .string (bstr []), .int .i64 0, .bool false, .int .i64 0, .int .i64 0, .slice none 0 0, .slice none 0 0], .int .i64 3]) (by simp [results, Try.results17, go_sem, r0, r1, r2, r3, r4, r5, r6, r7, r8]) rfl ?_
            rw [HPE.out]
            exact retMsg_bad w _ 3 (HN.out.1 ▸ below9 HF7.out.2.2.2.1 (Nat.le_refl _) _ _ _ _ _ _ _ _ _)
          · rw [hq] at HGR
            have HPE := Lib.hid (HGOOD.out (fun h => by rcases h with h | h; rw [hq] at h; cases h.2; exact hg0 h.1))
            clear hg0 hq
            go_wp2_with ((with_reducible refine (HGR.out _).mono ?_); rintro e w7 ⟨rfl, hb7⟩; clear x0 xf0 x1 xf1 x2 xf2 x3 xf3 x4 xf4 x5 xf5 x6 xf6 x7 xf7 x8 xf8 y0 yf0 y1 yf1 y2 yf2 y3 yf3 y4 yf4 y5 yf5 y6 yf6 y7 yf7 y8 yf8; have HF7 := Lib.hid (HF0.out.to hb7); have HST7 := Lib.hid (HST.out.mono hb7); obtain ⟨x0, xf0⟩ := CBox.at_ HF7.out.2.2.1 0 _ rfl; obtain ⟨x1, xf1⟩ := CBox.at_ HF7.out.2.2.1 1 _ rfl; obtain ⟨x2, xf2⟩ := CBox.at_ HF7.out.2.2.1 2 _ rfl; obtain ⟨x3, xf3⟩ := CBox.at_ HF7.out.2.2.1 3 _ rfl; obtain ⟨x4, xf4⟩ := CBox.at_ HF7.out.2.2.1 4 _ rfl; obtain ⟨x5, xf5⟩ := CBox.at_ HF7.out.2.2.1 5 _ rfl; obtain ⟨x6, xf6⟩ := CBox.at_ HF7.out.2.2.1 6 _ rfl; obtain ⟨x7, xf7⟩ := CBox.at_ HF7.out.2.2.1 7 _ rfl; obtain ⟨x8, xf8⟩ := CBox.at_ HF7.out.2.2.1 8 _ rfl; obtain ⟨y0, yf0⟩ := CBox.at_ HF7.out.1 0 _ rfl; obtain ⟨y1, yf1⟩ := CBox.at_ HF7.out.1 1 _ rfl; obtain ⟨y2, yf2⟩ := CBox.at_ HF7.out.1 2 _ rfl; obtain ⟨y3, yf3⟩ := CBox.at_ HF7.out.1 3 _ rfl; obtain ⟨y4, yf4⟩ := CBox.at_ HF7.out.1 4 _ rfl; obtain ⟨y5, yf5⟩ := CBox.at_ HF7.out.1 5 _ rfl; obtain ⟨y6, yf6⟩ := CBox.at_ HF7.out.1 6 _ rfl; obtain ⟨y7, yf7⟩ := CBox.at_ HF7.out.1 7 _ rfl; obtain ⟨y8, yf8⟩ := CBox.at_ HF7.out.1 8 _ rfl; clear hb7)
            obtain ⟨r0, r1, r2, r3, r4, r5, r6, r7, r8⟩ := ret9 (cells9 HF7.out.1 (.int .i64 1) (.int .i64 V) (.string (bstr g')) (.int .i64 M) (.bool q) (.int .i64 r) (.int .i64 ev) (.slice ao n c) (.slice none 0 0))
            refine bodyPost_ret (v := .tuple #[.agg #[.int .i64 1, .int .i64 V, .string (bstr g'), .int .i64 M, .bool q, .int .i64 r, .int .i64 ev, .slice ao n c, .slice none 0 0], .int .i64 0]) (by simp [results, Try.results17, go_sem, r0, r1, r2, r3, r4, r5, r6, r7, r8]) rfl ?_
            rw [HPE.out]
            exact ⟨.slice ao n c, .slice none 0 0, rfl, strs9 HST7.out HLI.out (Nat.lt_succ_self _) _ _ _ _ _ _ _ _ _, HLI.out.mono (by rw [HN.out.1]; exact Nat.le_succ _), Row.nil _ _, HN.out.1 ▸ below9 HF7.out.2.2.2.1 (Nat.le_refl _) _ _ _ _ _ _ _ _ _⟩
  · have HPE := Lib.hid (show P = (2, .zero) from by rw [HP.out]; unfold mquery; rw [if_pos (by omega)])
    have HAD := Lib.hid (addr9_any rb (s.drop 8) 0 w5 HA5.out.2.1 (by rw [List.length_drop]; have := H8.out.2; omega))
    unfold RetTk tkS tkL tkE at HAD
    rw [if_neg (by rw [List.length_drop]; omega), if_neg (by rw [List.length_drop]; omega), if_neg (by rw [List.length_drop]; omega)] at HAD
    clear h24
    obtain ⟨ZZ, hZZ⟩ : ∃ Z : Str, List.replicate 16 0 = Z := ⟨_, rfl⟩
    rw [hZZ] at HAD
    clear hZZ
    go_upto_region 5 with ((with_reducible refine HAD.out.mono ?_); rintro e w6 ⟨rfl, hr6, hg6⟩; have HA6 := Lib.hid (HA5.out.read hr6 hg6); clear hr6 hg6; obtain ⟨m2, mf2⟩ := HA6.out.2.2.1.at_ 2 _ rfl)
    have HA7 := Lib.hid (HA6.out.set 2 (.string (bstr ZZ)))
    obtain ⟨W7, hW7⟩ : ∃ W7, w6.setCell ⟨mb, 2, none⟩ (.string (bstr ZZ)) = W7 := ⟨_, rfl⟩
    rw [hW7] at HA7 ⊢
    clear hW7 m2 mf2
    have e1 := (HA7.out.cells.2.1.at_ 1 _ rfl).1
    go_upto_region 6 with fail
    clear e1
    have HFX := Lib.hid (show ∀ wq, (CBox wq rb 66 #[.string (bstr (s.drop 8)), .int .i64 2] ∧ Below rb2 w wq) → wq.cell? ⟨rb, 1, none⟩ = some (.int .i64 2) from fun wq h => (h.1.at_ 1 _ rfl).1)
    have HF := HFX
    refine wp_region_held_drew (S := fun W' => CBox W' rb 66 #[.string (bstr (s.drop 8)), .int .i64 2] ∧ Below rb2 w W') (by kernel_rfl) ⟨CBox.below HA7.out.2.1 (Below.drew (Below.refl _ _)) (CBox.lt HA7.out.2.1), Below.drew HA7.out.2.2.2.1⟩ (fun hHeld => ?_)
    have HXR := Lib.hid (HA7.out.1.below (Below.drew (Below.refl _ _)) HA7.out.1.lt)
    obtain ⟨U, hU⟩ : ∃ U, World.drew W7 = U := ⟨_, rfl⟩
    rw [hU] at hHeld HXR ⊢
    clear hU
    refine takeL 0 (v := ?_) rfl (by kernel_rfl) (by kernel_rfl) (by kernel_rfl) (fun _ _ _ h => h) (Or.inl ⟨by rfl, ?_⟩) (by assumption) ?_
    rotate_left
    focus (intro wq hSq; have f0 := HF.out wq hSq; go_simp <;> with_reducible rfl)
    simp only [Act.put, List.setIfInBounds_toArray, List.set_cons_zero, List.set_cons_succ]
    refine takeL 1 (v := ?_) rfl (by kernel_rfl) (by kernel_rfl) (by kernel_rfl) (fun _ _ _ h => h) (Or.inl ⟨by rfl, ?_⟩) (by assumption) ?_
    rotate_left
    focus (intro wq hSq; have f0 := HF.out wq hSq; go_simp <;> with_reducible rfl)
    simp only [Act.put, List.setIfInBounds_toArray, List.set_cons_zero, List.set_cons_succ]
    refine takeL 2 (v := ?_) rfl (by kernel_rfl) (by kernel_rfl) (by kernel_rfl) (fun _ _ _ h => h) (Or.inl ⟨by rfl, ?_⟩) (by assumption) ?_
    rotate_left
    focus (intro wq hSq; have f0 := HF.out wq hSq; go_simp <;> with_reducible rfl)
    simp only [Act.put, List.setIfInBounds_toArray, List.set_cons_zero, List.set_cons_succ]
    refine takeL 3 (v := ?_) rfl (by kernel_rfl) (by kernel_rfl) (by kernel_rfl) (fun _ _ _ h => h) (Or.inl ⟨by rfl, ?_⟩) (by assumption) ?_
    rotate_left
    focus (intro wq hSq; have f0 := HF.out wq hSq; go_simp <;> with_reducible rfl)
    simp only [Act.put, List.setIfInBounds_toArray, List.set_cons_zero, List.set_cons_succ]
    refine takeL 4 (v := ?_) rfl (by kernel_rfl) (by kernel_rfl) (by kernel_rfl) (fun _ _ _ h => h) (Or.inl ⟨by rfl, ?_⟩) (by assumption) ?_
    rotate_left
    focus (intro wq hSq; have f0 := HF.out wq hSq; go_simp <;> with_reducible rfl)
    simp only [Act.put, List.setIfInBounds_toArray, List.set_cons_zero, List.set_cons_succ]
    refine wpAnyH_ready (rs := [5]) (by kernel_rfl) (by simp) (nextL 5 rfl (fun Kr hKr => ?_) AllReadyH.nil)
    rw [if_pos (by rfl)]
    obtain ⟨y0, yf0⟩ := CBox.at_ HXR.out 0 _ rfl
    obtain ⟨y1, yf1⟩ := CBox.at_ HXR.out 1 _ rfl
    obtain ⟨y2, yf2⟩ := CBox.at_ HXR.out 2 _ rfl
    obtain ⟨y3, yf3⟩ := CBox.at_ HXR.out 3 _ rfl
    obtain ⟨y4, yf4⟩ := CBox.at_ HXR.out 4 _ rfl
    obtain ⟨y5, yf5⟩ := CBox.at_ HXR.out 5 _ rfl
    obtain ⟨y6, yf6⟩ := CBox.at_ HXR.out 6 _ rfl
    obtain ⟨y7, yf7⟩ := CBox.at_ HXR.out 7 _ rfl
    obtain ⟨y8, yf8⟩ := CBox.at_ HXR.out 8 _ rfl
    go_simp
    have hR5 := HA7.out.2.2.2.2.1
    refine hKr.out _ _ ⟨(((((((((hHeld.1.far (p := ⟨rb2, 0, none⟩) (show rb ≠ rb2 by omega) _).far (p := ⟨rb2, 1, none⟩) (show rb ≠ rb2 by omega) _).far (p := ⟨rb2, 2, none⟩) (show rb ≠ rb2 by omega) _).far (p := ⟨rb2, 3, none⟩) (show rb ≠ rb2 by omega) _).far (p := ⟨rb2, 4, none⟩) (show rb ≠ rb2 by omega) _).far (p := ⟨rb2, 5, none⟩) (show rb ≠ rb2 by omega) _).far (p := ⟨rb2, 6, none⟩) (show rb ≠ rb2 by omega) _).far (p := ⟨rb2, 7, none⟩) (show rb ≠ rb2 by omega) _).far (p := ⟨rb2, 8, none⟩) (show rb ≠ rb2 by omega) _), below9 hHeld.2 (Nat.le_refl _) _ _ _ _ _ _ _ _ _⟩ (fun hHeld2 => ?_)
    clear hKr hR5
    refine takeL 6 (v := ?_) rfl (by kernel_rfl) (by kernel_rfl) (by kernel_rfl) (fun _ _ _ h => h) (Or.inl ⟨by rfl, ?_⟩) (by assumption) ?_
    rotate_left
    focus (intro wq hSq; have f0 := HF.out wq hSq; go_simp <;> with_reducible rfl)
    simp only [Act.put, List.setIfInBounds_toArray, List.set_cons_zero, List.set_cons_succ]
    refine wpAnyH_done (by kernel_rfl) ?_ _
    obtain ⟨r0, r1, r2, r3, r4, r5, r6, r7, r8⟩ := ret9 (cells9 HXR.out (.int .i64 0) (.int .i64 0) (.string (bstr [])) (.int .i64 0) (.bool false) (.int .i64 0) (.int .i64 0) (.slice none 0 0) (.slice none 0 0))
    have HB9 := Lib.hid hHeld2.2
    clear y0 yf0 y1 yf1 y2 yf2 y3 yf3 y4 yf4 y5 yf5 y6 yf6 y7 yf7 y8 yf8 hHeld hHeld2 HF HFX
    go_wp2_with fail
    refine bodyPost_ret (v := .tuple #[.agg #[.int .i64 0, .int .i64 0, .string (bstr []), .int .i64 0, .bool false, .int .i64 0, .int .i64 0, .slice none 0 0, .slice none 0 0], .int .i64 2]) (by simp [results, Try.results17, go_sem, r0, r1, r2, r3, r4, r5, r6, r7, r8]) rfl ?_
    rw [HPE.out]
    exact retMsg_bad w _ 2 (HN.out.1 ▸ HB9.out)
end Go.Proofs.Ythkibgdeibolfaa
