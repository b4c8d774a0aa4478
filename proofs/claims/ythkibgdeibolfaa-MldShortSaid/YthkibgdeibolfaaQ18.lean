/- Texts joined into one file: MRef. -/
import Derived.Test.YthkibgdeibolfaaQ17
import Derived.Test.YthkibgdeibolfaaQ12

/- siphonref09.query, Decode. -/
namespace Go.Proofs.Ythkibgdeibolfaa
open Go.RowKit Go.Sort
set_option maxRecDepth 20000
set_option maxRecDepth 20000
attribute [local go_sem] bstr_size bstr_extract bstr_toList bstr_get

def AR (w W : World) (rb mb : Nat) (cs : Array Value) : Prop := CBox W rb 29 #[.int .i64 0, .int .i64 0, .string (bstr []), .int .i64 0, .bool false, .int .i64 0, .int .i64 0, .slice none 0 0, .slice none 0 0] ∧ CBox W mb 29 cs ∧ Below rb w W ∧ rb < mb
theorem AR.to {w W W' : World} {rb mb : Nat} {cs : Array Value} (h : AR w W rb mb cs) (hb : Below W.heap.size W W') : AR w W' rb mb cs := by
  obtain ⟨h1, h2, h3, h4⟩ := h
  exact ⟨h1.below hb h1.lt, h2.below hb h2.lt, h3.trans (hb.mono (Nat.le_of_lt h1.lt)), h4⟩
theorem AR.set {w W : World} {rb mb : Nat} {cs : Array Value} (h : AR w W rb mb cs) (i : Nat) (u : Value) : AR w (W.setCell ⟨mb, i, none⟩ u) rb mb (cs.setIfInBounds i u) := by
  obtain ⟨h1, h2, h3, h4⟩ := h
  exact ⟨h1.far (p := ⟨mb, i, none⟩) (show rb ≠ mb by omega) u, h2.set i u, h3.setCell (p := ⟨mb, i, none⟩) (show rb ≤ mb by omega) u, h4⟩
theorem rat2 (s : Str) (i N : Nat) (w : World) (hl : i + 2 ≤ s.length) (hs : s.length ≤ 1000000) (hN : numAt s i 2 = N) :
    Calls Try.prog 25 #[.string (bstr s), .int .i64 i, .int .i64 2] w fun e w' => e = .returned (.int .i64 N) ∧ w = w' := by
  have h := rat_any1 s i 2 w (Nat.le_trans hs (by decide)) (Nat.le_trans (by omega) (Nat.le_trans hs (by decide))) (by decide) (by decide)
  unfold getV at h
  rw [if_pos hl, hN] at h
  exact h
theorem rsrc28 (s : Str) (N : Nat) (w : World) (hs : s.length ≤ 1000000) (h28 : 28 ≤ s.length) (hn : N ≤ 65535) :
    Calls Try.prog 52 #[.string (bstr s), .int .i64 28, .int .i64 N, .int .i64 16] w fun e w' => ∃ v, e = .returned (.tuple #[v, .bool (decide (28 + N * 16 ≤ s.length))]) ∧ Strs w' v (if 28 + N * 16 ≤ s.length then srcs s 28 N 16 else []) ∧ Lies w.heap.size v ∧ Below w.heap.size w w' := by
  have HS := Lib.hid (show Calls Try.prog 54 #[.string (bstr s), .int .i64 28, .int .i64 N, .int .i64 16] w _ from sources_any s 28 N 16 w hs h28 hn (by decide))
  obtain ⟨d, hd⟩ : ∃ d, decide (28 + N * 16 ≤ s.length) = d := ⟨_, rfl⟩
  obtain ⟨L, hL⟩ : ∃ L, (if 28 + N * 16 ≤ s.length then srcs s 28 N 16 else []) = L := ⟨_, rfl⟩
  rw [hd, hL] at HS ⊢
  clear hs h28 hn hd hL
  go_enter Try.func52, Try.ntmps52
  go_wp2_with ((with_reducible refine HS.out.mono ?_); rintro e w2 ⟨v, rfl, h1, h2, h3⟩; obtain ⟨ao, c, rfl⟩ := h1.shape; have H2 := Lib.hid (And.intro h1 (And.intro h2 h3)); clear h1 h2 h3)
  go_ret2
  exact ⟨_, rfl, H2.out.1, H2.out.2.1, H2.out.2.2⟩

set_option maxHeartbeats 4000000 in
theorem rquery9_any (s : Str) (w : World) (h8 : 8 ≤ s.length) (hs : s.length ≤ 1000000) :
    Calls Try.prog 23 #[.string (bstr s)] w (RetMsg w (mquery s).1 (mquery s).2) := by
  have b0 : (⟨#[]⟩ : ByteArray) = bstr [] := bstr_nil.symm
  have b16 : (⟨#[0, 0, 0, 0, 0, 0, 0, 0, 0, 0, 0, 0, 0, 0, 0, 0]⟩ : ByteArray) = bstr nobody16 := by rw [bstr_eq]; rfl
  obtain ⟨P, hP⟩ : ∃ P, P = mquery s := ⟨_, rfl⟩
  rw [← hP]
  have HP := Lib.hid hP
  obtain ⟨rb, hrb⟩ : ∃ rb, w.heap.size = rb := ⟨_, rfl⟩
  have HRB := Lib.hid hrb
  obtain ⟨W1, hW1⟩ : ∃ W1, w.alloc (.cells mz 29) = W1 := ⟨_, rfl⟩
  have X1 : CBox W1 rb 29 mz := by rw [← hW1]; exact CBox.new _ HRB.out.symm
  have hb1 : Below rb w W1 := by rw [← hW1, ← HRB.out]; exact (Below.refl _ _).alloc (Nat.le_refl _) _
  have HX1 := Lib.hid X1; have HB1 := Lib.hid hb1; have HW1 := Lib.hid hW1
  have H8 := Lib.hid (And.intro h8 hs)
  clear X1 hb1 hW1 hrb hP
  by_cases h24 : s.length < 24
  · have HPE := Lib.hid (show P = (2, .zero) from by rw [HP.out]; unfold mquery; rw [if_pos h24])
    have d24 : decide ((s.length : Int) < 24) = true := decide_eq_true (by omega)
    have d24' : decide (s.length < 24) = true := decide_eq_true h24
    clear h24 h8 hs
    go_enter Try.func23, Try.ntmps23
    go_upto_region 1 with fail
    rw [HRB.out, HW1.out]
    obtain ⟨y0, yf0⟩ := CBox.at_ HX1.out 0 _ rfl
    obtain ⟨y1, yf1⟩ := CBox.at_ HX1.out 1 _ rfl
    obtain ⟨y2, yf2⟩ := CBox.at_ HX1.out 2 _ rfl
    obtain ⟨y3, yf3⟩ := CBox.at_ HX1.out 3 _ rfl
    obtain ⟨y4, yf4⟩ := CBox.at_ HX1.out 4 _ rfl
    obtain ⟨y5, yf5⟩ := CBox.at_ HX1.out 5 _ rfl
    obtain ⟨y6, yf6⟩ := CBox.at_ HX1.out 6 _ rfl
    obtain ⟨y7, yf7⟩ := CBox.at_ HX1.out 7 _ rfl
    obtain ⟨y8, yf8⟩ := CBox.at_ HX1.out 8 _ rfl
    go_wp2_with fail
    obtain ⟨r0, r1, r2, r3, r4, r5, r6, r7, r8⟩ := ret9 (cells9 HX1.out (.int .i64 0) (.int .i64 0) (.string (bstr [])) (.int .i64 0) (.bool false) (.int .i64 0) (.int .i64 0) (.slice none 0 0) (.slice none 0 0))
    refine bodyPost_ret (v := .tuple #[.agg #[.int .i64 0, .int .i64 0, .string (bstr []), .int .i64 0, .bool false, .int .i64 0, .int .i64 0, .slice none 0 0, .slice none 0 0], .int .i64 2]) (by simp [results, Try.results23, go_sem, r0, r1, r2, r3, r4, r5, r6, r7, r8]) rfl ?_
    rw [HPE.out]
    exact retMsg_bad w _ 2 (HRB.out ▸ below9 HB1.out (Nat.le_refl _) _ _ _ _ _ _ _ _ _)
  have d24 : decide ((s.length : Int) < 24) = false := decide_eq_false (by omega)
  have d24' : decide (s.length < 24) = false := decide_eq_false h24
  obtain ⟨X, hX⟩ : ∃ X, numAt s 4 2 = X := ⟨_, rfl⟩
  have HX := Lib.hid hX
  have HX65 := Lib.hid (show X ≤ 65535 from by have := numAt_lt s 4 2; omega)
  have HAT := Lib.hid (fun W => show Calls Try.prog 25 #[.string (bstr s), .int .i64 4, .int .i64 2] W _ from rat2 s 4 X W (by omega) hs hX)
  obtain ⟨G, hG⟩ : ∃ G, (s.drop 8).take 16 = G := ⟨_, rfl⟩
  have HG := Lib.hid hG
  have l24 : (24 : Int) ≤ s.length := by omega
  have l24' : 24 ≤ s.length := by omega
  have H24 := Lib.hid l24'
  clear h8 hs hX
  go_enter Try.func23, Try.ntmps23
  go_upto_region 1 with fail
  rw [HRB.out, HW1.out]
  go_upto_region 3 with fail
  obtain ⟨mb, hmb⟩ : ∃ mb, W1.heap.size = mb := ⟨_, rfl⟩
  have HLT := Lib.hid (show rb < mb from hmb ▸ HX1.out.lt)
  have HMB1 := Lib.hid hmb
  clear hmb
  have hGT : List.take (24 - 8) (List.drop 8 s) = G := hG
  go_cut [4] (fun s4 w' => s4 = .pointer (some ⟨mb, 0, none⟩) ∧ AR w w' rb mb #[.int .i64 1, .int .i64 1, .string (bstr G), .int .i64 X, .bool false, .int .i64 0, .int .i64 0, .slice none 0 0, .slice none 0 0])
  case first =>
    refine wp_region_held_drew (S := fun _ => True) (by kernel_rfl) trivial (fun _ => ?_)
    obtain ⟨UU, hUU⟩ : ∃ U, World.drew W1 = U := ⟨_, rfl⟩
    have HMB := Lib.hid (show UU.heap.size = mb from by rw [← hUU]; exact HMB1.out)
    have HXU := Lib.hid (show CBox UU rb 29 mz from by rw [← hUU]; exact HX1.out.below (Below.drew (Below.refl _ _)) HX1.out.lt)
    have HBU := Lib.hid (show Below rb w UU from by rw [← hUU]; exact Below.drew HB1.out)
    rw [hUU]
    clear hUU
    refine takeL 0 (v := ?_) rfl (by kernel_rfl) (by kernel_rfl) (by kernel_rfl) (fun _ _ _ h => h) (Or.inl ⟨by rfl, ?_⟩) (by assumption) ?_
    rotate_left
    focus (intro wq hSq; go_simp <;> with_reducible rfl)
    simp only [Act.put, List.setIfInBounds_toArray, List.set_cons_zero, List.set_cons_succ]
    refine takeL 2 (v := ?_) rfl (by kernel_rfl) (by kernel_rfl) (by kernel_rfl) (fun _ _ _ h => h) (Or.inl ⟨by rfl, ?_⟩) (by assumption) ?_
    rotate_left
    focus (intro wq hSq; go_simp <;> with_reducible rfl)
    simp only [Act.put, List.setIfInBounds_toArray, List.set_cons_zero, List.set_cons_succ]
    refine takeL 3 (v := ?_) rfl (by kernel_rfl) (by kernel_rfl) (by kernel_rfl) (fun _ _ _ h => h) (Or.inl ⟨by rfl, ?_⟩) (by assumption) ?_
    rotate_left
    focus (intro wq hSq; go_simp <;> with_reducible rfl)
    simp only [Act.put, List.setIfInBounds_toArray, List.set_cons_zero, List.set_cons_succ]
    refine wpAnyH_ready (rs := [1, 5]) (by kernel_rfl) (by simp) (nextL 1 rfl (fun Kr hKr => ?_) (nextL 5 rfl (fun Kr hKr => ?_) AllReadyH.nil))
    · rw [if_pos (by rfl)]
      go_simp
      refine (HAT.out _).mono ?_
      rintro e w3 ⟨rfl, hw3⟩
      subst hw3
      refine hKr.out _ _ trivial (fun _ => ?_)
      clear hKr
      refine takeL 4 (v := ?_) rfl (by kernel_rfl) (by kernel_rfl) (by kernel_rfl) (fun _ _ _ h => h) (Or.inl ⟨by rfl, ?_⟩) (by assumption) ?_
      rotate_left
      focus (intro wq hSq; go_simp <;> with_reducible rfl)
      simp only [Act.put, List.setIfInBounds_toArray, List.set_cons_zero, List.set_cons_succ]
      refine wpAnyH_ready (rs := [5]) (by kernel_rfl) (by simp) (nextL 5 rfl (fun Kr hKr => ?_) AllReadyH.nil)
      rw [if_pos (by rfl)]
      go_simp
      have X5 : CBox (UU.alloc (.cells mz 29)) mb 29 mz := CBox.new _ HMB.out.symm
      have k5 : Below rb w (UU.alloc (.cells mz 29)) := HBU.out.alloc (by rw [HMB.out]; exact Nat.le_of_lt HLT.out) _
      have r5 : CBox (UU.alloc (.cells mz 29)) rb 29 mz := HXU.out.old _
      obtain ⟨W5, hW5⟩ : ∃ W5, UU.alloc (.cells mz 29) = W5 := ⟨_, rfl⟩
      have HMB2 := HMB.out
      rw [hW5] at X5 k5 r5 ⊢
      rw [HMB2]
      refine hKr.out _ _ trivial (fun _ => ?_)
      clear hKr hW5 HMB2
      refine wpAnyH_ready (rs := [6]) (by kernel_rfl) (by simp) (nextL 6 rfl (fun Kr hKr => ?_) AllReadyH.nil)
      rw [if_pos (by rfl)]
      obtain ⟨x0, xf0⟩ := CBox.at_ X5 0 _ rfl
      obtain ⟨x1, xf1⟩ := CBox.at_ X5 1 _ rfl
      obtain ⟨x2, xf2⟩ := CBox.at_ X5 2 _ rfl
      obtain ⟨x3, xf3⟩ := CBox.at_ X5 3 _ rfl
      obtain ⟨x4, xf4⟩ := CBox.at_ X5 4 _ rfl
      obtain ⟨x5, xf5⟩ := CBox.at_ X5 5 _ rfl
      obtain ⟨x6, xf6⟩ := CBox.at_ X5 6 _ rfl
      obtain ⟨x7, xf7⟩ := CBox.at_ X5 7 _ rfl
      obtain ⟨x8, xf8⟩ := CBox.at_ X5 8 _ rfl
      go_simp
      refine hKr.out _ _ trivial (fun _ => ?_)
      clear hKr x0 xf0 x1 xf1 x2 xf2 x3 xf3 x4 xf4 x5 xf5 x6 xf6 x7 xf7 x8 xf8
      refine wpAnyH_done (by kernel_rfl) ?_ _
      have HA6 := Lib.hid (show AR w (((((((((W5.setCell ⟨mb, 0, none⟩ (.int .i64 1)).setCell ⟨mb, 1, none⟩ (.int .i64 1)).setCell ⟨mb, 2, none⟩ (.string (bstr G))).setCell ⟨mb, 3, none⟩ (.int .i64 X)).setCell ⟨mb, 4, none⟩ (.bool false)).setCell ⟨mb, 5, none⟩ (.int .i64 0)).setCell ⟨mb, 6, none⟩ (.int .i64 0)).setCell ⟨mb, 7, none⟩ (.slice none 0 0)).setCell ⟨mb, 8, none⟩ (.slice none 0 0)) rb mb #[.int .i64 1, .int .i64 1, .string (bstr G), .int .i64 X, .bool false, .int .i64 0, .int .i64 0, .slice none 0 0, .slice none 0 0] from
        ((((((((((show AR w W5 rb mb mz from ⟨r5, X5, k5, HLT.out⟩).set 0 (.int .i64 1)).set 1 (.int .i64 1)).set 2 (.string (bstr G))).set 3 (.int .i64 X)).set 4 (.bool false)).set 5 (.int .i64 0)).set 6 (.int .i64 0)).set 7 (.slice none 0 0)).set 8 (.slice none 0 0)))
      clear X5 k5 r5
      go_wp2_with fail
      go_meet
      case rel => exact ⟨rfl, HA6.out⟩
    · rw [if_pos (by rfl)]
      go_simp
      have X5 : CBox (UU.alloc (.cells mz 29)) mb 29 mz := CBox.new _ HMB.out.symm
      have k5 : Below rb w (UU.alloc (.cells mz 29)) := HBU.out.alloc (by rw [HMB.out]; exact Nat.le_of_lt HLT.out) _
      have r5 : CBox (UU.alloc (.cells mz 29)) rb 29 mz := HXU.out.old _
      obtain ⟨W5, hW5⟩ : ∃ W5, UU.alloc (.cells mz 29) = W5 := ⟨_, rfl⟩
      have HMB2 := HMB.out
      rw [hW5] at X5 k5 r5 ⊢
      rw [HMB2]
      refine hKr.out _ _ trivial (fun _ => ?_)
      clear hKr hW5 HMB2
      refine wpAnyH_ready (rs := [1]) (by kernel_rfl) (by simp) (nextL 1 rfl (fun Kr hKr => ?_) AllReadyH.nil)
      rw [if_pos (by rfl)]
      go_simp
      refine (HAT.out _).mono ?_
      rintro e w3 ⟨rfl, hw3⟩
      subst hw3
      refine hKr.out _ _ trivial (fun _ => ?_)
      clear hKr
      refine takeL 4 (v := ?_) rfl (by kernel_rfl) (by kernel_rfl) (by kernel_rfl) (fun _ _ _ h => h) (Or.inl ⟨by rfl, ?_⟩) (by assumption) ?_
      rotate_left
      focus (intro wq hSq; go_simp <;> with_reducible rfl)
      simp only [Act.put, List.setIfInBounds_toArray, List.set_cons_zero, List.set_cons_succ]
      refine wpAnyH_ready (rs := [6]) (by kernel_rfl) (by simp) (nextL 6 rfl (fun Kr hKr => ?_) AllReadyH.nil)
      rw [if_pos (by rfl)]
      obtain ⟨x0, xf0⟩ := CBox.at_ X5 0 _ rfl
      obtain ⟨x1, xf1⟩ := CBox.at_ X5 1 _ rfl
      obtain ⟨x2, xf2⟩ := CBox.at_ X5 2 _ rfl
      obtain ⟨x3, xf3⟩ := CBox.at_ X5 3 _ rfl
      obtain ⟨x4, xf4⟩ := CBox.at_ X5 4 _ rfl
      obtain ⟨x5, xf5⟩ := CBox.at_ X5 5 _ rfl
      obtain ⟨x6, xf6⟩ := CBox.at_ X5 6 _ rfl
      obtain ⟨x7, xf7⟩ := CBox.at_ X5 7 _ rfl
      obtain ⟨x8, xf8⟩ := CBox.at_ X5 8 _ rfl
      go_simp
      refine hKr.out _ _ trivial (fun _ => ?_)
      clear hKr x0 xf0 x1 xf1 x2 xf2 x3 xf3 x4 xf4 x5 xf5 x6 xf6 x7 xf7 x8 xf8
      refine wpAnyH_done (by kernel_rfl) ?_ _
      have HA6 := Lib.hid (show AR w (((((((((W5.setCell ⟨mb, 0, none⟩ (.int .i64 1)).setCell ⟨mb, 1, none⟩ (.int .i64 1)).setCell ⟨mb, 2, none⟩ (.string (bstr G))).setCell ⟨mb, 3, none⟩ (.int .i64 X)).setCell ⟨mb, 4, none⟩ (.bool false)).setCell ⟨mb, 5, none⟩ (.int .i64 0)).setCell ⟨mb, 6, none⟩ (.int .i64 0)).setCell ⟨mb, 7, none⟩ (.slice none 0 0)).setCell ⟨mb, 8, none⟩ (.slice none 0 0)) rb mb #[.int .i64 1, .int .i64 1, .string (bstr G), .int .i64 X, .bool false, .int .i64 0, .int .i64 0, .slice none 0 0, .slice none 0 0] from
        ((((((((((show AR w W5 rb mb mz from ⟨r5, X5, k5, HLT.out⟩).set 0 (.int .i64 1)).set 1 (.int .i64 1)).set 2 (.string (bstr G))).set 3 (.int .i64 X)).set 4 (.bool false)).set 5 (.int .i64 0)).set 6 (.int .i64 0)).set 7 (.slice none 0 0)).set 8 (.slice none 0 0)))
      clear X5 k5 r5
      go_wp2_with fail
      go_meet
      case rel => exact ⟨rfl, HA6.out⟩
  case rest =>
    obtain ⟨rfl, hcc⟩ := hcut
    have HA7 := Lib.hid hcc
    clear hcc hG hGT l24 l24' d24 d24'
    obtain ⟨m2, mf2⟩ := HA7.out.2.1.at_ 2 _ rfl
    obtain ⟨g', hg'⟩ : ∃ g', g' = if G = nobody16 then [] else G := ⟨_, rfl⟩
    go_upto_if 19 with fail
    obtain ⟨t, ht⟩ : ∃ t, (G == nobody16) = t := ⟨_, rfl⟩
    rw [ht]
    go_cut [] (fun w' => AR w w' rb mb #[.int .i64 1, .int .i64 1, .string (bstr g'), .int .i64 X, .bool false, .int .i64 0, .int .i64 0, .slice none 0 0, .slice none 0 0])
    case first =>
      cases t
      rotate_left
      · have HG1 := Lib.hid (show g' = [] from by rw [hg', if_pos (beq_iff_eq.1 ht)])
        clear hg' ht
        go_wp2_with fail
        go_meet
        case rel => rw [HG1.out]; exact HA7.out.set 2 _
      · have HG1 := Lib.hid (show g' = G from by rw [hg', if_neg (beq_eq_false_iff_ne.1 ht)])
        clear hg' ht
        go_wp2_with fail
        go_meet
        case rel => rw [HG1.out]; exact HA7.out
    case rest =>
      have HA8 := Lib.hid hcut
      have HG1 := Lib.hid hg'
      clear hcut hg' m2 mf2 ht HA7
      have HGL := Lib.hid (show g'.length ≤ maxLen from by
        rw [HG1.out]
        split
        · exact Nat.zero_le _
        · rw [← HG.out]; exact Nat.le_trans (List.length_take_le _ _) (by decide))
      by_cases hl : 24 < s.length
      · have d24 : decide ((24 : Int) < s.length) = true := decide_eq_true (by omega)
        have d24' : decide (24 < s.length) = true := decide_eq_true hl
        have hPq := mquery_long s G g' hl HG.out HG1.out
        rw [← HP.out] at hPq
        by_cases h28 : s.length < 28
        · have d28 : decide ((s.length : Int) < 28) = true := decide_eq_true (by omega)
          have d28' : decide (s.length < 28) = true := decide_eq_true h28
          have HPE := Lib.hid (show P = (3, .zero) from by rw [hPq, if_pos h28])
          have XR := HA8.out.1
          obtain ⟨y0, yf0⟩ := CBox.at_ XR 0 _ rfl
          obtain ⟨y1, yf1⟩ := CBox.at_ XR 1 _ rfl
          obtain ⟨y2, yf2⟩ := CBox.at_ XR 2 _ rfl
          obtain ⟨y3, yf3⟩ := CBox.at_ XR 3 _ rfl
          obtain ⟨y4, yf4⟩ := CBox.at_ XR 4 _ rfl
          obtain ⟨y5, yf5⟩ := CBox.at_ XR 5 _ rfl
          obtain ⟨y6, yf6⟩ := CBox.at_ XR 6 _ rfl
          obtain ⟨y7, yf7⟩ := CBox.at_ XR 7 _ rfl
          obtain ⟨y8, yf8⟩ := CBox.at_ XR 8 _ rfl
          clear XR h28 hPq hl
          go_wp2_with fail
          obtain ⟨r0, r1, r2, r3, r4, r5, r6, r7, r8⟩ := ret9 (cells9 HA8.out.1 (.int .i64 0) (.int .i64 0) (.string (bstr [])) (.int .i64 0) (.bool false) (.int .i64 0) (.int .i64 0) (.slice none 0 0) (.slice none 0 0))
          refine bodyPost_ret (v := .tuple #[.agg #[.int .i64 0, .int .i64 0, .string (bstr []), .int .i64 0, .bool false, .int .i64 0, .int .i64 0, .slice none 0 0, .slice none 0 0], .int .i64 3]) (by simp [results, Try.results23, go_sem, r0, r1, r2, r3, r4, r5, r6, r7, r8]) rfl ?_
          rw [HPE.out]
          exact retMsg_bad w _ 3 (HRB.out ▸ below9 HA8.out.2.2.1 (Nat.le_refl _) _ _ _ _ _ _ _ _ _)
        · have d28 : decide ((s.length : Int) < 28) = false := decide_eq_false (by omega)
          have d28' : decide (s.length < 28) = false := decide_eq_false h28
          rw [if_neg h28] at hPq
          obtain ⟨n, hn⟩ : ∃ n, numAt s 26 2 = n := ⟨_, rfl⟩
          have HAN := Lib.hid (fun W => show Calls Try.prog 25 #[.string (bstr s), .int .i64 26, .int .i64 2] W _ from rat2 s 26 n W (by omega) H8.out.2 hn)
          obtain ⟨B, hB8⟩ : ∃ B, (s[24]?.getD 0).toNat = B := ⟨_, rfl⟩
          obtain ⟨C, hC⟩ : ∃ C, (s[25]?.getD 0).toNat = C := ⟨_, rfl⟩
          have k8 : ∀ h : 24 < s.length, (s[24]'h).toNat = B := fun h => by rw [← hB8, List.getElem?_eq_getElem h]; rfl
          have k9 : ∀ h : 25 < s.length, (s[25]'h).toNat = C := fun h => by rw [← hC, List.getElem?_eq_getElem h]; rfl
          have HD1 := Lib.hid (fun W => rdec16_any X W (Nat.lt_succ_of_le HX65.out))
          have HD9 := Lib.hid (fun W => rdec8_any C W (by rw [← hC]; exact (s[25]?.getD 0).toNat_lt))
          obtain ⟨M, hM⟩ : ∃ M, pdecode X 12 = M := ⟨_, rfl⟩
          obtain ⟨ev, hev⟩ : ∃ ev, pdecode C 4 = ev := ⟨_, rfl⟩
          rw [hM] at HD1
          rw [hev] at HD9
          have hB := byte_q8 B
          obtain ⟨q, hq⟩ : ∃ q, decide (B / 8 % 2 = 1) = q := ⟨_, rfl⟩
          rw [hq] at hB
          obtain ⟨r, hr⟩ : ∃ r : Nat, B % 8 = r := ⟨_, rfl⟩
          have hrI : (B : Int) % 8 = (r : Int) := by rw [← hr]; omega
          have hrT : (B : Int).tmod 8 = (r : Int) := by rw [Int.tmod_eq_emod_of_nonneg (Int.natCast_nonneg _), hrI]
          have hB256 : B < 256 := by rw [← hB8]; exact (s[24]?.getD 0).toNat_lt
          have hB1 : wrap64 (B : Int) = (B : Int) := w64 _ (by omega) (by omega)
          have hC1 : wrap64 (C : Int) = (C : Int) := by rw [← hC]; have := (s[25]?.getD 0).toNat_lt; exact w64 _ (by omega) (by omega)
          have l8i : (24 : Int) < s.length := by omega
          have l9 : (25 : Int) < s.length := by omega
          have l9' : 25 < s.length := by omega
          have l8' : 24 < s.length := by omega
          have hn65 : n ≤ 65535 := by have := numAt_lt s 26 2; omega
          have hpq := hPq
          rw [hn, HX.out, hM, show (s.getD 24 0).toNat = B from by rw [List.getD_eq_getElem?_getD, hB8], hq, hr, show (s.getD 25 0).toNat = C from by rw [List.getD_eq_getElem?_getD, hC], hev] at hpq
          have HPN := Lib.hid hpq
          have HL28 := Lib.hid (Nat.le_of_not_lt h28)
          have HN65 := Lib.hid hn65
          clear h28 hPq hpq hl hn hM hev hq hr hB8 hC hB256 hn65
          obtain ⟨m1, mf1⟩ := HA8.out.2.1.at_ 1 _ rfl
          go_upto_region 10 with fail
          have HA9 := Lib.hid (show AR w (wc.setCell ⟨mb, 1, none⟩ (.int .i64 2)) rb mb #[.int .i64 1, .int .i64 2, .string (bstr g'), .int .i64 X, .bool false, .int .i64 0, .int .i64 0, .slice none 0 0, .slice none 0 0] from HA8.out.set 1 (.int .i64 2))
          obtain ⟨W9, hW9⟩ : ∃ W, wc.setCell ⟨mb, 1, none⟩ (.int .i64 2) = W := ⟨_, rfl⟩
          rw [hW9] at HA9 ⊢
          clear hW9
          clear m1 mf1
          obtain ⟨m3, mf3⟩ := HA9.out.2.1.at_ 3 _ rfl
          go_upto_region 11 with ((with_reducible refine (HD1.out _).mono ?_); rintro e w6 ⟨rfl, hw6⟩; subst hw6)
          have HA10 := Lib.hid (show AR w (W9.setCell ⟨mb, 3, none⟩ (.int .i64 M)) rb mb #[.int .i64 1, .int .i64 2, .string (bstr g'), .int .i64 M, .bool false, .int .i64 0, .int .i64 0, .slice none 0 0, .slice none 0 0] from HA9.out.set 3 (.int .i64 M))
          obtain ⟨W10, hW10⟩ : ∃ W, W9.setCell ⟨mb, 3, none⟩ (.int .i64 M) = W := ⟨_, rfl⟩
          rw [hW10] at HA10 ⊢
          clear hW10
          clear m3 mf3
          obtain ⟨m4, mf4⟩ := HA10.out.2.1.at_ 4 _ rfl
          go_upto_region 12 with fail
          have HA11 := Lib.hid (show AR w (W10.setCell ⟨mb, 4, none⟩ (.bool q)) rb mb #[.int .i64 1, .int .i64 2, .string (bstr g'), .int .i64 M, .bool q, .int .i64 0, .int .i64 0, .slice none 0 0, .slice none 0 0] from HA10.out.set 4 (.bool q))
          obtain ⟨W11, hW11⟩ : ∃ W, W10.setCell ⟨mb, 4, none⟩ (.bool q) = W := ⟨_, rfl⟩
          rw [hW11] at HA11 ⊢
          clear hW11
          clear m4 mf4
          obtain ⟨m5, mf5⟩ := HA11.out.2.1.at_ 5 _ rfl
          go_upto_region 13 with fail
          have HA12 := Lib.hid (show AR w (W11.setCell ⟨mb, 5, none⟩ (.int .i64 r)) rb mb #[.int .i64 1, .int .i64 2, .string (bstr g'), .int .i64 M, .bool q, .int .i64 r, .int .i64 0, .slice none 0 0, .slice none 0 0] from HA11.out.set 5 (.int .i64 r))
          obtain ⟨W12, hW12⟩ : ∃ W, W11.setCell ⟨mb, 5, none⟩ (.int .i64 r) = W := ⟨_, rfl⟩
          rw [hW12] at HA12 ⊢
          clear hW12
          clear m5 mf5
          obtain ⟨m6, mf6⟩ := HA12.out.2.1.at_ 6 _ rfl
          go_upto_region 14 with ((with_reducible refine (HD9.out _).mono ?_); rintro e w6 ⟨rfl, hw6⟩; subst hw6)
          have HA13 := Lib.hid (show AR w (W12.setCell ⟨mb, 6, none⟩ (.int .i64 ev)) rb mb #[.int .i64 1, .int .i64 2, .string (bstr g'), .int .i64 M, .bool q, .int .i64 r, .int .i64 ev, .slice none 0 0, .slice none 0 0] from HA12.out.set 6 (.int .i64 ev))
          obtain ⟨W13, hW13⟩ : ∃ W, W12.setCell ⟨mb, 6, none⟩ (.int .i64 ev) = W := ⟨_, rfl⟩
          rw [hW13] at HA13 ⊢
          clear hW13
          clear m6 mf6 k8 k9 hB hrI hrT hB1 hC1
          go_upto_region 15 with ((with_reducible refine (HAN.out _).mono ?_); rintro e w6 ⟨rfl, hw6⟩; subst hw6)
          by_cases h60 : 60 < n
          · have d60 : decide ((60 : Int) < n) = true := decide_eq_true (by omega)
            have d60' : decide (60 < n) = true := decide_eq_true h60
            have HPE := Lib.hid (show P = (3, .zero) from by rw [HPN.out, if_pos h60])
            have XR := HA13.out.1
            obtain ⟨y0, yf0⟩ := CBox.at_ XR 0 _ rfl
            obtain ⟨y1, yf1⟩ := CBox.at_ XR 1 _ rfl
            obtain ⟨y2, yf2⟩ := CBox.at_ XR 2 _ rfl
            obtain ⟨y3, yf3⟩ := CBox.at_ XR 3 _ rfl
            obtain ⟨y4, yf4⟩ := CBox.at_ XR 4 _ rfl
            obtain ⟨y5, yf5⟩ := CBox.at_ XR 5 _ rfl
            obtain ⟨y6, yf6⟩ := CBox.at_ XR 6 _ rfl
            obtain ⟨y7, yf7⟩ := CBox.at_ XR 7 _ rfl
            obtain ⟨y8, yf8⟩ := CBox.at_ XR 8 _ rfl
            clear XR h60
            go_wp2_with fail
            obtain ⟨r0, r1, r2, r3, r4, r5, r6, r7, r8⟩ := ret9 (cells9 HA13.out.1 (.int .i64 0) (.int .i64 0) (.string (bstr [])) (.int .i64 0) (.bool false) (.int .i64 0) (.int .i64 0) (.slice none 0 0) (.slice none 0 0))
            refine bodyPost_ret (v := .tuple #[.agg #[.int .i64 0, .int .i64 0, .string (bstr []), .int .i64 0, .bool false, .int .i64 0, .int .i64 0, .slice none 0 0, .slice none 0 0], .int .i64 3]) (by simp [results, Try.results23, go_sem, r0, r1, r2, r3, r4, r5, r6, r7, r8]) rfl ?_
            rw [HPE.out]
            exact retMsg_bad w _ 3 (HRB.out ▸ below9 HA13.out.2.2.1 (Nat.le_refl _) _ _ _ _ _ _ _ _ _)
          · have d60 : decide ((60 : Int) < n) = false := decide_eq_false (by omega)
            have d60' : decide (60 < n) = false := decide_eq_false h60
            have hpn := HPN.out
            rw [if_neg h60] at hpn
            have HAD := Lib.hid (fun W => rsrc28 s n W H8.out.2 HL28.out HN65.out)
            by_cases hok : 28 + n * 16 ≤ s.length
            rotate_left
            · rw [decide_eq_false hok, if_neg hok] at HAD
              have HPE := Lib.hid (show P = (2, .zero) from by rw [hpn, if_pos (Nat.lt_of_not_le hok)])
              clear h60 hok hpn
              go_wp2_with ((with_reducible refine (HAD.out _).mono ?_); rintro e w9 ⟨v9, rfl, hv9, hl9, hb9⟩; obtain ⟨ao, cc, rfl⟩ := hv9.shape; have HA14 := Lib.hid (HA13.out.to hb9); clear hb9 hv9 hl9; obtain ⟨y0, yf0⟩ := CBox.at_ HA14.out.1 0 _ rfl; obtain ⟨y1, yf1⟩ := CBox.at_ HA14.out.1 1 _ rfl; obtain ⟨y2, yf2⟩ := CBox.at_ HA14.out.1 2 _ rfl; obtain ⟨y3, yf3⟩ := CBox.at_ HA14.out.1 3 _ rfl; obtain ⟨y4, yf4⟩ := CBox.at_ HA14.out.1 4 _ rfl; obtain ⟨y5, yf5⟩ := CBox.at_ HA14.out.1 5 _ rfl; obtain ⟨y6, yf6⟩ := CBox.at_ HA14.out.1 6 _ rfl; obtain ⟨y7, yf7⟩ := CBox.at_ HA14.out.1 7 _ rfl; obtain ⟨y8, yf8⟩ := CBox.at_ HA14.out.1 8 _ rfl)
              obtain ⟨r0, r1, r2, r3, r4, r5, r6, r7, r8⟩ := ret9 (cells9 HA14.out.1 (.int .i64 0) (.int .i64 0) (.string (bstr [])) (.int .i64 0) (.bool false) (.int .i64 0) (.int .i64 0) (.slice none 0 0) (.slice none 0 0))
              refine bodyPost_ret (v := .tuple #[.agg #[.int .i64 0, .int .i64 0, .string (bstr []), .int .i64 0, .bool false, .int .i64 0, .int .i64 0, .slice none 0 0, .slice none 0 0], .int .i64 2]) (by simp [results, Try.results23, go_sem, r0, r1, r2, r3, r4, r5, r6, r7, r8]) rfl ?_
              rw [HPE.out]
              exact retMsg_bad w _ 2 (HRB.out ▸ below9 HA14.out.2.2.1 (Nat.le_refl _) _ _ _ _ _ _ _ _ _)
            · rw [decide_eq_true hok, if_pos hok] at HAD
              rw [if_neg (Nat.not_lt_of_le hok)] at hpn
              obtain ⟨L, hLd⟩ : ∃ L, srcs s 28 n 16 = L := ⟨_, rfl⟩
              have hLl : L.length = n := by rw [← hLd, srcs_length]
              rw [hLd] at HAD hpn
              obtain ⟨V, hV⟩ : ∃ V : Int, V = 2 := ⟨_, rfl⟩
              rw [← hV] at hpn
              have HBAD := Lib.hid (show (g' ≠ [] ∧ grp g' 16 = false) ∨ (g' = [] ∧ 0 < n) → P = (3, .zero) from fun h => by rw [hpn, if_pos h])
              have HGOOD := Lib.hid (show ¬ ((g' ≠ [] ∧ grp g' 16 = false) ∨ (g' = [] ∧ 0 < n)) → P = (0, ⟨1, V, g', M, q, r, ev, L, []⟩) from fun h => by rw [hpn, if_neg h])
              have HV := Lib.hid (And.intro hV hLl)
              clear h60 hok hpn hLd hV hLl
              go_upto_region 20 with ((with_reducible refine (HAD.out _).mono ?_); rintro e w9 ⟨v9, rfl, hv9, hl9, hb9⟩; obtain ⟨ao, c, rfl⟩ := hv9.shape; have HA14 := Lib.hid (HA13.out.to hb9); have HV9 := Lib.hid (And.intro hv9 (And.intro (hl9.mono (lo' := rb + 1) HA13.out.1.lt) hl9)); clear hb9 hv9 hl9)
              obtain ⟨m7, mf7⟩ := HA14.out.2.1.at_ 7 _ rfl
              go_upto_region 21 with fail
              rw [HV.out.2] at HV9 ⊢
              have HF0 := Lib.hid (show AR w (w9.setCell ⟨mb, 7, none⟩ (.slice ao n c)) rb mb #[.int .i64 1, .int .i64 V, .string (bstr g'), .int .i64 M, .bool q, .int .i64 r, .int .i64 ev, .slice ao n c, .slice none 0 0] from by rw [HV.out.1]; exact HA14.out.set 7 (.slice ao n c))
              have HST := Lib.hid (show Strs (w9.setCell ⟨mb, 7, none⟩ (.slice ao n c)) (.slice ao n c) L from HV9.out.1.far HV9.out.2.2 (p := ⟨mb, 7, none⟩) HA13.out.2.1.lt _)
              have HLI := Lib.hid HV9.out.2.1
              obtain ⟨W10, hW10⟩ : ∃ W10, w9.setCell ⟨mb, 7, none⟩ (.slice ao n c) = W10 := ⟨_, rfl⟩
              rw [hW10] at HF0 HST ⊢
              clear hW10 m7 mf7
              have XM := HF0.out.2.1
              obtain ⟨x0, xf0⟩ := CBox.at_ XM 0 _ rfl
              obtain ⟨x1, xf1⟩ := CBox.at_ XM 1 _ rfl
              obtain ⟨x2, xf2⟩ := CBox.at_ XM 2 _ rfl
              obtain ⟨x3, xf3⟩ := CBox.at_ XM 3 _ rfl
              obtain ⟨x4, xf4⟩ := CBox.at_ XM 4 _ rfl
              obtain ⟨x5, xf5⟩ := CBox.at_ XM 5 _ rfl
              obtain ⟨x6, xf6⟩ := CBox.at_ XM 6 _ rfl
              obtain ⟨x7, xf7⟩ := CBox.at_ XM 7 _ rfl
              obtain ⟨x8, xf8⟩ := CBox.at_ XM 8 _ rfl
              have XR := HF0.out.1
              obtain ⟨y0, yf0⟩ := CBox.at_ XR 0 _ rfl
              obtain ⟨y1, yf1⟩ := CBox.at_ XR 1 _ rfl
              obtain ⟨y2, yf2⟩ := CBox.at_ XR 2 _ rfl
              obtain ⟨y3, yf3⟩ := CBox.at_ XR 3 _ rfl
              obtain ⟨y4, yf4⟩ := CBox.at_ XR 4 _ rfl
              obtain ⟨y5, yf5⟩ := CBox.at_ XR 5 _ rfl
              obtain ⟨y6, yf6⟩ := CBox.at_ XR 6 _ rfl
              obtain ⟨y7, yf7⟩ := CBox.at_ XR 7 _ rfl
              obtain ⟨y8, yf8⟩ := CBox.at_ XR 8 _ rfl
              clear XM XR
              have l7 := run_len_any (P := Try.prog) Try.underlying26 ao n c
              by_cases hg0 : g' = []
              · by_cases hn : 0 < n
                · have dn : decide ((0 : Int) < n) = true := decide_eq_true (by omega)
                  have dn' : decide (0 < n) = true := decide_eq_true hn
                  have HPE := Lib.hid (HBAD.out (.inr ⟨hg0, hn⟩))
                  subst hg0
                  clear hn
                  go_wp2_with fail
                  obtain ⟨r0, r1, r2, r3, r4, r5, r6, r7, r8⟩ := ret9 (cells9 HF0.out.1 (.int .i64 0) (.int .i64 0) (.string (bstr [])) (.int .i64 0) (.bool false) (.int .i64 0) (.int .i64 0) (.slice none 0 0) (.slice none 0 0))
                  refine bodyPost_ret (v := .tuple #[.agg #[.int .i64 0, .int .i64 0, .string (bstr []), .int .i64 0, .bool false, .int .i64 0, .int .i64 0, .slice none 0 0, .slice none 0 0], .int .i64 3]) (by simp [results, Try.results23, go_sem, r0, r1, r2, r3, r4, r5, r6, r7, r8]) rfl ?_
                  rw [HPE.out]
                  exact retMsg_bad w _ 3 (HRB.out ▸ below9 HF0.out.2.2.1 (Nat.le_refl _) _ _ _ _ _ _ _ _ _)
                · have dn : decide ((0 : Int) < n) = false := decide_eq_false (by omega)
                  have dn' : decide (0 < n) = false := decide_eq_false hn
                  have HPE := Lib.hid (HGOOD.out (fun h => by rcases h with h | h; exact h.1 hg0; exact hn h.2))
                  subst hg0
                  clear hn
                  go_wp2_with fail
                  obtain ⟨r0, r1, r2, r3, r4, r5, r6, r7, r8⟩ := ret9 (cells9 HF0.out.1 (.int .i64 1) (.int .i64 V) (.string (bstr [])) (.int .i64 M) (.bool q) (.int .i64 r) (.int .i64 ev) (.slice ao n c) (.slice none 0 0))
                  refine bodyPost_ret (v := .tuple #[.agg #[.int .i64 1, .int .i64 V, .string (bstr []), .int .i64 M, .bool q, .int .i64 r, .int .i64 ev, .slice ao n c, .slice none 0 0], .int .i64 0]) (by simp [results, Try.results23, go_sem, r0, r1, r2, r3, r4, r5, r6, r7, r8]) rfl ?_
                  rw [HPE.out]
                  exact ⟨.slice ao n c, .slice none 0 0, rfl, strs9 HST.out HLI.out (Nat.lt_succ_self _) _ _ _ _ _ _ _ _ _, HLI.out.mono (by rw [HRB.out]; exact Nat.le_succ _), Row.nil _ _, HRB.out ▸ below9 HF0.out.2.2.1 (Nat.le_refl _) _ _ _ _ _ _ _ _ _⟩
              · have e2 : (g' == []) = false := beq_eq_false_iff_ne.2 hg0
                have e3 : (g' != []) = true := bne_iff_ne.2 hg0
                have HGR := Lib.hid (fun W => rgroup9_any g' W HGL.out)
                cases hq : grp g' 16
                · rw [hq] at HGR
                  have HPE := Lib.hid (HBAD.out (.inl ⟨hg0, hq⟩))
                  clear hg0 hq
                  go_wp2_with ((with_reducible refine (HGR.out _).mono ?_); rintro e w7 ⟨rfl, hw7⟩; subst w7)
                  obtain ⟨r0, r1, r2, r3, r4, r5, r6, r7, r8⟩ := ret9 (cells9 HF0.out.1 (.int .i64 0) (.int .i64 0) (.string (bstr [])) (.int .i64 0) (.bool false) (.int .i64 0) (.int .i64 0) (.slice none 0 0) (.slice none 0 0))
                  refine bodyPost_ret (v := .tuple #[.agg #[.int .i64 0, .int .i64 0, .string (bstr []), .int .i64 0, .bool false, .int .i64 0, .int .i64 0, .slice none 0 0, .slice none 0 0], .int .i64 3]) (by simp [results, Try.results23, go_sem, r0, r1, r2, r3, r4, r5, r6, r7, r8]) rfl ?_
                  rw [HPE.out]
                  exact retMsg_bad w _ 3 (HRB.out ▸ below9 HF0.out.2.2.1 (Nat.le_refl _) _ _ _ _ _ _ _ _ _)
                · rw [hq] at HGR
                  have HPE := Lib.hid (HGOOD.out (fun h => by rcases h with h | h; rw [hq] at h; cases h.2; exact hg0 h.1))
                  clear hg0 hq
                  go_wp2_with ((with_reducible refine (HGR.out _).mono ?_); rintro e w7 ⟨rfl, hw7⟩; subst w7)
                  obtain ⟨r0, r1, r2, r3, r4, r5, r6, r7, r8⟩ := ret9 (cells9 HF0.out.1 (.int .i64 1) (.int .i64 V) (.string (bstr g')) (.int .i64 M) (.bool q) (.int .i64 r) (.int .i64 ev) (.slice ao n c) (.slice none 0 0))
                  refine bodyPost_ret (v := .tuple #[.agg #[.int .i64 1, .int .i64 V, .string (bstr g'), .int .i64 M, .bool q, .int .i64 r, .int .i64 ev, .slice ao n c, .slice none 0 0], .int .i64 0]) (by simp [results, Try.results23, go_sem, r0, r1, r2, r3, r4, r5, r6, r7, r8]) rfl ?_
                  rw [HPE.out]
                  exact ⟨.slice ao n c, .slice none 0 0, rfl, strs9 HST.out HLI.out (Nat.lt_succ_self _) _ _ _ _ _ _ _ _ _, HLI.out.mono (by rw [HRB.out]; exact Nat.le_succ _), Row.nil _ _, HRB.out ▸ below9 HF0.out.2.2.1 (Nat.le_refl _) _ _ _ _ _ _ _ _ _⟩
      · have d24 : decide ((24 : Int) < s.length) = false := decide_eq_false (by omega)
        have d24' : decide (24 < s.length) = false := decide_eq_false hl
        have hPq := mquery_short s G g' H24.out hl HG.out HG1.out
        rw [← HP.out, HX.out] at hPq
        obtain ⟨n, hn0⟩ : ∃ n : Nat, n = 0 := ⟨_, rfl⟩
        obtain ⟨ao, hao⟩ : ∃ ao : Option Addr, ao = none := ⟨_, rfl⟩
        obtain ⟨c, hc0⟩ : ∃ c : Nat, c = 0 := ⟨_, rfl⟩
        obtain ⟨L, hL0⟩ : ∃ L : List Str, L = [] := ⟨_, rfl⟩
        obtain ⟨V, hV⟩ : ∃ V : Int, V = 1 := ⟨_, rfl⟩
        obtain ⟨M, hM⟩ : ∃ M : Int, M = (X : Int) := ⟨_, rfl⟩
        obtain ⟨q, hq0⟩ : ∃ q, q = false := ⟨_, rfl⟩
        obtain ⟨r, hr0⟩ : ∃ r : Int, r = 0 := ⟨_, rfl⟩
        obtain ⟨ev, hev⟩ : ∃ ev : Int, ev = 0 := ⟨_, rfl⟩
        have HF0 := Lib.hid (show AR w wc rb mb #[.int .i64 1, .int .i64 V, .string (bstr g'), .int .i64 M, .bool q, .int .i64 r, .int .i64 ev, .slice ao n c, .slice none 0 0] from by rw [hn0, hao, hc0, hV, hM, hq0, hr0, hev]; exact HA8.out)
        have HST := Lib.hid (show Strs wc (.slice ao n c) L from by rw [hn0, hao, hc0, hL0]; exact Strs.nil _)
        have HLI := Lib.hid (show Lies (rb + 1) (.slice ao n c) from by rw [hao]; intro b hb; simp [Value.ownBlock] at hb)
        have HBAD := Lib.hid (show (g' ≠ [] ∧ grp g' 16 = false) ∨ (g' = [] ∧ 0 < n) → P = (3, .zero) from fun h => by rcases h with h | h; rw [hPq, if_pos h]; rw [hn0] at h; exact absurd h.2 (by decide))
        have HGOOD := Lib.hid (show ¬ ((g' ≠ [] ∧ grp g' 16 = false) ∨ (g' = [] ∧ 0 < n)) → P = (0, ⟨1, V, g', M, q, r, ev, L, []⟩) from fun h => by rw [hPq, if_neg (fun h2 => h (.inl h2)), hV, hM, hq0, hr0, hev, hL0])
        clear hPq hn0 hao hc0 hL0 hV hM hq0 hr0 hev hl HA8
        have XM := HF0.out.2.1
        obtain ⟨x0, xf0⟩ := CBox.at_ XM 0 _ rfl
        obtain ⟨x1, xf1⟩ := CBox.at_ XM 1 _ rfl
        obtain ⟨x2, xf2⟩ := CBox.at_ XM 2 _ rfl
        obtain ⟨x3, xf3⟩ := CBox.at_ XM 3 _ rfl
        obtain ⟨x4, xf4⟩ := CBox.at_ XM 4 _ rfl
        obtain ⟨x5, xf5⟩ := CBox.at_ XM 5 _ rfl
        obtain ⟨x6, xf6⟩ := CBox.at_ XM 6 _ rfl
        obtain ⟨x7, xf7⟩ := CBox.at_ XM 7 _ rfl
        obtain ⟨x8, xf8⟩ := CBox.at_ XM 8 _ rfl
        have XR := HF0.out.1
        obtain ⟨y0, yf0⟩ := CBox.at_ XR 0 _ rfl
        obtain ⟨y1, yf1⟩ := CBox.at_ XR 1 _ rfl
        obtain ⟨y2, yf2⟩ := CBox.at_ XR 2 _ rfl
        obtain ⟨y3, yf3⟩ := CBox.at_ XR 3 _ rfl
        obtain ⟨y4, yf4⟩ := CBox.at_ XR 4 _ rfl
        obtain ⟨y5, yf5⟩ := CBox.at_ XR 5 _ rfl
        obtain ⟨y6, yf6⟩ := CBox.at_ XR 6 _ rfl
        obtain ⟨y7, yf7⟩ := CBox.at_ XR 7 _ rfl
        obtain ⟨y8, yf8⟩ := CBox.at_ XR 8 _ rfl
        clear XM XR
        have l7 := run_len_any (P := Try.prog) Try.underlying26 ao n c
        by_cases hg0 : g' = []
        · by_cases hn : 0 < n
          · have dn : decide ((0 : Int) < n) = true := decide_eq_true (by omega)
            have dn' : decide (0 < n) = true := decide_eq_true hn
            have HPE := Lib.hid (HBAD.out (.inr ⟨hg0, hn⟩))
            subst hg0
            clear hn
            go_wp2_with fail
            obtain ⟨r0, r1, r2, r3, r4, r5, r6, r7, r8⟩ := ret9 (cells9 HF0.out.1 (.int .i64 0) (.int .i64 0) (.string (bstr [])) (.int .i64 0) (.bool false) (.int .i64 0) (.int .i64 0) (.slice none 0 0) (.slice none 0 0))
            refine bodyPost_ret (v := .tuple #[.agg #[.int .i64 0, .int .i64 0, .string (bstr []), .int .i64 0, .bool false, .int .i64 0, .int .i64 0, .slice none 0 0, .slice none 0 0], .int .i64 3]) (by simp [results, Try.results23, go_sem, r0, r1, r2, r3, r4, r5, r6, r7, r8]) rfl ?_
            rw [HPE.out]
            exact retMsg_bad w _ 3 (HRB.out ▸ below9 HF0.out.2.2.1 (Nat.le_refl _) _ _ _ _ _ _ _ _ _)
          · have dn : decide ((0 : Int) < n) = false := decide_eq_false (by omega)
            have dn' : decide (0 < n) = false := decide_eq_false hn
            have HPE := Lib.hid (HGOOD.out (fun h => by rcases h with h | h; exact h.1 hg0; exact hn h.2))
            subst hg0
            clear hn
            go_wp2_with fail
            obtain ⟨r0, r1, r2, r3, r4, r5, r6, r7, r8⟩ := ret9 (cells9 HF0.out.1 (.int .i64 1) (.int .i64 V) (.string (bstr [])) (.int .i64 M) (.bool q) (.int .i64 r) (.int .i64 ev) (.slice ao n c) (.slice none 0 0))
            refine bodyPost_ret (v := .tuple #[.agg #[.int .i64 1, .int .i64 V, .string (bstr []), .int .i64 M, .bool q, .int .i64 r, .int .i64 ev, .slice ao n c, .slice none 0 0], .int .i64 0]) (by simp [results, Try.results23, go_sem, r0, r1, r2, r3, r4, r5, r6, r7, r8]) rfl ?_
            rw [HPE.out]
            exact ⟨.slice ao n c, .slice none 0 0, rfl, strs9 HST.out HLI.out (Nat.lt_succ_self _) _ _ _ _ _ _ _ _ _, HLI.out.mono (by rw [HRB.out]; exact Nat.le_succ _), Row.nil _ _, HRB.out ▸ below9 HF0.out.2.2.1 (Nat.le_refl _) _ _ _ _ _ _ _ _ _⟩
        · have e2 : (g' == []) = false := beq_eq_false_iff_ne.2 hg0
          have e3 : (g' != []) = true := bne_iff_ne.2 hg0
          have HGR := Lib.hid (fun W => rgroup9_any g' W HGL.out)
          cases hq : grp g' 16
          · rw [hq] at HGR
            have HPE := Lib.hid (HBAD.out (.inl ⟨hg0, hq⟩))
            clear hg0 hq
            go_wp2_with ((with_reducible refine (HGR.out _).mono ?_); rintro e w7 ⟨rfl, hw7⟩; subst w7)
            obtain ⟨r0, r1, r2, r3, r4, r5, r6, r7, r8⟩ := ret9 (cells9 HF0.out.1 (.int .i64 0) (.int .i64 0) (.string (bstr [])) (.int .i64 0) (.bool false) (.int .i64 0) (.int .i64 0) (.slice none 0 0) (.slice none 0 0))
            refine bodyPost_ret (v := .tuple #[.agg #[.int .i64 0, .int .i64 0, .string (bstr []), .int .i64 0, .bool false, .int .i64 0, .int .i64 0, .slice none 0 0, .slice none 0 0], .int .i64 3]) (by simp [results, Try.results23, go_sem, r0, r1, r2, r3, r4, r5, r6, r7, r8]) rfl ?_
            rw [HPE.out]
            exact retMsg_bad w _ 3 (HRB.out ▸ below9 HF0.out.2.2.1 (Nat.le_refl _) _ _ _ _ _ _ _ _ _)
          · rw [hq] at HGR
            have HPE := Lib.hid (HGOOD.out (fun h => by rcases h with h | h; rw [hq] at h; cases h.2; exact hg0 h.1))
            clear hg0 hq
            go_wp2_with ((with_reducible refine (HGR.out _).mono ?_); rintro e w7 ⟨rfl, hw7⟩; subst w7)
            obtain ⟨r0, r1, r2, r3, r4, r5, r6, r7, r8⟩ := ret9 (cells9 HF0.out.1 (.int .i64 1) (.int .i64 V) (.string (bstr g')) (.int .i64 M) (.bool q) (.int .i64 r) (.int .i64 ev) (.slice ao n c) (.slice none 0 0))
            refine bodyPost_ret (v := .tuple #[.agg #[.int .i64 1, .int .i64 V, .string (bstr g'), .int .i64 M, .bool q, .int .i64 r, .int .i64 ev, .slice ao n c, .slice none 0 0], .int .i64 0]) (by simp [results, Try.results23, go_sem, r0, r1, r2, r3, r4, r5, r6, r7, r8]) rfl ?_
            rw [HPE.out]
            exact ⟨.slice ao n c, .slice none 0 0, rfl, strs9 HST.out HLI.out (Nat.lt_succ_self _) _ _ _ _ _ _ _ _ _, HLI.out.mono (by rw [HRB.out]; exact Nat.le_succ _), Row.nil _ _, HRB.out ▸ below9 HF0.out.2.2.1 (Nat.le_refl _) _ _ _ _ _ _ _ _ _⟩
end Go.Proofs.Ythkibgdeibolfaa
