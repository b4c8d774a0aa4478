/- igmp.asks, igmp.Decode. -/
import Derived.Test.YthkogdgfkhhleaaJLong
import Derived.Test.YthkogdgfkhhleaaJRecs
namespace Go.Proofs.Ythkogdgfkhhleaa
open Go.RowKit Go.Sort
set_option maxRecDepth 20000
set_option maxRecDepth 20000
attribute [local go_sem] bstr_size bstr_extract bstr_toList bstr_get

def msgV (m : Msg) (vs vr : Value) : Value := .agg #[.int .i64 m.kind, .int .i64 m.version, .string (bstr m.group), .int .i64 m.max, .bool m.quiet, .int .i64 m.robust, .int .i64 m.every, vs, vr]
def RetMsg (w : World) (er : Int) (m : Msg) (e : Ending) (w' : World) : Prop :=
  ∃ vs vr, e = .returned (.tuple #[msgV m vs vr, .int .i64 er]) ∧ Strs w' vs m.sources ∧ Lies w.heap.size vs ∧ Row w' w.heap.size vr m.records ∧ Below w.heap.size w w'
theorem cells9 {w : World} {b : Nat} {T : TypeId} {x0 x1 x2 x3 x4 x5 x6 x7 x8 : Value} (h : CBox w b T #[x0, x1, x2, x3, x4, x5, x6, x7, x8]) (v0 v1 v2 v3 v4 v5 v6 v7 v8 : Value) :
    CBox (((((((((w.setCell ⟨b, 0, none⟩ v0).setCell ⟨b, 1, none⟩ v1).setCell ⟨b, 2, none⟩ v2).setCell ⟨b, 3, none⟩ v3).setCell ⟨b, 4, none⟩ v4).setCell ⟨b, 5, none⟩ v5).setCell ⟨b, 6, none⟩ v6).setCell ⟨b, 7, none⟩ v7).setCell ⟨b, 8, none⟩ v8) b T #[v0, v1, v2, v3, v4, v5, v6, v7, v8] :=
  have h0 : CBox _ b T #[v0, x1, x2, x3, x4, x5, x6, x7, x8] := h.set 0 v0
  have h1 : CBox _ b T #[v0, v1, x2, x3, x4, x5, x6, x7, x8] := h0.set 1 v1
  have h2 : CBox _ b T #[v0, v1, v2, x3, x4, x5, x6, x7, x8] := h1.set 2 v2
  have h3 : CBox _ b T #[v0, v1, v2, v3, x4, x5, x6, x7, x8] := h2.set 3 v3
  have h4 : CBox _ b T #[v0, v1, v2, v3, v4, x5, x6, x7, x8] := h3.set 4 v4
  have h5 : CBox _ b T #[v0, v1, v2, v3, v4, v5, x6, x7, x8] := h4.set 5 v5
  have h6 : CBox _ b T #[v0, v1, v2, v3, v4, v5, v6, x7, x8] := h5.set 6 v6
  have h7 : CBox _ b T #[v0, v1, v2, v3, v4, v5, v6, v7, x8] := h6.set 7 v7
  have h8 : CBox _ b T #[v0, v1, v2, v3, v4, v5, v6, v7, v8] := h7.set 8 v8
  h8
theorem below9 {w w0 : World} {B b : Nat} (h : Below B w0 w) (hb : B ≤ b) (v0 v1 v2 v3 v4 v5 v6 v7 v8 : Value) :
    Below B w0 (((((((((w.setCell ⟨b, 0, none⟩ v0).setCell ⟨b, 1, none⟩ v1).setCell ⟨b, 2, none⟩ v2).setCell ⟨b, 3, none⟩ v3).setCell ⟨b, 4, none⟩ v4).setCell ⟨b, 5, none⟩ v5).setCell ⟨b, 6, none⟩ v6).setCell ⟨b, 7, none⟩ v7).setCell ⟨b, 8, none⟩ v8) :=
  ((((((((h.setCell (p := ⟨b, 0, none⟩) hb v0).setCell (p := ⟨b, 1, none⟩) hb v1).setCell (p := ⟨b, 2, none⟩) hb v2).setCell (p := ⟨b, 3, none⟩) hb v3).setCell (p := ⟨b, 4, none⟩) hb v4).setCell (p := ⟨b, 5, none⟩) hb v5).setCell (p := ⟨b, 6, none⟩) hb v6).setCell (p := ⟨b, 7, none⟩) hb v7).setCell (p := ⟨b, 8, none⟩) hb v8
abbrev mz : Array Value := #[.int .i64 0, .int .i64 0, .string (bstr []), .int .i64 0, .bool false, .int .i64 0, .int .i64 0, .slice none 0 0, .slice none 0 0]
theorem retMsg_bad (w w' : World) (er : Int) (hb : Below w.heap.size w w') : RetMsg w er Msg.zero (.returned (.tuple #[.agg #[.int .i64 0, .int .i64 0, .string (bstr []), .int .i64 0, .bool false, .int .i64 0, .int .i64 0, .slice none 0 0, .slice none 0 0], .int .i64 er])) w' :=
  ⟨_, _, rfl, Strs.nil _, fun j hj => by simp [Value.ownBlock] at hj, Row.nil _ _, hb⟩

theorem isGroup4 (g : Str) (w : World) (hg : g.length ≤ maxLen) : Calls Try.prog 27 #[.string (bstr g), .int .i64 4] w fun e w' => e = .returned (.bool (grp g 4)) ∧ Below w.heap.size w w' := isGroup_any g 4 w hg
theorem pquery_short (s G g' : Str) (X : Nat) (h : ¬ 8 < s.length) (hG : (s.drop 4).take 4 = G) (hg' : g' = if G = nobody4 then [] else G) (hX : (s[1]?.getD 0).toNat = X) :
    pquery s = if g' ≠ [] ∧ grp g' 4 = false then (3, .zero) else (0, ⟨1, if X = 0 then 1 else 2, g', X, false, 0, 0, [], []⟩) := by
  have hX' : (s.getD 1 0).toNat = X := by rw [List.getD_eq_getElem?_getD, hX]
  unfold pquery
  simp only [hG, hX', ← hg', if_neg h]
theorem pquery_long (s G g' : Str) (h : 8 < s.length) (hG : (s.drop 4).take 4 = G) (hg' : g' = if G = nobody4 then [] else G) :
    pquery s = if longE s ≠ 0 then (longE s, .zero) else if (g' ≠ [] ∧ grp g' 4 = false) ∨ (g' = [] ∧ 0 < numAt s 10 2) then (3, .zero) else
      (0, ⟨1, 3, g', pdecode (s.getD 1 0).toNat 4, flagQ s, flagR s, pdecode (s.getD 9 0).toNat 4, srcs s 12 (numAt s 10 2) 4, []⟩) := by
  unfold pquery longE
  simp only [hG, ← hg', if_pos h]
  by_cases h1 : s.length < 12
  · rw [if_pos h1, if_pos h1, if_pos (by decide)]
  · rw [if_neg h1, if_neg h1]
    by_cases h2 : 60 < numAt s 10 2
    · rw [if_pos h2, if_pos h2, if_pos (by decide)]
    · rw [if_neg h2, if_neg h2]
      by_cases h3 : s.length < 12 + numAt s 10 2 * 4
      · rw [if_pos h3, if_pos h3, if_pos (by decide)]
      · rw [if_neg h3, if_neg h3, if_neg (show ¬ ((0 : Int) ≠ 0) from fun h => h rfl)]
        rfl
theorem strs9 {w : World} {v : Value} {L : List Str} {lo b : Nat} (h : Strs w v L) (hl : Lies lo v) (hb : b < lo) (v0 v1 v2 v3 v4 v5 v6 v7 v8 : Value) :
    Strs (((((((((w.setCell ⟨b, 0, none⟩ v0).setCell ⟨b, 1, none⟩ v1).setCell ⟨b, 2, none⟩ v2).setCell ⟨b, 3, none⟩ v3).setCell ⟨b, 4, none⟩ v4).setCell ⟨b, 5, none⟩ v5).setCell ⟨b, 6, none⟩ v6).setCell ⟨b, 7, none⟩ v7).setCell ⟨b, 8, none⟩ v8) v L :=
  ((((((((h.far hl (p := ⟨b, 0, none⟩) hb v0).far hl (p := ⟨b, 1, none⟩) hb v1).far hl (p := ⟨b, 2, none⟩) hb v2).far hl (p := ⟨b, 3, none⟩) hb v3).far hl (p := ⟨b, 4, none⟩) hb v4).far hl (p := ⟨b, 5, none⟩) hb v5).far hl (p := ⟨b, 6, none⟩) hb v6).far hl (p := ⟨b, 7, none⟩) hb v7).far hl (p := ⟨b, 8, none⟩) hb v8
theorem ret9 {w : World} {b : Nat} {T : TypeId} {x0 x1 x2 x3 x4 x5 x6 x7 x8 : Value} (h : CBox w b T #[x0, x1, x2, x3, x4, x5, x6, x7, x8]) :
    w.cell? ⟨b, 0, none⟩ = some x0 ∧ w.cell? ⟨b, 1, none⟩ = some x1 ∧ w.cell? ⟨b, 2, none⟩ = some x2 ∧ w.cell? ⟨b, 3, none⟩ = some x3 ∧ w.cell? ⟨b, 4, none⟩ = some x4 ∧ w.cell? ⟨b, 5, none⟩ = some x5 ∧ w.cell? ⟨b, 6, none⟩ = some x6 ∧ w.cell? ⟨b, 7, none⟩ = some x7 ∧ w.cell? ⟨b, 8, none⟩ = some x8 :=
  ⟨(h.at_ 0 _ rfl).1, (h.at_ 1 _ rfl).1, (h.at_ 2 _ rfl).1, (h.at_ 3 _ rfl).1, (h.at_ 4 _ rfl).1, (h.at_ 5 _ rfl).1, (h.at_ 6 _ rfl).1, (h.at_ 7 _ rfl).1, (h.at_ 8 _ rfl).1⟩

set_option maxHeartbeats 4000000 in
theorem asks_any (s : Str) (w : World) (h8 : 8 ≤ s.length) (hs : s.length ≤ 1000000) :
    Calls Try.prog 25 #[.string (bstr s)] w (RetMsg w (pquery s).1 (pquery s).2) := by
  obtain ⟨G, hG⟩ : ∃ G, (s.drop 4).take 4 = G := ⟨_, rfl⟩
  obtain ⟨X, hX⟩ : ∃ X, (s[1]?.getD 0).toNat = X := ⟨_, rfl⟩
  have hXe : ∀ h : 1 < s.length, (s[1]'h).toNat = X := fun h => by rw [← hX, List.getElem?_eq_getElem h]; rfl
  have hX64 : IntKind.i64.wrap (X : Int) = (X : Int) := by rw [← hX]; have := (s[1]?.getD 0).toNat_lt; exact wrap_small _ (by omega)
  have l1 : (1 : Int) < s.length := by omega
  have l1' : 1 < s.length := by omega
  have l8 : (8 : Int) ≤ s.length := by omega
  have b0 : (⟨#[]⟩ : ByteArray) = bstr [] := bstr_nil.symm
  have b4 : (⟨#[0, 0, 0, 0]⟩ : ByteArray) = bstr [0, 0, 0, 0] := by rw [bstr_eq]
  have HL := Lib.hid (And.intro h8 hs)
  have HGX := Lib.hid (And.intro hG hX)
  obtain ⟨rb, hrb⟩ : ∃ rb, w.heap.size = rb := ⟨_, rfl⟩
  obtain ⟨P, hP⟩ : ∃ P, P = pquery s := ⟨_, rfl⟩
  rw [← hP]
  have HP := Lib.hid hP
  have HRB := Lib.hid hrb
  clear hs hX hP hrb
  go_enter Try.func25, Try.ntmps25
  go_upto_region 1 with fail
  rw [HRB.out]
  obtain ⟨W1, hW1⟩ : ∃ W1, w.alloc (.cells mz 27) = W1 := ⟨_, rfl⟩
  have X1 : CBox W1 rb 27 mz := by rw [← hW1]; exact CBox.new _ HRB.out.symm
  have hb1 : Below rb w W1 := by rw [← hW1, ← HRB.out]; exact (Below.refl _ _).alloc (Nat.le_refl _) _
  obtain ⟨mb, hmb⟩ : ∃ mb, W1.heap.size = mb := ⟨_, rfl⟩
  rw [hW1]
  have HX1 := Lib.hid X1; have HB1 := Lib.hid hb1; have HMB := Lib.hid hmb
  have HLT := Lib.hid (show rb < mb from hmb ▸ X1.lt)
  clear X1 hb1 hW1 hmb
  refine wp_region_held_drew (S := fun _ => True) (by kernel_rfl) trivial (fun hHeld => ?_)
  refine takeL 0 (v := ?_) rfl (by kernel_rfl) (by kernel_rfl) (by kernel_rfl) (fun _ _ _ h => h) (Or.inl ⟨by rfl, ?_⟩) (by assumption) ?_
  rotate_left
  focus (intro wq hSq; go_simp <;> with_reducible rfl)
  simp only [Act.put, List.setIfInBounds_toArray, List.set_cons_zero, List.set_cons_succ]
  refine takeL 1 (v := ?_) rfl (by kernel_rfl) (by kernel_rfl) (by kernel_rfl) (fun _ _ _ h => h) (Or.inl ⟨by rfl, ?_⟩) (by assumption) ?_
  rotate_left
  focus (intro wq hSq; go_simp <;> with_reducible rfl)
  simp only [Act.put, List.setIfInBounds_toArray, List.set_cons_zero, List.set_cons_succ]
  refine takeL 2 (v := ?_) rfl (by kernel_rfl) (by kernel_rfl) (by kernel_rfl) (fun _ _ _ h => h) (Or.inl ⟨by rfl, ?_⟩) (by assumption) ?_
  rotate_left
  focus (intro wq hSq; go_simp <;> with_reducible rfl)
  simp only [Act.put, List.setIfInBounds_toArray, List.set_cons_zero, List.set_cons_succ]
  refine takeL 3 (v := ?_) rfl (by kernel_rfl) (by kernel_rfl) (by kernel_rfl) (fun _ _ _ h => h) (Or.inl ⟨by rfl, ?_⟩) (by assumption) ?_
  rotate_left
  focus (intro wq hSq; go_simp <;> with_reducible rfl)
  simp only [Act.put, List.setIfInBounds_toArray, List.set_cons_zero, List.set_cons_succ]
  refine takeL 4 (v := ?_) rfl (by kernel_rfl) (by kernel_rfl) (by kernel_rfl) (fun _ _ _ h => h) (Or.inl ⟨by rfl, ?_⟩) (by assumption) ?_
  rotate_left
  focus (intro wq hSq; go_simp <;> with_reducible rfl)
  simp only [Act.put, List.setIfInBounds_toArray, List.set_cons_zero, List.set_cons_succ]
  refine takeL 5 (v := ?_) rfl (by kernel_rfl) (by kernel_rfl) (by kernel_rfl) (fun _ _ _ h => h) (Or.inl ⟨by rfl, ?_⟩) (by assumption) ?_
  rotate_left
  focus (intro wq hSq; go_simp <;> with_reducible rfl)
  simp only [Act.put, List.setIfInBounds_toArray, List.set_cons_zero, List.set_cons_succ]
  refine wpAnyH_ready (rs := [6]) (by kernel_rfl) (by simp) (nextL 6 rfl (fun Kr hKr => ?_) AllReadyH.nil)
  rw [if_pos (by rfl)]
  go_simp
  obtain ⟨W2, hW2⟩ : ∃ W2, (W1.alloc (.cells mz 27)).drew = W2 := ⟨_, rfl⟩
  have X2 : CBox W2 mb 27 mz := by rw [← hW2]; exact (CBox.new _ HMB.out.symm).draws 1
  have hb2 : Below mb W1 W2 := by rw [← hW2, ← HMB.out]; exact Below.drew ((Below.refl _ _).alloc (Nat.le_refl _) _)
  have HMB2 := HMB.out
  rw [hW2, HMB2]
  refine hKr.out _ _ trivial (fun hHeld2 => ?_)
  clear hKr hHeld hW2 HMB2
  refine wpAnyH_ready (rs := [7]) (by kernel_rfl) (by simp) (nextL 7 rfl (fun Kr hKr => ?_) AllReadyH.nil)
  rw [if_pos (by rfl)]
  obtain ⟨x0, xf0⟩ := CBox.at_ X2 0 _ rfl
  obtain ⟨x1, xf1⟩ := CBox.at_ X2 1 _ rfl
  obtain ⟨x2, xf2⟩ := CBox.at_ X2 2 _ rfl
  obtain ⟨x3, xf3⟩ := CBox.at_ X2 3 _ rfl
  obtain ⟨x4, xf4⟩ := CBox.at_ X2 4 _ rfl
  obtain ⟨x5, xf5⟩ := CBox.at_ X2 5 _ rfl
  obtain ⟨x6, xf6⟩ := CBox.at_ X2 6 _ rfl
  obtain ⟨x7, xf7⟩ := CBox.at_ X2 7 _ rfl
  obtain ⟨x8, xf8⟩ := CBox.at_ X2 8 _ rfl
  go_simp
  refine hKr.out _ _ trivial (fun hHeld3 => ?_)
  clear hKr hHeld2 hHeld3 x0 xf0 x1 xf1 x2 xf2 x3 xf3 x4 xf4 x5 xf5 x6 xf6 x7 xf7 x8 xf8
  refine wpAnyH_done (by kernel_rfl) ?_ _
  have X3 := cells9 X2 (.int .i64 1) (.int .i64 1) (.string (bstr G)) (.int .i64 X) (.bool false) (.int .i64 0) (.int .i64 0) (.slice none 0 0) (.slice none 0 0)
  have hb3 := below9 hb2 (Nat.le_refl _) (.int .i64 1) (.int .i64 1) (.string (bstr G)) (.int .i64 X) (.bool false) (.int .i64 0) (.int .i64 0) (.slice none 0 0) (.slice none 0 0)
  obtain ⟨W3, hW3⟩ : ∃ W3, (((((((((W2.setCell ⟨mb, 0, none⟩ (.int .i64 1)).setCell ⟨mb, 1, none⟩ (.int .i64 1)).setCell ⟨mb, 2, none⟩ (.string (bstr G))).setCell ⟨mb, 3, none⟩ (.int .i64 X)).setCell ⟨mb, 4, none⟩ (.bool false)).setCell ⟨mb, 5, none⟩ (.int .i64 0)).setCell ⟨mb, 6, none⟩ (.int .i64 0)).setCell ⟨mb, 7, none⟩ (.slice none 0 0)).setCell ⟨mb, 8, none⟩ (.slice none 0 0)) = W3 := ⟨_, rfl⟩
  rw [hW3] at X3 hb3 ⊢
  clear hW3 X2 hb2
  have HX3 := Lib.hid X3
  have HB3 := Lib.hid hb3
  clear X3 hb3
  obtain ⟨g', hg'⟩ : ∃ g', g' = if G = nobody4 then [] else G := ⟨_, rfl⟩
  obtain ⟨x2, f2⟩ := HX3.out.at_ 2 _ rfl
  go_upto_if 14 with fail
  obtain ⟨t, ht⟩ : ∃ t, (G == [0, 0, 0, 0]) = t := ⟨_, rfl⟩
  rw [ht]
  go_cut [] (fun w' => CBox w' mb 27 #[.int .i64 1, .int .i64 1, .string (bstr g'), .int .i64 X, .bool false, .int .i64 0, .int .i64 0, .slice none 0 0, .slice none 0 0] ∧ Below mb W1 w')
  case first =>
    cases t
    rotate_left
    · have hgn : G = nobody4 := beq_iff_eq.1 ht
      have HG1 := Lib.hid (show g' = [] from by rw [hg', if_pos hgn])
      clear hgn hg' ht
      go_wp2_with fail
      go_meet
      case rel => rw [HG1.out]; exact ⟨HX3.out.set 2 _, HB3.out.setCell (p := ⟨mb, 2, none⟩) (Nat.le_refl _) _⟩
    · have hgn : ¬ G = nobody4 := beq_eq_false_iff_ne.1 ht
      have HG1 := Lib.hid (show g' = G from by rw [hg', if_neg hgn])
      clear hgn hg' ht
      go_wp2_with fail
      go_meet
      case rel => rw [HG1.out]; exact ⟨HX3.out, HB3.out⟩
  case rest =>
    obtain ⟨hx4, hb4⟩ := hcut
    have HX4 := Lib.hid hx4; have HB4 := Lib.hid hb4
    have HG1 := Lib.hid hg'
    clear hx4 hb4 x2 f2 hg' HX3 HB3 ht
    obtain ⟨x3, f3⟩ := HX4.out.at_ 3 _ rfl
    obtain ⟨x1, f1⟩ := HX4.out.at_ 1 _ rfl
    obtain ⟨ver, hver⟩ : ∃ ver : Int, ver = if X = 0 then 1 else 2 := ⟨_, rfl⟩
    go_upto_if 18 with fail
    obtain ⟨t, ht⟩ : ∃ t, ((X : Int) != 0) = t := ⟨_, rfl⟩
    rw [ht]
    go_cut [] (fun w' => CBox w' mb 27 #[.int .i64 1, .int .i64 ver, .string (bstr g'), .int .i64 X, .bool false, .int .i64 0, .int .i64 0, .slice none 0 0, .slice none 0 0] ∧ Below mb W1 w')
    case first =>
      cases t
      · have hx0 : X = 0 := by have := bne_eq_false_iff_eq.1 ht; omega
        have HV1 := Lib.hid (show ver = 1 from by rw [hver, if_pos hx0])
        clear hx0 hver ht
        go_wp2_with fail
        go_meet
        case rel => rw [HV1.out]; exact ⟨HX4.out, HB4.out⟩
      · have hx0 : ¬ X = 0 := by have := bne_iff_ne.1 ht; omega
        have HV1 := Lib.hid (show ver = 2 from by rw [hver, if_neg hx0])
        clear hx0 hver ht
        go_wp2_with fail
        go_meet
        case rel => rw [HV1.out]; exact ⟨HX4.out.set 1 _, HB4.out.setCell (p := ⟨mb, 1, none⟩) (Nat.le_refl _) _⟩
    case rest =>
      obtain ⟨hx5, hb5⟩ := hcut
      have HX5 := Lib.hid hx5; have HB5 := Lib.hid hb5
      have HVER := Lib.hid hver
      clear hx5 hb5 x3 f3 x1 f1 hver HX4 HB4 ht
      have HGL := Lib.hid (show g'.length ≤ maxLen from by
        rw [HG1.out]
        split
        · exact Nat.zero_le _
        · rw [← HGX.out.1]; exact Nat.le_trans (List.length_take_le _ _) (by decide))
      have HXR := Lib.hid (show CBox wc rb 27 mz from HX1.out.below HB5.out HLT.out)
      have HBR := Lib.hid (show Below rb w wc from HB1.out.trans (HB5.out.mono (Nat.le_of_lt HLT.out)))
      by_cases hl : 8 < s.length
      · have d8 : decide ((8 : Int) < s.length) = true := decide_eq_true (by omega)
        have d8' : decide (8 < s.length) = true := decide_eq_true hl
        have hPq := pquery_long s G g' hl HGX.out.1 HG1.out
        rw [← HP.out] at hPq
        have HLG := Lib.hid (long_any mb s g' ver X wc HX5.out hl HL.out.2)
        unfold RetLong at HLG
        obtain ⟨er, her⟩ : ∃ er, er = longE s := ⟨_, rfl⟩
        rw [← her] at hPq HLG
        have HPQ := Lib.hid hPq
        clear hl hPq her
        by_cases h0 : er = 0
        · subst h0
          have h00 : ((0 : Int) != 0) = false := rfl
          go_upto_region 10 with ((with_reducible refine HLG.out.mono ?_); rintro e w9 ⟨rfl, hgb, hok⟩; have HGB := Lib.hid hgb; have HOK := Lib.hid (hok rfl); clear hgb hok)
          obtain ⟨ao, c, hmx, hst, hli⟩ := HOK.out
          obtain ⟨n, hn⟩ : ∃ n, numAt s 10 2 = n := ⟨_, rfl⟩
          obtain ⟨L, hLd⟩ : ∃ L, srcs s 12 n 4 = L := ⟨_, rfl⟩
          obtain ⟨V, hV⟩ : ∃ V : Int, V = 3 := ⟨_, rfl⟩
          obtain ⟨M, hM⟩ : ∃ M : Int, ((pdecode (s.getD 1 0).toNat 4 : Nat) : Int) = M := ⟨_, rfl⟩
          obtain ⟨q, hq0⟩ : ∃ q, flagQ s = q := ⟨_, rfl⟩
          obtain ⟨r, hr0⟩ : ∃ r : Int, ((flagR s : Nat) : Int) = r := ⟨_, rfl⟩
          obtain ⟨ev, hev⟩ : ∃ ev : Int, ((pdecode (s.getD 9 0).toNat 4 : Nat) : Int) = ev := ⟨_, rfl⟩
          rw [hn] at hmx hst hli
          rw [hLd] at hst
          rw [hM, hq0, hr0, hev, ← hV] at hmx
          have hp9 := HPQ.out
          rw [if_neg (show ¬ ((0 : Int) ≠ 0) from fun h => h rfl), hn, hLd, hM, hq0, hr0, hev] at hp9
          have HP9 := Lib.hid hp9; have HV := Lib.hid hV
          clear hn hLd hV hM hq0 hr0 hev hp9 HOK HPQ
          have HXM := Lib.hid (show CBox w9 mb 27 #[.int .i64 1, .int .i64 V, .string (bstr g'), .int .i64 M, .bool q, .int .i64 r, .int .i64 ev, .slice ao n c, .slice none 0 0] from hmx)
          have HST := Lib.hid hst
          have HLI := Lib.hid (show Lies mb (.slice ao n c) from hli.mono (by have := HX5.out.lt; omega))
          have HXR9 := Lib.hid (CBox.grown HXR.out HGB.out (by have := HLT.out; intro e; injection e with e; omega))
          have HBR9 := Lib.hid (show Below rb w w9 from HBR.out.grown HGB.out (Nat.le_of_lt HXR.out.lt) (fun k hk => by have := HLT.out; injection hk with hk; omega))
          clear hmx hst hli HXR HBR HX5
          have HXR := HXR9
          have HBR := HBR9
          clear HXR9 HBR9
          have HBAD := Lib.hid (show (g' ≠ [] ∧ grp g' 4 = false) ∨ (g' = [] ∧ 0 < n) → P = (3, .zero) from fun h => by rw [HP9.out, if_pos h])
          have HGOOD := Lib.hid (show ¬ ((g' ≠ [] ∧ grp g' 4 = false) ∨ (g' = [] ∧ 0 < n)) → P = (0, ⟨1, V, g', M, q, r, ev, L, []⟩) from fun h => by rw [HP9.out, if_neg h, HV.out])
          clear HP9 HV
          have XM := HXM.out
          obtain ⟨x0, xf0⟩ := CBox.at_ XM 0 _ rfl
          obtain ⟨x1, xf1⟩ := CBox.at_ XM 1 _ rfl
          obtain ⟨x2, xf2⟩ := CBox.at_ XM 2 _ rfl
          obtain ⟨x3, xf3⟩ := CBox.at_ XM 3 _ rfl
          obtain ⟨x4, xf4⟩ := CBox.at_ XM 4 _ rfl
          obtain ⟨x5, xf5⟩ := CBox.at_ XM 5 _ rfl
          obtain ⟨x6, xf6⟩ := CBox.at_ XM 6 _ rfl
          obtain ⟨x7, xf7⟩ := CBox.at_ XM 7 _ rfl
          obtain ⟨x8, xf8⟩ := CBox.at_ XM 8 _ rfl
          have XR := HXR.out
          obtain ⟨y0, yf0⟩ := CBox.at_ XR 0 _ rfl
          obtain ⟨y1, yf1⟩ := CBox.at_ XR 1 _ rfl
          obtain ⟨y2, yf2⟩ := CBox.at_ XR 2 _ rfl
          obtain ⟨y3, yf3⟩ := CBox.at_ XR 3 _ rfl
          obtain ⟨y4, yf4⟩ := CBox.at_ XR 4 _ rfl
          obtain ⟨y5, yf5⟩ := CBox.at_ XR 5 _ rfl
          obtain ⟨y6, yf6⟩ := CBox.at_ XR 6 _ rfl
          obtain ⟨y7, yf7⟩ := CBox.at_ XR 7 _ rfl
          obtain ⟨y8, yf8⟩ := CBox.at_ XR 8 _ rfl
          clear XM XR
          by_cases hg0 : g' = []
          · by_cases hn : 0 < n
            · have dn : decide ((0 : Int) < n) = true := decide_eq_true (by omega)
              have dn' : decide (0 < n) = true := decide_eq_true hn
              have HPE := Lib.hid (HBAD.out (.inr ⟨hg0, hn⟩))
              subst hg0
              clear hn
              go_wp2_with fail
              obtain ⟨r0, r1, r2, r3, r4, r5, r6, r7, r8⟩ := ret9 (cells9 HXR.out (.int .i64 0) (.int .i64 0) (.string (bstr [])) (.int .i64 0) (.bool false) (.int .i64 0) (.int .i64 0) (.slice none 0 0) (.slice none 0 0))
              refine bodyPost_ret (v := .tuple #[.agg #[.int .i64 0, .int .i64 0, .string (bstr []), .int .i64 0, .bool false, .int .i64 0, .int .i64 0, .slice none 0 0, .slice none 0 0], .int .i64 3]) (by simp [results, Try.results25, go_sem, r0, r1, r2, r3, r4, r5, r6, r7, r8]) rfl ?_
              rw [HPE.out]
              exact retMsg_bad w _ 3 (HRB.out ▸ below9 HBR.out (Nat.le_refl _) _ _ _ _ _ _ _ _ _)
            · have dn : decide ((0 : Int) < n) = false := decide_eq_false (by omega)
              have dn' : decide (0 < n) = false := decide_eq_false hn
              have HPE := Lib.hid (HGOOD.out (fun h => by rcases h with h | h; exact h.1 hg0; exact hn h.2))
              subst hg0
              clear hn
              go_wp2_with fail
              obtain ⟨r0, r1, r2, r3, r4, r5, r6, r7, r8⟩ := ret9 (cells9 HXR.out (.int .i64 1) (.int .i64 V) (.string (bstr [])) (.int .i64 M) (.bool q) (.int .i64 r) (.int .i64 ev) (.slice ao n c) (.slice none 0 0))
              refine bodyPost_ret (v := .tuple #[.agg #[.int .i64 1, .int .i64 V, .string (bstr []), .int .i64 M, .bool q, .int .i64 r, .int .i64 ev, .slice ao n c, .slice none 0 0], .int .i64 0]) (by simp [results, Try.results25, go_sem, r0, r1, r2, r3, r4, r5, r6, r7, r8]) rfl ?_
              rw [HPE.out]
              exact ⟨.slice ao n c, .slice none 0 0, rfl, strs9 HST.out HLI.out HLT.out _ _ _ _ _ _ _ _ _, HLI.out.mono (by rw [HRB.out]; exact Nat.le_of_lt HLT.out), Row.nil _ _, HRB.out ▸ below9 HBR.out (Nat.le_refl _) _ _ _ _ _ _ _ _ _⟩
          · have e1 : (g' == []) = false := beq_eq_false_iff_ne.2 hg0
            have e2 : (g' != []) = true := bne_iff_ne.2 hg0
            have HGR := Lib.hid (fun W => isGroup4 g' W HGL.out)
            cases hq : grp g' 4
            · rw [hq] at HGR
              have HPE := Lib.hid (HBAD.out (.inl ⟨hg0, hq⟩))
              clear hg0 hq
              go_wp2_with ((with_reducible refine (HGR.out _).mono ?_); rintro e w7 ⟨rfl, hb7⟩; clear x0 xf0 x1 xf1 x2 xf2 x3 xf3 x4 xf4 x5 xf5 x6 xf6 x7 xf7 x8 xf8 y0 yf0 y1 yf1 y2 yf2 y3 yf3 y4 yf4 y5 yf5 y6 yf6 y7 yf7 y8 yf8; have HXR7 := Lib.hid (HXR.out.below hb7 HXR.out.lt); have HBR7 := Lib.hid (HBR.out.trans (hb7.mono (Nat.le_of_lt HXR.out.lt))); obtain ⟨y0, yf0⟩ := CBox.at_ HXR7.out 0 _ rfl; obtain ⟨y1, yf1⟩ := CBox.at_ HXR7.out 1 _ rfl; obtain ⟨y2, yf2⟩ := CBox.at_ HXR7.out 2 _ rfl; obtain ⟨y3, yf3⟩ := CBox.at_ HXR7.out 3 _ rfl; obtain ⟨y4, yf4⟩ := CBox.at_ HXR7.out 4 _ rfl; obtain ⟨y5, yf5⟩ := CBox.at_ HXR7.out 5 _ rfl; obtain ⟨y6, yf6⟩ := CBox.at_ HXR7.out 6 _ rfl; obtain ⟨y7, yf7⟩ := CBox.at_ HXR7.out 7 _ rfl; obtain ⟨y8, yf8⟩ := CBox.at_ HXR7.out 8 _ rfl; clear hb7)
              obtain ⟨r0, r1, r2, r3, r4, r5, r6, r7, r8⟩ := ret9 (cells9 HXR7.out (.int .i64 0) (.int .i64 0) (.string (bstr [])) (.int .i64 0) (.bool false) (.int .i64 0) (.int .i64 0) (.slice none 0 0) (.slice none 0 0))
              refine bodyPost_ret (v := .tuple #[.agg #[.int .i64 0, .int .i64 0, .string (bstr []), .int .i64 0, .bool false, .int .i64 0, .int .i64 0, .slice none 0 0, .slice none 0 0], .int .i64 3]) (by simp [results, Try.results25, go_sem, r0, r1, r2, r3, r4, r5, r6, r7, r8]) rfl ?_
              rw [HPE.out]
              exact retMsg_bad w _ 3 (HRB.out ▸ below9 HBR7.out (Nat.le_refl _) _ _ _ _ _ _ _ _ _)
            · rw [hq] at HGR
              have HPE := Lib.hid (HGOOD.out (fun h => by rcases h with h | h; rw [hq] at h; cases h.2; exact hg0 h.1))
              clear hg0 hq
              go_wp2_with ((with_reducible refine (HGR.out _).mono ?_); rintro e w7 ⟨rfl, hb7⟩; clear x0 xf0 x1 xf1 x2 xf2 x3 xf3 x4 xf4 x5 xf5 x6 xf6 x7 xf7 x8 xf8 y0 yf0 y1 yf1 y2 yf2 y3 yf3 y4 yf4 y5 yf5 y6 yf6 y7 yf7 y8 yf8; have HXM7 := Lib.hid (HXM.out.below hb7 HXM.out.lt); have HXR7 := Lib.hid (HXR.out.below hb7 HXR.out.lt); have HBR7 := Lib.hid (HBR.out.trans (hb7.mono (Nat.le_of_lt HXR.out.lt))); have HST7 := Lib.hid (HST.out.mono hb7); obtain ⟨x0, xf0⟩ := CBox.at_ HXM7.out 0 _ rfl; obtain ⟨x1, xf1⟩ := CBox.at_ HXM7.out 1 _ rfl; obtain ⟨x2, xf2⟩ := CBox.at_ HXM7.out 2 _ rfl; obtain ⟨x3, xf3⟩ := CBox.at_ HXM7.out 3 _ rfl; obtain ⟨x4, xf4⟩ := CBox.at_ HXM7.out 4 _ rfl; obtain ⟨x5, xf5⟩ := CBox.at_ HXM7.out 5 _ rfl; obtain ⟨x6, xf6⟩ := CBox.at_ HXM7.out 6 _ rfl; obtain ⟨x7, xf7⟩ := CBox.at_ HXM7.out 7 _ rfl; obtain ⟨x8, xf8⟩ := CBox.at_ HXM7.out 8 _ rfl; obtain ⟨y0, yf0⟩ := CBox.at_ HXR7.out 0 _ rfl; obtain ⟨y1, yf1⟩ := CBox.at_ HXR7.out 1 _ rfl; obtain ⟨y2, yf2⟩ := CBox.at_ HXR7.out 2 _ rfl; obtain ⟨y3, yf3⟩ := CBox.at_ HXR7.out 3 _ rfl; obtain ⟨y4, yf4⟩ := CBox.at_ HXR7.out 4 _ rfl; obtain ⟨y5, yf5⟩ := CBox.at_ HXR7.out 5 _ rfl; obtain ⟨y6, yf6⟩ := CBox.at_ HXR7.out 6 _ rfl; obtain ⟨y7, yf7⟩ := CBox.at_ HXR7.out 7 _ rfl; obtain ⟨y8, yf8⟩ := CBox.at_ HXR7.out 8 _ rfl; clear hb7)
              obtain ⟨r0, r1, r2, r3, r4, r5, r6, r7, r8⟩ := ret9 (cells9 HXR7.out (.int .i64 1) (.int .i64 V) (.string (bstr g')) (.int .i64 M) (.bool q) (.int .i64 r) (.int .i64 ev) (.slice ao n c) (.slice none 0 0))
              refine bodyPost_ret (v := .tuple #[.agg #[.int .i64 1, .int .i64 V, .string (bstr g'), .int .i64 M, .bool q, .int .i64 r, .int .i64 ev, .slice ao n c, .slice none 0 0], .int .i64 0]) (by simp [results, Try.results25, go_sem, r0, r1, r2, r3, r4, r5, r6, r7, r8]) rfl ?_
              rw [HPE.out]
              exact ⟨.slice ao n c, .slice none 0 0, rfl, strs9 HST7.out HLI.out HLT.out _ _ _ _ _ _ _ _ _, HLI.out.mono (by rw [HRB.out]; exact Nat.le_of_lt HLT.out), Row.nil _ _, HRB.out ▸ below9 HBR7.out (Nat.le_refl _) _ _ _ _ _ _ _ _ _⟩
        · have h00 : (er != 0) = true := bne_iff_ne.2 h0
          have HPE := Lib.hid (show P = (er, .zero) from by rw [HPQ.out, if_pos h0])
          clear h0 HPQ
          go_wp2_with ((with_reducible refine HLG.out.mono ?_); rintro e w9 ⟨rfl, hgb, _⟩; have HXR9 := Lib.hid (CBox.grown HXR.out hgb (by have := HLT.out; intro e; injection e with e; omega)); have HBR9 := Lib.hid (show Below rb w w9 from HBR.out.grown hgb (Nat.le_of_lt HXR.out.lt) (fun k hk => by have := HLT.out; injection hk with hk; omega)); obtain ⟨y0, yf0⟩ := CBox.at_ HXR9.out 0 _ rfl; obtain ⟨y1, yf1⟩ := CBox.at_ HXR9.out 1 _ rfl; obtain ⟨y2, yf2⟩ := CBox.at_ HXR9.out 2 _ rfl; obtain ⟨y3, yf3⟩ := CBox.at_ HXR9.out 3 _ rfl; obtain ⟨y4, yf4⟩ := CBox.at_ HXR9.out 4 _ rfl; obtain ⟨y5, yf5⟩ := CBox.at_ HXR9.out 5 _ rfl; obtain ⟨y6, yf6⟩ := CBox.at_ HXR9.out 6 _ rfl; obtain ⟨y7, yf7⟩ := CBox.at_ HXR9.out 7 _ rfl; obtain ⟨y8, yf8⟩ := CBox.at_ HXR9.out 8 _ rfl; clear hgb)
          obtain ⟨r0, r1, r2, r3, r4, r5, r6, r7, r8⟩ := ret9 (cells9 HXR9.out (.int .i64 0) (.int .i64 0) (.string (bstr [])) (.int .i64 0) (.bool false) (.int .i64 0) (.int .i64 0) (.slice none 0 0) (.slice none 0 0))
          refine bodyPost_ret (v := .tuple #[.agg #[.int .i64 0, .int .i64 0, .string (bstr []), .int .i64 0, .bool false, .int .i64 0, .int .i64 0, .slice none 0 0, .slice none 0 0], .int .i64 er]) (by simp [results, Try.results25, go_sem, r0, r1, r2, r3, r4, r5, r6, r7, r8]) rfl ?_
          rw [HPE.out]
          exact retMsg_bad w _ er (HRB.out ▸ below9 HBR9.out (Nat.le_refl _) _ _ _ _ _ _ _ _ _)
      · have d8 : decide ((8 : Int) < s.length) = false := decide_eq_false (by omega)
        have d8' : decide (8 < s.length) = false := decide_eq_false hl
        have hPq := pquery_short s G g' X hl HGX.out.1 HG1.out HGX.out.2
        rw [← HP.out, ← HVER.out] at hPq
        have HPQ := Lib.hid hPq
        clear hl hPq
        obtain ⟨n, hn0⟩ : ∃ n : Nat, n = 0 := ⟨_, rfl⟩
        obtain ⟨ao, hao⟩ : ∃ ao : Option Addr, ao = none := ⟨_, rfl⟩
        obtain ⟨c, hc0⟩ : ∃ c : Nat, c = 0 := ⟨_, rfl⟩
        obtain ⟨L, hL0⟩ : ∃ L : List Str, L = [] := ⟨_, rfl⟩
        obtain ⟨V, hV⟩ : ∃ V, V = ver := ⟨_, rfl⟩
        obtain ⟨M, hM⟩ : ∃ M : Int, M = X := ⟨_, rfl⟩
        obtain ⟨q, hq0⟩ : ∃ q : Bool, q = false := ⟨_, rfl⟩
        obtain ⟨r, hr0⟩ : ∃ r : Int, r = 0 := ⟨_, rfl⟩
        obtain ⟨ev, hev⟩ : ∃ ev : Int, ev = 0 := ⟨_, rfl⟩
        have HXM := Lib.hid (show CBox wc mb 27 #[.int .i64 1, .int .i64 V, .string (bstr g'), .int .i64 M, .bool q, .int .i64 r, .int .i64 ev, .slice ao n c, .slice none 0 0] from by rw [hV, hM, hq0, hr0, hev, hao, hn0, hc0]; exact HX5.out)
        have HBAD := Lib.hid (show (g' ≠ [] ∧ grp g' 4 = false) ∨ (g' = [] ∧ 0 < n) → P = (3, .zero) from fun h => by
          rw [HPQ.out, if_pos]
          rcases h with h | h
          · exact h
          · omega)
        have HGOOD := Lib.hid (show ¬ ((g' ≠ [] ∧ grp g' 4 = false) ∨ (g' = [] ∧ 0 < n)) → P = (0, ⟨1, V, g', M, q, r, ev, L, []⟩) from fun h => by
          rw [HPQ.out, if_neg (fun h' => h (.inl h')), hV, hM, hq0, hr0, hev, hL0])
        have HST := Lib.hid (show Strs wc (.slice ao n c) L from by rw [hao, hn0, hc0, hL0]; exact Strs.nil _)
        have HLI := Lib.hid (show Lies mb (.slice ao n c) from fun j hj => by rw [hao] at hj; simp [Value.ownBlock] at hj)
        clear hn0 hao hc0 hL0 hV hM hq0 hr0 hev HX5
        have XM := HXM.out
        obtain ⟨x0, xf0⟩ := CBox.at_ XM 0 _ rfl
        obtain ⟨x1, xf1⟩ := CBox.at_ XM 1 _ rfl
        obtain ⟨x2, xf2⟩ := CBox.at_ XM 2 _ rfl
        obtain ⟨x3, xf3⟩ := CBox.at_ XM 3 _ rfl
        obtain ⟨x4, xf4⟩ := CBox.at_ XM 4 _ rfl
        obtain ⟨x5, xf5⟩ := CBox.at_ XM 5 _ rfl
        obtain ⟨x6, xf6⟩ := CBox.at_ XM 6 _ rfl
        obtain ⟨x7, xf7⟩ := CBox.at_ XM 7 _ rfl
        obtain ⟨x8, xf8⟩ := CBox.at_ XM 8 _ rfl
        have XR := HXR.out
        obtain ⟨y0, yf0⟩ := CBox.at_ XR 0 _ rfl
        obtain ⟨y1, yf1⟩ := CBox.at_ XR 1 _ rfl
        obtain ⟨y2, yf2⟩ := CBox.at_ XR 2 _ rfl
        obtain ⟨y3, yf3⟩ := CBox.at_ XR 3 _ rfl
        obtain ⟨y4, yf4⟩ := CBox.at_ XR 4 _ rfl
        obtain ⟨y5, yf5⟩ := CBox.at_ XR 5 _ rfl
        obtain ⟨y6, yf6⟩ := CBox.at_ XR 6 _ rfl
        obtain ⟨y7, yf7⟩ := CBox.at_ XR 7 _ rfl
        obtain ⟨y8, yf8⟩ := CBox.at_ XR 8 _ rfl
        clear XM XR
        by_cases hg0 : g' = []
        · by_cases hn : 0 < n
          · have dn : decide ((0 : Int) < n) = true := decide_eq_true (by omega)
            have dn' : decide (0 < n) = true := decide_eq_true hn
            have HPE := Lib.hid (HBAD.out (.inr ⟨hg0, hn⟩))
            subst hg0
            clear hn
            go_wp2_with fail
            obtain ⟨r0, r1, r2, r3, r4, r5, r6, r7, r8⟩ := ret9 (cells9 HXR.out (.int .i64 0) (.int .i64 0) (.string (bstr [])) (.int .i64 0) (.bool false) (.int .i64 0) (.int .i64 0) (.slice none 0 0) (.slice none 0 0))
            refine bodyPost_ret (v := .tuple #[.agg #[.int .i64 0, .int .i64 0, .string (bstr []), .int .i64 0, .bool false, .int .i64 0, .int .i64 0, .slice none 0 0, .slice none 0 0], .int .i64 3]) (by simp [results, Try.results25, go_sem, r0, r1, r2, r3, r4, r5, r6, r7, r8]) rfl ?_
            rw [HPE.out]
            exact retMsg_bad w _ 3 (HRB.out ▸ below9 HBR.out (Nat.le_refl _) _ _ _ _ _ _ _ _ _)
          · have dn : decide ((0 : Int) < n) = false := decide_eq_false (by omega)
            have dn' : decide (0 < n) = false := decide_eq_false hn
            have HPE := Lib.hid (HGOOD.out (fun h => by rcases h with h | h; exact h.1 hg0; exact hn h.2))
            subst hg0
            clear hn
            go_wp2_with fail
            obtain ⟨r0, r1, r2, r3, r4, r5, r6, r7, r8⟩ := ret9 (cells9 HXR.out (.int .i64 1) (.int .i64 V) (.string (bstr [])) (.int .i64 M) (.bool q) (.int .i64 r) (.int .i64 ev) (.slice ao n c) (.slice none 0 0))
            refine bodyPost_ret (v := .tuple #[.agg #[.int .i64 1, .int .i64 V, .string (bstr []), .int .i64 M, .bool q, .int .i64 r, .int .i64 ev, .slice ao n c, .slice none 0 0], .int .i64 0]) (by simp [results, Try.results25, go_sem, r0, r1, r2, r3, r4, r5, r6, r7, r8]) rfl ?_
            rw [HPE.out]
            exact ⟨.slice ao n c, .slice none 0 0, rfl, strs9 HST.out HLI.out HLT.out _ _ _ _ _ _ _ _ _, HLI.out.mono (by rw [HRB.out]; exact Nat.le_of_lt HLT.out), Row.nil _ _, HRB.out ▸ below9 HBR.out (Nat.le_refl _) _ _ _ _ _ _ _ _ _⟩
        · have e1 : (g' == []) = false := beq_eq_false_iff_ne.2 hg0
          have e2 : (g' != []) = true := bne_iff_ne.2 hg0
          have HGR := Lib.hid (fun W => isGroup4 g' W HGL.out)
          cases hq : grp g' 4
          · rw [hq] at HGR
            have HPE := Lib.hid (HBAD.out (.inl ⟨hg0, hq⟩))
            clear hg0 hq
            go_wp2_with ((with_reducible refine (HGR.out _).mono ?_); rintro e w7 ⟨rfl, hb7⟩; clear x0 xf0 x1 xf1 x2 xf2 x3 xf3 x4 xf4 x5 xf5 x6 xf6 x7 xf7 x8 xf8 y0 yf0 y1 yf1 y2 yf2 y3 yf3 y4 yf4 y5 yf5 y6 yf6 y7 yf7 y8 yf8; have HXR7 := Lib.hid (HXR.out.below hb7 HXR.out.lt); have HBR7 := Lib.hid (HBR.out.trans (hb7.mono (Nat.le_of_lt HXR.out.lt))); obtain ⟨y0, yf0⟩ := CBox.at_ HXR7.out 0 _ rfl; obtain ⟨y1, yf1⟩ := CBox.at_ HXR7.out 1 _ rfl; obtain ⟨y2, yf2⟩ := CBox.at_ HXR7.out 2 _ rfl; obtain ⟨y3, yf3⟩ := CBox.at_ HXR7.out 3 _ rfl; obtain ⟨y4, yf4⟩ := CBox.at_ HXR7.out 4 _ rfl; obtain ⟨y5, yf5⟩ := CBox.at_ HXR7.out 5 _ rfl; obtain ⟨y6, yf6⟩ := CBox.at_ HXR7.out 6 _ rfl; obtain ⟨y7, yf7⟩ := CBox.at_ HXR7.out 7 _ rfl; obtain ⟨y8, yf8⟩ := CBox.at_ HXR7.out 8 _ rfl; clear hb7)
            obtain ⟨r0, r1, r2, r3, r4, r5, r6, r7, r8⟩ := ret9 (cells9 HXR7.out (.int .i64 0) (.int .i64 0) (.string (bstr [])) (.int .i64 0) (.bool false) (.int .i64 0) (.int .i64 0) (.slice none 0 0) (.slice none 0 0))
            refine bodyPost_ret (v := .tuple #[.agg #[.int .i64 0, .int .i64 0, .string (bstr []), .int .i64 0, .bool false, .int .i64 0, .int .i64 0, .slice none 0 0, .slice none 0 0], .int .i64 3]) (by simp [results, Try.results25, go_sem, r0, r1, r2, r3, r4, r5, r6, r7, r8]) rfl ?_
            rw [HPE.out]
            exact retMsg_bad w _ 3 (HRB.out ▸ below9 HBR7.out (Nat.le_refl _) _ _ _ _ _ _ _ _ _)
          · rw [hq] at HGR
            have HPE := Lib.hid (HGOOD.out (fun h => by rcases h with h | h; rw [hq] at h; cases h.2; exact hg0 h.1))
            clear hg0 hq
            go_wp2_with ((with_reducible refine (HGR.out _).mono ?_); rintro e w7 ⟨rfl, hb7⟩; clear x0 xf0 x1 xf1 x2 xf2 x3 xf3 x4 xf4 x5 xf5 x6 xf6 x7 xf7 x8 xf8 y0 yf0 y1 yf1 y2 yf2 y3 yf3 y4 yf4 y5 yf5 y6 yf6 y7 yf7 y8 yf8; have HXM7 := Lib.hid (HXM.out.below hb7 HXM.out.lt); have HXR7 := Lib.hid (HXR.out.below hb7 HXR.out.lt); have HBR7 := Lib.hid (HBR.out.trans (hb7.mono (Nat.le_of_lt HXR.out.lt))); have HST7 := Lib.hid (HST.out.mono hb7); obtain ⟨x0, xf0⟩ := CBox.at_ HXM7.out 0 _ rfl; obtain ⟨x1, xf1⟩ := CBox.at_ HXM7.out 1 _ rfl; obtain ⟨x2, xf2⟩ := CBox.at_ HXM7.out 2 _ rfl; obtain ⟨x3, xf3⟩ := CBox.at_ HXM7.out 3 _ rfl; obtain ⟨x4, xf4⟩ := CBox.at_ HXM7.out 4 _ rfl; obtain ⟨x5, xf5⟩ := CBox.at_ HXM7.out 5 _ rfl; obtain ⟨x6, xf6⟩ := CBox.at_ HXM7.out 6 _ rfl; obtain ⟨x7, xf7⟩ := CBox.at_ HXM7.out 7 _ rfl; obtain ⟨x8, xf8⟩ := CBox.at_ HXM7.out 8 _ rfl; obtain ⟨y0, yf0⟩ := CBox.at_ HXR7.out 0 _ rfl; obtain ⟨y1, yf1⟩ := CBox.at_ HXR7.out 1 _ rfl; obtain ⟨y2, yf2⟩ := CBox.at_ HXR7.out 2 _ rfl; obtain ⟨y3, yf3⟩ := CBox.at_ HXR7.out 3 _ rfl; obtain ⟨y4, yf4⟩ := CBox.at_ HXR7.out 4 _ rfl; obtain ⟨y5, yf5⟩ := CBox.at_ HXR7.out 5 _ rfl; obtain ⟨y6, yf6⟩ := CBox.at_ HXR7.out 6 _ rfl; obtain ⟨y7, yf7⟩ := CBox.at_ HXR7.out 7 _ rfl; obtain ⟨y8, yf8⟩ := CBox.at_ HXR7.out 8 _ rfl; clear hb7)
            obtain ⟨r0, r1, r2, r3, r4, r5, r6, r7, r8⟩ := ret9 (cells9 HXR7.out (.int .i64 1) (.int .i64 V) (.string (bstr g')) (.int .i64 M) (.bool q) (.int .i64 r) (.int .i64 ev) (.slice ao n c) (.slice none 0 0))
            refine bodyPost_ret (v := .tuple #[.agg #[.int .i64 1, .int .i64 V, .string (bstr g'), .int .i64 M, .bool q, .int .i64 r, .int .i64 ev, .slice ao n c, .slice none 0 0], .int .i64 0]) (by simp [results, Try.results25, go_sem, r0, r1, r2, r3, r4, r5, r6, r7, r8]) rfl ?_
            rw [HPE.out]
            exact ⟨.slice ao n c, .slice none 0 0, rfl, strs9 HST7.out HLI.out HLT.out _ _ _ _ _ _ _ _ _, HLI.out.mono (by rw [HRB.out]; exact Nat.le_of_lt HLT.out), Row.nil _ _, HRB.out ▸ below9 HBR7.out (Nat.le_refl _) _ _ _ _ _ _ _ _ _⟩
end Go.Proofs.Ythkogdgfkhhleaa
