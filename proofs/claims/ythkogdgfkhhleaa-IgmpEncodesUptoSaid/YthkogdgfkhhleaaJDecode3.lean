/- siphonref08.query, siphonref08.Decode. -/
import Derived.Test.YthkogdgfkhhleaaJDecode2
import Derived.Test.YthkogdgfkhhleaaJRecs2
namespace Go.Proofs.Ythkogdgfkhhleaa
open Go.RowKit Go.Sort
set_option maxRecDepth 20000
set_option maxRecDepth 20000
attribute [local go_sem] bstr_size bstr_extract bstr_toList bstr_get

theorem rgroup4 (g : Str) (w : World) (hg : g.length ≤ maxLen) : Calls Try.prog 31 #[.string (bstr g), .int .i64 4] w fun e w' => e = .returned (.bool (grp g 4)) ∧ w = w' := rgroup_any g 4 w hg

theorem rdec8_1 (s : Str) (A : Nat) (w : World) (h : (s[1]?.getD 0).toNat = A) : Calls Try.prog 55 #[.int .i64 A] w fun e w' => e = .returned (.tuple #[.int .i64 (pdecode A 4 : Nat), .int .i64 0]) ∧ w = w' :=
  rdec8_any A w (by rw [← h]; exact (s[1]?.getD 0).toNat_lt)
theorem rdec8_9 (s : Str) (A : Nat) (w : World) (h : (s[9]?.getD 0).toNat = A) : Calls Try.prog 55 #[.int .i64 A] w fun e w' => e = .returned (.tuple #[.int .i64 (pdecode A 4 : Nat), .int .i64 0]) ∧ w = w' :=
  rdec8_any A w (by rw [← h]; exact (s[9]?.getD 0).toNat_lt)
theorem rnumB_any (s : Str) (N : Nat) (w : World) (hl : 12 ≤ s.length) (hm : s.length ≤ maxLen) (hN : numAt s 10 2 = N) :
    Calls Try.prog 30 #[.string (bstr s), .int .i64 10, .int .i64 2] w fun e w' => e = .returned (.int .i64 N) ∧ w = w' := by
  have h := rat_any1 s 10 2 w hm (by decide) (by decide) (by decide)
  unfold getV at h
  rw [if_pos (by omega), hN] at h
  exact h
theorem rsrc12 (s : Str) (N : Nat) (w : World) (hs : s.length ≤ 1000000) (h12 : 12 ≤ s.length) (hn : N ≤ 65535) :
    Calls Try.prog 42 #[.string (bstr s), .int .i64 12, .int .i64 N, .int .i64 4] w fun e w' => ∃ v, e = .returned (.tuple #[v, .bool (decide (12 + N * 4 ≤ s.length))]) ∧ Strs w' v (if 12 + N * 4 ≤ s.length then srcs s 12 N 4 else []) ∧ Lies w.heap.size v ∧ Below w.heap.size w w' :=
  sources_any s 12 N 4 w hs h12 hn (by decide)
theorem byte_q8 (B : Nat) : ((B : Int) / 8 % 2 == 1) = decide (B / 8 % 2 = 1) := by
  by_cases h : B / 8 % 2 = 1
  · rw [decide_eq_true h, beq_iff_eq]; omega
  · rw [decide_eq_false h, beq_eq_false_iff_ne]; omega
set_option maxHeartbeats 4000000 in
theorem query_any (s : Str) (w : World) (h8 : 8 ≤ s.length) (hs : s.length ≤ 1000000) :
    Calls Try.prog 29 #[.string (bstr s)] w (RetMsg w (pquery s).1 (pquery s).2) := by
  obtain ⟨G, hG⟩ : ∃ G, (s.drop 4).take 4 = G := ⟨_, rfl⟩
  obtain ⟨X, hX⟩ : ∃ X, (s[1]?.getD 0).toNat = X := ⟨_, rfl⟩
  have hXe : ∀ h : 1 < s.length, (s[1]'h).toNat = X := fun h => by rw [← hX, List.getElem?_eq_getElem h]; rfl
  have hX64 : IntKind.i64.wrap (X : Int) = (X : Int) := by rw [← hX]; have := (s[1]?.getD 0).toNat_lt; exact wrap_small _ (by omega)
  have l1 : (1 : Int) < s.length := by omega
  have l1' : 1 < s.length := by omega
  have l8 : (8 : Int) ≤ s.length := by omega
  have b0 : (⟨#[]⟩ : ByteArray) = bstr [] := bstr_nil.symm
  have b4 : (⟨#[0, 0, 0, 0]⟩ : ByteArray) = bstr [0, 0, 0, 0] := by rw [bstr_eq]
  have HL := Lib.hid (And.intro h8 hs)
  have HGX := Lib.hid (And.intro hG hX)
  obtain ⟨rb, hrb⟩ : ∃ rb, w.heap.size = rb := ⟨_, rfl⟩
  obtain ⟨P, hP⟩ : ∃ P, P = pquery s := ⟨_, rfl⟩
  rw [← hP]
  have HP := Lib.hid hP
  have HRB := Lib.hid hrb
  clear hs hX hP hrb
  go_enter Try.func29, Try.ntmps29
  go_upto_region 1 with fail
  rw [HRB.out]
  obtain ⟨W1, hW1⟩ : ∃ W1, w.alloc (.cells mz 27) = W1 := ⟨_, rfl⟩
  have X1 : CBox W1 rb 27 mz := by rw [← hW1]; exact CBox.new _ HRB.out.symm
  have hb1 : Below rb w W1 := by rw [← hW1, ← HRB.out]; exact (Below.refl _ _).alloc (Nat.le_refl _) _
  obtain ⟨mb, hmb⟩ : ∃ mb, W1.heap.size = mb := ⟨_, rfl⟩
  rw [hW1]
  have HX1 := Lib.hid X1; have HB1 := Lib.hid hb1; have HMB := Lib.hid hmb
  have HLT := Lib.hid (show rb < mb from hmb ▸ X1.lt)
  clear X1 hb1 hW1 hmb
  refine wp_region_held_drew (S := fun _ => True) (by kernel_rfl) trivial (fun hHeld => ?_)
  refine takeL 0 (v := ?_) rfl (by kernel_rfl) (by kernel_rfl) (by kernel_rfl) (fun _ _ _ h => h) (Or.inl ⟨by rfl, ?_⟩) (by assumption) ?_
  rotate_left
  focus (intro wq hSq; go_simp <;> with_reducible rfl)
  simp only [Act.put, List.setIfInBounds_toArray, List.set_cons_zero, List.set_cons_succ]
  refine takeL 1 (v := ?_) rfl (by kernel_rfl) (by kernel_rfl) (by kernel_rfl) (fun _ _ _ h => h) (Or.inl ⟨by rfl, ?_⟩) (by assumption) ?_
  rotate_left
  focus (intro wq hSq; go_simp <;> with_reducible rfl)
  simp only [Act.put, List.setIfInBounds_toArray, List.set_cons_zero, List.set_cons_succ]
  refine takeL 2 (v := ?_) rfl (by kernel_rfl) (by kernel_rfl) (by kernel_rfl) (fun _ _ _ h => h) (Or.inl ⟨by rfl, ?_⟩) (by assumption) ?_
  rotate_left
  focus (intro wq hSq; go_simp <;> with_reducible rfl)
  simp only [Act.put, List.setIfInBounds_toArray, List.set_cons_zero, List.set_cons_succ]
  refine takeL 3 (v := ?_) rfl (by kernel_rfl) (by kernel_rfl) (by kernel_rfl) (fun _ _ _ h => h) (Or.inl ⟨by rfl, ?_⟩) (by assumption) ?_
  rotate_left
  focus (intro wq hSq; go_simp <;> with_reducible rfl)
  simp only [Act.put, List.setIfInBounds_toArray, List.set_cons_zero, List.set_cons_succ]
  refine takeL 4 (v := ?_) rfl (by kernel_rfl) (by kernel_rfl) (by kernel_rfl) (fun _ _ _ h => h) (Or.inl ⟨by rfl, ?_⟩) (by assumption) ?_
  rotate_left
  focus (intro wq hSq; go_simp <;> with_reducible rfl)
  simp only [Act.put, List.setIfInBounds_toArray, List.set_cons_zero, List.set_cons_succ]
  refine takeL 5 (v := ?_) rfl (by kernel_rfl) (by kernel_rfl) (by kernel_rfl) (fun _ _ _ h => h) (Or.inl ⟨by rfl, ?_⟩) (by assumption) ?_
  rotate_left
  focus (intro wq hSq; go_simp <;> with_reducible rfl)
  simp only [Act.put, List.setIfInBounds_toArray, List.set_cons_zero, List.set_cons_succ]
  refine wpAnyH_ready (rs := [6]) (by kernel_rfl) (by simp) (nextL 6 rfl (fun Kr hKr => ?_) AllReadyH.nil)
  rw [if_pos (by rfl)]
  go_simp
  obtain ⟨W2, hW2⟩ : ∃ W2, (W1.alloc (.cells mz 27)).drew = W2 := ⟨_, rfl⟩
  have X2 : CBox W2 mb 27 mz := by rw [← hW2]; exact (CBox.new _ HMB.out.symm).draws 1
  have hb2 : Below mb W1 W2 := by rw [← hW2, ← HMB.out]; exact Below.drew ((Below.refl _ _).alloc (Nat.le_refl _) _)
  have HMB2 := HMB.out
  rw [hW2, HMB2]
  refine hKr.out _ _ trivial (fun hHeld2 => ?_)
  clear hKr hHeld hW2 HMB2
  refine wpAnyH_ready (rs := [7]) (by kernel_rfl) (by simp) (nextL 7 rfl (fun Kr hKr => ?_) AllReadyH.nil)
  rw [if_pos (by rfl)]
  obtain ⟨x0, xf0⟩ := CBox.at_ X2 0 _ rfl
  obtain ⟨x1, xf1⟩ := CBox.at_ X2 1 _ rfl
  obtain ⟨x2, xf2⟩ := CBox.at_ X2 2 _ rfl
  obtain ⟨x3, xf3⟩ := CBox.at_ X2 3 _ rfl
  obtain ⟨x4, xf4⟩ := CBox.at_ X2 4 _ rfl
  obtain ⟨x5, xf5⟩ := CBox.at_ X2 5 _ rfl
  obtain ⟨x6, xf6⟩ := CBox.at_ X2 6 _ rfl
  obtain ⟨x7, xf7⟩ := CBox.at_ X2 7 _ rfl
  obtain ⟨x8, xf8⟩ := CBox.at_ X2 8 _ rfl
  go_simp
  refine hKr.out _ _ trivial (fun hHeld3 => ?_)
  clear hKr hHeld2 hHeld3 x0 xf0 x1 xf1 x2 xf2 x3 xf3 x4 xf4 x5 xf5 x6 xf6 x7 xf7 x8 xf8
  refine wpAnyH_done (by kernel_rfl) ?_ _
  have X3 := cells9 X2 (.int .i64 1) (.int .i64 1) (.string (bstr G)) (.int .i64 X) (.bool false) (.int .i64 0) (.int .i64 0) (.slice none 0 0) (.slice none 0 0)
  have hb3 := below9 hb2 (Nat.le_refl _) (.int .i64 1) (.int .i64 1) (.string (bstr G)) (.int .i64 X) (.bool false) (.int .i64 0) (.int .i64 0) (.slice none 0 0) (.slice none 0 0)
  obtain ⟨W3, hW3⟩ : ∃ W3, (((((((((W2.setCell ⟨mb, 0, none⟩ (.int .i64 1)).setCell ⟨mb, 1, none⟩ (.int .i64 1)).setCell ⟨mb, 2, none⟩ (.string (bstr G))).setCell ⟨mb, 3, none⟩ (.int .i64 X)).setCell ⟨mb, 4, none⟩ (.bool false)).setCell ⟨mb, 5, none⟩ (.int .i64 0)).setCell ⟨mb, 6, none⟩ (.int .i64 0)).setCell ⟨mb, 7, none⟩ (.slice none 0 0)).setCell ⟨mb, 8, none⟩ (.slice none 0 0)) = W3 := ⟨_, rfl⟩
  rw [hW3] at X3 hb3 ⊢
  clear hW3 X2 hb2
  have HX3 := Lib.hid X3
  have HB3 := Lib.hid hb3
  clear X3 hb3
  obtain ⟨g', hg'⟩ : ∃ g', g' = if G = nobody4 then [] else G := ⟨_, rfl⟩
  obtain ⟨x2, f2⟩ := HX3.out.at_ 2 _ rfl
  go_upto_if 16 with fail
  obtain ⟨t, ht⟩ : ∃ t, (G == [0, 0, 0, 0]) = t := ⟨_, rfl⟩
  rw [ht]
  go_cut [] (fun w' => CBox w' mb 27 #[.int .i64 1, .int .i64 1, .string (bstr g'), .int .i64 X, .bool false, .int .i64 0, .int .i64 0, .slice none 0 0, .slice none 0 0] ∧ Below mb W1 w')
  case first =>
    cases t
    rotate_left
    · have hgn : G = nobody4 := beq_iff_eq.1 ht
      have HG1 := Lib.hid (show g' = [] from by rw [hg', if_pos hgn])
      clear hgn hg' ht
      go_wp2_with fail
      go_meet
      case rel => rw [HG1.out]; exact ⟨HX3.out.set 2 _, HB3.out.setCell (p := ⟨mb, 2, none⟩) (Nat.le_refl _) _⟩
    · have hgn : ¬ G = nobody4 := beq_eq_false_iff_ne.1 ht
      have HG1 := Lib.hid (show g' = G from by rw [hg', if_neg hgn])
      clear hgn hg' ht
      go_wp2_with fail
      go_meet
      case rel => rw [HG1.out]; exact ⟨HX3.out, HB3.out⟩
  case rest =>
    obtain ⟨hx4, hb4⟩ := hcut
    have HX4 := Lib.hid hx4; have HB4 := Lib.hid hb4
    have HG1 := Lib.hid hg'
    clear hx4 hb4 x2 f2 hg' HX3 HB3 ht
    obtain ⟨x3, f3⟩ := HX4.out.at_ 3 _ rfl
    obtain ⟨x1, f1⟩ := HX4.out.at_ 1 _ rfl
    obtain ⟨ver, hver⟩ : ∃ ver : Int, ver = if X = 0 then 1 else 2 := ⟨_, rfl⟩
    go_upto_if 20 with fail
    obtain ⟨t, ht⟩ : ∃ t, decide (0 < X) = t := ⟨_, rfl⟩
    rw [ht]
    go_cut [] (fun w' => CBox w' mb 27 #[.int .i64 1, .int .i64 ver, .string (bstr g'), .int .i64 X, .bool false, .int .i64 0, .int .i64 0, .slice none 0 0, .slice none 0 0] ∧ Below mb W1 w')
    case first =>
      cases t
      · have hx0 : X = 0 := by have := of_decide_eq_false ht; omega
        have HV1 := Lib.hid (show ver = 1 from by rw [hver, if_pos hx0])
        clear hx0 hver ht
        go_wp2_with fail
        go_meet
        case rel => rw [HV1.out]; exact ⟨HX4.out, HB4.out⟩
      · have hx0 : ¬ X = 0 := by have := of_decide_eq_true ht; omega
        have HV1 := Lib.hid (show ver = 2 from by rw [hver, if_neg hx0])
        clear hx0 hver ht
        go_wp2_with fail
        go_meet
        case rel => rw [HV1.out]; exact ⟨HX4.out.set 1 _, HB4.out.setCell (p := ⟨mb, 1, none⟩) (Nat.le_refl _) _⟩
    case rest =>
      obtain ⟨hx5, hb5⟩ := hcut
      have HX5 := Lib.hid hx5; have HB5 := Lib.hid hb5
      have HVER := Lib.hid hver
      clear hx5 hb5 x3 f3 x1 f1 hver HX4 HB4 ht
      have HGL := Lib.hid (show g'.length ≤ maxLen from by
        rw [HG1.out]
        split
        · exact Nat.zero_le _
        · rw [← HGX.out.1]; exact Nat.le_trans (List.length_take_le _ _) (by decide))
      have HXR := Lib.hid (show CBox wc rb 27 mz from HX1.out.below HB5.out HLT.out)
      have HBR := Lib.hid (show Below rb w wc from HB1.out.trans (HB5.out.mono (Nat.le_of_lt HLT.out)))
      by_cases hl : 8 < s.length
      rotate_left
      · have d8 : decide ((8 : Int) < s.length) = false := decide_eq_false (by omega)
        have d8' : decide (8 < s.length) = false := decide_eq_false hl
        have hPq := pquery_short s G g' X hl HGX.out.1 HG1.out HGX.out.2
        rw [← HP.out, ← HVER.out] at hPq
        have HPQ := Lib.hid hPq
        clear hl hPq
        obtain ⟨n, hn0⟩ : ∃ n : Nat, n = 0 := ⟨_, rfl⟩
        obtain ⟨ao, hao⟩ : ∃ ao : Option Addr, ao = none := ⟨_, rfl⟩
        obtain ⟨c, hc0⟩ : ∃ c : Nat, c = 0 := ⟨_, rfl⟩
        obtain ⟨L, hL0⟩ : ∃ L : List Str, L = [] := ⟨_, rfl⟩
        obtain ⟨V, hV⟩ : ∃ V, V = ver := ⟨_, rfl⟩
        obtain ⟨M, hM⟩ : ∃ M : Int, M = X := ⟨_, rfl⟩
        obtain ⟨q, hq0⟩ : ∃ q : Bool, q = false := ⟨_, rfl⟩
        obtain ⟨r, hr0⟩ : ∃ r : Int, r = 0 := ⟨_, rfl⟩
        obtain ⟨ev, hev⟩ : ∃ ev : Int, ev = 0 := ⟨_, rfl⟩
        have HXM := Lib.hid (show CBox wc mb 27 #[.int .i64 1, .int .i64 V, .string (bstr g'), .int .i64 M, .bool q, .int .i64 r, .int .i64 ev, .slice ao n c, .slice none 0 0] from by rw [hV, hM, hq0, hr0, hev, hao, hn0, hc0]; exact HX5.out)
        have HBAD := Lib.hid (show (g' ≠ [] ∧ grp g' 4 = false) ∨ (g' = [] ∧ 0 < n) → P = (3, .zero) from fun h => by
          rw [HPQ.out, if_pos]
          rcases h with h | h
          · exact h
          · omega)
        have HGOOD := Lib.hid (show ¬ ((g' ≠ [] ∧ grp g' 4 = false) ∨ (g' = [] ∧ 0 < n)) → P = (0, ⟨1, V, g', M, q, r, ev, L, []⟩) from fun h => by
          rw [HPQ.out, if_neg (fun h' => h (.inl h')), hV, hM, hq0, hr0, hev, hL0])
        have HST := Lib.hid (show Strs wc (.slice ao n c) L from by rw [hao, hn0, hc0, hL0]; exact Strs.nil _)
        have HLI := Lib.hid (show Lies mb (.slice ao n c) from fun j hj => by rw [hao] at hj; simp [Value.ownBlock] at hj)
        clear hn0 hao hc0 hL0 hV hM hq0 hr0 hev HX5
        have XM := HXM.out
        obtain ⟨x0, xf0⟩ := CBox.at_ XM 0 _ rfl
        obtain ⟨x1, xf1⟩ := CBox.at_ XM 1 _ rfl
        obtain ⟨x2, xf2⟩ := CBox.at_ XM 2 _ rfl
        obtain ⟨x3, xf3⟩ := CBox.at_ XM 3 _ rfl
        obtain ⟨x4, xf4⟩ := CBox.at_ XM 4 _ rfl
        obtain ⟨x5, xf5⟩ := CBox.at_ XM 5 _ rfl
        obtain ⟨x6, xf6⟩ := CBox.at_ XM 6 _ rfl
        obtain ⟨x7, xf7⟩ := CBox.at_ XM 7 _ rfl
        obtain ⟨x8, xf8⟩ := CBox.at_ XM 8 _ rfl
        have XR := HXR.out
        obtain ⟨y0, yf0⟩ := CBox.at_ XR 0 _ rfl
        obtain ⟨y1, yf1⟩ := CBox.at_ XR 1 _ rfl
        obtain ⟨y2, yf2⟩ := CBox.at_ XR 2 _ rfl
        obtain ⟨y3, yf3⟩ := CBox.at_ XR 3 _ rfl
        obtain ⟨y4, yf4⟩ := CBox.at_ XR 4 _ rfl
        obtain ⟨y5, yf5⟩ := CBox.at_ XR 5 _ rfl
        obtain ⟨y6, yf6⟩ := CBox.at_ XR 6 _ rfl
        obtain ⟨y7, yf7⟩ := CBox.at_ XR 7 _ rfl
        obtain ⟨y8, yf8⟩ := CBox.at_ XR 8 _ rfl
        clear XM XR
        by_cases hg0 : g' = []
        · by_cases hn : 0 < n
          · have dn : decide ((0 : Int) < n) = true := decide_eq_true (by omega)
            have dn' : decide (0 < n) = true := decide_eq_true hn
            have HPE := Lib.hid (HBAD.out (.inr ⟨hg0, hn⟩))
            subst hg0
            clear hn
            go_wp2_with fail
            obtain ⟨r0, r1, r2, r3, r4, r5, r6, r7, r8⟩ := ret9 (cells9 HXR.out (.int .i64 0) (.int .i64 0) (.string (bstr [])) (.int .i64 0) (.bool false) (.int .i64 0) (.int .i64 0) (.slice none 0 0) (.slice none 0 0))
            refine bodyPost_ret (v := .tuple #[.agg #[.int .i64 0, .int .i64 0, .string (bstr []), .int .i64 0, .bool false, .int .i64 0, .int .i64 0, .slice none 0 0, .slice none 0 0], .int .i64 3]) (by simp [results, Try.results29, go_sem, r0, r1, r2, r3, r4, r5, r6, r7, r8]) rfl ?_
            rw [HPE.out]
            exact retMsg_bad w _ 3 (HRB.out ▸ below9 HBR.out (Nat.le_refl _) _ _ _ _ _ _ _ _ _)
          · have dn : decide ((0 : Int) < n) = false := decide_eq_false (by omega)
            have dn' : decide (0 < n) = false := decide_eq_false hn
            have HPE := Lib.hid (HGOOD.out (fun h => by rcases h with h | h; exact h.1 hg0; exact hn h.2))
            subst hg0
            clear hn
            go_wp2_with fail
            obtain ⟨r0, r1, r2, r3, r4, r5, r6, r7, r8⟩ := ret9 (cells9 HXR.out (.int .i64 1) (.int .i64 V) (.string (bstr [])) (.int .i64 M) (.bool q) (.int .i64 r) (.int .i64 ev) (.slice ao n c) (.slice none 0 0))
            refine bodyPost_ret (v := .tuple #[.agg #[.int .i64 1, .int .i64 V, .string (bstr []), .int .i64 M, .bool q, .int .i64 r, .int .i64 ev, .slice ao n c, .slice none 0 0], .int .i64 0]) (by simp [results, Try.results29, go_sem, r0, r1, r2, r3, r4, r5, r6, r7, r8]) rfl ?_
            rw [HPE.out]
            exact ⟨.slice ao n c, .slice none 0 0, rfl, strs9 HST.out HLI.out HLT.out _ _ _ _ _ _ _ _ _, HLI.out.mono (by rw [HRB.out]; exact Nat.le_of_lt HLT.out), Row.nil _ _, HRB.out ▸ below9 HBR.out (Nat.le_refl _) _ _ _ _ _ _ _ _ _⟩
        · have e1 : (g' == []) = false := beq_eq_false_iff_ne.2 hg0
          have e2 : (g' != []) = true := bne_iff_ne.2 hg0
          have HGR := Lib.hid (fun W => rgroup4 g' W HGL.out)
          cases hq : grp g' 4
          · rw [hq] at HGR
            have HPE := Lib.hid (HBAD.out (.inl ⟨hg0, hq⟩))
            clear hg0 hq
            go_wp2_with ((with_reducible refine (HGR.out _).mono ?_); rintro e w7 ⟨rfl, hw7⟩; subst w7)
            obtain ⟨r0, r1, r2, r3, r4, r5, r6, r7, r8⟩ := ret9 (cells9 HXR.out (.int .i64 0) (.int .i64 0) (.string (bstr [])) (.int .i64 0) (.bool false) (.int .i64 0) (.int .i64 0) (.slice none 0 0) (.slice none 0 0))
            refine bodyPost_ret (v := .tuple #[.agg #[.int .i64 0, .int .i64 0, .string (bstr []), .int .i64 0, .bool false, .int .i64 0, .int .i64 0, .slice none 0 0, .slice none 0 0], .int .i64 3]) (by simp [results, Try.results29, go_sem, r0, r1, r2, r3, r4, r5, r6, r7, r8]) rfl ?_
            rw [HPE.out]
            exact retMsg_bad w _ 3 (HRB.out ▸ below9 HBR.out (Nat.le_refl _) _ _ _ _ _ _ _ _ _)
          · rw [hq] at HGR
            have HPE := Lib.hid (HGOOD.out (fun h => by rcases h with h | h; rw [hq] at h; cases h.2; exact hg0 h.1))
            clear hg0 hq
            go_wp2_with ((with_reducible refine (HGR.out _).mono ?_); rintro e w7 ⟨rfl, hw7⟩; subst w7)
            obtain ⟨r0, r1, r2, r3, r4, r5, r6, r7, r8⟩ := ret9 (cells9 HXR.out (.int .i64 1) (.int .i64 V) (.string (bstr g')) (.int .i64 M) (.bool q) (.int .i64 r) (.int .i64 ev) (.slice ao n c) (.slice none 0 0))
            refine bodyPost_ret (v := .tuple #[.agg #[.int .i64 1, .int .i64 V, .string (bstr g'), .int .i64 M, .bool q, .int .i64 r, .int .i64 ev, .slice ao n c, .slice none 0 0], .int .i64 0]) (by simp [results, Try.results29, go_sem, r0, r1, r2, r3, r4, r5, r6, r7, r8]) rfl ?_
            rw [HPE.out]
            exact ⟨.slice ao n c, .slice none 0 0, rfl, strs9 HST.out HLI.out HLT.out _ _ _ _ _ _ _ _ _, HLI.out.mono (by rw [HRB.out]; exact Nat.le_of_lt HLT.out), Row.nil _ _, HRB.out ▸ below9 HBR.out (Nat.le_refl _) _ _ _ _ _ _ _ _ _⟩
      · have d8 : decide ((8 : Int) < s.length) = true := decide_eq_true (by omega)
        have d8' : decide (8 < s.length) = true := decide_eq_true hl
        have hPq := pquery_long s G g' hl HGX.out.1 HG1.out
        rw [← HP.out] at hPq
        have HPQ := Lib.hid hPq
        clear hPq
        by_cases h12 : s.length < 12
        · have hE : longE s = 3 := if_pos h12
          have HPE := Lib.hid (show P = (3, .zero) from by rw [HPQ.out, hE]; exact if_pos (by decide))
          have d12 : decide ((s.length : Int) < 12) = true := decide_eq_true (by omega)
          have d12' : decide (s.length < 12) = true := decide_eq_true h12
          clear h12 hE hl
          have XR := HXR.out
          obtain ⟨y0, yf0⟩ := CBox.at_ XR 0 _ rfl
          obtain ⟨y1, yf1⟩ := CBox.at_ XR 1 _ rfl
          obtain ⟨y2, yf2⟩ := CBox.at_ XR 2 _ rfl
          obtain ⟨y3, yf3⟩ := CBox.at_ XR 3 _ rfl
          obtain ⟨y4, yf4⟩ := CBox.at_ XR 4 _ rfl
          obtain ⟨y5, yf5⟩ := CBox.at_ XR 5 _ rfl
          obtain ⟨y6, yf6⟩ := CBox.at_ XR 6 _ rfl
          obtain ⟨y7, yf7⟩ := CBox.at_ XR 7 _ rfl
          obtain ⟨y8, yf8⟩ := CBox.at_ XR 8 _ rfl
          clear XR
          go_wp2_with fail
          obtain ⟨r0, r1, r2, r3, r4, r5, r6, r7, r8⟩ := ret9 (cells9 HXR.out (.int .i64 0) (.int .i64 0) (.string (bstr [])) (.int .i64 0) (.bool false) (.int .i64 0) (.int .i64 0) (.slice none 0 0) (.slice none 0 0))
          refine bodyPost_ret (v := .tuple #[.agg #[.int .i64 0, .int .i64 0, .string (bstr []), .int .i64 0, .bool false, .int .i64 0, .int .i64 0, .slice none 0 0, .slice none 0 0], .int .i64 3]) (by simp [results, Try.results29, go_sem, r0, r1, r2, r3, r4, r5, r6, r7, r8]) rfl ?_
          rw [HPE.out]
          exact retMsg_bad w _ 3 (HRB.out ▸ below9 HBR.out (Nat.le_refl _) _ _ _ _ _ _ _ _ _)
        · have d12 : decide ((s.length : Int) < 12) = false := decide_eq_false (by omega)
          have d12' : decide (s.length < 12) = false := decide_eq_false h12
          obtain ⟨N, hN⟩ : ∃ N, numAt s 10 2 = N := ⟨_, rfl⟩
          have HG := Lib.hid (fun W => rnumB_any s N W (by omega) (Nat.le_trans HL.out.2 (by decide)) hN)
          have HEX := Lib.hid (show longE s = if 60 < N then 3 else if s.length < 12 + N * 4 then 2 else 0 from by unfold longE; rw [if_neg h12, hN])
          obtain ⟨B, hB8⟩ : ∃ B, (s[8]?.getD 0).toNat = B := ⟨_, rfl⟩
          obtain ⟨C, hC⟩ : ∃ C, (s[9]?.getD 0).toNat = C := ⟨_, rfl⟩
          have k8 : ∀ h : 8 < s.length, (s[8]'h).toNat = B := fun h => by rw [← hB8, List.getElem?_eq_getElem h]; rfl
          have k9 : ∀ h : 9 < s.length, (s[9]'h).toNat = C := fun h => by rw [← hC, List.getElem?_eq_getElem h]; rfl
          have HD1 := Lib.hid (fun W => rdec8_1 s X W HGX.out.2)
          have HD9 := Lib.hid (fun W => rdec8_9 s C W hC)
          obtain ⟨D, hD⟩ : ∃ D, pdecode X 4 = D := ⟨_, rfl⟩
          obtain ⟨F, hF⟩ : ∃ F, pdecode C 4 = F := ⟨_, rfl⟩
          rw [hD] at HD1
          rw [hF] at HD9
          have hB := byte_q8 B
          obtain ⟨q, hq⟩ : ∃ q, q = decide (B / 8 % 2 = 1) := ⟨_, rfl⟩
          rw [← hq] at hB
          obtain ⟨r, hr⟩ : ∃ r : Nat, r = B % 8 := ⟨_, rfl⟩
          have hrI : (B : Int) % 8 = (r : Int) := by rw [hr]; omega
          have hrT : (B : Int).tmod 8 = (r : Int) := by rw [Int.tmod_eq_emod_of_nonneg (Int.natCast_nonneg _), hrI]
          have hB256 : B < 256 := by rw [← hB8]; exact (s[8]?.getD 0).toNat_lt
          have hA1 : wrap64 (X : Int) = (X : Int) := by have := HGX.out.2; rw [← this]; have := (s[1]?.getD 0).toNat_lt; exact w64 _ (by omega) (by omega)
          have hB1 : wrap64 (B : Int) = (B : Int) := w64 _ (by omega) (by omega)
          have hC1 : wrap64 (C : Int) = (C : Int) := by rw [← hC]; have := (s[9]?.getD 0).toNat_lt; exact w64 _ (by omega) (by omega)
          have l9 : (9 : Int) < s.length := by omega
          have l8i : (8 : Int) < s.length := by omega
          have l9' : 9 < s.length := by omega
          have HMS := Lib.hid (show flagQ s = q ∧ flagR s = r ∧ pdecode (s.getD 1 0).toNat 4 = D ∧ pdecode (s.getD 9 0).toNat 4 = F from by
            have e8 : (s.getD 8 0).toNat = B := by rw [List.getD_eq_getElem?_getD, hB8]
            refine ⟨?_, ?_, ?_, ?_⟩
            · unfold flagQ; rw [e8, hq]
            · unfold flagR; rw [e8, hr]
            · rw [List.getD_eq_getElem?_getD, HGX.out.2, hD]
            · rw [List.getD_eq_getElem?_getD, hC, hF])
          have HN := Lib.hid hN
          have HL12 := Lib.hid h12
          have HN65 := Lib.hid (show N ≤ 65535 from by have := numAt_lt s 10 2; rw [hN] at this; omega)
          have XM := HX5.out
          obtain ⟨x0, xf0⟩ := CBox.at_ XM 0 _ rfl
          obtain ⟨x1, xf1⟩ := CBox.at_ XM 1 _ rfl
          obtain ⟨x2, xf2⟩ := CBox.at_ XM 2 _ rfl
          obtain ⟨x3, xf3⟩ := CBox.at_ XM 3 _ rfl
          obtain ⟨x4, xf4⟩ := CBox.at_ XM 4 _ rfl
          obtain ⟨x5, xf5⟩ := CBox.at_ XM 5 _ rfl
          obtain ⟨x6, xf6⟩ := CBox.at_ XM 6 _ rfl
          obtain ⟨x7, xf7⟩ := CBox.at_ XM 7 _ rfl
          obtain ⟨x8, xf8⟩ := CBox.at_ XM 8 _ rfl
          have XR := HXR.out
          obtain ⟨y0, yf0⟩ := CBox.at_ XR 0 _ rfl
          obtain ⟨y1, yf1⟩ := CBox.at_ XR 1 _ rfl
          obtain ⟨y2, yf2⟩ := CBox.at_ XR 2 _ rfl
          obtain ⟨y3, yf3⟩ := CBox.at_ XR 3 _ rfl
          obtain ⟨y4, yf4⟩ := CBox.at_ XR 4 _ rfl
          obtain ⟨y5, yf5⟩ := CBox.at_ XR 5 _ rfl
          obtain ⟨y6, yf6⟩ := CBox.at_ XR 6 _ rfl
          obtain ⟨y7, yf7⟩ := CBox.at_ XR 7 _ rfl
          obtain ⟨y8, yf8⟩ := CBox.at_ XR 8 _ rfl
          clear XM XR hN hD hF hq hr hB8 hC h12 hB256
          go_upto_region 15 with (first | ((with_reducible refine (HD1.out _).mono ?_); rintro e w6 ⟨rfl, hw6⟩; subst hw6) | ((with_reducible refine (HD9.out _).mono ?_); rintro e w6 ⟨rfl, hw6⟩; subst hw6) | ((with_reducible refine (HG.out _).mono ?_); rintro e w6 ⟨rfl, hw6⟩; subst hw6))
          have XR6 : CBox (((((wc.setCell ⟨mb, 1, none⟩ (.int .i64 3)).setCell ⟨mb, 3, none⟩ (.int .i64 D)).setCell ⟨mb, 4, none⟩ (.bool q)).setCell ⟨mb, 5, none⟩ (.int .i64 r)).setCell ⟨mb, 6, none⟩ (.int .i64 F)) rb 27 mz := (((((HXR.out.far (p := ⟨mb, 1, none⟩) (Nat.ne_of_lt HLT.out) _).far (p := ⟨mb, 3, none⟩) (Nat.ne_of_lt HLT.out) _).far (p := ⟨mb, 4, none⟩) (Nat.ne_of_lt HLT.out) _).far (p := ⟨mb, 5, none⟩) (Nat.ne_of_lt HLT.out) _).far (p := ⟨mb, 6, none⟩) (Nat.ne_of_lt HLT.out) _)
          have BR6 : Below rb w (((((wc.setCell ⟨mb, 1, none⟩ (.int .i64 3)).setCell ⟨mb, 3, none⟩ (.int .i64 D)).setCell ⟨mb, 4, none⟩ (.bool q)).setCell ⟨mb, 5, none⟩ (.int .i64 r)).setCell ⟨mb, 6, none⟩ (.int .i64 F)) := (((((HBR.out.setCell (p := ⟨mb, 1, none⟩) (Nat.le_of_lt HLT.out) _).setCell (p := ⟨mb, 3, none⟩) (Nat.le_of_lt HLT.out) _).setCell (p := ⟨mb, 4, none⟩) (Nat.le_of_lt HLT.out) _).setCell (p := ⟨mb, 5, none⟩) (Nat.le_of_lt HLT.out) _).setCell (p := ⟨mb, 6, none⟩) (Nat.le_of_lt HLT.out) _)
          have m1 : CBox _ mb 27 #[.int .i64 1, .int .i64 3, .string (bstr g'), .int .i64 X, .bool false, .int .i64 0, .int .i64 0, .slice none 0 0, .slice none 0 0] := HX5.out.set 1 (.int .i64 3)
          have m3 : CBox _ mb 27 #[.int .i64 1, .int .i64 3, .string (bstr g'), .int .i64 D, .bool false, .int .i64 0, .int .i64 0, .slice none 0 0, .slice none 0 0] := m1.set 3 (.int .i64 D)
          have m4 : CBox _ mb 27 #[.int .i64 1, .int .i64 3, .string (bstr g'), .int .i64 D, .bool q, .int .i64 0, .int .i64 0, .slice none 0 0, .slice none 0 0] := m3.set 4 (.bool q)
          have m5 : CBox _ mb 27 #[.int .i64 1, .int .i64 3, .string (bstr g'), .int .i64 D, .bool q, .int .i64 r, .int .i64 0, .slice none 0 0, .slice none 0 0] := m4.set 5 (.int .i64 r)
          have XM6 : CBox (((((wc.setCell ⟨mb, 1, none⟩ (.int .i64 3)).setCell ⟨mb, 3, none⟩ (.int .i64 D)).setCell ⟨mb, 4, none⟩ (.bool q)).setCell ⟨mb, 5, none⟩ (.int .i64 r)).setCell ⟨mb, 6, none⟩ (.int .i64 F)) mb 27 #[.int .i64 1, .int .i64 3, .string (bstr g'), .int .i64 D, .bool q, .int .i64 r, .int .i64 F, .slice none 0 0, .slice none 0 0] := m5.set 6 (.int .i64 F)
          obtain ⟨W6, hW6⟩ : ∃ W6, (((((wc.setCell ⟨mb, 1, none⟩ (.int .i64 3)).setCell ⟨mb, 3, none⟩ (.int .i64 D)).setCell ⟨mb, 4, none⟩ (.bool q)).setCell ⟨mb, 5, none⟩ (.int .i64 r)).setCell ⟨mb, 6, none⟩ (.int .i64 F)) = W6 := ⟨_, rfl⟩
          rw [hW6] at XR6 BR6 XM6 ⊢
          clear m1 m3 m4 m5 hW6 x0 xf0 x1 xf1 x2 xf2 x3 xf3 x4 xf4 x5 xf5 x6 xf6 x7 xf7 x8 xf8 y0 yf0 y1 yf1 y2 yf2 y3 yf3 y4 yf4 y5 yf5 y6 yf6 y7 yf7 y8 yf8 HX5 HXR HBR k8 k9 hB hrI hrT hA1 hB1 hC1 HD1 HD9 HG
          have HXM6 := Lib.hid XM6; have HXR := Lib.hid XR6; have HBR := Lib.hid BR6
          clear XM6 BR6
          obtain ⟨y0, yf0⟩ := CBox.at_ XR6 0 _ rfl
          obtain ⟨y1, yf1⟩ := CBox.at_ XR6 1 _ rfl
          obtain ⟨y2, yf2⟩ := CBox.at_ XR6 2 _ rfl
          obtain ⟨y3, yf3⟩ := CBox.at_ XR6 3 _ rfl
          obtain ⟨y4, yf4⟩ := CBox.at_ XR6 4 _ rfl
          obtain ⟨y5, yf5⟩ := CBox.at_ XR6 5 _ rfl
          obtain ⟨y6, yf6⟩ := CBox.at_ XR6 6 _ rfl
          obtain ⟨y7, yf7⟩ := CBox.at_ XR6 7 _ rfl
          obtain ⟨y8, yf8⟩ := CBox.at_ XR6 8 _ rfl
          clear XR6
          by_cases h60 : 60 < N
          · have d60 : decide ((60 : Int) < N) = true := decide_eq_true (Int.ofNat_lt.2 h60)
            have d60' : decide (60 < N) = true := decide_eq_true h60
            have HPE := Lib.hid (show P = (3, .zero) from by rw [HPQ.out, show longE s = 3 from by rw [HEX.out, if_pos h60]]; exact if_pos (by decide))
            clear h60 hl
            go_wp2_with fail
            obtain ⟨r0, r1, r2, r3, r4, r5, r6, r7, r8⟩ := ret9 (cells9 HXR.out (.int .i64 0) (.int .i64 0) (.string (bstr [])) (.int .i64 0) (.bool false) (.int .i64 0) (.int .i64 0) (.slice none 0 0) (.slice none 0 0))
            refine bodyPost_ret (v := .tuple #[.agg #[.int .i64 0, .int .i64 0, .string (bstr []), .int .i64 0, .bool false, .int .i64 0, .int .i64 0, .slice none 0 0, .slice none 0 0], .int .i64 3]) (by simp [results, Try.results29, go_sem, r0, r1, r2, r3, r4, r5, r6, r7, r8]) rfl ?_
            rw [HPE.out]
            exact retMsg_bad w _ 3 (HRB.out ▸ below9 HBR.out (Nat.le_refl _) _ _ _ _ _ _ _ _ _)
          · have d60 : decide ((60 : Int) < N) = false := decide_eq_false (fun h => h60 (Int.ofNat_lt.1 h))
            have d60' : decide (60 < N) = false := decide_eq_false h60
            have HAD := Lib.hid (fun W => rsrc12 s N W HL.out.2 (Nat.le_of_not_lt HL12.out) HN65.out)
            by_cases hok : 12 + N * 4 ≤ s.length
            rotate_left
            · rw [decide_eq_false hok, if_neg hok] at HAD
              have HPE := Lib.hid (show P = (2, .zero) from by rw [HPQ.out, show longE s = 2 from by rw [HEX.out, if_neg h60, if_pos (Nat.lt_of_not_le hok)]]; exact if_pos (by decide))
              clear h60 hl hok
              go_wp2_with ((with_reducible refine (HAD.out _).mono ?_); rintro e w9 ⟨v9, rfl, hv9, hl9, hb9⟩; obtain ⟨ao, cc, rfl⟩ := hv9.shape; have HXR9 := Lib.hid (HXR.out.below hb9 HXR.out.lt); have HBR9 := Lib.hid (HBR.out.trans (hb9.mono (Nat.le_of_lt HXR.out.lt))); clear hb9 hv9 hl9 y0 yf0 y1 yf1 y2 yf2 y3 yf3 y4 yf4 y5 yf5 y6 yf6 y7 yf7 y8 yf8; obtain ⟨y0, yf0⟩ := CBox.at_ HXR9.out 0 _ rfl; obtain ⟨y1, yf1⟩ := CBox.at_ HXR9.out 1 _ rfl; obtain ⟨y2, yf2⟩ := CBox.at_ HXR9.out 2 _ rfl; obtain ⟨y3, yf3⟩ := CBox.at_ HXR9.out 3 _ rfl; obtain ⟨y4, yf4⟩ := CBox.at_ HXR9.out 4 _ rfl; obtain ⟨y5, yf5⟩ := CBox.at_ HXR9.out 5 _ rfl; obtain ⟨y6, yf6⟩ := CBox.at_ HXR9.out 6 _ rfl; obtain ⟨y7, yf7⟩ := CBox.at_ HXR9.out 7 _ rfl; obtain ⟨y8, yf8⟩ := CBox.at_ HXR9.out 8 _ rfl)
              obtain ⟨r0, r1, r2, r3, r4, r5, r6, r7, r8⟩ := ret9 (cells9 HXR9.out (.int .i64 0) (.int .i64 0) (.string (bstr [])) (.int .i64 0) (.bool false) (.int .i64 0) (.int .i64 0) (.slice none 0 0) (.slice none 0 0))
              refine bodyPost_ret (v := .tuple #[.agg #[.int .i64 0, .int .i64 0, .string (bstr []), .int .i64 0, .bool false, .int .i64 0, .int .i64 0, .slice none 0 0, .slice none 0 0], .int .i64 2]) (by simp [results, Try.results29, go_sem, r0, r1, r2, r3, r4, r5, r6, r7, r8]) rfl ?_
              rw [HPE.out]
              exact retMsg_bad w _ 2 (HRB.out ▸ below9 HBR9.out (Nat.le_refl _) _ _ _ _ _ _ _ _ _)
            · rw [decide_eq_true hok, if_pos hok] at HAD
              have hp9 := HPQ.out
              rw [show longE s = 0 from by rw [HEX.out, if_neg h60, if_neg (Nat.not_lt_of_le hok)], if_neg (show ¬ ((0 : Int) ≠ 0) from fun h => h rfl), HMS.out.1, HMS.out.2.1, HMS.out.2.2.1, HMS.out.2.2.2, HN.out] at hp9
              have HP9 := Lib.hid hp9
              obtain ⟨L, hLd⟩ : ∃ L, srcs s 12 N 4 = L := ⟨_, rfl⟩
              have hLl : L.length = N := by rw [← hLd, srcs_length]
              rw [hLd] at HAD HP9
              clear h60 hl hok hp9 hLd
              obtain ⟨xm7, xf7⟩ := HXM6.out.at_ 7 _ rfl
              go_upto_region 20 with ((with_reducible refine (HAD.out _).mono ?_); rintro e w9 ⟨v9, rfl, hv9, hl9, hb9⟩; obtain ⟨ao, c, rfl⟩ := hv9.shape; have HXM9 := Lib.hid (HXM6.out.below hb9 HXM6.out.lt); have HXR9 := Lib.hid (HXR.out.below hb9 HXR.out.lt); have HBR9 := Lib.hid (HBR.out.trans (hb9.mono (Nat.le_of_lt HXR.out.lt))); have HV9 := Lib.hid (And.intro hv9 (And.intro hl9 HXM6.out.lt)); clear hb9 hv9 hl9 xm7 xf7 y0 yf0 y1 yf1 y2 yf2 y3 yf3 y4 yf4 y5 yf5 y6 yf6 y7 yf7 y8 yf8)
              obtain ⟨xm7, xf7⟩ := HXM9.out.at_ 7 _ rfl
              go_upto_region 21 with fail
              obtain ⟨n, hn⟩ : ∃ n, N = n := ⟨_, rfl⟩
              obtain ⟨V, hV⟩ : ∃ V : Int, V = 3 := ⟨_, rfl⟩
              obtain ⟨M, hM⟩ : ∃ M : Int, (D : Int) = M := ⟨_, rfl⟩
              obtain ⟨r', hr0⟩ : ∃ r' : Int, (r : Int) = r' := ⟨_, rfl⟩
              obtain ⟨ev, hev⟩ : ∃ ev : Int, (F : Int) = ev := ⟨_, rfl⟩
              have XM : CBox (w9.setCell ⟨mb, 7, none⟩ (.slice ao N c)) mb 27 #[.int .i64 1, .int .i64 3, .string (bstr g'), .int .i64 D, .bool q, .int .i64 r, .int .i64 F, .slice ao N c, .slice none 0 0] := HXM9.out.set 7 _
              have ST := HV9.out.1.far HV9.out.2.1 (p := ⟨mb, 7, none⟩) HV9.out.2.2 (.slice ao N c)
              rw [hLl] at ST
              have LI := HV9.out.2.1
              rw [hLl] at LI
              have XR : CBox (w9.setCell ⟨mb, 7, none⟩ (.slice ao N c)) rb 27 mz := HXR9.out.far (p := ⟨mb, 7, none⟩) (Nat.ne_of_lt HLT.out) _
              have BR : Below rb w (w9.setCell ⟨mb, 7, none⟩ (.slice ao N c)) := HBR9.out.setCell (p := ⟨mb, 7, none⟩) (Nat.le_of_lt HLT.out) _
              obtain ⟨W9, hW9⟩ : ∃ W9, w9.setCell ⟨mb, 7, none⟩ (.slice ao N c) = W9 := ⟨_, rfl⟩
              have hp9 := HP9.out
              rw [hM, hr0, hev, hn] at hp9
              rw [← hV, hM, hr0, hev] at XM
              rw [hn] at XM ST LI XR BR hW9 ⊢
              rw [hW9] at XM ST XR BR ⊢
              have HXM := Lib.hid XM
              have HST := Lib.hid ST
              have HLI := Lib.hid (show Lies mb (.slice ao n c) from LI.mono (Nat.le_of_lt HXM6.out.lt))
              clear HXR HBR
              have HXR := Lib.hid XR
              have HBR := Lib.hid BR
              have HP8 := Lib.hid hp9
              have HV := Lib.hid hV
              have HBAD := Lib.hid (show (g' ≠ [] ∧ grp g' 4 = false) ∨ (g' = [] ∧ 0 < n) → P = (3, .zero) from fun h => by rw [HP8.out, if_pos h])
              have HGOOD := Lib.hid (show ¬ ((g' ≠ [] ∧ grp g' 4 = false) ∨ (g' = [] ∧ 0 < n)) → P = (0, ⟨1, V, g', M, q, r', ev, L, []⟩) from fun h => by rw [HP8.out, if_neg h, HV.out])
              clear XM ST LI XR BR hW9 hp9 HP8 HV hn hV hM hr0 hev hLl xm7 xf7 HP9 HXM6 HXM9 HXR9 HBR9 HV9 HAD
              have XM := HXM.out
              obtain ⟨x0, xf0⟩ := CBox.at_ XM 0 _ rfl
              obtain ⟨x1, xf1⟩ := CBox.at_ XM 1 _ rfl
              obtain ⟨x2, xf2⟩ := CBox.at_ XM 2 _ rfl
              obtain ⟨x3, xf3⟩ := CBox.at_ XM 3 _ rfl
              obtain ⟨x4, xf4⟩ := CBox.at_ XM 4 _ rfl
              obtain ⟨x5, xf5⟩ := CBox.at_ XM 5 _ rfl
              obtain ⟨x6, xf6⟩ := CBox.at_ XM 6 _ rfl
              obtain ⟨x7, xf7⟩ := CBox.at_ XM 7 _ rfl
              obtain ⟨x8, xf8⟩ := CBox.at_ XM 8 _ rfl
              have XR := HXR.out
              obtain ⟨y0, yf0⟩ := CBox.at_ XR 0 _ rfl
              obtain ⟨y1, yf1⟩ := CBox.at_ XR 1 _ rfl
              obtain ⟨y2, yf2⟩ := CBox.at_ XR 2 _ rfl
              obtain ⟨y3, yf3⟩ := CBox.at_ XR 3 _ rfl
              obtain ⟨y4, yf4⟩ := CBox.at_ XR 4 _ rfl
              obtain ⟨y5, yf5⟩ := CBox.at_ XR 5 _ rfl
              obtain ⟨y6, yf6⟩ := CBox.at_ XR 6 _ rfl
              obtain ⟨y7, yf7⟩ := CBox.at_ XR 7 _ rfl
              obtain ⟨y8, yf8⟩ := CBox.at_ XR 8 _ rfl
              clear XM XR
              by_cases hg0 : g' = []
              · by_cases hn : 0 < n
                · have dn : decide ((0 : Int) < n) = true := decide_eq_true (by omega)
                  have dn' : decide (0 < n) = true := decide_eq_true hn
                  have HPE := Lib.hid (HBAD.out (.inr ⟨hg0, hn⟩))
                  subst hg0
                  clear hn
                  go_wp2_with fail
                  obtain ⟨r0, r1, r2, r3, r4, r5, r6, r7, r8⟩ := ret9 (cells9 HXR.out (.int .i64 0) (.int .i64 0) (.string (bstr [])) (.int .i64 0) (.bool false) (.int .i64 0) (.int .i64 0) (.slice none 0 0) (.slice none 0 0))
                  refine bodyPost_ret (v := .tuple #[.agg #[.int .i64 0, .int .i64 0, .string (bstr []), .int .i64 0, .bool false, .int .i64 0, .int .i64 0, .slice none 0 0, .slice none 0 0], .int .i64 3]) (by simp [results, Try.results29, go_sem, r0, r1, r2, r3, r4, r5, r6, r7, r8]) rfl ?_
                  rw [HPE.out]
                  exact retMsg_bad w _ 3 (HRB.out ▸ below9 HBR.out (Nat.le_refl _) _ _ _ _ _ _ _ _ _)
                · have dn : decide ((0 : Int) < n) = false := decide_eq_false (by omega)
                  have dn' : decide (0 < n) = false := decide_eq_false hn
                  have HPE := Lib.hid (HGOOD.out (fun h => by rcases h with h | h; exact h.1 hg0; exact hn h.2))
                  subst hg0
                  clear hn
                  go_wp2_with fail
                  obtain ⟨r0, r1, r2, r3, r4, r5, r6, r7, r8⟩ := ret9 (cells9 HXR.out (.int .i64 1) (.int .i64 V) (.string (bstr [])) (.int .i64 M) (.bool q) (.int .i64 r') (.int .i64 ev) (.slice ao n c) (.slice none 0 0))
                  refine bodyPost_ret (v := .tuple #[.agg #[.int .i64 1, .int .i64 V, .string (bstr []), .int .i64 M, .bool q, .int .i64 r', .int .i64 ev, .slice ao n c, .slice none 0 0], .int .i64 0]) (by simp [results, Try.results29, go_sem, r0, r1, r2, r3, r4, r5, r6, r7, r8]) rfl ?_
                  rw [HPE.out]
                  exact ⟨.slice ao n c, .slice none 0 0, rfl, strs9 HST.out HLI.out HLT.out _ _ _ _ _ _ _ _ _, HLI.out.mono (by rw [HRB.out]; exact Nat.le_of_lt HLT.out), Row.nil _ _, HRB.out ▸ below9 HBR.out (Nat.le_refl _) _ _ _ _ _ _ _ _ _⟩
              · have e1 : (g' == []) = false := beq_eq_false_iff_ne.2 hg0
                have e2 : (g' != []) = true := bne_iff_ne.2 hg0
                have HGR := Lib.hid (fun W => rgroup4 g' W HGL.out)
                cases hq : grp g' 4
                · rw [hq] at HGR
                  have HPE := Lib.hid (HBAD.out (.inl ⟨hg0, hq⟩))
                  clear hg0 hq
                  go_wp2_with ((with_reducible refine (HGR.out _).mono ?_); rintro e w7 ⟨rfl, hw7⟩; subst w7)
                  obtain ⟨r0, r1, r2, r3, r4, r5, r6, r7, r8⟩ := ret9 (cells9 HXR.out (.int .i64 0) (.int .i64 0) (.string (bstr [])) (.int .i64 0) (.bool false) (.int .i64 0) (.int .i64 0) (.slice none 0 0) (.slice none 0 0))
                  refine bodyPost_ret (v := .tuple #[.agg #[.int .i64 0, .int .i64 0, .string (bstr []), .int .i64 0, .bool false, .int .i64 0, .int .i64 0, .slice none 0 0, .slice none 0 0], .int .i64 3]) (by simp [results, Try.results29, go_sem, r0, r1, r2, r3, r4, r5, r6, r7, r8]) rfl ?_
                  rw [HPE.out]
                  exact retMsg_bad w _ 3 (HRB.out ▸ below9 HBR.out (Nat.le_refl _) _ _ _ _ _ _ _ _ _)
                · rw [hq] at HGR
                  have HPE := Lib.hid (HGOOD.out (fun h => by rcases h with h | h; rw [hq] at h; cases h.2; exact hg0 h.1))
                  clear hg0 hq
                  go_wp2_with ((with_reducible refine (HGR.out _).mono ?_); rintro e w7 ⟨rfl, hw7⟩; subst w7)
                  obtain ⟨r0, r1, r2, r3, r4, r5, r6, r7, r8⟩ := ret9 (cells9 HXR.out (.int .i64 1) (.int .i64 V) (.string (bstr g')) (.int .i64 M) (.bool q) (.int .i64 r') (.int .i64 ev) (.slice ao n c) (.slice none 0 0))
                  refine bodyPost_ret (v := .tuple #[.agg #[.int .i64 1, .int .i64 V, .string (bstr g'), .int .i64 M, .bool q, .int .i64 r', .int .i64 ev, .slice ao n c, .slice none 0 0], .int .i64 0]) (by simp [results, Try.results29, go_sem, r0, r1, r2, r3, r4, r5, r6, r7, r8]) rfl ?_
                  rw [HPE.out]
                  exact ⟨.slice ao n c, .slice none 0 0, rfl, strs9 HST.out HLI.out HLT.out _ _ _ _ _ _ _ _ _, HLI.out.mono (by rw [HRB.out]; exact Nat.le_of_lt HLT.out), Row.nil _ _, HRB.out ▸ below9 HBR.out (Nat.le_refl _) _ _ _ _ _ _ _ _ _⟩
end Go.Proofs.Ythkogdgfkhhleaa
