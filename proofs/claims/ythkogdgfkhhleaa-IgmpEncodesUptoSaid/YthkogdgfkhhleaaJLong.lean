/- igmp.long. -/
import Derived.Test.YthkogdgfkhhleaaJBody
namespace Go.Proofs.Ythkogdgfkhhleaa
open Go.RowKit Go.Sort
set_option maxRecDepth 20000
set_option maxRecDepth 20000
attribute [local go_sem] bstr_size bstr_extract bstr_toList bstr_get

def longE (s : Str) : Int := if s.length < 12 then 3 else if 60 < numAt s 10 2 then 3 else if s.length < 12 + numAt s 10 2 * 4 then 2 else 0
def flagQ (s : Str) : Bool := decide ((s.getD 8 0).toNat / 8 % 2 = 1)
def flagR (s : Str) : Nat := (s.getD 8 0).toNat % 8
/-- a message at block b, its slices as they are -/
def MBox (w : World) (b : Nat) (k v : Int) (g : Str) (mx : Int) (q : Bool) (r ev : Int) (vs vr : Value) : Prop :=
  CBox w b 27 #[.int .i64 k, .int .i64 v, .string (bstr g), .int .i64 mx, .bool q, .int .i64 r, .int .i64 ev, vs, vr]
theorem GB.refl (w : World) (b : Nat) : w.grownBy w (some b) := ⟨rfl, rfl, rfl, Nat.le_refl _, fun _ _ _ => rfl⟩
theorem GB.set {w w' : World} {b : Nat} (h : w.grownBy w' (some b)) (i : Nat) (v : Value) : w.grownBy (w'.setCell ⟨b, i, none⟩ v) (some b) :=
  ⟨h.os, h.tape, h.output, by simpa using h.size, fun k hk hne => (Below.heap_setCell w' ⟨b, i, none⟩ v k (fun e => hne (by rw [e]))).trans (h.block k hk hne)⟩
theorem GB.below {w w' w'' : World} {row : Option Nat} (h : w.grownBy w' row) (hb : Below w'.heap.size w' w'') : w.grownBy w'' row := grown_below h hb
def RetLong (w : World) (b : Nat) (s g : Str) (e : Ending) (w' : World) : Prop :=
  e = .returned (.int .i64 (longE s)) ∧ w.grownBy w' (some b) ∧
    (longE s = 0 → ∃ ao c, MBox w' b 1 3 g (pdecode (s.getD 1 0).toNat 4) (flagQ s) (flagR s) (pdecode (s.getD 9 0).toNat 4) (.slice ao (numAt s 10 2) c) (.slice none 0 0) ∧
      Strs w' (.slice ao (numAt s 10 2) c) (srcs s 12 (numAt s 10 2) 4) ∧ Lies w.heap.size (.slice ao (numAt s 10 2) c))

theorem byte_quiet (x : UInt8) : (bits .and .u8 (x.toNat : Int) 8 != 0) = decide (x.toNat / 8 % 2 = 1) := by
  have h : ∀ y : Fin 256, (bits .and .u8 (y.val : Int) 8 != 0) = decide (y.val / 8 % 2 = 1) := by decide +kernel
  exact h ⟨x.toNat, x.toNat_lt⟩
theorem byte_robust (x : UInt8) : bits .and .u8 (x.toNat : Int) 7 = ((x.toNat % 8 : Nat) : Int) := by
  have h : ∀ y : Fin 256, bits .and .u8 (y.val : Int) 7 = ((y.val % 8 : Nat) : Int) := by decide +kernel
  exact h ⟨x.toNat, x.toNat_lt⟩
theorem numB_any (s : Str) (N : Nat) (w : World) (hl : 12 ≤ s.length) (hm : s.length ≤ maxLen) (hN : numAt s 10 2 = N) :
    Calls Try.prog 26 #[.string (bstr s), .int .i64 10, .int .i64 2] w fun e w' => e = .returned (.tuple #[.int .i64 N, .int .i64 0]) ∧ Below w.heap.size w w' := by
  have h := get_any s 10 2 w hm (by decide) (by decide) (by decide)
  rw [if_pos (by omega), if_pos (by omega), hN] at h
  exact h
theorem addrs12 (s : Str) (N : Nat) (w : World) (hs : s.length ≤ 1000000) (hn : N ≤ 65535) :
    Calls Try.prog 66 #[.string (bstr s), .int .i64 12, .int .i64 N, .int .i64 4] w (RetAddrs w (if 12 + N * 4 ≤ s.length then srcs s 12 N 4 else []) (if 12 + N * 4 ≤ s.length then 0 else 2)) := addrs_any s 12 N 4 w hs (by decide) hn (by decide) (by decide)
theorem wrap_small (r : Nat) (h : r < 1000000000) : IntKind.i64.wrap (r : Int) = (r : Int) := wraps_i64 _ (Int.natCast_nonneg _) (by omega)
set_option maxHeartbeats 2000000 in
theorem long_any (b : Nat) (s g : Str) (v mx : Int) (w : World) (h : MBox w b 1 v g mx false 0 0 (.slice none 0 0) (.slice none 0 0)) (h8 : 8 < s.length) (hs : s.length ≤ 1000000) :
    Calls Try.prog 50 #[.pointer (some ⟨b, 0, none⟩), .string (bstr s)] w (RetLong w b s g) := by
  by_cases h12 : s.length < 12
  · have hE : longE s = 3 := if_pos h12
    have HE := Lib.hid hE
    have d12 : decide ((s.length : Int) < 12) = true := decide_eq_true (by omega)
    have d12' : decide (s.length < 12) = true := decide_eq_true h12
    clear h h12 hE h8 hs
    go_enter Try.func50, Try.ntmps50
    go_wp2_with fail
    go_ret
    exact ⟨by rw [HE.out]; rfl, ⟨rfl, rfl, rfl, Nat.le_refl _, fun _ _ _ => rfl⟩, fun e => absurd (HE.out.symm.trans e) (by decide)⟩
  · have d12 : decide ((s.length : Int) < 12) = false := decide_eq_false (by omega)
    have d12' : decide (s.length < 12) = false := decide_eq_false h12
    have HD1 := Lib.hid (fun W => dec8_any (s.getD 1 0).toNat W (s.getD 1 0).toNat_lt)
    have HD9 := Lib.hid (fun W => dec8_any (s.getD 9 0).toNat W (s.getD 9 0).toNat_lt)
    have hB := byte_quiet (s.getD 8 0)
    have hR := byte_robust (s.getD 8 0)
    have HFQ := Lib.hid (show flagQ s = decide ((s.getD 8 0).toNat / 8 % 2 = 1) from rfl)
    have HFR := Lib.hid (show flagR s = (s.getD 8 0).toNat % 8 from rfl)
    obtain ⟨N, hN⟩ : ∃ N, numAt s 10 2 = N := ⟨_, rfl⟩
    have HG := Lib.hid (fun W => numB_any s N W (by omega) (by unfold maxLen; omega) hN)
    have HEX := Lib.hid (show longE s = if 60 < N then 3 else if s.length < 12 + N * 4 then 2 else 0 from by unfold longE; rw [if_neg h12, hN])
    have HN := Lib.hid hN
    obtain ⟨A, hA⟩ : ∃ A, (s[1]?.getD 0).toNat = A := ⟨_, rfl⟩
    obtain ⟨B, hB8⟩ : ∃ B, (s[8]?.getD 0).toNat = B := ⟨_, rfl⟩
    obtain ⟨C, hC⟩ : ∃ C, (s[9]?.getD 0).toNat = C := ⟨_, rfl⟩
    have k1 : ∀ h : 1 < s.length, (s[1]'h).toNat = A := fun h => by rw [← hA, List.getElem?_eq_getElem h]; rfl
    have k8 : ∀ h : 8 < s.length, (s[8]'h).toNat = B := fun h => by rw [← hB8, List.getElem?_eq_getElem h]; rfl
    have k9 : ∀ h : 9 < s.length, (s[9]'h).toNat = C := fun h => by rw [← hC, List.getElem?_eq_getElem h]; rfl
    rw [List.getD_eq_getElem?_getD, hA] at HD1
    rw [List.getD_eq_getElem?_getD, hC] at HD9
    rw [List.getD_eq_getElem?_getD, hB8] at hB hR HFQ HFR
    have hA1 : wrap64 (A : Int) = (A : Int) := by rw [← hA]; have := (s[1]?.getD 0).toNat_lt; exact w64 _ (by omega) (by omega)
    have hC1 : wrap64 (C : Int) = (C : Int) := by rw [← hC]; have := (s[9]?.getD 0).toNat_lt; exact w64 _ (by omega) (by omega)
    have l1 : (1 : Int) < s.length := by omega
    have l8 : (8 : Int) < s.length := by omega
    have l9 : (9 : Int) < s.length := by omega
    have l1' : 1 < s.length := by omega
    have l9' : 9 < s.length := by omega
    obtain ⟨q, hq⟩ : ∃ q, q = decide (B / 8 % 2 = 1) := ⟨_, rfl⟩
    obtain ⟨r, hr⟩ : ∃ r, r = B % 8 := ⟨_, rfl⟩
    have hr8 : r < 8 := by omega
    rw [← hq] at hB HFQ
    rw [← hr] at hR HFR
    have hr1 : wrap64 (r : Int) = (r : Int) := w64 _ (by omega) (by omega)
    have hr2 : IntKind.i64.wrap (r : Int) = (r : Int) := wrap_small r (Nat.lt_trans hr8 (by decide))
    obtain ⟨x1, f1⟩ := h.at_ 1 _ rfl
    have HX := Lib.hid h
    have HL := Lib.hid (And.intro h12 hs)
    have HVA := Lib.hid (show (s.getD 1 0).toNat = A from by rw [List.getD_eq_getElem?_getD, hA])
    have HVC := Lib.hid (show (s.getD 9 0).toNat = C from by rw [List.getD_eq_getElem?_getD, hC])
    have hlt := h.lt
    clear h h12 hs hN hq hr hr8 hA hB8 hC
    go_enter Try.func50, Try.ntmps50
    go_upto_region 4 with fail
    obtain ⟨W1, hW1⟩ : ∃ W1, w.setCell ⟨b, 1, none⟩ (.int .i64 3) = W1 := ⟨_, rfl⟩
    have X1 : MBox W1 b 1 3 g mx false 0 0 (.slice none 0 0) (.slice none 0 0) := by rw [← hW1]; exact HX.out.set 1 _
    have GB1 := Lib.hid (show w.grownBy W1 (some b) from by rw [← hW1]; exact GB.set (GB.refl w b) 1 _)
    rw [hW1]
    have HX1 := Lib.hid X1
    clear X1 hW1 x1 f1
    obtain ⟨D, hD⟩ : ∃ D, pdecode A 4 = D := ⟨_, rfl⟩
    obtain ⟨F, hF⟩ : ∃ F, pdecode C 4 = F := ⟨_, rfl⟩
    rw [hD] at HD1
    rw [hF] at HD9
    have HDF := Lib.hid (And.intro hD hF)
    clear hD hF
    go_upto_region 5 with ((with_reducible refine (HD1.out _).mono ?_); rintro e w2 ⟨rfl, hb2⟩; have HX2 := Lib.hid (CBox.below HX1.out hb2 (CBox.lt HX1.out)); have GB2 := Lib.hid (GB.below GB1.out hb2); obtain ⟨x3, f3⟩ := CBox.at_ HX2.out 3 _ rfl; clear hb2)
    obtain ⟨W3, hW3⟩ : ∃ W3, w2.setCell ⟨b, 3, none⟩ (.int .i64 D) = W3 := ⟨_, rfl⟩
    have X3 : MBox W3 b 1 3 g D false 0 0 (.slice none 0 0) (.slice none 0 0) := by rw [← hW3]; exact CBox.set HX2.out 3 _
    have GB3 := Lib.hid (show w.grownBy W3 (some b) from by rw [← hW3]; exact GB.set GB2.out 3 _)
    rw [hW3]
    have HX3 := Lib.hid X3
    clear hW3 x3 f3 X3
    refine wp_region_held_drew (S := fun W' => True) (by kernel_rfl) trivial (fun hHeld => ?_)
    refine takeL 0 (v := ?_) rfl (by kernel_rfl) (by kernel_rfl) (by kernel_rfl) (fun _ _ _ h => h) (Or.inl ⟨by rfl, ?_⟩) (by assumption) ?_
    rotate_left
    focus (intro wq hSq; go_simp <;> with_reducible rfl)
    simp only [Act.put, List.setIfInBounds_toArray, List.set_cons_zero, List.set_cons_succ]
    refine takeL 1 (v := ?_) rfl (by kernel_rfl) (by kernel_rfl) (by kernel_rfl) (fun _ _ _ h => h) (Or.inl ⟨by rfl, ?_⟩) (by assumption) ?_
    rotate_left
    focus (intro wq hSq; go_simp <;> with_reducible rfl)
    simp only [Act.put, List.setIfInBounds_toArray, List.set_cons_zero, List.set_cons_succ]
    refine takeL 2 (v := ?_) rfl (by kernel_rfl) (by kernel_rfl) (by kernel_rfl) (fun _ _ _ h => h) (Or.inl ⟨by rfl, ?_⟩) (by assumption) ?_
    rotate_left
    focus (intro wq hSq; go_simp <;> with_reducible rfl)
    simp only [Act.put, List.setIfInBounds_toArray, List.set_cons_zero, List.set_cons_succ]
    refine takeL 3 (v := ?_) rfl (by kernel_rfl) (by kernel_rfl) (by kernel_rfl) (fun _ _ _ h => h) (Or.inl ⟨by rfl, ?_⟩) (by assumption) ?_
    rotate_left
    focus (intro wq hSq; go_simp <;> with_reducible rfl)
    simp only [Act.put, List.setIfInBounds_toArray, List.set_cons_zero, List.set_cons_succ]
    refine takeL 4 (v := ?_) rfl (by kernel_rfl) (by kernel_rfl) (by kernel_rfl) (fun _ _ _ h => h) (Or.inl ⟨by rfl, ?_⟩) (by assumption) ?_
    rotate_left
    focus (intro wq hSq; go_simp <;> with_reducible rfl)
    simp only [Act.put, List.setIfInBounds_toArray, List.set_cons_zero, List.set_cons_succ]
    refine takeL 5 (v := ?_) rfl (by kernel_rfl) (by kernel_rfl) (by kernel_rfl) (fun _ _ _ h => h) (Or.inl ⟨by rfl, ?_⟩) (by assumption) ?_
    rotate_left
    focus (intro wq hSq; go_simp <;> with_reducible rfl)
    simp only [Act.put, List.setIfInBounds_toArray, List.set_cons_zero, List.set_cons_succ]
    refine takeL 6 (v := ?_) rfl (by kernel_rfl) (by kernel_rfl) (by kernel_rfl) (fun _ _ _ h => h) (Or.inl ⟨by rfl, ?_⟩) (by assumption) ?_
    rotate_left
    focus (intro wq hSq; go_simp <;> with_reducible rfl)
    simp only [Act.put, List.setIfInBounds_toArray, List.set_cons_zero, List.set_cons_succ]
    refine takeL 7 (v := ?_) rfl (by kernel_rfl) (by kernel_rfl) (by kernel_rfl) (fun _ _ _ h => h) (Or.inl ⟨by rfl, ?_⟩) (by assumption) ?_
    rotate_left
    focus (intro wq hSq; go_simp <;> with_reducible rfl)
    simp only [Act.put, List.setIfInBounds_toArray, List.set_cons_zero, List.set_cons_succ]
    refine takeL 8 (v := ?_) rfl (by kernel_rfl) (by kernel_rfl) (by kernel_rfl) (fun _ _ _ h => h) (Or.inl ⟨by rfl, ?_⟩) (by assumption) ?_
    rotate_left
    focus (intro wq hSq; go_simp <;> with_reducible rfl)
    simp only [Act.put, List.setIfInBounds_toArray, List.set_cons_zero, List.set_cons_succ]
    refine takeL 9 (v := ?_) rfl (by kernel_rfl) (by kernel_rfl) (by kernel_rfl) (fun _ _ _ h => h) (Or.inl ⟨by rfl, ?_⟩) (by assumption) ?_
    rotate_left
    focus (intro wq hSq; go_simp <;> with_reducible rfl)
    simp only [Act.put, List.setIfInBounds_toArray, List.set_cons_zero, List.set_cons_succ]
    refine takeL 10 (v := ?_) rfl (by kernel_rfl) (by kernel_rfl) (by kernel_rfl) (fun _ _ _ h => h) (Or.inl ⟨by rfl, ?_⟩) (by assumption) ?_
    rotate_left
    focus (intro wq hSq; go_simp <;> with_reducible rfl)
    simp only [Act.put, List.setIfInBounds_toArray, List.set_cons_zero, List.set_cons_succ]
    refine takeL 11 (v := ?_) rfl (by kernel_rfl) (by kernel_rfl) (by kernel_rfl) (fun _ _ _ h => h) (Or.inl ⟨by rfl, ?_⟩) (by assumption) ?_
    rotate_left
    focus (intro wq hSq; go_simp <;> with_reducible rfl)
    simp only [Act.put, List.setIfInBounds_toArray, List.set_cons_zero, List.set_cons_succ]
    refine wpAnyH_ready (rs := [12]) (by kernel_rfl) (by simp) (nextL 12 rfl (fun Kr hKr => ?_) AllReadyH.nil)
    rw [if_pos (by rfl)]
    obtain ⟨W4, hW4⟩ : ∃ W4, W3.drew = W4 := ⟨_, rfl⟩
    have X4 : MBox W4 b 1 3 g D false 0 0 (.slice none 0 0) (.slice none 0 0) := by rw [← hW4]; exact CBox.draws HX3.out 1
    have GB4 := Lib.hid (show w.grownBy W4 (some b) from by rw [← hW4]; exact GB.below GB3.out (Below.drew (Below.refl _ _)))
    rw [hW4]
    obtain ⟨x4, f4⟩ := CBox.at_ X4 4 _ rfl
    go_simp
    refine hKr.out _ _ trivial (fun hHeld2 => ?_)
    clear hKr x4 f4 hW4
    have X5 : MBox (W4.setCell ⟨b, 4, none⟩ (.bool q)) b 1 3 g D q 0 0 (.slice none 0 0) (.slice none 0 0) := CBox.set X4 4 _
    have GB5 := Lib.hid (show w.grownBy (W4.setCell ⟨b, 4, none⟩ (.bool q)) (some b) from GB.set GB4.out 4 _)
    refine takeL 13 (v := ?_) rfl (by kernel_rfl) (by kernel_rfl) (by kernel_rfl) (fun _ _ _ h => h) (Or.inl ⟨by rfl, ?_⟩) (by assumption) ?_
    rotate_left
    focus (intro wq hSq; go_simp <;> with_reducible rfl)
    simp only [Act.put, List.setIfInBounds_toArray, List.set_cons_zero, List.set_cons_succ]
    refine takeL 14 (v := ?_) rfl (by kernel_rfl) (by kernel_rfl) (by kernel_rfl) (fun _ _ _ h => h) (Or.inl ⟨by rfl, ?_⟩) (by assumption) ?_
    rotate_left
    focus (intro wq hSq; go_simp <;> with_reducible rfl)
    simp only [Act.put, List.setIfInBounds_toArray, List.set_cons_zero, List.set_cons_succ]
    refine wpAnyH_ready (rs := [15]) (by kernel_rfl) (by simp) (nextL 15 rfl (fun Kr hKr => ?_) AllReadyH.nil)
    rw [if_pos (by rfl)]
    obtain ⟨W5, hW5⟩ : ∃ W5, W4.setCell ⟨b, 4, none⟩ (.bool q) = W5 := ⟨_, rfl⟩
    rw [hW5] at X5 GB5 ⊢
    obtain ⟨x5, f5⟩ := CBox.at_ X5 5 _ rfl
    go_simp
    refine hKr.out _ _ trivial (fun hHeld3 => ?_)
    clear hKr x5 f5 hW5 X4
    refine wpAnyH_done (by kernel_rfl) ?_ _
    clear hHeld hHeld2 hHeld3
    have X6 : MBox (W5.setCell ⟨b, 5, none⟩ (.int .i64 r)) b 1 3 g D q r 0 (.slice none 0 0) (.slice none 0 0) := CBox.set X5 5 _
    have GB6 := Lib.hid (show w.grownBy (W5.setCell ⟨b, 5, none⟩ (.int .i64 r)) (some b) from GB.set GB5.out 5 _)
    obtain ⟨W6, hW6⟩ : ∃ W6, W5.setCell ⟨b, 5, none⟩ (.int .i64 r) = W6 := ⟨_, rfl⟩
    rw [hW6] at X6 GB6 ⊢
    have HX6 := Lib.hid X6
    clear X6 X5 hW6 hr2 hr1 hB hR k8
    by_cases h60 : 60 < N
    · have d60 : decide ((60 : Int) < N) = true := decide_eq_true (Int.ofNat_lt.2 h60)
      have d60' : decide (60 < N) = true := decide_eq_true h60
      have HE := Lib.hid (show longE s = 3 from by rw [HEX.out, if_pos h60])
      clear h60
      go_wp2_with (first | ((with_reducible refine (HD9.out _).mono ?_); rintro e w7 ⟨rfl, hb7⟩; have HX7 := Lib.hid (CBox.below HX6.out hb7 (CBox.lt HX6.out)); have GB7 := Lib.hid (GB.below GB6.out hb7); obtain ⟨x6, f6⟩ := CBox.at_ HX7.out 6 _ rfl; clear hb7) | ((with_reducible refine (HG.out _).mono ?_); rintro e w8 ⟨rfl, hb8⟩; have GB8 := Lib.hid (GB.below (GB.set GB7.out 6 _) hb8); clear hb8))
      go_ret
      exact ⟨by rw [HE.out]; rfl, GB8.out, fun e => absurd (HE.out.symm.trans e) (by decide)⟩
    · have d60 : decide ((60 : Int) < N) = false := decide_eq_false (fun h => h60 (Int.ofNat_lt.1 h))
      have d60' : decide (60 < N) = false := decide_eq_false h60
      have HAD := Lib.hid (fun W => addrs12 s N W HL.out.2 (by omega))
      obtain ⟨er, her⟩ : ∃ er : Int, er = if 12 + N * 4 ≤ s.length then 0 else 2 := ⟨_, rfl⟩
      obtain ⟨L, hLL⟩ : ∃ L, L = if 12 + N * 4 ≤ s.length then srcs s 12 N 4 else [] := ⟨_, rfl⟩
      rw [← her, ← hLL] at HAD
      have HE := Lib.hid (show longE s = er from by
        rw [HEX.out, if_neg h60, her]
        by_cases h : s.length < 12 + N * 4
        · rw [if_pos h, if_neg (by omega)]
        · rw [if_neg h, if_pos (by omega)])
      have HLR := Lib.hid (show er = 0 → L = srcs s 12 N 4 from fun h => by
        rw [hLL, if_pos]
        by_cases h' : 12 + N * 4 ≤ s.length
        · exact h'
        · rw [her, if_neg h'] at h; cases h)
      clear h60 her hLL
      go_wp2_with (first | ((with_reducible refine (HD9.out _).mono ?_); rintro e w7 ⟨rfl, hb7⟩; have HX7 := Lib.hid (CBox.below HX6.out hb7 (CBox.lt HX6.out)); have GB7 := Lib.hid (GB.below GB6.out hb7); obtain ⟨x6, f6⟩ := CBox.at_ HX7.out 6 _ rfl; clear hb7) | ((with_reducible refine (HG.out _).mono ?_); rintro e w8 ⟨rfl, hb8⟩; have HX8 := Lib.hid (CBox.below (CBox.set HX7.out 6 (.int .i64 F)) hb8 (CBox.lt (CBox.set HX7.out 6 (.int .i64 F)))); have GB8 := Lib.hid (GB.below (GB.set GB7.out 6 _) hb8); clear hb8 x6 f6) | ((with_reducible refine (HAD.out _).mono ?_); rintro e w9 ⟨v9, rfl, hv9, hl9, hb9⟩; obtain ⟨ao, cc, rfl⟩ := hv9.shape; have HX9 := Lib.hid (CBox.below HX8.out hb9 (CBox.lt HX8.out)); have GB9 := Lib.hid (GB.below GB8.out hb9); have HV9 := Lib.hid (And.intro hv9 (And.intro hl9 (CBox.lt HX8.out))); obtain ⟨x7, f7⟩ := CBox.at_ HX9.out 7 _ rfl; clear hb9 hv9 hl9))
      go_ret
      refine ⟨by rw [HE.out]; rfl, GB.set GB9.out 7 _, fun e => ?_⟩
      have hL := HLR.out (HE.out.symm.trans e)
      have hLl : L.length = N := by rw [hL, srcs_length]
      have hx9 : CBox (w9.setCell ⟨b, 7, none⟩ (.slice ao L.length cc)) b _ _ := CBox.set HX9.out 7 (.slice ao L.length cc)
      have hs9 := HV9.out.1.far HV9.out.2.1 (p := ⟨b, 7, none⟩) HV9.out.2.2 (.slice ao L.length cc)
      rw [HVA.out, HVC.out, HFQ.out, HFR.out, HN.out, HDF.out.1, HDF.out.2, ← hL, ← hLl]
      exact ⟨ao, cc, hx9, hs9, HV9.out.2.1.mono GB8.out.size⟩
end Go.Proofs.Ythkogdgfkhhleaa
