/- csum.Right, siphonref02.Sum; both Fills. -/
import Derived.Test.YthkogdgfkhhleaaJWords
import Derived.Test.YthkogdgfkhhleaaJRound
namespace Go.Proofs.Ythkogdgfkhhleaa
open Go.RowKit
set_option maxRecDepth 20000
set_option maxRecDepth 20000
attribute [local go_sem] bstr_size bstr_extract bstr_toList bstr_get

theorem right_any (s : Str) (w : World) (hs : s.length ≤ 140737488355328) :
    Calls Try.prog 23 #[.string (bstr s)] w fun e w' => e = .returned (.bool (decide (psum s = 0))) ∧ Below w.heap.size w w' := by
  have HC := Lib.hid (csum_any s w hs)
  obtain ⟨N, hN⟩ : ∃ N, N = psum s := ⟨_, rfl⟩
  rw [← hN] at HC ⊢
  have HB := Lib.hid (show ((N : Int) == 0) = decide (N = 0) from by
    by_cases h : N = 0
    · subst h; rfl
    · rw [decide_eq_false h]; exact beq_eq_false_iff_ne.2 (by omega))
  clear hN hs
  go_enter Try.func23, Try.ntmps23
  go_wp2_with ((with_reducible refine HC.out.mono ?_); rintro e w2 ⟨rfl, hb2⟩; have HB2 := Lib.hid hb2; clear hb2)
  go_ret
  exact ⟨ret_bool HB.out, HB2.out⟩

theorem rsum_any (s : Str) (w : World) (hs : s.length ≤ 140737488355328) :
    Calls Try.prog 28 #[.string (bstr s)] w fun e w' => e = .returned (.int .i64 (psum s)) ∧ w = w' := by
  have HC := Lib.hid (rtotal_any s w hs)
  have HS := Lib.hid (show (65535 : Int) - (tot s : Nat) = (psum s : Nat) from by have := (tot_spec s).1; unfold psum; omega)
  have hw : wrap64 ((65535 : Int) - (tot s : Nat)) = (65535 : Int) - (tot s : Nat) := by have := (tot_spec s).1; unfold wrap64; omega
  clear hs
  go_enter Try.func28, Try.ntmps28
  go_wp2_with ((with_reducible refine HC.out.mono ?_); rintro e w2 ⟨rfl, hw2⟩; subst w2)
  go_ret
  exact ⟨congrArg (fun x => Ending.returned (.int .i64 x)) (hw.trans HS.out), rfl⟩

theorem psum_le (s : Str) : psum s ≤ 65535 := by unfold psum; omega
theorem psum_putS (s : Str) : putS (psum s : Nat) 2 = ofN (psum s) 2 ∧ okPut (psum s : Nat) 2 = true := by
  have h := psum_le s
  have : okPut (psum s : Nat) 2 = true := by unfold okPut; simp; omega
  unfold putS
  rw [this]
  simp

set_option maxHeartbeats 1000000 in
theorem fill_any (a s : Str) (w : World) (ha : a.length % 2 = 0) (ha' : a.length ≤ 1000) (h4 : 4 ≤ s.length) (hs : s.length ≤ 1000000) :
    Calls Try.prog 35 #[.string (bstr a), .string (bstr s), .int .i64 2] w fun e w' => e = .returned (.tuple #[.string (bstr (fillS a s 2)), .int .i64 0]) ∧ Below w.heap.size w w' := by
  have hm : (bits .and .i64 (a.length : Int) 1 == 1) = false := by
    rw [show (1 : Int) = 2 ^ 1 - 1 from rfl, i64_mask 1 (by decide) _ (by omega) (by omega)]
    simp; omega
  have hw4 : IntKind.i64.wrap 4 = 4 := by decide
  have ht : List.take (s.length - 4) (s.drop 4) = s.drop 4 := List.take_of_length_le (by simp)
  have hm2 : (bits .and .i64 2 1 == 1) = false := by decide
  have hws : wrap64 ((s.length : Int) - 2) = s.length - 2 := by unfold wrap64; omega
  have d1 : decide ((s.length : Int) - 2 < 2) = false := decide_eq_false (by omega)
  have h4' : (4 : Int) ≤ s.length := by omega
  have h2' : (2 : Int) ≤ s.length := by omega
  have b00 : (⟨#[0, 0]⟩ : ByteArray) = bstr [0, 0] := by rw [bstr_eq]
  have HC := Lib.hid (fun W => csum_any (a ++ s.take 2 ++ [0, 0] ++ s.drop 4) W (by simp; omega))
  have hF : fillS a s 2 = s.take 2 ++ ofN (psum (a ++ s.take 2 ++ [0, 0] ++ s.drop 4)) 2 ++ s.drop 4 := rfl
  rw [hF]
  have HP := Lib.hid (fun W => put_any (psum (a ++ s.take 2 ++ [0, 0] ++ s.drop 4) : Nat) 2 W (by decide) (by decide))
  rw [(psum_putS _).1, (psum_putS _).2, if_pos rfl] at HP
  obtain ⟨N, hN⟩ : ∃ N, N = psum (a ++ s.take 2 ++ [0, 0] ++ s.drop 4) := ⟨_, rfl⟩
  rw [← hN] at HC HP ⊢
  obtain ⟨O, hO⟩ : ∃ O, O = ofN N 2 := ⟨_, rfl⟩
  rw [← hO] at HP ⊢
  have lO : O.length = 2 := by rw [hO, ofN_length]
  obtain ⟨X, hX⟩ : ∃ X, List.take 2 s = X := ⟨_, rfl⟩
  obtain ⟨D, hD⟩ : ∃ D, List.drop 4 s = D := ⟨_, rfl⟩
  have lX : X.length = 2 := by rw [← hX, List.length_take]; omega
  have lD : D.length ≤ 1000000 := by rw [← hD, List.length_drop]; omega
  rw [hX, hD] at HC ⊢
  rw [hD] at ht
  clear hN hO hF
  obtain ⟨X1, h1⟩ : ∃ X1, a ++ X = X1 := ⟨_, rfl⟩
  obtain ⟨X2, h2⟩ : ∃ X2, X1 ++ [0, 0] = X2 := ⟨_, rfl⟩
  obtain ⟨X3, h3⟩ : ∃ X3, X2 ++ D = X3 := ⟨_, rfl⟩
  obtain ⟨Y1, g1⟩ : ∃ Y1, X ++ O = Y1 := ⟨_, rfl⟩
  obtain ⟨Y2, g2⟩ : ∃ Y2, Y1 ++ D = Y2 := ⟨_, rfl⟩
  rw [h1, h2, h3] at HC
  rw [g1, g2]
  have l1 : X1.length ≤ 1002 := by rw [← h1, List.length_append]; omega
  have l2 : X2.length ≤ 1004 := by rw [← h2, List.length_append]; simp; omega
  have k1 : Y1.length = 4 := by rw [← g1, List.length_append]; omega
  have e1 : bstr a ++ bstr X = bstr X1 := by rw [bstr_append, h1]
  have e2 : bstr X1 ++ bstr [0, 0] = bstr X2 := by rw [bstr_append, h2]
  have e3 : bstr X2 ++ bstr D = bstr X3 := by rw [bstr_append, h3]
  have f1 : bstr X ++ bstr O = bstr Y1 := by rw [bstr_append, g1]
  have f2 : bstr Y1 ++ bstr D = bstr Y2 := by rw [bstr_append, g2]
  have n1 : ¬ 9223372036854775807 < a.length + 2 := by omega
  have n2 : ¬ 9223372036854775807 < X1.length + 2 := by omega
  have n3 : ¬ 9223372036854775807 < X2.length + D.length := by omega
  have n5 : ¬ 9223372036854775807 < 4 + D.length := by omega
  clear h1 h2 h3 g1 g2 l1 l2 lD ha ha' h4 hs
  go_enter Try.func35, Try.ntmps35
  go_upto_region 3 with fail
  have hd : Below w.heap.size w w.drew := Below.drew (Below.refl _ _)
  refine wp_region_held_drew (S := fun W' => Below w.heap.size w W') (by kernel_rfl) hd (fun hHeld => ?_)
  refine takeL 0 (v := ?_) rfl (by kernel_rfl) (by kernel_rfl) (by kernel_rfl) (fun _ _ _ h => h) (Or.inl ⟨by rfl, ?_⟩) (by assumption) ?_
  rotate_left
  focus (intro wq hSq; go_simp <;> with_reducible rfl)
  simp only [Act.put, List.setIfInBounds_toArray, List.set_cons_zero, List.set_cons_succ]
  refine takeL 1 (v := ?_) rfl (by kernel_rfl) (by kernel_rfl) (by kernel_rfl) (fun _ _ _ h => h) (Or.inl ⟨by rfl, ?_⟩) (by assumption) ?_
  rotate_left
  focus (intro wq hSq; go_simp <;> with_reducible rfl)
  simp only [Act.put, List.setIfInBounds_toArray, List.set_cons_zero, List.set_cons_succ]
  refine takeL 2 (v := ?_) rfl (by kernel_rfl) (by kernel_rfl) (by kernel_rfl) (fun _ _ _ h => h) (Or.inl ⟨by rfl, ?_⟩) (by assumption) ?_
  rotate_left
  focus (intro wq hSq; go_simp <;> with_reducible rfl)
  simp only [Act.put, List.setIfInBounds_toArray, List.set_cons_zero, List.set_cons_succ]
  refine takeL 3 (v := ?_) rfl (by kernel_rfl) (by kernel_rfl) (by kernel_rfl) (fun _ _ _ h => h) (Or.inl ⟨by rfl, ?_⟩) (by assumption) ?_
  rotate_left
  focus (intro wq hSq; go_simp <;> with_reducible rfl)
  simp only [Act.put, List.setIfInBounds_toArray, List.set_cons_zero, List.set_cons_succ]
  refine takeL 4 (v := ?_) rfl (by kernel_rfl) (by kernel_rfl) (by kernel_rfl) (fun _ _ _ h => h) (Or.inl ⟨by rfl, ?_⟩) (by assumption) ?_
  rotate_left
  focus (intro wq hSq; go_simp <;> with_reducible rfl)
  simp only [Act.put, List.setIfInBounds_toArray, List.set_cons_zero, List.set_cons_succ]
  refine takeL 5 (v := ?_) rfl (by kernel_rfl) (by kernel_rfl) (by kernel_rfl) (fun _ _ _ h => h) (Or.inl ⟨by rfl, ?_⟩) (by assumption) ?_
  rotate_left
  focus (intro wq hSq; go_simp <;> with_reducible rfl)
  simp only [Act.put, List.setIfInBounds_toArray, List.set_cons_zero, List.set_cons_succ]
  refine takeL 6 (v := ?_) rfl (by kernel_rfl) (by kernel_rfl) (by kernel_rfl) (fun _ _ _ h => h) (Or.inl ⟨by rfl, ?_⟩) (by assumption) ?_
  rotate_left
  focus (intro wq hSq; go_simp <;> with_reducible rfl)
  simp only [Act.put, List.setIfInBounds_toArray, List.set_cons_zero, List.set_cons_succ]
  refine takeL 7 (v := ?_) rfl (by kernel_rfl) (by kernel_rfl) (by kernel_rfl) (fun _ _ _ h => h) (Or.inl ⟨by rfl, ?_⟩) (by assumption) ?_
  rotate_left
  focus (intro wq hSq; go_simp <;> with_reducible rfl)
  simp only [Act.put, List.setIfInBounds_toArray, List.set_cons_zero, List.set_cons_succ]
  refine takeL 8 (v := ?_) rfl (by kernel_rfl) (by kernel_rfl) (by kernel_rfl) (fun _ _ _ h => h) (Or.inl ⟨by rfl, ?_⟩) (by assumption) ?_
  rotate_left
  focus (intro wq hSq; go_simp <;> with_reducible rfl)
  simp only [Act.put, List.setIfInBounds_toArray, List.set_cons_zero, List.set_cons_succ]
  refine takeL 9 (v := ?_) rfl (by kernel_rfl) (by kernel_rfl) (by kernel_rfl) (fun _ _ _ h => h) (Or.inl ⟨by rfl, ?_⟩) (by assumption) ?_
  rotate_left
  focus (intro wq hSq; go_simp <;> with_reducible rfl)
  simp only [Act.put, List.setIfInBounds_toArray, List.set_cons_zero, List.set_cons_succ]
  refine takeL 10 (v := ?_) rfl (by kernel_rfl) (by kernel_rfl) (by kernel_rfl) (fun _ _ _ h => h) (Or.inl ⟨by rfl, ?_⟩) (by assumption) ?_
  rotate_left
  focus (intro wq hSq; go_simp <;> with_reducible rfl)
  simp only [Act.put, List.setIfInBounds_toArray, List.set_cons_zero, List.set_cons_succ]
  refine wpAnyH_ready (rs := [11]) (by kernel_rfl) (by simp) (nextL 11 rfl (fun Kr hKr => ?_) AllReadyH.nil)
  rw [if_pos (by rfl)]
  go_simp
  refine (HC.out _).mono ?_
  rintro e w3 ⟨rfl, hb3⟩
  refine hKr.out _ _ (hd.trans hb3) (fun hHeld3 => ?_)
  clear hKr
  refine wpAnyH_ready (rs := [12]) (by kernel_rfl) (by simp) (nextL 12 rfl (fun Kr hKr => ?_) AllReadyH.nil)
  rw [if_pos (by rfl)]
  go_simp
  refine (HP.out _).mono ?_
  rintro e w4 ⟨rfl, hb4⟩
  refine hKr.out _ _ (hHeld3.trans (hb4.mono hHeld3.size)) (fun hHeld4 => ?_)
  clear hKr
  refine takeL 13 (v := ?_) rfl (by kernel_rfl) (by kernel_rfl) (by kernel_rfl) (fun _ _ _ h => h) (Or.inl ⟨by rfl, ?_⟩) (by assumption) ?_
  rotate_left
  focus (intro wq hSq; go_simp <;> with_reducible rfl)
  simp only [Act.put, List.setIfInBounds_toArray, List.set_cons_zero, List.set_cons_succ]
  refine takeL 14 (v := ?_) rfl (by kernel_rfl) (by kernel_rfl) (by kernel_rfl) (fun _ _ _ h => h) (Or.inl ⟨by rfl, ?_⟩) (by assumption) ?_
  rotate_left
  focus (intro wq hSq; go_simp <;> with_reducible rfl)
  simp only [Act.put, List.setIfInBounds_toArray, List.set_cons_zero, List.set_cons_succ]
  refine takeL 15 (v := ?_) rfl (by kernel_rfl) (by kernel_rfl) (by kernel_rfl) (fun _ _ _ h => h) (Or.inl ⟨by rfl, ?_⟩) (by assumption) ?_
  rotate_left
  focus (intro wq hSq; go_simp <;> with_reducible rfl)
  simp only [Act.put, List.setIfInBounds_toArray, List.set_cons_zero, List.set_cons_succ]
  refine takeL 16 (v := ?_) rfl (by kernel_rfl) (by kernel_rfl) (by kernel_rfl) (fun _ _ _ h => h) (Or.inl ⟨by rfl, ?_⟩) (by assumption) ?_
  rotate_left
  focus (intro wq hSq; go_simp <;> with_reducible rfl)
  simp only [Act.put, List.setIfInBounds_toArray, List.set_cons_zero, List.set_cons_succ]
  refine takeL 17 (v := ?_) rfl (by kernel_rfl) (by kernel_rfl) (by kernel_rfl) (fun _ _ _ h => h) (Or.inl ⟨by rfl, ?_⟩) (by assumption) ?_
  rotate_left
  focus (intro wq hSq; go_simp <;> with_reducible rfl)
  simp only [Act.put, List.setIfInBounds_toArray, List.set_cons_zero, List.set_cons_succ]
  refine wpAnyH_done (by kernel_rfl) ?_ _
  go_wp2_with fail
  have HB4 := Lib.hid hHeld4
  have hd4 : Below w4.heap.size w4 w4.drew := Below.drew (Below.refl _ _)
  clear hb3 hb4 hHeld3 hHeld4 hHeld HC HP
  refine wp_region_held_drew (S := fun W' => Below w4.heap.size w4 W') (by kernel_rfl) hd4 (fun hHeld => ?_)
  refine takeL 0 (v := ?_) rfl (by kernel_rfl) (by kernel_rfl) (by kernel_rfl) (fun _ _ _ h => h) (Or.inl ⟨by rfl, ?_⟩) (by assumption) ?_
  rotate_left
  focus (intro wq hSq; go_simp <;> with_reducible rfl)
  simp only [Act.put, List.setIfInBounds_toArray, List.set_cons_zero, List.set_cons_succ]
  refine takeL 1 (v := ?_) rfl (by kernel_rfl) (by kernel_rfl) (by kernel_rfl) (fun _ _ _ h => h) (Or.inl ⟨by rfl, ?_⟩) (by assumption) ?_
  rotate_left
  focus (intro wq hSq; go_simp <;> with_reducible rfl)
  simp only [Act.put, List.setIfInBounds_toArray, List.set_cons_zero, List.set_cons_succ]
  refine takeL 2 (v := ?_) rfl (by kernel_rfl) (by kernel_rfl) (by kernel_rfl) (fun _ _ _ h => h) (Or.inl ⟨by rfl, ?_⟩) (by assumption) ?_
  rotate_left
  focus (intro wq hSq; go_simp <;> with_reducible rfl)
  simp only [Act.put, List.setIfInBounds_toArray, List.set_cons_zero, List.set_cons_succ]
  refine takeL 3 (v := ?_) rfl (by kernel_rfl) (by kernel_rfl) (by kernel_rfl) (fun _ _ _ h => h) (Or.inl ⟨by rfl, ?_⟩) (by assumption) ?_
  rotate_left
  focus (intro wq hSq; go_simp <;> with_reducible rfl)
  simp only [Act.put, List.setIfInBounds_toArray, List.set_cons_zero, List.set_cons_succ]
  refine takeL 4 (v := ?_) rfl (by kernel_rfl) (by kernel_rfl) (by kernel_rfl) (fun _ _ _ h => h) (Or.inl ⟨by rfl, ?_⟩) (by assumption) ?_
  rotate_left
  focus (intro wq hSq; go_simp <;> with_reducible rfl)
  simp only [Act.put, List.setIfInBounds_toArray, List.set_cons_zero, List.set_cons_succ]
  refine takeL 5 (v := ?_) rfl (by kernel_rfl) (by kernel_rfl) (by kernel_rfl) (fun _ _ _ h => h) (Or.inl ⟨by rfl, ?_⟩) (by assumption) ?_
  rotate_left
  focus (intro wq hSq; go_simp <;> with_reducible rfl)
  simp only [Act.put, List.setIfInBounds_toArray, List.set_cons_zero, List.set_cons_succ]
  refine takeL 6 (v := ?_) rfl (by kernel_rfl) (by kernel_rfl) (by kernel_rfl) (fun _ _ _ h => h) (Or.inl ⟨by rfl, ?_⟩) (by assumption) ?_
  rotate_left
  focus (intro wq hSq; go_simp <;> with_reducible rfl)
  simp only [Act.put, List.setIfInBounds_toArray, List.set_cons_zero, List.set_cons_succ]
  refine takeL 7 (v := ?_) rfl (by kernel_rfl) (by kernel_rfl) (by kernel_rfl) (fun _ _ _ h => h) (Or.inl ⟨by rfl, ?_⟩) (by assumption) ?_
  rotate_left
  focus (intro wq hSq; go_simp <;> with_reducible rfl)
  simp only [Act.put, List.setIfInBounds_toArray, List.set_cons_zero, List.set_cons_succ]
  refine takeL 8 (v := ?_) rfl (by kernel_rfl) (by kernel_rfl) (by kernel_rfl) (fun _ _ _ h => h) (Or.inl ⟨by rfl, ?_⟩) (by assumption) ?_
  rotate_left
  focus (intro wq hSq; go_simp <;> with_reducible rfl)
  simp only [Act.put, List.setIfInBounds_toArray, List.set_cons_zero, List.set_cons_succ]
  refine takeL 9 (v := ?_) rfl (by kernel_rfl) (by kernel_rfl) (by kernel_rfl) (fun _ _ _ h => h) (Or.inl ⟨by rfl, ?_⟩) (by assumption) ?_
  rotate_left
  focus (intro wq hSq; go_simp <;> with_reducible rfl)
  simp only [Act.put, List.setIfInBounds_toArray, List.set_cons_zero, List.set_cons_succ]
  refine takeL 10 (v := ?_) rfl (by kernel_rfl) (by kernel_rfl) (by kernel_rfl) (fun _ _ _ h => h) (Or.inl ⟨by rfl, ?_⟩) (by assumption) ?_
  rotate_left
  focus (intro wq hSq; go_simp <;> with_reducible rfl)
  simp only [Act.put, List.setIfInBounds_toArray, List.set_cons_zero, List.set_cons_succ]
  refine takeL 11 (v := ?_) rfl (by kernel_rfl) (by kernel_rfl) (by kernel_rfl) (fun _ _ _ h => h) (Or.inl ⟨by rfl, ?_⟩) (by assumption) ?_
  rotate_left
  focus (intro wq hSq; go_simp <;> with_reducible rfl)
  simp only [Act.put, List.setIfInBounds_toArray, List.set_cons_zero, List.set_cons_succ]
  refine wpAnyH_done (by kernel_rfl) ?_ _
  go_wp2_with fail
  go_ret2
  exact ⟨rfl, HB4.out.trans (hd4.mono HB4.out.size)⟩
set_option maxHeartbeats 1000000 in
theorem rfill_any (a s : Str) (w : World) (ha : a.length % 2 = 0) (ha' : a.length ≤ 1000) (h4 : 4 ≤ s.length) (hs : s.length ≤ 1000000) :
    Calls Try.prog 24 #[.string (bstr a), .string (bstr s), .int .i64 2] w fun e w' => e = .returned (.tuple #[.string (bstr (fillS a s 2)), .int .i64 0]) ∧ Below w.heap.size w w' := by
  have hm : (((a.length : Int) % 2) == 1) = false := beq_eq_false_iff_ne.2 (by omega)
  have hm3 : ((Int.tmod (a.length : Int) 2) == 1) = false := beq_eq_false_iff_ne.2 (by rw [Int.tmod_eq_emod_of_nonneg (by omega)]; omega)
  have hw4 : IntKind.i64.wrap 4 = 4 := by decide
  have ht : List.take (s.length - 4) (s.drop 4) = s.drop 4 := List.take_of_length_le (by simp)
  have hm2 : (bits .and .i64 2 1 == 1) = false := by decide
  have hws : wrap64 ((s.length : Int) - 2) = s.length - 2 := by unfold wrap64; omega
  have d1 : decide ((s.length : Int) - 2 < 2) = false := decide_eq_false (by omega)
  have h4' : (4 : Int) ≤ s.length := by omega
  have h2' : (2 : Int) ≤ s.length := by omega
  have b00 : (⟨#[0, 0]⟩ : ByteArray) = bstr [0, 0] := by rw [bstr_eq]
  have HC := Lib.hid (fun W => rsum_any (a ++ s.take 2 ++ [0, 0] ++ s.drop 4) W (by simp; omega))
  have hF : fillS a s 2 = s.take 2 ++ ofN (psum (a ++ s.take 2 ++ [0, 0] ++ s.drop 4)) 2 ++ s.drop 4 := rfl
  rw [hF]
  have HP := Lib.hid (fun W => of_any (psum (a ++ s.take 2 ++ [0, 0] ++ s.drop 4)) 2 W (by decide) (by decide) (by have := psum_le (a ++ s.take 2 ++ [0, 0] ++ s.drop 4); omega))
  obtain ⟨N, hN⟩ : ∃ N, N = psum (a ++ s.take 2 ++ [0, 0] ++ s.drop 4) := ⟨_, rfl⟩
  rw [← hN] at HC HP ⊢
  obtain ⟨O, hO⟩ : ∃ O, O = ofN N 2 := ⟨_, rfl⟩
  rw [← hO] at HP ⊢
  have lO : O.length = 2 := by rw [hO, ofN_length]
  obtain ⟨X, hX⟩ : ∃ X, List.take 2 s = X := ⟨_, rfl⟩
  obtain ⟨D, hD⟩ : ∃ D, List.drop 4 s = D := ⟨_, rfl⟩
  have lX : X.length = 2 := by rw [← hX, List.length_take]; omega
  have lD : D.length ≤ 1000000 := by rw [← hD, List.length_drop]; omega
  rw [hX, hD] at HC ⊢
  rw [hD] at ht
  clear hN hO hF
  obtain ⟨X1, h1⟩ : ∃ X1, a ++ X = X1 := ⟨_, rfl⟩
  obtain ⟨X2, h2⟩ : ∃ X2, X1 ++ [0, 0] = X2 := ⟨_, rfl⟩
  obtain ⟨X3, h3⟩ : ∃ X3, X2 ++ D = X3 := ⟨_, rfl⟩
  obtain ⟨Y1, g1⟩ : ∃ Y1, X ++ O = Y1 := ⟨_, rfl⟩
  obtain ⟨Y2, g2⟩ : ∃ Y2, Y1 ++ D = Y2 := ⟨_, rfl⟩
  rw [h1, h2, h3] at HC
  rw [g1, g2]
  have l1 : X1.length ≤ 1002 := by rw [← h1, List.length_append]; omega
  have l2 : X2.length ≤ 1004 := by rw [← h2, List.length_append]; simp; omega
  have k1 : Y1.length = 4 := by rw [← g1, List.length_append]; omega
  have e1 : bstr a ++ bstr X = bstr X1 := by rw [bstr_append, h1]
  have e2 : bstr X1 ++ bstr [0, 0] = bstr X2 := by rw [bstr_append, h2]
  have e3 : bstr X2 ++ bstr D = bstr X3 := by rw [bstr_append, h3]
  have f1 : bstr X ++ bstr O = bstr Y1 := by rw [bstr_append, g1]
  have f2 : bstr Y1 ++ bstr D = bstr Y2 := by rw [bstr_append, g2]
  have n1 : ¬ 9223372036854775807 < a.length + 2 := by omega
  have n2 : ¬ 9223372036854775807 < X1.length + 2 := by omega
  have n3 : ¬ 9223372036854775807 < X2.length + D.length := by omega
  have n5 : ¬ 9223372036854775807 < 4 + D.length := by omega
  clear h1 h2 h3 g1 g2 l1 l2 lD ha ha' h4 hs
  go_enter Try.func24, Try.ntmps24
  go_upto_region 3 with fail
  have hd : Below w.heap.size w w.drew := Below.drew (Below.refl _ _)
  refine wp_region_held_drew (S := fun W' => Below w.heap.size w W') (by kernel_rfl) hd (fun hHeld => ?_)
  refine takeL 0 (v := ?_) rfl (by kernel_rfl) (by kernel_rfl) (by kernel_rfl) (fun _ _ _ h => h) (Or.inl ⟨by rfl, ?_⟩) (by assumption) ?_
  rotate_left
  focus (intro wq hSq; go_simp <;> with_reducible rfl)
  simp only [Act.put, List.setIfInBounds_toArray, List.set_cons_zero, List.set_cons_succ]
  refine takeL 1 (v := ?_) rfl (by kernel_rfl) (by kernel_rfl) (by kernel_rfl) (fun _ _ _ h => h) (Or.inl ⟨by rfl, ?_⟩) (by assumption) ?_
  rotate_left
  focus (intro wq hSq; go_simp <;> with_reducible rfl)
  simp only [Act.put, List.setIfInBounds_toArray, List.set_cons_zero, List.set_cons_succ]
  refine takeL 2 (v := ?_) rfl (by kernel_rfl) (by kernel_rfl) (by kernel_rfl) (fun _ _ _ h => h) (Or.inl ⟨by rfl, ?_⟩) (by assumption) ?_
  rotate_left
  focus (intro wq hSq; go_simp <;> with_reducible rfl)
  simp only [Act.put, List.setIfInBounds_toArray, List.set_cons_zero, List.set_cons_succ]
  refine takeL 3 (v := ?_) rfl (by kernel_rfl) (by kernel_rfl) (by kernel_rfl) (fun _ _ _ h => h) (Or.inl ⟨by rfl, ?_⟩) (by assumption) ?_
  rotate_left
  focus (intro wq hSq; go_simp <;> with_reducible rfl)
  simp only [Act.put, List.setIfInBounds_toArray, List.set_cons_zero, List.set_cons_succ]
  refine takeL 4 (v := ?_) rfl (by kernel_rfl) (by kernel_rfl) (by kernel_rfl) (fun _ _ _ h => h) (Or.inl ⟨by rfl, ?_⟩) (by assumption) ?_
  rotate_left
  focus (intro wq hSq; go_simp <;> with_reducible rfl)
  simp only [Act.put, List.setIfInBounds_toArray, List.set_cons_zero, List.set_cons_succ]
  refine takeL 5 (v := ?_) rfl (by kernel_rfl) (by kernel_rfl) (by kernel_rfl) (fun _ _ _ h => h) (Or.inl ⟨by rfl, ?_⟩) (by assumption) ?_
  rotate_left
  focus (intro wq hSq; go_simp <;> with_reducible rfl)
  simp only [Act.put, List.setIfInBounds_toArray, List.set_cons_zero, List.set_cons_succ]
  refine takeL 6 (v := ?_) rfl (by kernel_rfl) (by kernel_rfl) (by kernel_rfl) (fun _ _ _ h => h) (Or.inl ⟨by rfl, ?_⟩) (by assumption) ?_
  rotate_left
  focus (intro wq hSq; go_simp <;> with_reducible rfl)
  simp only [Act.put, List.setIfInBounds_toArray, List.set_cons_zero, List.set_cons_succ]
  refine takeL 7 (v := ?_) rfl (by kernel_rfl) (by kernel_rfl) (by kernel_rfl) (fun _ _ _ h => h) (Or.inl ⟨by rfl, ?_⟩) (by assumption) ?_
  rotate_left
  focus (intro wq hSq; go_simp <;> with_reducible rfl)
  simp only [Act.put, List.setIfInBounds_toArray, List.set_cons_zero, List.set_cons_succ]
  refine takeL 8 (v := ?_) rfl (by kernel_rfl) (by kernel_rfl) (by kernel_rfl) (fun _ _ _ h => h) (Or.inl ⟨by rfl, ?_⟩) (by assumption) ?_
  rotate_left
  focus (intro wq hSq; go_simp <;> with_reducible rfl)
  simp only [Act.put, List.setIfInBounds_toArray, List.set_cons_zero, List.set_cons_succ]
  refine takeL 9 (v := ?_) rfl (by kernel_rfl) (by kernel_rfl) (by kernel_rfl) (fun _ _ _ h => h) (Or.inl ⟨by rfl, ?_⟩) (by assumption) ?_
  rotate_left
  focus (intro wq hSq; go_simp <;> with_reducible rfl)
  simp only [Act.put, List.setIfInBounds_toArray, List.set_cons_zero, List.set_cons_succ]
  refine takeL 10 (v := ?_) rfl (by kernel_rfl) (by kernel_rfl) (by kernel_rfl) (fun _ _ _ h => h) (Or.inl ⟨by rfl, ?_⟩) (by assumption) ?_
  rotate_left
  focus (intro wq hSq; go_simp <;> with_reducible rfl)
  simp only [Act.put, List.setIfInBounds_toArray, List.set_cons_zero, List.set_cons_succ]
  refine wpAnyH_ready (rs := [11]) (by kernel_rfl) (by simp) (nextL 11 rfl (fun Kr hKr => ?_) AllReadyH.nil)
  rw [if_pos (by rfl)]
  go_simp
  refine (HC.out _).mono ?_
  rintro e w3 ⟨rfl, hw3⟩
  subst hw3
  refine hKr.out _ _ hd (fun hHeld3 => ?_)
  clear hKr
  refine takeL 12 (v := ?_) rfl (by kernel_rfl) (by kernel_rfl) (by kernel_rfl) (fun _ _ _ h => h) (Or.inl ⟨by rfl, ?_⟩) (by assumption) ?_
  rotate_left
  focus (intro wq hSq; go_simp <;> with_reducible rfl)
  simp only [Act.put, List.setIfInBounds_toArray, List.set_cons_zero, List.set_cons_succ]
  refine wpAnyH_done (by kernel_rfl) ?_ _
  go_wp2_with fail
  have HB4 := Lib.hid hd
  have hd4 : Below w.drew.heap.size w.drew w.drew.drew := Below.drew (Below.refl _ _)
  clear hHeld3 hHeld HC hd
  generalize w.drew = w4 at *
  refine wp_region_held_drew (S := fun W' => Below w4.heap.size w4 W') (by kernel_rfl) hd4 (fun hHeld => ?_)
  refine takeL 0 (v := ?_) rfl (by kernel_rfl) (by kernel_rfl) (by kernel_rfl) (fun _ _ _ h => h) (Or.inl ⟨by rfl, ?_⟩) (by assumption) ?_
  rotate_left
  focus (intro wq hSq; go_simp <;> with_reducible rfl)
  simp only [Act.put, List.setIfInBounds_toArray, List.set_cons_zero, List.set_cons_succ]
  refine takeL 1 (v := ?_) rfl (by kernel_rfl) (by kernel_rfl) (by kernel_rfl) (fun _ _ _ h => h) (Or.inl ⟨by rfl, ?_⟩) (by assumption) ?_
  rotate_left
  focus (intro wq hSq; go_simp <;> with_reducible rfl)
  simp only [Act.put, List.setIfInBounds_toArray, List.set_cons_zero, List.set_cons_succ]
  refine takeL 2 (v := ?_) rfl (by kernel_rfl) (by kernel_rfl) (by kernel_rfl) (fun _ _ _ h => h) (Or.inl ⟨by rfl, ?_⟩) (by assumption) ?_
  rotate_left
  focus (intro wq hSq; go_simp <;> with_reducible rfl)
  simp only [Act.put, List.setIfInBounds_toArray, List.set_cons_zero, List.set_cons_succ]
  refine takeL 3 (v := ?_) rfl (by kernel_rfl) (by kernel_rfl) (by kernel_rfl) (fun _ _ _ h => h) (Or.inl ⟨by rfl, ?_⟩) (by assumption) ?_
  rotate_left
  focus (intro wq hSq; go_simp <;> with_reducible rfl)
  simp only [Act.put, List.setIfInBounds_toArray, List.set_cons_zero, List.set_cons_succ]
  refine takeL 6 (v := ?_) rfl (by kernel_rfl) (by kernel_rfl) (by kernel_rfl) (fun _ _ _ h => h) (Or.inl ⟨by rfl, ?_⟩) (by assumption) ?_
  rotate_left
  focus (intro wq hSq; go_simp <;> with_reducible rfl)
  simp only [Act.put, List.setIfInBounds_toArray, List.set_cons_zero, List.set_cons_succ]
  refine takeL 7 (v := ?_) rfl (by kernel_rfl) (by kernel_rfl) (by kernel_rfl) (fun _ _ _ h => h) (Or.inl ⟨by rfl, ?_⟩) (by assumption) ?_
  rotate_left
  focus (intro wq hSq; go_simp <;> with_reducible rfl)
  simp only [Act.put, List.setIfInBounds_toArray, List.set_cons_zero, List.set_cons_succ]
  refine takeL 8 (v := ?_) rfl (by kernel_rfl) (by kernel_rfl) (by kernel_rfl) (fun _ _ _ h => h) (Or.inl ⟨by rfl, ?_⟩) (by assumption) ?_
  rotate_left
  focus (intro wq hSq; go_simp <;> with_reducible rfl)
  simp only [Act.put, List.setIfInBounds_toArray, List.set_cons_zero, List.set_cons_succ]
  refine takeL 9 (v := ?_) rfl (by kernel_rfl) (by kernel_rfl) (by kernel_rfl) (fun _ _ _ h => h) (Or.inl ⟨by rfl, ?_⟩) (by assumption) ?_
  rotate_left
  focus (intro wq hSq; go_simp <;> with_reducible rfl)
  simp only [Act.put, List.setIfInBounds_toArray, List.set_cons_zero, List.set_cons_succ]
  refine wpAnyH_ready (rs := [4]) (by kernel_rfl) (by simp) (nextL 4 rfl (fun Kr hKr => ?_) AllReadyH.nil)
  rw [if_pos (by rfl)]
  go_simp
  refine (HP.out _).mono ?_
  rintro e w5 ⟨rfl, hb5⟩
  refine hKr.out _ _ (hd4.trans (hb5.mono hd4.size)) (fun hHeld5 => ?_)
  clear hKr
  refine takeL 5 (v := ?_) rfl (by kernel_rfl) (by kernel_rfl) (by kernel_rfl) (fun _ _ _ h => h) (Or.inl ⟨by rfl, ?_⟩) (by assumption) ?_
  rotate_left
  focus (intro wq hSq; go_simp <;> with_reducible rfl)
  simp only [Act.put, List.setIfInBounds_toArray, List.set_cons_zero, List.set_cons_succ]
  refine takeL 10 (v := ?_) rfl (by kernel_rfl) (by kernel_rfl) (by kernel_rfl) (fun _ _ _ h => h) (Or.inl ⟨by rfl, ?_⟩) (by assumption) ?_
  rotate_left
  focus (intro wq hSq; go_simp <;> with_reducible rfl)
  simp only [Act.put, List.setIfInBounds_toArray, List.set_cons_zero, List.set_cons_succ]
  refine takeL 11 (v := ?_) rfl (by kernel_rfl) (by kernel_rfl) (by kernel_rfl) (fun _ _ _ h => h) (Or.inl ⟨by rfl, ?_⟩) (by assumption) ?_
  rotate_left
  focus (intro wq hSq; go_simp <;> with_reducible rfl)
  simp only [Act.put, List.setIfInBounds_toArray, List.set_cons_zero, List.set_cons_succ]
  refine takeL 12 (v := ?_) rfl (by kernel_rfl) (by kernel_rfl) (by kernel_rfl) (fun _ _ _ h => h) (Or.inl ⟨by rfl, ?_⟩) (by assumption) ?_
  rotate_left
  focus (intro wq hSq; go_simp <;> with_reducible rfl)
  simp only [Act.put, List.setIfInBounds_toArray, List.set_cons_zero, List.set_cons_succ]
  refine wpAnyH_done (by kernel_rfl) ?_ _
  go_wp2_with fail
  go_ret2
  exact ⟨rfl, HB4.out.trans (hHeld5.mono HB4.out.size)⟩
end Go.Proofs.Ythkogdgfkhhleaa
