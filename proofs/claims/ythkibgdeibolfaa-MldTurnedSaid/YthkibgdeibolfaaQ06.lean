/- Texts joined into one file: JGrp, JDec. -/
import Derived.Test.YthkibgdeibolfaaQ05

/- Groups: ether.Group, igmp.isGroup, siphonref03.IsGroup, siphonref08.group, igmp.isSize, known. -/
namespace Go.Proofs.Ythkibgdeibolfaa
open Go.RowKit
set_option maxRecDepth 20000
set_option maxRecDepth 20000
attribute [local go_sem] bstr_size bstr_extract bstr_toList bstr_get

theorem len4 {a : Str} (h : a.length = 4) : ∃ x y z t, a = [x, y, z, t] := by
  match a, h with
  | [x, y, z, t], _ => exact ⟨x, y, z, t, rfl⟩
theorem isG4 (x y z t : UInt8) : isG [x, y, z, t] = (decide (224 ≤ x.toNat) && decide (x.toNat ≤ 239)) := rfl
theorem byte_shr4 (x : UInt8) : (((x.toNat : Int) / 16) == 14) = (decide (224 ≤ x.toNat) && decide (x.toNat ≤ 239)) := by
  rw [← Bool.decide_and]
  by_cases h : 224 ≤ x.toNat ∧ x.toNat ≤ 239
  · rw [decide_eq_true h]; exact beq_iff_eq.2 (by omega)
  · rw [decide_eq_false h]; exact beq_eq_false_iff_ne.2 (by omega)

set_option maxHeartbeats 1000000 in
theorem rgrp_any (a : Str) (w : World) (ha : a.length ≤ maxLen) :
    Calls Try.prog 56 #[.string (bstr a)] w fun e w' => e = .returned (.bool (isG a)) ∧ w = w' := by
  by_cases h4 : a.length = 4
  · obtain ⟨x, y, z, t, rfl⟩ := len4 h4
    rw [isG4]
    have d1 : decide ((224 : Int) ≤ x.toNat) = decide (224 ≤ x.toNat) := decide_eq_decide.2 (by omega)
    have d2 : decide ((x.toNat : Int) ≤ 239) = decide (x.toNat ≤ 239) := decide_eq_decide.2 (by omega)
    cases q1 : decide (224 ≤ x.toNat)
    · rw [q1] at d1
      clear q1 d2 ha h4
      go_enter Try.func56, Try.ntmps56
      go_wp2_with fail
      go_ret
      exact ⟨rfl, rfl⟩
    · rw [q1] at d1
      cases q2 : decide (x.toNat ≤ 239)
      all_goals
        rw [q2] at d2
        clear q1 q2 ha h4
        go_enter Try.func56, Try.ntmps56
        go_wp2_with fail
        go_ret
        exact ⟨rfl, rfl⟩
  · have hne4 : ((a.length : Int) == 4) = false := beq_eq_false_iff_ne.2 (by omega)
    unfold isG
    rw [if_neg h4]
    by_cases h16 : a.length = 16
    · have he16 : ((a.length : Int) == 16) = true := beq_iff_eq.2 (by omega)
      have h0 : 0 < a.length := by omega
      have h0' : (0 : Int) < a.length := by omega
      have d1 : (((a[0]'h0).toNat : Int) == 255) = decide ((a.getD 0 0).toNat = 255) := by
        rw [List.getD_eq_getElem?_getD, List.getElem?_eq_getElem h0]
        by_cases e : (a[0]'h0).toNat = 255
        · simp [e]
        · have : ¬ (((a[0]'h0).toNat : Int) = 255) := by omega
          simp [e, this]
      rw [decide_eq_true h16]
      obtain ⟨B, hB⟩ : ∃ B, B = decide ((a.getD 0 0).toNat = 255) := ⟨_, rfl⟩
      rw [← hB] at d1 ⊢
      clear hB h4 h16 ha
      go_enter Try.func56, Try.ntmps56
      go_wp2_with fail
      go_ret
      exact ⟨rfl, rfl⟩
    · have hne16 : ((a.length : Int) == 16) = false := beq_eq_false_iff_ne.2 (by omega)
      rw [decide_eq_false h16]
      clear h4 h16 ha
      go_enter Try.func56, Try.ntmps56
      go_wp2_with fail
      go_ret
      exact ⟨rfl, rfl⟩

theorem byte_and127 (y : UInt8) : bits .and .u8 (y.toNat : Int) 127 = (y.toNat % 128 : Nat) := by
  have h := y.toNat_lt
  have := u8_and_nat y.toNat 127 (by omega) (by omega)
  rw [nat_mask7] at this
  exact this

def grpE (a : Str) : Int := if isG a then 0 else 1
set_option maxHeartbeats 1000000 in
theorem egroup_any (a : Str) (w : World) (ha : a.length ≤ maxLen) :
    Calls Try.prog 77 #[.string (bstr a)] w fun e w' => (∃ m : Str, e = .returned (.tuple #[.string (bstr m), .int .i64 (grpE a)])) ∧ Below w.heap.size w w' := by
  unfold grpE
  by_cases h4 : a.length = 4
  · obtain ⟨x, y, z, t, rfl⟩ := len4 h4
    have d1 := byte_shr4 x
    rw [← isG4 x y z t] at d1
    cases q : isG [x, y, z, t]
    · rw [q] at d1
      clear q ha h4
      go_enter Try.func77, Try.ntmps77
      go_wp2_with fail
      go_ret2
      exact ⟨⟨[], by rw [bstr_nil]; rfl⟩, Below.refl _ _⟩
    · rw [q] at d1
      have hy := byte_and127 y
      have b3 : (⟨#[1, 0, 94]⟩ : ByteArray) = bstr [1, 0, 94] := by rw [bstr_eq]
      clear q ha h4
      go_enter Try.func77, Try.ntmps77
      go_upto_region 2 with fail
      have hd : Below w.heap.size w w.drew := Below.drew (Below.refl _ _)
      refine wp_region_held_drew (S := fun W' => Below w.heap.size w W') (by kernel_rfl) hd (fun hHeld => ?_)
      refine takeL 0 (v := ?_) rfl (by kernel_rfl) (by kernel_rfl) (by kernel_rfl) (fun _ _ _ h => h) (Or.inl ⟨by rfl, ?_⟩) (by assumption) ?_
      rotate_left
      focus (intro wq hSq; go_simp <;> with_reducible rfl)
      simp only [Act.put, List.setIfInBounds_toArray, List.set_cons_zero, List.set_cons_succ]
      refine takeL 1 (v := ?_) rfl (by kernel_rfl) (by kernel_rfl) (by kernel_rfl) (fun _ _ _ h => h) (Or.inl ⟨by rfl, ?_⟩) (by assumption) ?_
      rotate_left
      focus (intro wq hSq; go_simp <;> with_reducible rfl)
      simp only [Act.put, List.setIfInBounds_toArray, List.set_cons_zero, List.set_cons_succ]
      refine takeL 2 (v := ?_) rfl (by kernel_rfl) (by kernel_rfl) (by kernel_rfl) (fun _ _ _ h => h) (Or.inl ⟨by rfl, ?_⟩) (by assumption) ?_
      rotate_left
      focus (intro wq hSq; go_simp <;> with_reducible rfl)
      simp only [Act.put, List.setIfInBounds_toArray, List.set_cons_zero, List.set_cons_succ]
      refine takeL 6 (v := ?_) rfl (by kernel_rfl) (by kernel_rfl) (by kernel_rfl) (fun _ _ _ h => h) (Or.inl ⟨by rfl, ?_⟩) (by assumption) ?_
      rotate_left
      focus (intro wq hSq; go_simp <;> with_reducible rfl)
      simp only [Act.put, List.setIfInBounds_toArray, List.set_cons_zero, List.set_cons_succ]
      refine takeL 7 (v := ?_) rfl (by kernel_rfl) (by kernel_rfl) (by kernel_rfl) (fun _ _ _ h => h) (Or.inl ⟨by rfl, ?_⟩) (by assumption) ?_
      rotate_left
      focus (intro wq hSq; go_simp <;> with_reducible rfl)
      simp only [Act.put, List.setIfInBounds_toArray, List.set_cons_zero, List.set_cons_succ]
      refine wpAnyH_ready (rs := [3]) (by kernel_rfl) (by simp) (nextL 3 rfl (fun Kr hKr => ?_) AllReadyH.nil)
      rw [if_pos (by rfl)]
      go_simp
      obtain ⟨W1, hW1⟩ : ∃ W1, (w.alloc (Obj.cells #[.int .u8 ((y.toNat : Int) % 128)] 5)).drew = W1 := ⟨_, rfl⟩
      have hB1 : Below w.heap.size w W1 := by rw [← hW1]; exact Below.drew ((Below.refl _ _).alloc (Nat.le_refl _) _)
      have hX1 : CBox W1 w.heap.size 5 #[.int .u8 ((y.toNat : Int) % 128)] := by rw [← hW1]; show CBox (w.alloc _) _ _ _; exact CBox.new _ rfl
      have hst : (convert 39 9 (.slice (some ⟨w.heap.size, 0, none⟩) 1 1)).run Try.prog W1 = .ok (.string (bstr [UInt8.ofNat (y.toNat % 128)])) W1 :=
        run_string_b (P := Try.prog) W1 39 9 5 w.heap.size 1 [UInt8.ofNat (y.toNat % 128)] Try.underlying39 Try.underlying5 Try.underlying9 (fun j hj => ⟨hX1.lt, by
          have : j = 0 := by simpa using hj
          subst this
          refine (hX1.at_ 0 _ rfl).1.trans ?_
          have : (UInt8.ofNat (y.toNat % 128)).toNat = y.toNat % 128 := by rw [UInt8.toNat_ofNat']; omega
          simp only [List.getD_eq_getElem?_getD, List.getElem?_cons_zero, Option.getD_some, this]
          rfl⟩)
      rw [hW1]
      have e3 : bstr [1, 0, 94] ++ bstr [UInt8.ofNat (y.toNat % 128)] = bstr [1, 0, 94, UInt8.ofNat (y.toNat % 128)] := bstr_append _ _
      have e4 : bstr [1, 0, 94, UInt8.ofNat (y.toNat % 128)] ++ bstr [z, t] = bstr [1, 0, 94, UInt8.ofNat (y.toNat % 128), z, t] := bstr_append _ _
      refine hKr.out _ _ hB1 (fun hHeld2 => ?_)
      clear hKr hHeld
      refine wpAnyH_ready (rs := [4]) (by kernel_rfl) (by simp) (nextL 4 rfl (fun Kr hKr => ?_) AllReadyH.nil)
      rw [if_pos (by rfl)]
      go_simp
      refine hKr.out _ _ hB1 (fun hHeld3 => ?_)
      clear hKr hHeld2
      refine takeL 5 (v := ?_) rfl (by kernel_rfl) (by kernel_rfl) (by kernel_rfl) (fun _ _ _ h => h) (Or.inl ⟨by rfl, ?_⟩) (by assumption) ?_
      rotate_left
      focus (intro wq hSq; go_simp <;> with_reducible rfl)
      simp only [Act.put, List.setIfInBounds_toArray, List.set_cons_zero, List.set_cons_succ]
      refine takeL 8 (v := ?_) rfl (by kernel_rfl) (by kernel_rfl) (by kernel_rfl) (fun _ _ _ h => h) (Or.inl ⟨by rfl, ?_⟩) (by assumption) ?_
      rotate_left
      focus (intro wq hSq; go_simp <;> with_reducible rfl)
      simp only [Act.put, List.setIfInBounds_toArray, List.set_cons_zero, List.set_cons_succ]
      refine takeL 9 (v := ?_) rfl (by kernel_rfl) (by kernel_rfl) (by kernel_rfl) (fun _ _ _ h => h) (Or.inl ⟨by rfl, ?_⟩) (by assumption) ?_
      rotate_left
      focus (intro wq hSq; go_simp <;> with_reducible rfl)
      simp only [Act.put, List.setIfInBounds_toArray, List.set_cons_zero, List.set_cons_succ]
      refine takeL 10 (v := ?_) rfl (by kernel_rfl) (by kernel_rfl) (by kernel_rfl) (fun _ _ _ h => h) (Or.inl ⟨by rfl, ?_⟩) (by assumption) ?_
      rotate_left
      focus (intro wq hSq; go_simp <;> with_reducible rfl)
      simp only [Act.put, List.setIfInBounds_toArray, List.set_cons_zero, List.set_cons_succ]
      refine wpAnyH_done (by kernel_rfl) ?_ _
      go_wp2_with fail
      go_ret2
      exact ⟨⟨_, rfl⟩, hB1⟩
  · have hne4 : ((a.length : Int) == 4) = false := beq_eq_false_iff_ne.2 (by omega)
    unfold isG
    rw [if_neg h4]
    by_cases h16 : a.length = 16
    · have he16 : ((a.length : Int) == 16) = true := beq_iff_eq.2 (by omega)
      have h0 : 0 < a.length := by omega
      have h0' : (0 : Int) < a.length := by omega
      have d1 : (((a[0]'h0).toNat : Int) == 255) = decide ((a.getD 0 0).toNat = 255) := by
        rw [List.getD_eq_getElem?_getD, List.getElem?_eq_getElem h0]
        by_cases e : (a[0]'h0).toNat = 255
        · simp [e]
        · have : ¬ (((a[0]'h0).toNat : Int) = 255) := by omega
          simp [e, this]
      rw [decide_eq_true h16]
      obtain ⟨B, hB⟩ : ∃ B, B = decide ((a.getD 0 0).toNat = 255) := ⟨_, rfl⟩
      rw [← hB] at d1 ⊢
      have h12 : (12 : Int) ≤ a.length := by omega
      have lD : (a.drop 12).length = 4 := by simp; omega
      have htk : List.take (a.length - 12) (a.drop 12) = a.drop 12 := List.take_of_length_le (by simp)
      obtain ⟨D, hD⟩ : ∃ D, a.drop 12 = D := ⟨_, rfl⟩
      rw [hD] at htk lD
      have b2 : (⟨#[51, 51]⟩ : ByteArray) = bstr [51, 51] := by rw [bstr_eq]
      have e2 : bstr [51, 51] ++ bstr D = bstr ([51, 51] ++ D) := bstr_append _ _
      clear hB h4 h16 ha
      cases B
      · go_enter Try.func77, Try.ntmps77
        go_wp2_with fail
        go_ret2
        exact ⟨⟨[], by rw [bstr_nil]; rfl⟩, Below.refl _ _⟩
      · go_enter Try.func77, Try.ntmps77
        go_wp2_with fail
        go_ret2
        exact ⟨⟨_, rfl⟩, Below.refl _ _⟩
    · have hne16 : ((a.length : Int) == 16) = false := beq_eq_false_iff_ne.2 (by omega)
      rw [decide_eq_false h16]
      clear h4 h16 ha
      go_enter Try.func77, Try.ntmps77
      go_wp2_with fail
      go_ret2
      exact ⟨⟨[], by rw [bstr_nil]; rfl⟩, Below.refl _ _⟩

theorem isGroup_any (a : Str) (n : Nat) (w : World) (ha : a.length ≤ maxLen) :
    Calls Try.prog 78 #[.string (bstr a), .int .i64 n] w fun e w' => e = .returned (.bool (grp a n)) ∧ Below w.heap.size w w' := by
  have HG := Lib.hid (egroup_any a w ha)
  have he : ((a.length : Int) == n) = decide (a.length = n) := by
    by_cases h : a.length = n
    · rw [decide_eq_true h]; exact beq_iff_eq.2 (by omega)
    · rw [decide_eq_false h]; exact beq_eq_false_iff_ne.2 (by omega)
  unfold grp
  unfold grpE at HG
  obtain ⟨B, hB⟩ : ∃ B, B = isG a := ⟨_, rfl⟩
  rw [← hB] at HG ⊢
  obtain ⟨C, hC⟩ : ∃ C, C = decide (a.length = n) := ⟨_, rfl⟩
  rw [← hC] at he ⊢
  clear hB hC ha
  cases B
  · rw [if_neg (by simp)] at HG
    go_enter Try.func78, Try.ntmps78
    go_wp2_with ((with_reducible refine HG.out.mono ?_); rintro e w2 ⟨⟨m, rfl⟩, hb2⟩; have HB2 := Lib.hid hb2; clear hb2)
    go_ret
    exact ⟨ret_bool (by simp), HB2.out⟩
  · rw [if_pos rfl] at HG
    go_enter Try.func78, Try.ntmps78
    go_wp2_with ((with_reducible refine HG.out.mono ?_); rintro e w2 ⟨⟨m, rfl⟩, hb2⟩; have HB2 := Lib.hid hb2; clear hb2)
    go_ret
    exact ⟨ret_bool (by simp), HB2.out⟩

theorem rgroup_any (a : Str) (n : Nat) (w : World) (ha : a.length ≤ maxLen) :
    Calls Try.prog 53 #[.string (bstr a), .int .i64 n] w fun e w' => e = .returned (.bool (grp a n)) ∧ w = w' := by
  have HG := Lib.hid (rgrp_any a w ha)
  have he : ((a.length : Int) == n) = decide (a.length = n) := by
    by_cases h : a.length = n
    · rw [decide_eq_true h]; exact beq_iff_eq.2 (by omega)
    · rw [decide_eq_false h]; exact beq_eq_false_iff_ne.2 (by omega)
  unfold grp
  obtain ⟨B, hB⟩ : ∃ B, B = isG a := ⟨_, rfl⟩
  rw [← hB] at HG ⊢
  obtain ⟨C, hC⟩ : ∃ C, C = decide (a.length = n) := ⟨_, rfl⟩
  rw [← hC] at he ⊢
  clear hB hC ha
  cases C
  all_goals
    go_enter Try.func53, Try.ntmps53
    go_wp2_with ((with_reducible refine HG.out.mono ?_); rintro e w2 ⟨rfl, hw2⟩; subst w2)
    go_ret
    exact ⟨ret_bool (by simp), rfl⟩

theorem isSize_any (n : Int) (w : World) :
    Calls Try.prog 45 #[.int .i64 n] w fun e w' => e = .returned (.bool (okSize n)) ∧ w = w' := by
  unfold okSize
  by_cases h : n = 4
  · subst h
    go_enter Try.func45, Try.ntmps45
    go_wp2_with fail
    go_ret
    exact ⟨ret_bool (by simp), rfl⟩
  · have h1 : (n == 4) = false := beq_eq_false_iff_ne.2 h
    have h2 : decide (n = 4) = false := decide_eq_false h
    rw [h2]
    go_enter Try.func45, Try.ntmps45
    go_wp2_with fail
    go_ret
    exact ⟨ret_bool (by by_cases e : n = 16 <;> simp [e]), rfl⟩

def knownI (k : Int) : Bool := decide (1 ≤ k) && decide (k ≤ 6)
theorem knownI_nat (k : Nat) : knownI k = knownK k := by
  unfold knownI knownK
  rw [show decide ((1 : Int) ≤ k) = decide (1 ≤ k) from decide_eq_decide.2 (by omega), show decide ((k : Int) ≤ 6) = decide (k ≤ 6) from decide_eq_decide.2 (by omega)]
theorem known_any8 (n : Int) (w : World) :
    Calls Try.prog 47 #[.int .i64 n] w fun e w' => e = .returned (.bool (knownI n)) ∧ w = w' := by
  unfold knownI
  cases h : decide (1 ≤ n)
  all_goals
    go_enter Try.func47, Try.ntmps47
    go_wp2_with fail
    go_ret
    exact ⟨ret_bool (by simp), rfl⟩
end Go.Proofs.Ythkibgdeibolfaa

/- code: half, small, dec, enc, decode, encode, Dec8, Enc8; bits.Len. -/
namespace Go.Proofs.Ythkibgdeibolfaa
open Go.RowKit
set_option maxRecDepth 20000
set_option maxRecDepth 20000
attribute [local go_sem] bstr_size bstr_extract bstr_toList bstr_get

theorem i64_join' (i : Nat) (x y : Int) (hx₀ : 0 ≤ x) (hx : x < 2 ^ i) (hx₁ : x < 2 ^ 63) (hy : y % 2 ^ i = 0) (hy₁ : 0 ≤ y ∧ y < 2 ^ 63) : bits .or .i64 x y = x + y := by
  obtain ⟨a, rfl⟩ := Int.eq_ofNat_of_zero_le hx₀
  obtain ⟨b, rfl⟩ := Int.eq_ofNat_of_zero_le hy₁.1
  have h1 := (bits_nat .i64 63 (by decide) wraps_i64 a b (by exact_mod_cast hx₁) (by exact_mod_cast hy₁.2)).2
  have h2 := (bits_nat .i64 63 (by decide) wraps_i64 b a (by exact_mod_cast hy₁.2) (by exact_mod_cast hx₁)).2
  rw [Nat.or_comm, ← h1] at h2
  rw [← h2, i64_join i _ _ hy₁.1 hy hy₁.2 hx₀ hx hx₁, Int.add_comm]
/-- the two makes of codes: bits of the small part, and its first number -/
def Make (f p : Nat) : Prop := (f = 4 ∧ p = 16) ∨ (f = 12 ∧ p = 4096)
theorem Make.pow {f p : Nat} (h : Make f p) : 2 ^ f = p := by rcases h with ⟨rfl, rfl⟩ | ⟨rfl, rfl⟩ <;> rfl
theorem Make.or {f p : Nat} (h : Make f p) : f = 4 ∨ f = 12 := by rcases h with ⟨rfl, rfl⟩ | ⟨rfl, rfl⟩ <;> simp

theorem half_any (f p : Nat) (w : World) (h : Make f p) :
    Calls Try.prog 93 #[.int .i64 f] w fun e w' => e = .returned (.int .i64 (8 * p : Nat)) ∧ w = w' := by
  rcases h with ⟨rfl, rfl⟩ | ⟨rfl, rfl⟩
  all_goals
    go_enter Try.func93, Try.ntmps93
    go_wp2_with fail
    go_ret
    exact ⟨rfl, rfl⟩
theorem small_any (f p : Nat) (w : World) (h : Make f p) :
    Calls Try.prog 97 #[.int .i64 f] w fun e w' => e = .returned (.int .i64 (p : Nat)) ∧ w = w' := by
  rcases h with ⟨rfl, rfl⟩ | ⟨rfl, rfl⟩
  all_goals
    go_enter Try.func97, Try.ntmps97
    go_wp2_with fail
    go_ret
    exact ⟨rfl, rfl⟩

theorem half_4 (w : World) : Calls Try.prog 93 #[.int .i64 4] w fun e w' => e = .returned (.int .i64 128) ∧ w = w' := half_any 4 16 w (.inl ⟨rfl, rfl⟩)
theorem small_4 (w : World) : Calls Try.prog 97 #[.int .i64 4] w fun e w' => e = .returned (.int .i64 16) ∧ w = w' := small_any 4 16 w (.inl ⟨rfl, rfl⟩)
theorem shl_dec_4 (c : Nat) (_hc : c < 256) (h : ¬ c < 128) : IntKind.i64.wrap (((c : Int) % 16 + 16) * 2 ^ ((c : Int) / 16 % 8 + 3).toNat) = ((pdecode c 4 : Nat) : Int) := by
  have hp : pdecode c 4 = (c % 16 + 16) * 2 ^ (c / 16 % 8 + 3) := if_neg h
  rw [hp]
  obtain ⟨x, hx⟩ : ∃ x, c / 16 % 8 = x := ⟨_, rfl⟩
  rw [show ((c : Int) / 16 % 8 + 3) = ((x + 3 : Nat) : Int) by omega, show ((c : Int) % 16 + 16) = ((c % 16 + 16 : Nat) : Int) by omega, hx, Int.toNat_natCast]
  have h2 : (c % 16 + 16) * 2 ^ (x + 3) < 2 ^ 62 := by
    have : 2 ^ (x + 3) ≤ 2 ^ 10 := Nat.pow_le_pow_right (by decide) (by omega)
    calc (c % 16 + 16) * 2 ^ (x + 3) ≤ (2 * 16) * 2 ^ 10 := Nat.mul_le_mul (by omega) this
      _ < 2 ^ 62 := by decide
  rw [show ((c % 16 + 16 : Nat) : Int) * 2 ^ (x + 3) = (((c % 16 + 16) * 2 ^ (x + 3) : Nat) : Int) by simp]
  rw [wraps_i64 _ (by omega) (by omega)]
set_option maxHeartbeats 1000000 in
theorem fdec_4 (c : Nat) (w : World) (hc : c < 256) :
    Calls Try.prog 94 #[.int .i64 4, .int .i64 c] w fun e w' => e = .returned (.int .i64 (pdecode c 4 : Nat)) ∧ Below w.heap.size w w' := by
  have HH := Lib.hid (half_4 w)
  have HS := Lib.hid (fun W => small_4 W)
  by_cases h : c < 128
  · have d1 : decide ((c : Int) < 128) = true := decide_eq_true (by omega)
    have HE := Lib.hid (show pdecode c 4 = c from if_pos h)
    clear h hc
    go_enter Try.func94, Try.ntmps94
    go_wp2_with ((with_reducible refine HH.out.mono ?_); rintro e w2 ⟨rfl, hw2⟩; subst w2)
    go_ret
    exact ⟨by rw [HE.out]; rfl, Below.refl _ _⟩
  · have d1 : decide ((c : Int) < 128) = false := decide_eq_false (by omega)
    have hand : bits .and .i64 (c : Int) 15 = (c : Int) % 16 := i64_mask 4 (by decide) _ (by omega) (by omega)
    have hand7 : bits .and .i64 ((c : Int) / 16) 7 = (c : Int) / 16 % 8 := i64_mask 3 (by decide) _ (by omega) (by omega)
    have hwM : IntKind.i64.wrap 15 = 15 := by decide
    have hwx : IntKind.i64.wrap ((c : Int) / 16 % 8 + 3) = (c : Int) / 16 % 8 + 3 := by rw [IntKind.wrap_i64]; omega
    have HSH := Lib.hid (shl_dec_4 c hc h)
    have hor : bits .or .i64 ((c : Int) % 16) 16 = (c : Int) % 16 + 16 := i64_join' 4 _ _ (by omega) (by omega) (by omega) (by omega) (by omega)
    go_enter Try.func94, Try.ntmps94
    go_upto_region 3 with ((with_reducible refine HH.out.mono ?_); rintro e w2 ⟨rfl, hw2⟩; subst w2)
    have hd : Below w.heap.size w w.drew := Below.drew (Below.refl _ _)
    refine wp_region_held_drew (S := fun W' => W' = w.drew) (by kernel_rfl) rfl (fun hHeld => ?_)
    refine takeL 0 (v := ?_) rfl (by kernel_rfl) (by kernel_rfl) (by kernel_rfl) (fun _ _ _ h => h) (Or.inl ⟨by rfl, ?_⟩) (by assumption) ?_
    rotate_left
    focus (intro wq hSq; go_simp <;> with_reducible rfl)
    simp only [Act.put, List.setIfInBounds_toArray, List.set_cons_zero, List.set_cons_succ]
    refine takeL 1 (v := ?_) rfl (by kernel_rfl) (by kernel_rfl) (by kernel_rfl) (fun _ _ _ h => h) (Or.inl ⟨by rfl, ?_⟩) (by assumption) ?_
    rotate_left
    focus (intro wq hSq; go_simp <;> with_reducible rfl)
    simp only [Act.put, List.setIfInBounds_toArray, List.set_cons_zero, List.set_cons_succ]
    refine takeL 5 (v := ?_) rfl (by kernel_rfl) (by kernel_rfl) (by kernel_rfl) (fun _ _ _ h => h) (Or.inl ⟨by rfl, ?_⟩) (by assumption) ?_
    rotate_left
    focus (intro wq hSq; go_simp <;> with_reducible rfl)
    simp only [Act.put, List.setIfInBounds_toArray, List.set_cons_zero, List.set_cons_succ]
    refine takeL 8 (v := ?_) rfl (by kernel_rfl) (by kernel_rfl) (by kernel_rfl) (fun _ _ _ h => h) (Or.inl ⟨by rfl, ?_⟩) (by assumption) ?_
    rotate_left
    focus (intro wq hSq; go_simp <;> with_reducible rfl)
    simp only [Act.put, List.setIfInBounds_toArray, List.set_cons_zero, List.set_cons_succ]
    refine takeL 9 (v := ?_) rfl (by kernel_rfl) (by kernel_rfl) (by kernel_rfl) (fun _ _ _ h => h) (Or.inl ⟨by rfl, ?_⟩) (by assumption) ?_
    rotate_left
    focus (intro wq hSq; go_simp <;> with_reducible rfl)
    simp only [Act.put, List.setIfInBounds_toArray, List.set_cons_zero, List.set_cons_succ]
    refine takeL 10 (v := ?_) rfl (by kernel_rfl) (by kernel_rfl) (by kernel_rfl) (fun _ _ _ h => h) (Or.inl ⟨by rfl, ?_⟩) (by assumption) ?_
    rotate_left
    focus (intro wq hSq; go_simp <;> with_reducible rfl)
    simp only [Act.put, List.setIfInBounds_toArray, List.set_cons_zero, List.set_cons_succ]
    refine takeL 11 (v := ?_) rfl (by kernel_rfl) (by kernel_rfl) (by kernel_rfl) (fun _ _ _ h => h) (Or.inl ⟨by rfl, ?_⟩) (by assumption) ?_
    rotate_left
    focus (intro wq hSq; go_simp <;> with_reducible rfl)
    simp only [Act.put, List.setIfInBounds_toArray, List.set_cons_zero, List.set_cons_succ]
    refine takeL 12 (v := ?_) rfl (by kernel_rfl) (by kernel_rfl) (by kernel_rfl) (fun _ _ _ h => h) (Or.inl ⟨by rfl, ?_⟩) (by assumption) ?_
    rotate_left
    focus (intro wq hSq; go_simp <;> with_reducible rfl)
    simp only [Act.put, List.setIfInBounds_toArray, List.set_cons_zero, List.set_cons_succ]
    refine wpAnyH_ready (rs := [2]) (by kernel_rfl) (by simp) (nextL 2 rfl (fun Kr hKr => ?_) AllReadyH.nil)
    rw [if_pos (by rfl)]
    go_simp
    refine (HS.out _).mono ?_
    rintro e w3 ⟨rfl, hw3⟩
    subst w3
    refine hKr.out _ _ rfl (fun hHeld3 => ?_)
    clear hKr hHeld
    refine takeL 3 (v := ?_) rfl (by kernel_rfl) (by kernel_rfl) (by kernel_rfl) (fun _ _ _ h => h) (Or.inl ⟨by rfl, ?_⟩) (by assumption) ?_
    rotate_left
    focus (intro wq hSq; go_simp <;> with_reducible rfl)
    simp only [Act.put, List.setIfInBounds_toArray, List.set_cons_zero, List.set_cons_succ]
    refine takeL 4 (v := ?_) rfl (by kernel_rfl) (by kernel_rfl) (by kernel_rfl) (fun _ _ _ h => h) (Or.inl ⟨by rfl, ?_⟩) (by assumption) ?_
    rotate_left
    focus (intro wq hSq; go_simp <;> with_reducible rfl)
    simp only [Act.put, List.setIfInBounds_toArray, List.set_cons_zero, List.set_cons_succ]
    refine wpAnyH_ready (rs := [6]) (by kernel_rfl) (by simp) (nextL 6 rfl (fun Kr hKr => ?_) AllReadyH.nil)
    rw [if_pos (by rfl)]
    go_simp
    refine (HS.out _).mono ?_
    rintro e w3 ⟨rfl, hw3⟩
    subst w3
    refine hKr.out _ _ rfl (fun hHeld4 => ?_)
    clear hKr hHeld3
    refine takeL 7 (v := ?_) rfl (by kernel_rfl) (by kernel_rfl) (by kernel_rfl) (fun _ _ _ h => h) (Or.inl ⟨by rfl, ?_⟩) (by assumption) ?_
    rotate_left
    focus (intro wq hSq; go_simp <;> with_reducible rfl)
    simp only [Act.put, List.setIfInBounds_toArray, List.set_cons_zero, List.set_cons_succ]
    refine takeL 13 (v := ?_) rfl (by kernel_rfl) (by kernel_rfl) (by kernel_rfl) (fun _ _ _ h => h) (Or.inl ⟨by rfl, ?_⟩) (by assumption) ?_
    rotate_left
    focus (intro wq hSq; go_simp <;> with_reducible rfl)
    simp only [Act.put, List.setIfInBounds_toArray, List.set_cons_zero, List.set_cons_succ]
    refine takeL 14 (v := ?_) rfl (by kernel_rfl) (by kernel_rfl) (by kernel_rfl) (fun _ _ _ h => h) (Or.inl ⟨by rfl, ?_⟩) (by assumption) ?_
    rotate_left
    focus (intro wq hSq; go_simp <;> with_reducible rfl)
    simp only [Act.put, List.setIfInBounds_toArray, List.set_cons_zero, List.set_cons_succ]
    refine wpAnyH_done (by kernel_rfl) ?_ _
    go_wp2_with fail
    go_ret
    exact ⟨congrArg (fun x => Ending.returned (.int .i64 x)) HSH.out, hd⟩
theorem half_12 (w : World) : Calls Try.prog 93 #[.int .i64 12] w fun e w' => e = .returned (.int .i64 32768) ∧ w = w' := half_any 12 4096 w (.inr ⟨rfl, rfl⟩)
theorem small_12 (w : World) : Calls Try.prog 97 #[.int .i64 12] w fun e w' => e = .returned (.int .i64 4096) ∧ w = w' := small_any 12 4096 w (.inr ⟨rfl, rfl⟩)
theorem shl_dec_12 (c : Nat) (_hc : c < 65536) (h : ¬ c < 32768) : IntKind.i64.wrap (((c : Int) % 4096 + 4096) * 2 ^ ((c : Int) / 4096 % 8 + 3).toNat) = ((pdecode c 12 : Nat) : Int) := by
  have hp : pdecode c 12 = (c % 4096 + 4096) * 2 ^ (c / 4096 % 8 + 3) := if_neg h
  rw [hp]
  obtain ⟨x, hx⟩ : ∃ x, c / 4096 % 8 = x := ⟨_, rfl⟩
  rw [show ((c : Int) / 4096 % 8 + 3) = ((x + 3 : Nat) : Int) by omega, show ((c : Int) % 4096 + 4096) = ((c % 4096 + 4096 : Nat) : Int) by omega, hx, Int.toNat_natCast]
  have h2 : (c % 4096 + 4096) * 2 ^ (x + 3) < 2 ^ 62 := by
    have : 2 ^ (x + 3) ≤ 2 ^ 10 := Nat.pow_le_pow_right (by decide) (by omega)
    calc (c % 4096 + 4096) * 2 ^ (x + 3) ≤ (2 * 4096) * 2 ^ 10 := Nat.mul_le_mul (by omega) this
      _ < 2 ^ 62 := by decide
  rw [show ((c % 4096 + 4096 : Nat) : Int) * 2 ^ (x + 3) = (((c % 4096 + 4096) * 2 ^ (x + 3) : Nat) : Int) by simp]
  rw [wraps_i64 _ (by omega) (by omega)]
set_option maxHeartbeats 1000000 in
theorem fdec_12 (c : Nat) (w : World) (hc : c < 65536) :
    Calls Try.prog 94 #[.int .i64 12, .int .i64 c] w fun e w' => e = .returned (.int .i64 (pdecode c 12 : Nat)) ∧ Below w.heap.size w w' := by
  have HH := Lib.hid (half_12 w)
  have HS := Lib.hid (fun W => small_12 W)
  by_cases h : c < 32768
  · have d1 : decide ((c : Int) < 32768) = true := decide_eq_true (by omega)
    have HE := Lib.hid (show pdecode c 12 = c from if_pos h)
    clear h hc
    go_enter Try.func94, Try.ntmps94
    go_wp2_with ((with_reducible refine HH.out.mono ?_); rintro e w2 ⟨rfl, hw2⟩; subst w2)
    go_ret
    exact ⟨by rw [HE.out]; rfl, Below.refl _ _⟩
  · have d1 : decide ((c : Int) < 32768) = false := decide_eq_false (by omega)
    have hand : bits .and .i64 (c : Int) 4095 = (c : Int) % 4096 := i64_mask 12 (by decide) _ (by omega) (by omega)
    have hand7 : bits .and .i64 ((c : Int) / 4096) 7 = (c : Int) / 4096 % 8 := i64_mask 3 (by decide) _ (by omega) (by omega)
    have hwM : IntKind.i64.wrap 4095 = 4095 := by decide
    have hwx : IntKind.i64.wrap ((c : Int) / 4096 % 8 + 3) = (c : Int) / 4096 % 8 + 3 := by rw [IntKind.wrap_i64]; omega
    have HSH := Lib.hid (shl_dec_12 c hc h)
    have hor : bits .or .i64 ((c : Int) % 4096) 4096 = (c : Int) % 4096 + 4096 := i64_join' 12 _ _ (by omega) (by omega) (by omega) (by omega) (by omega)
    go_enter Try.func94, Try.ntmps94
    go_upto_region 3 with ((with_reducible refine HH.out.mono ?_); rintro e w2 ⟨rfl, hw2⟩; subst w2)
    have hd : Below w.heap.size w w.drew := Below.drew (Below.refl _ _)
    refine wp_region_held_drew (S := fun W' => W' = w.drew) (by kernel_rfl) rfl (fun hHeld => ?_)
    refine takeL 0 (v := ?_) rfl (by kernel_rfl) (by kernel_rfl) (by kernel_rfl) (fun _ _ _ h => h) (Or.inl ⟨by rfl, ?_⟩) (by assumption) ?_
    rotate_left
    focus (intro wq hSq; go_simp <;> with_reducible rfl)
    simp only [Act.put, List.setIfInBounds_toArray, List.set_cons_zero, List.set_cons_succ]
    refine takeL 1 (v := ?_) rfl (by kernel_rfl) (by kernel_rfl) (by kernel_rfl) (fun _ _ _ h => h) (Or.inl ⟨by rfl, ?_⟩) (by assumption) ?_
    rotate_left
    focus (intro wq hSq; go_simp <;> with_reducible rfl)
    simp only [Act.put, List.setIfInBounds_toArray, List.set_cons_zero, List.set_cons_succ]
    refine takeL 5 (v := ?_) rfl (by kernel_rfl) (by kernel_rfl) (by kernel_rfl) (fun _ _ _ h => h) (Or.inl ⟨by rfl, ?_⟩) (by assumption) ?_
    rotate_left
    focus (intro wq hSq; go_simp <;> with_reducible rfl)
    simp only [Act.put, List.setIfInBounds_toArray, List.set_cons_zero, List.set_cons_succ]
    refine takeL 8 (v := ?_) rfl (by kernel_rfl) (by kernel_rfl) (by kernel_rfl) (fun _ _ _ h => h) (Or.inl ⟨by rfl, ?_⟩) (by assumption) ?_
    rotate_left
    focus (intro wq hSq; go_simp <;> with_reducible rfl)
    simp only [Act.put, List.setIfInBounds_toArray, List.set_cons_zero, List.set_cons_succ]
    refine takeL 9 (v := ?_) rfl (by kernel_rfl) (by kernel_rfl) (by kernel_rfl) (fun _ _ _ h => h) (Or.inl ⟨by rfl, ?_⟩) (by assumption) ?_
    rotate_left
    focus (intro wq hSq; go_simp <;> with_reducible rfl)
    simp only [Act.put, List.setIfInBounds_toArray, List.set_cons_zero, List.set_cons_succ]
    refine takeL 10 (v := ?_) rfl (by kernel_rfl) (by kernel_rfl) (by kernel_rfl) (fun _ _ _ h => h) (Or.inl ⟨by rfl, ?_⟩) (by assumption) ?_
    rotate_left
    focus (intro wq hSq; go_simp <;> with_reducible rfl)
    simp only [Act.put, List.setIfInBounds_toArray, List.set_cons_zero, List.set_cons_succ]
    refine takeL 11 (v := ?_) rfl (by kernel_rfl) (by kernel_rfl) (by kernel_rfl) (fun _ _ _ h => h) (Or.inl ⟨by rfl, ?_⟩) (by assumption) ?_
    rotate_left
    focus (intro wq hSq; go_simp <;> with_reducible rfl)
    simp only [Act.put, List.setIfInBounds_toArray, List.set_cons_zero, List.set_cons_succ]
    refine takeL 12 (v := ?_) rfl (by kernel_rfl) (by kernel_rfl) (by kernel_rfl) (fun _ _ _ h => h) (Or.inl ⟨by rfl, ?_⟩) (by assumption) ?_
    rotate_left
    focus (intro wq hSq; go_simp <;> with_reducible rfl)
    simp only [Act.put, List.setIfInBounds_toArray, List.set_cons_zero, List.set_cons_succ]
    refine wpAnyH_ready (rs := [2]) (by kernel_rfl) (by simp) (nextL 2 rfl (fun Kr hKr => ?_) AllReadyH.nil)
    rw [if_pos (by rfl)]
    go_simp
    refine (HS.out _).mono ?_
    rintro e w3 ⟨rfl, hw3⟩
    subst w3
    refine hKr.out _ _ rfl (fun hHeld3 => ?_)
    clear hKr hHeld
    refine takeL 3 (v := ?_) rfl (by kernel_rfl) (by kernel_rfl) (by kernel_rfl) (fun _ _ _ h => h) (Or.inl ⟨by rfl, ?_⟩) (by assumption) ?_
    rotate_left
    focus (intro wq hSq; go_simp <;> with_reducible rfl)
    simp only [Act.put, List.setIfInBounds_toArray, List.set_cons_zero, List.set_cons_succ]
    refine takeL 4 (v := ?_) rfl (by kernel_rfl) (by kernel_rfl) (by kernel_rfl) (fun _ _ _ h => h) (Or.inl ⟨by rfl, ?_⟩) (by assumption) ?_
    rotate_left
    focus (intro wq hSq; go_simp <;> with_reducible rfl)
    simp only [Act.put, List.setIfInBounds_toArray, List.set_cons_zero, List.set_cons_succ]
    refine wpAnyH_ready (rs := [6]) (by kernel_rfl) (by simp) (nextL 6 rfl (fun Kr hKr => ?_) AllReadyH.nil)
    rw [if_pos (by rfl)]
    go_simp
    refine (HS.out _).mono ?_
    rintro e w3 ⟨rfl, hw3⟩
    subst w3
    refine hKr.out _ _ rfl (fun hHeld4 => ?_)
    clear hKr hHeld3
    refine takeL 7 (v := ?_) rfl (by kernel_rfl) (by kernel_rfl) (by kernel_rfl) (fun _ _ _ h => h) (Or.inl ⟨by rfl, ?_⟩) (by assumption) ?_
    rotate_left
    focus (intro wq hSq; go_simp <;> with_reducible rfl)
    simp only [Act.put, List.setIfInBounds_toArray, List.set_cons_zero, List.set_cons_succ]
    refine takeL 13 (v := ?_) rfl (by kernel_rfl) (by kernel_rfl) (by kernel_rfl) (fun _ _ _ h => h) (Or.inl ⟨by rfl, ?_⟩) (by assumption) ?_
    rotate_left
    focus (intro wq hSq; go_simp <;> with_reducible rfl)
    simp only [Act.put, List.setIfInBounds_toArray, List.set_cons_zero, List.set_cons_succ]
    refine takeL 14 (v := ?_) rfl (by kernel_rfl) (by kernel_rfl) (by kernel_rfl) (fun _ _ _ h => h) (Or.inl ⟨by rfl, ?_⟩) (by assumption) ?_
    rotate_left
    focus (intro wq hSq; go_simp <;> with_reducible rfl)
    simp only [Act.put, List.setIfInBounds_toArray, List.set_cons_zero, List.set_cons_succ]
    refine wpAnyH_done (by kernel_rfl) ?_ _
    go_wp2_with fail
    go_ret
    exact ⟨congrArg (fun x => Ending.returned (.int .i64 x)) HSH.out, hd⟩
end Go.Proofs.Ythkibgdeibolfaa
