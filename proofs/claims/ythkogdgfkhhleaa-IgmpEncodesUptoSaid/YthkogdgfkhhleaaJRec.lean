/- igmp.record: the first record of a text. -/
import Derived.Test.YthkogdgfkhhleaaJAddr
import Derived.Test.YthkogdgfkhhleaaJRow
namespace Go.Proofs.Ythkogdgfkhhleaa
open Go.RowKit Go.Sort
set_option maxRecDepth 20000
set_option maxRecDepth 20000
attribute [local go_sem] bstr_size bstr_extract bstr_toList bstr_get

def many (s : Str) : Nat := numAt s 2 2
def whole (s : Str) (size : Nat) : Nat := 4 + size + many s * size + 4 * (s.getD 1 0).toNat
def recE (s : Str) (size : Nat) : Int := if s.length < 4 + size then 2 else if s.length < whole s size then 2 else if 60 < many s ∨ grp ((s.drop 4).take size) size = false then 3 else 0
def RetRec (w : World) (s : Str) (size : Nat) (e : Ending) (w' : World) : Prop :=
  ∃ (k : Int) (g : Str) (ao : Option Addr) (m c : Nat) (n : Int), e = .returned (.tuple #[.agg #[.int .i64 k, .string (bstr g), .slice ao m c], .int .i64 n, .int .i64 (recE s size)]) ∧
    (recE s size = 0 → k = (s.getD 0 0).toNat ∧ g = (s.drop 4).take size ∧ Strs w' (.slice ao m c) (srcs s (4 + size) (many s) size) ∧ Lies w.heap.size (.slice ao m c) ∧ n = whole s size) ∧ Below w.heap.size w w'

theorem cells3 {w : World} {b : Nat} {T : TypeId} {x0 x1 x2 : Value} (h : CBox w b T #[x0, x1, x2]) (v0 v1 v2 : Value) :
    CBox (((w.setCell ⟨b, 0, none⟩ v0).setCell ⟨b, 1, none⟩ v1).setCell ⟨b, 2, none⟩ v2) b T #[v0, v1, v2] := ((h.set 0 v0).set 1 v1).set 2 v2
theorem below3 {w w0 : World} {B b : Nat} (h : Below B w0 w) (hb : B ≤ b) (v0 v1 v2 : Value) : Below B w0 (((w.setCell ⟨b, 0, none⟩ v0).setCell ⟨b, 1, none⟩ v1).setCell ⟨b, 2, none⟩ v2) :=
  ((h.setCell (p := ⟨b, 0, none⟩) hb v0).setCell (p := ⟨b, 1, none⟩) hb v1).setCell (p := ⟨b, 2, none⟩) hb v2

theorem cut0_any (s : Str) (n : Nat) (w : World) (hs : s.length ≤ maxLen) :
    Calls Try.prog 65 #[.string (bstr s), .int .i64 0, .int .i64 n] w fun e w' => e = .returned (.tuple #[.string (bstr (if n ≤ s.length then s.take n else [])), .int .i64 (if n ≤ s.length then 0 else 2)]) ∧ w = w' := by
  have h := cut_any s 0 n w hs (Nat.zero_le _)
  simp only [Nat.zero_add, List.drop_zero] at h
  exact h
theorem rec_nums (M size C J E Y Z T : Nat) (hM : M ≤ 65535) (hC : C = 4 + size) (h16 : size ≤ 16) (hJ : J = M * size) (hE : E = C + J) (hY : Y ≤ 255) (hZ : Z = 4 * Y) (hT : T = E + Z) :
    wrap64 ((M : Int) * size) = (J : Int) ∧ wrap64 ((C : Int) + J) = (E : Int) ∧ wrap64 (4 * (Y : Int)) = (Z : Int) ∧ wrap64 ((E : Int) + Z) = (T : Int) ∧ wrap64 (Y : Int) = (Y : Int) := by
  have h1 : J ≤ 65535 * 16 := by rw [hJ]; exact Nat.mul_le_mul hM h16
  refine ⟨?_, ?_, ?_, ?_, ?_⟩
  · rw [show (M : Int) * size = (J : Int) by rw [hJ]; simp]; exact w64 _ (by omega) (by omega)
  · rw [w64 _ (by omega) (by omega)]; omega
  · rw [w64 _ (by omega) (by omega)]; omega
  · rw [w64 _ (by omega) (by omega)]; omega
  · exact w64 _ (by omega) (by omega)
theorem getM_any (H : Str) (M : Nat) (w : World) (hl : 4 ≤ H.length) (hm : H.length ≤ maxLen) (hM : numAt H 2 2 = M) :
    Calls Try.prog 26 #[.string (bstr H), .int .i64 2, .int .i64 2] w fun e w' => e = .returned (.tuple #[.int .i64 M, .int .i64 0]) ∧ Below w.heap.size w w' := by
  have h := get_any H 2 2 w hm (by decide) (by decide) (by decide)
  rw [if_pos (by omega), if_pos (by omega), hM] at h
  exact h
theorem recNil (w w' : World) (s : Str) (size : Nat) (k : Int) (g : Str) (er : Int) (h : recE s size = er) (h0 : er ≠ 0) (hb : Below w.heap.size w w') : RetRec w s size (.returned (.tuple #[.agg #[.int .i64 k, .string (bstr g), .slice none 0 0], .int .i64 0, .int .i64 er])) w' :=
  ⟨k, g, none, 0, 0, 0, by rw [h], fun e => absurd (h.symm.trans e) h0, hb⟩
set_option maxHeartbeats 2000000 in
theorem record_any (s : Str) (size : Nat) (w : World) (hs : s.length ≤ 1000000) (h1 : 1 ≤ size) (h16 : size ≤ 16) :
    Calls Try.prog 40 #[.string (bstr s), .int .i64 size] w (RetRec w s size) := by
  obtain ⟨W1, hW1⟩ : ∃ W1, W1 = w.alloc (.cells #[.int .i64 0, .string ⟨#[]⟩, .slice none 0 0] 57) := ⟨_, rfl⟩
  obtain ⟨b, hb⟩ : ∃ b, b = w.heap.size := ⟨_, rfl⟩
  have hb1 : Below b w W1 := by rw [hW1, hb]; exact (Below.refl _ _).alloc (Nat.le_refl _) _
  have X1 : CBox W1 b 57 #[.int .i64 0, .string ⟨#[]⟩, .slice none 0 0] := by rw [hW1, hb]; exact CBox.new _ rfl
  have HS4 := Lib.hid (cut0_any s (4 + size) W1 (by unfold maxLen; omega))
  have hw4 : wrap64 ((4 : Int) + size) = ((4 + size : Nat) : Int) := by rw [w64 _ (by omega) (by omega)]; omega
  have hlt := X1.lt
  obtain ⟨x0, f0⟩ := X1.at_ 0 _ rfl
  obtain ⟨x1, f1⟩ := X1.at_ 1 _ rfl
  obtain ⟨x2, f2⟩ := X1.at_ 2 _ rfl
  by_cases hA : s.length < 4 + size
  · have hE : recE s size = 2 := if_pos hA
    rw [if_neg (by omega), if_neg (by omega)] at HS4
    have HB1 := Lib.hid hb1; have HX1 := Lib.hid X1; have HW1 := Lib.hid hW1; have HNB := Lib.hid hb
    have HE := Lib.hid hE
    obtain ⟨C, hC⟩ : ∃ C, C = 4 + size := ⟨_, rfl⟩
    rw [← hC] at HS4 hw4
    clear hs h16 hA hE hb1 X1 hW1 hb hC hlt
    go_enter Try.func40, Try.ntmps40
    go_upto_region 1 with fail
    rw [← HW1.out, ← HNB.out]
    go_wp2_with (first | ((with_reducible refine HS4.out.mono ?_); rintro e w2 ⟨rfl, hw2⟩; subst w2))
    obtain ⟨r0, _⟩ := (cells3 HX1.out (.int .i64 0) (.string ⟨#[]⟩) (.slice none 0 0)).at_ 0 _ rfl
    obtain ⟨r1, _⟩ := (cells3 HX1.out (.int .i64 0) (.string ⟨#[]⟩) (.slice none 0 0)).at_ 1 _ rfl
    obtain ⟨r2, _⟩ := (cells3 HX1.out (.int .i64 0) (.string ⟨#[]⟩) (.slice none 0 0)).at_ 2 _ rfl
    refine bodyPost_ret (v := .tuple #[.agg #[.int .i64 0, .string ⟨#[]⟩, .slice none 0 0], .int .i64 0, .int .i64 2]) (by simp [results, Try.results40, go_sem, r0, r1, r2]) rfl ?_
    rw [← bstr_nil]
    exact recNil w _ s size 0 [] 2 HE.out (by decide) (HNB.out ▸ below3 HB1.out (Nat.le_refl _) _ _ _)
  · rw [if_pos (by omega), if_pos (by omega)] at HS4
    obtain ⟨C, hC⟩ : ∃ C, C = 4 + size := ⟨_, rfl⟩
    rw [← hC] at HS4 hw4
    obtain ⟨H, hH⟩ : ∃ H, H = s.take C := ⟨_, rfl⟩
    rw [← hH] at HS4
    have hHl : H.length = C := by rw [hH, List.length_take]; omega
    obtain ⟨M, hM⟩ : ∃ M, M = many s := ⟨_, rfl⟩
    have hHM : numAt H 2 2 = M := by rw [hM, hH]; unfold many numAt; rw [List.drop_take, List.take_take, Nat.min_eq_left (by omega)]
    have hM65 : M ≤ 65535 := by have := numAt_lt s 2 2; rw [hM]; unfold many; omega
    have HG := Lib.hid (getM_any H M W1 (by omega) (by unfold maxLen; omega) hHM)
    obtain ⟨Y, hY⟩ : ∃ Y, Y = (s.getD 1 0).toNat := ⟨_, rfl⟩
    have hY255 : Y ≤ 255 := by have := (s.getD 1 0).toNat_lt; omega
    have hH1 : (H[1]?.getD 0).toNat = Y := by
      rw [hY, hH, List.getD_eq_getElem?_getD, List.getElem?_take_of_lt (by omega)]
    have hH1' : (1 : Int) < H.length := by omega
    obtain ⟨J, hJ⟩ : ∃ J, J = M * size := ⟨_, rfl⟩
    obtain ⟨E, hE⟩ : ∃ E, E = C + J := ⟨_, rfl⟩
    obtain ⟨Z, hZ⟩ : ∃ Z, Z = 4 * Y := ⟨_, rfl⟩
    obtain ⟨T, hT⟩ : ∃ T, T = E + Z := ⟨_, rfl⟩
    obtain ⟨q1, q2, q3, q4, q5⟩ := rec_nums M size C J E Y Z T hM65 hC h16 hJ hE hY255 hZ hT
    have hTw : T = whole s size := by unfold whole; rw [hT, hE, hZ, hJ, hC, hM, hY]
    have hHlI : (H.length : Int) = C := by omega
    have HB1 := Lib.hid hb1; have HX1 := Lib.hid X1; have HW1 := Lib.hid hW1; have HNB := Lib.hid hb
    have HC := Lib.hid (And.intro hC (And.intro hH hM))
    by_cases hB : s.length < T
    · have dB : decide ((s.length : Int) < T) = true := decide_eq_true (Int.ofNat_lt.2 hB)
      have dB' : decide (s.length < T) = true := decide_eq_true hB
      have HE := Lib.hid (show recE s size = 2 from by unfold recE; rw [if_neg hA, if_pos (by rw [← hTw]; exact hB)])
      clear hs h16 hA hB hb1 X1 hW1 hb hC hlt hH hM hHM hM65 hY hY255 hJ hE hZ hT hTw hHl x0 x1 x2 f0 f1 f2
      go_enter Try.func40, Try.ntmps40
      go_upto_region 1 with fail
      rw [← HW1.out, ← HNB.out]
      go_wp2_with (first | ((with_reducible refine HS4.out.mono ?_); rintro e w2 ⟨rfl, hw2⟩; subst w2) | ((with_reducible refine HG.out.mono ?_); rintro e w2 ⟨rfl, hb2⟩; have HB2 := Lib.hid hb2; have HX2 := Lib.hid (HX1.out.below hb2 HX1.out.lt); obtain ⟨x0, f0⟩ := HX2.out.at_ 0 _ rfl; obtain ⟨x1, f1⟩ := HX2.out.at_ 1 _ rfl; obtain ⟨x2, f2⟩ := HX2.out.at_ 2 _ rfl; clear hb2))
      obtain ⟨r0, _⟩ := (cells3 HX2.out (.int .i64 0) (.string ⟨#[]⟩) (.slice none 0 0)).at_ 0 _ rfl
      obtain ⟨r1, _⟩ := (cells3 HX2.out (.int .i64 0) (.string ⟨#[]⟩) (.slice none 0 0)).at_ 1 _ rfl
      obtain ⟨r2, _⟩ := (cells3 HX2.out (.int .i64 0) (.string ⟨#[]⟩) (.slice none 0 0)).at_ 2 _ rfl
      refine bodyPost_ret (v := .tuple #[.agg #[.int .i64 0, .string ⟨#[]⟩, .slice none 0 0], .int .i64 0, .int .i64 2]) (by simp [results, Try.results40, go_sem, r0, r1, r2]) rfl ?_
      rw [← bstr_nil]
      exact recNil w _ s size 0 [] 2 HE.out (by decide) (HNB.out ▸ below3 (HB1.out.trans (HB2.out.mono (Nat.le_of_lt HX1.out.lt))) (Nat.le_refl _) _ _ _)
    · have dB : decide ((s.length : Int) < T) = false := decide_eq_false (fun h => hB (Int.ofNat_lt.1 h))
      have dB' : decide (s.length < T) = false := decide_eq_false hB
      have HHl := Lib.hid (show H.length = C ∧ 4 ≤ C from ⟨hHl, by rw [hC]; exact Nat.le_add_right 4 size⟩)
      have HG4 := Lib.hid (show H.drop 4 = (s.drop 4).take size from by rw [hH, hC, List.drop_take, Nat.add_sub_cancel_left])
      have HK0 := Lib.hid (show (H[0]?.getD 0).toNat = (s.getD 0 0).toNat from by rw [hH, List.getD_eq_getElem?_getD, List.getElem?_take_of_lt (by rw [hC]; exact Nat.lt_of_lt_of_le (by decide) (Nat.le_add_right 4 size))])
      have HT := Lib.hid hTw
      have HN := Lib.hid (And.intro hA hB)
      have HSZ := Lib.hid (And.intro hs (And.intro h16 hM65))
      clear hs h16 hA hB hb1 X1 hW1 hb hC hlt hH hM hHM hM65 hY hY255 hJ hE hZ hT hTw hHl x0 x1 x2 f0 f1 f2
      go_enter Try.func40, Try.ntmps40
      go_upto_region 1 with fail
      rw [← HW1.out, ← HNB.out]
      go_upto_region 8 with (first | ((with_reducible refine HS4.out.mono ?_); rintro e w2 ⟨rfl, hw2⟩; subst w2) | ((with_reducible refine HG.out.mono ?_); rintro e w2 ⟨rfl, hb2⟩; have HB2 := Lib.hid hb2; have HX2 := Lib.hid (HX1.out.below hb2 HX1.out.lt); clear hb2))
      obtain ⟨G, hG⟩ : ∃ G, H.drop 4 = G := ⟨_, rfl⟩
      obtain ⟨K, hK⟩ : ∃ K, (H[0]?.getD 0).toNat = K := ⟨_, rfl⟩
      have hHI := HHl.out
      have hp0 : (0 : Int) < H.length := by rw [hHlI]; exact Int.ofNat_lt.2 (Nat.lt_of_lt_of_le (by decide) hHI.2)
      have hp4 : (4 : Int) ≤ H.length := by rw [hHlI]; exact Int.ofNat_le.2 hHI.2
      have ht4 : List.take (H.length - 4) (H.drop 4) = H.drop 4 := List.take_of_length_le (by rw [List.length_drop]; exact Nat.le_refl _)
      have hK255 : wrap64 (K : Int) = (K : Int) := by rw [← hK]; have := (H[0]?.getD 0).toNat_lt; exact w64 _ (Int.natCast_nonneg _) (by clear q1 q2 q3 q4 q5; omega)
      rw [hG] at ht4
      have hC0 : 0 < C := Nat.lt_of_lt_of_le (by decide) hHI.2
      have hC4 : 4 ≤ C := hHI.2
      have hC4' : (4 : Int) ≤ C := Int.ofNat_le.2 hHI.2
      have ht4' := ht4
      rw [hHI.1] at ht4'
      have hK64 : IntKind.i64.wrap (K : Int) = (K : Int) := by rw [← hK]; have := (H[0]?.getD 0).toNat_lt; exact wraps_i64 _ (Int.natCast_nonneg _) (by clear q1 q2 q3 q4 q5; omega)
      have HGK := Lib.hid (And.intro hG hK)
      have HQ4 := Lib.hid q4
      clear hp0 hp4 hHI q1 q2 q3 q4 q5 hw4 hH1 hH1' dB dB'
      have hd : Below w2.heap.size w2 w2.drew := Below.drew (Below.refl _ _)
      refine wp_region_held_drew (S := fun _ => True) (by kernel_rfl) trivial (fun hHeld => ?_)
      refine takeL 0 (v := ?_) rfl (by kernel_rfl) (by kernel_rfl) (by kernel_rfl) (fun _ _ _ h => h) (Or.inl ⟨by rfl, ?_⟩) (by assumption) ?_
      rotate_left
      focus (intro wq hSq; go_simp <;> with_reducible rfl)
      simp only [Act.put, List.setIfInBounds_toArray, List.set_cons_zero, List.set_cons_succ]
      refine takeL 1 (v := ?_) rfl (by kernel_rfl) (by kernel_rfl) (by kernel_rfl) (fun _ _ _ h => h) (Or.inl ⟨by rfl, ?_⟩) (by assumption) ?_
      rotate_left
      focus (intro wq hSq; go_simp <;> with_reducible rfl)
      simp only [Act.put, List.setIfInBounds_toArray, List.set_cons_zero, List.set_cons_succ]
      refine takeL 2 (v := ?_) rfl (by kernel_rfl) (by kernel_rfl) (by kernel_rfl) (fun _ _ _ h => h) (Or.inl ⟨by rfl, ?_⟩) (by assumption) ?_
      rotate_left
      focus (intro wq hSq; go_simp <;> with_reducible rfl)
      simp only [Act.put, List.setIfInBounds_toArray, List.set_cons_zero, List.set_cons_succ]
      refine takeL 3 (v := ?_) rfl (by kernel_rfl) (by kernel_rfl) (by kernel_rfl) (fun _ _ _ h => h) (Or.inl ⟨by rfl, ?_⟩) (by assumption) ?_
      rotate_left
      focus (intro wq hSq; go_simp <;> with_reducible rfl)
      simp only [Act.put, List.setIfInBounds_toArray, List.set_cons_zero, List.set_cons_succ]
      refine takeL 4 (v := ?_) rfl (by kernel_rfl) (by kernel_rfl) (by kernel_rfl) (fun _ _ _ h => h) (Or.inl ⟨by rfl, ?_⟩) (by assumption) ?_
      rotate_left
      focus (intro wq hSq; go_simp <;> with_reducible rfl)
      simp only [Act.put, List.setIfInBounds_toArray, List.set_cons_zero, List.set_cons_succ]
      refine takeL 5 (v := ?_) rfl (by kernel_rfl) (by kernel_rfl) (by kernel_rfl) (fun _ _ _ h => h) (Or.inl ⟨by rfl, ?_⟩) (by assumption) ?_
      rotate_left
      focus (intro wq hSq; go_simp <;> with_reducible rfl)
      simp only [Act.put, List.setIfInBounds_toArray, List.set_cons_zero, List.set_cons_succ]
      refine wpAnyH_ready (rs := [6]) (by kernel_rfl) (by simp) (nextL 6 rfl (fun Kr hKr => ?_) AllReadyH.nil)
      rw [if_pos (by rfl)]
      obtain ⟨W3, hW3⟩ : ∃ W3, w2.drew = W3 := ⟨_, rfl⟩
      have X3 : CBox W3 b 57 #[.int .i64 0, .string ⟨#[]⟩, .slice none 0 0] := by rw [← hW3]; exact HX2.out.draws 1
      rw [hW3] at hd ⊢
      obtain ⟨x0, f0⟩ := X3.at_ 0 _ rfl
      obtain ⟨x1, f1⟩ := X3.at_ 1 _ rfl
      obtain ⟨x2, f2⟩ := X3.at_ 2 _ rfl
      go_simp
      have X4 := cells3 X3 (.int .i64 K) (.string (bstr G)) (.slice none 0 0)
      have hB4 : Below b w2 (((W3.setCell ⟨b, 0, none⟩ (.int .i64 K)).setCell ⟨b, 1, none⟩ (.string (bstr G))).setCell ⟨b, 2, none⟩ (.slice none 0 0)) := below3 (hd.mono (Nat.le_of_lt HX2.out.lt)) (Nat.le_refl _) _ _ _
      obtain ⟨W4, hW4⟩ : ∃ W4, (((W3.setCell ⟨b, 0, none⟩ (.int .i64 K)).setCell ⟨b, 1, none⟩ (.string (bstr G))).setCell ⟨b, 2, none⟩ (.slice none 0 0)) = W4 := ⟨_, rfl⟩
      rw [hW4] at X4 hB4 ⊢
      refine hKr.out _ _ trivial (fun hHeld2 => ?_)
      clear hKr hHeld hHeld2 hd hW4 X3 hW3 x0 x1 x2 f0 f1 f2
      refine wpAnyH_done (by kernel_rfl) ?_ _
      have HB4 := Lib.hid ((HB1.out.trans (HB2.out.mono (Nat.le_of_lt HX1.out.lt))).trans hB4)
      have HX4 := Lib.hid X4
      clear hB4 HB2 HX2
      obtain ⟨x0, f0⟩ := X4.at_ 0 _ rfl
      obtain ⟨x1, f1⟩ := X4.at_ 1 _ rfl
      obtain ⟨x2, f2⟩ := X4.at_ 2 _ rfl
      clear X4
      by_cases hm : 60 < M
      · have dm : decide ((60 : Int) < M) = true := decide_eq_true (Int.ofNat_lt.2 hm)
        have dm' : decide (60 < M) = true := decide_eq_true hm
        have HE := Lib.hid (show recE s size = 3 from by
          unfold recE
          rw [if_neg HN.out.1, if_neg (by rw [← HT.out]; exact HN.out.2), if_pos (.inl (by rw [← HC.out.2.2]; exact hm))])
        clear hm
        go_wp2_with fail
        obtain ⟨r0, _⟩ := (cells3 HX4.out (.int .i64 K) (.string (bstr G)) (.slice none 0 0)).at_ 0 _ rfl
        obtain ⟨r1, _⟩ := (cells3 HX4.out (.int .i64 K) (.string (bstr G)) (.slice none 0 0)).at_ 1 _ rfl
        obtain ⟨r2, _⟩ := (cells3 HX4.out (.int .i64 K) (.string (bstr G)) (.slice none 0 0)).at_ 2 _ rfl
        refine bodyPost_ret (v := .tuple #[.agg #[.int .i64 K, .string (bstr G), (.slice none 0 0)], .int .i64 0, .int .i64 3]) (by simp [results, Try.results40, go_sem, r0, r1, r2]) rfl ?_
        exact recNil w _ s size K G 3 HE.out (by decide) (HNB.out ▸ below3 HB4.out (Nat.le_refl _) _ _ _)
      · have dm : decide ((60 : Int) < M) = false := decide_eq_false (fun h => hm (Int.ofNat_lt.1 h))
        have dm' : decide (60 < M) = false := decide_eq_false hm
        have hGl : G.length ≤ maxLen := by rw [← HGK.out.1, List.length_drop, HHl.out.1]; exact Nat.le_trans (Nat.sub_le _ _) (by rw [HC.out.1]; exact Nat.le_trans (Nat.add_le_add_left HSZ.out.2.1 4) (by decide))
        have HGR := Lib.hid (isGroup_any G size W4 hGl)
        obtain ⟨R, hR⟩ : ∃ R, R = grp G size := ⟨_, rfl⟩
        rw [← hR] at HGR
        have HRR := Lib.hid (show grp ((s.drop 4).take size) size = R from by rw [hR, ← HGK.out.1, HG4.out])
        clear hGl hR
        cases R
        · have HE := Lib.hid (show recE s size = 3 from by
            unfold recE
            rw [if_neg HN.out.1, if_neg (by rw [← HT.out]; exact HN.out.2), if_pos (.inr HRR.out)])
          clear hm
          go_wp2_with ((with_reducible refine HGR.out.mono ?_); rintro e w5 ⟨rfl, hb5⟩; have HX5 := Lib.hid (HX4.out.below hb5 HX4.out.lt); have HB5 := Lib.hid (HB4.out.trans (hb5.mono (Nat.le_of_lt HX4.out.lt))); clear x0 x1 x2 f0 f1 f2; obtain ⟨x0, f0⟩ := HX5.out.at_ 0 _ rfl; obtain ⟨x1, f1⟩ := HX5.out.at_ 1 _ rfl; obtain ⟨x2, f2⟩ := HX5.out.at_ 2 _ rfl; clear hb5)
          obtain ⟨r0, _⟩ := (cells3 HX5.out (.int .i64 K) (.string (bstr G)) (.slice none 0 0)).at_ 0 _ rfl
          obtain ⟨r1, _⟩ := (cells3 HX5.out (.int .i64 K) (.string (bstr G)) (.slice none 0 0)).at_ 1 _ rfl
          obtain ⟨r2, _⟩ := (cells3 HX5.out (.int .i64 K) (.string (bstr G)) (.slice none 0 0)).at_ 2 _ rfl
          refine bodyPost_ret (v := .tuple #[.agg #[.int .i64 K, .string (bstr G), (.slice none 0 0)], .int .i64 0, .int .i64 3]) (by simp [results, Try.results40, go_sem, r0, r1, r2]) rfl ?_
          exact recNil w _ s size K G 3 HE.out (by decide) (HNB.out ▸ below3 HB5.out (Nat.le_refl _) _ _ _)
        · have HE := Lib.hid (show recE s size = 0 from by
            unfold recE
            rw [if_neg HN.out.1, if_neg (by rw [← HT.out]; exact HN.out.2), if_neg (by rw [HRR.out, ← HC.out.2.2]; intro h; rcases h with h | h; exact hm h; cases h)])
          have hwh : C + M * size ≤ s.length := by
            have h9 := Nat.le_of_not_lt HN.out.2
            rw [HT.out] at h9
            unfold whole at h9
            rw [← HC.out.2.2, ← HC.out.1] at h9
            exact Nat.le_trans (Nat.le_add_right _ _) h9
          have HAD := Lib.hid (fun W => addrs_any s C M size W HSZ.out.1 (by rw [HC.out.1]; exact Nat.le_trans (Nat.add_le_add_left HSZ.out.2.1 4) (by decide)) (Nat.le_trans HSZ.out.2.2 (Nat.le_refl _)) h1 HSZ.out.2.1)
          rw [if_pos hwh, if_pos hwh] at HAD
          clear hm hwh
          go_wp2_with (first | ((with_reducible refine HGR.out.mono ?_); rintro e w5 ⟨rfl, hb5⟩; have HX5 := Lib.hid (HX4.out.below hb5 HX4.out.lt); have HB5 := Lib.hid (HB4.out.trans (hb5.mono (Nat.le_of_lt HX4.out.lt))); clear x0 x1 x2 f0 f1 f2 hb5) | ((with_reducible refine (HAD.out _).mono ?_); rintro e w6 ⟨v6, rfl, hv6, hl6, hb6⟩; obtain ⟨ao, cc, rfl⟩ := hv6.shape; have HX6 := Lib.hid (HX5.out.below hb6 HX5.out.lt); have HB6 := Lib.hid (HB5.out.trans (hb6.mono (Nat.le_of_lt HX5.out.lt))); obtain ⟨x0, f0⟩ := HX6.out.at_ 0 _ rfl; obtain ⟨x1, f1⟩ := HX6.out.at_ 1 _ rfl; obtain ⟨x2, f2⟩ := HX6.out.at_ 2 _ rfl; have HV6 := Lib.hid (And.intro hv6 (And.intro hl6 HX5.out.lt)); clear hv6 hl6 hb6))
          have HX7 := Lib.hid (show CBox (w6.setCell ⟨b, 2, none⟩ (.slice ao (srcs s C M size).length cc)) b 57 #[.int .i64 K, .string (bstr G), .slice ao (srcs s C M size).length cc] from HX6.out.set 2 _)
          obtain ⟨r0, _⟩ := (cells3 HX7.out (.int .i64 K) (.string (bstr G)) (.slice ao (srcs s C M size).length cc)).at_ 0 _ rfl
          obtain ⟨r1, _⟩ := (cells3 HX7.out (.int .i64 K) (.string (bstr G)) (.slice ao (srcs s C M size).length cc)).at_ 1 _ rfl
          obtain ⟨r2, _⟩ := (cells3 HX7.out (.int .i64 K) (.string (bstr G)) (.slice ao (srcs s C M size).length cc)).at_ 2 _ rfl
          refine bodyPost_ret (v := .tuple #[.agg #[.int .i64 K, .string (bstr G), .slice ao (srcs s C M size).length cc], .int .i64 (wrap64 ((E : Int) + Z)), .int .i64 0]) (by simp [results, Try.results40, go_sem, r0, r1, r2]) rfl ?_
          have hb0 : Below b w ((((w6.setCell ⟨b, 2, none⟩ (.slice ao (srcs s C M size).length cc)).setCell ⟨b, 0, none⟩ (.int .i64 K)).setCell ⟨b, 1, none⟩ (.string (bstr G))).setCell ⟨b, 2, none⟩ (.slice ao (srcs s C M size).length cc)) := below3 (HB6.out.setCell (p := ⟨b, 2, none⟩) (Nat.le_refl _) _) (Nat.le_refl _) _ _ _
          have hst : Strs ((((w6.setCell ⟨b, 2, none⟩ (.slice ao (srcs s C M size).length cc)).setCell ⟨b, 0, none⟩ (.int .i64 K)).setCell ⟨b, 1, none⟩ (.string (bstr G))).setCell ⟨b, 2, none⟩ (.slice ao (srcs s C M size).length cc)) (.slice ao (srcs s C M size).length cc) (srcs s C M size) :=
            (((HV6.out.1.far HV6.out.2.1 (p := ⟨b, 2, none⟩) HV6.out.2.2 _).far HV6.out.2.1 (p := ⟨b, 0, none⟩) HV6.out.2.2 _).far HV6.out.2.1 (p := ⟨b, 1, none⟩) HV6.out.2.2 _).far HV6.out.2.1 (p := ⟨b, 2, none⟩) HV6.out.2.2 _
          refine ⟨K, G, ao, _, cc, _, by rw [HE.out], fun _ => ⟨?_, ?_, ?_, ?_, ?_⟩, HNB.out ▸ hb0⟩
          · rw [← HGK.out.2, HK0.out]
          · rw [← HGK.out.1, HG4.out]
          · rw [← HC.out.1, ← HC.out.2.2]; exact hst
          · exact HV6.out.2.1.mono (by rw [← HNB.out]; exact Nat.le_of_lt HV6.out.2.2)
          · rw [HQ4.out, HT.out]
end Go.Proofs.Ythkogdgfkhhleaa
