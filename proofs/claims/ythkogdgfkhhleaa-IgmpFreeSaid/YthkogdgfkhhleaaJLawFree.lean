/- The walk of IgmpFree. -/
import Derived.Test.YthkogdgfkhhleaaJLawBack
namespace Go.Proofs.Ythkogdgfkhhleaa
open Go.RowKit Go.Sort
set_option maxRecDepth 20000
set_option maxRecDepth 20000
attribute [local go_sem] bstr_size bstr_extract bstr_toList bstr_get

theorem wrapped8 (z : Int) (h : (Lit.int .u8 z).wf = true) : ∃ y : UInt8, z = (y.toNat : Int) := by
  have h1 := h
  have e0 : IntKind.u8.min = 0 := by decide
  have e1 : IntKind.u8.max = 255 := by decide
  simp [Lit.wf, e0, e1] at h1
  refine ⟨UInt8.ofNat z.toNat, ?_⟩
  simp
  omega
theorem conv1 (y : UInt8) (W : World) (b : Nat) (h : CBox W b 5 #[.int .u8 y.toNat]) : (convert 44 9 (.slice (some ⟨b, 0, none⟩) 1 1)).run Try.prog W = .ok (.string (bstr [y])) W :=
  run_string_b (P := Try.prog) W 44 9 5 b 1 [y] Try.underlying44 Try.underlying5 Try.underlying9 (fun j hj => ⟨h.lt, by
    have : j = 0 := by simpa using hj
    subst this
    exact (h.at_ 0 _ rfl).1⟩)
set_option maxHeartbeats 4000000 in
theorem law_freeW (k v mx r ev : Int) (g : Str) (q : Bool) (so : Option Addr) (L : List Str) (sc : Nat) (ro : Option Addr) (R : List Rec) (rc : Nat) (y : UInt8) (w : World) (hs : Strs w (.slice so L.length sc) L) (hr : R.length ≤ 40 → Recs w (.slice ro R.length rc) R)
    (hg : g.length ≤ 140737488351232) :
    Calls Try.prog 9 #[.agg (msgCells k v g mx q r ev so L.length sc ro R.length rc), .int .u8 y.toNat] w (YesR w) := by
  have HLV := Lib.hid live_yes
  have b0 : (⟨#[]⟩ : ByteArray) = bstr [] := bstr_nil.symm
  obtain ⟨b1, hb1⟩ : ∃ b, w.heap.size = b := ⟨_, rfl⟩
  obtain ⟨W1, hW1⟩ : ∃ W1, w.alloc (.cells (msgCells k v g mx q r ev so L.length sc ro R.length rc) 27) = W1 := ⟨_, rfl⟩
  have k1 : Below w.heap.size w W1 := by rw [← hW1]; exact (Below.refl _ _).alloc (Nat.le_refl _) _
  have HX1 := Lib.hid (show CBox W1 b1 27 (msgCells k v g mx q r ev so L.length sc ro R.length rc) from by rw [← hW1]; exact CBox.new _ hb1.symm)
  have HB1 := Lib.hid (show Below b1 w W1 from hb1 ▸ k1)
  have HBB := Lib.hid hb1; have HW1 := Lib.hid hW1
  have HFR := Lib.hid (few8_any k v mx r ev g q so L sc ro R rc W1 (fun h => (hr h).mono k1))
  obtain ⟨f, hf⟩ : ∃ f, fewB L R = f := ⟨_, rfl⟩
  rw [hf] at HFR
  unfold RetF at HFR
  cases f
  · clear hs hr hg hb1 hW1 k1 hf
    go_enter Try.func9, Try.ntmps9
    go_upto_region 1 with fail
    rw [HBB.out, HW1.out]
    obtain ⟨x0, xf0⟩ := CBox.at_ HX1.out 0 _ rfl
    obtain ⟨x1, xf1⟩ := CBox.at_ HX1.out 1 _ rfl
    obtain ⟨x2, xf2⟩ := CBox.at_ HX1.out 2 _ rfl
    obtain ⟨x3, xf3⟩ := CBox.at_ HX1.out 3 _ rfl
    obtain ⟨x4, xf4⟩ := CBox.at_ HX1.out 4 _ rfl
    obtain ⟨x5, xf5⟩ := CBox.at_ HX1.out 5 _ rfl
    obtain ⟨x6, xf6⟩ := CBox.at_ HX1.out 6 _ rfl
    obtain ⟨x7, xf7⟩ := CBox.at_ HX1.out 7 _ rfl
    obtain ⟨x8, xf8⟩ := CBox.at_ HX1.out 8 _ rfl
    go_wp2_with (first | ((with_reducible refine HFR.out.mono ?_); rintro e w2 ⟨rfl, hb2⟩; have HB2 := Lib.hid (HB1.out.trans (hb2.mono (Nat.le_of_lt HX1.out.lt))); have HS2 := Lib.hid (Nat.le_trans (Nat.le_of_lt HX1.out.lt) hb2.size); clear hb2) | ((with_reducible refine (HLV.out _).mono ?_); rintro e w3 ⟨rfl, hb3⟩; have HB3 := Lib.hid (HB2.out.trans (hb3.mono HS2.out)); clear hb3))
    go_ret
    exact ⟨rfl, HBB.out ▸ HB3.out⟩
  · have h40 : R.length ≤ 40 := by unfold fewB at hf; simp only [Bool.and_eq_true, decide_eq_true_eq] at hf; exact hf.1.2
    have hrr := hr h40
    have HSR := Lib.hid (fun W (hb : Below W1.heap.size W1 W) => And.intro ((hs.mono k1).mono hb) ((hrr.mono k1).mono hb))
    by_cases hk1 : k = 1
    · have dk : (k == 1) = true := by rw [hk1]; rfl
      clear hs hr hg hb1 hW1 k1 hf h40 hrr hk1
      go_enter Try.func9, Try.ntmps9
      go_upto_region 1 with fail
      rw [HBB.out, HW1.out]
      obtain ⟨x0, xf0⟩ := CBox.at_ HX1.out 0 _ rfl
      obtain ⟨x1, xf1⟩ := CBox.at_ HX1.out 1 _ rfl
      obtain ⟨x2, xf2⟩ := CBox.at_ HX1.out 2 _ rfl
      obtain ⟨x3, xf3⟩ := CBox.at_ HX1.out 3 _ rfl
      obtain ⟨x4, xf4⟩ := CBox.at_ HX1.out 4 _ rfl
      obtain ⟨x5, xf5⟩ := CBox.at_ HX1.out 5 _ rfl
      obtain ⟨x6, xf6⟩ := CBox.at_ HX1.out 6 _ rfl
      obtain ⟨x7, xf7⟩ := CBox.at_ HX1.out 7 _ rfl
      obtain ⟨x8, xf8⟩ := CBox.at_ HX1.out 8 _ rfl
      go_wp2_with (first | ((with_reducible refine HFR.out.mono ?_); rintro e w2 ⟨rfl, hb2⟩; have K2 := Lib.hid hb2; have HX2 := Lib.hid (HX1.out.below hb2 HX1.out.lt); clear hb2 x0 xf0 x1 xf1 x2 xf2 x3 xf3 x4 xf4 x5 xf5 x6 xf6 x7 xf7 x8 xf8; obtain ⟨x0, xf0⟩ := CBox.at_ HX2.out 0 _ rfl; obtain ⟨x1, xf1⟩ := CBox.at_ HX2.out 1 _ rfl; obtain ⟨x2, xf2⟩ := CBox.at_ HX2.out 2 _ rfl; obtain ⟨x3, xf3⟩ := CBox.at_ HX2.out 3 _ rfl; obtain ⟨x4, xf4⟩ := CBox.at_ HX2.out 4 _ rfl; obtain ⟨x5, xf5⟩ := CBox.at_ HX2.out 5 _ rfl; obtain ⟨x6, xf6⟩ := CBox.at_ HX2.out 6 _ rfl; obtain ⟨x7, xf7⟩ := CBox.at_ HX2.out 7 _ rfl; obtain ⟨x8, xf8⟩ := CBox.at_ HX2.out 8 _ rfl) | ((with_reducible refine (HLV.out w2).mono ?_); rintro e w4 ⟨rfl, hb4⟩; have K4 := Lib.hid (K2.out.trans (hb4.mono K2.out.size)); clear hb4))
      go_ret
      exact ⟨rfl, HBB.out ▸ HB1.out.trans (K4.out.mono (Nat.le_of_lt HX1.out.lt))⟩
    · have dk : (k == 1) = false := by rw [Bool.eq_false_iff, ne_eq, beq_iff_eq]; exact hk1
      have HEN := Lib.hid (fun W (hb : Below W1.heap.size W1 W) => encode_wide k v mx r ev g q so L sc ro R rc W ((hs.mono k1).mono hb) ((hrr.mono k1).mono hb) hg (fun h => absurd h hk1))
      obtain ⟨yy, hy⟩ : ∃ yy, mayM ⟨k, v, g, mx, q, r, ev, L, R⟩ = yy := ⟨_, rfl⟩
      have RF := Lib.hid (Below.refl W1.heap.size W1)
      cases yy
      · rw [show penc ⟨k, v, g, mx, q, r, ev, L, R⟩ = ([], 1) from by unfold penc; rw [hy]; rfl] at HEN
        unfold RetBody at HEN
        clear hs hr hg hb1 hW1 k1 hf h40 hrr hy hk1
        go_enter Try.func9, Try.ntmps9
        go_upto_region 1 with fail
        rw [HBB.out, HW1.out]
        obtain ⟨x0, xf0⟩ := CBox.at_ HX1.out 0 _ rfl
        obtain ⟨x1, xf1⟩ := CBox.at_ HX1.out 1 _ rfl
        obtain ⟨x2, xf2⟩ := CBox.at_ HX1.out 2 _ rfl
        obtain ⟨x3, xf3⟩ := CBox.at_ HX1.out 3 _ rfl
        obtain ⟨x4, xf4⟩ := CBox.at_ HX1.out 4 _ rfl
        obtain ⟨x5, xf5⟩ := CBox.at_ HX1.out 5 _ rfl
        obtain ⟨x6, xf6⟩ := CBox.at_ HX1.out 6 _ rfl
        obtain ⟨x7, xf7⟩ := CBox.at_ HX1.out 7 _ rfl
        obtain ⟨x8, xf8⟩ := CBox.at_ HX1.out 8 _ rfl
        go_wp2_with (first | ((with_reducible refine HFR.out.mono ?_); rintro e w2 ⟨rfl, hb2⟩; have K2 := Lib.hid hb2; have HX2 := Lib.hid (HX1.out.below hb2 HX1.out.lt); clear hb2 x0 xf0 x1 xf1 x2 xf2 x3 xf3 x4 xf4 x5 xf5 x6 xf6 x7 xf7 x8 xf8; obtain ⟨x0, xf0⟩ := CBox.at_ HX2.out 0 _ rfl; obtain ⟨x1, xf1⟩ := CBox.at_ HX2.out 1 _ rfl; obtain ⟨x2, xf2⟩ := CBox.at_ HX2.out 2 _ rfl; obtain ⟨x3, xf3⟩ := CBox.at_ HX2.out 3 _ rfl; obtain ⟨x4, xf4⟩ := CBox.at_ HX2.out 4 _ rfl; obtain ⟨x5, xf5⟩ := CBox.at_ HX2.out 5 _ rfl; obtain ⟨x6, xf6⟩ := CBox.at_ HX2.out 6 _ rfl; obtain ⟨x7, xf7⟩ := CBox.at_ HX2.out 7 _ rfl; obtain ⟨x8, xf8⟩ := CBox.at_ HX2.out 8 _ rfl) | ((with_reducible refine (HEN.out w2 K2.out).mono ?_); rintro e w3 ⟨rfl, hb3⟩; have K3 := Lib.hid (K2.out.trans (hb3.mono K2.out.size)); clear hb3 x0 xf0 x1 xf1 x2 xf2 x3 xf3 x4 xf4 x5 xf5 x6 xf6 x7 xf7 x8 xf8) | ((with_reducible refine (HLV.out w3).mono ?_); rintro e w4 ⟨rfl, hb4⟩; have K4 := Lib.hid (K3.out.trans (hb4.mono K3.out.size)); clear hb4))
        go_ret
        exact ⟨rfl, HBB.out ▸ HB1.out.trans (K4.out.mono (Nat.le_of_lt HX1.out.lt))⟩
      · obtain ⟨a, y0, c, d, rest, hfl, hrl, hdc⟩ := free _ hy hk1 y
        have hln := fill_len _ hy
        rw [hfl] at hln
        obtain ⟨D, hD⟩ : ∃ D : Str, c :: d :: rest = D := ⟨_, rfl⟩
        have hDl : D.length = rest.length + 2 := by rw [← hD]; rfl
        obtain ⟨T, hT⟩ : ∃ T : Str, a :: y0 :: D = T := ⟨_, rfl⟩
        obtain ⟨A2, hA2⟩ : ∃ T : Str, [a, y] ++ D = T := ⟨_, rfl⟩
        have hA2l : A2.length = D.length + 2 := by rw [← hA2]; rfl
        have hTl : T.length = D.length + 2 := by rw [← hT]; rfl
        rw [show (a :: y :: c :: d :: rest : Str) = A2 from by rw [← hA2, hD]; rfl] at hdc
        rw [show (a :: y0 :: c :: d :: rest : Str) = T from by rw [hD, hT]] at hfl hln
        obtain ⟨F, hF⟩ : ∃ F, fillS [] A2 2 = F := ⟨_, rfl⟩
        rw [hF] at hdc
        rw [show penc ⟨k, v, g, mx, q, r, ev, L, R⟩ = (T, 0) from by unfold penc; rw [hy, hfl]; rfl] at HEN
        unfold RetBody at HEN
        have HFL := Lib.hid (fun W => rfill_any [] A2 W rfl (by decide) (by omega) (by omega))
        rw [hF] at HFL
        have HDC := Lib.hid (fun W => (decode_any F W (by rw [← hF, fillS_length [] _ 2 (by omega)]; omega)).mono fun _ _ h => ret_decM h)
        rw [hdc] at HDC
        unfold RetDecM at HDC
        dsimp only at HDC
        have HSM := Lib.hid (fun W so' sc' ro' rc' (hb : Below W1.heap.size W1 W) (h1 : Strs W (.slice so' L.length sc') L) (h2 : Recs W (.slice ro' R.length rc') R) => same_yes k v mx r ev g q so L sc ro R rc so' sc' ro' rc' W (HSR.out W hb).1 (HSR.out W hb).2 h1 h2)
        have m8 : decide ((T.length : Int) < 8) = false := decide_eq_false (by omega)
        have m8' : decide (T.length < 8) = false := decide_eq_false (by omega)
        have i1 : (1 : Int) ≤ (T.length : Int) := by omega
        have i2 : (2 : Int) ≤ (T.length : Int) := by omega
        have t1 : List.take 1 T = [a] := by rw [← hT]; rfl
        have t2 : List.take (T.length - 2) (List.drop 2 T) = D := by rw [← hT]; exact List.take_of_length_le (by simp)
        have n2 : ¬ 9223372036854775807 < 2 + D.length := by omega
        have a1 : bstr [a] ++ bstr [y] = bstr [a, y] := bstr_append _ _
        have a2 : bstr [a, y] ++ bstr D = bstr A2 := by rw [bstr_append, hA2]
        clear hs hr hg hb1 hW1 k1 hf h40 hrr hy hk1 hfl hrl hdc hln hD hT hA2 hF hDl hA2l hTl
        go_enter Try.func9, Try.ntmps9
        go_upto_region 1 with fail
        rw [HBB.out, HW1.out]
        obtain ⟨x0, xf0⟩ := CBox.at_ HX1.out 0 _ rfl
        obtain ⟨x1, xf1⟩ := CBox.at_ HX1.out 1 _ rfl
        obtain ⟨x2, xf2⟩ := CBox.at_ HX1.out 2 _ rfl
        obtain ⟨x3, xf3⟩ := CBox.at_ HX1.out 3 _ rfl
        obtain ⟨x4, xf4⟩ := CBox.at_ HX1.out 4 _ rfl
        obtain ⟨x5, xf5⟩ := CBox.at_ HX1.out 5 _ rfl
        obtain ⟨x6, xf6⟩ := CBox.at_ HX1.out 6 _ rfl
        obtain ⟨x7, xf7⟩ := CBox.at_ HX1.out 7 _ rfl
        obtain ⟨x8, xf8⟩ := CBox.at_ HX1.out 8 _ rfl
        go_upto_region 6 with (first | ((with_reducible refine HFR.out.mono ?_); rintro e w2 ⟨rfl, hb2⟩; have K2 := Lib.hid hb2; have HX2 := Lib.hid (HX1.out.below hb2 HX1.out.lt); clear hb2 x0 xf0 x1 xf1 x2 xf2 x3 xf3 x4 xf4 x5 xf5 x6 xf6 x7 xf7 x8 xf8; obtain ⟨x0, xf0⟩ := CBox.at_ HX2.out 0 _ rfl; obtain ⟨x1, xf1⟩ := CBox.at_ HX2.out 1 _ rfl; obtain ⟨x2, xf2⟩ := CBox.at_ HX2.out 2 _ rfl; obtain ⟨x3, xf3⟩ := CBox.at_ HX2.out 3 _ rfl; obtain ⟨x4, xf4⟩ := CBox.at_ HX2.out 4 _ rfl; obtain ⟨x5, xf5⟩ := CBox.at_ HX2.out 5 _ rfl; obtain ⟨x6, xf6⟩ := CBox.at_ HX2.out 6 _ rfl; obtain ⟨x7, xf7⟩ := CBox.at_ HX2.out 7 _ rfl; obtain ⟨x8, xf8⟩ := CBox.at_ HX2.out 8 _ rfl) | ((with_reducible refine (HEN.out w2 K2.out).mono ?_); rintro e w3 ⟨rfl, hb3⟩; have K3 := Lib.hid (K2.out.trans (hb3.mono K2.out.size)); clear hb3 x0 xf0 x1 xf1 x2 xf2 x3 xf3 x4 xf4 x5 xf5 x6 xf6 x7 xf7 x8 xf8))
        refine wp_region_held_drew (S := fun W' => Below w3.heap.size w3 W') (by kernel_rfl) (Below.drew (Below.refl _ _)) (fun hHeld => ?_)
        refine takeL 0 (v := ?_) rfl (by kernel_rfl) (by kernel_rfl) (by kernel_rfl) (fun _ _ _ h => h) (Or.inl ⟨by rfl, ?_⟩) (by assumption) ?_
        rotate_left
        focus (intro wq hSq; go_simp <;> with_reducible rfl)
        simp only [Act.put, List.setIfInBounds_toArray, List.set_cons_zero, List.set_cons_succ]
        refine takeL 1 (v := ?_) rfl (by kernel_rfl) (by kernel_rfl) (by kernel_rfl) (fun _ _ _ h => h) (Or.inl ⟨by rfl, ?_⟩) (by assumption) ?_
        rotate_left
        focus (intro wq hSq; go_simp <;> with_reducible rfl)
        simp only [Act.put, List.setIfInBounds_toArray, List.set_cons_zero, List.set_cons_succ]
        refine takeL 2 (v := ?_) rfl (by kernel_rfl) (by kernel_rfl) (by kernel_rfl) (fun _ _ _ h => h) (Or.inl ⟨by rfl, ?_⟩) (by assumption) ?_
        rotate_left
        focus (intro wq hSq; go_simp <;> with_reducible rfl)
        simp only [Act.put, List.setIfInBounds_toArray, List.set_cons_zero, List.set_cons_succ]
        refine takeL 6 (v := ?_) rfl (by kernel_rfl) (by kernel_rfl) (by kernel_rfl) (fun _ _ _ h => h) (Or.inl ⟨by rfl, ?_⟩) (by assumption) ?_
        rotate_left
        focus (intro wq hSq; go_simp <;> with_reducible rfl)
        simp only [Act.put, List.setIfInBounds_toArray, List.set_cons_zero, List.set_cons_succ]
        refine takeL 7 (v := ?_) rfl (by kernel_rfl) (by kernel_rfl) (by kernel_rfl) (fun _ _ _ h => h) (Or.inl ⟨by rfl, ?_⟩) (by assumption) ?_
        rotate_left
        focus (intro wq hSq; go_simp <;> with_reducible rfl)
        simp only [Act.put, List.setIfInBounds_toArray, List.set_cons_zero, List.set_cons_succ]
        refine wpAnyH_ready (rs := [3]) (by kernel_rfl) (by simp) (nextL 3 rfl (fun Kr hKr => ?_) AllReadyH.nil)
        rw [if_pos (by rfl)]
        go_simp
        obtain ⟨W4, hW4⟩ : ∃ W4, (w3.alloc (Obj.cells #[.int .u8 (y.toNat : Int)] 5)).drew = W4 := ⟨_, rfl⟩
        have hB4 : Below w3.heap.size w3 W4 := by rw [← hW4]; exact Below.drew ((Below.refl _ _).alloc (Nat.le_refl _) _)
        have hst := conv1 y W4 w3.heap.size (by rw [← hW4]; show CBox (w3.alloc _) _ _ _; exact CBox.new _ rfl)
        rw [hW4]
        refine hKr.out _ _ hB4 (fun hHeld4 => ?_)
        clear hKr hHeld
        refine wpAnyH_ready (rs := [4]) (by kernel_rfl) (by simp) (nextL 4 rfl (fun Kr hKr => ?_) AllReadyH.nil)
        rw [if_pos (by rfl)]
        go_simp
        refine hKr.out _ _ hB4 (fun hHeld5 => ?_)
        clear hKr hHeld4
        refine takeL 5 (v := ?_) rfl (by kernel_rfl) (by kernel_rfl) (by kernel_rfl) (fun _ _ _ h => h) (Or.inl ⟨by rfl, ?_⟩) (by assumption) ?_
        rotate_left
        focus (intro wq hSq; go_simp <;> with_reducible rfl)
        simp only [Act.put, List.setIfInBounds_toArray, List.set_cons_zero, List.set_cons_succ]
        refine takeL 8 (v := ?_) rfl (by kernel_rfl) (by kernel_rfl) (by kernel_rfl) (fun _ _ _ h => h) (Or.inl ⟨by rfl, ?_⟩) (by assumption) ?_
        rotate_left
        focus (intro wq hSq; go_simp <;> with_reducible rfl)
        simp only [Act.put, List.setIfInBounds_toArray, List.set_cons_zero, List.set_cons_succ]
        refine wpAnyH_ready (rs := [9]) (by kernel_rfl) (by simp) (nextL 9 rfl (fun Kr hKr => ?_) AllReadyH.nil)
        rw [if_pos (by rfl)]
        go_simp
        refine (HFL.out _).mono ?_
        rintro e w6 ⟨rfl, hb6⟩
        refine hKr.out _ _ (hHeld5.trans (hb6.mono hHeld5.size)) (fun hHeld6 => ?_)
        clear hKr
        refine takeL 10 (v := ?_) rfl (by kernel_rfl) (by kernel_rfl) (by kernel_rfl) (fun _ _ _ h => h) (Or.inl ⟨by rfl, ?_⟩) (by assumption) ?_
        rotate_left
        focus (intro wq hSq; go_simp <;> with_reducible rfl)
        simp only [Act.put, List.setIfInBounds_toArray, List.set_cons_zero, List.set_cons_succ]
        refine takeL 11 (v := ?_) rfl (by kernel_rfl) (by kernel_rfl) (by kernel_rfl) (fun _ _ _ h => h) (Or.inl ⟨by rfl, ?_⟩) (by assumption) ?_
        rotate_left
        focus (intro wq hSq; go_simp <;> with_reducible rfl)
        simp only [Act.put, List.setIfInBounds_toArray, List.set_cons_zero, List.set_cons_succ]
        refine takeL 12 (v := ?_) rfl (by kernel_rfl) (by kernel_rfl) (by kernel_rfl) (fun _ _ _ h => h) (Or.inl ⟨by rfl, ?_⟩) (by assumption) ?_
        rotate_left
        focus (intro wq hSq; go_simp <;> with_reducible rfl)
        simp only [Act.put, List.setIfInBounds_toArray, List.set_cons_zero, List.set_cons_succ]
        refine takeL 13 (v := ?_) rfl (by kernel_rfl) (by kernel_rfl) (by kernel_rfl) (fun _ _ _ h => h) (Or.inl ⟨by rfl, ?_⟩) (by assumption) ?_
        rotate_left
        focus (intro wq hSq; go_simp <;> with_reducible rfl)
        simp only [Act.put, List.setIfInBounds_toArray, List.set_cons_zero, List.set_cons_succ]
        refine takeL 14 (v := ?_) rfl (by kernel_rfl) (by kernel_rfl) (by kernel_rfl) (fun _ _ _ h => h) (Or.inl ⟨by rfl, ?_⟩) (by assumption) ?_
        rotate_left
        focus (intro wq hSq; go_simp <;> with_reducible rfl)
        simp only [Act.put, List.setIfInBounds_toArray, List.set_cons_zero, List.set_cons_succ]
        refine wpAnyH_done (by kernel_rfl) ?_ _
        have K6 := Lib.hid (K3.out.trans (hHeld6.mono K3.out.size))
        clear hHeld5 hHeld6 hb6 hst hB4 hW4 a1 a2 n2 t1 t2
        go_upto_region 8 with ((with_reducible refine (HDC.out w6).mono ?_); rintro e w7 ⟨so', sc', ro', rc', rfl, hs4, hr4, hb4⟩; have K7 := Lib.hid (K6.out.trans (hb4.mono K6.out.size)); have HV4 := Lib.hid (And.intro hs4 hr4); clear hb4 hs4 hr4)
        obtain ⟨W5, hW5⟩ : ∃ W5, w7.alloc (.cells (msgCells k v g mx q r ev so' L.length sc' ro' R.length rc') 27) = W5 := ⟨_, rfl⟩
        obtain ⟨b5, hb5⟩ : ∃ b, w7.heap.size = b := ⟨_, rfl⟩
        have k5 : Below w7.heap.size w7 W5 := by rw [← hW5]; exact (Below.refl _ _).alloc (Nat.le_refl _) _
        have HX5 := Lib.hid (show CBox W5 b5 27 (msgCells k v g mx q r ev so' L.length sc' ro' R.length rc') from by rw [← hW5]; exact CBox.new _ hb5.symm)
        have K5 := Lib.hid (K7.out.trans (k5.mono K7.out.size))
        have HX6 := Lib.hid (HX1.out.below K5.out HX1.out.lt)
        have HS5 := Lib.hid (HSM.out W5 so' sc' ro' rc' K5.out (HV4.out.1.mono k5) (HV4.out.2.mono k5))
        rw [hW5, hb5]
        clear hW5 hb5 k5
        obtain ⟨x0, xf0⟩ := CBox.at_ HX6.out 0 _ rfl
        obtain ⟨x1, xf1⟩ := CBox.at_ HX6.out 1 _ rfl
        obtain ⟨x2, xf2⟩ := CBox.at_ HX6.out 2 _ rfl
        obtain ⟨x3, xf3⟩ := CBox.at_ HX6.out 3 _ rfl
        obtain ⟨x4, xf4⟩ := CBox.at_ HX6.out 4 _ rfl
        obtain ⟨x5, xf5⟩ := CBox.at_ HX6.out 5 _ rfl
        obtain ⟨x6, xf6⟩ := CBox.at_ HX6.out 6 _ rfl
        obtain ⟨x7, xf7⟩ := CBox.at_ HX6.out 7 _ rfl
        obtain ⟨x8, xf8⟩ := CBox.at_ HX6.out 8 _ rfl
        obtain ⟨y0, yf0⟩ := CBox.at_ HX5.out 0 _ rfl
        obtain ⟨y1, yf1⟩ := CBox.at_ HX5.out 1 _ rfl
        obtain ⟨y2, yf2⟩ := CBox.at_ HX5.out 2 _ rfl
        obtain ⟨y3, yf3⟩ := CBox.at_ HX5.out 3 _ rfl
        obtain ⟨y4, yf4⟩ := CBox.at_ HX5.out 4 _ rfl
        obtain ⟨y5, yf5⟩ := CBox.at_ HX5.out 5 _ rfl
        obtain ⟨y6, yf6⟩ := CBox.at_ HX5.out 6 _ rfl
        obtain ⟨y7, yf7⟩ := CBox.at_ HX5.out 7 _ rfl
        obtain ⟨y8, yf8⟩ := CBox.at_ HX5.out 8 _ rfl
        go_wp2_with (first
          | ((with_reducible refine HS5.out.mono ?_); rintro e w8 ⟨rfl, hb8⟩; have K8 := Lib.hid (K5.out.trans (hb8.mono K5.out.size)); clear hb8 x0 xf0 x1 xf1 x2 xf2 x3 xf3 x4 xf4 x5 xf5 x6 xf6 x7 xf7 x8 xf8 y0 yf0 y1 yf1 y2 yf2 y3 yf3 y4 yf4 y5 yf5 y6 yf6 y7 yf7 y8 yf8)
          | ((with_reducible refine (HLV.out w8).mono ?_); rintro e w4 ⟨rfl, hb4⟩; have K4 := Lib.hid (K8.out.trans (hb4.mono K8.out.size)); clear hb4))
        go_ret
        exact ⟨rfl, HBB.out ▸ HB1.out.trans (K4.out.mono (Nat.le_of_lt HX1.out.lt))⟩
end Go.Proofs.Ythkogdgfkhhleaa
