/- Texts joined into one file: JRecs2. -/
import Derived.Test.YthkibgdeibolfaaQ08

/- siphonref08.Records. -/
namespace Go.Proofs.Ythkibgdeibolfaa
open Go.RowKit Go.Sort
set_option maxRecDepth 20000
set_option maxRecDepth 20000
attribute [local go_sem] bstr_size bstr_extract bstr_toList bstr_get

theorem ratM_any (S : Str) (M : Nat) (w : World) (hl : 4 ≤ S.length) (hm : S.length ≤ maxLen) (hM : M = many S) :
    Calls Try.prog 25 #[.string (bstr S), .int .i64 2, .int .i64 2] w fun e w' => e = .returned (.int .i64 M) ∧ w = w' := by
  have h := rat_any1 S 2 2 w hm (by decide) (by decide) (by decide)
  unfold getV at h
  rw [if_pos (by omega)] at h
  rw [hM]
  exact h

set_option maxHeartbeats 4000000 in
theorem rrecords_nat (s : Str) (n size : Nat) (w : World) (hs : s.length ≤ 1000000) (hsz : size = 4 ∨ size = 16) (hn : n ≤ 30) :
    Calls Try.prog 24 #[.string (bstr s), .int .i64 n, .int .i64 size] w (RetRecsE w (precA size n s []).2 (precA size n s []).1) := by
  obtain ⟨i0, hi, hz0, hz1, hz2⟩ := info_parts infoRec
  have d30 : decide ((30 : Int) < n) = false := decide_eq_false (by omega)
  have ds : (((size : Int) != 4) && ((size : Int) != 16)) = false := by rcases hsz with rfl | rfl <;> rfl
  have ds4 : ((size : Int) != 4) = !(decide (size = 4)) := by rcases hsz with rfl | rfl <;> rfl
  have ds16 : ((size : Int) != 16) = decide (size = 4) := by rcases hsz with rfl | rfl <;> rfl
  have hs1 : 1 ≤ size ∧ size ≤ 16 := by omega
  have HS1 := Lib.hid hs1
  obtain ⟨P, hP⟩ : ∃ P, P = precA size n s [] := ⟨_, rfl⟩
  rw [← hP]
  have HP := Lib.hid hP
  have HS := Lib.hid (And.intro hs hn)
  obtain ⟨B4, hB4⟩ : ∃ B4, B4 = decide (size = 4) := ⟨_, rfl⟩
  rw [← hB4] at ds4 ds16
  clear hsz hs1 hP hs hn hB4 ds
  cases B4
  all_goals
    go_enter Try.func24, Try.ntmps24
    go_wp2_with fail
    clear d30 ds4 ds16
    go_loopw [0, 8, 9, 10, 11, 12] (fun t l i _ _ _ wr => ∃ (k : Nat) (S : Str) (Q : List QRec), k ≤ n ∧ i = .int .i64 k ∧ t = .string (bstr S) ∧ RowQ wr w.heap.size l Q ∧ S.length ≤ s.length ∧ Q.length ≤ k ∧ P = precA size (n - k) S (Q.map qrec) ∧ Below w.heap.size w wr) (fun _ _ i _ _ _ _ => n - (RowKit.intOf i).toNat)
    case atStart => exact ⟨0, s, [], Nat.zero_le _, rfl, rfl, RowQ.nil _ _, Nat.le_refl _, Nat.le_refl _, HP.out, Below.refl _ _⟩
    case round =>
      obtain ⟨k, S, Q, hk, rfl, rfl, hrow, hSl, hQl, hPQ, hb⟩ := hrel
      obtain ⟨lo, lc, rfl⟩ := own_form hrow.1
      have HROW := Lib.hid hrow; have HB := Lib.hid hb
      have HIN := Lib.hid (And.intro hSl (And.intro hQl hPQ))
      by_cases hlt : k < n
      · have HST := Lib.hid (show P = if recE S size = 0 then precA size (n - (k + 1)) (S.drop (whole S size)) (if knownK (S.getD 0 0).toNat then Q.map qrec ++ [recOf S size] else Q.map qrec) else (recE S size, []) from by
          rw [HIN.out.2.2, show n - k = n - (k + 1) + 1 from by clear hPQ; omega, precA_step])
        have hSm : S.length ≤ 1000000 := Nat.le_trans hSl HS.out.1
        have hz16 := HS1.out.2
        have hw4 : wrap64 ((4 : Int) + size) = ((4 + size : Nat) : Int) := by clear hPQ; rw [w64 _ (by omega) (by omega)]; omega
        obtain ⟨C, hC⟩ : ∃ C, C = 4 + size := ⟨_, rfl⟩
        rw [← hC] at hw4
        clear hrow hb hSl hQl hPQ
        by_cases hA : S.length < 4 + size
        · have hA' : decide ((S.length : Int) < C) = true := decide_eq_true (by omega)
          have hA'' : decide (S.length < C) = true := decide_eq_true (by omega)
          have HPE := Lib.hid (show P = (2, []) from by rw [HST.out, show recE S size = 2 from if_pos hA]; rfl)
          clear hSm hz16 hA hC hk
          go_wp2_with fail
          go_ret2
          exact ⟨_, by rw [HPE.out]; rfl, by rw [HPE.out]; exact Row.nil _ _, HB.out⟩
        · have hA' : decide ((S.length : Int) < C) = false := decide_eq_false (by omega)
          have hA'' : decide (S.length < C) = false := decide_eq_false (by omega)
          have hl4 : 4 ≤ S.length := by omega
          obtain ⟨M, hM⟩ : ∃ M, M = many S := ⟨_, rfl⟩
          have hM65 : M ≤ 65535 := by have := numAt_lt S 2 2; rw [hM]; unfold many; omega
          have HG := Lib.hid (fun W => ratM_any S M W hl4 (Nat.le_trans hSm (by decide)) hM)
          obtain ⟨Y, hY⟩ : ∃ Y, Y = (S.getD 1 0).toNat := ⟨_, rfl⟩
          have hY255 : Y ≤ 255 := by have := (S.getD 1 0).toNat_lt; omega
          have hH1 : (S[1]?.getD 0).toNat = Y := by rw [hY, List.getD_eq_getElem?_getD]
          have hH1' : (1 : Int) < S.length := by omega
          have hH0' : (0 : Int) < S.length := by omega
          have hC4 : (4 : Int) ≤ C := by omega
          have hCS : (C : Int) ≤ S.length := by omega
          have hC4n : C - 4 = size := by omega
          obtain ⟨J, hJ⟩ : ∃ J, J = M * size := ⟨_, rfl⟩
          obtain ⟨E, hE⟩ : ∃ E, E = C + J := ⟨_, rfl⟩
          obtain ⟨Z, hZ⟩ : ∃ Z, Z = 4 * Y := ⟨_, rfl⟩
          obtain ⟨T, hT⟩ : ∃ T, T = E + Z := ⟨_, rfl⟩
          obtain ⟨q1, q2, q3, q4, q5⟩ := rec_nums M size C J E Y Z T hM65 hC hz16 hJ hE hY255 hZ hT
          have hTw : T = whole S size := by unfold whole; rw [hT, hE, hZ, hJ, hC, hM, hY]
          have HC := Lib.hid (And.intro hC (And.intro hTw hM))
          have HNA := Lib.hid hA
          by_cases hB : S.length < T
          · have dB : decide ((S.length : Int) < T) = true := decide_eq_true (Int.ofNat_lt.2 hB)
            have dB' : decide (S.length < T) = true := decide_eq_true hB
            have HPE := Lib.hid (show P = (2, []) from by rw [HST.out, show recE S size = 2 from by unfold recE; rw [if_neg hA, if_pos (by rw [← hTw]; exact hB)]]; rfl)
            clear hSm hz16 hA hC hk hM hM65 hY hY255 hJ hE hZ hT hTw hB hl4 hC4n
            go_wp2_with ((with_reducible refine (HG.out _).mono ?_); rintro e w2 ⟨rfl, hw2⟩; subst w2)
            go_ret2
            exact ⟨_, by rw [HPE.out]; rfl, by rw [HPE.out]; exact Row.nil _ _, HB.out⟩
          · have dB : decide ((S.length : Int) < T) = false := decide_eq_false (fun h => hB (Int.ofNat_lt.1 h))
            have dB' : decide (S.length < T) = false := decide_eq_false hB
            have HNB := Lib.hid hB
            have HSZ := Lib.hid (And.intro hSm (And.intro hz16 hM65))
            clear hSm hz16 hA hC hk hM hM65 hY hY255 hJ hE hZ hT hTw hB hl4
            go_upto_region 15 with ((with_reducible refine (HG.out _).mono ?_); rintro e w2 ⟨rfl, hw2⟩; subst w2)
            obtain ⟨G, hG⟩ : ∃ G, List.take (C - 4) (List.drop 4 S) = G := ⟨_, rfl⟩
            obtain ⟨K, hK⟩ : ∃ K, (S[0]?.getD 0).toNat = K := ⟨_, rfl⟩
            have hK64 : IntKind.i64.wrap (K : Int) = (K : Int) := by rw [← hK]; have := (S[0]?.getD 0).toNat_lt; exact wraps_i64 _ (Int.natCast_nonneg _) (by clear q1 q2 q3 q4 q5; omega)
            have hwC : IntKind.i64.wrap ((4 : Int) + size) = (C : Int) := by rw [HC.out.1, IntKind.wrap_i64]; have := HS1.out.2; clear q1 q2 q3 q4 q5; omega
            have HGK := Lib.hid (And.intro (show G = (S.drop 4).take size from by rw [← hG, hC4n]) (show (S.getD 0 0).toNat = K from by rw [List.getD_eq_getElem?_getD]; exact hK))
            have HQ4 := Lib.hid q4
            have hKe : ∀ h : 0 < S.length, (S[0]'h).toNat = K := fun h => by rw [← hK, List.getElem?_eq_getElem h]; rfl
            have hn0 : 0 < S.length := Int.ofNat_lt.1 hH0'
            have hn4 : 4 ≤ C := Int.ofNat_le.1 hC4
            have hnC : C ≤ S.length := Int.ofNat_le.1 hCS
            clear q1 q2 q3 q4 q5 hw4 hH1 dB dB' hA' hA'' hC4n
            refine wp_region_held_drew (S := fun _ => True) (by kernel_rfl) trivial (fun hHeld => ?_)
            refine takeL 0 (v := ?_) rfl (by kernel_rfl) (by kernel_rfl) (by kernel_rfl) (fun _ _ _ h => h) (Or.inl ⟨by rfl, ?_⟩) (by assumption) ?_
            rotate_left
            focus (intro wq hSq; go_simp <;> with_reducible rfl)
            simp only [Act.put, List.setIfInBounds_toArray, List.set_cons_zero, List.set_cons_succ]
            refine takeL 1 (v := ?_) rfl (by kernel_rfl) (by kernel_rfl) (by kernel_rfl) (fun _ _ _ h => h) (Or.inl ⟨by rfl, ?_⟩) (by assumption) ?_
            rotate_left
            focus (intro wq hSq; go_simp <;> with_reducible rfl)
            simp only [Act.put, List.setIfInBounds_toArray, List.set_cons_zero, List.set_cons_succ]
            refine takeL 2 (v := ?_) rfl (by kernel_rfl) (by kernel_rfl) (by kernel_rfl) (fun _ _ _ h => h) (Or.inl ⟨by rfl, ?_⟩) (by assumption) ?_
            rotate_left
            focus (intro wq hSq; go_simp <;> with_reducible rfl)
            simp only [Act.put, List.setIfInBounds_toArray, List.set_cons_zero, List.set_cons_succ]
            refine takeL 3 (v := ?_) rfl (by kernel_rfl) (by kernel_rfl) (by kernel_rfl) (fun _ _ _ h => h) (Or.inl ⟨by rfl, ?_⟩) (by assumption) ?_
            rotate_left
            focus (intro wq hSq; go_simp <;> with_reducible rfl)
            simp only [Act.put, List.setIfInBounds_toArray, List.set_cons_zero, List.set_cons_succ]
            refine takeL 4 (v := ?_) rfl (by kernel_rfl) (by kernel_rfl) (by kernel_rfl) (fun _ _ _ h => h) (Or.inl ⟨by rfl, ?_⟩) (by assumption) ?_
            rotate_left
            focus (intro wq hSq; go_simp <;> with_reducible rfl)
            simp only [Act.put, List.setIfInBounds_toArray, List.set_cons_zero, List.set_cons_succ]
            refine takeL 5 (v := ?_) rfl (by kernel_rfl) (by kernel_rfl) (by kernel_rfl) (fun _ _ _ h => h) (Or.inl ⟨by rfl, ?_⟩) (by assumption) ?_
            rotate_left
            focus (intro wq hSq; go_simp <;> with_reducible rfl)
            simp only [Act.put, List.setIfInBounds_toArray, List.set_cons_zero, List.set_cons_succ]
            refine takeL 6 (v := ?_) rfl (by kernel_rfl) (by kernel_rfl) (by kernel_rfl) (fun _ _ _ h => h) (Or.inl ⟨by rfl, ?_⟩) (by assumption) ?_
            rotate_left
            focus (intro wq hSq; go_simp <;> with_reducible rfl)
            simp only [Act.put, List.setIfInBounds_toArray, List.set_cons_zero, List.set_cons_succ]
            refine takeL 7 (v := ?_) rfl (by kernel_rfl) (by kernel_rfl) (by kernel_rfl) (fun _ _ _ h => h) (Or.inl ⟨by rfl, ?_⟩) (by assumption) ?_
            rotate_left
            focus (intro wq hSq; go_simp <;> with_reducible rfl)
            simp only [Act.put, List.setIfInBounds_toArray, List.set_cons_zero, List.set_cons_succ]
            refine wpAnyH_ready (rs := [8]) (by kernel_rfl) (by simp) (nextL 8 rfl (fun Kr hKr => ?_) AllReadyH.nil)
            rw [if_pos (by rfl)]
            go_simp
            obtain ⟨W3, hW3⟩ : ∃ W3, (wr.alloc (Obj.cells #[.int .i64 0, .string ⟨#[]⟩, .slice none 0 0] 56)).drew = W3 := ⟨_, rfl⟩
            have X3 : CBox W3 wr.heap.size 56 #[.int .i64 0, .string ⟨#[]⟩, .slice none 0 0] := by rw [← hW3]; show CBox (wr.alloc _) _ _ _; exact CBox.new _ rfl
            have hb3 : Below wr.heap.size wr W3 := by rw [← hW3]; exact Below.drew ((Below.refl _ _).alloc (Nat.le_refl _) _)
            rw [hW3]
            refine hKr.out _ _ trivial (fun hHeld2 => ?_)
            clear hKr hHeld hW3
            refine wpAnyH_ready (rs := [9]) (by kernel_rfl) (by simp) (nextL 9 rfl (fun Kr hKr => ?_) AllReadyH.nil)
            rw [if_pos (by rfl)]
            obtain ⟨x0, f0⟩ := X3.at_ 0 _ rfl
            obtain ⟨x1, f1⟩ := X3.at_ 1 _ rfl
            obtain ⟨x2, f2⟩ := X3.at_ 2 _ rfl
            go_simp
            have X4 := cells3 X3 (.int .i64 K) (.string (bstr G)) (.slice none 0 0)
            have hB4 : Below wr.heap.size wr (((W3.setCell ⟨wr.heap.size, 0, none⟩ (.int .i64 K)).setCell ⟨wr.heap.size, 1, none⟩ (.string (bstr G))).setCell ⟨wr.heap.size, 2, none⟩ (.slice none 0 0)) := below3 hb3 (Nat.le_refl _) _ _ _
            obtain ⟨W4, hW4⟩ : ∃ W4, (((W3.setCell ⟨wr.heap.size, 0, none⟩ (.int .i64 K)).setCell ⟨wr.heap.size, 1, none⟩ (.string (bstr G))).setCell ⟨wr.heap.size, 2, none⟩ (.slice none 0 0)) = W4 := ⟨_, rfl⟩
            rw [hW4] at X4 hB4 ⊢
            refine hKr.out _ _ trivial (fun hHeld3 => ?_)
            clear hKr hHeld2 hHeld3 hW4 X3 x0 x1 x2 f0 f1 f2 hb3 hKe
            refine wpAnyH_done (by kernel_rfl) ?_ _
            have HB4 := Lib.hid hB4
            have HX4 := Lib.hid X4
            obtain ⟨x0, f0⟩ := X4.at_ 0 _ rfl
            obtain ⟨x1, f1⟩ := X4.at_ 1 _ rfl
            obtain ⟨x2, f2⟩ := X4.at_ 2 _ rfl
            clear X4 hB4
            have hRe : recE S size = if 60 < M ∨ grp G size = false then 3 else 0 := by
              unfold recE
              rw [if_neg HNA.out, if_neg (by rw [← HC.out.2.1]; exact HNB.out), ← HC.out.2.2, ← HGK.out.1]
            by_cases hm : 60 < M
            · have dm : decide ((60 : Int) < M) = true := decide_eq_true (Int.ofNat_lt.2 hm)
              have dm' : decide (60 < M) = true := decide_eq_true hm
              have HPE := Lib.hid (show P = (3, []) from by rw [HST.out, show recE S size = 3 from by rw [hRe, if_pos (Or.inl hm)]]; rfl)
              clear hm hRe hK hK64 hwC
              go_wp2_with fail
              go_ret2
              exact ⟨_, by rw [HPE.out]; rfl, by rw [HPE.out]; exact Row.nil _ _, HB.out.trans (HB4.out.mono HB.out.size)⟩
            · have dm : decide ((60 : Int) < M) = false := decide_eq_false (fun h => hm (Int.ofNat_lt.1 h))
              have dm' : decide (60 < M) = false := decide_eq_false hm
              have hGl : G.length ≤ maxLen := by rw [HGK.out.1]; exact Nat.le_trans (by rw [List.length_take]; exact Nat.min_le_left _ _) (Nat.le_trans HS1.out.2 (by decide))
              have HGR := Lib.hid (rgroup_any G size W4 hGl)
              obtain ⟨R, hR⟩ : ∃ R, R = grp G size := ⟨_, rfl⟩
              rw [← hR] at HGR hRe
              have HGL := Lib.hid hGl
              clear hGl hR
              cases R
              · have HPE := Lib.hid (show P = (3, []) from by rw [HST.out, show recE S size = 3 from by rw [hRe, if_pos (Or.inr rfl)]]; rfl)
                clear hm hRe hK hK64 hwC
                go_wp2_with ((with_reducible refine HGR.out.mono ?_); rintro e w5 ⟨rfl, hw5⟩; subst w5)
                go_ret2
                exact ⟨_, by rw [HPE.out]; rfl, by rw [HPE.out]; exact Row.nil _ _, HB.out.trans (HB4.out.mono HB.out.size)⟩
              · have HR0 := Lib.hid (show recE S size = 0 from by rw [hRe, if_neg (by intro h; rcases h with h | h; exact hm h; cases h)])
                have HWK := Lib.hid hK64
                have hwh : C + M * size ≤ S.length := by
                  have h9 := Nat.le_of_not_lt HNB.out
                  rw [HC.out.2.1] at h9
                  unfold whole at h9
                  rw [← HC.out.2.2, ← HC.out.1] at h9
                  exact Nat.le_trans (Nat.le_add_right _ _) h9
                have HAD := Lib.hid (fun W => sources_any S C M size W HSZ.out.1 (Nat.le_trans (Nat.le_add_right _ _) hwh) HSZ.out.2.2 HSZ.out.2.1)
                rw [if_pos hwh, decide_eq_true hwh] at HAD
                have hw4 : wrap64 ((4 : Int) + size) = (C : Int) := by rw [HC.out.1, w64 _ (by omega) (by have := HSZ.out.2.1; omega)]; omega
                have HLS := Lib.hid (show srcs S C M size = srcs S (4 + size) (many S) size from by rw [← HC.out.1, ← HC.out.2.2])
                obtain ⟨L, hL⟩ : ∃ L, L = srcs S C M size := ⟨_, rfl⟩
                rw [← hL] at HAD HLS
                clear hm hRe hK hK64 hwC hwh hL
                go_upto_region 19 with (first | ((with_reducible refine HGR.out.mono ?_); rintro e w5 ⟨rfl, hw5⟩; subst w5) | ((with_reducible refine (HAD.out _).mono ?_); rintro e w6 ⟨v6, rfl, hv6, hl6, hb6⟩; obtain ⟨ao, cc, rfl⟩ := hv6.shape; have HX6 := Lib.hid (HX4.out.below hb6 HX4.out.lt); have HB6 := Lib.hid (HB4.out.trans (hb6.mono (Nat.le_of_lt HX4.out.lt))); clear x0 x1 x2 f0 f1 f2; obtain ⟨x0, f0⟩ := HX6.out.at_ 0 _ rfl; obtain ⟨x1, f1⟩ := HX6.out.at_ 1 _ rfl; obtain ⟨x2, f2⟩ := HX6.out.at_ 2 _ rfl; have HV6 := Lib.hid (And.intro hv6 (And.intro hl6 HX4.out.lt)); clear hv6 hl6 hb6))
                have X7 : CBox (w6.setCell ⟨wr.heap.size, 2, none⟩ (.slice ao L.length cc)) wr.heap.size 56 #[.int .i64 K, .string (bstr G), .slice ao L.length cc] := HX6.out.set 2 _
                have hb7 : Below wr.heap.size wr (w6.setCell ⟨wr.heap.size, 2, none⟩ (.slice ao L.length cc)) := HB6.out.setCell (p := ⟨wr.heap.size, 2, none⟩) (Nat.le_refl _) _
                have hst7 : Strs (w6.setCell ⟨wr.heap.size, 2, none⟩ (.slice ao L.length cc)) (.slice ao L.length cc) L := HV6.out.1.far HV6.out.2.1 (p := ⟨wr.heap.size, 2, none⟩) HV6.out.2.2 _
                obtain ⟨W7, hW7⟩ : ∃ W7, (w6.setCell ⟨wr.heap.size, 2, none⟩ (.slice ao L.length cc)) = W7 := ⟨_, rfl⟩
                rw [hW7] at X7 hb7 hst7 ⊢
                have HROW7 := Lib.hid (HROW.out.below hb7)
                have HB7 := Lib.hid (HB.out.trans (hb7.mono HB.out.size))
                have HST7 := Lib.hid hst7
                have HLI := Lib.hid (show Lies w.heap.size (.slice ao L.length cc) from HV6.out.2.1.mono (Nat.le_trans HB.out.size (Nat.le_of_lt HX4.out.lt)))
                have HNE := Lib.hid (show L ≠ [] → (Value.slice ao L.length cc).ownBlock ≠ (Value.slice lo Q.length lc).ownBlock from fun hne e => by
                  obtain ⟨bb, hbb, _⟩ := HST7.out.block hne
                  have h1 := HV6.out.2.1 bb hbb
                  have h2 := (HROW.out.1.lt bb (e ▸ hbb)).2
                  have h3 := HX4.out.lt
                  omega)
                clear x0 x1 x2 f0 f1 f2
                obtain ⟨x0, f0⟩ := X7.at_ 0 _ rfl
                obtain ⟨x1, f1⟩ := X7.at_ 1 _ rfl
                obtain ⟨x2, f2⟩ := X7.at_ 2 _ rfl
                have HKK := Lib.hid (show knownI K = knownK (S.getD 0 0).toNat from by rw [HGK.out.2, knownI_nat])
                have q4 := HQ4.out
                have hTS : (T : Int) ≤ S.length := Int.ofNat_le.2 (Nat.le_of_not_lt HNB.out)
                have htS : List.take (S.length - T) (S.drop T) = S.drop T := List.take_of_length_le (by rw [List.length_drop]; exact Nat.le_refl _)
                have HNX := Lib.hid (show S.drop T = S.drop (whole S size) from by rw [HC.out.2.1])
                have HRO := Lib.hid (show recOf S size = (((K : Nat) : Int), G, L) from by unfold recOf; rw [HGK.out.2, ← HGK.out.1, HLS.out])
                have hwk : wrap64 ((k : Int) + 1) = (k : Int) + 1 := w64 _ (Int.le_add_one (Int.natCast_nonneg _)) (Int.le_trans (Int.ofNat_le.2 (Nat.succ_le_succ (Nat.le_trans (Nat.le_of_lt hlt) HS.out.2))) (by decide))
                clear hW7 hst7 hb7 X7
                by_cases hkn : 1 ≤ K ∧ K ≤ 6
                · have d1 : decide ((1 : Int) ≤ K) = true := decide_eq_true (by omega)
                  have d1' : decide (1 ≤ K) = true := decide_eq_true hkn.1
                  have d6 : decide ((K : Int) ≤ 6) = true := decide_eq_true (by omega)
                  have d6' : decide (K ≤ 6) = true := decide_eq_true hkn.2
                  have hk1 : knownI K = true := by unfold knownI; rw [d1, d6]; rfl
                  have HST2 := Lib.hid (show P = precA size (n - (k + 1)) (S.drop T) (Q.map qrec ++ [(((K : Nat) : Int), G, L)]) from by
                    rw [HST.out, HR0.out, if_pos rfl, HNX.out, if_pos (by rw [← HKK.out, hk1]), HRO.out])
                  have hc3 : Q.length + 1 ≤ maxLen := Nat.le_trans (Nat.succ_le_succ (Nat.le_trans HIN.out.2.1 (Nat.le_trans (Nat.le_of_lt hlt) HS.out.2))) (by decide)
                  have hc4 : (Q.length + 1) * 48 ≤ 140737488355328 := Nat.le_trans (Nat.mul_le_mul_right 48 (Nat.succ_le_succ (Nat.le_trans HIN.out.2.1 (Nat.le_trans (Nat.le_of_lt hlt) HS.out.2)))) (by decide)
                  have hbs : w.heap.size ≤ (W7.alloc (.cells #[.int .i64 K, .string (bstr G), .slice ao L.length cc] 56)).heap.size := by rw [World.size_alloc]; exact Nat.le_succ_of_le HB7.out.size
                  clear hkn hk1
                  go_wp2_with (first | (at_builtin; refine wpList_append_vals _ rfl _ _ 27 rfl w.heap.size 56 i0 _ 3 48 Try.underlying27 hi hz0 hz1 hz2 rfl (by decide) _ _ _ rfl (HROW7.out.1.alloc _) _ 1 [.int .i64 K, .string (bstr G), .slice ao L.length cc] rfl (qcells_new _ _ _ _ _ _ _) hc3 hc4 hbs ?_; intro v8 w8 ho hgr hv; obtain ⟨vo, vc, rfl⟩ := own_form ho; have HP8 := Lib.hid (HROW7.out.push_new (L := L) HST7.out HLI.out HGL.out HB7.out.size HNE.out ho hgr hv); clear ho hgr hv))
                  refine ⟨⟨k + 1, S.drop T, Q ++ [(((K : Nat) : Int), G, .slice ao L.length cc, L)], hlt, by rw [hwk]; rfl, rfl, HP8.out.1, by rw [List.length_drop]; exact Nat.le_trans (Nat.sub_le _ _) HIN.out.1, by rw [List.length_append]; exact Nat.succ_le_succ HIN.out.2.1, by rw [HST2.out, List.map_append]; rfl, HB7.out.trans HP8.out.2⟩, by rw [hwk]; exact meas_up n k hlt⟩
                · have hk1 : knownI K = false := by unfold knownI; rw [← Bool.decide_and]; exact decide_eq_false (by omega)
                  have HST2 := Lib.hid (show P = precA size (n - (k + 1)) (S.drop T) (Q.map qrec) from by
                    rw [HST.out, HR0.out, if_pos rfl, HNX.out, if_neg (by rw [← HKK.out, hk1]; decide)])
                  by_cases h1 : 1 ≤ K
                  · have d1 : decide ((1 : Int) ≤ K) = true := decide_eq_true (by omega)
                    have d1' : decide (1 ≤ K) = true := decide_eq_true h1
                    have d6 : decide ((K : Int) ≤ 6) = false := decide_eq_false (by omega)
                    have d6' : decide (K ≤ 6) = false := decide_eq_false (by omega)
                    clear hkn hk1 h1
                    go_wp2_with fail
                    refine ⟨⟨k + 1, S.drop T, Q, hlt, by rw [hwk]; rfl, rfl, HROW7.out, by rw [List.length_drop]; exact Nat.le_trans (Nat.sub_le _ _) HIN.out.1, Nat.le_trans HIN.out.2.1 (Nat.le_succ k), HST2.out, HB7.out⟩, by rw [hwk]; exact meas_up n k hlt⟩
                  · have d1 : decide ((1 : Int) ≤ K) = false := decide_eq_false (by omega)
                    have d1' : decide (1 ≤ K) = false := decide_eq_false h1
                    clear hkn hk1 h1
                    go_wp2_with fail
                    refine ⟨⟨k + 1, S.drop T, Q, hlt, by rw [hwk]; rfl, rfl, HROW7.out, by rw [List.length_drop]; exact Nat.le_trans (Nat.sub_le _ _) HIN.out.1, Nat.le_trans HIN.out.2.1 (Nat.le_succ k), HST2.out, HB7.out⟩, by rw [hwk]; exact meas_up n k hlt⟩
      · obtain rfl : n = k := Nat.le_antisymm (Nat.le_of_not_lt hlt) hk
        have HPE := Lib.hid (show P = (0, Q.map qrec) from by rw [HIN.out.2.2, Nat.sub_self]; rfl)
        clear hrow hb hSl hQl hPQ
        go_wp2_with fail
        go_ret2
        exact ⟨_, by rw [HPE.out]; rfl, by rw [HPE.out]; exact ⟨Q, HROW.out, rfl, Nat.le_trans HIN.out.2.1 (Nat.le_trans HS.out.2 (by decide))⟩, HB.out⟩

theorem rrecords_any (s : Str) (n size : Int) (w : World) (hs : s.length ≤ 1000000) :
    Calls Try.prog 24 #[.string (bstr s), .int .i64 n, .int .i64 size] w (RetRecsE w (precs s n size).2 (precs s n size).1) := by
  by_cases h : n < 0 ∨ okSize size = false
  · have hP : precs s n size = (1, []) := if_pos h
    rw [hP]
    by_cases h0 : n < 0
    · have d0 : decide (n < 0) = true := decide_eq_true h0
      clear h hP h0
      go_enter Try.func24, Try.ntmps24
      go_wp2_with fail
      go_ret2
      exact recsNil w _ 1 (Below.refl _ _)
    · have d0 : decide (n < 0) = false := decide_eq_false h0
      have hz := h.resolve_left h0
      have d4 : (size != 4) = true := by unfold okSize at hz; rw [bne_iff_ne]; rintro rfl; simp at hz
      have d16 : (size != 16) = true := by unfold okSize at hz; rw [bne_iff_ne]; rintro rfl; simp at hz
      clear h hP h0 hz
      go_enter Try.func24, Try.ntmps24
      go_wp2_with fail
      go_ret2
      exact recsNil w _ 1 (Below.refl _ _)
  · have h0 : ¬ n < 0 := fun e => h (.inl e)
    have hz : okSize size = true := by
      cases q : okSize size
      · exact absurd (.inr q) h
      · rfl
    obtain ⟨m, rfl⟩ := Int.eq_ofNat_of_zero_le (Int.not_lt.1 h0)
    obtain ⟨z, rfl, hz2⟩ : ∃ z : Nat, size = z ∧ (z = 4 ∨ z = 16) := by
      unfold okSize at hz
      rcases Bool.or_eq_true _ _ ▸ hz with e | e
      · exact ⟨4, of_decide_eq_true e, .inl rfl⟩
      · exact ⟨16, of_decide_eq_true e, .inr rfl⟩
    by_cases h30 : 30 < m
    · have hP : precs s m z = (3, []) := by unfold precs; rw [if_neg h, if_pos (by omega)]
      rw [hP]
      have d30 : decide ((30 : Int) < m) = true := decide_eq_true (by omega)
      have d30' : decide (30 < m) = true := decide_eq_true h30
      clear h hP h0 h30 hz
      rcases hz2 with rfl | rfl
      all_goals
        go_enter Try.func24, Try.ntmps24
        go_wp2_with fail
        go_ret2
        exact recsNil w _ 3 (Below.refl _ _)
    · have hP : precs s m z = precA z m s [] := by unfold precs; rw [if_neg h, if_neg (by omega), Int.toNat_natCast, Int.toNat_natCast]
      rw [hP]
      exact rrecords_nat s m z w hs hz2 (by omega)
end Go.Proofs.Ythkibgdeibolfaa
