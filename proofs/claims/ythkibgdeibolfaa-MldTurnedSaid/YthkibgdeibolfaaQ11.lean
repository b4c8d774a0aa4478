/- Texts joined into one file: JBody2. -/
import Derived.Test.YthkibgdeibolfaaQ10
import Derived.Test.YthkibgdeibolfaaQ09

/- siphonref08.Body. -/
namespace Go.Proofs.Ythkibgdeibolfaa
open Go.RowKit Go.Sort
set_option maxRecDepth 20000
set_option maxRecDepth 20000
attribute [local go_sem] bstr_size bstr_extract bstr_toList bstr_get

theorem recB_parts2 {size : Nat} {r : Rec} (_h : recOk size r = true) (m : Nat) (hm : r.1 = m) : recB r = ofN m 1 ++ [0] ++ ofN r.2.2.length 2 ++ r.2.1 ++ r.2.2.flatten := by
  unfold recB
  rw [hm, Int.toNat_natCast]
set_option maxHeartbeats 4000000 in
theorem rbody_nat (v : Value) (R : List Rec) (size : Nat) (w : World) (h : Recs w v R) (hsz : size = 4 ∨ size = 16) (hn : R.length ≤ 30) :
    Calls Try.prog 64 #[v, .int .i64 size] w (RetBody w (pbody R size).1 (pbody R size).2) := by
  have hok : okSize (size : Int) = true := by unfold okSize; rcases hsz with rfl | rfl <;> rfl
  have h16 : size ≤ 16 := by omega
  have HP := Lib.hid (show pbody R size = if R.all (recOk size) then (bodyB R, 0) else ([], 1) from by
    unfold pbody bodyOk
    rw [hok, decide_eq_true hn, Int.toNat_natCast]
    rfl)
  obtain ⟨P, hP⟩ : ∃ P, P = pbody R size := ⟨_, rfl⟩
  rw [← hP] at HP ⊢
  obtain ⟨_, _, src, _, hlen, h9, h8⟩ := h.facts
  clear h9 h8 src
  have d30 : decide ((30 : Int) < R.length) = false := decide_eq_false (by omega)
  have d30' : decide (30 < R.length) = false := decide_eq_false (by omega)
  have ds4 : ((size : Int) != 4) = !(decide (size = 4)) := by rcases hsz with rfl | rfl <;> rfl
  have ds16 : ((size : Int) != 16) = decide (size = 4) := by rcases hsz with rfl | rfl <;> rfl
  have HR := Lib.hid (And.intro h (And.intro hn h16))
  have b0 : (⟨#[]⟩ : ByteArray) = bstr [] := bstr_nil.symm
  have b00 : (⟨#[0]⟩ : ByteArray) = bstr [0] := by rw [bstr_eq]
  obtain ⟨B4, hB4⟩ : ∃ B4, B4 = decide (size = 4) := ⟨_, rfl⟩
  rw [← hB4] at ds4 ds16
  clear h hsz hok h16 hP hn hB4
  cases B4
  all_goals
    go_enter Try.func64, Try.ntmps64
    go_wp2_with fail
    clear d30 d30' ds4 ds16
    go_loopw [6, 7] (fun t i wr => ∃ k : Nat, k ≤ R.length ∧ i = .int .i64 k ∧ t = .string (bstr (bodyB (R.take k))) ∧ okTo size R k ∧ Below w.heap.size w wr) (fun _ i _ => R.length - (RowKit.intOf i).toNat)
    case atStart => exact ⟨0, Nat.zero_le _, rfl, by rw [b0]; rfl, by simp [okTo], Below.refl _ _⟩
    case round =>
      obtain ⟨k, hk, rfl, rfl, hok, hbw⟩ := hrel
      by_cases hlt : k < R.length
      · obtain ⟨bb, off, src, h7, h9, hidx, hc⟩ := (HR.out.1.mono hbw).facts
        clear h7 h9
        obtain ⟨hbb, hc0, hc1, hc2, hst, hgl⟩ := hc k hlt
        have hp := hidx k hlt
        obtain ⟨r, hr⟩ : ∃ r, r = R.getD k default := ⟨_, rfl⟩
        rw [← hr] at hc0 hc1 hst hgl
        obtain ⟨K, hK⟩ : ∃ K, r.1 = K := ⟨_, rfl⟩
        obtain ⟨G, hG⟩ : ∃ G, r.2.1 = G := ⟨_, rfl⟩
        obtain ⟨L, hL⟩ : ∃ L, r.2.2 = L := ⟨_, rfl⟩
        rw [hK] at hc0
        rw [hG] at hc1 hgl
        rw [hL] at hst
        obtain ⟨vs, hvs⟩ : ∃ vs, src k = vs := ⟨_, rfl⟩
        rw [hvs] at hc2 hst
        obtain ⟨ao, cc, rfl⟩ := hst.shape
        have HR0 := Lib.hid (And.intro hr (And.intro hK (And.intro hG hL)))
        have HBW := Lib.hid hbw; have HOK := Lib.hid hok
        have HST := Lib.hid hst; have HGL := Lib.hid hgl
        obtain ⟨S, hS⟩ : ∃ S, bodyB (R.take k) = S := ⟨_, rfl⟩
        rw [hS]
        have HS := Lib.hid hS
        clear hidx hc hr hK hG hL hvs hbw hok hst hgl hk hbb hS
        go_upto_region 8 with fail
        obtain ⟨W6, hW6⟩ : ∃ W6, wr.alloc (.cells #[.int .i64 K, .string (bstr G), .slice ao L.length cc] 56) = W6 := ⟨_, rfl⟩
        obtain ⟨rb, hrb⟩ : ∃ rb, wr.heap.size = rb := ⟨_, rfl⟩
        have X6 : CBox W6 rb 56 #[.int .i64 K, .string (bstr G), .slice ao L.length cc] := by rw [← hW6]; exact CBox.new _ hrb.symm
        have hb6 : Below wr.heap.size wr W6 := by rw [← hW6]; exact (Below.refl _ _).alloc (Nat.le_refl _) _
        have HBW6 := Lib.hid (HBW.out.trans (hb6.mono HBW.out.size))
        have HST6 := Lib.hid (HST.out.mono hb6)
        rw [hW6, hrb]
        have HX6 := Lib.hid X6
        obtain ⟨x0, f0⟩ := X6.at_ 0 _ rfl
        obtain ⟨x1, f1⟩ := X6.at_ 1 _ rfl
        obtain ⟨x2, f2⟩ := X6.at_ 2 _ rfl
        have HOKR := Lib.hid (show recOk size r = (knownI K && grp G size && sized L size) from by
          unfold recOk knownI; rw [HR0.out.2.1, HR0.out.2.2.1, HR0.out.2.2.2])
        have HGR := Lib.hid (rgroup_any G size W6 HGL.out)
        have HFT := Lib.hid (sized_any _ L size W6 HST6.out)
        obtain ⟨q2, hq2⟩ : ∃ q2, q2 = grp G size := ⟨_, rfl⟩
        obtain ⟨q3, hq3⟩ : ∃ q3, q3 = sized L size := ⟨_, rfl⟩
        rw [← hq2, ← hq3] at HOKR
        rw [← hq2] at HGR
        rw [← hq3] at HFT
        clear hq2 hq3 X6 hb6 hW6 hrb hc0 hc1 hc2
        have HBAD := Lib.hid (show (knownI K && q2 && q3) = false → P = ([], 1) from fun hqq => by
          rw [HP.out, if_neg]
          rw [List.all_eq_true]
          intro ha
          have := ha r (by rw [HR0.out.1, List.getD_eq_getElem?_getD, List.getElem?_eq_getElem hlt]; exact List.getElem_mem hlt)
          rw [HOKR.out, hqq] at this
          cases this)
        by_cases h1 : K < 1
        · have d1 : decide (K < 1) = true := decide_eq_true h1
          have HPE := Lib.hid (HBAD.out (by unfold knownI; rw [decide_eq_false (by omega)]; rfl))
          clear h1
          go_wp2_with fail
          go_ret2
          exact body_bad w _ P HPE.out HBW6.out
        · have d1 : decide (K < 1) = false := decide_eq_false h1
          by_cases h6 : 6 < K
          · have d6 : decide (6 < K) = true := decide_eq_true h6
            have HPE := Lib.hid (HBAD.out (by unfold knownI; rw [decide_eq_false (show ¬ K ≤ 6 by omega)]; simp))
            clear h1 h6
            go_wp2_with fail
            go_ret2
            exact body_bad w _ P HPE.out HBW6.out
          · have d6 : decide (6 < K) = false := decide_eq_false h6
            have hkn : knownI K = true := by unfold knownI; rw [decide_eq_true (show 1 ≤ K by omega), decide_eq_true (show K ≤ 6 by omega)]; rfl
            cases q2
            · have HPE := Lib.hid (HBAD.out (by simp))
              clear h1 h6 hkn
              go_wp2_with (first | ((with_reducible refine HGR.out.mono ?_); rintro e w8 ⟨rfl, hw8⟩; subst w8))
              go_ret2
              exact body_bad w _ P HPE.out HBW6.out
            · cases q3
              · have HPE := Lib.hid (HBAD.out (by simp))
                clear h1 h6 hkn
                go_wp2_with (first | ((with_reducible refine HGR.out.mono ?_); rintro e w8 ⟨rfl, hw8⟩; subst w8) | ((with_reducible refine HFT.out.mono ?_); rintro e w8 ⟨rfl, hw8⟩; subst w8))
                go_ret2
                exact body_bad w _ P HPE.out HBW6.out
              · have HRO := Lib.hid (show recOk size r = true from by rw [HOKR.out, hkn]; rfl)
                obtain ⟨m, rfl⟩ := Int.eq_ofNat_of_zero_le (show 0 ≤ K by omega)
                have hm6 : m ≤ 6 := by omega
                have hpl := recOk_parts HRO.out
                have hpt := recB_parts2 HRO.out m HR0.out.2.1
                rw [HR0.out.2.2.1, HR0.out.2.2.2] at hpt hpl
                have hSl : S.length ≤ 30000 := by
                  have h1 := bodyB_len size HR.out.2.2 (R.take k) HOK.out
                  have h2 : (R.take k).length ≤ 30 := Nat.le_trans (List.length_take_le _ _) (Nat.le_trans (Nat.le_of_lt hlt) HR.out.2.1)
                  have h3 : (R.take k).length * 1000 ≤ 30 * 1000 := Nat.mul_le_mul_right _ h2
                  rw [HS.out] at h1
                  omega
                have hFl := flat_len L 60 16 hpl.2.2.2.1 (fun a ha => by rw [hpl.2.2.2.2 a ha]; exact HR.out.2.2)
                have hG16 : G.length ≤ 16 := by rw [hpl.2.1]; exact HR.out.2.2
                have HO1 := Lib.hid (fun W => of_any m 1 W (by decide) (by decide) (by omega))
                have HO2 := Lib.hid (fun W => of_any L.length 2 W (by decide) (by decide) (by have := hpl.2.2.2.1; omega))
                obtain ⟨A1, hA1⟩ : ∃ A1, A1 = ofN m 1 := ⟨_, rfl⟩
                obtain ⟨A2, hA2⟩ : ∃ A2, A2 = ofN L.length 2 := ⟨_, rfl⟩
                have lA1 : A1.length = 1 := by rw [hA1, ofN_length]
                have lA2 : A2.length = 2 := by rw [hA2, ofN_length]
                rw [← hA1] at HO1
                rw [← hA2] at HO2
                rw [← hA1, ← hA2] at hpt
                have HJ := Lib.hid (fun W (h : Strs W (.slice ao L.length cc) L) => joined_any _ L W h (by have := hpl.2.2.2.1; omega) (fun a ha => by rw [hpl.2.2.2.2 a ha]; exact Nat.le_trans HR.out.2.2 (by decide)))
                obtain ⟨J, hJ⟩ : ∃ J, J = L.flatten := ⟨_, rfl⟩
                rw [← hJ] at HJ hpt hFl
                obtain ⟨T1, h1⟩ : ∃ T1, T1 = S ++ A1 := ⟨_, rfl⟩
                obtain ⟨T2, h2⟩ : ∃ T2, T2 = T1 ++ [0] := ⟨_, rfl⟩
                obtain ⟨T3, h3⟩ : ∃ T3, T3 = T2 ++ A2 := ⟨_, rfl⟩
                obtain ⟨T4, h4⟩ : ∃ T4, T4 = T3 ++ G := ⟨_, rfl⟩
                obtain ⟨T5, h5⟩ : ∃ T5, T5 = T4 ++ J := ⟨_, rfl⟩
                have HT5 := Lib.hid (show bodyB (R.take (k + 1)) = T5 from by
                  rw [bodyB_snoc R k hlt r HR0.out.1, hpt, HS.out, h5, h4, h3, h2, h1]; simp only [List.append_assoc])
                have l1 : T1.length ≤ 30001 := by rw [h1, List.length_append]; omega
                have l2 : T2.length ≤ 30002 := by rw [h2, List.length_append]; simp; omega
                have l3 : T3.length ≤ 30004 := by rw [h3, List.length_append]; omega
                have l4 : T4.length ≤ 30020 := by rw [h4, List.length_append]; omega
                have e1 : bstr S ++ bstr A1 = bstr T1 := by rw [bstr_append, h1]
                have e2 : bstr T1 ++ bstr [0] = bstr T2 := by rw [bstr_append, h2]
                have e3 : bstr T2 ++ bstr A2 = bstr T3 := by rw [bstr_append, h3]
                have e4 : bstr T3 ++ bstr G = bstr T4 := by rw [bstr_append, h4]
                have e5 : bstr T4 ++ bstr J = bstr T5 := by rw [bstr_append, h5]
                have n1 : ¬ 9223372036854775807 < S.length + 1 := by omega
                have n2 : ¬ 9223372036854775807 < T1.length + 1 := by omega
                have n3 : ¬ 9223372036854775807 < T2.length + 2 := by omega
                have n4 : ¬ 9223372036854775807 < T3.length + G.length := by omega
                have n5 : ¬ 9223372036854775807 < T4.length + J.length := by omega
                have HOK2 := Lib.hid (show okTo size R (k + 1) from by
                  intro x hx
                  rw [take_snoc R k hlt] at hx
                  rcases List.mem_append.1 hx with hx | hx
                  · exact HOK.out x hx
                  · rw [List.mem_singleton] at hx; subst hx
                    have e : R[k] = r := by rw [HR0.out.1, List.getD_eq_getElem?_getD, List.getElem?_eq_getElem hlt]; rfl
                    rw [e]; exact HRO.out)
                have hlenL := run_len_any (P := Try.prog) Try.underlying26 ao L.length cc
                have hwk : wrap64 ((k : Int) + 1) = (k : Int) + 1 := w64 _ (Int.le_add_one (Int.natCast_nonneg _)) (Int.le_trans (Int.ofNat_le.2 (Nat.succ_le_succ (Nat.le_trans (Nat.le_of_lt hlt) HR.out.2.1))) (by decide))
                clear hkn hpl hpt hSl hFl hG16 hA1 hA2 hJ h1 h2 h3 h4 h5 l1 l2 l3 l4 hm6
                rename_i h1x h6x
                go_upto_region 10 with (first | ((with_reducible refine HGR.out.mono ?_); rintro e w8 ⟨rfl, hw8⟩; subst w8) | ((with_reducible refine HFT.out.mono ?_); rintro e w8 ⟨rfl, hw8⟩; subst w8))
                have HF := Lib.hid (show ∀ W', Below W6.heap.size W6 W' → W'.cell? ⟨rb, 0, none⟩ = some (.int .i64 m) ∧ W'.cell? ⟨rb, 1, none⟩ = some (.string (bstr G)) ∧ W'.cell? ⟨rb, 2, none⟩ = some (.slice ao L.length cc) from fun W' hb => by
                  have hx := HX6.out.below hb HX6.out.lt
                  exact ⟨(hx.at_ 0 _ rfl).1, (hx.at_ 1 _ rfl).1, (hx.at_ 2 _ rfl).1⟩)
                clear x0 x1 x2 f0 f1 f2
                refine wp_region_held_drew (S := fun W' => Below W6.heap.size W6 W') (by kernel_rfl) (Below.drew (Below.refl _ _)) (fun hHeld => ?_)
                refine takeL 0 (v := ?_) rfl (by kernel_rfl) (by kernel_rfl) (by kernel_rfl) (fun _ _ _ h => h) (Or.inl ⟨by rfl, ?_⟩) (by assumption) ?_
                rotate_left
                focus (intro wq hSq; obtain ⟨f0, f1, f2⟩ := HF.out wq hSq; go_simp <;> with_reducible rfl)
                simp only [Act.put, List.setIfInBounds_toArray, List.set_cons_zero, List.set_cons_succ]
                refine takeL 1 (v := ?_) rfl (by kernel_rfl) (by kernel_rfl) (by kernel_rfl) (fun _ _ _ h => h) (Or.inl ⟨by rfl, ?_⟩) (by assumption) ?_
                rotate_left
                focus (intro wq hSq; obtain ⟨f0, f1, f2⟩ := HF.out wq hSq; go_simp <;> with_reducible rfl)
                simp only [Act.put, List.setIfInBounds_toArray, List.set_cons_zero, List.set_cons_succ]
                refine takeL 2 (v := ?_) rfl (by kernel_rfl) (by kernel_rfl) (by kernel_rfl) (fun _ _ _ h => h) (Or.inl ⟨by rfl, ?_⟩) (by assumption) ?_
                rotate_left
                focus (intro wq hSq; obtain ⟨f0, f1, f2⟩ := HF.out wq hSq; go_simp <;> with_reducible rfl)
                simp only [Act.put, List.setIfInBounds_toArray, List.set_cons_zero, List.set_cons_succ]
                refine takeL 6 (v := ?_) rfl (by kernel_rfl) (by kernel_rfl) (by kernel_rfl) (fun _ _ _ h => h) (Or.inl ⟨by rfl, ?_⟩) (by assumption) ?_
                rotate_left
                focus (intro wq hSq; obtain ⟨f0, f1, f2⟩ := HF.out wq hSq; go_simp <;> with_reducible rfl)
                simp only [Act.put, List.setIfInBounds_toArray, List.set_cons_zero, List.set_cons_succ]
                refine takeL 7 (v := ?_) rfl (by kernel_rfl) (by kernel_rfl) (by kernel_rfl) (fun _ _ _ h => h) (Or.inl ⟨by rfl, ?_⟩) (by assumption) ?_
                rotate_left
                focus (intro wq hSq; obtain ⟨f0, f1, f2⟩ := HF.out wq hSq; go_simp <;> with_reducible rfl)
                simp only [Act.put, List.setIfInBounds_toArray, List.set_cons_zero, List.set_cons_succ]
                refine takeL 8 (v := ?_) rfl (by kernel_rfl) (by kernel_rfl) (by kernel_rfl) (fun _ _ _ h => h) (Or.inl ⟨by rfl, ?_⟩) (by assumption) ?_
                rotate_left
                focus (intro wq hSq; obtain ⟨f0, f1, f2⟩ := HF.out wq hSq; go_simp <;> with_reducible rfl)
                simp only [Act.put, List.setIfInBounds_toArray, List.set_cons_zero, List.set_cons_succ]
                refine takeL 11 (v := ?_) rfl (by kernel_rfl) (by kernel_rfl) (by kernel_rfl) (fun _ _ _ h => h) (Or.inl ⟨by rfl, ?_⟩) (by assumption) ?_
                rotate_left
                focus (intro wq hSq; obtain ⟨f0, f1, f2⟩ := HF.out wq hSq; go_simp <;> with_reducible rfl)
                simp only [Act.put, List.setIfInBounds_toArray, List.set_cons_zero, List.set_cons_succ]
                refine takeL 12 (v := ?_) rfl (by kernel_rfl) (by kernel_rfl) (by kernel_rfl) (fun _ _ _ h => h) (Or.inl ⟨by rfl, ?_⟩) (by assumption) ?_
                rotate_left
                focus (intro wq hSq; obtain ⟨f0, f1, f2⟩ := HF.out wq hSq; go_simp <;> with_reducible rfl)
                simp only [Act.put, List.setIfInBounds_toArray, List.set_cons_zero, List.set_cons_succ]
                refine takeL 14 (v := ?_) rfl (by kernel_rfl) (by kernel_rfl) (by kernel_rfl) (fun _ _ _ h => h) (Or.inl ⟨by rfl, ?_⟩) (by assumption) ?_
                rotate_left
                focus (intro wq hSq; obtain ⟨f0, f1, f2⟩ := HF.out wq hSq; go_simp <;> with_reducible rfl)
                simp only [Act.put, List.setIfInBounds_toArray, List.set_cons_zero, List.set_cons_succ]
                refine takeL 15 (v := ?_) rfl (by kernel_rfl) (by kernel_rfl) (by kernel_rfl) (fun _ _ _ h => h) (Or.inl ⟨by rfl, ?_⟩) (by assumption) ?_
                rotate_left
                focus (intro wq hSq; obtain ⟨f0, f1, f2⟩ := HF.out wq hSq; go_simp <;> with_reducible rfl)
                simp only [Act.put, List.setIfInBounds_toArray, List.set_cons_zero, List.set_cons_succ]
                refine wpAnyH_ready (rs := [3]) (by kernel_rfl) (by simp) (nextL 3 rfl (fun Kr hKr => ?_) AllReadyH.nil)
                rw [if_pos (by rfl)]
                go_simp
                refine (HO1.out _).mono ?_
                rintro e w9 ⟨rfl, hb9⟩
                refine hKr.out _ _ (hHeld.trans (hb9.mono hHeld.size)) (fun hHeld9 => ?_)
                clear hKr
                refine takeL 4 (v := ?_) rfl (by kernel_rfl) (by kernel_rfl) (by kernel_rfl) (fun _ _ _ h => h) (Or.inl ⟨by rfl, ?_⟩) (by assumption) ?_
                rotate_left
                focus (intro wq hSq; obtain ⟨f0, f1, f2⟩ := HF.out wq hSq; go_simp <;> with_reducible rfl)
                simp only [Act.put, List.setIfInBounds_toArray, List.set_cons_zero, List.set_cons_succ]
                refine takeL 5 (v := ?_) rfl (by kernel_rfl) (by kernel_rfl) (by kernel_rfl) (fun _ _ _ h => h) (Or.inl ⟨by rfl, ?_⟩) (by assumption) ?_
                rotate_left
                focus (intro wq hSq; obtain ⟨f0, f1, f2⟩ := HF.out wq hSq; go_simp <;> with_reducible rfl)
                simp only [Act.put, List.setIfInBounds_toArray, List.set_cons_zero, List.set_cons_succ]
                refine wpAnyH_ready (rs := [9]) (by kernel_rfl) (by simp) (nextL 9 rfl (fun Kr hKr => ?_) AllReadyH.nil)
                rw [if_pos (by rfl)]
                go_simp
                refine (HO2.out _).mono ?_
                rintro e w10 ⟨rfl, hb10⟩
                refine hKr.out _ _ (hHeld9.trans (hb10.mono hHeld9.size)) (fun hHeld10 => ?_)
                clear hKr
                refine takeL 10 (v := ?_) rfl (by kernel_rfl) (by kernel_rfl) (by kernel_rfl) (fun _ _ _ h => h) (Or.inl ⟨by rfl, ?_⟩) (by assumption) ?_
                rotate_left
                focus (intro wq hSq; obtain ⟨f0, f1, f2⟩ := HF.out wq hSq; go_simp <;> with_reducible rfl)
                simp only [Act.put, List.setIfInBounds_toArray, List.set_cons_zero, List.set_cons_succ]
                refine takeL 13 (v := ?_) rfl (by kernel_rfl) (by kernel_rfl) (by kernel_rfl) (fun _ _ _ h => h) (Or.inl ⟨by rfl, ?_⟩) (by assumption) ?_
                rotate_left
                focus (intro wq hSq; obtain ⟨f0, f1, f2⟩ := HF.out wq hSq; go_simp <;> with_reducible rfl)
                simp only [Act.put, List.setIfInBounds_toArray, List.set_cons_zero, List.set_cons_succ]
                refine wpAnyH_ready (rs := [16]) (by kernel_rfl) (by simp) (nextL 16 rfl (fun Kr hKr => ?_) AllReadyH.nil)
                rw [if_pos (by rfl)]
                go_simp
                refine (HJ.out _ (HST6.out.mono hHeld10)).mono ?_
                rintro e w11 ⟨rfl, hw11⟩
                subst hw11
                refine hKr.out _ _ hHeld10 (fun hHeld11 => ?_)
                clear hKr
                refine takeL 17 (v := ?_) rfl (by kernel_rfl) (by kernel_rfl) (by kernel_rfl) (fun _ _ _ h => h) (Or.inl ⟨by rfl, ?_⟩) (by assumption) ?_
                rotate_left
                focus (intro wq hSq; obtain ⟨f0, f1, f2⟩ := HF.out wq hSq; go_simp <;> with_reducible rfl)
                simp only [Act.put, List.setIfInBounds_toArray, List.set_cons_zero, List.set_cons_succ]
                refine takeL 18 (v := ?_) rfl (by kernel_rfl) (by kernel_rfl) (by kernel_rfl) (fun _ _ _ h => h) (Or.inl ⟨by rfl, ?_⟩) (by assumption) ?_
                rotate_left
                focus (intro wq hSq; obtain ⟨f0, f1, f2⟩ := HF.out wq hSq; go_simp <;> with_reducible rfl)
                simp only [Act.put, List.setIfInBounds_toArray, List.set_cons_zero, List.set_cons_succ]
                refine wpAnyH_done (by kernel_rfl) ?_ _
                have HB11 := Lib.hid (HBW6.out.trans (hHeld11.mono HBW6.out.size))
                clear hb9 hb10 hHeld hHeld9 hHeld10 hHeld11 e1 e2 e3 e4 e5 n1 n2 n3 n4 n5 hlenL HF HO1 HO2 HJ
                go_wp2_with fail
                refine ⟨⟨k + 1, hlt, rfl, by rw [HT5.out], HOK2.out, HB11.out⟩, meas_up R.length k hlt⟩
      · obtain rfl : R.length = k := Nat.le_antisymm (Nat.le_of_not_lt hlt) hk
        rw [List.take_length]
        have hok' : ∀ r ∈ R, recOk size r = true := by have := hok; unfold okTo at this; rwa [List.take_length] at this
        have HPE := Lib.hid (show P = (bodyB R, 0) from by rw [HP.out, if_pos (List.all_eq_true.2 hok')])
        have HBW := Lib.hid hbw
        clear hok hok' hbw hlt hk
        go_wp2_with fail
        go_ret2
        exact ⟨by rw [HPE.out]; rfl, HBW.out⟩

theorem rbody_any (v : Value) (R : List Rec) (size : Int) (w : World) (h : Recs w v R) :
    Calls Try.prog 64 #[v, .int .i64 size] w (RetBody w (pbody R size).1 (pbody R size).2) := by
  obtain ⟨_, _, src, _, hlen, h9, h8⟩ := h.facts
  clear h9 h8 src
  by_cases hz : okSize size = true
  · obtain ⟨z, rfl, hz2⟩ : ∃ z : Nat, size = z ∧ (z = 4 ∨ z = 16) := by
      unfold okSize at hz
      rcases Bool.or_eq_true _ _ ▸ hz with e | e
      · exact ⟨4, of_decide_eq_true e, .inl rfl⟩
      · exact ⟨16, of_decide_eq_true e, .inr rfl⟩
    by_cases hn : R.length ≤ 30
    · exact rbody_nat v R z w h hz2 hn
    · have HP := Lib.hid (show pbody R (z : Int) = ([], 1) from by unfold pbody bodyOk; rw [decide_eq_false hn]; simp)
      have d30 : decide ((30 : Int) < R.length) = true := decide_eq_true (by omega)
      have d30' : decide (30 < R.length) = true := decide_eq_true (by omega)
      clear h hz hn
      rcases hz2 with rfl | rfl
      all_goals
        go_enter Try.func64, Try.ntmps64
        go_wp2_with fail
        go_ret2
        exact body_bad w _ _ HP.out (Below.refl _ _)
  · rw [Bool.not_eq_true] at hz
    have HP := Lib.hid (show pbody R size = ([], 1) from by unfold pbody bodyOk; rw [hz]; simp)
    have d4 : (size != 4) = true := by unfold okSize at hz; rw [bne_iff_ne]; rintro rfl; simp at hz
    have d16 : (size != 16) = true := by unfold okSize at hz; rw [bne_iff_ne]; rintro rfl; simp at hz
    clear h hz
    go_enter Try.func64, Try.ntmps64
    go_wp2_with fail
    go_ret2
    exact body_bad w _ _ HP.out (Below.refl _ _)
end Go.Proofs.Ythkibgdeibolfaa
