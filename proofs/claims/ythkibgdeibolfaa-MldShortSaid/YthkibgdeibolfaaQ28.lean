/- Texts joined into one file: MBytes. -/
import Derived.Test.YthkibgdeibolfaaQ27
import Derived.Test.YthkibgdeibolfaaQ26
import Derived.Test.YthkibgdeibolfaaQ13

/- siphonref09.bytes, Encode. -/
namespace Go.Proofs.Ythkibgdeibolfaa
open Go.RowKit Go.Sort
set_option maxRecDepth 20000
set_option maxRecDepth 20000
attribute [local go_sem] bstr_size bstr_extract bstr_toList bstr_get

theorem rjoined_any (v : Value) (L : List Str) (w : World) (h : Strs w v L) (hl : L.length ≤ 1000000) (hz : ∀ a ∈ L, a.length ≤ 1000000) :
    Calls Try.prog 71 #[v] w fun e w' => e = .returned (.string (bstr L.flatten)) ∧ w = w' := by
  have HJ := Lib.hid (joined_any v L w h hl hz)
  obtain ⟨ao, c, rfl⟩ := h.shape
  obtain ⟨J, hJ⟩ : ∃ J, L.flatten = J := ⟨_, rfl⟩
  rw [hJ] at HJ ⊢
  clear h hl hz hJ
  go_enter Try.func71, Try.ntmps71
  go_wp2_with ((with_reducible refine HJ.out.mono ?_); rintro e w2 ⟨rfl, hw2⟩; subst w2)
  go_ret
  exact ⟨rfl, rfl⟩
theorem of_2i (n : Int) (w : World) (h : 0 ≤ n) (h' : n < 65536) : Calls Try.prog 48 #[.int .i64 n, .int .i64 2] w (RetS w (ofN n.toNat 2)) := by
  obtain ⟨m, rfl⟩ := Int.eq_ofNat_of_zero_le h
  exact of_any m 2 w (by decide) (by decide) (by omega)
theorem exact16_pos {n : Int} (h : exact16 n = true) : 0 ≤ n := by unfold exact16 at h; simp at h; exact h.1
theorem may9_gOr (k v mx r ev : Int) (g : Str) (q : Bool) (L : List Str) (R : List Rec) (h : mayM9 ⟨k, v, g, mx, q, r, ev, L, R⟩ = true) : (gOr16 g).length = 16 := by
  have key : (decide (g = []) || grp g 16) = true := by
    unfold mayM9 at h
    by_cases hk : k = 1
    · rw [if_pos hk] at h; simp only [Bool.and_eq_true] at h; exact h.1.1
    · rw [if_neg hk] at h
      by_cases h2 : k = 2 ∧ v = 2
      · rw [if_pos h2] at h; simp only [Bool.and_eq_true] at h; rw [h.1.1]; rfl
      · rw [if_neg h2] at h; simp only [Bool.and_eq_true] at h; rw [h.1.2, Bool.or_true]
  exact grpB16_len ⟨k, v, g, mx, q, r, ev, L, R⟩ key
set_option maxHeartbeats 4000000 in
theorem rbytes9_any (k v mx r ev : Int) (g : Str) (q : Bool) (so : Option Addr) (L : List Str) (sc : Nat) (ro : Option Addr) (R : List Rec) (rc : Nat) (w : World)
    (hs : Strs w (.slice so L.length sc) L) (hrs : Recs w (.slice ro R.length rc) R) (hm : mayM9 ⟨k, v, g, mx, q, r, ev, L, R⟩ = true) :
    Calls Try.prog 33 #[.agg (msgCells k v g mx q r ev so L.length sc ro R.length rc)] w (RetS w (bytes9 ⟨k, v, g, mx, q, r, ev, L, R⟩)) := by
  have l1 := run_len_any (P := Try.prog) Try.underlying26 so L.length sc
  have l2 := run_len_any (P := Try.prog) Try.underlying27 ro R.length rc
  have b0 : (⟨#[]⟩ : ByteArray) = bstr [] := bstr_nil.symm
  have b4 : (⟨#[0, 0, 0, 0, 0, 0, 0, 0, 0, 0, 0, 0, 0, 0, 0, 0]⟩ : ByteArray) = bstr nobody16 := by rw [bstr_eq]; rfl
  have b2 : (⟨#[0, 0]⟩ : ByteArray) = bstr [0, 0] := by rw [bstr_eq]
  have b17 : (⟨#[130, 0, 0, 0]⟩ : ByteArray) = bstr [130, 0, 0, 0] := by rw [bstr_eq]
  have b23 : (⟨#[132, 0, 0, 0, 0, 0, 0, 0]⟩ : ByteArray) = bstr [132, 0, 0, 0, 0, 0, 0, 0] := by rw [bstr_eq]
  have b18 : (⟨#[131, 0, 0, 0, 0, 0, 0, 0]⟩ : ByteArray) = bstr [131, 0, 0, 0, 0, 0, 0, 0] := by rw [bstr_eq]
  have b34 : (⟨#[143, 0, 0, 0, 0, 0]⟩ : ByteArray) = bstr [143, 0, 0, 0, 0, 0] := by rw [bstr_eq]
  obtain ⟨W1, hW1⟩ : ∃ W1, w.alloc (.cells (msgCells k v g mx q r ev so L.length sc ro R.length rc) 29) = W1 := ⟨_, rfl⟩
  obtain ⟨mb, hmb⟩ : ∃ mb, w.heap.size = mb := ⟨_, rfl⟩
  have hb1 : Below w.heap.size w W1 := by rw [← hW1]; exact (Below.refl _ _).alloc (Nat.le_refl _) _
  have HX1 := Lib.hid (show CBox W1 mb 29 (msgCells k v g mx q r ev so L.length sc ro R.length rc) from by rw [← hW1]; exact CBox.new _ hmb.symm)
  have HS1 := Lib.hid (hs.mono hb1); have HR1 := Lib.hid (hrs.mono hb1)
  have HB1 := Lib.hid (show Below mb w W1 from hmb ▸ hb1)
  have HW1 := Lib.hid hW1; have HMB := Lib.hid hmb; have HM := Lib.hid hm
  obtain ⟨GB, hGB⟩ : ∃ GB, gOr16 g = GB := ⟨_, rfl⟩
  have hgl : GB.length = 16 := by rw [← hGB]; exact may9_gOr k v mx r ev g q L R hm
  have HGB := Lib.hid (And.intro hGB hgl)
  obtain ⟨BB, hBB⟩ : ∃ BB, bytes9 ⟨k, v, g, mx, q, r, ev, L, R⟩ = BB := ⟨_, rfl⟩
  rw [hBB]
  have HBB := Lib.hid hBB
  clear hs hrs hW1 hmb hb1 hm hGB hBB
  by_cases hk1 : k = 1
  · subst hk1
    by_cases hv1 : v = 1
    · subst hv1
      have hmx : okPut mx 2 = true := by
        have h := HM.out
        rw [may9_short] at h
        simp only [Bool.and_eq_true] at h
        exact h.1.2
      have hmx' : 0 ≤ mx ∧ mx < 65536 := by unfold okPut at hmx; simp only [Bool.and_eq_true, decide_eq_true_eq] at hmx; exact ⟨hmx.1, Int.lt_of_lt_of_le hmx.2 (by decide)⟩
      have hbb : BB = [130, 0, 0, 0] ++ ofN mx.toNat 2 ++ [0, 0] ++ GB := by rw [← HBB.out, ← HGB.out.1]; rfl
      have HO := Lib.hid (fun W => of_2i mx W hmx'.1 hmx'.2)
      obtain ⟨A1, hA1⟩ : ∃ A, ofN mx.toNat 2 = A := ⟨_, rfl⟩
      have lA1 : A1.length = 2 := by rw [← hA1, ofN_length]
      rw [hA1] at HO hbb
      obtain ⟨T1, h1⟩ : ∃ T : Str, [130, 0, 0, 0] ++ A1 = T := ⟨_, rfl⟩
      obtain ⟨T2, h2⟩ : ∃ T : Str, T1 ++ [0, 0] = T := ⟨_, rfl⟩
      obtain ⟨T3, h3⟩ : ∃ T : Str, T2 ++ GB = T := ⟨_, rfl⟩
      rw [h1, h2, h3] at hbb
      have e1 : bstr [130, 0, 0, 0] ++ bstr A1 = bstr T1 := by rw [bstr_append, h1]
      have e2 : bstr T1 ++ bstr [0, 0] = bstr T2 := by rw [bstr_append, h2]
      have e3 : bstr T2 ++ bstr GB = bstr T3 := by rw [bstr_append, h3]
      have k1 : T1.length = 6 := by rw [← h1, List.length_append, lA1]; rfl
      have k2 : T2.length = 8 := by rw [← h2, List.length_append, k1]; rfl
      have hBT := hbb
      subst hBT
      unfold RetS at HO
      clear hmx hmx' hA1 h1 h2 h3
      go_enter Try.func33, Try.ntmps33
      go_upto_region 1 with fail
      rw [HMB.out, HW1.out]
      have X1 := HX1.out
      obtain ⟨x0, xf0⟩ := CBox.at_ X1 0 _ rfl
      obtain ⟨x1, xf1⟩ := CBox.at_ X1 1 _ rfl
      obtain ⟨x2, xf2⟩ := CBox.at_ X1 2 _ rfl
      obtain ⟨x3, xf3⟩ := CBox.at_ X1 3 _ rfl
      obtain ⟨x4, xf4⟩ := CBox.at_ X1 4 _ rfl
      obtain ⟨x5, xf5⟩ := CBox.at_ X1 5 _ rfl
      obtain ⟨x6, xf6⟩ := CBox.at_ X1 6 _ rfl
      obtain ⟨x7, xf7⟩ := CBox.at_ X1 7 _ rfl
      obtain ⟨x8, xf8⟩ := CBox.at_ X1 8 _ rfl
      clear X1
      go_upto_if 14 with fail
      rw [b0]
      obtain ⟨te, hte⟩ : ∃ t, List.isEmpty g = t := ⟨_, rfl⟩
      rw [hte]
      go_cut [3] (fun s3 w' => s3 = .string (bstr GB) ∧ W1 = w')
      case first =>
        cases te
        rotate_left
        · have HG1 := Lib.hid (show GB = nobody16 from by rw [← HGB.out.1]; exact if_pos (List.isEmpty_iff.1 hte))
          clear hte
          go_wp2_with fail
          go_meet
          case rel => exact ⟨by first | (rw [HG1.out]; done) | (rw [HG1.out]; rfl) | (rw [HG1.out, ← b4]; done), rfl⟩
        · have HG1 := Lib.hid (show GB = g from by rw [← HGB.out.1]; exact if_neg (fun h => by rw [h] at hte; cases hte))
          clear hte
          go_wp2_with fail
          go_meet
          case rel => exact ⟨by rw [HG1.out], rfl⟩
      case rest =>
        obtain ⟨rfl, hcut⟩ := hcut
        subst hcut
        clear hte
        go_wp2_with ((with_reducible refine (HO.out _).mono ?_); rintro e w2 ⟨rfl, hb2⟩; have HB2 := Lib.hid (HB1.out.trans (hb2.mono (Nat.le_of_lt HX1.out.lt))); clear hb2)
        go_ret
        exact ⟨rfl, HMB.out ▸ HB2.out⟩
    · skip
      have hh := HM.out
      rw [may9_long v g mx q r ev L R hv1] at hh
      simp only [Bool.and_eq_true] at hh
      obtain ⟨⟨⟨⟨_, hsz2⟩, he1⟩, he2⟩, hsz⟩ := hh
      unfold askC2 at hsz2
      simp only [Bool.and_eq_true, decide_eq_true_eq] at hsz2
      obtain ⟨⟨⟨hv2, hr0⟩, hr7⟩, hL60⟩ := hsz2
      have hLa : ∀ a ∈ L, a.length = 16 := by unfold all16 at hsz; simp only [decide_eq_true_eq, List.all_eq_true] at hsz; exact hsz
      have hFl := flat_len L 60 16 hL60 (fun a ha => by rw [hLa a ha]; exact Nat.le_refl _)
      have hbb : BB = [130, 0, 0, 0] ++ ofN (encV_12 mx) 2 ++ [0, 0] ++ GB ++ ofN (r.toNat + if q then 8 else 0) 1 ++ ofN (encV_4 ev) 1 ++ ofN L.length 2 ++ L.flatten := by
        rw [← HBB.out, ← HGB.out.1, exact16_nn mx he1, encV_nat ev (exact8_nn he2)]
        unfold bytes9
        rw [if_pos rfl, if_neg (show ¬ v = 1 from hv1)]
        rfl
      obtain ⟨F, hF⟩ : ∃ F : Nat, (r.toNat + if q then 8 else 0) = F := ⟨_, rfl⟩
      have hF15 : F ≤ 15 := by rw [← hF]; cases q <;> simp <;> omega
      have hFr : (if q then wrap64 (r + 8) else r) = (F : Int) := by
        rw [← hF]
        cases q
        · simp only [Bool.false_eq_true, if_false]; omega
        · simp only [if_true]; rw [w64 _ (by omega) (by omega)]; omega
      have HE1 := Lib.hid (fun W => renc16_any mx W)
      have HE2 := Lib.hid (fun W => renc8_any ev W)
      rw [show encE mx = 0 from if_pos (exact16_pos he1)] at HE1
      rw [show encE ev = 0 from if_pos (exact8_nn he2)] at HE2
      obtain ⟨c1, hc1⟩ : ∃ c, encV_12 mx = c := ⟨_, rfl⟩
      obtain ⟨c2, hc2⟩ : ∃ c, encV_4 ev = c := ⟨_, rfl⟩
      have hc1l : c1 < 65536 := by rw [← hc1]; exact encV12_lt mx
      have hc2l : c2 < 256 := by rw [← hc2]; exact encV4_lt ev
      rw [hc1] at HE1 hbb
      rw [hc2] at HE2 hbb
      rw [hF] at hbb
      have HO1 := Lib.hid (fun W => of_2 c1 W hc1l)
      have HO2 := Lib.hid (fun W => of_1 (F : Int) W (by omega) (by omega))
      have HO3 := Lib.hid (fun W => of_1 (c2 : Int) W (by omega) (by omega))
      have HO4 := Lib.hid (fun W => of_2 L.length W (by omega))
      rw [Int.toNat_natCast] at HO2 HO3
      unfold RetS at HO1 HO2 HO3 HO4
      have HJ := Lib.hid (fun W (h : Strs W (.slice so L.length sc) L) => rjoined_any _ L W h (by omega) (fun a ha => by rw [hLa a ha]; decide))
      obtain ⟨A1, hA1⟩ : ∃ A, ofN c1 2 = A := ⟨_, rfl⟩
      obtain ⟨A2, hA2⟩ : ∃ A, ofN F 1 = A := ⟨_, rfl⟩
      obtain ⟨A3, hA3⟩ : ∃ A, ofN c2 1 = A := ⟨_, rfl⟩
      obtain ⟨A4, hA4⟩ : ∃ A, ofN L.length 2 = A := ⟨_, rfl⟩
      obtain ⟨J, hJ⟩ : ∃ J, L.flatten = J := ⟨_, rfl⟩
      rw [hA1] at HO1 hbb
      rw [hA2] at HO2 hbb
      rw [hA3] at HO3 hbb
      rw [hA4] at HO4 hbb
      rw [hJ] at HJ hbb hFl
      have lA1 : A1.length = 2 := by rw [← hA1, ofN_length]
      have lA2 : A2.length = 1 := by rw [← hA2, ofN_length]
      have lA3 : A3.length = 1 := by rw [← hA3, ofN_length]
      have lA4 : A4.length = 2 := by rw [← hA4, ofN_length]
      obtain ⟨T1, h1⟩ : ∃ T : Str, [130, 0, 0, 0] ++ A1 = T := ⟨_, rfl⟩
      obtain ⟨T2, h2⟩ : ∃ T : Str, T1 ++ [0, 0] = T := ⟨_, rfl⟩
      obtain ⟨T3, h3⟩ : ∃ T : Str, T2 ++ GB = T := ⟨_, rfl⟩
      obtain ⟨T4, h4⟩ : ∃ T : Str, T3 ++ A2 = T := ⟨_, rfl⟩
      obtain ⟨T5, h5⟩ : ∃ T : Str, T4 ++ A3 = T := ⟨_, rfl⟩
      obtain ⟨T6, h6⟩ : ∃ T : Str, T5 ++ A4 = T := ⟨_, rfl⟩
      obtain ⟨T7, h7⟩ : ∃ T : Str, T6 ++ J = T := ⟨_, rfl⟩
      rw [h1, h2, h3, h4, h5, h6, h7] at hbb
      have e1 : bstr [130, 0, 0, 0] ++ bstr A1 = bstr T1 := by rw [bstr_append, h1]
      have e2 : bstr T1 ++ bstr [0, 0] = bstr T2 := by rw [bstr_append, h2]
      have e3 : bstr T2 ++ bstr GB = bstr T3 := by rw [bstr_append, h3]
      have e4 : bstr T3 ++ bstr A2 = bstr T4 := by rw [bstr_append, h4]
      have e5 : bstr T4 ++ bstr A3 = bstr T5 := by rw [bstr_append, h5]
      have e6 : bstr T5 ++ bstr A4 = bstr T6 := by rw [bstr_append, h6]
      have e7 : bstr T6 ++ bstr J = bstr T7 := by rw [bstr_append, h7]
      have k1 : T1.length = 6 := by rw [← h1, List.length_append, lA1]; rfl
      have k2 : T2.length = 8 := by rw [← h2, List.length_append, k1]; rfl
      have k3 : T3.length = 24 := by rw [← h3, List.length_append, k2, hgl]
      have k4 : T4.length = 25 := by rw [← h4, List.length_append, k3, lA2]
      have k5 : T5.length = 26 := by rw [← h5, List.length_append, k4, lA3]
      have k6 : T6.length = 28 := by rw [← h6, List.length_append, k5, lA4]
      have n7 : ¬ 9223372036854775807 < 28 + J.length := by omega
      have hBT := hbb
      subst hBT
      have HF := Lib.hid hFr
      have HS2 := HS1
      have d3 : (v == 1) = false := beq_eq_false_iff_ne.2 hv1
      clear hv2 hv1 he1 he2 hr0 hr7 hsz hL60 hLa hFl hF hF15 hFr hc1 hc2 hc1l hc2l hA1 hA2 hA3 hA4 hJ h1 h2 h3 h4 h5 h6 h7
      go_enter Try.func33, Try.ntmps33
      go_upto_region 1 with fail
      rw [HMB.out, HW1.out]
      have X1 := HX1.out
      obtain ⟨x0, xf0⟩ := CBox.at_ X1 0 _ rfl
      obtain ⟨x1, xf1⟩ := CBox.at_ X1 1 _ rfl
      obtain ⟨x2, xf2⟩ := CBox.at_ X1 2 _ rfl
      obtain ⟨x3, xf3⟩ := CBox.at_ X1 3 _ rfl
      obtain ⟨x4, xf4⟩ := CBox.at_ X1 4 _ rfl
      obtain ⟨x5, xf5⟩ := CBox.at_ X1 5 _ rfl
      obtain ⟨x6, xf6⟩ := CBox.at_ X1 6 _ rfl
      obtain ⟨x7, xf7⟩ := CBox.at_ X1 7 _ rfl
      obtain ⟨x8, xf8⟩ := CBox.at_ X1 8 _ rfl
      clear X1
      go_upto_if 14 with fail
      rw [b0]
      obtain ⟨te, hte⟩ : ∃ t, List.isEmpty g = t := ⟨_, rfl⟩
      rw [hte]
      go_cut [3] (fun s3 w' => s3 = .string (bstr GB) ∧ W1 = w')
      case first =>
        cases te
        rotate_left
        · have HG1 := Lib.hid (show GB = nobody16 from by rw [← HGB.out.1]; exact if_pos (List.isEmpty_iff.1 hte))
          clear hte
          go_wp2_with fail
          go_meet
          case rel => exact ⟨by first | (rw [HG1.out]; done) | (rw [HG1.out]; rfl) | (rw [HG1.out, ← b4]; done), rfl⟩
        · have HG1 := Lib.hid (show GB = g from by rw [← HGB.out.1]; exact if_neg (fun h => by rw [h] at hte; cases hte))
          clear hte
          go_wp2_with fail
          go_meet
          case rel => exact ⟨by rw [HG1.out], rfl⟩
      case rest =>
        obtain ⟨rfl, hcut⟩ := hcut
        subst hcut
        clear hte
        go_upto_if 43 with (first | ((with_reducible refine (HE1.out _).mono ?_); rintro e w2 ⟨rfl, hw2⟩; subst hw2) | ((with_reducible refine (HE2.out _).mono ?_); rintro e w2 ⟨rfl, hw2⟩; subst hw2))
        go_cut [8] (fun s8 w' => s8 = .int .i64 F ∧ W1 = w')
        case first =>
          cases q
          · go_wp2_with fail
            go_meet
            case rel => exact ⟨by rw [← HF.out]; rfl, rfl⟩
          · go_wp2_with fail
            go_meet
            case rel => exact ⟨by rw [← HF.out]; rfl, rfl⟩
        case rest =>
          obtain ⟨rfl, hcut⟩ := hcut
          subst hcut
          go_wp2_with fail
          have HFX := Lib.hid (show ∀ W', Below W1.heap.size W1 W' → W'.cell? ⟨mb, 7, none⟩ = some (.slice so L.length sc) from fun W' hb => ((HX1.out.below hb HX1.out.lt).at_ 7 _ rfl).1)
          clear x0 xf0 x1 xf1 x2 xf2 x3 xf3 x4 xf4 x5 xf5 x6 xf6 x7 xf7 x8 xf8
          refine wp_region_held_drew (S := fun W' => Below W1.heap.size W1 W') (by kernel_rfl) (Below.drew (Below.refl _ _)) (fun hHeld => ?_)
          refine takeL 0 (v := ?_) rfl (by kernel_rfl) (by kernel_rfl) (by kernel_rfl) (fun _ _ _ h => h) (Or.inl ⟨by rfl, ?_⟩) (by assumption) ?_
          rotate_left
          focus (intro wq hSq; have f0 := HFX.out wq hSq; go_simp <;> with_reducible rfl)
          simp only [Act.put, List.setIfInBounds_toArray, List.set_cons_zero, List.set_cons_succ]
          refine takeL 4 (v := ?_) rfl (by kernel_rfl) (by kernel_rfl) (by kernel_rfl) (fun _ _ _ h => h) (Or.inl ⟨by rfl, ?_⟩) (by assumption) ?_
          rotate_left
          focus (intro wq hSq; have f0 := HFX.out wq hSq; go_simp <;> with_reducible rfl)
          simp only [Act.put, List.setIfInBounds_toArray, List.set_cons_zero, List.set_cons_succ]
          refine takeL 6 (v := ?_) rfl (by kernel_rfl) (by kernel_rfl) (by kernel_rfl) (fun _ _ _ h => h) (Or.inl ⟨by rfl, ?_⟩) (by assumption) ?_
          rotate_left
          focus (intro wq hSq; have f0 := HFX.out wq hSq; go_simp <;> with_reducible rfl)
          simp only [Act.put, List.setIfInBounds_toArray, List.set_cons_zero, List.set_cons_succ]
          refine takeL 9 (v := ?_) rfl (by kernel_rfl) (by kernel_rfl) (by kernel_rfl) (fun _ _ _ h => h) (Or.inl ⟨by rfl, ?_⟩) (by assumption) ?_
          rotate_left
          focus (intro wq hSq; have f0 := HFX.out wq hSq; go_simp <;> with_reducible rfl)
          simp only [Act.put, List.setIfInBounds_toArray, List.set_cons_zero, List.set_cons_succ]
          refine takeL 12 (v := ?_) rfl (by kernel_rfl) (by kernel_rfl) (by kernel_rfl) (fun _ _ _ h => h) (Or.inl ⟨by rfl, ?_⟩) (by assumption) ?_
          rotate_left
          focus (intro wq hSq; have f0 := HFX.out wq hSq; go_simp <;> with_reducible rfl)
          simp only [Act.put, List.setIfInBounds_toArray, List.set_cons_zero, List.set_cons_succ]
          refine takeL 13 (v := ?_) rfl (by kernel_rfl) (by kernel_rfl) (by kernel_rfl) (fun _ _ _ h => h) (Or.inl ⟨by rfl, ?_⟩) (by assumption) ?_
          rotate_left
          focus (intro wq hSq; have f0 := HFX.out wq hSq; go_simp <;> with_reducible rfl)
          simp only [Act.put, List.setIfInBounds_toArray, List.set_cons_zero, List.set_cons_succ]
          refine takeL 14 (v := ?_) rfl (by kernel_rfl) (by kernel_rfl) (by kernel_rfl) (fun _ _ _ h => h) (Or.inl ⟨by rfl, ?_⟩) (by assumption) ?_
          rotate_left
          focus (intro wq hSq; have f0 := HFX.out wq hSq; go_simp <;> with_reducible rfl)
          simp only [Act.put, List.setIfInBounds_toArray, List.set_cons_zero, List.set_cons_succ]
          refine takeL 17 (v := ?_) rfl (by kernel_rfl) (by kernel_rfl) (by kernel_rfl) (fun _ _ _ h => h) (Or.inl ⟨by rfl, ?_⟩) (by assumption) ?_
          rotate_left
          focus (intro wq hSq; have f0 := HFX.out wq hSq; go_simp <;> with_reducible rfl)
          simp only [Act.put, List.setIfInBounds_toArray, List.set_cons_zero, List.set_cons_succ]
          refine takeL 18 (v := ?_) rfl (by kernel_rfl) (by kernel_rfl) (by kernel_rfl) (fun _ _ _ h => h) (Or.inl ⟨by rfl, ?_⟩) (by assumption) ?_
          rotate_left
          focus (intro wq hSq; have f0 := HFX.out wq hSq; go_simp <;> with_reducible rfl)
          simp only [Act.put, List.setIfInBounds_toArray, List.set_cons_zero, List.set_cons_succ]
          refine wpAnyH_ready (rs := [1]) (by kernel_rfl) (by simp) (nextL 1 rfl (fun Kr hKr => ?_) AllReadyH.nil)
          rw [if_pos (by rfl)]
          go_simp
          refine (HO1.out _).mono ?_
          rintro e w9 ⟨rfl, hb9⟩
          refine hKr.out _ _ (hHeld.trans (hb9.mono hHeld.size)) (fun hHeld9 => ?_)
          clear hKr
          refine takeL 2 (v := ?_) rfl (by kernel_rfl) (by kernel_rfl) (by kernel_rfl) (fun _ _ _ h => h) (Or.inl ⟨by rfl, ?_⟩) (by assumption) ?_
          rotate_left
          focus (intro wq hSq; have f0 := HFX.out wq hSq; go_simp <;> with_reducible rfl)
          simp only [Act.put, List.setIfInBounds_toArray, List.set_cons_zero, List.set_cons_succ]
          refine takeL 3 (v := ?_) rfl (by kernel_rfl) (by kernel_rfl) (by kernel_rfl) (fun _ _ _ h => h) (Or.inl ⟨by rfl, ?_⟩) (by assumption) ?_
          rotate_left
          focus (intro wq hSq; have f0 := HFX.out wq hSq; go_simp <;> with_reducible rfl)
          simp only [Act.put, List.setIfInBounds_toArray, List.set_cons_zero, List.set_cons_succ]
          refine takeL 5 (v := ?_) rfl (by kernel_rfl) (by kernel_rfl) (by kernel_rfl) (fun _ _ _ h => h) (Or.inl ⟨by rfl, ?_⟩) (by assumption) ?_
          rotate_left
          focus (intro wq hSq; have f0 := HFX.out wq hSq; go_simp <;> with_reducible rfl)
          simp only [Act.put, List.setIfInBounds_toArray, List.set_cons_zero, List.set_cons_succ]
          refine wpAnyH_ready (rs := [7]) (by kernel_rfl) (by simp) (nextL 7 rfl (fun Kr hKr => ?_) AllReadyH.nil)
          rw [if_pos (by rfl)]
          go_simp
          refine (HO2.out _).mono ?_
          rintro e w10 ⟨rfl, hb10⟩
          refine hKr.out _ _ (hHeld9.trans (hb10.mono hHeld9.size)) (fun hHeld10 => ?_)
          clear hKr
          refine takeL 8 (v := ?_) rfl (by kernel_rfl) (by kernel_rfl) (by kernel_rfl) (fun _ _ _ h => h) (Or.inl ⟨by rfl, ?_⟩) (by assumption) ?_
          rotate_left
          focus (intro wq hSq; have f0 := HFX.out wq hSq; go_simp <;> with_reducible rfl)
          simp only [Act.put, List.setIfInBounds_toArray, List.set_cons_zero, List.set_cons_succ]
          refine wpAnyH_ready (rs := [10]) (by kernel_rfl) (by simp) (nextL 10 rfl (fun Kr hKr => ?_) AllReadyH.nil)
          rw [if_pos (by rfl)]
          go_simp
          refine (HO3.out _).mono ?_
          rintro e w11 ⟨rfl, hb11⟩
          refine hKr.out _ _ (hHeld10.trans (hb11.mono hHeld10.size)) (fun hHeld11 => ?_)
          clear hKr
          refine takeL 11 (v := ?_) rfl (by kernel_rfl) (by kernel_rfl) (by kernel_rfl) (fun _ _ _ h => h) (Or.inl ⟨by rfl, ?_⟩) (by assumption) ?_
          rotate_left
          focus (intro wq hSq; have f0 := HFX.out wq hSq; go_simp <;> with_reducible rfl)
          simp only [Act.put, List.setIfInBounds_toArray, List.set_cons_zero, List.set_cons_succ]
          refine wpAnyH_ready (rs := [15]) (by kernel_rfl) (by simp) (nextL 15 rfl (fun Kr hKr => ?_) AllReadyH.nil)
          rw [if_pos (by rfl)]
          go_simp
          refine (HO4.out _).mono ?_
          rintro e w12 ⟨rfl, hb12⟩
          refine hKr.out _ _ (hHeld11.trans (hb12.mono hHeld11.size)) (fun hHeld12 => ?_)
          clear hKr
          refine takeL 16 (v := ?_) rfl (by kernel_rfl) (by kernel_rfl) (by kernel_rfl) (fun _ _ _ h => h) (Or.inl ⟨by rfl, ?_⟩) (by assumption) ?_
          rotate_left
          focus (intro wq hSq; have f0 := HFX.out wq hSq; go_simp <;> with_reducible rfl)
          simp only [Act.put, List.setIfInBounds_toArray, List.set_cons_zero, List.set_cons_succ]
          refine wpAnyH_ready (rs := [19]) (by kernel_rfl) (by simp) (nextL 19 rfl (fun Kr hKr => ?_) AllReadyH.nil)
          rw [if_pos (by rfl)]
          go_simp
          refine (HJ.out _ (HS1.out.mono hHeld12)).mono ?_
          rintro e w13 ⟨rfl, hw13⟩
          subst hw13
          refine hKr.out _ _ hHeld12 (fun hHeld13 => ?_)
          clear hKr
          refine takeL 20 (v := ?_) rfl (by kernel_rfl) (by kernel_rfl) (by kernel_rfl) (fun _ _ _ h => h) (Or.inl ⟨by rfl, ?_⟩) (by assumption) ?_
          rotate_left
          focus (intro wq hSq; have f0 := HFX.out wq hSq; go_simp <;> with_reducible rfl)
          simp only [Act.put, List.setIfInBounds_toArray, List.set_cons_zero, List.set_cons_succ]
          refine takeL 21 (v := ?_) rfl (by kernel_rfl) (by kernel_rfl) (by kernel_rfl) (fun _ _ _ h => h) (Or.inl ⟨by rfl, ?_⟩) (by assumption) ?_
          rotate_left
          focus (intro wq hSq; have f0 := HFX.out wq hSq; go_simp <;> with_reducible rfl)
          simp only [Act.put, List.setIfInBounds_toArray, List.set_cons_zero, List.set_cons_succ]
          refine wpAnyH_done (by kernel_rfl) ?_ _
          have HB13 := Lib.hid (HB1.out.trans (hHeld13.mono (Nat.le_of_lt HX1.out.lt)))
          clear e1 e2 e3 e4 e5 e6 e7 n7 k1 k2 k3 k4 k5 k6 hHeld hHeld9 hHeld10 hHeld11 hHeld12 hHeld13 hb9 hb10 hb11 hb12 HF HFX
          go_wp2_with fail
          go_ret
          exact ⟨rfl, HMB.out ▸ HB13.out⟩
  · by_cases hk2 : k = 2
    · subst hk2
      by_cases hv2 : v = 2
      · subst hv2
        have hh := HM.out
        rw [may9_22] at hh
        simp only [Bool.and_eq_true, decide_eq_true_eq, beq_iff_eq] at hh
        have hok : bodyOk R 16 = true := by
          have := hh.1.1
          unfold pbody at this
          cases hq : bodyOk R 16
          · rw [hq] at this; exact absurd this (show ¬ ((1 : Int) = 0) by decide)
          · rfl
        have hpb : pbody R 16 = (bodyB R, 0) := by unfold pbody; rw [if_pos hok]
        have hR30 : R.length ≤ 30 := by unfold bodyOk at hok; simp only [Bool.and_eq_true, decide_eq_true_eq] at hok; exact hok.1.2
        have hBl : (bodyB R).length ≤ 1000000 := by have := pbody_len R; rw [hpb] at this; exact this
        have HBD := Lib.hid (rbody16 (.slice ro R.length rc) R W1 HR1.out)
        rw [hpb] at HBD
        have HO := Lib.hid (fun W => of_2 R.length W (by omega))
        unfold RetS at HO
        unfold RetBody at HBD
        have hbb : BB = [143, 0, 0, 0, 0, 0] ++ ofN R.length 2 ++ bodyB R := by rw [← HBB.out]; rfl
        obtain ⟨B, hB⟩ : ∃ B, bodyB R = B := ⟨_, rfl⟩
        dsimp only at HBD
        rw [hB] at HBD hbb hBl
        obtain ⟨A1, hA1⟩ : ∃ A, ofN R.length 2 = A := ⟨_, rfl⟩
        have lA1 : A1.length = 2 := by rw [← hA1, ofN_length]
        rw [hA1] at HO hbb
        obtain ⟨T1, h1⟩ : ∃ T : Str, [143, 0, 0, 0, 0, 0] ++ A1 = T := ⟨_, rfl⟩
        obtain ⟨T2, h2⟩ : ∃ T : Str, T1 ++ B = T := ⟨_, rfl⟩
        rw [h1, h2] at hbb
        have e1 : bstr [143, 0, 0, 0, 0, 0] ++ bstr A1 = bstr T1 := by rw [bstr_append, h1]
        have e2 : bstr T1 ++ bstr B = bstr T2 := by rw [bstr_append, h2]
        have k1 : T1.length = 8 := by rw [← h1, List.length_append, lA1]; rfl
        have n2 : ¬ 9223372036854775807 < 8 + B.length := by omega
        have hBT := hbb
        subst hBT
        clear hh hok hpb hR30 hBl hB hA1 h1 h2
        go_enter Try.func33, Try.ntmps33
        go_upto_region 1 with fail
        rw [HMB.out, HW1.out]
        have X1 := HX1.out
        obtain ⟨x0, xf0⟩ := CBox.at_ X1 0 _ rfl
        obtain ⟨x1, xf1⟩ := CBox.at_ X1 1 _ rfl
        obtain ⟨x2, xf2⟩ := CBox.at_ X1 2 _ rfl
        obtain ⟨x3, xf3⟩ := CBox.at_ X1 3 _ rfl
        obtain ⟨x4, xf4⟩ := CBox.at_ X1 4 _ rfl
        obtain ⟨x5, xf5⟩ := CBox.at_ X1 5 _ rfl
        obtain ⟨x6, xf6⟩ := CBox.at_ X1 6 _ rfl
        obtain ⟨x7, xf7⟩ := CBox.at_ X1 7 _ rfl
        obtain ⟨x8, xf8⟩ := CBox.at_ X1 8 _ rfl
        clear X1
        go_upto_if 14 with fail
        rw [b0]
        obtain ⟨te, hte⟩ : ∃ t, List.isEmpty g = t := ⟨_, rfl⟩
        rw [hte]
        go_cut [3] (fun s3 w' => s3 = .string (bstr GB) ∧ W1 = w')
        case first =>
          cases te
          rotate_left
          · have HG1 := Lib.hid (show GB = nobody16 from by rw [← HGB.out.1]; exact if_pos (List.isEmpty_iff.1 hte))
            clear hte
            go_wp2_with fail
            go_meet
            case rel => exact ⟨by first | (rw [HG1.out]; done) | (rw [HG1.out]; rfl) | (rw [HG1.out, ← b4]; done), rfl⟩
          · have HG1 := Lib.hid (show GB = g from by rw [← HGB.out.1]; exact if_neg (fun h => by rw [h] at hte; cases hte))
            clear hte
            go_wp2_with fail
            go_meet
            case rel => exact ⟨by rw [HG1.out], rfl⟩
        case rest =>
          obtain ⟨rfl, hcut⟩ := hcut
          subst hcut
          clear hte
          go_wp2_with (first | ((with_reducible refine HBD.out.mono ?_); rintro e w2 ⟨rfl, hb2⟩; have HX2 := Lib.hid (HX1.out.below hb2 HX1.out.lt); have HB2 := Lib.hid (HB1.out.trans (hb2.mono (Nat.le_of_lt HX1.out.lt))); clear hb2 x0 xf0 x1 xf1 x2 xf2 x3 xf3 x4 xf4 x5 xf5 x6 xf6 x7 xf7 x8 xf8; obtain ⟨x8, xf8⟩ := HX2.out.at_ 8 _ rfl) | ((with_reducible refine (HO.out _).mono ?_); rintro e w3 ⟨rfl, hb3⟩; have HB3 := Lib.hid (HB2.out.trans (hb3.mono (Nat.le_of_lt HX2.out.lt))); clear hb3))
          go_ret
          exact ⟨rfl, HMB.out ▸ HB3.out⟩
      · have hv1 : v = 1 := by
          by_cases h2 : v = 1
          · exact h2
          · have h := HM.out
            rw [may9_no 2 v g mx q r ev L R (by decide) (fun h => hv2 h.2) (fun h => h2 h.2) (fun h => absurd h.1 (by decide))] at h
            cases h
        subst hv1
        clear hv2
        have hgg : grp g 16 = true := by
          have h := HM.out
          rw [may9_one 2 g mx q r ev L R (by decide)] at h
          simp only [Bool.and_eq_true] at h
          exact h.1
        have hgG : GB = g := by rw [← HGB.out.1]; exact if_neg (grp16_ne hgg)
        have hbb : BB = [131, 0, 0, 0, 0, 0, 0, 0] ++ GB := by rw [← HBB.out, ← HGB.out.1]; unfold gOr16; rw [if_neg (grp16_ne hgg)]; exact bytes9_21 g mx q r ev L R hgg
        have e1 : bstr [131, 0, 0, 0, 0, 0, 0, 0] ++ bstr GB = bstr BB := by rw [bstr_append, hbb]
        clear hbb hgg hgG
        go_enter Try.func33, Try.ntmps33
        go_upto_region 1 with fail
        rw [HMB.out, HW1.out]
        have X1 := HX1.out
        obtain ⟨x0, xf0⟩ := CBox.at_ X1 0 _ rfl
        obtain ⟨x1, xf1⟩ := CBox.at_ X1 1 _ rfl
        obtain ⟨x2, xf2⟩ := CBox.at_ X1 2 _ rfl
        obtain ⟨x3, xf3⟩ := CBox.at_ X1 3 _ rfl
        obtain ⟨x4, xf4⟩ := CBox.at_ X1 4 _ rfl
        obtain ⟨x5, xf5⟩ := CBox.at_ X1 5 _ rfl
        obtain ⟨x6, xf6⟩ := CBox.at_ X1 6 _ rfl
        obtain ⟨x7, xf7⟩ := CBox.at_ X1 7 _ rfl
        obtain ⟨x8, xf8⟩ := CBox.at_ X1 8 _ rfl
        clear X1
        go_upto_if 14 with fail
        rw [b0]
        obtain ⟨te, hte⟩ : ∃ t, List.isEmpty g = t := ⟨_, rfl⟩
        rw [hte]
        go_cut [3] (fun s3 w' => s3 = .string (bstr GB) ∧ W1 = w')
        case first =>
          cases te
          rotate_left
          · have HG1 := Lib.hid (show GB = nobody16 from by rw [← HGB.out.1]; exact if_pos (List.isEmpty_iff.1 hte))
            clear hte
            go_wp2_with fail
            go_meet
            case rel => exact ⟨by first | (rw [HG1.out]; done) | (rw [HG1.out]; rfl) | (rw [HG1.out, ← b4]; done), rfl⟩
          · have HG1 := Lib.hid (show GB = g from by rw [← HGB.out.1]; exact if_neg (fun h => by rw [h] at hte; cases hte))
            clear hte
            go_wp2_with fail
            go_meet
            case rel => exact ⟨by rw [HG1.out], rfl⟩
        case rest =>
          obtain ⟨rfl, hcut⟩ := hcut
          subst hcut
          clear hte
          go_wp2_with fail
          go_ret
          exact ⟨rfl, HMB.out ▸ HB1.out⟩
    · have h32 : k = 3 ∧ v = 1 := by
        by_cases h2 : k = 3 ∧ v = 1
        · exact h2
        · have h := HM.out
          rw [may9_no k v g mx q r ev L R hk1 (fun h => hk2 h.1) (fun h => hk2 h.1) h2] at h
          cases h
      obtain ⟨rfl, rfl⟩ := h32
      clear hk1 hk2
      have hgg : grp g 16 = true := by
        have h := HM.out
        rw [may9_one 3 g mx q r ev L R (by decide)] at h
        simp only [Bool.and_eq_true] at h
        exact h.1
      have hgG : GB = g := by rw [← HGB.out.1]; exact if_neg (grp16_ne hgg)
      have hbb : BB = [132, 0, 0, 0, 0, 0, 0, 0] ++ GB := by rw [← HBB.out, ← HGB.out.1]; unfold gOr16; rw [if_neg (grp16_ne hgg)]; exact bytes9_31 g mx q r ev L R hgg
      have e1 : bstr [132, 0, 0, 0, 0, 0, 0, 0] ++ bstr GB = bstr BB := by rw [bstr_append, hbb]
      clear hbb hgg hgG
      go_enter Try.func33, Try.ntmps33
      go_upto_region 1 with fail
      rw [HMB.out, HW1.out]
      have X1 := HX1.out
      obtain ⟨x0, xf0⟩ := CBox.at_ X1 0 _ rfl
      obtain ⟨x1, xf1⟩ := CBox.at_ X1 1 _ rfl
      obtain ⟨x2, xf2⟩ := CBox.at_ X1 2 _ rfl
      obtain ⟨x3, xf3⟩ := CBox.at_ X1 3 _ rfl
      obtain ⟨x4, xf4⟩ := CBox.at_ X1 4 _ rfl
      obtain ⟨x5, xf5⟩ := CBox.at_ X1 5 _ rfl
      obtain ⟨x6, xf6⟩ := CBox.at_ X1 6 _ rfl
      obtain ⟨x7, xf7⟩ := CBox.at_ X1 7 _ rfl
      obtain ⟨x8, xf8⟩ := CBox.at_ X1 8 _ rfl
      clear X1
      go_upto_if 14 with fail
      rw [b0]
      obtain ⟨te, hte⟩ : ∃ t, List.isEmpty g = t := ⟨_, rfl⟩
      rw [hte]
      go_cut [3] (fun s3 w' => s3 = .string (bstr GB) ∧ W1 = w')
      case first =>
        cases te
        rotate_left
        · have HG1 := Lib.hid (show GB = nobody16 from by rw [← HGB.out.1]; exact if_pos (List.isEmpty_iff.1 hte))
          clear hte
          go_wp2_with fail
          go_meet
          case rel => exact ⟨by first | (rw [HG1.out]; done) | (rw [HG1.out]; rfl) | (rw [HG1.out, ← b4]; done), rfl⟩
        · have HG1 := Lib.hid (show GB = g from by rw [← HGB.out.1]; exact if_neg (fun h => by rw [h] at hte; cases hte))
          clear hte
          go_wp2_with fail
          go_meet
          case rel => exact ⟨by rw [HG1.out], rfl⟩
      case rest =>
        obtain ⟨rfl, hcut⟩ := hcut
        subst hcut
        clear hte
        go_wp2_with fail
        go_ret
        exact ⟨rfl, HMB.out ▸ HB1.out⟩

theorem rfill9_any (a s : Str) (w : World) (ha : a.length = 40) (h4 : 4 ≤ s.length) (hs : s.length ≤ 1000000) :
    Calls Try.prog 34 #[.string (bstr a), .string (bstr s), .int .i64 2] w fun e w' => e = .returned (.tuple #[.string (bstr (fillS a s 2)), .int .i64 0]) ∧ Below w.heap.size w w' :=
  rfill_any a s w (by rw [ha]) (by rw [ha]; decide) h4 hs
set_option maxHeartbeats 4000000 in
theorem rencode9_any (src dst : Str) (k v mx r ev : Int) (g : Str) (q : Bool) (so : Option Addr) (L : List Str) (sc : Nat) (ro : Option Addr) (R : List Rec) (rc : Nat) (w : World)
    (hs : Strs w (.slice so L.length sc) L) (hrs : Recs w (.slice ro R.length rc) R) (hg : g.length ≤ maxLen) :
    Calls Try.prog 14 #[.string (bstr src), .string (bstr dst), .agg (msgCells k v g mx q r ev so L.length sc ro R.length rc)] w (RetBody w (penc9 src dst ⟨k, v, g, mx, q, r, ev, L, R⟩).1 (penc9 src dst ⟨k, v, g, mx, q, r, ev, L, R⟩).2) := by
  have b0 : (⟨#[]⟩ : ByteArray) = bstr [] := bstr_nil.symm
  obtain ⟨W1, hW1⟩ : ∃ W1, w.alloc (.cells (msgCells k v g mx q r ev so L.length sc ro R.length rc) 29) = W1 := ⟨_, rfl⟩
  obtain ⟨mb, hmb⟩ : ∃ mb, w.heap.size = mb := ⟨_, rfl⟩
  have hb1 : Below w.heap.size w W1 := by rw [← hW1]; exact (Below.refl _ _).alloc (Nat.le_refl _) _
  have HX1 := Lib.hid (show CBox W1 mb 29 (msgCells k v g mx q r ev so L.length sc ro R.length rc) from by rw [← hW1]; exact CBox.new _ hmb.symm)
  have HB1 := Lib.hid (show Below mb w W1 from hmb ▸ hb1)
  have HMY := Lib.hid (rmay9_any k v mx r ev g q so L sc ro R rc W1 (hs.mono hb1) (hrs.mono hb1) hg)
  have HBY := Lib.hid (fun W (hb : Below W1.heap.size W1 W) (hm : mayM9 ⟨k, v, g, mx, q, r, ev, L, R⟩ = true) => rbytes9_any k v mx r ev g q so L sc ro R rc W ((hs.mono hb1).mono hb) ((hrs.mono hb1).mono hb) hm)
  have HLEN := Lib.hid (bytes9_len ⟨k, v, g, mx, q, r, ev, L, R⟩)
  obtain ⟨P, hP⟩ : ∃ P, penc9 src dst ⟨k, v, g, mx, q, r, ev, L, R⟩ = P := ⟨_, rfl⟩
  obtain ⟨B, hB⟩ : ∃ B, bytes9 ⟨k, v, g, mx, q, r, ev, L, R⟩ = B := ⟨_, rfl⟩
  obtain ⟨y, hy⟩ : ∃ y, mayM9 ⟨k, v, g, mx, q, r, ev, L, R⟩ = y := ⟨_, rfl⟩
  have HPY := Lib.hid (show P = if (ways src dst && y) = true then (fillS (pseS src dst B.length) B 2, 0) else ([], 1) from by rw [← hP, ← hB, ← hy]; rfl)
  rw [hP]
  rw [hB, hy] at HLEN HBY
  rw [hy] at HMY
  unfold RetB at HMY
  unfold RetS at HBY
  have HW1 := Lib.hid hW1; have HMB := Lib.hid hmb
  clear hs hrs hg hW1 hmb hb1 hP hB hy
  have HBD2 := Lib.hid (show ¬ (src.length = 16 ∧ dst.length = 16) → P = ([], 1) from fun h => by
    rw [HPY.out]
    refine if_neg (fun h9 => h ?_)
    unfold ways at h9
    simp only [Bool.and_eq_true, decide_eq_true_eq] at h9
    exact h9.1)
  by_cases h1 : src.length = 16
  rotate_left
  · have HPE := Lib.hid (HBD2.out (fun h => h1 h.1))
    have d1 : ((src.length : Int) != 16) = true := bne_iff_ne.2 (by omega)
    clear h1
    go_enter Try.func14, Try.ntmps14
    go_upto_region 1 with fail
    rw [HMB.out, HW1.out]
    go_wp2_with fail
    go_ret2
    first | exact ⟨by rw [HPE.out]; rfl, HMB.out ▸ HB1.out⟩ | exact body_bad w _ P HPE.out (HMB.out ▸ HB1.out)
  have d1 : ((src.length : Int) != 16) = false := bne_eq_false_iff_eq.2 (by omega)
  by_cases h2 : dst.length = 16
  rotate_left
  · have HPE := Lib.hid (HBD2.out (fun h => h2 h.2))
    have d2 : ((dst.length : Int) != 16) = true := bne_iff_ne.2 (by omega)
    clear h1 h2
    go_enter Try.func14, Try.ntmps14
    go_upto_region 1 with fail
    rw [HMB.out, HW1.out]
    go_wp2_with fail
    go_ret2
    first | exact ⟨by rw [HPE.out]; rfl, HMB.out ▸ HB1.out⟩ | exact body_bad w _ P HPE.out (HMB.out ▸ HB1.out)
  have d2 : ((dst.length : Int) != 16) = false := bne_eq_false_iff_eq.2 (by omega)
  have hwy : ways src dst = true := by unfold ways; rw [decide_eq_true h1, decide_eq_true h2]; rfl
  cases y
  · have HPE := Lib.hid (show P = ([], 1) from by rw [HPY.out, hwy]; rfl)
    clear h1 h2 hwy
    go_enter Try.func14, Try.ntmps14
    go_upto_region 1 with fail
    rw [HMB.out, HW1.out]
    obtain ⟨x0, xf0⟩ := CBox.at_ HX1.out 0 _ rfl
    obtain ⟨x1, xf1⟩ := CBox.at_ HX1.out 1 _ rfl
    obtain ⟨x2, xf2⟩ := CBox.at_ HX1.out 2 _ rfl
    obtain ⟨x3, xf3⟩ := CBox.at_ HX1.out 3 _ rfl
    obtain ⟨x4, xf4⟩ := CBox.at_ HX1.out 4 _ rfl
    obtain ⟨x5, xf5⟩ := CBox.at_ HX1.out 5 _ rfl
    obtain ⟨x6, xf6⟩ := CBox.at_ HX1.out 6 _ rfl
    obtain ⟨x7, xf7⟩ := CBox.at_ HX1.out 7 _ rfl
    obtain ⟨x8, xf8⟩ := CBox.at_ HX1.out 8 _ rfl
    go_wp2_with ((with_reducible refine HMY.out.mono ?_); rintro e w2 ⟨rfl, hb2⟩; have HB2 := Lib.hid (HB1.out.trans (hb2.mono (Nat.le_of_lt HX1.out.lt))); clear hb2)
    go_ret2
    first | exact ⟨by rw [HPE.out]; rfl, HMB.out ▸ HB2.out⟩ | exact body_bad w _ P HPE.out (HMB.out ▸ HB2.out)
  · have hbl := HLEN.out rfl
    have HPS := Lib.hid (fun W => rpse_any src dst B.length W h1 h2 (by omega))
    have hpe : P = (fillS (pseS src dst B.length) B 2, 0) := by rw [HPY.out, hwy]; rfl
    obtain ⟨A, hA⟩ : ∃ A, pseS src dst B.length = A := ⟨_, rfl⟩
    have hAl : A.length = 40 := by rw [← hA]; exact pse_length _ _ _ h1 h2
    rw [hA] at HPS hpe
    have HPE := Lib.hid hpe
    have HF := Lib.hid (fun W => rfill9_any A B W hAl (by omega) (by omega))
    have HBZ := Lib.hid (fun W hb => HBY.out W hb rfl)
    clear HBY HLEN h1 h2 hwy hbl hpe hA hAl
    go_enter Try.func14, Try.ntmps14
    go_upto_region 1 with fail
    rw [HMB.out, HW1.out]
    obtain ⟨x0, xf0⟩ := CBox.at_ HX1.out 0 _ rfl
    obtain ⟨x1, xf1⟩ := CBox.at_ HX1.out 1 _ rfl
    obtain ⟨x2, xf2⟩ := CBox.at_ HX1.out 2 _ rfl
    obtain ⟨x3, xf3⟩ := CBox.at_ HX1.out 3 _ rfl
    obtain ⟨x4, xf4⟩ := CBox.at_ HX1.out 4 _ rfl
    obtain ⟨x5, xf5⟩ := CBox.at_ HX1.out 5 _ rfl
    obtain ⟨x6, xf6⟩ := CBox.at_ HX1.out 6 _ rfl
    obtain ⟨x7, xf7⟩ := CBox.at_ HX1.out 7 _ rfl
    obtain ⟨x8, xf8⟩ := CBox.at_ HX1.out 8 _ rfl
    go_wp2_with (first | ((with_reducible refine HMY.out.mono ?_); rintro e w2 ⟨rfl, hb2⟩; have HB2 := Lib.hid (HB1.out.trans (hb2.mono (Nat.le_of_lt HX1.out.lt))); have HX2 := Lib.hid (HX1.out.below hb2 HX1.out.lt); have HK2 := Lib.hid hb2; clear hb2 x0 xf0 x1 xf1 x2 xf2 x3 xf3 x4 xf4 x5 xf5 x6 xf6 x7 xf7 x8 xf8; obtain ⟨x0, xf0⟩ := CBox.at_ HX2.out 0 _ rfl; obtain ⟨x1, xf1⟩ := CBox.at_ HX2.out 1 _ rfl; obtain ⟨x2, xf2⟩ := CBox.at_ HX2.out 2 _ rfl; obtain ⟨x3, xf3⟩ := CBox.at_ HX2.out 3 _ rfl; obtain ⟨x4, xf4⟩ := CBox.at_ HX2.out 4 _ rfl; obtain ⟨x5, xf5⟩ := CBox.at_ HX2.out 5 _ rfl; obtain ⟨x6, xf6⟩ := CBox.at_ HX2.out 6 _ rfl; obtain ⟨x7, xf7⟩ := CBox.at_ HX2.out 7 _ rfl; obtain ⟨x8, xf8⟩ := CBox.at_ HX2.out 8 _ rfl) | ((with_reducible refine (HBZ.out _ HK2.out).mono ?_); rintro e w3 ⟨rfl, hb3⟩; have HB3 := Lib.hid (HB2.out.trans (hb3.mono (Nat.le_of_lt HX2.out.lt))); have HS3 := Lib.hid (Nat.le_trans (Nat.le_of_lt HX2.out.lt) hb3.size); clear hb3) | ((with_reducible refine (HPS.out w3).mono ?_); rintro e w4 ⟨rfl, hb4⟩; have HB4 := Lib.hid (HB3.out.trans (hb4.mono HS3.out)); have HS4 := Lib.hid (Nat.le_trans HS3.out hb4.size); clear hb4) | ((with_reducible refine (HF.out w4).mono ?_); rintro e w5 ⟨rfl, hb5⟩; have HB5 := Lib.hid (HB4.out.trans (hb5.mono HS4.out)); clear hb5))
    go_ret2
    exact ⟨by rw [HPE.out]; rfl, HMB.out ▸ HB5.out⟩
end Go.Proofs.Ythkibgdeibolfaa
