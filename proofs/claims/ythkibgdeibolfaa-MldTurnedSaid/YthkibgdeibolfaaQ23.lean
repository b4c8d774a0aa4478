/- Texts joined into one file: MAsk3. -/
import Derived.Test.YthkibgdeibolfaaQ22

/- (*mld.writer).ask. -/
namespace Go.Proofs.Ythkibgdeibolfaa
open Go.RowKit Go.Sort
set_option maxRecDepth 20000
set_option maxRecDepth 20000
attribute [local go_sem] bstr_size bstr_extract bstr_toList bstr_get


set_option maxHeartbeats 4000000 in
theorem mask_b1 (v mx r ev : Int) (g : Str) (q : Bool) (so : Option Addr) (L : List Str) (sc : Nat) (ro : Option Addr) (R : List Rec) (rc : Nat) (b : Nat) (w : World) (hw : MW w b [] false)
    (hs : Strs w (.slice so L.length sc) L) (hne : L ≠ [] → (Value.slice so L.length sc).ownBlock ≠ some b) (hg : g.length ≤ 140737488351232) (hL : L.length ≤ 100) (hLx : ∀ x ∈ L, x.length ≤ 140737488351232) (hv : ¬ v = 1) (hcc2 : ¬ v = 2 ∧ True ∧ True ∧ True) (hmx : mx < 2 ^ 63) (hev : ev < 2 ^ 63) :
    Calls Try.prog 29 #[.pointer (some ⟨b, 0, none⟩), .agg (msgCells 1 v g mx q r ev so L.length sc ro R.length rc)] w (RetAsk9 w b ⟨1, v, g, mx, q, r, ev, L, R⟩) := by
  have l1 := run_len_any (P := Try.prog) Try.underlying26 so L.length sc
  have l2 := run_len_any (P := Try.prog) Try.underlying27 ro R.length rc
  have b0 : (⟨#[]⟩ : ByteArray) = bstr [] := bstr_nil.symm
  have b16 : (⟨#[0, 0, 0, 0, 0, 0, 0, 0, 0, 0, 0, 0, 0, 0, 0, 0]⟩ : ByteArray) = bstr nobody16 := by rw [bstr_eq]; rfl
  obtain ⟨ns, hns⟩ : ∃ ns, L.length = ns := ⟨_, rfl⟩
  obtain ⟨nr, hnr⟩ : ∃ nr, R.length = nr := ⟨_, rfl⟩
  rw [hns] at l1 hs hne ⊢
  rw [hnr] at l2 ⊢
  obtain ⟨mb, hmb⟩ : ∃ mb, w.heap.size = mb := ⟨_, rfl⟩
  obtain ⟨W1, hW1⟩ : ∃ W1, w.alloc (.cells (msgCells 1 v g mx q r ev so ns sc ro nr rc) 29) = W1 := ⟨_, rfl⟩
  have HA1 := Lib.hid (show MS w W1 b mb [] false #[.int .i64 1, .int .i64 v, .string (bstr g), .int .i64 mx, .bool q, .int .i64 r, .int .i64 ev, .slice so ns sc, .slice ro nr rc] from by
    have k1 : Below w.heap.size w W1 := by rw [← hW1]; exact (Below.refl _ _).alloc (Nat.le_refl _) _
    exact ⟨hw.to k1, by rw [← hW1]; exact CBox.new _ hmb.symm, gb_below k1 _, CBox.lt hw, Nat.le_of_eq hmb⟩)
  have HW1 := Lib.hid hW1; have HMB := Lib.hid hmb
  have HSL := Lib.hid (And.intro hs hne)
  have HNN := Lib.hid (And.intro hns hnr)
  have HGL := Lib.hid hg
  have HLX := Lib.hid (And.intro (hns ▸ hL) hLx)
  have HGM := Lib.hid (show g.length ≤ maxLen from Nat.le_trans hg (by decide))
  have HGR := Lib.hid (fun W => mgroup_any g W HGM.out)
  obtain ⟨c1, hc1⟩ : ∃ c, askC1 g ns nr = c := ⟨_, rfl⟩
  have HC1 := Lib.hid hc1
  have HE := Lib.hid (And.intro hmx hev)
  have HVV := Lib.hid (And.intro hv hcc2)
  clear hv hcc2 hw hs hne hg hL hLx hmx hev hns hnr hmb hW1 hc1
  go_enter Try.func29, Try.ntmps29
  go_upto_region 1 with fail
  rw [HMB.out, HW1.out]
  go_cut [] (fun w' => MS w w' b mb [] (!c1) #[.int .i64 1, .int .i64 v, .string (bstr g), .int .i64 mx, .bool q, .int .i64 r, .int .i64 ev, .slice so ns sc, .slice ro nr rc])
  case first =>
    have x8 := (HA1.out.2.1.at_ 8 _ rfl).1
    have x2 := (HA1.out.2.1.at_ 2 _ rfl).1
    have x7 := (HA1.out.2.1.at_ 7 _ rfl).1
    have HWT := Lib.hid (fun W c (h : MS w W b mb [] false #[.int .i64 1, .int .i64 v, .string (bstr g), .int .i64 mx, .bool q, .int .i64 r, .int .i64 ev, .slice so ns sc, .slice ro nr rc]) => mwant_any b [] false c W h.1)
    unfold RetMW at HWT
    by_cases h1 : nr = 0
    · have q1 : ((nr : Int) == 0) = true := beq_iff_eq.2 (by omega)
      have q1' : (nr == 0) = true := beq_iff_eq.2 h1
      by_cases h2 : g = []
      · by_cases h3 : ns = 0
        · have q3 : ((ns : Int) == 0) = true := beq_iff_eq.2 (by omega)
          have q3' : (ns == 0) = true := beq_iff_eq.2 h3
          have hc : c1 = true := by rw [← HC1.out]; unfold askC1; rw [decide_eq_true h1, decide_eq_true h2, decide_eq_true h3]; rfl
          subst hc h2
          clear h1 h3
          go_wp2_with ((with_reducible refine (HWT.out _ _ HA1.out).mono ?_); rintro e w3 ⟨rfl, hm, hg⟩; have HA3 := Lib.hid (HA1.out.wr hm hg); clear hm hg)
          go_meet
          case rel => exact HA3.out
        · have q3 : ((ns : Int) == 0) = false := beq_eq_false_iff_ne.2 (by omega)
          have q3' : (ns == 0) = false := beq_eq_false_iff_ne.2 h3
          have hc : c1 = false := by rw [← HC1.out]; unfold askC1; rw [decide_eq_true h1, decide_eq_true h2, decide_eq_false h3, h2, grp_nil16]; rfl
          subst hc h2
          rw [grp_nil16] at HGR
          clear h1 h3
          go_wp2_with (first | ((with_reducible refine (HGR.out _).mono ?_); rintro e w2 ⟨rfl, hb2⟩; have HA2 := Lib.hid (HA1.out.to hb2); clear hb2) | ((with_reducible refine (HWT.out _ _ HA2.out).mono ?_); rintro e w3 ⟨rfl, hm, hg⟩; have HA3 := Lib.hid (HA2.out.wr hm hg); clear hm hg))
          go_meet
          case rel => exact HA3.out
      · have q2 : (g == []) = false := beq_eq_false_iff_ne.2 h2
        have q2' : g.isEmpty = false := isEmpty_ne h2
        have hc : c1 = grp g 16 := by rw [← HC1.out]; unfold askC1; rw [decide_eq_true h1, decide_eq_false h2]; rfl
        rw [← hc] at HGR
        clear h1 h2 hc
        go_wp2_with (first | ((with_reducible refine (HGR.out _).mono ?_); rintro e w2 ⟨rfl, hb2⟩; have HA2 := Lib.hid (HA1.out.to hb2); clear hb2) | ((with_reducible refine (HWT.out _ _ HA2.out).mono ?_); rintro e w3 ⟨rfl, hm, hg⟩; have HA3 := Lib.hid (HA2.out.wr hm hg); clear hm hg))
        go_meet
        case rel => exact HA3.out
    · have q1 : ((nr : Int) == 0) = false := beq_eq_false_iff_ne.2 (by omega)
      have q1' : (nr == 0) = false := beq_eq_false_iff_ne.2 h1
      have hc : c1 = false := by rw [← HC1.out]; unfold askC1; rw [decide_eq_false h1]; rfl
      subst hc
      clear h1
      go_wp2_with ((with_reducible refine (HWT.out _ _ HA1.out).mono ?_); rintro e w3 ⟨rfl, hm, hg⟩; have HA3 := Lib.hid (HA1.out.wr hm hg); clear hm hg)
      go_meet
      case rel => exact HA3.out
  case rest =>
    have HA2 := Lib.hid hcut
    clear hcut HA1
    obtain ⟨z0, hz0⟩ : ∃ z, (!c1) = z := ⟨_, rfl⟩
    rw [hz0] at HA2
    have HZ0 := Lib.hid hz0
    clear hz0
    obtain ⟨G, hG⟩ : ∃ G, gOr16 g = G := ⟨_, rfl⟩
    have HG := Lib.hid hG
    have x2 := (HA2.out.2.1.at_ 2 _ rfl).1
    go_upto_if 38 with fail
    obtain ⟨t, ht⟩ : ∃ t, List.isEmpty g = t := ⟨_, rfl⟩
    rw [ht]
    go_cut [4] (fun s4 w' => s4 = .string (bstr G) ∧ MS w w' b mb [] z0 #[.int .i64 1, .int .i64 v, .string (bstr g), .int .i64 mx, .bool q, .int .i64 r, .int .i64 ev, .slice so ns sc, .slice ro nr rc])
    case first =>
      cases t
      rotate_left
      · have hG1 : G = nobody16 := by rw [← hG]; exact if_pos (List.isEmpty_iff.1 ht)
        clear hG ht
        go_wp2_with fail
        go_meet
        case rel => exact ⟨by rw [hG1, ← b16], HA2.out⟩
      · have hG1 : G = g := by rw [← hG]; exact if_neg (fun h => by rw [h] at ht; cases ht)
        clear hG ht
        go_wp2_with fail
        go_meet
        case rel => exact ⟨by rw [hG1], HA2.out⟩
    case rest =>
      obtain ⟨rfl, hcc⟩ := hcut
      have HA3 := Lib.hid hcc
      clear hcc hG x2 HA2 ht
      have HGG := Lib.hid (show G.length ≤ 140737488351232 from by
        rw [← HG.out]
        unfold gOr16
        split
        · decide
        · exact HGL.out)
      have x1 := (HA3.out.2.1.at_ 1 _ rfl).1
      have hv := HVV.out.1
      have qv : (v == 1) = false := beq_eq_false_iff_ne.2 hv
      have HV := Lib.hid hv
      obtain ⟨c2, hc2⟩ : ∃ c, askC2 v r ns = c := ⟨_, rfl⟩
      have HC2 := Lib.hid hc2
      have HC2F := Lib.hid (show c2 = false from by rw [← hc2]; obtain ⟨h1, h2, h3, h4⟩ := HVV.out.2; unfold askC2; rw [decide_eq_false h1]; rfl)
      clear hc2 hv
      go_upto_region 10 with fail
      clear x1 qv
      go_cut [4] (fun s4 w' => s4 = .string (bstr G) ∧ MS w w' b mb [] (z0 || !c2) #[.int .i64 1, .int .i64 v, .string (bstr g), .int .i64 mx, .bool q, .int .i64 r, .int .i64 ev, .slice so ns sc, .slice ro nr rc])
      case first =>
        have x1 := (HA3.out.2.1.at_ 1 _ rfl).1
        have x5 := (HA3.out.2.1.at_ 5 _ rfl).1
        have x7 := (HA3.out.2.1.at_ 7 _ rfl).1
        have HWT := Lib.hid (fun c => mwant_any b [] z0 c wc HA3.out.1)
        unfold RetMW at HWT
        obtain ⟨h1, h2, h3, h4⟩ := HVV.out.2
        have q1 : (v == 2) = false := beq_eq_false_iff_ne.2 h1
        have hc : c2 = false := by rw [← HC2.out]; unfold askC2; rw [decide_eq_false h1]; rfl
        subst hc
        clear h1 h2 h3 h4
        go_wp2_with ((with_reducible refine (HWT.out _).mono ?_); rintro e w3 ⟨rfl, hm, hg⟩; have HA4 := Lib.hid (HA3.out.wr hm hg); clear hm hg)
        go_meet
        case rel => exact ⟨rfl, HA4.out⟩
      case rest =>
        obtain ⟨rfl, hcc⟩ := hcut
        have HA4 := Lib.hid hcc
        clear hcc HA3
        obtain ⟨z1, hz1⟩ : ∃ z, (z0 || !c2) = z := ⟨_, rfl⟩
        rw [hz1] at HA4
        have HZ1 := Lib.hid hz1
        clear hz1
        have HE1 := Lib.hid (fun W => enc16_any mx W HE.out.1)
        obtain ⟨wt, hwt⟩ : ∃ c, encV_12 mx = c := ⟨_, rfl⟩
        have hwt65 : wt < 65536 := by rw [← hwt]; exact encV12_lt mx
        have HD1 := Lib.hid (fun W => dec16_any wt W hwt65)
        have hx := ex16 mx
        obtain ⟨E1, hE1⟩ : ∃ e, encE mx = e := ⟨_, rfl⟩
        rw [hwt, hE1] at HE1
        rw [hwt, hE1] at hx
        obtain ⟨D1, hD1⟩ : ∃ d, pdecode wt 12 = d := ⟨_, rfl⟩
        rw [hD1] at HD1 hx
        have HWTV := Lib.hid hwt
        clear hwt hwt65 hE1 hD1
        obtain ⟨t1, ht1⟩ : ∃ t, (E1 == 0) = t := ⟨_, rfl⟩
        obtain ⟨t2, ht2⟩ : ∃ t, ((D1 : Int) == mx) = t := ⟨_, rfl⟩
        rw [ht1, ht2] at hx
        have HX := Lib.hid hx
        have HT := Lib.hid (And.intro ht1 ht2)
        clear hx ht1 ht2
        have x3 := (HA4.out.2.1.at_ 3 _ rfl).1
        go_upto_region 12 with ((with_reducible refine (HE1.out _).mono ?_); rintro e w5 ⟨rfl, hb5⟩; have HA5 := Lib.hid (HA4.out.to hb5); clear hb5 x3)
        go_upto_region 13 with ((with_reducible refine (HD1.out _).mono ?_); rintro e w6 ⟨rfl, hb6⟩; have HA6 := Lib.hid (HA5.out.to hb6); clear hb6)
        have HWT := Lib.hid (fun c => mwant_any b [] z1 c w6 HA6.out.1)
        unfold RetMW at HWT
        go_cut [4, 5] (fun s4 s5 w' => s4 = .string (bstr G) ∧ s5 = .int .i64 wt ∧ MS w w' b mb [] (z1 || !exact16 mx) #[.int .i64 1, .int .i64 v, .string (bstr g), .int .i64 mx, .bool q, .int .i64 r, .int .i64 ev, .slice so ns sc, .slice ro nr rc])
        case first =>
          have x3 := (HA6.out.2.1.at_ 3 _ rfl).1
          obtain ⟨ht1, ht2⟩ := HT.out
          cases t1 <;> cases t2
          all_goals
            go_wp2_with ((with_reducible refine (HWT.out _).mono ?_); rintro e w7 ⟨rfl, hm, hg⟩; have HA7 := Lib.hid (HA6.out.wr hm hg); clear hm hg)
            go_meet
            case rel => exact ⟨rfl, rfl, by rw [← HX.out]; exact HA7.out⟩
        case rest =>
          obtain ⟨rfl, rfl, hcc⟩ := hcut
          have HA7 := Lib.hid hcc
          clear hcc HA4 HA5 HA6 HX HT HE1 HD1 HWT
          obtain ⟨z2, hz2⟩ : ∃ z, (z1 || !exact16 mx) = z := ⟨_, rfl⟩
          rw [hz2] at HA7
          have HZ2 := Lib.hid hz2
          clear hz2
          have HHD := Lib.hid (show Calls Try.prog 58 #[.pointer (some ⟨b, 0, none⟩), .int .i64 130, .int .i64 wt, .int .i64 0] wc _ from mhead_any b z2 130 130 wt 0 wc HA7.out.1 rfl)
          have hhd := hdS_enc mx
          rw [HWTV.out] at hhd
          rw [hhd.2] at HHD
          obtain ⟨S1, hS1⟩ : ∃ S, hdS 130 wt 0 = S := ⟨_, rfl⟩
          rw [hS1] at HHD
          unfold RetMW at HHD
          have HS1 := Lib.hid hS1
          have hl1 : S1.length ≤ 100 := by rw [← hS1]; unfold hdS; have := putS_le wt 2; have := putS_le 0 2; simp; omega
          obtain ⟨hl0, n1⟩ := Lk_start S1 G hl1 HGG.out
          have a1 : bstr S1 ++ bstr G = bstr (S1 ++ G) := bstr_append _ _
          have HL1 := Lib.hid hl0
          clear hS1 hl1 hhd hl0
          go_upto_region 15 with ((with_reducible refine HHD.out.mono ?_); rintro e w8 ⟨rfl, hm, hg⟩; have HA8 := Lib.hid (show MS w w8 b mb S1 z2 #[.int .i64 1, .int .i64 v, .string (bstr g), .int .i64 mx, .bool q, .int .i64 r, .int .i64 ev, .slice so ns sc, .slice ro nr rc] from (HA7.out.wr hm hg).cast); clear hm hg)
          obtain ⟨y0, yf0⟩ := CBox.at_ HA8.out.1 0 _ rfl
          go_upto_region 16 with fail
          obtain ⟨S2, hS2⟩ : ∃ S, S1 ++ G = S := ⟨_, rfl⟩
          have HA9 := Lib.hid (HA8.out.text S2)
          rw [hS2] at HL1 ⊢
          have HS2 := Lib.hid hS2
          obtain ⟨W9, hW9⟩ : ∃ W, w8.setCell ⟨b, 0, none⟩ (.string (bstr S2)) = W := ⟨_, rfl⟩
          rw [hW9] at HA9 ⊢
          clear hW9 y0 yf0 n1 a1 hS2 HHD
          have x5 := (HA9.out.2.1.at_ 5 _ rfl).1
          have x4 := (HA9.out.2.1.at_ 4 _ rfl).1
          obtain ⟨FM, hFM⟩ : ∃ f, max r 0 = f := ⟨_, rfl⟩
          go_upto_if 116 with fail
          clear x5 x4
          have hfl : flV r q = min (if q then wrap64 (FM + 8) else FM) 255 := by unfold flV; rw [hFM]
          obtain ⟨FL, hFL⟩ : ∃ f, (if q then wrap64 (FM + 8) else FM) = f := ⟨_, rfl⟩
          rw [hFL] at hfl
          have HFL := Lib.hid (And.intro hfl hFL)
          clear hfl hFL
          go_cut [4, 9] (fun s4 s9 w' => s4 = .string (bstr G) ∧ s9 = .int .i64 FL ∧ MS w w' b mb S2 z2 #[.int .i64 1, .int .i64 v, .string (bstr g), .int .i64 mx, .bool q, .int .i64 r, .int .i64 ev, .slice so ns sc, .slice ro nr rc])
          case first =>
            have hFL := HFL.out.2
            cases q
            · rw [if_neg (by decide)] at hFL
              go_wp2_with fail
              go_meet
              case rel => exact ⟨rfl, by rw [← hFL, ← hFM], HA9.out⟩
            · rw [if_pos rfl] at hFL
              go_wp2_with fail
              go_meet
              case rel => exact ⟨rfl, by rw [← hFL, ← hFM], HA9.out⟩
          case rest =>
            obtain ⟨rfl, rfl, hcc⟩ := hcut
            have HA10 := Lib.hid hcc
            clear hcc HA7 HA8 HA9 hFM
            have HP1 := Lib.hid (mput1 b S2 z2 (min FL 255) wc HA10.out.1 (Lk_le _ _ HL1.out (by decide)))
            obtain ⟨P1, hP1⟩ : ∃ P, putS (min FL 255) 1 = P := ⟨_, rfl⟩
            obtain ⟨z3, hz3⟩ : ∃ z, (z2 || !okPut (min FL 255) 1) = z := ⟨_, rfl⟩
            rw [hP1, hz3] at HP1
            unfold RetMW at HP1
            have HZ3 := Lib.hid (And.intro hP1 hz3)
            have HL2 := Lib.hid (Lk_put S2 P1 0 HL1.out (by rw [← hP1]; exact Nat.le_trans (putS_le _ 1) (by decide)))
            clear hP1 hz3
            go_upto_region 20 with ((with_reducible refine HP1.out.mono ?_); rintro e w11 ⟨rfl, hm, hg⟩; have HA11 := Lib.hid (HA10.out.wr hm hg); clear hm hg)
            obtain ⟨S3, hS3⟩ : ∃ S, S2 ++ P1 = S := ⟨_, rfl⟩
            rw [hS3] at HA11 HL2
            have HS3 := Lib.hid hS3
            clear hS3 HP1 HA10
            have HE2 := Lib.hid (fun W => enc8_any ev W HE.out.2)
            obtain ⟨et, het⟩ : ∃ c, encV_4 ev = c := ⟨_, rfl⟩
            have het256 : et < 256 := by rw [← het]; exact encV4_lt ev
            have HD2 := Lib.hid (fun W => dec8_any et W het256)
            have hx2 := ex8 ev
            have hep := encV_put ev
            obtain ⟨E2, hE2⟩ : ∃ e, encE ev = e := ⟨_, rfl⟩
            rw [het, hE2] at HE2
            rw [het, hE2] at hx2
            rw [het] at hep
            obtain ⟨D2, hD2⟩ : ∃ d, pdecode et 4 = d := ⟨_, rfl⟩
            rw [hD2] at HD2 hx2
            have HETV := Lib.hid het
            have HEP := Lib.hid hep
            clear het het256 hE2 hD2 hep
            obtain ⟨t1, ht1⟩ : ∃ t, (E2 == 0) = t := ⟨_, rfl⟩
            obtain ⟨t2, ht2⟩ : ∃ t, ((D2 : Int) == ev) = t := ⟨_, rfl⟩
            rw [ht1, ht2] at hx2
            have HX := Lib.hid hx2
            have HT := Lib.hid (And.intro ht1 ht2)
            clear hx2 ht1 ht2
            have x6 := (HA11.out.2.1.at_ 6 _ rfl).1
            go_upto_region 21 with ((with_reducible refine (HE2.out _).mono ?_); rintro e w12 ⟨rfl, hb12⟩; have HA12 := Lib.hid (HA11.out.to hb12); clear hb12 x6)
            go_upto_region 22 with ((with_reducible refine (HD2.out _).mono ?_); rintro e w13 ⟨rfl, hb13⟩; have HA13 := Lib.hid (HA12.out.to hb13); clear hb13)
            have HWT := Lib.hid (fun c => mwant_any b S3 z3 c w13 HA13.out.1)
            unfold RetMW at HWT
            go_cut [4, 10] (fun s4 s10 w' => s4 = .string (bstr G) ∧ s10 = .int .i64 et ∧ MS w w' b mb S3 (z3 || !exact8 ev) #[.int .i64 1, .int .i64 v, .string (bstr g), .int .i64 mx, .bool q, .int .i64 r, .int .i64 ev, .slice so ns sc, .slice ro nr rc])
            case first =>
              have x6 := (HA13.out.2.1.at_ 6 _ rfl).1
              obtain ⟨ht1, ht2⟩ := HT.out
              cases t1 <;> cases t2
              all_goals
                go_wp2_with ((with_reducible refine (HWT.out _).mono ?_); rintro e w14 ⟨rfl, hm, hg⟩; have HA14 := Lib.hid (HA13.out.wr hm hg); clear hm hg)
                go_meet
                case rel => exact ⟨rfl, rfl, by rw [← HX.out]; exact HA14.out⟩
            case rest =>
              obtain ⟨rfl, rfl, hcc⟩ := hcut
              have HA14 := Lib.hid hcc
              clear hcc HA11 HA12 HA13 HX HT HE2 HD2 HWT
              obtain ⟨z4, hz4⟩ : ∃ z, (z3 || !exact8 ev) = z := ⟨_, rfl⟩
              rw [hz4] at HA14
              have HZ4 := Lib.hid hz4
              clear hz4
              have HP2 := Lib.hid (mput1 b S3 z4 et wc HA14.out.1 (Lk_le _ _ HL2.out (by decide)))
              rw [HEP.out.1, HEP.out.2] at HP2
              obtain ⟨P2, hP2⟩ : ∃ P, ofN et 1 = P := ⟨_, rfl⟩
              rw [hP2] at HP2
              unfold RetMW at HP2
              have HPV2 := Lib.hid hP2
              have HL3 := Lib.hid (Lk_put S3 P2 1 HL2.out (by rw [← hP2, ofN_length]; decide))
              clear hP2
              go_upto_region 24 with ((with_reducible refine HP2.out.mono ?_); rintro e w15 ⟨rfl, hm, hg⟩; have HA15 := Lib.hid (show MS w w15 b mb (S3 ++ P2) z4 #[.int .i64 1, .int .i64 v, .string (bstr g), .int .i64 mx, .bool q, .int .i64 r, .int .i64 ev, .slice so ns sc, .slice ro nr rc] from (HA14.out.wr hm hg).cast); clear hm hg)
              obtain ⟨S4, hS4⟩ : ∃ S, S3 ++ P2 = S := ⟨_, rfl⟩
              rw [hS4] at HA15 HL3
              have HS4 := Lib.hid hS4
              clear hS4 HP2 HA14
              have HP3 := Lib.hid (mput2 b S4 z4 (min (ns : Int) 60) w15 HA15.out.1 (Lk_le _ _ HL3.out (by decide)))
              obtain ⟨P3, hP3⟩ : ∃ P, putS (min (ns : Int) 60) 2 = P := ⟨_, rfl⟩
              obtain ⟨z5, hz5⟩ : ∃ z, (z4 || !okPut (min (ns : Int) 60) 2) = z := ⟨_, rfl⟩
              rw [hP3, hz5] at HP3
              unfold RetMW at HP3
              have HZ5 := Lib.hid (And.intro hP3 hz5)
              have HL4 := Lib.hid (Lk_put S4 P3 2 HL3.out (by rw [← hP3]; exact Nat.le_trans (putS_le _ 2) (by decide)))
              clear hP3 hz5
              have x7 := (HA15.out.2.1.at_ 7 _ rfl).1
              go_upto_region 25 with ((with_reducible refine HP3.out.mono ?_); rintro e w16 ⟨rfl, hm, hg⟩; have HA16 := Lib.hid (HA15.out.wr hm hg); clear hm hg x7)
              obtain ⟨S5, hS5⟩ : ∃ S, S4 ++ P3 = S := ⟨_, rfl⟩
              rw [hS5] at HA16 HL4
              have HS5 := Lib.hid hS5
              clear hS5 HP3 HA15
              have x7 := (HA16.out.2.1.at_ 7 _ rfl).1
              go_wp2_with fail
              clear x7
              go_loopw [156] (fun i wr => ∃ k : Nat, k ≤ ns ∧ i = .int .i64 k ∧ MS w wr b mb (S5 ++ (L.take k).flatten) (z5 || !all16 (L.take k)) #[.int .i64 1, .int .i64 v, .string (bstr g), .int .i64 mx, .bool q, .int .i64 r, .int .i64 ev, .slice so ns sc, .slice ro nr rc] ∧ (S5 ++ (L.take k).flatten).length ≤ Bk k) (fun i _ => ns - (RowKit.intOf i).toNat)
              case atStart =>
                refine ⟨0, Nat.zero_le _, rfl, ?_, ?_⟩
                · have h1 : S5 ++ (L.take 0).flatten = S5 := by simp
                  have h2 : (z5 || !all16 (L.take 0)) = z5 := by cases z5 <;> rfl
                  rw [h1, h2]; exact HA16.out
                · have h1 : S5 ++ (L.take 0).flatten = S5 := by simp
                  rw [h1]; exact Bk_start S5 _ HL4.out (by decide)
              case round =>
                obtain ⟨k, hk, rfl, ha, hl⟩ := hrel
                have HA := Lib.hid ha; have HLK := Lib.hid hl
                clear ha hl
                by_cases hlt : k < ns
                · have hltL : k < L.length := by rw [HNN.out.1]; exact hlt
                  have hst := HA.out.strs HSL.out.1 HSL.out.2
                  obtain ⟨bb, off, h9, h8, hidx, hc⟩ := hst.facts
                  obtain ⟨x, hx⟩ : ∃ x, L.getD k [] = x := ⟨_, rfl⟩
                  have hp := hidx k hltL
                  have hcell := (hc k hltL).2
                  rw [enc_bstr, hx] at hcell
                  have hLk : L[k] = x := by rw [← hx]; simp [List.getD_eq_getElem?_getD, hltL]
                  have HFX := Lib.hid (show (L.take (k + 1)).flatten = (L.take k).flatten ++ x from by rw [flat_take L k hltL, hLk])
                  have HAX := Lib.hid (show all16 (L.take (k + 1)) = (all16 (L.take k) && decide (x.length = 16)) from by rw [all16_snoc L k hltL, hLk])
                  obtain ⟨T, hT⟩ : ∃ T, S5 ++ (L.take k).flatten = T := ⟨_, rfl⟩
                  have hTl := HLK.out
                  rw [hT] at hTl
                  have a1 : bstr T ++ bstr x = bstr (T ++ x) := bstr_append _ _
                  rw [hT] at HA
                  obtain ⟨zk, hzk⟩ : ∃ z, (z5 || !all16 (L.take k)) = z := ⟨_, rfl⟩
                  rw [hzk] at HA
                  obtain ⟨t, ht⟩ : ∃ t, decide (x.length = 16) = t := ⟨_, rfl⟩
                  have HZK := Lib.hid (show (z5 || !all16 (L.take (k + 1))) = (zk || !t) from by rw [← hzk, HAX.out, ht]; cases z5 <;> cases all16 (L.take k) <;> cases t <;> rfl)
                  have HWT := Lib.hid (mwant_any b T zk t wr HA.out.1)
                  unfold RetMW at HWT
                  have qt : ((x.length : Int) == 16) = t := by rw [← ht]; exact len16_int x
                  have qt' : (x.length == 16) = t := by rw [← ht, Bool.eq_iff_iff, beq_iff_eq, decide_eq_true_eq]
                  have hwk : wrap64 ((k : Int) + 1) = (k : Int) + 1 := wrap_up k ns hlt HLX.out.1
                  have dlt : decide ((k : Int) < ns) = true := decide_eq_true (Int.ofNat_lt.2 hlt)
                  have dlt' : decide (k < ns) = true := decide_eq_true hlt
                  obtain ⟨u1, u2⟩ := Bk_step T x k ns hTl (HLX.out.2 x (by rw [← hLk]; exact List.getElem_mem hltL)) hlt HLX.out.1
                  have HTX := Lib.hid (And.intro hT u1)
                  have HLT := Lib.hid hlt
                  clear hidx hc h9 h8 hst hx hLk hT hTl u1 hzk ht hltL hk hlt
                  go_upto_region 29 with ((with_reducible refine HWT.out.mono ?_); rintro e w17 ⟨rfl, hm, hg⟩; have HA17 := Lib.hid (HA.out.wr hm hg); clear hm hg)
                  obtain ⟨y0, yf0⟩ := CBox.at_ HA17.out.1 0 _ rfl
                  have HA18 := Lib.hid (HA17.out.text (T ++ x))
                  go_wp2_with fail
                  refine ⟨⟨k + 1, HLT.out, by rw [hwk]; rfl, ?_, ?_⟩, by rw [hwk]; exact meas_up ns k HLT.out⟩
                  · rw [HFX.out, ← List.append_assoc, HTX.out.1, HZK.out]; exact HA18.out
                  · rw [HFX.out, ← List.append_assoc, HTX.out.1]; exact HTX.out.2
                · obtain rfl : ns = k := Nat.le_antisymm (Nat.le_of_not_lt hlt) hk
                  have hLt : L.take ns = L := by rw [← HNN.out.1]; exact List.take_length
                  rw [hLt] at HA
                  clear hlt hk hLt
                  go_wp2_with fail
                  go_end0
                  have hmm := may9_long v g mx q r ev L R HV.out
                  rw [HNN.out.1, HNN.out.2, HC1.out, HC2.out] at hmm
                  have hc2f : c2 = false := HC2F.out
                  have hM : mayM9 ⟨1, v, g, mx, q, r, ev, L, R⟩ = false := by rw [hmm, hc2f]; cases c1 <;> rfl
                  have hzz : (z5 || !all16 L) = true := by
                    rw [← HZ5.out.2, ← HZ4.out, ← HZ3.out.2, ← HZ2.out, ← HZ1.out, hc2f]
                    cases z0 <;> rfl
                  refine ⟨rfl, _, _, HA.out.1, by rw [hzz, hM]; rfl, fun h => ?_, HA.out.2.2.1⟩
                  rw [hzz] at h; cases h

set_option maxHeartbeats 4000000 in
theorem mask_b2 (v mx r ev : Int) (g : Str) (q : Bool) (so : Option Addr) (L : List Str) (sc : Nat) (ro : Option Addr) (R : List Rec) (rc : Nat) (b : Nat) (w : World) (hw : MW w b [] false)
    (hs : Strs w (.slice so L.length sc) L) (hne : L ≠ [] → (Value.slice so L.length sc).ownBlock ≠ some b) (hg : g.length ≤ 140737488351232) (hL : L.length ≤ 100) (hLx : ∀ x ∈ L, x.length ≤ 140737488351232) (hv : ¬ v = 1) (hcc2 : v = 2 ∧ ¬ 0 ≤ r ∧ True ∧ True) (hmx : mx < 2 ^ 63) (hev : ev < 2 ^ 63) :
    Calls Try.prog 29 #[.pointer (some ⟨b, 0, none⟩), .agg (msgCells 1 v g mx q r ev so L.length sc ro R.length rc)] w (RetAsk9 w b ⟨1, v, g, mx, q, r, ev, L, R⟩) := by
  have l1 := run_len_any (P := Try.prog) Try.underlying26 so L.length sc
  have l2 := run_len_any (P := Try.prog) Try.underlying27 ro R.length rc
  have b0 : (⟨#[]⟩ : ByteArray) = bstr [] := bstr_nil.symm
  have b16 : (⟨#[0, 0, 0, 0, 0, 0, 0, 0, 0, 0, 0, 0, 0, 0, 0, 0]⟩ : ByteArray) = bstr nobody16 := by rw [bstr_eq]; rfl
  obtain ⟨ns, hns⟩ : ∃ ns, L.length = ns := ⟨_, rfl⟩
  obtain ⟨nr, hnr⟩ : ∃ nr, R.length = nr := ⟨_, rfl⟩
  rw [hns] at l1 hs hne ⊢
  rw [hnr] at l2 ⊢
  obtain ⟨mb, hmb⟩ : ∃ mb, w.heap.size = mb := ⟨_, rfl⟩
  obtain ⟨W1, hW1⟩ : ∃ W1, w.alloc (.cells (msgCells 1 v g mx q r ev so ns sc ro nr rc) 29) = W1 := ⟨_, rfl⟩
  have HA1 := Lib.hid (show MS w W1 b mb [] false #[.int .i64 1, .int .i64 v, .string (bstr g), .int .i64 mx, .bool q, .int .i64 r, .int .i64 ev, .slice so ns sc, .slice ro nr rc] from by
    have k1 : Below w.heap.size w W1 := by rw [← hW1]; exact (Below.refl _ _).alloc (Nat.le_refl _) _
    exact ⟨hw.to k1, by rw [← hW1]; exact CBox.new _ hmb.symm, gb_below k1 _, CBox.lt hw, Nat.le_of_eq hmb⟩)
  have HW1 := Lib.hid hW1; have HMB := Lib.hid hmb
  have HSL := Lib.hid (And.intro hs hne)
  have HNN := Lib.hid (And.intro hns hnr)
  have HGL := Lib.hid hg
  have HLX := Lib.hid (And.intro (hns ▸ hL) hLx)
  have HGM := Lib.hid (show g.length ≤ maxLen from Nat.le_trans hg (by decide))
  have HGR := Lib.hid (fun W => mgroup_any g W HGM.out)
  obtain ⟨c1, hc1⟩ : ∃ c, askC1 g ns nr = c := ⟨_, rfl⟩
  have HC1 := Lib.hid hc1
  have HE := Lib.hid (And.intro hmx hev)
  have HVV := Lib.hid (And.intro hv hcc2)
  clear hv hcc2 hw hs hne hg hL hLx hmx hev hns hnr hmb hW1 hc1
  go_enter Try.func29, Try.ntmps29
  go_upto_region 1 with fail
  rw [HMB.out, HW1.out]
  go_cut [] (fun w' => MS w w' b mb [] (!c1) #[.int .i64 1, .int .i64 v, .string (bstr g), .int .i64 mx, .bool q, .int .i64 r, .int .i64 ev, .slice so ns sc, .slice ro nr rc])
  case first =>
    have x8 := (HA1.out.2.1.at_ 8 _ rfl).1
    have x2 := (HA1.out.2.1.at_ 2 _ rfl).1
    have x7 := (HA1.out.2.1.at_ 7 _ rfl).1
    have HWT := Lib.hid (fun W c (h : MS w W b mb [] false #[.int .i64 1, .int .i64 v, .string (bstr g), .int .i64 mx, .bool q, .int .i64 r, .int .i64 ev, .slice so ns sc, .slice ro nr rc]) => mwant_any b [] false c W h.1)
    unfold RetMW at HWT
    by_cases h1 : nr = 0
    · have q1 : ((nr : Int) == 0) = true := beq_iff_eq.2 (by omega)
      have q1' : (nr == 0) = true := beq_iff_eq.2 h1
      by_cases h2 : g = []
      · by_cases h3 : ns = 0
        · have q3 : ((ns : Int) == 0) = true := beq_iff_eq.2 (by omega)
          have q3' : (ns == 0) = true := beq_iff_eq.2 h3
          have hc : c1 = true := by rw [← HC1.out]; unfold askC1; rw [decide_eq_true h1, decide_eq_true h2, decide_eq_true h3]; rfl
          subst hc h2
          clear h1 h3
          go_wp2_with ((with_reducible refine (HWT.out _ _ HA1.out).mono ?_); rintro e w3 ⟨rfl, hm, hg⟩; have HA3 := Lib.hid (HA1.out.wr hm hg); clear hm hg)
          go_meet
          case rel => exact HA3.out
        · have q3 : ((ns : Int) == 0) = false := beq_eq_false_iff_ne.2 (by omega)
          have q3' : (ns == 0) = false := beq_eq_false_iff_ne.2 h3
          have hc : c1 = false := by rw [← HC1.out]; unfold askC1; rw [decide_eq_true h1, decide_eq_true h2, decide_eq_false h3, h2, grp_nil16]; rfl
          subst hc h2
          rw [grp_nil16] at HGR
          clear h1 h3
          go_wp2_with (first | ((with_reducible refine (HGR.out _).mono ?_); rintro e w2 ⟨rfl, hb2⟩; have HA2 := Lib.hid (HA1.out.to hb2); clear hb2) | ((with_reducible refine (HWT.out _ _ HA2.out).mono ?_); rintro e w3 ⟨rfl, hm, hg⟩; have HA3 := Lib.hid (HA2.out.wr hm hg); clear hm hg))
          go_meet
          case rel => exact HA3.out
      · have q2 : (g == []) = false := beq_eq_false_iff_ne.2 h2
        have q2' : g.isEmpty = false := isEmpty_ne h2
        have hc : c1 = grp g 16 := by rw [← HC1.out]; unfold askC1; rw [decide_eq_true h1, decide_eq_false h2]; rfl
        rw [← hc] at HGR
        clear h1 h2 hc
        go_wp2_with (first | ((with_reducible refine (HGR.out _).mono ?_); rintro e w2 ⟨rfl, hb2⟩; have HA2 := Lib.hid (HA1.out.to hb2); clear hb2) | ((with_reducible refine (HWT.out _ _ HA2.out).mono ?_); rintro e w3 ⟨rfl, hm, hg⟩; have HA3 := Lib.hid (HA2.out.wr hm hg); clear hm hg))
        go_meet
        case rel => exact HA3.out
    · have q1 : ((nr : Int) == 0) = false := beq_eq_false_iff_ne.2 (by omega)
      have q1' : (nr == 0) = false := beq_eq_false_iff_ne.2 h1
      have hc : c1 = false := by rw [← HC1.out]; unfold askC1; rw [decide_eq_false h1]; rfl
      subst hc
      clear h1
      go_wp2_with ((with_reducible refine (HWT.out _ _ HA1.out).mono ?_); rintro e w3 ⟨rfl, hm, hg⟩; have HA3 := Lib.hid (HA1.out.wr hm hg); clear hm hg)
      go_meet
      case rel => exact HA3.out
  case rest =>
    have HA2 := Lib.hid hcut
    clear hcut HA1
    obtain ⟨z0, hz0⟩ : ∃ z, (!c1) = z := ⟨_, rfl⟩
    rw [hz0] at HA2
    have HZ0 := Lib.hid hz0
    clear hz0
    obtain ⟨G, hG⟩ : ∃ G, gOr16 g = G := ⟨_, rfl⟩
    have HG := Lib.hid hG
    have x2 := (HA2.out.2.1.at_ 2 _ rfl).1
    go_upto_if 38 with fail
    obtain ⟨t, ht⟩ : ∃ t, List.isEmpty g = t := ⟨_, rfl⟩
    rw [ht]
    go_cut [4] (fun s4 w' => s4 = .string (bstr G) ∧ MS w w' b mb [] z0 #[.int .i64 1, .int .i64 v, .string (bstr g), .int .i64 mx, .bool q, .int .i64 r, .int .i64 ev, .slice so ns sc, .slice ro nr rc])
    case first =>
      cases t
      rotate_left
      · have hG1 : G = nobody16 := by rw [← hG]; exact if_pos (List.isEmpty_iff.1 ht)
        clear hG ht
        go_wp2_with fail
        go_meet
        case rel => exact ⟨by rw [hG1, ← b16], HA2.out⟩
      · have hG1 : G = g := by rw [← hG]; exact if_neg (fun h => by rw [h] at ht; cases ht)
        clear hG ht
        go_wp2_with fail
        go_meet
        case rel => exact ⟨by rw [hG1], HA2.out⟩
    case rest =>
      obtain ⟨rfl, hcc⟩ := hcut
      have HA3 := Lib.hid hcc
      clear hcc hG x2 HA2 ht
      have HGG := Lib.hid (show G.length ≤ 140737488351232 from by
        rw [← HG.out]
        unfold gOr16
        split
        · decide
        · exact HGL.out)
      have x1 := (HA3.out.2.1.at_ 1 _ rfl).1
      have hv := HVV.out.1
      have qv : (v == 1) = false := beq_eq_false_iff_ne.2 hv
      have HV := Lib.hid hv
      obtain ⟨c2, hc2⟩ : ∃ c, askC2 v r ns = c := ⟨_, rfl⟩
      have HC2 := Lib.hid hc2
      have HC2F := Lib.hid (show c2 = false from by rw [← hc2]; obtain ⟨h1, h2, h3, h4⟩ := HVV.out.2; unfold askC2; rw [decide_eq_true h1, decide_eq_false h2]; rfl)
      clear hc2 hv
      go_upto_region 10 with fail
      clear x1 qv
      go_cut [4] (fun s4 w' => s4 = .string (bstr G) ∧ MS w w' b mb [] (z0 || !c2) #[.int .i64 1, .int .i64 v, .string (bstr g), .int .i64 mx, .bool q, .int .i64 r, .int .i64 ev, .slice so ns sc, .slice ro nr rc])
      case first =>
        have x1 := (HA3.out.2.1.at_ 1 _ rfl).1
        have x5 := (HA3.out.2.1.at_ 5 _ rfl).1
        have x7 := (HA3.out.2.1.at_ 7 _ rfl).1
        have HWT := Lib.hid (fun c => mwant_any b [] z0 c wc HA3.out.1)
        unfold RetMW at HWT
        obtain ⟨h1, h2, h3, h4⟩ := HVV.out.2
        have q1 : (v == 2) = true := beq_iff_eq.2 h1
        have q2 : decide (0 ≤ r) = false := decide_eq_false h2
        have hc : c2 = false := by rw [← HC2.out]; unfold askC2; rw [decide_eq_true h1, q2]; rfl
        subst hc
        clear h1 h2 h3 h4
        go_wp2_with ((with_reducible refine (HWT.out _).mono ?_); rintro e w3 ⟨rfl, hm, hg⟩; have HA4 := Lib.hid (HA3.out.wr hm hg); clear hm hg)
        go_meet
        case rel => exact ⟨rfl, HA4.out⟩
      case rest =>
        obtain ⟨rfl, hcc⟩ := hcut
        have HA4 := Lib.hid hcc
        clear hcc HA3
        obtain ⟨z1, hz1⟩ : ∃ z, (z0 || !c2) = z := ⟨_, rfl⟩
        rw [hz1] at HA4
        have HZ1 := Lib.hid hz1
        clear hz1
        have HE1 := Lib.hid (fun W => enc16_any mx W HE.out.1)
        obtain ⟨wt, hwt⟩ : ∃ c, encV_12 mx = c := ⟨_, rfl⟩
        have hwt65 : wt < 65536 := by rw [← hwt]; exact encV12_lt mx
        have HD1 := Lib.hid (fun W => dec16_any wt W hwt65)
        have hx := ex16 mx
        obtain ⟨E1, hE1⟩ : ∃ e, encE mx = e := ⟨_, rfl⟩
        rw [hwt, hE1] at HE1
        rw [hwt, hE1] at hx
        obtain ⟨D1, hD1⟩ : ∃ d, pdecode wt 12 = d := ⟨_, rfl⟩
        rw [hD1] at HD1 hx
        have HWTV := Lib.hid hwt
        clear hwt hwt65 hE1 hD1
        obtain ⟨t1, ht1⟩ : ∃ t, (E1 == 0) = t := ⟨_, rfl⟩
        obtain ⟨t2, ht2⟩ : ∃ t, ((D1 : Int) == mx) = t := ⟨_, rfl⟩
        rw [ht1, ht2] at hx
        have HX := Lib.hid hx
        have HT := Lib.hid (And.intro ht1 ht2)
        clear hx ht1 ht2
        have x3 := (HA4.out.2.1.at_ 3 _ rfl).1
        go_upto_region 12 with ((with_reducible refine (HE1.out _).mono ?_); rintro e w5 ⟨rfl, hb5⟩; have HA5 := Lib.hid (HA4.out.to hb5); clear hb5 x3)
        go_upto_region 13 with ((with_reducible refine (HD1.out _).mono ?_); rintro e w6 ⟨rfl, hb6⟩; have HA6 := Lib.hid (HA5.out.to hb6); clear hb6)
        have HWT := Lib.hid (fun c => mwant_any b [] z1 c w6 HA6.out.1)
        unfold RetMW at HWT
        go_cut [4, 5] (fun s4 s5 w' => s4 = .string (bstr G) ∧ s5 = .int .i64 wt ∧ MS w w' b mb [] (z1 || !exact16 mx) #[.int .i64 1, .int .i64 v, .string (bstr g), .int .i64 mx, .bool q, .int .i64 r, .int .i64 ev, .slice so ns sc, .slice ro nr rc])
        case first =>
          have x3 := (HA6.out.2.1.at_ 3 _ rfl).1
          obtain ⟨ht1, ht2⟩ := HT.out
          cases t1 <;> cases t2
          all_goals
            go_wp2_with ((with_reducible refine (HWT.out _).mono ?_); rintro e w7 ⟨rfl, hm, hg⟩; have HA7 := Lib.hid (HA6.out.wr hm hg); clear hm hg)
            go_meet
            case rel => exact ⟨rfl, rfl, by rw [← HX.out]; exact HA7.out⟩
        case rest =>
          obtain ⟨rfl, rfl, hcc⟩ := hcut
          have HA7 := Lib.hid hcc
          clear hcc HA4 HA5 HA6 HX HT HE1 HD1 HWT
          obtain ⟨z2, hz2⟩ : ∃ z, (z1 || !exact16 mx) = z := ⟨_, rfl⟩
          rw [hz2] at HA7
          have HZ2 := Lib.hid hz2
          clear hz2
          have HHD := Lib.hid (show Calls Try.prog 58 #[.pointer (some ⟨b, 0, none⟩), .int .i64 130, .int .i64 wt, .int .i64 0] wc _ from mhead_any b z2 130 130 wt 0 wc HA7.out.1 rfl)
          have hhd := hdS_enc mx
          rw [HWTV.out] at hhd
          rw [hhd.2] at HHD
          obtain ⟨S1, hS1⟩ : ∃ S, hdS 130 wt 0 = S := ⟨_, rfl⟩
          rw [hS1] at HHD
          unfold RetMW at HHD
          have HS1 := Lib.hid hS1
          have hl1 : S1.length ≤ 100 := by rw [← hS1]; unfold hdS; have := putS_le wt 2; have := putS_le 0 2; simp; omega
          obtain ⟨hl0, n1⟩ := Lk_start S1 G hl1 HGG.out
          have a1 : bstr S1 ++ bstr G = bstr (S1 ++ G) := bstr_append _ _
          have HL1 := Lib.hid hl0
          clear hS1 hl1 hhd hl0
          go_upto_region 15 with ((with_reducible refine HHD.out.mono ?_); rintro e w8 ⟨rfl, hm, hg⟩; have HA8 := Lib.hid (show MS w w8 b mb S1 z2 #[.int .i64 1, .int .i64 v, .string (bstr g), .int .i64 mx, .bool q, .int .i64 r, .int .i64 ev, .slice so ns sc, .slice ro nr rc] from (HA7.out.wr hm hg).cast); clear hm hg)
          obtain ⟨y0, yf0⟩ := CBox.at_ HA8.out.1 0 _ rfl
          go_upto_region 16 with fail
          obtain ⟨S2, hS2⟩ : ∃ S, S1 ++ G = S := ⟨_, rfl⟩
          have HA9 := Lib.hid (HA8.out.text S2)
          rw [hS2] at HL1 ⊢
          have HS2 := Lib.hid hS2
          obtain ⟨W9, hW9⟩ : ∃ W, w8.setCell ⟨b, 0, none⟩ (.string (bstr S2)) = W := ⟨_, rfl⟩
          rw [hW9] at HA9 ⊢
          clear hW9 y0 yf0 n1 a1 hS2 HHD
          have x5 := (HA9.out.2.1.at_ 5 _ rfl).1
          have x4 := (HA9.out.2.1.at_ 4 _ rfl).1
          obtain ⟨FM, hFM⟩ : ∃ f, max r 0 = f := ⟨_, rfl⟩
          go_upto_if 116 with fail
          clear x5 x4
          have hfl : flV r q = min (if q then wrap64 (FM + 8) else FM) 255 := by unfold flV; rw [hFM]
          obtain ⟨FL, hFL⟩ : ∃ f, (if q then wrap64 (FM + 8) else FM) = f := ⟨_, rfl⟩
          rw [hFL] at hfl
          have HFL := Lib.hid (And.intro hfl hFL)
          clear hfl hFL
          go_cut [4, 9] (fun s4 s9 w' => s4 = .string (bstr G) ∧ s9 = .int .i64 FL ∧ MS w w' b mb S2 z2 #[.int .i64 1, .int .i64 v, .string (bstr g), .int .i64 mx, .bool q, .int .i64 r, .int .i64 ev, .slice so ns sc, .slice ro nr rc])
          case first =>
            have hFL := HFL.out.2
            cases q
            · rw [if_neg (by decide)] at hFL
              go_wp2_with fail
              go_meet
              case rel => exact ⟨rfl, by rw [← hFL, ← hFM], HA9.out⟩
            · rw [if_pos rfl] at hFL
              go_wp2_with fail
              go_meet
              case rel => exact ⟨rfl, by rw [← hFL, ← hFM], HA9.out⟩
          case rest =>
            obtain ⟨rfl, rfl, hcc⟩ := hcut
            have HA10 := Lib.hid hcc
            clear hcc HA7 HA8 HA9 hFM
            have HP1 := Lib.hid (mput1 b S2 z2 (min FL 255) wc HA10.out.1 (Lk_le _ _ HL1.out (by decide)))
            obtain ⟨P1, hP1⟩ : ∃ P, putS (min FL 255) 1 = P := ⟨_, rfl⟩
            obtain ⟨z3, hz3⟩ : ∃ z, (z2 || !okPut (min FL 255) 1) = z := ⟨_, rfl⟩
            rw [hP1, hz3] at HP1
            unfold RetMW at HP1
            have HZ3 := Lib.hid (And.intro hP1 hz3)
            have HL2 := Lib.hid (Lk_put S2 P1 0 HL1.out (by rw [← hP1]; exact Nat.le_trans (putS_le _ 1) (by decide)))
            clear hP1 hz3
            go_upto_region 20 with ((with_reducible refine HP1.out.mono ?_); rintro e w11 ⟨rfl, hm, hg⟩; have HA11 := Lib.hid (HA10.out.wr hm hg); clear hm hg)
            obtain ⟨S3, hS3⟩ : ∃ S, S2 ++ P1 = S := ⟨_, rfl⟩
            rw [hS3] at HA11 HL2
            have HS3 := Lib.hid hS3
            clear hS3 HP1 HA10
            have HE2 := Lib.hid (fun W => enc8_any ev W HE.out.2)
            obtain ⟨et, het⟩ : ∃ c, encV_4 ev = c := ⟨_, rfl⟩
            have het256 : et < 256 := by rw [← het]; exact encV4_lt ev
            have HD2 := Lib.hid (fun W => dec8_any et W het256)
            have hx2 := ex8 ev
            have hep := encV_put ev
            obtain ⟨E2, hE2⟩ : ∃ e, encE ev = e := ⟨_, rfl⟩
            rw [het, hE2] at HE2
            rw [het, hE2] at hx2
            rw [het] at hep
            obtain ⟨D2, hD2⟩ : ∃ d, pdecode et 4 = d := ⟨_, rfl⟩
            rw [hD2] at HD2 hx2
            have HETV := Lib.hid het
            have HEP := Lib.hid hep
            clear het het256 hE2 hD2 hep
            obtain ⟨t1, ht1⟩ : ∃ t, (E2 == 0) = t := ⟨_, rfl⟩
            obtain ⟨t2, ht2⟩ : ∃ t, ((D2 : Int) == ev) = t := ⟨_, rfl⟩
            rw [ht1, ht2] at hx2
            have HX := Lib.hid hx2
            have HT := Lib.hid (And.intro ht1 ht2)
            clear hx2 ht1 ht2
            have x6 := (HA11.out.2.1.at_ 6 _ rfl).1
            go_upto_region 21 with ((with_reducible refine (HE2.out _).mono ?_); rintro e w12 ⟨rfl, hb12⟩; have HA12 := Lib.hid (HA11.out.to hb12); clear hb12 x6)
            go_upto_region 22 with ((with_reducible refine (HD2.out _).mono ?_); rintro e w13 ⟨rfl, hb13⟩; have HA13 := Lib.hid (HA12.out.to hb13); clear hb13)
            have HWT := Lib.hid (fun c => mwant_any b S3 z3 c w13 HA13.out.1)
            unfold RetMW at HWT
            go_cut [4, 10] (fun s4 s10 w' => s4 = .string (bstr G) ∧ s10 = .int .i64 et ∧ MS w w' b mb S3 (z3 || !exact8 ev) #[.int .i64 1, .int .i64 v, .string (bstr g), .int .i64 mx, .bool q, .int .i64 r, .int .i64 ev, .slice so ns sc, .slice ro nr rc])
            case first =>
              have x6 := (HA13.out.2.1.at_ 6 _ rfl).1
              obtain ⟨ht1, ht2⟩ := HT.out
              cases t1 <;> cases t2
              all_goals
                go_wp2_with ((with_reducible refine (HWT.out _).mono ?_); rintro e w14 ⟨rfl, hm, hg⟩; have HA14 := Lib.hid (HA13.out.wr hm hg); clear hm hg)
                go_meet
                case rel => exact ⟨rfl, rfl, by rw [← HX.out]; exact HA14.out⟩
            case rest =>
              obtain ⟨rfl, rfl, hcc⟩ := hcut
              have HA14 := Lib.hid hcc
              clear hcc HA11 HA12 HA13 HX HT HE2 HD2 HWT
              obtain ⟨z4, hz4⟩ : ∃ z, (z3 || !exact8 ev) = z := ⟨_, rfl⟩
              rw [hz4] at HA14
              have HZ4 := Lib.hid hz4
              clear hz4
              have HP2 := Lib.hid (mput1 b S3 z4 et wc HA14.out.1 (Lk_le _ _ HL2.out (by decide)))
              rw [HEP.out.1, HEP.out.2] at HP2
              obtain ⟨P2, hP2⟩ : ∃ P, ofN et 1 = P := ⟨_, rfl⟩
              rw [hP2] at HP2
              unfold RetMW at HP2
              have HPV2 := Lib.hid hP2
              have HL3 := Lib.hid (Lk_put S3 P2 1 HL2.out (by rw [← hP2, ofN_length]; decide))
              clear hP2
              go_upto_region 24 with ((with_reducible refine HP2.out.mono ?_); rintro e w15 ⟨rfl, hm, hg⟩; have HA15 := Lib.hid (show MS w w15 b mb (S3 ++ P2) z4 #[.int .i64 1, .int .i64 v, .string (bstr g), .int .i64 mx, .bool q, .int .i64 r, .int .i64 ev, .slice so ns sc, .slice ro nr rc] from (HA14.out.wr hm hg).cast); clear hm hg)
              obtain ⟨S4, hS4⟩ : ∃ S, S3 ++ P2 = S := ⟨_, rfl⟩
              rw [hS4] at HA15 HL3
              have HS4 := Lib.hid hS4
              clear hS4 HP2 HA14
              have HP3 := Lib.hid (mput2 b S4 z4 (min (ns : Int) 60) w15 HA15.out.1 (Lk_le _ _ HL3.out (by decide)))
              obtain ⟨P3, hP3⟩ : ∃ P, putS (min (ns : Int) 60) 2 = P := ⟨_, rfl⟩
              obtain ⟨z5, hz5⟩ : ∃ z, (z4 || !okPut (min (ns : Int) 60) 2) = z := ⟨_, rfl⟩
              rw [hP3, hz5] at HP3
              unfold RetMW at HP3
              have HZ5 := Lib.hid (And.intro hP3 hz5)
              have HL4 := Lib.hid (Lk_put S4 P3 2 HL3.out (by rw [← hP3]; exact Nat.le_trans (putS_le _ 2) (by decide)))
              clear hP3 hz5
              have x7 := (HA15.out.2.1.at_ 7 _ rfl).1
              go_upto_region 25 with ((with_reducible refine HP3.out.mono ?_); rintro e w16 ⟨rfl, hm, hg⟩; have HA16 := Lib.hid (HA15.out.wr hm hg); clear hm hg x7)
              obtain ⟨S5, hS5⟩ : ∃ S, S4 ++ P3 = S := ⟨_, rfl⟩
              rw [hS5] at HA16 HL4
              have HS5 := Lib.hid hS5
              clear hS5 HP3 HA15
              have x7 := (HA16.out.2.1.at_ 7 _ rfl).1
              go_wp2_with fail
              clear x7
              go_loopw [156] (fun i wr => ∃ k : Nat, k ≤ ns ∧ i = .int .i64 k ∧ MS w wr b mb (S5 ++ (L.take k).flatten) (z5 || !all16 (L.take k)) #[.int .i64 1, .int .i64 v, .string (bstr g), .int .i64 mx, .bool q, .int .i64 r, .int .i64 ev, .slice so ns sc, .slice ro nr rc] ∧ (S5 ++ (L.take k).flatten).length ≤ Bk k) (fun i _ => ns - (RowKit.intOf i).toNat)
              case atStart =>
                refine ⟨0, Nat.zero_le _, rfl, ?_, ?_⟩
                · have h1 : S5 ++ (L.take 0).flatten = S5 := by simp
                  have h2 : (z5 || !all16 (L.take 0)) = z5 := by cases z5 <;> rfl
                  rw [h1, h2]; exact HA16.out
                · have h1 : S5 ++ (L.take 0).flatten = S5 := by simp
                  rw [h1]; exact Bk_start S5 _ HL4.out (by decide)
              case round =>
                obtain ⟨k, hk, rfl, ha, hl⟩ := hrel
                have HA := Lib.hid ha; have HLK := Lib.hid hl
                clear ha hl
                by_cases hlt : k < ns
                · have hltL : k < L.length := by rw [HNN.out.1]; exact hlt
                  have hst := HA.out.strs HSL.out.1 HSL.out.2
                  obtain ⟨bb, off, h9, h8, hidx, hc⟩ := hst.facts
                  obtain ⟨x, hx⟩ : ∃ x, L.getD k [] = x := ⟨_, rfl⟩
                  have hp := hidx k hltL
                  have hcell := (hc k hltL).2
                  rw [enc_bstr, hx] at hcell
                  have hLk : L[k] = x := by rw [← hx]; simp [List.getD_eq_getElem?_getD, hltL]
                  have HFX := Lib.hid (show (L.take (k + 1)).flatten = (L.take k).flatten ++ x from by rw [flat_take L k hltL, hLk])
                  have HAX := Lib.hid (show all16 (L.take (k + 1)) = (all16 (L.take k) && decide (x.length = 16)) from by rw [all16_snoc L k hltL, hLk])
                  obtain ⟨T, hT⟩ : ∃ T, S5 ++ (L.take k).flatten = T := ⟨_, rfl⟩
                  have hTl := HLK.out
                  rw [hT] at hTl
                  have a1 : bstr T ++ bstr x = bstr (T ++ x) := bstr_append _ _
                  rw [hT] at HA
                  obtain ⟨zk, hzk⟩ : ∃ z, (z5 || !all16 (L.take k)) = z := ⟨_, rfl⟩
                  rw [hzk] at HA
                  obtain ⟨t, ht⟩ : ∃ t, decide (x.length = 16) = t := ⟨_, rfl⟩
                  have HZK := Lib.hid (show (z5 || !all16 (L.take (k + 1))) = (zk || !t) from by rw [← hzk, HAX.out, ht]; cases z5 <;> cases all16 (L.take k) <;> cases t <;> rfl)
                  have HWT := Lib.hid (mwant_any b T zk t wr HA.out.1)
                  unfold RetMW at HWT
                  have qt : ((x.length : Int) == 16) = t := by rw [← ht]; exact len16_int x
                  have qt' : (x.length == 16) = t := by rw [← ht, Bool.eq_iff_iff, beq_iff_eq, decide_eq_true_eq]
                  have hwk : wrap64 ((k : Int) + 1) = (k : Int) + 1 := wrap_up k ns hlt HLX.out.1
                  have dlt : decide ((k : Int) < ns) = true := decide_eq_true (Int.ofNat_lt.2 hlt)
                  have dlt' : decide (k < ns) = true := decide_eq_true hlt
                  obtain ⟨u1, u2⟩ := Bk_step T x k ns hTl (HLX.out.2 x (by rw [← hLk]; exact List.getElem_mem hltL)) hlt HLX.out.1
                  have HTX := Lib.hid (And.intro hT u1)
                  have HLT := Lib.hid hlt
                  clear hidx hc h9 h8 hst hx hLk hT hTl u1 hzk ht hltL hk hlt
                  go_upto_region 29 with ((with_reducible refine HWT.out.mono ?_); rintro e w17 ⟨rfl, hm, hg⟩; have HA17 := Lib.hid (HA.out.wr hm hg); clear hm hg)
                  obtain ⟨y0, yf0⟩ := CBox.at_ HA17.out.1 0 _ rfl
                  have HA18 := Lib.hid (HA17.out.text (T ++ x))
                  go_wp2_with fail
                  refine ⟨⟨k + 1, HLT.out, by rw [hwk]; rfl, ?_, ?_⟩, by rw [hwk]; exact meas_up ns k HLT.out⟩
                  · rw [HFX.out, ← List.append_assoc, HTX.out.1, HZK.out]; exact HA18.out
                  · rw [HFX.out, ← List.append_assoc, HTX.out.1]; exact HTX.out.2
                · obtain rfl : ns = k := Nat.le_antisymm (Nat.le_of_not_lt hlt) hk
                  have hLt : L.take ns = L := by rw [← HNN.out.1]; exact List.take_length
                  rw [hLt] at HA
                  clear hlt hk hLt
                  go_wp2_with fail
                  go_end0
                  have hmm := may9_long v g mx q r ev L R HV.out
                  rw [HNN.out.1, HNN.out.2, HC1.out, HC2.out] at hmm
                  have hc2f : c2 = false := HC2F.out
                  have hM : mayM9 ⟨1, v, g, mx, q, r, ev, L, R⟩ = false := by rw [hmm, hc2f]; cases c1 <;> rfl
                  have hzz : (z5 || !all16 L) = true := by
                    rw [← HZ5.out.2, ← HZ4.out, ← HZ3.out.2, ← HZ2.out, ← HZ1.out, hc2f]
                    cases z0 <;> rfl
                  refine ⟨rfl, _, _, HA.out.1, by rw [hzz, hM]; rfl, fun h => ?_, HA.out.2.2.1⟩
                  rw [hzz] at h; cases h
end Go.Proofs.Ythkibgdeibolfaa
