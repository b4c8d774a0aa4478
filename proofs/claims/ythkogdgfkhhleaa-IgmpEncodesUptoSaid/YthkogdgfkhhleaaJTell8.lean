/- igmp.writer.tell. -/
import Derived.Test.YthkogdgfkhhleaaJEnc
namespace Go.Proofs.Ythkogdgfkhhleaa
open Go.RowKit Go.Sort
set_option maxRecDepth 20000
set_option maxRecDepth 20000
attribute [local go_sem] bstr_size bstr_extract bstr_toList bstr_get

theorem body4 (v : Value) (R : List Rec) (w : World) (h : Recs w v R) :
    Calls Try.prog 20 #[v, .int .i64 4] w (RetBody w (pbody R 4).1 (pbody R 4).2) := body_any v R 4 w h
theorem pbody_len (R : List Rec) : (pbody R 4).1.length ≤ 30000 := by
  unfold pbody
  split
  · rename_i h
    unfold bodyOk at h
    simp only [Bool.and_eq_true, decide_eq_true_eq, List.all_eq_true] at h
    exact Nat.le_trans (bodyB_len 4 (by decide) R h.2) (by have := h.1.2; omega)
  · exact Nat.zero_le _
theorem tell_3 (g : Str) (mx : Int) (q : Bool) (r ev : Int) (L : List Str) (R : List Rec) (nr : Nat) (hR : R.length = nr) (z : Bool) (S : Str)
    (hz : z = (((pbody R 4).2 != 0) || g != [] || !bareB mx q r ev L.length 0)) (hs : S = [34, 0, 0, 0, 0, 0] ++ putS (min (nr : Int) 30) 2 ++ (pbody R 4).1) :
    z = !mayM ⟨2, 3, g, mx, q, r, ev, L, R⟩ ∧ (z = false → S = bytesM ⟨2, 3, g, mx, q, r, ev, L, R⟩) := by
  have hm : mayM ⟨2, 3, g, mx, q, r, ev, L, R⟩ = (decide (g = []) && bodyOk R 4 && bare ⟨2, 3, g, mx, q, r, ev, L, []⟩) := rfl
  have hb := bareB_bare 2 3 g mx q r ev L []
  rw [List.length_nil] at hb
  have hp : ((pbody R 4).2 != 0) = !bodyOk R 4 := by unfold pbody; cases bodyOk R 4 <;> rfl
  have e4 : (g != []) = !decide (g = []) := by cases g <;> rfl
  have key : z = !mayM ⟨2, 3, g, mx, q, r, ev, L, R⟩ := by
    rw [hz, hm, hb, hp, e4]
    cases bodyOk R 4 <;> cases decide (g = []) <;> cases bare ⟨2, 3, g, mx, q, r, ev, L, []⟩ <;> rfl
  refine ⟨key, fun h => ?_⟩
  rw [key] at h
  have hmm : mayM ⟨2, 3, g, mx, q, r, ev, L, R⟩ = true := by simpa using h
  rw [hm] at hmm
  simp only [Bool.and_eq_true] at hmm
  have hok := hmm.1.2
  have h30 : R.length ≤ 30 := by unfold bodyOk at hok; simp only [Bool.and_eq_true, decide_eq_true_eq] at hok; exact hok.1.2
  have hmin : min (nr : Int) 30 = (R.length : Int) := by rw [← hR]; omega
  have ok : okPut (R.length : Int) 2 = true := by unfold okPut; rw [decide_eq_true (by omega), decide_eq_true (by omega)]; rfl
  have e : bytesM ⟨2, 3, g, mx, q, r, ev, L, R⟩ = [34, 0, 0, 0, 0, 0] ++ ofN R.length 2 ++ bodyB R := rfl
  rw [hs, hmin, e]
  unfold putS pbody
  rw [if_pos ok, if_pos hok, Int.toNat_natCast]
theorem tell_r (k v : Int) (g : Str) (mx : Int) (q : Bool) (r ev : Int) (L : List Str) (R : List Rec) (T : Str) (c z : Bool) (S : Str) (hk : ¬ k = 1) (hkv : ¬ (k = 2 ∧ v = 3))
    (hc : (c = false ∧ ((k = 2 ∧ v = 1 ∧ T = [18]) ∨ (k = 2 ∧ v = 2 ∧ T = [22]) ∨ (k = 3 ∧ v = 2 ∧ T = [23]))) ∨ (c = true ∧ ¬ (k = 2 ∧ v = 1) ∧ ¬ (k = 2 ∧ v = 2) ∧ ¬ (k = 3 ∧ v = 2)))
    (hz : z = (c || !grp g 4 || !bareB mx q r ev L.length R.length)) (hs : S = T ++ [0, 0, 0] ++ g) :
    z = !mayM ⟨k, v, g, mx, q, r, ev, L, R⟩ ∧ (z = false → S = bytesM ⟨k, v, g, mx, q, r, ev, L, R⟩) := by
  have hm : mayM ⟨k, v, g, mx, q, r, ev, L, R⟩ = (((decide (k = 2) && (decide (v = 1) || decide (v = 2))) || (decide (k = 3) && decide (v = 2))) && grp g 4 && bare ⟨k, v, g, mx, q, r, ev, L, R⟩) := by
    unfold mayM
    rw [if_neg hk, if_neg hkv]
  have hb := bareB_bare k v g mx q r ev L R
  have hcc : ((decide (k = 2) && (decide (v = 1) || decide (v = 2))) || (decide (k = 3) && decide (v = 2))) = !c := by
    rcases hc with ⟨rfl, h⟩ | ⟨rfl, h1, h2, h3⟩
    · rcases h with ⟨rfl, rfl, _⟩ | ⟨rfl, rfl, _⟩ | ⟨rfl, rfl, _⟩ <;> rfl
    · rw [Bool.not_true]
      by_cases a1 : k = 2 <;> by_cases a2 : v = 1 <;> by_cases a3 : v = 2 <;> by_cases a4 : k = 3 <;> simp_all
  have key : z = !mayM ⟨k, v, g, mx, q, r, ev, L, R⟩ := by
    rw [hz, hm, hb, hcc]
    cases c <;> cases grp g 4 <;> cases bare ⟨k, v, g, mx, q, r, ev, L, R⟩ <;> rfl
  refine ⟨key, fun h => ?_⟩
  have hc0 : c = false := by
    rw [hz] at h
    cases c
    · rfl
    · cases h
  have hg : g ≠ [] := by
    intro hg
    rw [hz, hg] at h
    cases c <;> cases h
  rcases hc with ⟨_, h9⟩ | ⟨h9, _⟩
  · rcases h9 with ⟨rfl, rfl, rfl⟩ | ⟨rfl, rfl, rfl⟩ | ⟨rfl, rfl, rfl⟩ <;> (rw [hs]; unfold bytesM grpB; simp [hg])
  · rw [hc0] at h9; cases h9

set_option maxHeartbeats 4000000 in
theorem tell_any (k v mx r ev : Int) (g : Str) (q : Bool) (so : Option Addr) (L : List Str) (sc : Nat) (ro : Option Addr) (R : List Rec) (rc : Nat) (b : Nat) (w : World) (h : Wr w b [] false)
    (hg : g.length ≤ 140737488351232) (hrs : Recs w (.slice ro R.length rc) R) (hk1 : ¬ k = 1) :
    Calls Try.prog 34 #[.pointer (some ⟨b, 0, none⟩), .agg (msgCells k v g mx q r ev so L.length sc ro R.length rc)] w (RetAsk w b ⟨k, v, g, mx, q, r, ev, L, R⟩) := by
  have l2 := run_len_any (P := Try.prog) Try.underlying25 ro R.length rc
  have b0 : (⟨#[]⟩ : ByteArray) = bstr [] := bstr_nil.symm
  have b34 : (⟨#[34, 0, 0, 0, 0, 0]⟩ : ByteArray) = bstr [34, 0, 0, 0, 0, 0] := by rw [bstr_eq]
  have b18 : (⟨#[18]⟩ : ByteArray) = bstr [18] := by rw [bstr_eq]
  have b22 : (⟨#[22]⟩ : ByteArray) = bstr [22] := by rw [bstr_eq]
  have b23 : (⟨#[23]⟩ : ByteArray) = bstr [23] := by rw [bstr_eq]
  obtain ⟨ns, hns⟩ : ∃ ns, L.length = ns := ⟨_, rfl⟩
  obtain ⟨nr, hnr⟩ : ∃ nr, R.length = nr := ⟨_, rfl⟩
  rw [hnr] at l2 hrs ⊢
  rw [hns]
  obtain ⟨mb, hmb⟩ : ∃ mb, w.heap.size = mb := ⟨_, rfl⟩
  obtain ⟨W1, hW1⟩ : ∃ W1, w.alloc (.cells (msgCells k v g mx q r ev so ns sc ro nr rc) 27) = W1 := ⟨_, rfl⟩
  have hb1 : Below w.heap.size w W1 := by rw [← hW1]; exact (Below.refl _ _).alloc (Nat.le_refl _) _
  have HA1 := Lib.hid (show AskSt w b mb (msgCells k v g mx q r ev so ns sc ro nr rc) (.slice none 0 0) [] [] false W1 from by
    have ht : Tur w W1 b := Tur.of_below hb1 (Nat.le_of_lt h.lt)
    exact ⟨h.kept hb1, ⟨by rw [← hW1]; exact CBox.new _ hmb.symm, by have := h.lt; omega⟩, ⟨Strs.nil _, fun hh => absurd rfl hh⟩, ht.1⟩)
  have HRS1 := Lib.hid (hrs.mono hb1)
  have HW1 := Lib.hid hW1; have HMB := Lib.hid hmb
  have HLN := Lib.hid hg; have HNS := Lib.hid hns; have HNR := Lib.hid hnr; have HK1 := Lib.hid hk1
  clear hW1 hmb h hrs hg hns hnr hb1 hk1
  by_cases hk2 : k = 2
  · subst hk2
    by_cases hv3 : v = 3
    · subst hv3
      go_enter Try.func34, Try.ntmps34
      go_upto_region 1 with fail
      rw [HMB.out, HW1.out]
      obtain ⟨x0, f0⟩ := HA1.out.box.at_ 0 _ rfl
      obtain ⟨x1, f1⟩ := HA1.out.box.at_ 1 _ rfl
      obtain ⟨x2, f2⟩ := HA1.out.box.at_ 2 _ rfl
      obtain ⟨x3, f3⟩ := HA1.out.box.at_ 3 _ rfl
      obtain ⟨x4, f4⟩ := HA1.out.box.at_ 4 _ rfl
      obtain ⟨x5, f5⟩ := HA1.out.box.at_ 5 _ rfl
      obtain ⟨x6, f6⟩ := HA1.out.box.at_ 6 _ rfl
      obtain ⟨x7, f7⟩ := HA1.out.box.at_ 7 _ rfl
      obtain ⟨x8, f8⟩ := HA1.out.box.at_ 8 _ rfl
      go_upto_region 5 with fail
      obtain ⟨pb, hpb⟩ : ∃ pb, W1.heap.size = pb := ⟨_, rfl⟩
      obtain ⟨W2, hW2⟩ : ∃ W2, W1.alloc (.cells (msgCells 2 3 g mx q r ev so ns sc none 0 0) 27) = W2 := ⟨_, rfl⟩
      have hb2 : Below W1.heap.size W1 W2 := by rw [← hW2]; exact (Below.refl _ _).alloc (Nat.le_refl _) _
      have X2 : CBox W2 pb 27 (msgCells 2 3 g mx q r ev so ns sc none 0 0) := by rw [← hW2, ← hpb]; exact CBox.new _ rfl
      have HA2 := Lib.hid (HA1.out.kept hb2)
      have HRS2 := Lib.hid (HRS1.out.mono hb2)
      rw [hW2, hpb]
      have HX2 := Lib.hid X2
      have HPB := Lib.hid (show pb ≠ b from by have := HA1.out.1.lt; omega)
      clear hW2 hpb hb2 X2 x0 f0 x1 f1 x2 f2 x3 f3 x4 f4 x5 f5 x6 f6 x7 f7 x8 f8 HA1 HRS1
      obtain ⟨x0, f0⟩ := HA2.out.box.at_ 0 _ rfl
      obtain ⟨x1, f1⟩ := HA2.out.box.at_ 1 _ rfl
      obtain ⟨x2, f2⟩ := HA2.out.box.at_ 2 _ rfl
      have HB := Lib.hid (body4 (.slice ro nr rc) R W2 HRS2.out)
      obtain ⟨PB, hPB⟩ : ∃ P, (pbody R 4).1 = P := ⟨_, rfl⟩
      obtain ⟨er, her⟩ : ∃ e, (pbody R 4).2 = e := ⟨_, rfl⟩
      have lPB : PB.length ≤ 30000 := by rw [← hPB]; exact pbody_len R
      rw [hPB, her] at HB
      obtain ⟨c5, hc5⟩ : ∃ c, (er != 0) = c := ⟨_, rfl⟩
      obtain ⟨t8, ht8⟩ : ∃ t, bareB mx q r ev ns 0 = t := ⟨_, rfl⟩
      have HBR := Lib.hid (fun W => bare_any 2 3 mx r ev g q so ns sc none 0 0 W)
      rw [ht8] at HBR
      obtain ⟨zA, hzA⟩ : ∃ z, (c5 || g != [] || !t8) = z := ⟨_, rfl⟩
      have HZA := Lib.hid (And.intro hzA (And.intro ht8 (And.intro her hPB)))
      have HPL := Lib.hid lPB
      clear hzA ht8 her hPB lPB
      go_upto_region 7 with ((with_reducible refine HB.out.mono ?_); rintro e w3 ⟨rfl, hb3⟩; have HA3 := Lib.hid (HA2.out.kept hb3); have HX3 := Lib.hid (HX2.out.below hb3 HX2.out.lt); clear hb3 x0 f0 x1 f1 x2 f2)
      obtain ⟨x2, f2⟩ := HA3.out.box.at_ 2 _ rfl
      obtain ⟨y2, yf2⟩ := HA3.out.flag
      obtain ⟨s0, sf0⟩ := CBox.at_ HX3.out 0 _ rfl
      obtain ⟨s1, sf1⟩ := CBox.at_ HX3.out 1 _ rfl
      obtain ⟨s2, sf2⟩ := CBox.at_ HX3.out 2 _ rfl
      obtain ⟨s3, sf3⟩ := CBox.at_ HX3.out 3 _ rfl
      obtain ⟨s4, sf4⟩ := CBox.at_ HX3.out 4 _ rfl
      obtain ⟨s5, sf5⟩ := CBox.at_ HX3.out 5 _ rfl
      obtain ⟨s6, sf6⟩ := CBox.at_ HX3.out 6 _ rfl
      obtain ⟨s7, sf7⟩ := CBox.at_ HX3.out 7 _ rfl
      obtain ⟨s8, sf8⟩ := CBox.at_ HX3.out 8 _ rfl
      have HC5 := Lib.hid hc5
      go_cut [] (fun w' => AskSt w b mb (msgCells 2 3 g mx q r ev so ns sc ro nr rc) (.slice none 0 0) [] [] zA w')
      case first =>
        cases c5
        · by_cases hg0 : g = []
          · have HZ := Lib.hid (show zA = !t8 from by rw [← HZA.out.1, hg0]; rfl)
            subst hg0
            cases t8
            · go_wp2_with ((with_reducible refine (HBR.out _).mono ?_); rintro e w4 ⟨rfl, hb4⟩; have HA4 := Lib.hid (HA3.out.kept hb4); clear hb4 y2 yf2; obtain ⟨y2, yf2⟩ := HA4.out.flag)
              go_meet
              case rel => rw [HZ.out]; exact HA4.out.mark _
            · go_wp2_with ((with_reducible refine (HBR.out _).mono ?_); rintro e w4 ⟨rfl, hb4⟩; have HA4 := Lib.hid (HA3.out.kept hb4); clear hb4 y2 yf2; obtain ⟨y2, yf2⟩ := HA4.out.flag)
              go_meet
              case rel => rw [HZ.out]; exact HA4.out.mark _
          · have e1 : (g == []) = false := beq_eq_false_iff_ne.2 hg0
            have e2 : (g != []) = true := bne_iff_ne.2 hg0
            have HZ := Lib.hid (show zA = true from by rw [← HZA.out.1, e2]; rfl)
            clear hg0
            go_wp2_with fail
            go_meet
            case rel => rw [HZ.out]; exact HA3.out.mark _
        · have HZ := Lib.hid (show zA = true from HZA.out.1.symm)
          go_wp2_with fail
          go_meet
          case rel => rw [HZ.out]; exact HA3.out.mark _
      case rest =>
        have HA5 := Lib.hid hcut
        clear hcut x2 f2 y2 yf2 hc5 s0 sf0 s1 sf1 s2 sf2 s3 sf3 s4 sf4 s5 sf5 s6 sf6 s7 sf7 s8 sf8 HB HBR
        obtain ⟨D1, hD1⟩ : ∃ D, putS (min (nr : Int) 30) 2 = D := ⟨_, rfl⟩
        have lD1 : D1.length ≤ 2 := by rw [← hD1]; exact putS_len _ _
        have HC1 := Lib.hid (fun W (h : AskSt w b mb (msgCells 2 3 g mx q r ev so ns sc ro nr rc) (.slice none 0 0) [] [] zA W) => h.write [34, 0, 0, 0, 0, 0] (by decide))
        obtain ⟨S1, hS1⟩ : ∃ S : Str, [] ++ [34, 0, 0, 0, 0, 0] = S := ⟨_, rfl⟩
        rw [hS1] at HC1
        have l1 : S1.length = 6 := by rw [← hS1]; rfl
        have HC2 := Lib.hid (fun W (h : AskSt w b mb (msgCells 2 3 g mx q r ev so ns sc ro nr rc) (.slice none 0 0) [] S1 zA W) => h.put2 (min (nr : Int) 30) (by omega))
        have ok : okPut (min (nr : Int) 30) 2 = true := by unfold okPut; rw [decide_eq_true (by omega), decide_eq_true (by omega)]; rfl
        rw [ok, Bool.not_true, Bool.or_false, hD1] at HC2
        obtain ⟨S2, hS2⟩ : ∃ S, S1 ++ D1 = S := ⟨_, rfl⟩
        rw [hS2] at HC2
        have l3 : S2.length ≤ 8 := by rw [← hS2, List.length_append]; omega
        have HC3 := Lib.hid (fun W (h : AskSt w b mb (msgCells 2 3 g mx q r ev so ns sc ro nr rc) (.slice none 0 0) [] S2 zA W) => h.write PB (by have := HPL.out; omega))
        obtain ⟨S3, hS3⟩ : ∃ S, S2 ++ PB = S := ⟨_, rfl⟩
        rw [hS3] at HC3
        have HTX := Lib.hid (show S3 = [34, 0, 0, 0, 0, 0] ++ D1 ++ PB from by rw [← hS3, ← hS2, ← hS1]; rfl)
        have HD1 := Lib.hid hD1
        clear hD1 lD1 hS1 l1 ok hS2 l3 hS3
        go_wp2_with (first | ((with_reducible refine (HC1.out _ HA5.out).mono ?_); rintro e w6 ⟨⟨_, rfl⟩, ha⟩; have HA6 := Lib.hid ha; clear ha) | ((with_reducible refine (HC2.out _ HA6.out).mono ?_); rintro e w7 ⟨⟨_, rfl⟩, ha⟩; have HA7 := Lib.hid ha; clear ha) | ((with_reducible refine (HC3.out _ HA7.out).mono ?_); rintro e w8 ⟨⟨_, rfl⟩, ha⟩; have HA8 := Lib.hid ha; clear ha))
        go_end0
        refine ⟨⟨_, rfl⟩, S3, zA, HA8.out.1, HA8.out.2.2.2, ?_⟩
        have htx := HTX.out
        have hns := HNS.out
        obtain ⟨p1, p2, p3, p4⟩ := HZA.out
        have p5 := HC5.out
        subst hns
        exact tell_3 g mx q r ev L R nr HNR.out zA S3 (by rw [← p1, ← p2, ← p5, p3]) (by rw [htx, HD1.out, p4])
    · by_cases hv1 : v = 1
      · subst hv1
        go_enter Try.func34, Try.ntmps34
        go_upto_region 1 with fail
        rw [HMB.out, HW1.out]
        obtain ⟨x0, f0⟩ := HA1.out.box.at_ 0 _ rfl
        obtain ⟨x1, f1⟩ := HA1.out.box.at_ 1 _ rfl
        obtain ⟨x2, f2⟩ := HA1.out.box.at_ 2 _ rfl
        obtain ⟨x3, f3⟩ := HA1.out.box.at_ 3 _ rfl
        obtain ⟨x4, f4⟩ := HA1.out.box.at_ 4 _ rfl
        obtain ⟨x5, f5⟩ := HA1.out.box.at_ 5 _ rfl
        obtain ⟨x6, f6⟩ := HA1.out.box.at_ 6 _ rfl
        obtain ⟨x7, f7⟩ := HA1.out.box.at_ 7 _ rfl
        obtain ⟨x8, f8⟩ := HA1.out.box.at_ 8 _ rfl
        go_upto_region 5 with fail
        obtain ⟨pb, hpb⟩ : ∃ pb, W1.heap.size = pb := ⟨_, rfl⟩
        obtain ⟨W2, hW2⟩ : ∃ W2, W1.alloc (.cells (msgCells 2 1 g mx q r ev so ns sc none 0 0) 27) = W2 := ⟨_, rfl⟩
        have hb2 : Below W1.heap.size W1 W2 := by rw [← hW2]; exact (Below.refl _ _).alloc (Nat.le_refl _) _
        have X2 : CBox W2 pb 27 (msgCells 2 1 g mx q r ev so ns sc none 0 0) := by rw [← hW2, ← hpb]; exact CBox.new _ rfl
        have HA2 := Lib.hid (HA1.out.kept hb2)
        have HRS2 := Lib.hid (HRS1.out.mono hb2)
        rw [hW2, hpb]
        have HX2 := Lib.hid X2
        have HPB := Lib.hid (show pb ≠ b from by have := HA1.out.1.lt; omega)
        clear hW2 hpb hb2 X2 x0 f0 x1 f1 x2 f2 x3 f3 x4 f4 x5 f5 x6 f6 x7 f7 x8 f8 HA1 HRS1
        obtain ⟨x0, f0⟩ := HA2.out.box.at_ 0 _ rfl
        obtain ⟨x1, f1⟩ := HA2.out.box.at_ 1 _ rfl
        obtain ⟨x2, f2⟩ := HA2.out.box.at_ 2 _ rfl
        go_upto_region 17 with ((with_reducible refine (AskSt.write HA2.out [18] (by decide)).mono ?_); rintro e w3 ⟨⟨_, rfl⟩, ha⟩; have HA3 := Lib.hid (show AskSt w b mb (msgCells 2 1 g mx q r ev so ns sc ro nr rc) (.slice none 0 0) [] [18] false w3 from ha); clear ha x0 f0 x1 f1 x2 f2)
        obtain ⟨y2, yf2⟩ := HA3.out.flag
        obtain ⟨x2, f2⟩ := HA3.out.box.at_ 2 _ rfl
        obtain ⟨t3, ht3⟩ : ∃ t, grp g 4 = t := ⟨_, rfl⟩
        have HGR := Lib.hid (fun W => isGroup4 g W (Nat.le_trans HLN.out (by decide)))
        obtain ⟨t8, ht8⟩ : ∃ t, bareB mx q r ev ns nr = t := ⟨_, rfl⟩
        have HBR := Lib.hid (fun W => bare_any 2 1 mx r ev g q so ns sc ro nr rc W)
        rw [ht3] at HGR
        rw [ht8] at HBR
        obtain ⟨zC, hzC⟩ : ∃ z, (false || !t3 || !t8) = z := ⟨_, rfl⟩
        have HZC := Lib.hid (And.intro hzC (And.intro ht3 ht8))
        clear hzC ht3 ht8
        go_cut [] (fun w' => AskSt w b mb (msgCells 2 1 g mx q r ev so ns sc ro nr rc) (.slice none 0 0) [] [18] zC w')
        case first =>
          cases t3
          · go_wp2_with ((with_reducible refine (HGR.out _).mono ?_); rintro e w4 ⟨rfl, hb4⟩; have HA4 := Lib.hid (HA3.out.kept hb4); clear hb4 y2 yf2 x2 f2; obtain ⟨y2, yf2⟩ := HA4.out.flag; obtain ⟨s0, sf0⟩ := CBox.at_ HA4.out.box 0 _ rfl; obtain ⟨s1, sf1⟩ := CBox.at_ HA4.out.box 1 _ rfl; obtain ⟨s2, sf2⟩ := CBox.at_ HA4.out.box 2 _ rfl; obtain ⟨s3, sf3⟩ := CBox.at_ HA4.out.box 3 _ rfl; obtain ⟨s4, sf4⟩ := CBox.at_ HA4.out.box 4 _ rfl; obtain ⟨s5, sf5⟩ := CBox.at_ HA4.out.box 5 _ rfl; obtain ⟨s6, sf6⟩ := CBox.at_ HA4.out.box 6 _ rfl; obtain ⟨s7, sf7⟩ := CBox.at_ HA4.out.box 7 _ rfl; obtain ⟨s8, sf8⟩ := CBox.at_ HA4.out.box 8 _ rfl)
            go_meet
            case rel => rw [← HZC.out.1]; exact HA4.out.mark _
          · go_wp2_with (first | ((with_reducible refine (HGR.out _).mono ?_); rintro e w4 ⟨rfl, hb4⟩; have HA4 := Lib.hid (HA3.out.kept hb4); clear hb4 y2 yf2 x2 f2; obtain ⟨y2, yf2⟩ := HA4.out.flag; obtain ⟨s0, sf0⟩ := CBox.at_ HA4.out.box 0 _ rfl; obtain ⟨s1, sf1⟩ := CBox.at_ HA4.out.box 1 _ rfl; obtain ⟨s2, sf2⟩ := CBox.at_ HA4.out.box 2 _ rfl; obtain ⟨s3, sf3⟩ := CBox.at_ HA4.out.box 3 _ rfl; obtain ⟨s4, sf4⟩ := CBox.at_ HA4.out.box 4 _ rfl; obtain ⟨s5, sf5⟩ := CBox.at_ HA4.out.box 5 _ rfl; obtain ⟨s6, sf6⟩ := CBox.at_ HA4.out.box 6 _ rfl; obtain ⟨s7, sf7⟩ := CBox.at_ HA4.out.box 7 _ rfl; obtain ⟨s8, sf8⟩ := CBox.at_ HA4.out.box 8 _ rfl) | ((with_reducible refine (HBR.out _).mono ?_); rintro e w5 ⟨rfl, hb5⟩; have HA5 := Lib.hid (HA4.out.kept hb5); clear hb5 y2 yf2 s0 sf0 s1 sf1 s2 sf2 s3 sf3 s4 sf4 s5 sf5 s6 sf6 s7 sf7 s8 sf8; obtain ⟨y2, yf2⟩ := HA5.out.flag))
            go_meet
            case rel => rw [← HZC.out.1]; cases t8 <;> exact HA5.out.mark _
        case rest =>
          have HA6 := Lib.hid hcut
          clear hcut y2 yf2 x2 f2
          obtain ⟨x2, f2⟩ := HA6.out.box.at_ 2 _ rfl
          have HC1 := Lib.hid (fun W (h : AskSt w b mb (msgCells 2 1 g mx q r ev so ns sc ro nr rc) (.slice none 0 0) [] [18] zC W) => h.put3 0 (by decide))
          obtain ⟨S1, hS1⟩ : ∃ S : Str, [18] ++ putS 0 3 = S := ⟨_, rfl⟩
          rw [hS1, show okPut 0 3 = true from rfl, Bool.not_true, Bool.or_false] at HC1
          have l1 : S1.length ≤ 4 := by rw [← hS1]; decide
          have HC2 := Lib.hid (fun W (h : AskSt w b mb (msgCells 2 1 g mx q r ev so ns sc ro nr rc) (.slice none 0 0) [] S1 zC W) => h.group g (Nat.le_trans HLN.out (by decide)) (by have := HLN.out; omega))
          obtain ⟨S2, hS2⟩ : ∃ S, S1 ++ g = S := ⟨_, rfl⟩
          rw [hS2] at HC2
          have HTX := Lib.hid (show S2 = [18] ++ [0, 0, 0] ++ g from by rw [← hS2, ← hS1]; rfl)
          clear hS1 l1 hS2
          go_wp2_with (first | ((with_reducible refine (HC1.out _ HA6.out).mono ?_); rintro e w7 ⟨⟨_, rfl⟩, ha⟩; have HA7 := Lib.hid ha; clear ha x2 f2; obtain ⟨x2, f2⟩ := HA7.out.box.at_ 2 _ rfl) | ((with_reducible refine (HC2.out _ HA7.out).mono ?_); rintro e w8 ⟨⟨_, rfl⟩, ha⟩; have HA8 := Lib.hid ha; clear ha))
          go_end0
          refine ⟨⟨_, rfl⟩, S2, zC, HA8.out.1, HA8.out.2.2.2, ?_⟩
          have htx := HTX.out
          obtain ⟨p1, p2, p3⟩ := HZC.out
          have hns := HNS.out
          have hnr := HNR.out
          subst hns
          subst hnr
          exact tell_r 2 1 g mx q r ev L R [18] false zC S2 HK1.out (by decide) (.inl ⟨rfl, by decide⟩) (by rw [← p1, ← p2, ← p3]) htx
      · by_cases hv2 : v = 2
        · subst hv2
          go_enter Try.func34, Try.ntmps34
          go_upto_region 1 with fail
          rw [HMB.out, HW1.out]
          obtain ⟨x0, f0⟩ := HA1.out.box.at_ 0 _ rfl
          obtain ⟨x1, f1⟩ := HA1.out.box.at_ 1 _ rfl
          obtain ⟨x2, f2⟩ := HA1.out.box.at_ 2 _ rfl
          obtain ⟨x3, f3⟩ := HA1.out.box.at_ 3 _ rfl
          obtain ⟨x4, f4⟩ := HA1.out.box.at_ 4 _ rfl
          obtain ⟨x5, f5⟩ := HA1.out.box.at_ 5 _ rfl
          obtain ⟨x6, f6⟩ := HA1.out.box.at_ 6 _ rfl
          obtain ⟨x7, f7⟩ := HA1.out.box.at_ 7 _ rfl
          obtain ⟨x8, f8⟩ := HA1.out.box.at_ 8 _ rfl
          go_upto_region 5 with fail
          obtain ⟨pb, hpb⟩ : ∃ pb, W1.heap.size = pb := ⟨_, rfl⟩
          obtain ⟨W2, hW2⟩ : ∃ W2, W1.alloc (.cells (msgCells 2 2 g mx q r ev so ns sc none 0 0) 27) = W2 := ⟨_, rfl⟩
          have hb2 : Below W1.heap.size W1 W2 := by rw [← hW2]; exact (Below.refl _ _).alloc (Nat.le_refl _) _
          have X2 : CBox W2 pb 27 (msgCells 2 2 g mx q r ev so ns sc none 0 0) := by rw [← hW2, ← hpb]; exact CBox.new _ rfl
          have HA2 := Lib.hid (HA1.out.kept hb2)
          have HRS2 := Lib.hid (HRS1.out.mono hb2)
          rw [hW2, hpb]
          have HX2 := Lib.hid X2
          have HPB := Lib.hid (show pb ≠ b from by have := HA1.out.1.lt; omega)
          clear hW2 hpb hb2 X2 x0 f0 x1 f1 x2 f2 x3 f3 x4 f4 x5 f5 x6 f6 x7 f7 x8 f8 HA1 HRS1
          obtain ⟨x0, f0⟩ := HA2.out.box.at_ 0 _ rfl
          obtain ⟨x1, f1⟩ := HA2.out.box.at_ 1 _ rfl
          obtain ⟨x2, f2⟩ := HA2.out.box.at_ 2 _ rfl
          go_upto_region 17 with ((with_reducible refine (AskSt.write HA2.out [22] (by decide)).mono ?_); rintro e w3 ⟨⟨_, rfl⟩, ha⟩; have HA3 := Lib.hid (show AskSt w b mb (msgCells 2 2 g mx q r ev so ns sc ro nr rc) (.slice none 0 0) [] [22] false w3 from ha); clear ha x0 f0 x1 f1 x2 f2)
          obtain ⟨y2, yf2⟩ := HA3.out.flag
          obtain ⟨x2, f2⟩ := HA3.out.box.at_ 2 _ rfl
          obtain ⟨t3, ht3⟩ : ∃ t, grp g 4 = t := ⟨_, rfl⟩
          have HGR := Lib.hid (fun W => isGroup4 g W (Nat.le_trans HLN.out (by decide)))
          obtain ⟨t8, ht8⟩ : ∃ t, bareB mx q r ev ns nr = t := ⟨_, rfl⟩
          have HBR := Lib.hid (fun W => bare_any 2 2 mx r ev g q so ns sc ro nr rc W)
          rw [ht3] at HGR
          rw [ht8] at HBR
          obtain ⟨zC, hzC⟩ : ∃ z, (false || !t3 || !t8) = z := ⟨_, rfl⟩
          have HZC := Lib.hid (And.intro hzC (And.intro ht3 ht8))
          clear hzC ht3 ht8
          go_cut [] (fun w' => AskSt w b mb (msgCells 2 2 g mx q r ev so ns sc ro nr rc) (.slice none 0 0) [] [22] zC w')
          case first =>
            cases t3
            · go_wp2_with ((with_reducible refine (HGR.out _).mono ?_); rintro e w4 ⟨rfl, hb4⟩; have HA4 := Lib.hid (HA3.out.kept hb4); clear hb4 y2 yf2 x2 f2; obtain ⟨y2, yf2⟩ := HA4.out.flag; obtain ⟨s0, sf0⟩ := CBox.at_ HA4.out.box 0 _ rfl; obtain ⟨s1, sf1⟩ := CBox.at_ HA4.out.box 1 _ rfl; obtain ⟨s2, sf2⟩ := CBox.at_ HA4.out.box 2 _ rfl; obtain ⟨s3, sf3⟩ := CBox.at_ HA4.out.box 3 _ rfl; obtain ⟨s4, sf4⟩ := CBox.at_ HA4.out.box 4 _ rfl; obtain ⟨s5, sf5⟩ := CBox.at_ HA4.out.box 5 _ rfl; obtain ⟨s6, sf6⟩ := CBox.at_ HA4.out.box 6 _ rfl; obtain ⟨s7, sf7⟩ := CBox.at_ HA4.out.box 7 _ rfl; obtain ⟨s8, sf8⟩ := CBox.at_ HA4.out.box 8 _ rfl)
              go_meet
              case rel => rw [← HZC.out.1]; exact HA4.out.mark _
            · go_wp2_with (first | ((with_reducible refine (HGR.out _).mono ?_); rintro e w4 ⟨rfl, hb4⟩; have HA4 := Lib.hid (HA3.out.kept hb4); clear hb4 y2 yf2 x2 f2; obtain ⟨y2, yf2⟩ := HA4.out.flag; obtain ⟨s0, sf0⟩ := CBox.at_ HA4.out.box 0 _ rfl; obtain ⟨s1, sf1⟩ := CBox.at_ HA4.out.box 1 _ rfl; obtain ⟨s2, sf2⟩ := CBox.at_ HA4.out.box 2 _ rfl; obtain ⟨s3, sf3⟩ := CBox.at_ HA4.out.box 3 _ rfl; obtain ⟨s4, sf4⟩ := CBox.at_ HA4.out.box 4 _ rfl; obtain ⟨s5, sf5⟩ := CBox.at_ HA4.out.box 5 _ rfl; obtain ⟨s6, sf6⟩ := CBox.at_ HA4.out.box 6 _ rfl; obtain ⟨s7, sf7⟩ := CBox.at_ HA4.out.box 7 _ rfl; obtain ⟨s8, sf8⟩ := CBox.at_ HA4.out.box 8 _ rfl) | ((with_reducible refine (HBR.out _).mono ?_); rintro e w5 ⟨rfl, hb5⟩; have HA5 := Lib.hid (HA4.out.kept hb5); clear hb5 y2 yf2 s0 sf0 s1 sf1 s2 sf2 s3 sf3 s4 sf4 s5 sf5 s6 sf6 s7 sf7 s8 sf8; obtain ⟨y2, yf2⟩ := HA5.out.flag))
              go_meet
              case rel => rw [← HZC.out.1]; cases t8 <;> exact HA5.out.mark _
          case rest =>
            have HA6 := Lib.hid hcut
            clear hcut y2 yf2 x2 f2
            obtain ⟨x2, f2⟩ := HA6.out.box.at_ 2 _ rfl
            have HC1 := Lib.hid (fun W (h : AskSt w b mb (msgCells 2 2 g mx q r ev so ns sc ro nr rc) (.slice none 0 0) [] [22] zC W) => h.put3 0 (by decide))
            obtain ⟨S1, hS1⟩ : ∃ S : Str, [22] ++ putS 0 3 = S := ⟨_, rfl⟩
            rw [hS1, show okPut 0 3 = true from rfl, Bool.not_true, Bool.or_false] at HC1
            have l1 : S1.length ≤ 4 := by rw [← hS1]; decide
            have HC2 := Lib.hid (fun W (h : AskSt w b mb (msgCells 2 2 g mx q r ev so ns sc ro nr rc) (.slice none 0 0) [] S1 zC W) => h.group g (Nat.le_trans HLN.out (by decide)) (by have := HLN.out; omega))
            obtain ⟨S2, hS2⟩ : ∃ S, S1 ++ g = S := ⟨_, rfl⟩
            rw [hS2] at HC2
            have HTX := Lib.hid (show S2 = [22] ++ [0, 0, 0] ++ g from by rw [← hS2, ← hS1]; rfl)
            clear hS1 l1 hS2
            go_wp2_with (first | ((with_reducible refine (HC1.out _ HA6.out).mono ?_); rintro e w7 ⟨⟨_, rfl⟩, ha⟩; have HA7 := Lib.hid ha; clear ha x2 f2; obtain ⟨x2, f2⟩ := HA7.out.box.at_ 2 _ rfl) | ((with_reducible refine (HC2.out _ HA7.out).mono ?_); rintro e w8 ⟨⟨_, rfl⟩, ha⟩; have HA8 := Lib.hid ha; clear ha))
            go_end0
            refine ⟨⟨_, rfl⟩, S2, zC, HA8.out.1, HA8.out.2.2.2, ?_⟩
            have htx := HTX.out
            obtain ⟨p1, p2, p3⟩ := HZC.out
            have hns := HNS.out
            have hnr := HNR.out
            subst hns
            subst hnr
            exact tell_r 2 2 g mx q r ev L R [22] false zC S2 HK1.out (by decide) (.inl ⟨rfl, by decide⟩) (by rw [← p1, ← p2, ← p3]) htx
        · have d1 : (v == 1) = false := beq_eq_false_iff_ne.2 hv1
          have d2 : (v == 2) = false := beq_eq_false_iff_ne.2 hv2
          have d3 : (v == 3) = false := beq_eq_false_iff_ne.2 hv3
          have HV3 := Lib.hid hv3
          have HDV := Lib.hid (And.intro hv1 hv2)
          clear hv1 hv2 hv3
          go_enter Try.func34, Try.ntmps34
          go_upto_region 1 with fail
          rw [HMB.out, HW1.out]
          obtain ⟨x0, f0⟩ := HA1.out.box.at_ 0 _ rfl
          obtain ⟨x1, f1⟩ := HA1.out.box.at_ 1 _ rfl
          obtain ⟨x2, f2⟩ := HA1.out.box.at_ 2 _ rfl
          obtain ⟨x3, f3⟩ := HA1.out.box.at_ 3 _ rfl
          obtain ⟨x4, f4⟩ := HA1.out.box.at_ 4 _ rfl
          obtain ⟨x5, f5⟩ := HA1.out.box.at_ 5 _ rfl
          obtain ⟨x6, f6⟩ := HA1.out.box.at_ 6 _ rfl
          obtain ⟨x7, f7⟩ := HA1.out.box.at_ 7 _ rfl
          obtain ⟨x8, f8⟩ := HA1.out.box.at_ 8 _ rfl
          go_upto_region 5 with fail
          obtain ⟨pb, hpb⟩ : ∃ pb, W1.heap.size = pb := ⟨_, rfl⟩
          obtain ⟨W2, hW2⟩ : ∃ W2, W1.alloc (.cells (msgCells 2 v g mx q r ev so ns sc none 0 0) 27) = W2 := ⟨_, rfl⟩
          have hb2 : Below W1.heap.size W1 W2 := by rw [← hW2]; exact (Below.refl _ _).alloc (Nat.le_refl _) _
          have X2 : CBox W2 pb 27 (msgCells 2 v g mx q r ev so ns sc none 0 0) := by rw [← hW2, ← hpb]; exact CBox.new _ rfl
          have HA2 := Lib.hid (HA1.out.kept hb2)
          have HRS2 := Lib.hid (HRS1.out.mono hb2)
          rw [hW2, hpb]
          have HX2 := Lib.hid X2
          have HPB := Lib.hid (show pb ≠ b from by have := HA1.out.1.lt; omega)
          clear hW2 hpb hb2 X2 x0 f0 x1 f1 x2 f2 x3 f3 x4 f4 x5 f5 x6 f6 x7 f7 x8 f8 HA1 HRS1
          obtain ⟨x0, f0⟩ := HA2.out.box.at_ 0 _ rfl
          obtain ⟨x1, f1⟩ := HA2.out.box.at_ 1 _ rfl
          obtain ⟨x2, f2⟩ := HA2.out.box.at_ 2 _ rfl
          obtain ⟨y2, yf2⟩ := HA2.out.flag
          go_upto_region 17 with fail
          obtain ⟨W3, hW3⟩ : ∃ W3, W2.setCell ⟨b, 2, none⟩ (.bool true) = W3 := ⟨_, rfl⟩
          have HA3 := Lib.hid (show AskSt w b mb (msgCells 2 v g mx q r ev so ns sc ro nr rc) (.slice none 0 0) [] [] true W3 from by rw [← hW3]; exact HA2.out.mark _)
          rw [hW3]
          clear hW3 y2 yf2 x0 f0 x1 f1 x2 f2
          obtain ⟨y2, yf2⟩ := HA3.out.flag
          obtain ⟨x2, f2⟩ := HA3.out.box.at_ 2 _ rfl
          obtain ⟨t3, ht3⟩ : ∃ t, grp g 4 = t := ⟨_, rfl⟩
          have HGR := Lib.hid (fun W => isGroup4 g W (Nat.le_trans HLN.out (by decide)))
          obtain ⟨t8, ht8⟩ : ∃ t, bareB mx q r ev ns nr = t := ⟨_, rfl⟩
          have HBR := Lib.hid (fun W => bare_any 2 v mx r ev g q so ns sc ro nr rc W)
          rw [ht3] at HGR
          rw [ht8] at HBR
          obtain ⟨zC, hzC⟩ : ∃ z, (true || !t3 || !t8) = z := ⟨_, rfl⟩
          have HZC := Lib.hid (And.intro hzC (And.intro ht3 ht8))
          clear hzC ht3 ht8
          go_cut [] (fun w' => AskSt w b mb (msgCells 2 v g mx q r ev so ns sc ro nr rc) (.slice none 0 0) [] [] zC w')
          case first =>
            go_wp2_with fail
            go_meet
            case rel => rw [← HZC.out.1]; exact HA3.out.mark _
          case rest =>
            have HA6 := Lib.hid hcut
            clear hcut y2 yf2 x2 f2
            obtain ⟨x2, f2⟩ := HA6.out.box.at_ 2 _ rfl
            have HC1 := Lib.hid (fun W (h : AskSt w b mb (msgCells 2 v g mx q r ev so ns sc ro nr rc) (.slice none 0 0) [] [] zC W) => h.put3 0 (by decide))
            obtain ⟨S1, hS1⟩ : ∃ S : Str, [] ++ putS 0 3 = S := ⟨_, rfl⟩
            rw [hS1, show okPut 0 3 = true from rfl, Bool.not_true, Bool.or_false] at HC1
            have l1 : S1.length ≤ 4 := by rw [← hS1]; decide
            have HC2 := Lib.hid (fun W (h : AskSt w b mb (msgCells 2 v g mx q r ev so ns sc ro nr rc) (.slice none 0 0) [] S1 zC W) => h.group g (Nat.le_trans HLN.out (by decide)) (by have := HLN.out; omega))
            obtain ⟨S2, hS2⟩ : ∃ S, S1 ++ g = S := ⟨_, rfl⟩
            rw [hS2] at HC2
            have HTX := Lib.hid (show S2 = [] ++ [0, 0, 0] ++ g from by rw [← hS2, ← hS1]; rfl)
            clear hS1 l1 hS2
            go_wp2_with (first | ((with_reducible refine (HC1.out _ HA6.out).mono ?_); rintro e w7 ⟨⟨_, rfl⟩, ha⟩; have HA7 := Lib.hid ha; clear ha x2 f2; obtain ⟨x2, f2⟩ := HA7.out.box.at_ 2 _ rfl) | ((with_reducible refine (HC2.out _ HA7.out).mono ?_); rintro e w8 ⟨⟨_, rfl⟩, ha⟩; have HA8 := Lib.hid ha; clear ha))
            go_end0
            refine ⟨⟨_, rfl⟩, S2, zC, HA8.out.1, HA8.out.2.2.2, ?_⟩
            have htx := HTX.out
            obtain ⟨p1, p2, p3⟩ := HZC.out
            have hns := HNS.out
            have hnr := HNR.out
            subst hns
            subst hnr
            exact tell_r 2 v g mx q r ev L R [] true zC S2 HK1.out (fun h => HV3.out h.2) (.inr ⟨rfl, fun h => HDV.out.1 h.2, fun h => HDV.out.2 h.2, fun h => absurd h.1 (by decide)⟩) (by rw [← p1, ← p2, ← p3]) htx
  · have e2 : (k == 2) = false := beq_eq_false_iff_ne.2 hk2
    by_cases hk3 : k = 3
    · subst hk3
      clear e2
      by_cases hv2 : v = 2
      · subst hv2
        go_enter Try.func34, Try.ntmps34
        go_upto_region 1 with fail
        rw [HMB.out, HW1.out]
        obtain ⟨x0, f0⟩ := HA1.out.box.at_ 0 _ rfl
        obtain ⟨x1, f1⟩ := HA1.out.box.at_ 1 _ rfl
        obtain ⟨x2, f2⟩ := HA1.out.box.at_ 2 _ rfl
        obtain ⟨x3, f3⟩ := HA1.out.box.at_ 3 _ rfl
        obtain ⟨x4, f4⟩ := HA1.out.box.at_ 4 _ rfl
        obtain ⟨x5, f5⟩ := HA1.out.box.at_ 5 _ rfl
        obtain ⟨x6, f6⟩ := HA1.out.box.at_ 6 _ rfl
        obtain ⟨x7, f7⟩ := HA1.out.box.at_ 7 _ rfl
        obtain ⟨x8, f8⟩ := HA1.out.box.at_ 8 _ rfl
        go_upto_region 5 with fail
        obtain ⟨pb, hpb⟩ : ∃ pb, W1.heap.size = pb := ⟨_, rfl⟩
        obtain ⟨W2, hW2⟩ : ∃ W2, W1.alloc (.cells (msgCells 3 2 g mx q r ev so ns sc none 0 0) 27) = W2 := ⟨_, rfl⟩
        have hb2 : Below W1.heap.size W1 W2 := by rw [← hW2]; exact (Below.refl _ _).alloc (Nat.le_refl _) _
        have X2 : CBox W2 pb 27 (msgCells 3 2 g mx q r ev so ns sc none 0 0) := by rw [← hW2, ← hpb]; exact CBox.new _ rfl
        have HA2 := Lib.hid (HA1.out.kept hb2)
        have HRS2 := Lib.hid (HRS1.out.mono hb2)
        rw [hW2, hpb]
        have HX2 := Lib.hid X2
        have HPB := Lib.hid (show pb ≠ b from by have := HA1.out.1.lt; omega)
        clear hW2 hpb hb2 X2 x0 f0 x1 f1 x2 f2 x3 f3 x4 f4 x5 f5 x6 f6 x7 f7 x8 f8 HA1 HRS1
        obtain ⟨x0, f0⟩ := HA2.out.box.at_ 0 _ rfl
        obtain ⟨x1, f1⟩ := HA2.out.box.at_ 1 _ rfl
        obtain ⟨x2, f2⟩ := HA2.out.box.at_ 2 _ rfl
        go_upto_region 17 with ((with_reducible refine (AskSt.write HA2.out [23] (by decide)).mono ?_); rintro e w3 ⟨⟨_, rfl⟩, ha⟩; have HA3 := Lib.hid (show AskSt w b mb (msgCells 3 2 g mx q r ev so ns sc ro nr rc) (.slice none 0 0) [] [23] false w3 from ha); clear ha x0 f0 x1 f1 x2 f2)
        obtain ⟨y2, yf2⟩ := HA3.out.flag
        obtain ⟨x2, f2⟩ := HA3.out.box.at_ 2 _ rfl
        obtain ⟨t3, ht3⟩ : ∃ t, grp g 4 = t := ⟨_, rfl⟩
        have HGR := Lib.hid (fun W => isGroup4 g W (Nat.le_trans HLN.out (by decide)))
        obtain ⟨t8, ht8⟩ : ∃ t, bareB mx q r ev ns nr = t := ⟨_, rfl⟩
        have HBR := Lib.hid (fun W => bare_any 3 2 mx r ev g q so ns sc ro nr rc W)
        rw [ht3] at HGR
        rw [ht8] at HBR
        obtain ⟨zC, hzC⟩ : ∃ z, (false || !t3 || !t8) = z := ⟨_, rfl⟩
        have HZC := Lib.hid (And.intro hzC (And.intro ht3 ht8))
        clear hzC ht3 ht8
        go_cut [] (fun w' => AskSt w b mb (msgCells 3 2 g mx q r ev so ns sc ro nr rc) (.slice none 0 0) [] [23] zC w')
        case first =>
          cases t3
          · go_wp2_with ((with_reducible refine (HGR.out _).mono ?_); rintro e w4 ⟨rfl, hb4⟩; have HA4 := Lib.hid (HA3.out.kept hb4); clear hb4 y2 yf2 x2 f2; obtain ⟨y2, yf2⟩ := HA4.out.flag; obtain ⟨s0, sf0⟩ := CBox.at_ HA4.out.box 0 _ rfl; obtain ⟨s1, sf1⟩ := CBox.at_ HA4.out.box 1 _ rfl; obtain ⟨s2, sf2⟩ := CBox.at_ HA4.out.box 2 _ rfl; obtain ⟨s3, sf3⟩ := CBox.at_ HA4.out.box 3 _ rfl; obtain ⟨s4, sf4⟩ := CBox.at_ HA4.out.box 4 _ rfl; obtain ⟨s5, sf5⟩ := CBox.at_ HA4.out.box 5 _ rfl; obtain ⟨s6, sf6⟩ := CBox.at_ HA4.out.box 6 _ rfl; obtain ⟨s7, sf7⟩ := CBox.at_ HA4.out.box 7 _ rfl; obtain ⟨s8, sf8⟩ := CBox.at_ HA4.out.box 8 _ rfl)
            go_meet
            case rel => rw [← HZC.out.1]; exact HA4.out.mark _
          · go_wp2_with (first | ((with_reducible refine (HGR.out _).mono ?_); rintro e w4 ⟨rfl, hb4⟩; have HA4 := Lib.hid (HA3.out.kept hb4); clear hb4 y2 yf2 x2 f2; obtain ⟨y2, yf2⟩ := HA4.out.flag; obtain ⟨s0, sf0⟩ := CBox.at_ HA4.out.box 0 _ rfl; obtain ⟨s1, sf1⟩ := CBox.at_ HA4.out.box 1 _ rfl; obtain ⟨s2, sf2⟩ := CBox.at_ HA4.out.box 2 _ rfl; obtain ⟨s3, sf3⟩ := CBox.at_ HA4.out.box 3 _ rfl; obtain ⟨s4, sf4⟩ := CBox.at_ HA4.out.box 4 _ rfl; obtain ⟨s5, sf5⟩ := CBox.at_ HA4.out.box 5 _ rfl; obtain ⟨s6, sf6⟩ := CBox.at_ HA4.out.box 6 _ rfl; obtain ⟨s7, sf7⟩ := CBox.at_ HA4.out.box 7 _ rfl; obtain ⟨s8, sf8⟩ := CBox.at_ HA4.out.box 8 _ rfl) | ((with_reducible refine (HBR.out _).mono ?_); rintro e w5 ⟨rfl, hb5⟩; have HA5 := Lib.hid (HA4.out.kept hb5); clear hb5 y2 yf2 s0 sf0 s1 sf1 s2 sf2 s3 sf3 s4 sf4 s5 sf5 s6 sf6 s7 sf7 s8 sf8; obtain ⟨y2, yf2⟩ := HA5.out.flag))
            go_meet
            case rel => rw [← HZC.out.1]; cases t8 <;> exact HA5.out.mark _
        case rest =>
          have HA6 := Lib.hid hcut
          clear hcut y2 yf2 x2 f2
          obtain ⟨x2, f2⟩ := HA6.out.box.at_ 2 _ rfl
          have HC1 := Lib.hid (fun W (h : AskSt w b mb (msgCells 3 2 g mx q r ev so ns sc ro nr rc) (.slice none 0 0) [] [23] zC W) => h.put3 0 (by decide))
          obtain ⟨S1, hS1⟩ : ∃ S : Str, [23] ++ putS 0 3 = S := ⟨_, rfl⟩
          rw [hS1, show okPut 0 3 = true from rfl, Bool.not_true, Bool.or_false] at HC1
          have l1 : S1.length ≤ 4 := by rw [← hS1]; decide
          have HC2 := Lib.hid (fun W (h : AskSt w b mb (msgCells 3 2 g mx q r ev so ns sc ro nr rc) (.slice none 0 0) [] S1 zC W) => h.group g (Nat.le_trans HLN.out (by decide)) (by have := HLN.out; omega))
          obtain ⟨S2, hS2⟩ : ∃ S, S1 ++ g = S := ⟨_, rfl⟩
          rw [hS2] at HC2
          have HTX := Lib.hid (show S2 = [23] ++ [0, 0, 0] ++ g from by rw [← hS2, ← hS1]; rfl)
          clear hS1 l1 hS2
          go_wp2_with (first | ((with_reducible refine (HC1.out _ HA6.out).mono ?_); rintro e w7 ⟨⟨_, rfl⟩, ha⟩; have HA7 := Lib.hid ha; clear ha x2 f2; obtain ⟨x2, f2⟩ := HA7.out.box.at_ 2 _ rfl) | ((with_reducible refine (HC2.out _ HA7.out).mono ?_); rintro e w8 ⟨⟨_, rfl⟩, ha⟩; have HA8 := Lib.hid ha; clear ha))
          go_end0
          refine ⟨⟨_, rfl⟩, S2, zC, HA8.out.1, HA8.out.2.2.2, ?_⟩
          have htx := HTX.out
          obtain ⟨p1, p2, p3⟩ := HZC.out
          have hns := HNS.out
          have hnr := HNR.out
          subst hns
          subst hnr
          exact tell_r 3 2 g mx q r ev L R [23] false zC S2 HK1.out (by decide) (.inl ⟨rfl, by decide⟩) (by rw [← p1, ← p2, ← p3]) htx
      · have d2 : (v == 2) = false := beq_eq_false_iff_ne.2 hv2
        have HKV := Lib.hid (show ¬ ((3 : Int) = 2 ∧ v = 3) from fun h => absurd h.1 (by decide))
        have HDV := Lib.hid hv2
        clear hv2 hk2
        go_enter Try.func34, Try.ntmps34
        go_upto_region 1 with fail
        rw [HMB.out, HW1.out]
        obtain ⟨x0, f0⟩ := HA1.out.box.at_ 0 _ rfl
        obtain ⟨x1, f1⟩ := HA1.out.box.at_ 1 _ rfl
        obtain ⟨x2, f2⟩ := HA1.out.box.at_ 2 _ rfl
        obtain ⟨x3, f3⟩ := HA1.out.box.at_ 3 _ rfl
        obtain ⟨x4, f4⟩ := HA1.out.box.at_ 4 _ rfl
        obtain ⟨x5, f5⟩ := HA1.out.box.at_ 5 _ rfl
        obtain ⟨x6, f6⟩ := HA1.out.box.at_ 6 _ rfl
        obtain ⟨x7, f7⟩ := HA1.out.box.at_ 7 _ rfl
        obtain ⟨x8, f8⟩ := HA1.out.box.at_ 8 _ rfl
        go_upto_region 5 with fail
        obtain ⟨pb, hpb⟩ : ∃ pb, W1.heap.size = pb := ⟨_, rfl⟩
        obtain ⟨W2, hW2⟩ : ∃ W2, W1.alloc (.cells (msgCells 3 v g mx q r ev so ns sc none 0 0) 27) = W2 := ⟨_, rfl⟩
        have hb2 : Below W1.heap.size W1 W2 := by rw [← hW2]; exact (Below.refl _ _).alloc (Nat.le_refl _) _
        have X2 : CBox W2 pb 27 (msgCells 3 v g mx q r ev so ns sc none 0 0) := by rw [← hW2, ← hpb]; exact CBox.new _ rfl
        have HA2 := Lib.hid (HA1.out.kept hb2)
        have HRS2 := Lib.hid (HRS1.out.mono hb2)
        rw [hW2, hpb]
        have HX2 := Lib.hid X2
        have HPB := Lib.hid (show pb ≠ b from by have := HA1.out.1.lt; omega)
        clear hW2 hpb hb2 X2 x0 f0 x1 f1 x2 f2 x3 f3 x4 f4 x5 f5 x6 f6 x7 f7 x8 f8 HA1 HRS1
        obtain ⟨x0, f0⟩ := HA2.out.box.at_ 0 _ rfl
        obtain ⟨x1, f1⟩ := HA2.out.box.at_ 1 _ rfl
        obtain ⟨x2, f2⟩ := HA2.out.box.at_ 2 _ rfl
        obtain ⟨y2, yf2⟩ := HA2.out.flag
        go_upto_region 17 with fail
        obtain ⟨W3, hW3⟩ : ∃ W3, W2.setCell ⟨b, 2, none⟩ (.bool true) = W3 := ⟨_, rfl⟩
        have HA3 := Lib.hid (show AskSt w b mb (msgCells 3 v g mx q r ev so ns sc ro nr rc) (.slice none 0 0) [] [] true W3 from by rw [← hW3]; exact HA2.out.mark _)
        rw [hW3]
        clear hW3 y2 yf2 x0 f0 x1 f1 x2 f2
        obtain ⟨y2, yf2⟩ := HA3.out.flag
        obtain ⟨x2, f2⟩ := HA3.out.box.at_ 2 _ rfl
        obtain ⟨t3, ht3⟩ : ∃ t, grp g 4 = t := ⟨_, rfl⟩
        have HGR := Lib.hid (fun W => isGroup4 g W (Nat.le_trans HLN.out (by decide)))
        obtain ⟨t8, ht8⟩ : ∃ t, bareB mx q r ev ns nr = t := ⟨_, rfl⟩
        have HBR := Lib.hid (fun W => bare_any 3 v mx r ev g q so ns sc ro nr rc W)
        rw [ht3] at HGR
        rw [ht8] at HBR
        obtain ⟨zC, hzC⟩ : ∃ z, (true || !t3 || !t8) = z := ⟨_, rfl⟩
        have HZC := Lib.hid (And.intro hzC (And.intro ht3 ht8))
        clear hzC ht3 ht8
        go_cut [] (fun w' => AskSt w b mb (msgCells 3 v g mx q r ev so ns sc ro nr rc) (.slice none 0 0) [] [] zC w')
        case first =>
          go_wp2_with fail
          go_meet
          case rel => rw [← HZC.out.1]; exact HA3.out.mark _
        case rest =>
          have HA6 := Lib.hid hcut
          clear hcut y2 yf2 x2 f2
          obtain ⟨x2, f2⟩ := HA6.out.box.at_ 2 _ rfl
          have HC1 := Lib.hid (fun W (h : AskSt w b mb (msgCells 3 v g mx q r ev so ns sc ro nr rc) (.slice none 0 0) [] [] zC W) => h.put3 0 (by decide))
          obtain ⟨S1, hS1⟩ : ∃ S : Str, [] ++ putS 0 3 = S := ⟨_, rfl⟩
          rw [hS1, show okPut 0 3 = true from rfl, Bool.not_true, Bool.or_false] at HC1
          have l1 : S1.length ≤ 4 := by rw [← hS1]; decide
          have HC2 := Lib.hid (fun W (h : AskSt w b mb (msgCells 3 v g mx q r ev so ns sc ro nr rc) (.slice none 0 0) [] S1 zC W) => h.group g (Nat.le_trans HLN.out (by decide)) (by have := HLN.out; omega))
          obtain ⟨S2, hS2⟩ : ∃ S, S1 ++ g = S := ⟨_, rfl⟩
          rw [hS2] at HC2
          have HTX := Lib.hid (show S2 = [] ++ [0, 0, 0] ++ g from by rw [← hS2, ← hS1]; rfl)
          clear hS1 l1 hS2
          go_wp2_with (first | ((with_reducible refine (HC1.out _ HA6.out).mono ?_); rintro e w7 ⟨⟨_, rfl⟩, ha⟩; have HA7 := Lib.hid ha; clear ha x2 f2; obtain ⟨x2, f2⟩ := HA7.out.box.at_ 2 _ rfl) | ((with_reducible refine (HC2.out _ HA7.out).mono ?_); rintro e w8 ⟨⟨_, rfl⟩, ha⟩; have HA8 := Lib.hid ha; clear ha))
          go_end0
          refine ⟨⟨_, rfl⟩, S2, zC, HA8.out.1, HA8.out.2.2.2, ?_⟩
          have htx := HTX.out
          obtain ⟨p1, p2, p3⟩ := HZC.out
          have hns := HNS.out
          have hnr := HNR.out
          subst hns
          subst hnr
          exact tell_r 3 v g mx q r ev L R [] true zC S2 HK1.out (HKV.out) (.inr ⟨rfl, fun h => absurd h.1 (by decide), fun h => absurd h.1 (by decide), fun h => HDV.out h.2⟩) (by rw [← p1, ← p2, ← p3]) htx
    · have e3 : (k == 3) = false := beq_eq_false_iff_ne.2 hk3
      have HKV := Lib.hid (show ¬ (k = 2 ∧ v = 3) from fun h => hk2 h.1)
      have HDV := Lib.hid (And.intro hk2 hk3)
      clear hk2 hk3
      go_enter Try.func34, Try.ntmps34
      go_upto_region 1 with fail
      rw [HMB.out, HW1.out]
      obtain ⟨x0, f0⟩ := HA1.out.box.at_ 0 _ rfl
      obtain ⟨x1, f1⟩ := HA1.out.box.at_ 1 _ rfl
      obtain ⟨x2, f2⟩ := HA1.out.box.at_ 2 _ rfl
      obtain ⟨x3, f3⟩ := HA1.out.box.at_ 3 _ rfl
      obtain ⟨x4, f4⟩ := HA1.out.box.at_ 4 _ rfl
      obtain ⟨x5, f5⟩ := HA1.out.box.at_ 5 _ rfl
      obtain ⟨x6, f6⟩ := HA1.out.box.at_ 6 _ rfl
      obtain ⟨x7, f7⟩ := HA1.out.box.at_ 7 _ rfl
      obtain ⟨x8, f8⟩ := HA1.out.box.at_ 8 _ rfl
      go_upto_region 5 with fail
      obtain ⟨pb, hpb⟩ : ∃ pb, W1.heap.size = pb := ⟨_, rfl⟩
      obtain ⟨W2, hW2⟩ : ∃ W2, W1.alloc (.cells (msgCells k v g mx q r ev so ns sc none 0 0) 27) = W2 := ⟨_, rfl⟩
      have hb2 : Below W1.heap.size W1 W2 := by rw [← hW2]; exact (Below.refl _ _).alloc (Nat.le_refl _) _
      have X2 : CBox W2 pb 27 (msgCells k v g mx q r ev so ns sc none 0 0) := by rw [← hW2, ← hpb]; exact CBox.new _ rfl
      have HA2 := Lib.hid (HA1.out.kept hb2)
      have HRS2 := Lib.hid (HRS1.out.mono hb2)
      rw [hW2, hpb]
      have HX2 := Lib.hid X2
      have HPB := Lib.hid (show pb ≠ b from by have := HA1.out.1.lt; omega)
      clear hW2 hpb hb2 X2 x0 f0 x1 f1 x2 f2 x3 f3 x4 f4 x5 f5 x6 f6 x7 f7 x8 f8 HA1 HRS1
      obtain ⟨x0, f0⟩ := HA2.out.box.at_ 0 _ rfl
      obtain ⟨x1, f1⟩ := HA2.out.box.at_ 1 _ rfl
      obtain ⟨x2, f2⟩ := HA2.out.box.at_ 2 _ rfl
      obtain ⟨y2, yf2⟩ := HA2.out.flag
      go_upto_region 17 with fail
      obtain ⟨W3, hW3⟩ : ∃ W3, W2.setCell ⟨b, 2, none⟩ (.bool true) = W3 := ⟨_, rfl⟩
      have HA3 := Lib.hid (show AskSt w b mb (msgCells k v g mx q r ev so ns sc ro nr rc) (.slice none 0 0) [] [] true W3 from by rw [← hW3]; exact HA2.out.mark _)
      rw [hW3]
      clear hW3 y2 yf2 x0 f0 x1 f1 x2 f2
      obtain ⟨y2, yf2⟩ := HA3.out.flag
      obtain ⟨x2, f2⟩ := HA3.out.box.at_ 2 _ rfl
      obtain ⟨t3, ht3⟩ : ∃ t, grp g 4 = t := ⟨_, rfl⟩
      have HGR := Lib.hid (fun W => isGroup4 g W (Nat.le_trans HLN.out (by decide)))
      obtain ⟨t8, ht8⟩ : ∃ t, bareB mx q r ev ns nr = t := ⟨_, rfl⟩
      have HBR := Lib.hid (fun W => bare_any k v mx r ev g q so ns sc ro nr rc W)
      rw [ht3] at HGR
      rw [ht8] at HBR
      obtain ⟨zC, hzC⟩ : ∃ z, (true || !t3 || !t8) = z := ⟨_, rfl⟩
      have HZC := Lib.hid (And.intro hzC (And.intro ht3 ht8))
      clear hzC ht3 ht8
      go_cut [] (fun w' => AskSt w b mb (msgCells k v g mx q r ev so ns sc ro nr rc) (.slice none 0 0) [] [] zC w')
      case first =>
        go_wp2_with fail
        go_meet
        case rel => rw [← HZC.out.1]; exact HA3.out.mark _
      case rest =>
        have HA6 := Lib.hid hcut
        clear hcut y2 yf2 x2 f2
        obtain ⟨x2, f2⟩ := HA6.out.box.at_ 2 _ rfl
        have HC1 := Lib.hid (fun W (h : AskSt w b mb (msgCells k v g mx q r ev so ns sc ro nr rc) (.slice none 0 0) [] [] zC W) => h.put3 0 (by decide))
        obtain ⟨S1, hS1⟩ : ∃ S : Str, [] ++ putS 0 3 = S := ⟨_, rfl⟩
        rw [hS1, show okPut 0 3 = true from rfl, Bool.not_true, Bool.or_false] at HC1
        have l1 : S1.length ≤ 4 := by rw [← hS1]; decide
        have HC2 := Lib.hid (fun W (h : AskSt w b mb (msgCells k v g mx q r ev so ns sc ro nr rc) (.slice none 0 0) [] S1 zC W) => h.group g (Nat.le_trans HLN.out (by decide)) (by have := HLN.out; omega))
        obtain ⟨S2, hS2⟩ : ∃ S, S1 ++ g = S := ⟨_, rfl⟩
        rw [hS2] at HC2
        have HTX := Lib.hid (show S2 = [] ++ [0, 0, 0] ++ g from by rw [← hS2, ← hS1]; rfl)
        clear hS1 l1 hS2
        go_wp2_with (first | ((with_reducible refine (HC1.out _ HA6.out).mono ?_); rintro e w7 ⟨⟨_, rfl⟩, ha⟩; have HA7 := Lib.hid ha; clear ha x2 f2; obtain ⟨x2, f2⟩ := HA7.out.box.at_ 2 _ rfl) | ((with_reducible refine (HC2.out _ HA7.out).mono ?_); rintro e w8 ⟨⟨_, rfl⟩, ha⟩; have HA8 := Lib.hid ha; clear ha))
        go_end0
        refine ⟨⟨_, rfl⟩, S2, zC, HA8.out.1, HA8.out.2.2.2, ?_⟩
        have htx := HTX.out
        obtain ⟨p1, p2, p3⟩ := HZC.out
        have hns := HNS.out
        have hnr := HNR.out
        subst hns
        subst hnr
        exact tell_r k v g mx q r ev L R [] true zC S2 HK1.out (HKV.out) (.inr ⟨rfl, fun h => HDV.out.1 h.1, fun h => HDV.out.1 h.1, fun h => HDV.out.2 h.1⟩) (by rw [← p1, ← p2, ← p3]) htx
end Go.Proofs.Ythkogdgfkhhleaa
