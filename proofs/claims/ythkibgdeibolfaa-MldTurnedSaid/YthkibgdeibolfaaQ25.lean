/- Texts joined into one file: MAsk5, MTell. -/
import Derived.Test.YthkibgdeibolfaaQ22
import Derived.Test.YthkibgdeibolfaaQ23
import Derived.Test.YthkibgdeibolfaaQ24
import Derived.Test.YthkibgdeibolfaaQ21
import Derived.Test.YthkibgdeibolfaaQ10

/- (*mld.writer).ask. -/
namespace Go.Proofs.Ythkibgdeibolfaa
open Go.RowKit Go.Sort
set_option maxRecDepth 20000
set_option maxRecDepth 20000
attribute [local go_sem] bstr_size bstr_extract bstr_toList bstr_get


theorem mask_any (v mx r ev : Int) (g : Str) (q : Bool) (so : Option Addr) (L : List Str) (sc : Nat) (ro : Option Addr) (R : List Rec) (rc : Nat) (b : Nat) (w : World) (hw : MW w b [] false)
    (hs : Strs w (.slice so L.length sc) L) (hne : L ≠ [] → (Value.slice so L.length sc).ownBlock ≠ some b) (hg : g.length ≤ 140737488351232) (hL : L.length ≤ 100) (hLx : ∀ x ∈ L, x.length ≤ 140737488351232) (hmx : mx < 2 ^ 63) (hev : ev < 2 ^ 63) :
    Calls Try.prog 29 #[.pointer (some ⟨b, 0, none⟩), .agg (msgCells 1 v g mx q r ev so L.length sc ro R.length rc)] w (RetAsk9 w b ⟨1, v, g, mx, q, r, ev, L, R⟩) := by
  by_cases hv : v = 1
  · exact mask_one v mx r ev g q so L sc ro R rc b w hw hs hne hg hL hLx hv hmx hev
  · by_cases h1 : v = 2
    · by_cases h2 : 0 ≤ r
      · by_cases h3 : r ≤ 7
        · by_cases h4 : L.length ≤ 60
          · exact mask_ok v mx r ev g q so L sc ro R rc b w hw hs hne hg hL hLx hv (by unfold askC2; rw [decide_eq_true h1, decide_eq_true h2, decide_eq_true h3, decide_eq_true h4]; rfl) hmx hev
          · exact mask_b4 v mx r ev g q so L sc ro R rc b w hw hs hne hg hL hLx hv ⟨h1, h2, h3, h4⟩ hmx hev
        · exact mask_b3 v mx r ev g q so L sc ro R rc b w hw hs hne hg hL hLx hv ⟨h1, h2, h3, trivial⟩ hmx hev
      · exact mask_b2 v mx r ev g q so L sc ro R rc b w hw hs hne hg hL hLx hv ⟨h1, h2, trivial, trivial⟩ hmx hev
    · exact mask_b1 v mx r ev g q so L sc ro R rc b w hw hs hne hg hL hLx hv ⟨h1, trivial, trivial, trivial⟩ hmx hev
end Go.Proofs.Ythkibgdeibolfaa

/- (*mld.writer).tell. -/
namespace Go.Proofs.Ythkibgdeibolfaa
open Go.RowKit Go.Sort
set_option maxRecDepth 20000
set_option maxRecDepth 20000
attribute [local go_sem] bstr_size bstr_extract bstr_toList bstr_get

theorem put0_2 : putS 0 2 = [0, 0] ∧ okPut 0 2 = true := by decide +kernel
theorem hd_131 : hdS 131 0 0 = [131, 0, 0, 0, 0, 0, 0, 0] ∧ hdZ 0 0 = false := by decide +kernel
theorem hd_132 : hdS 132 0 0 = [132, 0, 0, 0, 0, 0, 0, 0] ∧ hdZ 0 0 = false := by decide +kernel
theorem bodyOk_30 {R : List Rec} {size : Int} (h : bodyOk R size = true) : R.length ≤ 30 := by unfold bodyOk at h; simp at h; exact h.1.2
theorem may9_22 (g : Str) (mx : Int) (q : Bool) (r ev : Int) (L : List Str) (R : List Rec) : mayM9 ⟨2, 2, g, mx, q, r, ev, L, R⟩ = (((pbody R 16).2 == 0) && decide (g = []) && bareB mx q r ev L.length 0) := by
  have h : mayM9 ⟨2, 2, g, mx, q, r, ev, L, R⟩ = (decide (g = []) && bodyOk R 16 && bare ⟨2, 2, g, mx, q, r, ev, L, []⟩) := rfl
  have hb := bareB_bare 2 2 g mx q r ev L []
  rw [List.length_nil] at hb
  have hp : ((pbody R 16).2 == 0) = bodyOk R 16 := by unfold pbody; cases bodyOk R 16 <;> rfl
  rw [h, hb, hp]
  cases decide (g = []) <;> cases bodyOk R 16 <;> rfl
theorem bytes9_22 (g : Str) (mx : Int) (q : Bool) (r ev : Int) (L : List Str) (R : List Rec) (h : (pbody R 16).2 = 0) : bytes9 ⟨2, 2, g, mx, q, r, ev, L, R⟩ = hdS 143 0 (min (R.length : Int) 30) ++ (pbody R 16).1 ∧ hdZ 0 (min (R.length : Int) 30) = false := by
  have hb : bodyOk R 16 = true := by unfold pbody at h; cases hq : bodyOk R 16 <;> rw [hq] at h <;> simp_all
  have h30 := bodyOk_30 hb
  have hn : min (R.length : Int) 30 = (R.length : Int) := by omega
  have hk : okPut (R.length : Int) 2 = true := by unfold okPut; rw [decide_eq_true (by omega), decide_eq_true (by omega)]; rfl
  have hp : putS (R.length : Int) 2 = ofN R.length 2 := by unfold putS; rw [if_pos hk, Int.toNat_natCast]
  have e : (pbody R 16).1 = bodyB R := by unfold pbody; rw [hb]; rfl
  have hB : bytes9 ⟨2, 2, g, mx, q, r, ev, L, R⟩ = [143, 0, 0, 0, 0, 0] ++ ofN R.length 2 ++ bodyB R := rfl
  rw [hn, e, hB]
  unfold hdS hdZ
  rw [hk, hp, put0_2.1, put0_2.2]
  exact ⟨rfl, rfl⟩
theorem may9_one (k : Int) (g : Str) (mx : Int) (q : Bool) (r ev : Int) (L : List Str) (R : List Rec) (hk : k = 2 ∨ k = 3) : mayM9 ⟨k, 1, g, mx, q, r, ev, L, R⟩ = (grp g 16 && bareB mx q r ev L.length R.length) := by
  rw [bareB_bare k 1 g mx q r ev L R]
  rcases hk with rfl | rfl <;> rfl
theorem grp16_ne {g : Str} (h : grp g 16 = true) : g ≠ [] := by rintro rfl; cases h
theorem bytes9_21 (g : Str) (mx : Int) (q : Bool) (r ev : Int) (L : List Str) (R : List Rec) (h : grp g 16 = true) : bytes9 ⟨2, 1, g, mx, q, r, ev, L, R⟩ = [131, 0, 0, 0, 0, 0, 0, 0] ++ g := by
  have e : grpB16 ⟨2, 1, g, mx, q, r, ev, L, R⟩ = g := if_neg (grp16_ne h)
  have h1 : bytes9 ⟨2, 1, g, mx, q, r, ev, L, R⟩ = [131, 0, 0, 0, 0, 0, 0, 0] ++ grpB16 ⟨2, 1, g, mx, q, r, ev, L, R⟩ := rfl
  rw [h1, e]
theorem bytes9_31 (g : Str) (mx : Int) (q : Bool) (r ev : Int) (L : List Str) (R : List Rec) (h : grp g 16 = true) : bytes9 ⟨3, 1, g, mx, q, r, ev, L, R⟩ = [132, 0, 0, 0, 0, 0, 0, 0] ++ g := by
  have e : grpB16 ⟨3, 1, g, mx, q, r, ev, L, R⟩ = g := if_neg (grp16_ne h)
  have h1 : bytes9 ⟨3, 1, g, mx, q, r, ev, L, R⟩ = [132, 0, 0, 0, 0, 0, 0, 0] ++ grpB16 ⟨3, 1, g, mx, q, r, ev, L, R⟩ := rfl
  rw [h1, e]
theorem may9_no (k v : Int) (g : Str) (mx : Int) (q : Bool) (r ev : Int) (L : List Str) (R : List Rec) (h0 : k ≠ 1) (h1 : ¬ (k = 2 ∧ v = 2)) (h2 : ¬ (k = 2 ∧ v = 1)) (h3 : ¬ (k = 3 ∧ v = 1)) : mayM9 ⟨k, v, g, mx, q, r, ev, L, R⟩ = false := by
  unfold mayM9
  rw [if_neg h0, if_neg h1]
  by_cases a1 : k = 2 <;> by_cases a2 : v = 1 <;> by_cases a3 : k = 3 <;> simp_all
theorem bbody16 (v : Value) (R : List Rec) (w : World) (h : Recs w v R) :
    Calls Try.prog 63 #[v, .int .i64 16] w (RetBody w (pbody R 16).1 (pbody R 16).2) := body_any v R 16 w h
theorem pbody_len (R : List Rec) : (pbody R 16).1.length ≤ 1000000 := by
  unfold pbody
  cases h : bodyOk R 16
  · exact Nat.zero_le _
  · unfold bodyOk at h
    simp only [Bool.and_eq_true, decide_eq_true_eq, List.all_eq_true] at h
    exact Nat.le_trans (bodyB_len 16 (by decide) R h.2) (by have := h.1.2; omega)

set_option maxHeartbeats 4000000 in
theorem mtell_22 (mx r ev : Int) (g : Str) (q : Bool) (so : Option Addr) (L : List Str) (sc : Nat) (ro : Option Addr) (R : List Rec) (rc : Nat) (b : Nat) (w : World) (hw : MW w b [] false)
    (hr : Recs w (.slice ro R.length rc) R) (hrb : b < w.heap.size) (hg : g.length ≤ 140737488351232):
    Calls Try.prog 30 #[.pointer (some ⟨b, 0, none⟩), .agg (msgCells 2 2 g mx q r ev so L.length sc ro R.length rc)] w (RetAsk9 w b ⟨2, 2, g, mx, q, r, ev, L, R⟩) := by
  have l2 := run_len_any (P := Try.prog) Try.underlying27 ro R.length rc
  have b0 : (⟨#[]⟩ : ByteArray) = bstr [] := bstr_nil.symm
  obtain ⟨ns, hns⟩ : ∃ ns, L.length = ns := ⟨_, rfl⟩
  obtain ⟨nr, hnr⟩ : ∃ nr, R.length = nr := ⟨_, rfl⟩
  rw [hns]
  rw [hnr] at l2 hr ⊢
  obtain ⟨mb, hmb⟩ : ∃ mb, w.heap.size = mb := ⟨_, rfl⟩
  obtain ⟨W1, hW1⟩ : ∃ W1, w.alloc (.cells (msgCells 2 2 g mx q r ev so ns sc ro nr rc) 29) = W1 := ⟨_, rfl⟩
  have k1 : Below w.heap.size w W1 := by rw [← hW1]; exact (Below.refl _ _).alloc (Nat.le_refl _) _
  have HA1 := Lib.hid (show MS w W1 b mb [] false #[.int .i64 2, .int .i64 2, .string (bstr g), .int .i64 mx, .bool q, .int .i64 r, .int .i64 ev, .slice so ns sc, .slice ro nr rc] from
    ⟨hw.to k1, by rw [← hW1]; exact CBox.new _ hmb.symm, gb_below k1 _, hrb, Nat.le_of_eq hmb⟩)
  have HR1 := Lib.hid (hr.mono k1)
  have HW1 := Lib.hid hW1; have HMB := Lib.hid hmb
  have HNN := Lib.hid (And.intro hns hnr)
  have HGL := Lib.hid hg
  have HGM := Lib.hid (show g.length ≤ maxLen from Nat.le_trans hg (by decide))
  have HGR := Lib.hid (fun W => mgroup_any g W HGM.out)
  clear hw hr hrb hg hns hnr hmb hW1 k1
  have HBD := Lib.hid (bbody16 (.slice ro nr rc) R W1 HR1.out)
  have hbl := bytes9_22 g mx q r ev L R
  have hml := may9_22 g mx q r ev L R
  have hpl := pbody_len R
  obtain ⟨PB, hPB⟩ : ∃ P, (pbody R 16).1 = P := ⟨_, rfl⟩
  obtain ⟨er, her⟩ : ∃ e, (pbody R 16).2 = e := ⟨_, rfl⟩
  rw [hPB, her] at HBD hbl
  rw [her] at hml
  rw [hPB] at hpl
  rw [HNN.out.2] at hbl
  rw [HNN.out.1] at hml
  obtain ⟨N, hN⟩ : ∃ n, min (nr : Int) 30 = n := ⟨_, rfl⟩
  rw [hN] at hbl
  unfold RetBody at HBD
  have HBL := Lib.hid (And.intro hbl hml)
  obtain ⟨S1, hS1⟩ : ∃ S, hdS 143 0 N = S := ⟨_, rfl⟩
  obtain ⟨z1, hz1⟩ : ∃ z, hdZ 0 N = z := ⟨_, rfl⟩
  have hl1 : S1.length ≤ 100 := by rw [← hS1]; unfold hdS; have := putS_le N 2; have := putS_le 0 2; simp; omega
  have n1 : ¬ 9223372036854775807 < S1.length + PB.length := by omega
  have a1 : bstr S1 ++ bstr PB = bstr (S1 ++ PB) := bstr_append _ _
  have HSZ := Lib.hid (And.intro hS1 hz1)
  have HHD := Lib.hid (fun W (h : MS w W b mb [] false #[.int .i64 2, .int .i64 2, .string (bstr g), .int .i64 mx, .bool q, .int .i64 r, .int .i64 ev, .slice so ns sc, .slice ro nr rc]) => show Calls Try.prog 58 #[.pointer (some ⟨b, 0, none⟩), .int .i64 143, .int .i64 0, .int .i64 N] W _ from mhead_any b false 143 143 0 N W h.1 rfl)
  unfold RetMW at HHD
  rw [hS1, hz1] at HHD
  clear hbl hml hpl hPB her hS1 hz1 hl1
  go_enter Try.func30, Try.ntmps30
  go_upto_region 2 with fail
  rw [HMB.out, HW1.out]
  have x0 := (HA1.out.2.1.at_ 0 _ rfl).1
  have x1 := (HA1.out.2.1.at_ 1 _ rfl).1
  have x8 := (HA1.out.2.1.at_ 8 _ rfl).1
  go_upto_region 5 with (first
    | ((with_reducible refine HBD.out.mono ?_); rintro e w3 ⟨rfl, hb3⟩; have HA3 := Lib.hid (HA1.out.to hb3); clear hb3 x0 x1 x8; have x8 := (HA3.out.2.1.at_ 8 _ rfl).1)
    | ((with_reducible refine (HHD.out w3 HA3.out).mono ?_); rintro e w4 ⟨rfl, hm, hg⟩; have HA4 := Lib.hid (HA3.out.wr hm hg); clear hm hg x8))
  obtain ⟨y0, yf0⟩ := CBox.at_ HA4.out.1 0 _ rfl
  go_upto_region 6 with fail
  obtain ⟨S2, hS2⟩ : ∃ S, S1 ++ PB = S := ⟨_, rfl⟩
  have HA5 := Lib.hid (HA4.out.text S2)
  rw [hS2]
  have HS2 := Lib.hid hS2
  obtain ⟨W5, hW5⟩ : ∃ W, w4.setCell ⟨b, 0, none⟩ (.string (bstr S2)) = W := ⟨_, rfl⟩
  rw [hW5] at HA5 ⊢
  clear hW5 y0 yf0 n1 a1 hS2 hN
  obtain ⟨x8, xf8⟩ := HA5.out.2.1.at_ 8 _ rfl
  go_upto_region 7 with fail
  have HA6 := Lib.hid (show MS w (W5.setCell ⟨mb, 8, none⟩ (.slice none 0 0)) b mb S2 (false || z1) #[.int .i64 2, .int .i64 2, .string (bstr g), .int .i64 mx, .bool q, .int .i64 r, .int .i64 ev, .slice so ns sc, .slice none 0 0] from HA5.out.msg 8 _)
  obtain ⟨W6, hW6⟩ : ∃ W, W5.setCell ⟨mb, 8, none⟩ (.slice none 0 0) = W := ⟨_, rfl⟩
  rw [hW6] at HA6 ⊢
  clear hW6 x8 xf8
  obtain ⟨x0, xf0⟩ := CBox.at_ HA6.out.2.1 0 _ rfl
  obtain ⟨x1, xf1⟩ := CBox.at_ HA6.out.2.1 1 _ rfl
  obtain ⟨x2, xf2⟩ := CBox.at_ HA6.out.2.1 2 _ rfl
  obtain ⟨x3, xf3⟩ := CBox.at_ HA6.out.2.1 3 _ rfl
  obtain ⟨x4, xf4⟩ := CBox.at_ HA6.out.2.1 4 _ rfl
  obtain ⟨x5, xf5⟩ := CBox.at_ HA6.out.2.1 5 _ rfl
  obtain ⟨x6, xf6⟩ := CBox.at_ HA6.out.2.1 6 _ rfl
  obtain ⟨x7, xf7⟩ := CBox.at_ HA6.out.2.1 7 _ rfl
  obtain ⟨x8, xf8⟩ := CBox.at_ HA6.out.2.1 8 _ rfl
  have HBR := Lib.hid (mbare_any 2 2 mx r ev g q so ns sc none 0 0 W6)
  obtain ⟨c9, hc9⟩ : ∃ c, bareB mx q r ev ns 0 = c := ⟨_, rfl⟩
  rw [hc9] at HBR
  have HC9 := Lib.hid hc9
  clear hc9
  have HWT := Lib.hid (fun W c (h : MS w W b mb S2 (false || z1) #[.int .i64 2, .int .i64 2, .string (bstr g), .int .i64 mx, .bool q, .int .i64 r, .int .i64 ev, .slice so ns sc, .slice none 0 0]) => mwant_any b S2 (false || z1) c W h.1)
  unfold RetMW at HWT
  obtain ⟨t1, ht1⟩ : ∃ t, (er == 0) = t := ⟨_, rfl⟩
  have HT1 := Lib.hid ht1
  cases t1
  · go_wp2_with ((with_reducible refine (HWT.out _ _ HA6.out).mono ?_); rintro e w8 ⟨rfl, hm, hg⟩; have HA8 := Lib.hid (HA6.out.wr hm hg); clear hm hg)
    go_end0
    have hM : mayM9 ⟨2, 2, g, mx, q, r, ev, L, R⟩ = false := by rw [HBL.out.2, HT1.out]; rfl
    exact ⟨rfl, _, _, HA8.out.1, by rw [hM]; cases z1 <;> rfl, fun h => by revert h; cases z1 <;> simp, HA8.out.2.2.1⟩
  · by_cases h2 : g = []
    · subst h2
      go_wp2_with (first | ((with_reducible refine HBR.out.mono ?_); rintro e w7 ⟨rfl, hb7⟩; have HA7 := Lib.hid (HA6.out.to hb7); clear hb7) | ((with_reducible refine (HWT.out _ _ HA7.out).mono ?_); rintro e w8 ⟨rfl, hm, hg⟩; have HA8 := Lib.hid (HA7.out.wr hm hg); clear hm hg))
      go_end0
      have he : er = 0 := beq_iff_eq.1 HT1.out
      have hb := HBL.out.1 he
      have hM : mayM9 ⟨2, 2, [], mx, q, r, ev, L, R⟩ = c9 := by rw [HBL.out.2, HT1.out, HC9.out]; rfl
      have hz : z1 = false := by rw [← HSZ.out.2]; exact hb.2
      exact ⟨rfl, _, _, HA8.out.1, by rw [hM, hz]; rfl, fun _ => by rw [hb.1, HSZ.out.1, HS2.out], HA8.out.2.2.1⟩
    · have q2 : (g == []) = false := beq_eq_false_iff_ne.2 h2
      have q2' : g.isEmpty = false := isEmpty_ne h2
      have hM : mayM9 ⟨2, 2, g, mx, q, r, ev, L, R⟩ = false := by rw [HBL.out.2, HT1.out, decide_eq_false h2]; rfl
      have HM := Lib.hid hM
      clear hM h2
      go_wp2_with ((with_reducible refine (HWT.out _ _ HA6.out).mono ?_); rintro e w8 ⟨rfl, hm, hg⟩; have HA8 := Lib.hid (HA6.out.wr hm hg); clear hm hg)
      go_end0
      exact ⟨rfl, _, _, HA8.out.1, by rw [HM.out]; cases z1 <;> rfl, fun h => by revert h; cases z1 <;> simp, HA8.out.2.2.1⟩

set_option maxHeartbeats 4000000 in
theorem mtell_21 (mx r ev : Int) (g : Str) (q : Bool) (so : Option Addr) (L : List Str) (sc : Nat) (ro : Option Addr) (R : List Rec) (rc : Nat) (b : Nat) (w : World) (hw : MW w b [] false)
    (hr : Recs w (.slice ro R.length rc) R) (hrb : b < w.heap.size) (hg : g.length ≤ 140737488351232):
    Calls Try.prog 30 #[.pointer (some ⟨b, 0, none⟩), .agg (msgCells 2 1 g mx q r ev so L.length sc ro R.length rc)] w (RetAsk9 w b ⟨2, 1, g, mx, q, r, ev, L, R⟩) := by
  have l2 := run_len_any (P := Try.prog) Try.underlying27 ro R.length rc
  have b0 : (⟨#[]⟩ : ByteArray) = bstr [] := bstr_nil.symm
  obtain ⟨ns, hns⟩ : ∃ ns, L.length = ns := ⟨_, rfl⟩
  obtain ⟨nr, hnr⟩ : ∃ nr, R.length = nr := ⟨_, rfl⟩
  rw [hns]
  rw [hnr] at l2 hr ⊢
  obtain ⟨mb, hmb⟩ : ∃ mb, w.heap.size = mb := ⟨_, rfl⟩
  obtain ⟨W1, hW1⟩ : ∃ W1, w.alloc (.cells (msgCells 2 1 g mx q r ev so ns sc ro nr rc) 29) = W1 := ⟨_, rfl⟩
  have k1 : Below w.heap.size w W1 := by rw [← hW1]; exact (Below.refl _ _).alloc (Nat.le_refl _) _
  have HA1 := Lib.hid (show MS w W1 b mb [] false #[.int .i64 2, .int .i64 1, .string (bstr g), .int .i64 mx, .bool q, .int .i64 r, .int .i64 ev, .slice so ns sc, .slice ro nr rc] from
    ⟨hw.to k1, by rw [← hW1]; exact CBox.new _ hmb.symm, gb_below k1 _, hrb, Nat.le_of_eq hmb⟩)
  have HR1 := Lib.hid (hr.mono k1)
  have HW1 := Lib.hid hW1; have HMB := Lib.hid hmb
  have HNN := Lib.hid (And.intro hns hnr)
  have HGL := Lib.hid hg
  have HGM := Lib.hid (show g.length ≤ maxLen from Nat.le_trans hg (by decide))
  have HGR := Lib.hid (fun W => mgroup_any g W HGM.out)
  clear hw hr hrb hg hns hnr hmb hW1 k1
  have HHD := Lib.hid (show Calls Try.prog 58 #[.pointer (some ⟨b, 0, none⟩), .int .i64 131, .int .i64 0, .int .i64 0] W1 _ from mhead_any b false 131 131 0 0 W1 HA1.out.1 rfl)
  rw [hd_131.1, hd_131.2] at HHD
  unfold RetMW at HHD
  go_enter Try.func30, Try.ntmps30
  go_upto_region 2 with fail
  rw [HMB.out, HW1.out]
  have x0 := (HA1.out.2.1.at_ 0 _ rfl).1
  have x1 := (HA1.out.2.1.at_ 1 _ rfl).1
  go_upto_region 12 with ((with_reducible refine HHD.out.mono ?_); rintro e w4 ⟨rfl, hm, hg⟩; have HA4 := Lib.hid (HA1.out.wr hm hg); clear hm hg x0 x1)
  have HGX := HGR.out
  obtain ⟨SS, hSS⟩ : ∃ S : Str, [131, 0, 0, 0, 0, 0, 0, 0] = S := ⟨_, rfl⟩
  rw [hSS] at HA4
  have HSS := Lib.hid hSS
  have hSl : SS.length ≤ 100 := by rw [← hSS]; simp
  have HSL0 := Lib.hid hSl
  clear hSS hSl
  have HWT := Lib.hid (fun W c (h : MS w W b mb (SS) (false || false) #[.int .i64 2, .int .i64 1, .string (bstr g), .int .i64 mx, .bool q, .int .i64 r, .int .i64 ev, .slice so ns sc, .slice ro nr rc]) => mwant_any b (SS) (false || false) c W h.1)
  unfold RetMW at HWT
  have HBR := Lib.hid (fun W => mbare_any (2) (1) mx r ev g q so ns sc ro nr rc W)
  obtain ⟨c8, hc8⟩ : ∃ c, grp g 16 = c := ⟨_, rfl⟩
  obtain ⟨c9, hc9⟩ : ∃ c, bareB mx q r ev ns nr = c := ⟨_, rfl⟩
  rw [hc9] at HBR
  rw [hc8] at HGR
  have HC := Lib.hid (And.intro hc8 hc9)
  clear hc8 hc9 HGX
  have x2 := (HA4.out.2.1.at_ 2 _ rfl).1
  go_cut [] (fun w' => MS w w' b mb (SS) ((false || false) || !(c8 && c9)) #[.int .i64 2, .int .i64 1, .string (bstr g), .int .i64 mx, .bool q, .int .i64 r, .int .i64 ev, .slice so ns sc, .slice ro nr rc])
  case first =>
    cases c8
    · go_wp2_with (first
        | ((with_reducible refine (HGR.out _).mono ?_); rintro e w5 ⟨rfl, hb5⟩; have HA5 := Lib.hid (HA4.out.to hb5); clear hb5 x2)
        | ((with_reducible refine (HWT.out _ _ HA5.out).mono ?_); rintro e w7 ⟨rfl, hm, hg⟩; have HA7 := Lib.hid (HA5.out.wr hm hg); clear hm hg))
      go_meet
      case rel => exact HA7.out
    · go_wp2_with (first
        | ((with_reducible refine (HGR.out _).mono ?_); rintro e w5 ⟨rfl, hb5⟩; have HA5 := Lib.hid (HA4.out.to hb5); clear hb5 x2; obtain ⟨x0, xf0⟩ := CBox.at_ HA5.out.2.1 0 _ rfl; obtain ⟨x1, xf1⟩ := CBox.at_ HA5.out.2.1 1 _ rfl; obtain ⟨x2, xf2⟩ := CBox.at_ HA5.out.2.1 2 _ rfl; obtain ⟨x3, xf3⟩ := CBox.at_ HA5.out.2.1 3 _ rfl; obtain ⟨x4, xf4⟩ := CBox.at_ HA5.out.2.1 4 _ rfl; obtain ⟨x5, xf5⟩ := CBox.at_ HA5.out.2.1 5 _ rfl; obtain ⟨x6, xf6⟩ := CBox.at_ HA5.out.2.1 6 _ rfl; obtain ⟨x7, xf7⟩ := CBox.at_ HA5.out.2.1 7 _ rfl; obtain ⟨x8, xf8⟩ := CBox.at_ HA5.out.2.1 8 _ rfl)
        | ((with_reducible refine (HBR.out _).mono ?_); rintro e w6 ⟨rfl, hb6⟩; have HA6 := Lib.hid (HA5.out.to hb6); clear hb6)
        | ((with_reducible refine (HWT.out _ _ HA6.out).mono ?_); rintro e w7 ⟨rfl, hm, hg⟩; have HA7 := Lib.hid (HA6.out.wr hm hg); clear hm hg))
      go_meet
      case rel => exact HA7.out
  case rest =>
    have HA7 := Lib.hid hcut
    clear hcut x2
    have n1 : ¬ 9223372036854775807 < (SS : Str).length + g.length := (Lk_start (SS) g HSL0.out HGL.out).2
    have a1 : bstr (SS) ++ bstr g = bstr ((SS) ++ g) := bstr_append _ _
    go_upto_region 13 with fail
    have HF := Lib.hid (show ∀ wq, CBox wq mb 29 #[.int .i64 2, .int .i64 1, .string (bstr g), .int .i64 mx, .bool q, .int .i64 r, .int .i64 ev, .slice so ns sc, .slice ro nr rc] → wq.cell? ⟨mb, 2, none⟩ = some (.string (bstr g)) from fun wq h => (h.at_ 2 _ rfl).1)
    have HAD := Lib.hid (HA7.out.to (Below.drew (Below.refl _ _)))
    refine wp_region_held_drew (S := fun W' => CBox W' mb 29 #[.int .i64 2, .int .i64 1, .string (bstr g), .int .i64 mx, .bool q, .int .i64 r, .int .i64 ev, .slice so ns sc, .slice ro nr rc]) (by kernel_rfl) HAD.out.2.1 (fun hHeld => ?_)
    obtain ⟨U, hU⟩ : ∃ U, World.drew wc = U := ⟨_, rfl⟩
    rw [hU] at hHeld HAD ⊢
    clear hU
    refine takeL 0 (v := ?_) rfl (by kernel_rfl) (by kernel_rfl) (by kernel_rfl) (fun _ _ _ h => h) (Or.inl ⟨by rfl, ?_⟩) (by assumption) ?_
    rotate_left
    focus (intro wq hSq; have f0 := HF.out wq hSq; go_simp <;> with_reducible rfl)
    simp only [Act.put, List.setIfInBounds_toArray, List.set_cons_zero, List.set_cons_succ]
    refine takeL 1 (v := ?_) rfl (by kernel_rfl) (by kernel_rfl) (by kernel_rfl) (fun _ _ _ h => h) (Or.inl ⟨by rfl, ?_⟩) (by assumption) ?_
    rotate_left
    focus (intro wq hSq; have f0 := HF.out wq hSq; go_simp <;> with_reducible rfl)
    simp only [Act.put, List.setIfInBounds_toArray, List.set_cons_zero, List.set_cons_succ]
    refine takeL 2 (v := ?_) rfl (by kernel_rfl) (by kernel_rfl) (by kernel_rfl) (fun _ _ _ h => h) (Or.inl ⟨by rfl, ?_⟩) (by assumption) ?_
    rotate_left
    focus (intro wq hSq; have f0 := HF.out wq hSq; go_simp <;> with_reducible rfl)
    simp only [Act.put, List.setIfInBounds_toArray, List.set_cons_zero, List.set_cons_succ]
    refine takeL 4 (v := ?_) rfl (by kernel_rfl) (by kernel_rfl) (by kernel_rfl) (fun _ _ _ h => h) (Or.inl ⟨by rfl, ?_⟩) (by assumption) ?_
    rotate_left
    focus (intro wq hSq; have f0 := HF.out wq hSq; go_simp <;> with_reducible rfl)
    simp only [Act.put, List.setIfInBounds_toArray, List.set_cons_zero, List.set_cons_succ]
    refine takeL 5 (v := ?_) rfl (by kernel_rfl) (by kernel_rfl) (by kernel_rfl) (fun _ _ _ h => h) (Or.inl ⟨by rfl, ?_⟩) (by assumption) ?_
    rotate_left
    focus (intro wq hSq; have f0 := HF.out wq hSq; go_simp <;> with_reducible rfl)
    simp only [Act.put, List.setIfInBounds_toArray, List.set_cons_zero, List.set_cons_succ]
    refine wpAnyH_ready (rs := [3]) (by kernel_rfl) (by simp) (nextL 3 rfl (fun Kr hKr => ?_) AllReadyH.nil)
    rw [if_pos (by rfl)]
    have y0 := (CBox.at_ HAD.out.1 0 _ rfl).1
    go_simp
    refine hKr.out _ _ hHeld (fun _ => ?_)
    clear hKr y0
    refine takeL 6 (v := ?_) rfl (by kernel_rfl) (by kernel_rfl) (by kernel_rfl) (fun _ _ _ h => h) (Or.inl ⟨by rfl, ?_⟩) (by assumption) ?_
    rotate_left
    focus (intro wq hSq; have f0 := HF.out wq hSq; go_simp <;> with_reducible rfl)
    simp only [Act.put, List.setIfInBounds_toArray, List.set_cons_zero, List.set_cons_succ]
    refine takeL 7 (v := ?_) rfl (by kernel_rfl) (by kernel_rfl) (by kernel_rfl) (fun _ _ _ h => h) (Or.inl ⟨by rfl, ?_⟩) (by assumption) ?_
    rotate_left
    focus (intro wq hSq; have f0 := HF.out wq hSq; go_simp <;> with_reducible rfl)
    simp only [Act.put, List.setIfInBounds_toArray, List.set_cons_zero, List.set_cons_succ]
    refine takeL 8 (v := ?_) rfl (by kernel_rfl) (by kernel_rfl) (by kernel_rfl) (fun _ _ _ h => h) (Or.inl ⟨by rfl, ?_⟩) (by assumption) ?_
    rotate_left
    focus (intro wq hSq; have f0 := HF.out wq hSq; go_simp <;> with_reducible rfl)
    simp only [Act.put, List.setIfInBounds_toArray, List.set_cons_zero, List.set_cons_succ]
    refine wpAnyH_ready (rs := [9]) (by kernel_rfl) (by simp) (nextL 9 rfl (fun Kr hKr => ?_) AllReadyH.nil)
    rw [if_pos (by rfl)]
    obtain ⟨y0, yf0⟩ := CBox.at_ HAD.out.1 0 _ rfl
    go_simp
    have HA8 := Lib.hid (HAD.out.text ((SS) ++ g))
    refine hKr.out _ _ HA8.out.2.1 (fun _ => ?_)
    clear hKr y0 yf0
    refine wpAnyH_done (by kernel_rfl) ?_ _
    go_wp2_with fail
    go_end0
    have hmm := may9_one 2 g mx q r ev L R (by decide)
    rw [HNN.out.1, HNN.out.2, HC.out.1, HC.out.2] at hmm
    refine ⟨rfl, _, _, HA8.out.1, by rw [hmm]; rfl, fun h => ?_, HA8.out.2.2.1⟩
    have h1 : c8 = true := by revert h; cases c8 <;> simp
    rw [bytes9_21 g mx q r ev L R (HC.out.1.trans h1), HSS.out]

set_option maxHeartbeats 4000000 in
theorem mtell_31 (mx r ev : Int) (g : Str) (q : Bool) (so : Option Addr) (L : List Str) (sc : Nat) (ro : Option Addr) (R : List Rec) (rc : Nat) (b : Nat) (w : World) (hw : MW w b [] false)
    (hr : Recs w (.slice ro R.length rc) R) (hrb : b < w.heap.size) (hg : g.length ≤ 140737488351232):
    Calls Try.prog 30 #[.pointer (some ⟨b, 0, none⟩), .agg (msgCells 3 1 g mx q r ev so L.length sc ro R.length rc)] w (RetAsk9 w b ⟨3, 1, g, mx, q, r, ev, L, R⟩) := by
  have l2 := run_len_any (P := Try.prog) Try.underlying27 ro R.length rc
  have b0 : (⟨#[]⟩ : ByteArray) = bstr [] := bstr_nil.symm
  obtain ⟨ns, hns⟩ : ∃ ns, L.length = ns := ⟨_, rfl⟩
  obtain ⟨nr, hnr⟩ : ∃ nr, R.length = nr := ⟨_, rfl⟩
  rw [hns]
  rw [hnr] at l2 hr ⊢
  obtain ⟨mb, hmb⟩ : ∃ mb, w.heap.size = mb := ⟨_, rfl⟩
  obtain ⟨W1, hW1⟩ : ∃ W1, w.alloc (.cells (msgCells 3 1 g mx q r ev so ns sc ro nr rc) 29) = W1 := ⟨_, rfl⟩
  have k1 : Below w.heap.size w W1 := by rw [← hW1]; exact (Below.refl _ _).alloc (Nat.le_refl _) _
  have HA1 := Lib.hid (show MS w W1 b mb [] false #[.int .i64 3, .int .i64 1, .string (bstr g), .int .i64 mx, .bool q, .int .i64 r, .int .i64 ev, .slice so ns sc, .slice ro nr rc] from
    ⟨hw.to k1, by rw [← hW1]; exact CBox.new _ hmb.symm, gb_below k1 _, hrb, Nat.le_of_eq hmb⟩)
  have HR1 := Lib.hid (hr.mono k1)
  have HW1 := Lib.hid hW1; have HMB := Lib.hid hmb
  have HNN := Lib.hid (And.intro hns hnr)
  have HGL := Lib.hid hg
  have HGM := Lib.hid (show g.length ≤ maxLen from Nat.le_trans hg (by decide))
  have HGR := Lib.hid (fun W => mgroup_any g W HGM.out)
  clear hw hr hrb hg hns hnr hmb hW1 k1
  have HHD := Lib.hid (show Calls Try.prog 58 #[.pointer (some ⟨b, 0, none⟩), .int .i64 132, .int .i64 0, .int .i64 0] W1 _ from mhead_any b false 132 132 0 0 W1 HA1.out.1 rfl)
  rw [hd_132.1, hd_132.2] at HHD
  unfold RetMW at HHD
  go_enter Try.func30, Try.ntmps30
  go_upto_region 2 with fail
  rw [HMB.out, HW1.out]
  have x0 := (HA1.out.2.1.at_ 0 _ rfl).1
  have x1 := (HA1.out.2.1.at_ 1 _ rfl).1
  go_upto_region 12 with ((with_reducible refine HHD.out.mono ?_); rintro e w4 ⟨rfl, hm, hg⟩; have HA4 := Lib.hid (HA1.out.wr hm hg); clear hm hg x0 x1)
  have HGX := HGR.out
  obtain ⟨SS, hSS⟩ : ∃ S : Str, [132, 0, 0, 0, 0, 0, 0, 0] = S := ⟨_, rfl⟩
  rw [hSS] at HA4
  have HSS := Lib.hid hSS
  have hSl : SS.length ≤ 100 := by rw [← hSS]; simp
  have HSL0 := Lib.hid hSl
  clear hSS hSl
  have HWT := Lib.hid (fun W c (h : MS w W b mb (SS) (false || false) #[.int .i64 3, .int .i64 1, .string (bstr g), .int .i64 mx, .bool q, .int .i64 r, .int .i64 ev, .slice so ns sc, .slice ro nr rc]) => mwant_any b (SS) (false || false) c W h.1)
  unfold RetMW at HWT
  have HBR := Lib.hid (fun W => mbare_any (3) (1) mx r ev g q so ns sc ro nr rc W)
  obtain ⟨c8, hc8⟩ : ∃ c, grp g 16 = c := ⟨_, rfl⟩
  obtain ⟨c9, hc9⟩ : ∃ c, bareB mx q r ev ns nr = c := ⟨_, rfl⟩
  rw [hc9] at HBR
  rw [hc8] at HGR
  have HC := Lib.hid (And.intro hc8 hc9)
  clear hc8 hc9 HGX
  have x2 := (HA4.out.2.1.at_ 2 _ rfl).1
  go_cut [] (fun w' => MS w w' b mb (SS) ((false || false) || !(c8 && c9)) #[.int .i64 3, .int .i64 1, .string (bstr g), .int .i64 mx, .bool q, .int .i64 r, .int .i64 ev, .slice so ns sc, .slice ro nr rc])
  case first =>
    cases c8
    · go_wp2_with (first
        | ((with_reducible refine (HGR.out _).mono ?_); rintro e w5 ⟨rfl, hb5⟩; have HA5 := Lib.hid (HA4.out.to hb5); clear hb5 x2)
        | ((with_reducible refine (HWT.out _ _ HA5.out).mono ?_); rintro e w7 ⟨rfl, hm, hg⟩; have HA7 := Lib.hid (HA5.out.wr hm hg); clear hm hg))
      go_meet
      case rel => exact HA7.out
    · go_wp2_with (first
        | ((with_reducible refine (HGR.out _).mono ?_); rintro e w5 ⟨rfl, hb5⟩; have HA5 := Lib.hid (HA4.out.to hb5); clear hb5 x2; obtain ⟨x0, xf0⟩ := CBox.at_ HA5.out.2.1 0 _ rfl; obtain ⟨x1, xf1⟩ := CBox.at_ HA5.out.2.1 1 _ rfl; obtain ⟨x2, xf2⟩ := CBox.at_ HA5.out.2.1 2 _ rfl; obtain ⟨x3, xf3⟩ := CBox.at_ HA5.out.2.1 3 _ rfl; obtain ⟨x4, xf4⟩ := CBox.at_ HA5.out.2.1 4 _ rfl; obtain ⟨x5, xf5⟩ := CBox.at_ HA5.out.2.1 5 _ rfl; obtain ⟨x6, xf6⟩ := CBox.at_ HA5.out.2.1 6 _ rfl; obtain ⟨x7, xf7⟩ := CBox.at_ HA5.out.2.1 7 _ rfl; obtain ⟨x8, xf8⟩ := CBox.at_ HA5.out.2.1 8 _ rfl)
        | ((with_reducible refine (HBR.out _).mono ?_); rintro e w6 ⟨rfl, hb6⟩; have HA6 := Lib.hid (HA5.out.to hb6); clear hb6)
        | ((with_reducible refine (HWT.out _ _ HA6.out).mono ?_); rintro e w7 ⟨rfl, hm, hg⟩; have HA7 := Lib.hid (HA6.out.wr hm hg); clear hm hg))
      go_meet
      case rel => exact HA7.out
  case rest =>
    have HA7 := Lib.hid hcut
    clear hcut x2
    have n1 : ¬ 9223372036854775807 < (SS : Str).length + g.length := (Lk_start (SS) g HSL0.out HGL.out).2
    have a1 : bstr (SS) ++ bstr g = bstr ((SS) ++ g) := bstr_append _ _
    go_upto_region 13 with fail
    have HF := Lib.hid (show ∀ wq, CBox wq mb 29 #[.int .i64 3, .int .i64 1, .string (bstr g), .int .i64 mx, .bool q, .int .i64 r, .int .i64 ev, .slice so ns sc, .slice ro nr rc] → wq.cell? ⟨mb, 2, none⟩ = some (.string (bstr g)) from fun wq h => (h.at_ 2 _ rfl).1)
    have HAD := Lib.hid (HA7.out.to (Below.drew (Below.refl _ _)))
    refine wp_region_held_drew (S := fun W' => CBox W' mb 29 #[.int .i64 3, .int .i64 1, .string (bstr g), .int .i64 mx, .bool q, .int .i64 r, .int .i64 ev, .slice so ns sc, .slice ro nr rc]) (by kernel_rfl) HAD.out.2.1 (fun hHeld => ?_)
    obtain ⟨U, hU⟩ : ∃ U, World.drew wc = U := ⟨_, rfl⟩
    rw [hU] at hHeld HAD ⊢
    clear hU
    refine takeL 0 (v := ?_) rfl (by kernel_rfl) (by kernel_rfl) (by kernel_rfl) (fun _ _ _ h => h) (Or.inl ⟨by rfl, ?_⟩) (by assumption) ?_
    rotate_left
    focus (intro wq hSq; have f0 := HF.out wq hSq; go_simp <;> with_reducible rfl)
    simp only [Act.put, List.setIfInBounds_toArray, List.set_cons_zero, List.set_cons_succ]
    refine takeL 1 (v := ?_) rfl (by kernel_rfl) (by kernel_rfl) (by kernel_rfl) (fun _ _ _ h => h) (Or.inl ⟨by rfl, ?_⟩) (by assumption) ?_
    rotate_left
    focus (intro wq hSq; have f0 := HF.out wq hSq; go_simp <;> with_reducible rfl)
    simp only [Act.put, List.setIfInBounds_toArray, List.set_cons_zero, List.set_cons_succ]
    refine takeL 2 (v := ?_) rfl (by kernel_rfl) (by kernel_rfl) (by kernel_rfl) (fun _ _ _ h => h) (Or.inl ⟨by rfl, ?_⟩) (by assumption) ?_
    rotate_left
    focus (intro wq hSq; have f0 := HF.out wq hSq; go_simp <;> with_reducible rfl)
    simp only [Act.put, List.setIfInBounds_toArray, List.set_cons_zero, List.set_cons_succ]
    refine takeL 4 (v := ?_) rfl (by kernel_rfl) (by kernel_rfl) (by kernel_rfl) (fun _ _ _ h => h) (Or.inl ⟨by rfl, ?_⟩) (by assumption) ?_
    rotate_left
    focus (intro wq hSq; have f0 := HF.out wq hSq; go_simp <;> with_reducible rfl)
    simp only [Act.put, List.setIfInBounds_toArray, List.set_cons_zero, List.set_cons_succ]
    refine takeL 5 (v := ?_) rfl (by kernel_rfl) (by kernel_rfl) (by kernel_rfl) (fun _ _ _ h => h) (Or.inl ⟨by rfl, ?_⟩) (by assumption) ?_
    rotate_left
    focus (intro wq hSq; have f0 := HF.out wq hSq; go_simp <;> with_reducible rfl)
    simp only [Act.put, List.setIfInBounds_toArray, List.set_cons_zero, List.set_cons_succ]
    refine wpAnyH_ready (rs := [3]) (by kernel_rfl) (by simp) (nextL 3 rfl (fun Kr hKr => ?_) AllReadyH.nil)
    rw [if_pos (by rfl)]
    have y0 := (CBox.at_ HAD.out.1 0 _ rfl).1
    go_simp
    refine hKr.out _ _ hHeld (fun _ => ?_)
    clear hKr y0
    refine takeL 6 (v := ?_) rfl (by kernel_rfl) (by kernel_rfl) (by kernel_rfl) (fun _ _ _ h => h) (Or.inl ⟨by rfl, ?_⟩) (by assumption) ?_
    rotate_left
    focus (intro wq hSq; have f0 := HF.out wq hSq; go_simp <;> with_reducible rfl)
    simp only [Act.put, List.setIfInBounds_toArray, List.set_cons_zero, List.set_cons_succ]
    refine takeL 7 (v := ?_) rfl (by kernel_rfl) (by kernel_rfl) (by kernel_rfl) (fun _ _ _ h => h) (Or.inl ⟨by rfl, ?_⟩) (by assumption) ?_
    rotate_left
    focus (intro wq hSq; have f0 := HF.out wq hSq; go_simp <;> with_reducible rfl)
    simp only [Act.put, List.setIfInBounds_toArray, List.set_cons_zero, List.set_cons_succ]
    refine takeL 8 (v := ?_) rfl (by kernel_rfl) (by kernel_rfl) (by kernel_rfl) (fun _ _ _ h => h) (Or.inl ⟨by rfl, ?_⟩) (by assumption) ?_
    rotate_left
    focus (intro wq hSq; have f0 := HF.out wq hSq; go_simp <;> with_reducible rfl)
    simp only [Act.put, List.setIfInBounds_toArray, List.set_cons_zero, List.set_cons_succ]
    refine wpAnyH_ready (rs := [9]) (by kernel_rfl) (by simp) (nextL 9 rfl (fun Kr hKr => ?_) AllReadyH.nil)
    rw [if_pos (by rfl)]
    obtain ⟨y0, yf0⟩ := CBox.at_ HAD.out.1 0 _ rfl
    go_simp
    have HA8 := Lib.hid (HAD.out.text ((SS) ++ g))
    refine hKr.out _ _ HA8.out.2.1 (fun _ => ?_)
    clear hKr y0 yf0
    refine wpAnyH_done (by kernel_rfl) ?_ _
    go_wp2_with fail
    go_end0
    have hmm := may9_one 3 g mx q r ev L R (by decide)
    rw [HNN.out.1, HNN.out.2, HC.out.1, HC.out.2] at hmm
    refine ⟨rfl, _, _, HA8.out.1, by rw [hmm]; rfl, fun h => ?_, HA8.out.2.2.1⟩
    have h1 : c8 = true := by revert h; cases c8 <;> simp
    rw [bytes9_31 g mx q r ev L R (HC.out.1.trans h1), HSS.out]

set_option maxHeartbeats 4000000 in
theorem mtell_n1 (k v mx r ev : Int) (g : Str) (q : Bool) (so : Option Addr) (L : List Str) (sc : Nat) (ro : Option Addr) (R : List Rec) (rc : Nat) (b : Nat) (w : World) (hw : MW w b [] false)
    (hr : Recs w (.slice ro R.length rc) R) (hrb : b < w.heap.size) (hg : g.length ≤ 140737488351232) (h0 : k = 2) (h1 : ¬ v = 2) (h2 : ¬ v = 1):
    Calls Try.prog 30 #[.pointer (some ⟨b, 0, none⟩), .agg (msgCells k v g mx q r ev so L.length sc ro R.length rc)] w (RetAsk9 w b ⟨k, v, g, mx, q, r, ev, L, R⟩) := by
  have l2 := run_len_any (P := Try.prog) Try.underlying27 ro R.length rc
  have b0 : (⟨#[]⟩ : ByteArray) = bstr [] := bstr_nil.symm
  obtain ⟨ns, hns⟩ : ∃ ns, L.length = ns := ⟨_, rfl⟩
  obtain ⟨nr, hnr⟩ : ∃ nr, R.length = nr := ⟨_, rfl⟩
  rw [hns]
  rw [hnr] at l2 hr ⊢
  obtain ⟨mb, hmb⟩ : ∃ mb, w.heap.size = mb := ⟨_, rfl⟩
  obtain ⟨W1, hW1⟩ : ∃ W1, w.alloc (.cells (msgCells k v g mx q r ev so ns sc ro nr rc) 29) = W1 := ⟨_, rfl⟩
  have k1 : Below w.heap.size w W1 := by rw [← hW1]; exact (Below.refl _ _).alloc (Nat.le_refl _) _
  have HA1 := Lib.hid (show MS w W1 b mb [] false #[.int .i64 k, .int .i64 v, .string (bstr g), .int .i64 mx, .bool q, .int .i64 r, .int .i64 ev, .slice so ns sc, .slice ro nr rc] from
    ⟨hw.to k1, by rw [← hW1]; exact CBox.new _ hmb.symm, gb_below k1 _, hrb, Nat.le_of_eq hmb⟩)
  have HR1 := Lib.hid (hr.mono k1)
  have HW1 := Lib.hid hW1; have HMB := Lib.hid hmb
  have HNN := Lib.hid (And.intro hns hnr)
  have HGL := Lib.hid hg
  have HGM := Lib.hid (show g.length ≤ maxLen from Nat.le_trans hg (by decide))
  have HGR := Lib.hid (fun W => mgroup_any g W HGM.out)
  clear hw hr hrb hg hns hnr hmb hW1 k1
  have HM := Lib.hid (may9_no k v g mx q r ev L R (by omega) (by omega) (by omega) (by omega))
  have q1 : (k == 2) = true := beq_iff_eq.2 h0
  have q2 : (v == 2) = false := beq_eq_false_iff_ne.2 h1
  have q3 : (v == 1) = false := beq_eq_false_iff_ne.2 h2
  have q4 : (k == 3) = false := beq_eq_false_iff_ne.2 (by omega)
  clear h0 h1 h2
  go_enter Try.func30, Try.ntmps30
  go_upto_region 2 with fail
  rw [HMB.out, HW1.out]
  have x0 := (HA1.out.2.1.at_ 0 _ rfl).1
  have x1 := (HA1.out.2.1.at_ 1 _ rfl).1
  obtain ⟨z1, zf1⟩ := CBox.at_ HA1.out.1 1 _ rfl
  go_upto_region 12 with fail
  have HA4 := Lib.hid (HA1.out.bad true)
  obtain ⟨W4, hW4⟩ : ∃ W, W1.setCell ⟨b, 1, none⟩ (.bool true) = W := ⟨_, rfl⟩
  rw [hW4] at HA4 ⊢
  clear hW4 z1 zf1 x0 x1
  have HGX := HGR.out
  obtain ⟨SS, hSS⟩ : ∃ S : Str, [] = S := ⟨_, rfl⟩
  rw [hSS] at HA4
  have HSS := Lib.hid hSS
  have hSl : SS.length ≤ 100 := by rw [← hSS]; simp
  have HSL0 := Lib.hid hSl
  clear hSS hSl
  have HWT := Lib.hid (fun W c (h : MS w W b mb (SS) (true) #[.int .i64 k, .int .i64 v, .string (bstr g), .int .i64 mx, .bool q, .int .i64 r, .int .i64 ev, .slice so ns sc, .slice ro nr rc]) => mwant_any b (SS) (true) c W h.1)
  unfold RetMW at HWT
  have HBR := Lib.hid (fun W => mbare_any (k) (v) mx r ev g q so ns sc ro nr rc W)
  obtain ⟨c8, hc8⟩ : ∃ c, grp g 16 = c := ⟨_, rfl⟩
  obtain ⟨c9, hc9⟩ : ∃ c, bareB mx q r ev ns nr = c := ⟨_, rfl⟩
  rw [hc9] at HBR
  rw [hc8] at HGR
  have HC := Lib.hid (And.intro hc8 hc9)
  clear hc8 hc9 HGX
  have x2 := (HA4.out.2.1.at_ 2 _ rfl).1
  go_cut [] (fun w' => MS w w' b mb (SS) ((true) || !(c8 && c9)) #[.int .i64 k, .int .i64 v, .string (bstr g), .int .i64 mx, .bool q, .int .i64 r, .int .i64 ev, .slice so ns sc, .slice ro nr rc])
  case first =>
    cases c8
    · go_wp2_with (first
        | ((with_reducible refine (HGR.out _).mono ?_); rintro e w5 ⟨rfl, hb5⟩; have HA5 := Lib.hid (HA4.out.to hb5); clear hb5 x2)
        | ((with_reducible refine (HWT.out _ _ HA5.out).mono ?_); rintro e w7 ⟨rfl, hm, hg⟩; have HA7 := Lib.hid (HA5.out.wr hm hg); clear hm hg))
      go_meet
      case rel => exact HA7.out
    · go_wp2_with (first
        | ((with_reducible refine (HGR.out _).mono ?_); rintro e w5 ⟨rfl, hb5⟩; have HA5 := Lib.hid (HA4.out.to hb5); clear hb5 x2; obtain ⟨x0, xf0⟩ := CBox.at_ HA5.out.2.1 0 _ rfl; obtain ⟨x1, xf1⟩ := CBox.at_ HA5.out.2.1 1 _ rfl; obtain ⟨x2, xf2⟩ := CBox.at_ HA5.out.2.1 2 _ rfl; obtain ⟨x3, xf3⟩ := CBox.at_ HA5.out.2.1 3 _ rfl; obtain ⟨x4, xf4⟩ := CBox.at_ HA5.out.2.1 4 _ rfl; obtain ⟨x5, xf5⟩ := CBox.at_ HA5.out.2.1 5 _ rfl; obtain ⟨x6, xf6⟩ := CBox.at_ HA5.out.2.1 6 _ rfl; obtain ⟨x7, xf7⟩ := CBox.at_ HA5.out.2.1 7 _ rfl; obtain ⟨x8, xf8⟩ := CBox.at_ HA5.out.2.1 8 _ rfl)
        | ((with_reducible refine (HBR.out _).mono ?_); rintro e w6 ⟨rfl, hb6⟩; have HA6 := Lib.hid (HA5.out.to hb6); clear hb6)
        | ((with_reducible refine (HWT.out _ _ HA6.out).mono ?_); rintro e w7 ⟨rfl, hm, hg⟩; have HA7 := Lib.hid (HA6.out.wr hm hg); clear hm hg))
      go_meet
      case rel => exact HA7.out
  case rest =>
    have HA7 := Lib.hid hcut
    clear hcut x2
    have n1 : ¬ 9223372036854775807 < (SS : Str).length + g.length := (Lk_start (SS) g HSL0.out HGL.out).2
    have a1 : bstr (SS) ++ bstr g = bstr ((SS) ++ g) := bstr_append _ _
    go_upto_region 13 with fail
    have HF := Lib.hid (show ∀ wq, CBox wq mb 29 #[.int .i64 k, .int .i64 v, .string (bstr g), .int .i64 mx, .bool q, .int .i64 r, .int .i64 ev, .slice so ns sc, .slice ro nr rc] → wq.cell? ⟨mb, 2, none⟩ = some (.string (bstr g)) from fun wq h => (h.at_ 2 _ rfl).1)
    have HAD := Lib.hid (HA7.out.to (Below.drew (Below.refl _ _)))
    refine wp_region_held_drew (S := fun W' => CBox W' mb 29 #[.int .i64 k, .int .i64 v, .string (bstr g), .int .i64 mx, .bool q, .int .i64 r, .int .i64 ev, .slice so ns sc, .slice ro nr rc]) (by kernel_rfl) HAD.out.2.1 (fun hHeld => ?_)
    obtain ⟨U, hU⟩ : ∃ U, World.drew wc = U := ⟨_, rfl⟩
    rw [hU] at hHeld HAD ⊢
    clear hU
    refine takeL 0 (v := ?_) rfl (by kernel_rfl) (by kernel_rfl) (by kernel_rfl) (fun _ _ _ h => h) (Or.inl ⟨by rfl, ?_⟩) (by assumption) ?_
    rotate_left
    focus (intro wq hSq; have f0 := HF.out wq hSq; go_simp <;> with_reducible rfl)
    simp only [Act.put, List.setIfInBounds_toArray, List.set_cons_zero, List.set_cons_succ]
    refine takeL 1 (v := ?_) rfl (by kernel_rfl) (by kernel_rfl) (by kernel_rfl) (fun _ _ _ h => h) (Or.inl ⟨by rfl, ?_⟩) (by assumption) ?_
    rotate_left
    focus (intro wq hSq; have f0 := HF.out wq hSq; go_simp <;> with_reducible rfl)
    simp only [Act.put, List.setIfInBounds_toArray, List.set_cons_zero, List.set_cons_succ]
    refine takeL 2 (v := ?_) rfl (by kernel_rfl) (by kernel_rfl) (by kernel_rfl) (fun _ _ _ h => h) (Or.inl ⟨by rfl, ?_⟩) (by assumption) ?_
    rotate_left
    focus (intro wq hSq; have f0 := HF.out wq hSq; go_simp <;> with_reducible rfl)
    simp only [Act.put, List.setIfInBounds_toArray, List.set_cons_zero, List.set_cons_succ]
    refine takeL 4 (v := ?_) rfl (by kernel_rfl) (by kernel_rfl) (by kernel_rfl) (fun _ _ _ h => h) (Or.inl ⟨by rfl, ?_⟩) (by assumption) ?_
    rotate_left
    focus (intro wq hSq; have f0 := HF.out wq hSq; go_simp <;> with_reducible rfl)
    simp only [Act.put, List.setIfInBounds_toArray, List.set_cons_zero, List.set_cons_succ]
    refine takeL 5 (v := ?_) rfl (by kernel_rfl) (by kernel_rfl) (by kernel_rfl) (fun _ _ _ h => h) (Or.inl ⟨by rfl, ?_⟩) (by assumption) ?_
    rotate_left
    focus (intro wq hSq; have f0 := HF.out wq hSq; go_simp <;> with_reducible rfl)
    simp only [Act.put, List.setIfInBounds_toArray, List.set_cons_zero, List.set_cons_succ]
    refine wpAnyH_ready (rs := [3]) (by kernel_rfl) (by simp) (nextL 3 rfl (fun Kr hKr => ?_) AllReadyH.nil)
    rw [if_pos (by rfl)]
    have y0 := (CBox.at_ HAD.out.1 0 _ rfl).1
    go_simp
    refine hKr.out _ _ hHeld (fun _ => ?_)
    clear hKr y0
    refine takeL 6 (v := ?_) rfl (by kernel_rfl) (by kernel_rfl) (by kernel_rfl) (fun _ _ _ h => h) (Or.inl ⟨by rfl, ?_⟩) (by assumption) ?_
    rotate_left
    focus (intro wq hSq; have f0 := HF.out wq hSq; go_simp <;> with_reducible rfl)
    simp only [Act.put, List.setIfInBounds_toArray, List.set_cons_zero, List.set_cons_succ]
    refine takeL 7 (v := ?_) rfl (by kernel_rfl) (by kernel_rfl) (by kernel_rfl) (fun _ _ _ h => h) (Or.inl ⟨by rfl, ?_⟩) (by assumption) ?_
    rotate_left
    focus (intro wq hSq; have f0 := HF.out wq hSq; go_simp <;> with_reducible rfl)
    simp only [Act.put, List.setIfInBounds_toArray, List.set_cons_zero, List.set_cons_succ]
    refine takeL 8 (v := ?_) rfl (by kernel_rfl) (by kernel_rfl) (by kernel_rfl) (fun _ _ _ h => h) (Or.inl ⟨by rfl, ?_⟩) (by assumption) ?_
    rotate_left
    focus (intro wq hSq; have f0 := HF.out wq hSq; go_simp <;> with_reducible rfl)
    simp only [Act.put, List.setIfInBounds_toArray, List.set_cons_zero, List.set_cons_succ]
    refine wpAnyH_ready (rs := [9]) (by kernel_rfl) (by simp) (nextL 9 rfl (fun Kr hKr => ?_) AllReadyH.nil)
    rw [if_pos (by rfl)]
    obtain ⟨y0, yf0⟩ := CBox.at_ HAD.out.1 0 _ rfl
    go_simp
    have HA8 := Lib.hid (HAD.out.text ((SS) ++ g))
    refine hKr.out _ _ HA8.out.2.1 (fun _ => ?_)
    clear hKr y0 yf0
    refine wpAnyH_done (by kernel_rfl) ?_ _
    go_wp2_with fail
    go_end0
    exact ⟨rfl, _, _, HA8.out.1, by rw [HM.out]; rfl, fun h => (by cases h), HA8.out.2.2.1⟩

set_option maxHeartbeats 4000000 in
theorem mtell_n2 (k v mx r ev : Int) (g : Str) (q : Bool) (so : Option Addr) (L : List Str) (sc : Nat) (ro : Option Addr) (R : List Rec) (rc : Nat) (b : Nat) (w : World) (hw : MW w b [] false)
    (hr : Recs w (.slice ro R.length rc) R) (hrb : b < w.heap.size) (hg : g.length ≤ 140737488351232) (h0 : k = 3) (h1 : ¬ v = 1):
    Calls Try.prog 30 #[.pointer (some ⟨b, 0, none⟩), .agg (msgCells k v g mx q r ev so L.length sc ro R.length rc)] w (RetAsk9 w b ⟨k, v, g, mx, q, r, ev, L, R⟩) := by
  have l2 := run_len_any (P := Try.prog) Try.underlying27 ro R.length rc
  have b0 : (⟨#[]⟩ : ByteArray) = bstr [] := bstr_nil.symm
  obtain ⟨ns, hns⟩ : ∃ ns, L.length = ns := ⟨_, rfl⟩
  obtain ⟨nr, hnr⟩ : ∃ nr, R.length = nr := ⟨_, rfl⟩
  rw [hns]
  rw [hnr] at l2 hr ⊢
  obtain ⟨mb, hmb⟩ : ∃ mb, w.heap.size = mb := ⟨_, rfl⟩
  obtain ⟨W1, hW1⟩ : ∃ W1, w.alloc (.cells (msgCells k v g mx q r ev so ns sc ro nr rc) 29) = W1 := ⟨_, rfl⟩
  have k1 : Below w.heap.size w W1 := by rw [← hW1]; exact (Below.refl _ _).alloc (Nat.le_refl _) _
  have HA1 := Lib.hid (show MS w W1 b mb [] false #[.int .i64 k, .int .i64 v, .string (bstr g), .int .i64 mx, .bool q, .int .i64 r, .int .i64 ev, .slice so ns sc, .slice ro nr rc] from
    ⟨hw.to k1, by rw [← hW1]; exact CBox.new _ hmb.symm, gb_below k1 _, hrb, Nat.le_of_eq hmb⟩)
  have HR1 := Lib.hid (hr.mono k1)
  have HW1 := Lib.hid hW1; have HMB := Lib.hid hmb
  have HNN := Lib.hid (And.intro hns hnr)
  have HGL := Lib.hid hg
  have HGM := Lib.hid (show g.length ≤ maxLen from Nat.le_trans hg (by decide))
  have HGR := Lib.hid (fun W => mgroup_any g W HGM.out)
  clear hw hr hrb hg hns hnr hmb hW1 k1
  have HM := Lib.hid (may9_no k v g mx q r ev L R (by omega) (by omega) (by omega) (by omega))
  have q1 : (k == 2) = false := beq_eq_false_iff_ne.2 (by omega)
  have q3 : (v == 1) = false := beq_eq_false_iff_ne.2 h1
  have q4 : (k == 3) = true := beq_iff_eq.2 h0
  clear h0 h1
  go_enter Try.func30, Try.ntmps30
  go_upto_region 2 with fail
  rw [HMB.out, HW1.out]
  have x0 := (HA1.out.2.1.at_ 0 _ rfl).1
  have x1 := (HA1.out.2.1.at_ 1 _ rfl).1
  obtain ⟨z1, zf1⟩ := CBox.at_ HA1.out.1 1 _ rfl
  go_upto_region 12 with fail
  have HA4 := Lib.hid (HA1.out.bad true)
  obtain ⟨W4, hW4⟩ : ∃ W, W1.setCell ⟨b, 1, none⟩ (.bool true) = W := ⟨_, rfl⟩
  rw [hW4] at HA4 ⊢
  clear hW4 z1 zf1 x0 x1
  have HGX := HGR.out
  obtain ⟨SS, hSS⟩ : ∃ S : Str, [] = S := ⟨_, rfl⟩
  rw [hSS] at HA4
  have HSS := Lib.hid hSS
  have hSl : SS.length ≤ 100 := by rw [← hSS]; simp
  have HSL0 := Lib.hid hSl
  clear hSS hSl
  have HWT := Lib.hid (fun W c (h : MS w W b mb (SS) (true) #[.int .i64 k, .int .i64 v, .string (bstr g), .int .i64 mx, .bool q, .int .i64 r, .int .i64 ev, .slice so ns sc, .slice ro nr rc]) => mwant_any b (SS) (true) c W h.1)
  unfold RetMW at HWT
  have HBR := Lib.hid (fun W => mbare_any (k) (v) mx r ev g q so ns sc ro nr rc W)
  obtain ⟨c8, hc8⟩ : ∃ c, grp g 16 = c := ⟨_, rfl⟩
  obtain ⟨c9, hc9⟩ : ∃ c, bareB mx q r ev ns nr = c := ⟨_, rfl⟩
  rw [hc9] at HBR
  rw [hc8] at HGR
  have HC := Lib.hid (And.intro hc8 hc9)
  clear hc8 hc9 HGX
  have x2 := (HA4.out.2.1.at_ 2 _ rfl).1
  go_cut [] (fun w' => MS w w' b mb (SS) ((true) || !(c8 && c9)) #[.int .i64 k, .int .i64 v, .string (bstr g), .int .i64 mx, .bool q, .int .i64 r, .int .i64 ev, .slice so ns sc, .slice ro nr rc])
  case first =>
    cases c8
    · go_wp2_with (first
        | ((with_reducible refine (HGR.out _).mono ?_); rintro e w5 ⟨rfl, hb5⟩; have HA5 := Lib.hid (HA4.out.to hb5); clear hb5 x2)
        | ((with_reducible refine (HWT.out _ _ HA5.out).mono ?_); rintro e w7 ⟨rfl, hm, hg⟩; have HA7 := Lib.hid (HA5.out.wr hm hg); clear hm hg))
      go_meet
      case rel => exact HA7.out
    · go_wp2_with (first
        | ((with_reducible refine (HGR.out _).mono ?_); rintro e w5 ⟨rfl, hb5⟩; have HA5 := Lib.hid (HA4.out.to hb5); clear hb5 x2; obtain ⟨x0, xf0⟩ := CBox.at_ HA5.out.2.1 0 _ rfl; obtain ⟨x1, xf1⟩ := CBox.at_ HA5.out.2.1 1 _ rfl; obtain ⟨x2, xf2⟩ := CBox.at_ HA5.out.2.1 2 _ rfl; obtain ⟨x3, xf3⟩ := CBox.at_ HA5.out.2.1 3 _ rfl; obtain ⟨x4, xf4⟩ := CBox.at_ HA5.out.2.1 4 _ rfl; obtain ⟨x5, xf5⟩ := CBox.at_ HA5.out.2.1 5 _ rfl; obtain ⟨x6, xf6⟩ := CBox.at_ HA5.out.2.1 6 _ rfl; obtain ⟨x7, xf7⟩ := CBox.at_ HA5.out.2.1 7 _ rfl; obtain ⟨x8, xf8⟩ := CBox.at_ HA5.out.2.1 8 _ rfl)
        | ((with_reducible refine (HBR.out _).mono ?_); rintro e w6 ⟨rfl, hb6⟩; have HA6 := Lib.hid (HA5.out.to hb6); clear hb6)
        | ((with_reducible refine (HWT.out _ _ HA6.out).mono ?_); rintro e w7 ⟨rfl, hm, hg⟩; have HA7 := Lib.hid (HA6.out.wr hm hg); clear hm hg))
      go_meet
      case rel => exact HA7.out
  case rest =>
    have HA7 := Lib.hid hcut
    clear hcut x2
    have n1 : ¬ 9223372036854775807 < (SS : Str).length + g.length := (Lk_start (SS) g HSL0.out HGL.out).2
    have a1 : bstr (SS) ++ bstr g = bstr ((SS) ++ g) := bstr_append _ _
    go_upto_region 13 with fail
    have HF := Lib.hid (show ∀ wq, CBox wq mb 29 #[.int .i64 k, .int .i64 v, .string (bstr g), .int .i64 mx, .bool q, .int .i64 r, .int .i64 ev, .slice so ns sc, .slice ro nr rc] → wq.cell? ⟨mb, 2, none⟩ = some (.string (bstr g)) from fun wq h => (h.at_ 2 _ rfl).1)
    have HAD := Lib.hid (HA7.out.to (Below.drew (Below.refl _ _)))
    refine wp_region_held_drew (S := fun W' => CBox W' mb 29 #[.int .i64 k, .int .i64 v, .string (bstr g), .int .i64 mx, .bool q, .int .i64 r, .int .i64 ev, .slice so ns sc, .slice ro nr rc]) (by kernel_rfl) HAD.out.2.1 (fun hHeld => ?_)
    obtain ⟨U, hU⟩ : ∃ U, World.drew wc = U := ⟨_, rfl⟩
    rw [hU] at hHeld HAD ⊢
    clear hU
    refine takeL 0 (v := ?_) rfl (by kernel_rfl) (by kernel_rfl) (by kernel_rfl) (fun _ _ _ h => h) (Or.inl ⟨by rfl, ?_⟩) (by assumption) ?_
    rotate_left
    focus (intro wq hSq; have f0 := HF.out wq hSq; go_simp <;> with_reducible rfl)
    simp only [Act.put, List.setIfInBounds_toArray, List.set_cons_zero, List.set_cons_succ]
    refine takeL 1 (v := ?_) rfl (by kernel_rfl) (by kernel_rfl) (by kernel_rfl) (fun _ _ _ h => h) (Or.inl ⟨by rfl, ?_⟩) (by assumption) ?_
    rotate_left
    focus (intro wq hSq; have f0 := HF.out wq hSq; go_simp <;> with_reducible rfl)
    simp only [Act.put, List.setIfInBounds_toArray, List.set_cons_zero, List.set_cons_succ]
    refine takeL 2 (v := ?_) rfl (by kernel_rfl) (by kernel_rfl) (by kernel_rfl) (fun _ _ _ h => h) (Or.inl ⟨by rfl, ?_⟩) (by assumption) ?_
    rotate_left
    focus (intro wq hSq; have f0 := HF.out wq hSq; go_simp <;> with_reducible rfl)
    simp only [Act.put, List.setIfInBounds_toArray, List.set_cons_zero, List.set_cons_succ]
    refine takeL 4 (v := ?_) rfl (by kernel_rfl) (by kernel_rfl) (by kernel_rfl) (fun _ _ _ h => h) (Or.inl ⟨by rfl, ?_⟩) (by assumption) ?_
    rotate_left
    focus (intro wq hSq; have f0 := HF.out wq hSq; go_simp <;> with_reducible rfl)
    simp only [Act.put, List.setIfInBounds_toArray, List.set_cons_zero, List.set_cons_succ]
    refine takeL 5 (v := ?_) rfl (by kernel_rfl) (by kernel_rfl) (by kernel_rfl) (fun _ _ _ h => h) (Or.inl ⟨by rfl, ?_⟩) (by assumption) ?_
    rotate_left
    focus (intro wq hSq; have f0 := HF.out wq hSq; go_simp <;> with_reducible rfl)
    simp only [Act.put, List.setIfInBounds_toArray, List.set_cons_zero, List.set_cons_succ]
    refine wpAnyH_ready (rs := [3]) (by kernel_rfl) (by simp) (nextL 3 rfl (fun Kr hKr => ?_) AllReadyH.nil)
    rw [if_pos (by rfl)]
    have y0 := (CBox.at_ HAD.out.1 0 _ rfl).1
    go_simp
    refine hKr.out _ _ hHeld (fun _ => ?_)
    clear hKr y0
    refine takeL 6 (v := ?_) rfl (by kernel_rfl) (by kernel_rfl) (by kernel_rfl) (fun _ _ _ h => h) (Or.inl ⟨by rfl, ?_⟩) (by assumption) ?_
    rotate_left
    focus (intro wq hSq; have f0 := HF.out wq hSq; go_simp <;> with_reducible rfl)
    simp only [Act.put, List.setIfInBounds_toArray, List.set_cons_zero, List.set_cons_succ]
    refine takeL 7 (v := ?_) rfl (by kernel_rfl) (by kernel_rfl) (by kernel_rfl) (fun _ _ _ h => h) (Or.inl ⟨by rfl, ?_⟩) (by assumption) ?_
    rotate_left
    focus (intro wq hSq; have f0 := HF.out wq hSq; go_simp <;> with_reducible rfl)
    simp only [Act.put, List.setIfInBounds_toArray, List.set_cons_zero, List.set_cons_succ]
    refine takeL 8 (v := ?_) rfl (by kernel_rfl) (by kernel_rfl) (by kernel_rfl) (fun _ _ _ h => h) (Or.inl ⟨by rfl, ?_⟩) (by assumption) ?_
    rotate_left
    focus (intro wq hSq; have f0 := HF.out wq hSq; go_simp <;> with_reducible rfl)
    simp only [Act.put, List.setIfInBounds_toArray, List.set_cons_zero, List.set_cons_succ]
    refine wpAnyH_ready (rs := [9]) (by kernel_rfl) (by simp) (nextL 9 rfl (fun Kr hKr => ?_) AllReadyH.nil)
    rw [if_pos (by rfl)]
    obtain ⟨y0, yf0⟩ := CBox.at_ HAD.out.1 0 _ rfl
    go_simp
    have HA8 := Lib.hid (HAD.out.text ((SS) ++ g))
    refine hKr.out _ _ HA8.out.2.1 (fun _ => ?_)
    clear hKr y0 yf0
    refine wpAnyH_done (by kernel_rfl) ?_ _
    go_wp2_with fail
    go_end0
    exact ⟨rfl, _, _, HA8.out.1, by rw [HM.out]; rfl, fun h => (by cases h), HA8.out.2.2.1⟩

set_option maxHeartbeats 4000000 in
theorem mtell_n3 (k v mx r ev : Int) (g : Str) (q : Bool) (so : Option Addr) (L : List Str) (sc : Nat) (ro : Option Addr) (R : List Rec) (rc : Nat) (b : Nat) (w : World) (hw : MW w b [] false)
    (hr : Recs w (.slice ro R.length rc) R) (hrb : b < w.heap.size) (hg : g.length ≤ 140737488351232) (h0 : ¬ k = 1) (h1 : ¬ k = 2) (h2 : ¬ k = 3):
    Calls Try.prog 30 #[.pointer (some ⟨b, 0, none⟩), .agg (msgCells k v g mx q r ev so L.length sc ro R.length rc)] w (RetAsk9 w b ⟨k, v, g, mx, q, r, ev, L, R⟩) := by
  have l2 := run_len_any (P := Try.prog) Try.underlying27 ro R.length rc
  have b0 : (⟨#[]⟩ : ByteArray) = bstr [] := bstr_nil.symm
  obtain ⟨ns, hns⟩ : ∃ ns, L.length = ns := ⟨_, rfl⟩
  obtain ⟨nr, hnr⟩ : ∃ nr, R.length = nr := ⟨_, rfl⟩
  rw [hns]
  rw [hnr] at l2 hr ⊢
  obtain ⟨mb, hmb⟩ : ∃ mb, w.heap.size = mb := ⟨_, rfl⟩
  obtain ⟨W1, hW1⟩ : ∃ W1, w.alloc (.cells (msgCells k v g mx q r ev so ns sc ro nr rc) 29) = W1 := ⟨_, rfl⟩
  have k1 : Below w.heap.size w W1 := by rw [← hW1]; exact (Below.refl _ _).alloc (Nat.le_refl _) _
  have HA1 := Lib.hid (show MS w W1 b mb [] false #[.int .i64 k, .int .i64 v, .string (bstr g), .int .i64 mx, .bool q, .int .i64 r, .int .i64 ev, .slice so ns sc, .slice ro nr rc] from
    ⟨hw.to k1, by rw [← hW1]; exact CBox.new _ hmb.symm, gb_below k1 _, hrb, Nat.le_of_eq hmb⟩)
  have HR1 := Lib.hid (hr.mono k1)
  have HW1 := Lib.hid hW1; have HMB := Lib.hid hmb
  have HNN := Lib.hid (And.intro hns hnr)
  have HGL := Lib.hid hg
  have HGM := Lib.hid (show g.length ≤ maxLen from Nat.le_trans hg (by decide))
  have HGR := Lib.hid (fun W => mgroup_any g W HGM.out)
  clear hw hr hrb hg hns hnr hmb hW1 k1
  have HM := Lib.hid (may9_no k v g mx q r ev L R h0 (by omega) (by omega) (by omega))
  have q1 : (k == 2) = false := beq_eq_false_iff_ne.2 h1
  have q4 : (k == 3) = false := beq_eq_false_iff_ne.2 h2
  clear h0 h1 h2
  go_enter Try.func30, Try.ntmps30
  go_upto_region 2 with fail
  rw [HMB.out, HW1.out]
  have x0 := (HA1.out.2.1.at_ 0 _ rfl).1
  have x1 := (HA1.out.2.1.at_ 1 _ rfl).1
  obtain ⟨z1, zf1⟩ := CBox.at_ HA1.out.1 1 _ rfl
  go_upto_region 12 with fail
  have HA4 := Lib.hid (HA1.out.bad true)
  obtain ⟨W4, hW4⟩ : ∃ W, W1.setCell ⟨b, 1, none⟩ (.bool true) = W := ⟨_, rfl⟩
  rw [hW4] at HA4 ⊢
  clear hW4 z1 zf1 x0 x1
  have HGX := HGR.out
  obtain ⟨SS, hSS⟩ : ∃ S : Str, [] = S := ⟨_, rfl⟩
  rw [hSS] at HA4
  have HSS := Lib.hid hSS
  have hSl : SS.length ≤ 100 := by rw [← hSS]; simp
  have HSL0 := Lib.hid hSl
  clear hSS hSl
  have HWT := Lib.hid (fun W c (h : MS w W b mb (SS) (true) #[.int .i64 k, .int .i64 v, .string (bstr g), .int .i64 mx, .bool q, .int .i64 r, .int .i64 ev, .slice so ns sc, .slice ro nr rc]) => mwant_any b (SS) (true) c W h.1)
  unfold RetMW at HWT
  have HBR := Lib.hid (fun W => mbare_any (k) (v) mx r ev g q so ns sc ro nr rc W)
  obtain ⟨c8, hc8⟩ : ∃ c, grp g 16 = c := ⟨_, rfl⟩
  obtain ⟨c9, hc9⟩ : ∃ c, bareB mx q r ev ns nr = c := ⟨_, rfl⟩
  rw [hc9] at HBR
  rw [hc8] at HGR
  have HC := Lib.hid (And.intro hc8 hc9)
  clear hc8 hc9 HGX
  have x2 := (HA4.out.2.1.at_ 2 _ rfl).1
  go_cut [] (fun w' => MS w w' b mb (SS) ((true) || !(c8 && c9)) #[.int .i64 k, .int .i64 v, .string (bstr g), .int .i64 mx, .bool q, .int .i64 r, .int .i64 ev, .slice so ns sc, .slice ro nr rc])
  case first =>
    cases c8
    · go_wp2_with (first
        | ((with_reducible refine (HGR.out _).mono ?_); rintro e w5 ⟨rfl, hb5⟩; have HA5 := Lib.hid (HA4.out.to hb5); clear hb5 x2)
        | ((with_reducible refine (HWT.out _ _ HA5.out).mono ?_); rintro e w7 ⟨rfl, hm, hg⟩; have HA7 := Lib.hid (HA5.out.wr hm hg); clear hm hg))
      go_meet
      case rel => exact HA7.out
    · go_wp2_with (first
        | ((with_reducible refine (HGR.out _).mono ?_); rintro e w5 ⟨rfl, hb5⟩; have HA5 := Lib.hid (HA4.out.to hb5); clear hb5 x2; obtain ⟨x0, xf0⟩ := CBox.at_ HA5.out.2.1 0 _ rfl; obtain ⟨x1, xf1⟩ := CBox.at_ HA5.out.2.1 1 _ rfl; obtain ⟨x2, xf2⟩ := CBox.at_ HA5.out.2.1 2 _ rfl; obtain ⟨x3, xf3⟩ := CBox.at_ HA5.out.2.1 3 _ rfl; obtain ⟨x4, xf4⟩ := CBox.at_ HA5.out.2.1 4 _ rfl; obtain ⟨x5, xf5⟩ := CBox.at_ HA5.out.2.1 5 _ rfl; obtain ⟨x6, xf6⟩ := CBox.at_ HA5.out.2.1 6 _ rfl; obtain ⟨x7, xf7⟩ := CBox.at_ HA5.out.2.1 7 _ rfl; obtain ⟨x8, xf8⟩ := CBox.at_ HA5.out.2.1 8 _ rfl)
        | ((with_reducible refine (HBR.out _).mono ?_); rintro e w6 ⟨rfl, hb6⟩; have HA6 := Lib.hid (HA5.out.to hb6); clear hb6)
        | ((with_reducible refine (HWT.out _ _ HA6.out).mono ?_); rintro e w7 ⟨rfl, hm, hg⟩; have HA7 := Lib.hid (HA6.out.wr hm hg); clear hm hg))
      go_meet
      case rel => exact HA7.out
  case rest =>
    have HA7 := Lib.hid hcut
    clear hcut x2
    have n1 : ¬ 9223372036854775807 < (SS : Str).length + g.length := (Lk_start (SS) g HSL0.out HGL.out).2
    have a1 : bstr (SS) ++ bstr g = bstr ((SS) ++ g) := bstr_append _ _
    go_upto_region 13 with fail
    have HF := Lib.hid (show ∀ wq, CBox wq mb 29 #[.int .i64 k, .int .i64 v, .string (bstr g), .int .i64 mx, .bool q, .int .i64 r, .int .i64 ev, .slice so ns sc, .slice ro nr rc] → wq.cell? ⟨mb, 2, none⟩ = some (.string (bstr g)) from fun wq h => (h.at_ 2 _ rfl).1)
    have HAD := Lib.hid (HA7.out.to (Below.drew (Below.refl _ _)))
    refine wp_region_held_drew (S := fun W' => CBox W' mb 29 #[.int .i64 k, .int .i64 v, .string (bstr g), .int .i64 mx, .bool q, .int .i64 r, .int .i64 ev, .slice so ns sc, .slice ro nr rc]) (by kernel_rfl) HAD.out.2.1 (fun hHeld => ?_)
    obtain ⟨U, hU⟩ : ∃ U, World.drew wc = U := ⟨_, rfl⟩
    rw [hU] at hHeld HAD ⊢
    clear hU
    refine takeL 0 (v := ?_) rfl (by kernel_rfl) (by kernel_rfl) (by kernel_rfl) (fun _ _ _ h => h) (Or.inl ⟨by rfl, ?_⟩) (by assumption) ?_
    rotate_left
    focus (intro wq hSq; have f0 := HF.out wq hSq; go_simp <;> with_reducible rfl)
    simp only [Act.put, List.setIfInBounds_toArray, List.set_cons_zero, List.set_cons_succ]
    refine takeL 1 (v := ?_) rfl (by kernel_rfl) (by kernel_rfl) (by kernel_rfl) (fun _ _ _ h => h) (Or.inl ⟨by rfl, ?_⟩) (by assumption) ?_
    rotate_left
    focus (intro wq hSq; have f0 := HF.out wq hSq; go_simp <;> with_reducible rfl)
    simp only [Act.put, List.setIfInBounds_toArray, List.set_cons_zero, List.set_cons_succ]
    refine takeL 2 (v := ?_) rfl (by kernel_rfl) (by kernel_rfl) (by kernel_rfl) (fun _ _ _ h => h) (Or.inl ⟨by rfl, ?_⟩) (by assumption) ?_
    rotate_left
    focus (intro wq hSq; have f0 := HF.out wq hSq; go_simp <;> with_reducible rfl)
    simp only [Act.put, List.setIfInBounds_toArray, List.set_cons_zero, List.set_cons_succ]
    refine takeL 4 (v := ?_) rfl (by kernel_rfl) (by kernel_rfl) (by kernel_rfl) (fun _ _ _ h => h) (Or.inl ⟨by rfl, ?_⟩) (by assumption) ?_
    rotate_left
    focus (intro wq hSq; have f0 := HF.out wq hSq; go_simp <;> with_reducible rfl)
    simp only [Act.put, List.setIfInBounds_toArray, List.set_cons_zero, List.set_cons_succ]
    refine takeL 5 (v := ?_) rfl (by kernel_rfl) (by kernel_rfl) (by kernel_rfl) (fun _ _ _ h => h) (Or.inl ⟨by rfl, ?_⟩) (by assumption) ?_
    rotate_left
    focus (intro wq hSq; have f0 := HF.out wq hSq; go_simp <;> with_reducible rfl)
    simp only [Act.put, List.setIfInBounds_toArray, List.set_cons_zero, List.set_cons_succ]
    refine wpAnyH_ready (rs := [3]) (by kernel_rfl) (by simp) (nextL 3 rfl (fun Kr hKr => ?_) AllReadyH.nil)
    rw [if_pos (by rfl)]
    have y0 := (CBox.at_ HAD.out.1 0 _ rfl).1
    go_simp
    refine hKr.out _ _ hHeld (fun _ => ?_)
    clear hKr y0
    refine takeL 6 (v := ?_) rfl (by kernel_rfl) (by kernel_rfl) (by kernel_rfl) (fun _ _ _ h => h) (Or.inl ⟨by rfl, ?_⟩) (by assumption) ?_
    rotate_left
    focus (intro wq hSq; have f0 := HF.out wq hSq; go_simp <;> with_reducible rfl)
    simp only [Act.put, List.setIfInBounds_toArray, List.set_cons_zero, List.set_cons_succ]
    refine takeL 7 (v := ?_) rfl (by kernel_rfl) (by kernel_rfl) (by kernel_rfl) (fun _ _ _ h => h) (Or.inl ⟨by rfl, ?_⟩) (by assumption) ?_
    rotate_left
    focus (intro wq hSq; have f0 := HF.out wq hSq; go_simp <;> with_reducible rfl)
    simp only [Act.put, List.setIfInBounds_toArray, List.set_cons_zero, List.set_cons_succ]
    refine takeL 8 (v := ?_) rfl (by kernel_rfl) (by kernel_rfl) (by kernel_rfl) (fun _ _ _ h => h) (Or.inl ⟨by rfl, ?_⟩) (by assumption) ?_
    rotate_left
    focus (intro wq hSq; have f0 := HF.out wq hSq; go_simp <;> with_reducible rfl)
    simp only [Act.put, List.setIfInBounds_toArray, List.set_cons_zero, List.set_cons_succ]
    refine wpAnyH_ready (rs := [9]) (by kernel_rfl) (by simp) (nextL 9 rfl (fun Kr hKr => ?_) AllReadyH.nil)
    rw [if_pos (by rfl)]
    obtain ⟨y0, yf0⟩ := CBox.at_ HAD.out.1 0 _ rfl
    go_simp
    have HA8 := Lib.hid (HAD.out.text ((SS) ++ g))
    refine hKr.out _ _ HA8.out.2.1 (fun _ => ?_)
    clear hKr y0 yf0
    refine wpAnyH_done (by kernel_rfl) ?_ _
    go_wp2_with fail
    go_end0
    exact ⟨rfl, _, _, HA8.out.1, by rw [HM.out]; rfl, fun h => (by cases h), HA8.out.2.2.1⟩

theorem mtell_any (k v mx r ev : Int) (g : Str) (q : Bool) (so : Option Addr) (L : List Str) (sc : Nat) (ro : Option Addr) (R : List Rec) (rc : Nat) (b : Nat) (w : World) (hw : MW w b [] false)
    (hr : Recs w (.slice ro R.length rc) R) (hg : g.length ≤ 140737488351232) (hk : ¬ k = 1) :
    Calls Try.prog 30 #[.pointer (some ⟨b, 0, none⟩), .agg (msgCells k v g mx q r ev so L.length sc ro R.length rc)] w (RetAsk9 w b ⟨k, v, g, mx, q, r, ev, L, R⟩) := by
  have hb := CBox.lt hw
  by_cases h2 : k = 2
  · by_cases v2 : v = 2
    · subst h2 v2; exact mtell_22 mx r ev g q so L sc ro R rc b w hw hr hb hg
    · by_cases v1 : v = 1
      · subst h2 v1; exact mtell_21 mx r ev g q so L sc ro R rc b w hw hr hb hg
      · exact mtell_n1 k v mx r ev g q so L sc ro R rc b w hw hr hb hg h2 v2 v1
  · by_cases h3 : k = 3
    · by_cases v1 : v = 1
      · subst h3 v1; exact mtell_31 mx r ev g q so L sc ro R rc b w hw hr hb hg
      · exact mtell_n2 k v mx r ev g q so L sc ro R rc b w hw hr hb hg h3 v1
    · exact mtell_n3 k v mx r ev g q so L sc ro R rc b w hw hr hb hg hk h2 h3
end Go.Proofs.Ythkibgdeibolfaa
