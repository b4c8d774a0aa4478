/- siphonref08.Bare, May. -/
import Derived.Test.YthkogdgfkhhleaaJEnc
import Derived.Test.YthkogdgfkhhleaaJBody2
import Derived.Test.YthkogdgfkhhleaaJDecode3
namespace Go.Proofs.Ythkogdgfkhhleaa
open Go.RowKit Go.Sort
set_option maxRecDepth 20000
set_option maxRecDepth 20000
attribute [local go_sem] bstr_size bstr_extract bstr_toList bstr_get

set_option maxHeartbeats 4000000 in
theorem rbare_any (k v mx r ev : Int) (g : Str) (q : Bool) (so : Option Addr) (ns sc : Nat) (ro : Option Addr) (nr rc : Nat) (w : World) :
    Calls Try.prog 62 #[.agg #[.int .i64 k, .int .i64 v, .string (bstr g), .int .i64 mx, .bool q, .int .i64 r, .int .i64 ev, .slice so ns sc, .slice ro nr rc]] w fun e w' => e = .returned (.bool (bareB mx q r ev ns nr)) ∧ Below w.heap.size w w' := by
  unfold bareB
  have l1 := run_len_any (P := Try.prog) Try.underlying24 so ns sc
  have l2 := run_len_any (P := Try.prog) Try.underlying25 ro nr rc
  obtain ⟨b1, h1⟩ : ∃ b1, (mx == 0) = b1 := ⟨_, rfl⟩
  obtain ⟨b3, h3⟩ : ∃ b3, (r == 0) = b3 := ⟨_, rfl⟩
  obtain ⟨b4, h4⟩ : ∃ b4, (ev == 0) = b4 := ⟨_, rfl⟩
  obtain ⟨b5, h5⟩ : ∃ b5, ((ns : Int) == 0) = b5 := ⟨_, rfl⟩
  obtain ⟨b6, h6⟩ : ∃ b6, ((nr : Int) == 0) = b6 := ⟨_, rfl⟩
  rw [h1, h3, h4, h5, h6]
  have HB := Lib.hid (show ∀ o, Below w.heap.size w (w.alloc o) from fun o => (Below.refl _ _).alloc (Nat.le_refl _) o)
  cases b1
  · go_enter Try.func62, Try.ntmps62
    go_wp2_with fail
    go_ret
    exact ⟨rfl, HB.out _⟩
  · cases q
    rotate_left
    · go_enter Try.func62, Try.ntmps62
      go_wp2_with fail
      go_ret
      exact ⟨rfl, HB.out _⟩
    · cases b3
      · go_enter Try.func62, Try.ntmps62
        go_wp2_with fail
        go_ret
        exact ⟨rfl, HB.out _⟩
      · cases b4
        · go_enter Try.func62, Try.ntmps62
          go_wp2_with fail
          go_ret
          exact ⟨rfl, HB.out _⟩
        · cases b5
          · go_enter Try.func62, Try.ntmps62
            go_wp2_with fail
            go_ret
            exact ⟨rfl, HB.out _⟩
          · go_enter Try.func62, Try.ntmps62
            go_wp2_with fail
            go_ret
            exact ⟨rfl, HB.out _⟩

theorem rbody4 (v : Value) (R : List Rec) (w : World) (h : Recs w v R) :
    Calls Try.prog 21 #[v, .int .i64 4] w (RetBody w (pbody R 4).1 (pbody R 4).2) := rbody_any v R 4 w h
theorem sized4 (v : Value) (L : List Str) (w : World) (h : Strs w v L) : Calls Try.prog 46 #[v, .int .i64 4] w fun e w' => e = .returned (.bool (sized L 4)) ∧ w = w' := sized_any v L 4 w h
def RetB (w : World) (c : Bool) (e : Ending) (w' : World) : Prop := e = .returned (.bool c) ∧ Below w.heap.size w w'
theorem may_23 (g : Str) (mx : Int) (q : Bool) (r ev : Int) (L : List Str) (R : List Rec) : mayM ⟨2, 3, g, mx, q, r, ev, L, R⟩ = (decide (g = []) && ((pbody R 4).2 == 0) && bareB mx q r ev L.length 0) := by
  have h : mayM ⟨2, 3, g, mx, q, r, ev, L, R⟩ = (decide (g = []) && bodyOk R 4 && bare ⟨2, 3, g, mx, q, r, ev, L, []⟩) := rfl
  have hb := bareB_bare 2 3 g mx q r ev L []
  rw [List.length_nil] at hb
  have hp : ((pbody R 4).2 == 0) = bodyOk R 4 := by unfold pbody; cases bodyOk R 4 <;> rfl
  rw [h, hb, hp]
theorem may_21 (g : Str) (mx : Int) (q : Bool) (r ev : Int) (L : List Str) (R : List Rec) : mayM ⟨2, 1, g, mx, q, r, ev, L, R⟩ = (grp g 4 && bareB mx q r ev L.length R.length) := by rw [bareB_bare 2 1 g]; rfl
theorem may_22 (g : Str) (mx : Int) (q : Bool) (r ev : Int) (L : List Str) (R : List Rec) : mayM ⟨2, 2, g, mx, q, r, ev, L, R⟩ = (grp g 4 && bareB mx q r ev L.length R.length) := by rw [bareB_bare 2 2 g]; rfl
theorem may_32 (g : Str) (mx : Int) (q : Bool) (r ev : Int) (L : List Str) (R : List Rec) : mayM ⟨3, 2, g, mx, q, r, ev, L, R⟩ = (grp g 4 && bareB mx q r ev L.length R.length) := by rw [bareB_bare 3 2 g]; rfl
theorem may_no (k v : Int) (g : Str) (mx : Int) (q : Bool) (r ev : Int) (L : List Str) (R : List Rec) (hk : ¬ k = 1) (h1 : ¬ (k = 2 ∧ (v = 1 ∨ v = 2 ∨ v = 3))) (h2 : ¬ (k = 3 ∧ v = 2)) : mayM ⟨k, v, g, mx, q, r, ev, L, R⟩ = false := by
  unfold mayM
  rw [if_neg hk, if_neg (show ¬ (k = 2 ∧ v = 3) from fun h => h1 ⟨h.1, .inr (.inr h.2)⟩)]
  have : ((decide (k = 2) && (decide (v = 1) || decide (v = 2))) || (decide (k = 3) && decide (v = 2))) = false := by
    by_cases a1 : k = 2 <;> by_cases a2 : v = 1 <;> by_cases a3 : v = 2 <;> by_cases a4 : k = 3 <;> simp_all
  rw [this]; rfl
theorem isEmpty_ne {g : Str} (h : ¬ g = []) : g.isEmpty = false := by
  cases g
  · exact absurd rfl h
  · rfl
def qZ (g : Str) (nr : Nat) : Bool := (!decide (g = []) && !grp g 4) || decide (0 < nr)
theorem may_1 (v : Int) (g : Str) (mx : Int) (q : Bool) (r ev : Int) (L : List Str) (R : List Rec) : mayM ⟨1, v, g, mx, q, r, ev, L, R⟩ = (!qZ g R.length &&
    (if v = 3 then exact8 mx && exact8 ev && decide (0 ≤ r) && decide (r ≤ 7) && sized L 4 && (!decide (g = []) || ((L.length : Int) == 0))
     else bareB 0 q r ev L.length R.length && ((decide (v = 1) && (mx == 0)) || (decide (v = 2) && decide (1 ≤ mx) && decide (mx ≤ 255))))) := by
  rw [bareB_bare 1 v g 0 q r ev L R]
  have e1 : decide (0 < R.length) = !decide (R = []) := by cases R <;> simp
  have e2 : ((L.length : Int) == 0) = decide (L = []) := by cases L <;> simp; omega
  have e3 : decide (g ≠ []) = !decide (g = []) := by cases g <;> rfl
  have e5 : (mx == 0) = decide (mx = 0) := by rw [Bool.eq_iff_iff, beq_iff_eq, decide_eq_true_eq]
  have h : mayM ⟨1, v, g, mx, q, r, ev, L, R⟩ = ((decide (g = []) || grp g 4) && decide (R = []) &&
    (if v = 3 then exact8 mx && exact8 ev && decide (0 ≤ r) && decide (r ≤ 7) && sized L 4 && (decide (g ≠ []) || decide (L = []))
     else bare ⟨1, v, g, 0, q, r, ev, L, R⟩ && ((decide (v = 1) && decide (mx = 0)) || (decide (v = 2) && decide (1 ≤ mx) && decide (mx ≤ 255))))) := by
    unfold mayM
    rw [if_pos rfl]
  rw [h, e2, e3, e5]
  unfold qZ
  rw [e1]
  by_cases hg : g = []
  · rw [decide_eq_true hg]; cases decide (R = []) <;> rfl
  · rw [decide_eq_false hg]; cases grp g 4 <;> cases decide (R = []) <;> rfl

set_option maxHeartbeats 4000000 in
theorem may_any (k v mx r ev : Int) (g : Str) (q : Bool) (so : Option Addr) (L : List Str) (sc : Nat) (ro : Option Addr) (R : List Rec) (rc : Nat) (w : World)
    (hs : Strs w (.slice so L.length sc) L) (hrs : Recs w (.slice ro R.length rc) R) (hg : g.length ≤ maxLen) :
    Calls Try.prog 37 #[.agg (msgCells k v g mx q r ev so L.length sc ro R.length rc)] w (RetB w (mayM ⟨k, v, g, mx, q, r, ev, L, R⟩)) := by
  have l1 := run_len_any (P := Try.prog) Try.underlying24 so L.length sc
  have l2 := run_len_any (P := Try.prog) Try.underlying25 ro R.length rc
  have b0 : (⟨#[]⟩ : ByteArray) = bstr [] := bstr_nil.symm
  obtain ⟨W1, hW1⟩ : ∃ W1, w.alloc (.cells (msgCells k v g mx q r ev so L.length sc ro R.length rc) 27) = W1 := ⟨_, rfl⟩
  obtain ⟨mb, hmb⟩ : ∃ mb, w.heap.size = mb := ⟨_, rfl⟩
  have hb1 : Below w.heap.size w W1 := by rw [← hW1]; exact (Below.refl _ _).alloc (Nat.le_refl _) _
  have HX1 := Lib.hid (show CBox W1 mb 27 (msgCells k v g mx q r ev so L.length sc ro R.length rc) from by rw [← hW1]; exact CBox.new _ hmb.symm)
  have HS1 := Lib.hid (hs.mono hb1); have HR1 := Lib.hid (hrs.mono hb1)
  have HB1 := Lib.hid (show Below mb w W1 from hmb ▸ hb1)
  have HW1 := Lib.hid hW1; have HMB := Lib.hid hmb; have HG := Lib.hid hg
  have HGR := Lib.hid (fun W => rgroup4 g W hg)
  obtain ⟨ns, hns⟩ : ∃ ns, L.length = ns := ⟨_, rfl⟩
  obtain ⟨nr, hnr⟩ : ∃ nr, R.length = nr := ⟨_, rfl⟩
  rw [hns] at l1 HX1 HS1 HW1
  rw [hnr] at l2 HX1 HR1 HW1
  rw [hns, hnr]
  have HNS := Lib.hid hns; have HNR := Lib.hid hnr
  clear hs hrs hg hW1 hmb hb1 hns hnr
  obtain ⟨t3, ht3⟩ : ∃ t, grp g 4 = t := ⟨_, rfl⟩
  rw [ht3] at HGR
  have HT3 := Lib.hid ht3
  clear ht3
  by_cases hk1 : k = 1
  · subst hk1
    obtain ⟨t1, ht1⟩ : ∃ t, decide (0 < nr) = t := ⟨_, rfl⟩
    have ht1' : decide ((0 : Int) < nr) = t1 := by rw [← ht1]; exact decide_eq_decide.2 (by omega)
    obtain ⟨z0, hz0⟩ : ∃ z, qZ g nr = z := ⟨_, rfl⟩
    have HZ := Lib.hid (show ((!decide (g = []) && !t3) || t1) = z0 from by rw [← HT3.out, ← ht1]; exact hz0)
    have HZ0 := Lib.hid hz0
    clear hz0
    by_cases hv3 : v = 3
    · subst hv3
      have HM0 := Lib.hid (show mayM ⟨1, 3, g, mx, q, r, ev, L, R⟩ = (!z0 && (exact8 mx && exact8 ev && decide (0 ≤ r) && decide (r ≤ 7) && sized L 4 && (!decide (g = []) || ((ns : Int) == 0)))) from by rw [may_1, HNR.out, HNS.out, HZ0.out]; rfl)
      obtain ⟨y1, hy1⟩ : ∃ y, exact8 mx = y := ⟨_, rfl⟩
      obtain ⟨y2, hy2⟩ : ∃ y, exact8 ev = y := ⟨_, rfl⟩
      obtain ⟨y3, hy3⟩ : ∃ y, decide (0 ≤ r) = y := ⟨_, rfl⟩
      obtain ⟨y4, hy4⟩ : ∃ y, decide (r ≤ 7) = y := ⟨_, rfl⟩
      obtain ⟨y5, hy5⟩ : ∃ y, sized L 4 = y := ⟨_, rfl⟩
      obtain ⟨y6, hy6⟩ : ∃ y, ((ns : Int) == 0) = y := ⟨_, rfl⟩
      rw [hy1, hy2, hy3, hy4, hy5, hy6] at HM0
      have HE1 := Lib.hid (fun W => exact8_any mx W)
      have HE2 := Lib.hid (fun W => exact8_any ev W)
      have HSZ := Lib.hid (sized4 _ L W1 HS1.out)
      rw [hy1] at HE1
      rw [hy2] at HE2
      rw [hy5] at HSZ
      clear hy1 hy2 hy5
      go_enter Try.func37, Try.ntmps37
      go_upto_region 1 with fail
      rw [HMB.out, HW1.out]
      have X1 := HX1.out
      obtain ⟨x0, xf0⟩ := CBox.at_ X1 0 _ rfl
      obtain ⟨x1, xf1⟩ := CBox.at_ X1 1 _ rfl
      obtain ⟨x2, xf2⟩ := CBox.at_ X1 2 _ rfl
      obtain ⟨x3, xf3⟩ := CBox.at_ X1 3 _ rfl
      obtain ⟨x4, xf4⟩ := CBox.at_ X1 4 _ rfl
      obtain ⟨x5, xf5⟩ := CBox.at_ X1 5 _ rfl
      obtain ⟨x6, xf6⟩ := CBox.at_ X1 6 _ rfl
      obtain ⟨x7, xf7⟩ := CBox.at_ X1 7 _ rfl
      obtain ⟨x8, xf8⟩ := CBox.at_ X1 8 _ rfl
      clear X1
      go_upto_region 11 with fail
      go_cut [82] (fun s82 w' => s82 = .bool z0 ∧ W1 = w')
      case first =>
        by_cases hg0 : g = []
        · have HZ' := Lib.hid (show z0 = t1 from by rw [← HZ.out, decide_eq_true hg0]; cases t1 <;> rfl)
          subst hg0
          go_wp2_with fail
          go_meet
          case rel => exact ⟨by rw [HZ'.out], rfl⟩
        · have e1 : (g == []) = false := beq_eq_false_iff_ne.2 hg0
          have e2 : g.isEmpty = false := isEmpty_ne hg0
          have HZ' := Lib.hid (show z0 = (!t3 || t1) from by rw [← HZ.out, decide_eq_false hg0]; cases t1 <;> cases t3 <;> rfl)
          clear hg0
          cases t3
          · go_wp2_with ((with_reducible refine (HGR.out _).mono ?_); rintro e w2 ⟨rfl, hw2⟩; subst hw2)
            go_meet
            case rel => exact ⟨by rw [HZ'.out]; rfl, rfl⟩
          · go_wp2_with ((with_reducible refine (HGR.out _).mono ?_); rintro e w2 ⟨rfl, hw2⟩; subst hw2)
            go_meet
            case rel => exact ⟨by rw [HZ'.out]; rfl, rfl⟩
      case rest =>
        obtain ⟨rfl, hcut⟩ := hcut
        subst hcut
        clear x0 xf0 x1 xf1 x2 xf2 x3 xf3 x4 xf4 x5 xf5 x6 xf6 x7 xf7 x8 xf8
        have X1 := HX1.out
        obtain ⟨x0, xf0⟩ := CBox.at_ X1 0 _ rfl
        obtain ⟨x1, xf1⟩ := CBox.at_ X1 1 _ rfl
        obtain ⟨x2, xf2⟩ := CBox.at_ X1 2 _ rfl
        obtain ⟨x3, xf3⟩ := CBox.at_ X1 3 _ rfl
        obtain ⟨x4, xf4⟩ := CBox.at_ X1 4 _ rfl
        obtain ⟨x5, xf5⟩ := CBox.at_ X1 5 _ rfl
        obtain ⟨x6, xf6⟩ := CBox.at_ X1 6 _ rfl
        obtain ⟨x7, xf7⟩ := CBox.at_ X1 7 _ rfl
        obtain ⟨x8, xf8⟩ := CBox.at_ X1 8 _ rfl
        clear X1
        cases z0
        rotate_left
        · go_wp2_with fail
          go_ret
          exact ⟨by rw [HM0.out]; rfl, HMB.out ▸ HB1.out⟩
        · cases y1
          · go_wp2_with (first | ((with_reducible refine (HE1.out _).mono ?_); rintro e w4 ⟨rfl, hw4⟩; subst hw4) | ((with_reducible refine (HE2.out _).mono ?_); rintro e w5 ⟨rfl, hw5⟩; subst hw5) | ((with_reducible refine HSZ.out.mono ?_); rintro e w6 ⟨rfl, hw6⟩; subst hw6))
            go_ret
            exact ⟨by rw [HM0.out]; rfl, HMB.out ▸ HB1.out⟩
          · cases y2
            · go_wp2_with (first | ((with_reducible refine (HE1.out _).mono ?_); rintro e w4 ⟨rfl, hw4⟩; subst hw4) | ((with_reducible refine (HE2.out _).mono ?_); rintro e w5 ⟨rfl, hw5⟩; subst hw5) | ((with_reducible refine HSZ.out.mono ?_); rintro e w6 ⟨rfl, hw6⟩; subst hw6))
              go_ret
              exact ⟨by rw [HM0.out]; rfl, HMB.out ▸ HB1.out⟩
            · cases y3
              · go_wp2_with (first | ((with_reducible refine (HE1.out _).mono ?_); rintro e w4 ⟨rfl, hw4⟩; subst hw4) | ((with_reducible refine (HE2.out _).mono ?_); rintro e w5 ⟨rfl, hw5⟩; subst hw5) | ((with_reducible refine HSZ.out.mono ?_); rintro e w6 ⟨rfl, hw6⟩; subst hw6))
                go_ret
                exact ⟨by rw [HM0.out]; rfl, HMB.out ▸ HB1.out⟩
              · cases y4
                · go_wp2_with (first | ((with_reducible refine (HE1.out _).mono ?_); rintro e w4 ⟨rfl, hw4⟩; subst hw4) | ((with_reducible refine (HE2.out _).mono ?_); rintro e w5 ⟨rfl, hw5⟩; subst hw5) | ((with_reducible refine HSZ.out.mono ?_); rintro e w6 ⟨rfl, hw6⟩; subst hw6))
                  go_ret
                  exact ⟨by rw [HM0.out]; rfl, HMB.out ▸ HB1.out⟩
                · cases y5
                  · go_wp2_with (first | ((with_reducible refine (HE1.out _).mono ?_); rintro e w4 ⟨rfl, hw4⟩; subst hw4) | ((with_reducible refine (HE2.out _).mono ?_); rintro e w5 ⟨rfl, hw5⟩; subst hw5) | ((with_reducible refine HSZ.out.mono ?_); rintro e w6 ⟨rfl, hw6⟩; subst hw6))
                    go_ret
                    exact ⟨by rw [HM0.out]; rfl, HMB.out ▸ HB1.out⟩
                  · by_cases hg0 : g = []
                    · subst hg0
                      cases y6
                      · go_wp2_with (first | ((with_reducible refine (HE1.out _).mono ?_); rintro e w4 ⟨rfl, hw4⟩; subst hw4) | ((with_reducible refine (HE2.out _).mono ?_); rintro e w5 ⟨rfl, hw5⟩; subst hw5) | ((with_reducible refine HSZ.out.mono ?_); rintro e w6 ⟨rfl, hw6⟩; subst hw6))
                        go_ret
                        exact ⟨by rw [HM0.out]; rfl, HMB.out ▸ HB1.out⟩
                      · go_wp2_with (first | ((with_reducible refine (HE1.out _).mono ?_); rintro e w4 ⟨rfl, hw4⟩; subst hw4) | ((with_reducible refine (HE2.out _).mono ?_); rintro e w5 ⟨rfl, hw5⟩; subst hw5) | ((with_reducible refine HSZ.out.mono ?_); rintro e w6 ⟨rfl, hw6⟩; subst hw6))
                        go_ret
                        exact ⟨by rw [HM0.out]; rfl, HMB.out ▸ HB1.out⟩
                    · have e1 : (g == []) = false := beq_eq_false_iff_ne.2 hg0
                      have e2 : (g != []) = true := bne_iff_ne.2 hg0
                      have e3 : g.isEmpty = false := isEmpty_ne hg0
                      have HGZ := Lib.hid (show decide (g = []) = false from decide_eq_false hg0)
                      clear hg0
                      go_wp2_with (first | ((with_reducible refine (HE1.out _).mono ?_); rintro e w4 ⟨rfl, hw4⟩; subst hw4) | ((with_reducible refine (HE2.out _).mono ?_); rintro e w5 ⟨rfl, hw5⟩; subst hw5) | ((with_reducible refine HSZ.out.mono ?_); rintro e w6 ⟨rfl, hw6⟩; subst hw6))
                      go_ret
                      exact ⟨by rw [HM0.out, HGZ.out]; rfl, HMB.out ▸ HB1.out⟩
    · by_cases hv1 : v = 1
      · subst hv1
        obtain ⟨c1, hc1⟩ : ∃ c, (mx == 0) = c := ⟨_, rfl⟩
        have HC1 := Lib.hid hc1
        have HM0 := Lib.hid (show mayM ⟨1, 1, g, mx, q, r, ev, L, R⟩ = (!z0 && (bareB 0 q r ev ns nr && c1)) from by rw [may_1, HNR.out, HNS.out, HZ0.out]; rw [if_neg (by decide), hc1]; simp)
        obtain ⟨t8, ht8⟩ : ∃ t, bareB 0 q r ev ns nr = t := ⟨_, rfl⟩
        have HBR := Lib.hid (fun W => rbare_any 1 1 0 r ev g q so ns sc ro nr rc W)
        rw [ht8] at HBR
        have HT8 := Lib.hid ht8
        clear ht8
        rw [HT8.out] at HM0
        clear hc1
        have hc1 := HC1.out
        go_enter Try.func37, Try.ntmps37
        go_upto_region 1 with fail
        rw [HMB.out, HW1.out]
        have X1 := HX1.out
        obtain ⟨x0, xf0⟩ := CBox.at_ X1 0 _ rfl
        obtain ⟨x1, xf1⟩ := CBox.at_ X1 1 _ rfl
        obtain ⟨x2, xf2⟩ := CBox.at_ X1 2 _ rfl
        obtain ⟨x3, xf3⟩ := CBox.at_ X1 3 _ rfl
        obtain ⟨x4, xf4⟩ := CBox.at_ X1 4 _ rfl
        obtain ⟨x5, xf5⟩ := CBox.at_ X1 5 _ rfl
        obtain ⟨x6, xf6⟩ := CBox.at_ X1 6 _ rfl
        obtain ⟨x7, xf7⟩ := CBox.at_ X1 7 _ rfl
        obtain ⟨x8, xf8⟩ := CBox.at_ X1 8 _ rfl
        clear X1
        go_upto_region 11 with fail
        go_cut [82] (fun s82 w' => s82 = .bool z0 ∧ W1 = w')
        case first =>
          by_cases hg0 : g = []
          · have HZ' := Lib.hid (show z0 = t1 from by rw [← HZ.out, decide_eq_true hg0]; cases t1 <;> rfl)
            subst hg0
            go_wp2_with fail
            go_meet
            case rel => exact ⟨by rw [HZ'.out], rfl⟩
          · have e1 : (g == []) = false := beq_eq_false_iff_ne.2 hg0
            have e2 : g.isEmpty = false := isEmpty_ne hg0
            have HZ' := Lib.hid (show z0 = (!t3 || t1) from by rw [← HZ.out, decide_eq_false hg0]; cases t1 <;> cases t3 <;> rfl)
            clear hg0
            cases t3
            · go_wp2_with ((with_reducible refine (HGR.out _).mono ?_); rintro e w2 ⟨rfl, hw2⟩; subst hw2)
              go_meet
              case rel => exact ⟨by rw [HZ'.out]; rfl, rfl⟩
            · go_wp2_with ((with_reducible refine (HGR.out _).mono ?_); rintro e w2 ⟨rfl, hw2⟩; subst hw2)
              go_meet
              case rel => exact ⟨by rw [HZ'.out]; rfl, rfl⟩
        case rest =>
          obtain ⟨rfl, hcut⟩ := hcut
          subst hcut
          clear x0 xf0 x1 xf1 x2 xf2 x3 xf3 x4 xf4 x5 xf5 x6 xf6 x7 xf7 x8 xf8
          have X1 := HX1.out
          obtain ⟨x0, xf0⟩ := CBox.at_ X1 0 _ rfl
          obtain ⟨x1, xf1⟩ := CBox.at_ X1 1 _ rfl
          obtain ⟨x2, xf2⟩ := CBox.at_ X1 2 _ rfl
          obtain ⟨x3, xf3⟩ := CBox.at_ X1 3 _ rfl
          obtain ⟨x4, xf4⟩ := CBox.at_ X1 4 _ rfl
          obtain ⟨x5, xf5⟩ := CBox.at_ X1 5 _ rfl
          obtain ⟨x6, xf6⟩ := CBox.at_ X1 6 _ rfl
          obtain ⟨x7, xf7⟩ := CBox.at_ X1 7 _ rfl
          obtain ⟨x8, xf8⟩ := CBox.at_ X1 8 _ rfl
          clear X1
          cases z0
          rotate_left
          · go_wp2_with fail
            go_ret
            exact ⟨by rw [HM0.out]; rfl, HMB.out ▸ HB1.out⟩
          · go_upto_region 17 with fail
            have HXB := Lib.hid (show CBox (W1.setCell ⟨mb, 3, none⟩ (.int .i64 0)) mb 27 (msgCells 1 1 g 0 q r ev so ns sc ro nr rc) from HX1.out.set 3 _)
            have HBW := Lib.hid (show Below mb w (W1.setCell ⟨mb, 3, none⟩ (.int .i64 0)) from HB1.out.setCell (p := ⟨mb, 3, none⟩) (Nat.le_refl _) _)
            obtain ⟨W4, hW4⟩ : ∃ W4, W1.setCell ⟨mb, 3, none⟩ (.int .i64 0) = W4 := ⟨_, rfl⟩
            rw [hW4] at HXB HBW ⊢
            clear hW4 x0 xf0 x1 xf1 x2 xf2 x3 xf3 x4 xf4 x5 xf5 x6 xf6 x7 xf7 x8 xf8
            have XB := HXB.out
            obtain ⟨x0, xf0⟩ := CBox.at_ XB 0 _ rfl
            obtain ⟨x1, xf1⟩ := CBox.at_ XB 1 _ rfl
            obtain ⟨x2, xf2⟩ := CBox.at_ XB 2 _ rfl
            obtain ⟨x3, xf3⟩ := CBox.at_ XB 3 _ rfl
            obtain ⟨x4, xf4⟩ := CBox.at_ XB 4 _ rfl
            obtain ⟨x5, xf5⟩ := CBox.at_ XB 5 _ rfl
            obtain ⟨x6, xf6⟩ := CBox.at_ XB 6 _ rfl
            obtain ⟨x7, xf7⟩ := CBox.at_ XB 7 _ rfl
            obtain ⟨x8, xf8⟩ := CBox.at_ XB 8 _ rfl
            clear XB
            cases t8
            · go_wp2_with ((with_reducible refine (HBR.out _).mono ?_); rintro e w9 ⟨rfl, hb9⟩; have HX9 := Lib.hid (HXB.out.below hb9 HXB.out.lt); have HB9 := Lib.hid (HBW.out.trans (hb9.mono (Nat.le_of_lt HXB.out.lt))); clear hb9 x0 xf0 x1 xf1 x2 xf2 x3 xf3 x4 xf4 x5 xf5 x6 xf6 x7 xf7 x8 xf8; obtain ⟨x1, xf1⟩ := HX9.out.at_ 1 _ rfl)
              go_ret
              exact ⟨by rw [HM0.out]; rfl, HMB.out ▸ HB9.out⟩
            · cases c1
              · go_wp2_with ((with_reducible refine (HBR.out _).mono ?_); rintro e w9 ⟨rfl, hb9⟩; have HX9 := Lib.hid (HXB.out.below hb9 HXB.out.lt); have HB9 := Lib.hid (HBW.out.trans (hb9.mono (Nat.le_of_lt HXB.out.lt))); clear hb9 x0 xf0 x1 xf1 x2 xf2 x3 xf3 x4 xf4 x5 xf5 x6 xf6 x7 xf7 x8 xf8; obtain ⟨x1, xf1⟩ := HX9.out.at_ 1 _ rfl)
                go_ret
                exact ⟨by rw [HM0.out]; rfl, HMB.out ▸ HB9.out⟩
              · go_wp2_with ((with_reducible refine (HBR.out _).mono ?_); rintro e w9 ⟨rfl, hb9⟩; have HX9 := Lib.hid (HXB.out.below hb9 HXB.out.lt); have HB9 := Lib.hid (HBW.out.trans (hb9.mono (Nat.le_of_lt HXB.out.lt))); clear hb9 x0 xf0 x1 xf1 x2 xf2 x3 xf3 x4 xf4 x5 xf5 x6 xf6 x7 xf7 x8 xf8; obtain ⟨x1, xf1⟩ := HX9.out.at_ 1 _ rfl)
                go_ret
                exact ⟨by rw [HM0.out]; rfl, HMB.out ▸ HB9.out⟩
      · by_cases hv2 : v = 2
        · subst hv2
          obtain ⟨c1, hc1⟩ : ∃ c, decide (1 ≤ mx) = c := ⟨_, rfl⟩
          obtain ⟨c2, hc2⟩ : ∃ c, decide (mx ≤ 255) = c := ⟨_, rfl⟩
          have HC1 := Lib.hid (And.intro hc1 hc2)
          have HM0 := Lib.hid (show mayM ⟨1, 2, g, mx, q, r, ev, L, R⟩ = (!z0 && (bareB 0 q r ev ns nr && (c1 && c2))) from by rw [may_1, HNR.out, HNS.out, HZ0.out]; rw [if_neg (by decide), hc1, hc2]; simp)
          obtain ⟨t8, ht8⟩ : ∃ t, bareB 0 q r ev ns nr = t := ⟨_, rfl⟩
          have HBR := Lib.hid (fun W => rbare_any 1 2 0 r ev g q so ns sc ro nr rc W)
          rw [ht8] at HBR
          have HT8 := Lib.hid ht8
          clear ht8
          rw [HT8.out] at HM0
          clear hc1 hc2
          obtain ⟨hc1, hc2⟩ := HC1.out
          go_enter Try.func37, Try.ntmps37
          go_upto_region 1 with fail
          rw [HMB.out, HW1.out]
          have X1 := HX1.out
          obtain ⟨x0, xf0⟩ := CBox.at_ X1 0 _ rfl
          obtain ⟨x1, xf1⟩ := CBox.at_ X1 1 _ rfl
          obtain ⟨x2, xf2⟩ := CBox.at_ X1 2 _ rfl
          obtain ⟨x3, xf3⟩ := CBox.at_ X1 3 _ rfl
          obtain ⟨x4, xf4⟩ := CBox.at_ X1 4 _ rfl
          obtain ⟨x5, xf5⟩ := CBox.at_ X1 5 _ rfl
          obtain ⟨x6, xf6⟩ := CBox.at_ X1 6 _ rfl
          obtain ⟨x7, xf7⟩ := CBox.at_ X1 7 _ rfl
          obtain ⟨x8, xf8⟩ := CBox.at_ X1 8 _ rfl
          clear X1
          go_upto_region 11 with fail
          go_cut [82] (fun s82 w' => s82 = .bool z0 ∧ W1 = w')
          case first =>
            by_cases hg0 : g = []
            · have HZ' := Lib.hid (show z0 = t1 from by rw [← HZ.out, decide_eq_true hg0]; cases t1 <;> rfl)
              subst hg0
              go_wp2_with fail
              go_meet
              case rel => exact ⟨by rw [HZ'.out], rfl⟩
            · have e1 : (g == []) = false := beq_eq_false_iff_ne.2 hg0
              have e2 : g.isEmpty = false := isEmpty_ne hg0
              have HZ' := Lib.hid (show z0 = (!t3 || t1) from by rw [← HZ.out, decide_eq_false hg0]; cases t1 <;> cases t3 <;> rfl)
              clear hg0
              cases t3
              · go_wp2_with ((with_reducible refine (HGR.out _).mono ?_); rintro e w2 ⟨rfl, hw2⟩; subst hw2)
                go_meet
                case rel => exact ⟨by rw [HZ'.out]; rfl, rfl⟩
              · go_wp2_with ((with_reducible refine (HGR.out _).mono ?_); rintro e w2 ⟨rfl, hw2⟩; subst hw2)
                go_meet
                case rel => exact ⟨by rw [HZ'.out]; rfl, rfl⟩
          case rest =>
            obtain ⟨rfl, hcut⟩ := hcut
            subst hcut
            clear x0 xf0 x1 xf1 x2 xf2 x3 xf3 x4 xf4 x5 xf5 x6 xf6 x7 xf7 x8 xf8
            have X1 := HX1.out
            obtain ⟨x0, xf0⟩ := CBox.at_ X1 0 _ rfl
            obtain ⟨x1, xf1⟩ := CBox.at_ X1 1 _ rfl
            obtain ⟨x2, xf2⟩ := CBox.at_ X1 2 _ rfl
            obtain ⟨x3, xf3⟩ := CBox.at_ X1 3 _ rfl
            obtain ⟨x4, xf4⟩ := CBox.at_ X1 4 _ rfl
            obtain ⟨x5, xf5⟩ := CBox.at_ X1 5 _ rfl
            obtain ⟨x6, xf6⟩ := CBox.at_ X1 6 _ rfl
            obtain ⟨x7, xf7⟩ := CBox.at_ X1 7 _ rfl
            obtain ⟨x8, xf8⟩ := CBox.at_ X1 8 _ rfl
            clear X1
            cases z0
            rotate_left
            · go_wp2_with fail
              go_ret
              exact ⟨by rw [HM0.out]; rfl, HMB.out ▸ HB1.out⟩
            · go_upto_region 17 with fail
              have HXB := Lib.hid (show CBox (W1.setCell ⟨mb, 3, none⟩ (.int .i64 0)) mb 27 (msgCells 1 2 g 0 q r ev so ns sc ro nr rc) from HX1.out.set 3 _)
              have HBW := Lib.hid (show Below mb w (W1.setCell ⟨mb, 3, none⟩ (.int .i64 0)) from HB1.out.setCell (p := ⟨mb, 3, none⟩) (Nat.le_refl _) _)
              obtain ⟨W4, hW4⟩ : ∃ W4, W1.setCell ⟨mb, 3, none⟩ (.int .i64 0) = W4 := ⟨_, rfl⟩
              rw [hW4] at HXB HBW ⊢
              clear hW4 x0 xf0 x1 xf1 x2 xf2 x3 xf3 x4 xf4 x5 xf5 x6 xf6 x7 xf7 x8 xf8
              have XB := HXB.out
              obtain ⟨x0, xf0⟩ := CBox.at_ XB 0 _ rfl
              obtain ⟨x1, xf1⟩ := CBox.at_ XB 1 _ rfl
              obtain ⟨x2, xf2⟩ := CBox.at_ XB 2 _ rfl
              obtain ⟨x3, xf3⟩ := CBox.at_ XB 3 _ rfl
              obtain ⟨x4, xf4⟩ := CBox.at_ XB 4 _ rfl
              obtain ⟨x5, xf5⟩ := CBox.at_ XB 5 _ rfl
              obtain ⟨x6, xf6⟩ := CBox.at_ XB 6 _ rfl
              obtain ⟨x7, xf7⟩ := CBox.at_ XB 7 _ rfl
              obtain ⟨x8, xf8⟩ := CBox.at_ XB 8 _ rfl
              clear XB
              cases t8
              · go_wp2_with ((with_reducible refine (HBR.out _).mono ?_); rintro e w9 ⟨rfl, hb9⟩; have HX9 := Lib.hid (HXB.out.below hb9 HXB.out.lt); have HB9 := Lib.hid (HBW.out.trans (hb9.mono (Nat.le_of_lt HXB.out.lt))); clear hb9 x0 xf0 x1 xf1 x2 xf2 x3 xf3 x4 xf4 x5 xf5 x6 xf6 x7 xf7 x8 xf8; obtain ⟨x1, xf1⟩ := HX9.out.at_ 1 _ rfl)
                go_ret
                exact ⟨by rw [HM0.out]; rfl, HMB.out ▸ HB9.out⟩
              · cases c1
                · go_wp2_with ((with_reducible refine (HBR.out _).mono ?_); rintro e w9 ⟨rfl, hb9⟩; have HX9 := Lib.hid (HXB.out.below hb9 HXB.out.lt); have HB9 := Lib.hid (HBW.out.trans (hb9.mono (Nat.le_of_lt HXB.out.lt))); clear hb9 x0 xf0 x1 xf1 x2 xf2 x3 xf3 x4 xf4 x5 xf5 x6 xf6 x7 xf7 x8 xf8; obtain ⟨x1, xf1⟩ := HX9.out.at_ 1 _ rfl)
                  go_ret
                  exact ⟨by rw [HM0.out]; rfl, HMB.out ▸ HB9.out⟩
                · cases c2
                  · go_wp2_with ((with_reducible refine (HBR.out _).mono ?_); rintro e w9 ⟨rfl, hb9⟩; have HX9 := Lib.hid (HXB.out.below hb9 HXB.out.lt); have HB9 := Lib.hid (HBW.out.trans (hb9.mono (Nat.le_of_lt HXB.out.lt))); clear hb9 x0 xf0 x1 xf1 x2 xf2 x3 xf3 x4 xf4 x5 xf5 x6 xf6 x7 xf7 x8 xf8; obtain ⟨x1, xf1⟩ := HX9.out.at_ 1 _ rfl)
                    go_ret
                    exact ⟨by rw [HM0.out]; rfl, HMB.out ▸ HB9.out⟩
                  · go_wp2_with ((with_reducible refine (HBR.out _).mono ?_); rintro e w9 ⟨rfl, hb9⟩; have HX9 := Lib.hid (HXB.out.below hb9 HXB.out.lt); have HB9 := Lib.hid (HBW.out.trans (hb9.mono (Nat.le_of_lt HXB.out.lt))); clear hb9 x0 xf0 x1 xf1 x2 xf2 x3 xf3 x4 xf4 x5 xf5 x6 xf6 x7 xf7 x8 xf8; obtain ⟨x1, xf1⟩ := HX9.out.at_ 1 _ rfl)
                    go_ret
                    exact ⟨by rw [HM0.out]; rfl, HMB.out ▸ HB9.out⟩
        · have d1 : (v == 1) = false := beq_eq_false_iff_ne.2 hv1
          have d2 : (v == 2) = false := beq_eq_false_iff_ne.2 hv2
          have d3 : (v == 3) = false := beq_eq_false_iff_ne.2 hv3
          have HM0 := Lib.hid (show mayM ⟨1, v, g, mx, q, r, ev, L, R⟩ = (!z0 && (bareB 0 q r ev ns nr && false)) from by rw [may_1, HNR.out, HNS.out, HZ0.out]; rw [if_neg hv3, decide_eq_false hv1, decide_eq_false hv2]; simp)
          obtain ⟨t8, ht8⟩ : ∃ t, bareB 0 q r ev ns nr = t := ⟨_, rfl⟩
          have HBR := Lib.hid (fun W => rbare_any 1 v 0 r ev g q so ns sc ro nr rc W)
          rw [ht8] at HBR
          have HT8 := Lib.hid ht8
          clear ht8
          rw [HT8.out] at HM0
          clear hv1 hv2 hv3
          go_enter Try.func37, Try.ntmps37
          go_upto_region 1 with fail
          rw [HMB.out, HW1.out]
          have X1 := HX1.out
          obtain ⟨x0, xf0⟩ := CBox.at_ X1 0 _ rfl
          obtain ⟨x1, xf1⟩ := CBox.at_ X1 1 _ rfl
          obtain ⟨x2, xf2⟩ := CBox.at_ X1 2 _ rfl
          obtain ⟨x3, xf3⟩ := CBox.at_ X1 3 _ rfl
          obtain ⟨x4, xf4⟩ := CBox.at_ X1 4 _ rfl
          obtain ⟨x5, xf5⟩ := CBox.at_ X1 5 _ rfl
          obtain ⟨x6, xf6⟩ := CBox.at_ X1 6 _ rfl
          obtain ⟨x7, xf7⟩ := CBox.at_ X1 7 _ rfl
          obtain ⟨x8, xf8⟩ := CBox.at_ X1 8 _ rfl
          clear X1
          go_upto_region 11 with fail
          go_cut [82] (fun s82 w' => s82 = .bool z0 ∧ W1 = w')
          case first =>
            by_cases hg0 : g = []
            · have HZ' := Lib.hid (show z0 = t1 from by rw [← HZ.out, decide_eq_true hg0]; cases t1 <;> rfl)
              subst hg0
              go_wp2_with fail
              go_meet
              case rel => exact ⟨by rw [HZ'.out], rfl⟩
            · have e1 : (g == []) = false := beq_eq_false_iff_ne.2 hg0
              have e2 : g.isEmpty = false := isEmpty_ne hg0
              have HZ' := Lib.hid (show z0 = (!t3 || t1) from by rw [← HZ.out, decide_eq_false hg0]; cases t1 <;> cases t3 <;> rfl)
              clear hg0
              cases t3
              · go_wp2_with ((with_reducible refine (HGR.out _).mono ?_); rintro e w2 ⟨rfl, hw2⟩; subst hw2)
                go_meet
                case rel => exact ⟨by rw [HZ'.out]; rfl, rfl⟩
              · go_wp2_with ((with_reducible refine (HGR.out _).mono ?_); rintro e w2 ⟨rfl, hw2⟩; subst hw2)
                go_meet
                case rel => exact ⟨by rw [HZ'.out]; rfl, rfl⟩
          case rest =>
            obtain ⟨rfl, hcut⟩ := hcut
            subst hcut
            clear x0 xf0 x1 xf1 x2 xf2 x3 xf3 x4 xf4 x5 xf5 x6 xf6 x7 xf7 x8 xf8
            have X1 := HX1.out
            obtain ⟨x0, xf0⟩ := CBox.at_ X1 0 _ rfl
            obtain ⟨x1, xf1⟩ := CBox.at_ X1 1 _ rfl
            obtain ⟨x2, xf2⟩ := CBox.at_ X1 2 _ rfl
            obtain ⟨x3, xf3⟩ := CBox.at_ X1 3 _ rfl
            obtain ⟨x4, xf4⟩ := CBox.at_ X1 4 _ rfl
            obtain ⟨x5, xf5⟩ := CBox.at_ X1 5 _ rfl
            obtain ⟨x6, xf6⟩ := CBox.at_ X1 6 _ rfl
            obtain ⟨x7, xf7⟩ := CBox.at_ X1 7 _ rfl
            obtain ⟨x8, xf8⟩ := CBox.at_ X1 8 _ rfl
            clear X1
            cases z0
            rotate_left
            · go_wp2_with fail
              go_ret
              exact ⟨by rw [HM0.out]; rfl, HMB.out ▸ HB1.out⟩
            · go_upto_region 17 with fail
              have HXB := Lib.hid (show CBox (W1.setCell ⟨mb, 3, none⟩ (.int .i64 0)) mb 27 (msgCells 1 v g 0 q r ev so ns sc ro nr rc) from HX1.out.set 3 _)
              have HBW := Lib.hid (show Below mb w (W1.setCell ⟨mb, 3, none⟩ (.int .i64 0)) from HB1.out.setCell (p := ⟨mb, 3, none⟩) (Nat.le_refl _) _)
              obtain ⟨W4, hW4⟩ : ∃ W4, W1.setCell ⟨mb, 3, none⟩ (.int .i64 0) = W4 := ⟨_, rfl⟩
              rw [hW4] at HXB HBW ⊢
              clear hW4 x0 xf0 x1 xf1 x2 xf2 x3 xf3 x4 xf4 x5 xf5 x6 xf6 x7 xf7 x8 xf8
              have XB := HXB.out
              obtain ⟨x0, xf0⟩ := CBox.at_ XB 0 _ rfl
              obtain ⟨x1, xf1⟩ := CBox.at_ XB 1 _ rfl
              obtain ⟨x2, xf2⟩ := CBox.at_ XB 2 _ rfl
              obtain ⟨x3, xf3⟩ := CBox.at_ XB 3 _ rfl
              obtain ⟨x4, xf4⟩ := CBox.at_ XB 4 _ rfl
              obtain ⟨x5, xf5⟩ := CBox.at_ XB 5 _ rfl
              obtain ⟨x6, xf6⟩ := CBox.at_ XB 6 _ rfl
              obtain ⟨x7, xf7⟩ := CBox.at_ XB 7 _ rfl
              obtain ⟨x8, xf8⟩ := CBox.at_ XB 8 _ rfl
              clear XB
              cases t8
              · go_wp2_with ((with_reducible refine (HBR.out _).mono ?_); rintro e w9 ⟨rfl, hb9⟩; have HX9 := Lib.hid (HXB.out.below hb9 HXB.out.lt); have HB9 := Lib.hid (HBW.out.trans (hb9.mono (Nat.le_of_lt HXB.out.lt))); clear hb9 x0 xf0 x1 xf1 x2 xf2 x3 xf3 x4 xf4 x5 xf5 x6 xf6 x7 xf7 x8 xf8; obtain ⟨x1, xf1⟩ := HX9.out.at_ 1 _ rfl)
                go_ret
                exact ⟨by rw [HM0.out]; rfl, HMB.out ▸ HB9.out⟩
              · go_wp2_with ((with_reducible refine (HBR.out _).mono ?_); rintro e w9 ⟨rfl, hb9⟩; have HX9 := Lib.hid (HXB.out.below hb9 HXB.out.lt); have HB9 := Lib.hid (HBW.out.trans (hb9.mono (Nat.le_of_lt HXB.out.lt))); clear hb9 x0 xf0 x1 xf1 x2 xf2 x3 xf3 x4 xf4 x5 xf5 x6 xf6 x7 xf7 x8 xf8; obtain ⟨x1, xf1⟩ := HX9.out.at_ 1 _ rfl)
                go_ret
                exact ⟨by rw [HM0.out]; rfl, HMB.out ▸ HB9.out⟩
  · by_cases hk2 : k = 2
    · subst hk2
      by_cases hv3 : v = 3
      · subst hv3
        obtain ⟨t8, ht8⟩ : ∃ t, bareB mx q r ev ns 0 = t := ⟨_, rfl⟩
        have HBR := Lib.hid (fun W => rbare_any 2 3 mx r ev g q so ns sc none 0 0 W)
        rw [ht8] at HBR
        have HT8 := Lib.hid ht8
        clear ht8
        have HBD := Lib.hid (rbody4 (.slice ro nr rc) R W1 HR1.out)
        obtain ⟨PB, hPB⟩ : ∃ P, (pbody R 4).1 = P := ⟨_, rfl⟩
        obtain ⟨er, her⟩ : ∃ e, (pbody R 4).2 = e := ⟨_, rfl⟩
        rw [hPB, her] at HBD
        obtain ⟨c5, hc5⟩ : ∃ c, (er == 0) = c := ⟨_, rfl⟩
        have HM := Lib.hid (show mayM ⟨2, 3, g, mx, q, r, ev, L, R⟩ = (decide (g = []) && c5 && t8) from by rw [may_23, her, hc5, HNS.out, HT8.out])
        clear hPB her
        go_enter Try.func37, Try.ntmps37
        go_upto_region 1 with fail
        rw [HMB.out, HW1.out]
        have X1 := HX1.out
        obtain ⟨x0, xf0⟩ := CBox.at_ X1 0 _ rfl
        obtain ⟨x1, xf1⟩ := CBox.at_ X1 1 _ rfl
        obtain ⟨x2, xf2⟩ := CBox.at_ X1 2 _ rfl
        obtain ⟨x3, xf3⟩ := CBox.at_ X1 3 _ rfl
        obtain ⟨x4, xf4⟩ := CBox.at_ X1 4 _ rfl
        obtain ⟨x5, xf5⟩ := CBox.at_ X1 5 _ rfl
        obtain ⟨x6, xf6⟩ := CBox.at_ X1 6 _ rfl
        obtain ⟨x7, xf7⟩ := CBox.at_ X1 7 _ rfl
        obtain ⟨x8, xf8⟩ := CBox.at_ X1 8 _ rfl
        clear X1
        go_upto_region 5 with ((with_reducible refine HBD.out.mono ?_); rintro e w3 ⟨rfl, hb3⟩; have HX3 := Lib.hid (HX1.out.below hb3 HX1.out.lt); have HB3 := Lib.hid (HB1.out.trans (hb3.mono (Nat.le_of_lt HX1.out.lt))); clear hb3 x0 xf0 x1 xf1 x2 xf2 x3 xf3 x4 xf4 x5 xf5 x6 xf6 x7 xf7 x8 xf8; obtain ⟨x8, xf8⟩ := HX3.out.at_ 8 _ rfl)
        have HXB := Lib.hid (show CBox (w3.setCell ⟨mb, 8, none⟩ (.slice none 0 0)) mb 27 (msgCells 2 3 g mx q r ev so ns sc none 0 0) from HX3.out.set 8 _)
        have HBW := Lib.hid (show Below mb w (w3.setCell ⟨mb, 8, none⟩ (.slice none 0 0)) from HB3.out.setCell (p := ⟨mb, 8, none⟩) (Nat.le_refl _) _)
        obtain ⟨W4, hW4⟩ : ∃ W4, w3.setCell ⟨mb, 8, none⟩ (.slice none 0 0) = W4 := ⟨_, rfl⟩
        rw [hW4] at HXB HBW ⊢
        clear hW4 x8 xf8
        have XB := HXB.out
        obtain ⟨x0, xf0⟩ := CBox.at_ XB 0 _ rfl
        obtain ⟨x1, xf1⟩ := CBox.at_ XB 1 _ rfl
        obtain ⟨x2, xf2⟩ := CBox.at_ XB 2 _ rfl
        obtain ⟨x3, xf3⟩ := CBox.at_ XB 3 _ rfl
        obtain ⟨x4, xf4⟩ := CBox.at_ XB 4 _ rfl
        obtain ⟨x5, xf5⟩ := CBox.at_ XB 5 _ rfl
        obtain ⟨x6, xf6⟩ := CBox.at_ XB 6 _ rfl
        obtain ⟨x7, xf7⟩ := CBox.at_ XB 7 _ rfl
        obtain ⟨x8, xf8⟩ := CBox.at_ XB 8 _ rfl
        clear XB
        by_cases hg0 : g = []
        · subst hg0
          cases c5
          · go_wp2_with fail
            go_ret
            exact ⟨by rw [HM.out]; rfl, HMB.out ▸ HBW.out⟩
          · go_wp2_with ((with_reducible refine (HBR.out _).mono ?_); rintro e w9 ⟨rfl, hb9⟩; have HX9 := Lib.hid (HXB.out.below hb9 HXB.out.lt); have HB9 := Lib.hid (HBW.out.trans (hb9.mono (Nat.le_of_lt HXB.out.lt))); clear hb9 x0 xf0 x1 xf1 x2 xf2 x3 xf3 x4 xf4 x5 xf5 x6 xf6 x7 xf7 x8 xf8; obtain ⟨x1, xf1⟩ := HX9.out.at_ 1 _ rfl)
            go_ret
            exact ⟨by rw [HM.out]; cases t8 <;> rfl, HMB.out ▸ HB9.out⟩
        · have e1 : (g == []) = false := beq_eq_false_iff_ne.2 hg0
          have e2 : g.isEmpty = false := isEmpty_ne hg0
          have HGZ := Lib.hid (show decide (g = []) = false from decide_eq_false hg0)
          clear hg0
          go_wp2_with fail
          go_ret
          exact ⟨by rw [HM.out, HGZ.out]; rfl, HMB.out ▸ HBW.out⟩
      · by_cases hv1 : v = 1
        · subst hv1
          obtain ⟨t8, ht8⟩ : ∃ t, bareB mx q r ev ns nr = t := ⟨_, rfl⟩
          have HBR := Lib.hid (fun W => rbare_any 2 1 mx r ev g q so ns sc ro nr rc W)
          rw [ht8] at HBR
          have HT8 := Lib.hid ht8
          clear ht8
          have HM := Lib.hid (show mayM ⟨2, 1, g, mx, q, r, ev, L, R⟩ = (t3 && t8) from by rw [may_21, HT3.out, HNS.out, HNR.out, HT8.out])
          have HXB := HX1
          have HBW := HB1
          cases t3
          · go_enter Try.func37, Try.ntmps37
            go_upto_region 1 with fail
            rw [HMB.out, HW1.out]
            have X1 := HX1.out
            obtain ⟨x0, xf0⟩ := CBox.at_ X1 0 _ rfl
            obtain ⟨x1, xf1⟩ := CBox.at_ X1 1 _ rfl
            obtain ⟨x2, xf2⟩ := CBox.at_ X1 2 _ rfl
            obtain ⟨x3, xf3⟩ := CBox.at_ X1 3 _ rfl
            obtain ⟨x4, xf4⟩ := CBox.at_ X1 4 _ rfl
            obtain ⟨x5, xf5⟩ := CBox.at_ X1 5 _ rfl
            obtain ⟨x6, xf6⟩ := CBox.at_ X1 6 _ rfl
            obtain ⟨x7, xf7⟩ := CBox.at_ X1 7 _ rfl
            obtain ⟨x8, xf8⟩ := CBox.at_ X1 8 _ rfl
            clear X1
            go_wp2_with ((with_reducible refine (HGR.out _).mono ?_); rintro e w2 ⟨rfl, hw2⟩; subst hw2)
            go_ret
            exact ⟨by rw [HM.out]; rfl, HMB.out ▸ HB1.out⟩
          · go_enter Try.func37, Try.ntmps37
            go_upto_region 1 with fail
            rw [HMB.out, HW1.out]
            have X1 := HX1.out
            obtain ⟨x0, xf0⟩ := CBox.at_ X1 0 _ rfl
            obtain ⟨x1, xf1⟩ := CBox.at_ X1 1 _ rfl
            obtain ⟨x2, xf2⟩ := CBox.at_ X1 2 _ rfl
            obtain ⟨x3, xf3⟩ := CBox.at_ X1 3 _ rfl
            obtain ⟨x4, xf4⟩ := CBox.at_ X1 4 _ rfl
            obtain ⟨x5, xf5⟩ := CBox.at_ X1 5 _ rfl
            obtain ⟨x6, xf6⟩ := CBox.at_ X1 6 _ rfl
            obtain ⟨x7, xf7⟩ := CBox.at_ X1 7 _ rfl
            obtain ⟨x8, xf8⟩ := CBox.at_ X1 8 _ rfl
            clear X1
            go_wp2_with (first | ((with_reducible refine (HGR.out _).mono ?_); rintro e w2 ⟨rfl, hw2⟩; subst hw2) | ((with_reducible refine (HBR.out _).mono ?_); rintro e w9 ⟨rfl, hb9⟩; have HX9 := Lib.hid (HXB.out.below hb9 HXB.out.lt); have HB9 := Lib.hid (HBW.out.trans (hb9.mono (Nat.le_of_lt HXB.out.lt))); clear hb9 x0 xf0 x1 xf1 x2 xf2 x3 xf3 x4 xf4 x5 xf5 x6 xf6 x7 xf7 x8 xf8; obtain ⟨x1, xf1⟩ := HX9.out.at_ 1 _ rfl))
            go_ret
            exact ⟨by rw [HM.out]; cases t8 <;> rfl, HMB.out ▸ HB9.out⟩
        · by_cases hv2 : v = 2
          · subst hv2
            obtain ⟨t8, ht8⟩ : ∃ t, bareB mx q r ev ns nr = t := ⟨_, rfl⟩
            have HBR := Lib.hid (fun W => rbare_any 2 2 mx r ev g q so ns sc ro nr rc W)
            rw [ht8] at HBR
            have HT8 := Lib.hid ht8
            clear ht8
            have HM := Lib.hid (show mayM ⟨2, 2, g, mx, q, r, ev, L, R⟩ = (t3 && t8) from by rw [may_22, HT3.out, HNS.out, HNR.out, HT8.out])
            have HXB := HX1
            have HBW := HB1
            cases t3
            · go_enter Try.func37, Try.ntmps37
              go_upto_region 1 with fail
              rw [HMB.out, HW1.out]
              have X1 := HX1.out
              obtain ⟨x0, xf0⟩ := CBox.at_ X1 0 _ rfl
              obtain ⟨x1, xf1⟩ := CBox.at_ X1 1 _ rfl
              obtain ⟨x2, xf2⟩ := CBox.at_ X1 2 _ rfl
              obtain ⟨x3, xf3⟩ := CBox.at_ X1 3 _ rfl
              obtain ⟨x4, xf4⟩ := CBox.at_ X1 4 _ rfl
              obtain ⟨x5, xf5⟩ := CBox.at_ X1 5 _ rfl
              obtain ⟨x6, xf6⟩ := CBox.at_ X1 6 _ rfl
              obtain ⟨x7, xf7⟩ := CBox.at_ X1 7 _ rfl
              obtain ⟨x8, xf8⟩ := CBox.at_ X1 8 _ rfl
              clear X1
              go_wp2_with ((with_reducible refine (HGR.out _).mono ?_); rintro e w2 ⟨rfl, hw2⟩; subst hw2)
              go_ret
              exact ⟨by rw [HM.out]; rfl, HMB.out ▸ HB1.out⟩
            · go_enter Try.func37, Try.ntmps37
              go_upto_region 1 with fail
              rw [HMB.out, HW1.out]
              have X1 := HX1.out
              obtain ⟨x0, xf0⟩ := CBox.at_ X1 0 _ rfl
              obtain ⟨x1, xf1⟩ := CBox.at_ X1 1 _ rfl
              obtain ⟨x2, xf2⟩ := CBox.at_ X1 2 _ rfl
              obtain ⟨x3, xf3⟩ := CBox.at_ X1 3 _ rfl
              obtain ⟨x4, xf4⟩ := CBox.at_ X1 4 _ rfl
              obtain ⟨x5, xf5⟩ := CBox.at_ X1 5 _ rfl
              obtain ⟨x6, xf6⟩ := CBox.at_ X1 6 _ rfl
              obtain ⟨x7, xf7⟩ := CBox.at_ X1 7 _ rfl
              obtain ⟨x8, xf8⟩ := CBox.at_ X1 8 _ rfl
              clear X1
              go_wp2_with (first | ((with_reducible refine (HGR.out _).mono ?_); rintro e w2 ⟨rfl, hw2⟩; subst hw2) | ((with_reducible refine (HBR.out _).mono ?_); rintro e w9 ⟨rfl, hb9⟩; have HX9 := Lib.hid (HXB.out.below hb9 HXB.out.lt); have HB9 := Lib.hid (HBW.out.trans (hb9.mono (Nat.le_of_lt HXB.out.lt))); clear hb9 x0 xf0 x1 xf1 x2 xf2 x3 xf3 x4 xf4 x5 xf5 x6 xf6 x7 xf7 x8 xf8; obtain ⟨x1, xf1⟩ := HX9.out.at_ 1 _ rfl))
              go_ret
              exact ⟨by rw [HM.out]; cases t8 <;> rfl, HMB.out ▸ HB9.out⟩
          · have d1 : (v != 1) = true := bne_iff_ne.2 hv1
            have d2 : (v != 2) = true := bne_iff_ne.2 hv2
            have d3 : (v == 3) = false := beq_eq_false_iff_ne.2 hv3
            have HM := Lib.hid (show mayM ⟨2, v, g, mx, q, r, ev, L, R⟩ = false from may_no 2 v g mx q r ev L R (by decide) (fun h => by rcases h.2 with h | h | h; exact hv1 h; exact hv2 h; exact hv3 h) (fun h => absurd h.1 (by decide)))
            clear hv1 hv2 hv3 hk1
            go_enter Try.func37, Try.ntmps37
            go_upto_region 1 with fail
            rw [HMB.out, HW1.out]
            have X1 := HX1.out
            obtain ⟨x0, xf0⟩ := CBox.at_ X1 0 _ rfl
            obtain ⟨x1, xf1⟩ := CBox.at_ X1 1 _ rfl
            obtain ⟨x2, xf2⟩ := CBox.at_ X1 2 _ rfl
            obtain ⟨x3, xf3⟩ := CBox.at_ X1 3 _ rfl
            obtain ⟨x4, xf4⟩ := CBox.at_ X1 4 _ rfl
            obtain ⟨x5, xf5⟩ := CBox.at_ X1 5 _ rfl
            obtain ⟨x6, xf6⟩ := CBox.at_ X1 6 _ rfl
            obtain ⟨x7, xf7⟩ := CBox.at_ X1 7 _ rfl
            obtain ⟨x8, xf8⟩ := CBox.at_ X1 8 _ rfl
            clear X1
            go_wp2_with fail
            go_ret
            exact ⟨by rw [HM.out]; rfl, HMB.out ▸ HB1.out⟩
    · by_cases hk3 : k = 3
      · subst hk3
        by_cases hv2 : v = 2
        · subst hv2
          obtain ⟨t8, ht8⟩ : ∃ t, bareB mx q r ev ns nr = t := ⟨_, rfl⟩
          have HBR := Lib.hid (fun W => rbare_any 3 2 mx r ev g q so ns sc ro nr rc W)
          rw [ht8] at HBR
          have HT8 := Lib.hid ht8
          clear ht8
          have HM := Lib.hid (show mayM ⟨3, 2, g, mx, q, r, ev, L, R⟩ = (t3 && t8) from by rw [may_32, HT3.out, HNS.out, HNR.out, HT8.out])
          have HXB := HX1
          have HBW := HB1
          cases t3
          · go_enter Try.func37, Try.ntmps37
            go_upto_region 1 with fail
            rw [HMB.out, HW1.out]
            have X1 := HX1.out
            obtain ⟨x0, xf0⟩ := CBox.at_ X1 0 _ rfl
            obtain ⟨x1, xf1⟩ := CBox.at_ X1 1 _ rfl
            obtain ⟨x2, xf2⟩ := CBox.at_ X1 2 _ rfl
            obtain ⟨x3, xf3⟩ := CBox.at_ X1 3 _ rfl
            obtain ⟨x4, xf4⟩ := CBox.at_ X1 4 _ rfl
            obtain ⟨x5, xf5⟩ := CBox.at_ X1 5 _ rfl
            obtain ⟨x6, xf6⟩ := CBox.at_ X1 6 _ rfl
            obtain ⟨x7, xf7⟩ := CBox.at_ X1 7 _ rfl
            obtain ⟨x8, xf8⟩ := CBox.at_ X1 8 _ rfl
            clear X1
            go_wp2_with ((with_reducible refine (HGR.out _).mono ?_); rintro e w2 ⟨rfl, hw2⟩; subst hw2)
            go_ret
            exact ⟨by rw [HM.out]; rfl, HMB.out ▸ HB1.out⟩
          · go_enter Try.func37, Try.ntmps37
            go_upto_region 1 with fail
            rw [HMB.out, HW1.out]
            have X1 := HX1.out
            obtain ⟨x0, xf0⟩ := CBox.at_ X1 0 _ rfl
            obtain ⟨x1, xf1⟩ := CBox.at_ X1 1 _ rfl
            obtain ⟨x2, xf2⟩ := CBox.at_ X1 2 _ rfl
            obtain ⟨x3, xf3⟩ := CBox.at_ X1 3 _ rfl
            obtain ⟨x4, xf4⟩ := CBox.at_ X1 4 _ rfl
            obtain ⟨x5, xf5⟩ := CBox.at_ X1 5 _ rfl
            obtain ⟨x6, xf6⟩ := CBox.at_ X1 6 _ rfl
            obtain ⟨x7, xf7⟩ := CBox.at_ X1 7 _ rfl
            obtain ⟨x8, xf8⟩ := CBox.at_ X1 8 _ rfl
            clear X1
            go_wp2_with (first | ((with_reducible refine (HGR.out _).mono ?_); rintro e w2 ⟨rfl, hw2⟩; subst hw2) | ((with_reducible refine (HBR.out _).mono ?_); rintro e w9 ⟨rfl, hb9⟩; have HX9 := Lib.hid (HXB.out.below hb9 HXB.out.lt); have HB9 := Lib.hid (HBW.out.trans (hb9.mono (Nat.le_of_lt HXB.out.lt))); clear hb9 x0 xf0 x1 xf1 x2 xf2 x3 xf3 x4 xf4 x5 xf5 x6 xf6 x7 xf7 x8 xf8; obtain ⟨x1, xf1⟩ := HX9.out.at_ 1 _ rfl))
            go_ret
            exact ⟨by rw [HM.out]; cases t8 <;> rfl, HMB.out ▸ HB9.out⟩
        · have d2 : (v != 2) = true := bne_iff_ne.2 hv2
          have HM := Lib.hid (show mayM ⟨3, v, g, mx, q, r, ev, L, R⟩ = false from may_no 3 v g mx q r ev L R (by decide) (fun h => absurd h.1 (by decide)) (fun h => hv2 h.2))
          clear hv2 hk1 hk2
          go_enter Try.func37, Try.ntmps37
          go_upto_region 1 with fail
          rw [HMB.out, HW1.out]
          have X1 := HX1.out
          obtain ⟨x0, xf0⟩ := CBox.at_ X1 0 _ rfl
          obtain ⟨x1, xf1⟩ := CBox.at_ X1 1 _ rfl
          obtain ⟨x2, xf2⟩ := CBox.at_ X1 2 _ rfl
          obtain ⟨x3, xf3⟩ := CBox.at_ X1 3 _ rfl
          obtain ⟨x4, xf4⟩ := CBox.at_ X1 4 _ rfl
          obtain ⟨x5, xf5⟩ := CBox.at_ X1 5 _ rfl
          obtain ⟨x6, xf6⟩ := CBox.at_ X1 6 _ rfl
          obtain ⟨x7, xf7⟩ := CBox.at_ X1 7 _ rfl
          obtain ⟨x8, xf8⟩ := CBox.at_ X1 8 _ rfl
          clear X1
          go_wp2_with fail
          go_ret
          exact ⟨by rw [HM.out]; rfl, HMB.out ▸ HB1.out⟩
      · have d1 : (k != 1) = true := bne_iff_ne.2 hk1
        have d2 : (k != 2) = true := bne_iff_ne.2 hk2
        have d2' : (k == 2) = false := beq_eq_false_iff_ne.2 hk2
        have d3 : (k != 3) = true := bne_iff_ne.2 hk3
        have HM := Lib.hid (show mayM ⟨k, v, g, mx, q, r, ev, L, R⟩ = false from may_no k v g mx q r ev L R (hk1) (fun h => hk2 h.1) (fun h => hk3 h.1))
        clear hk1 hk2 hk3
        go_enter Try.func37, Try.ntmps37
        go_upto_region 1 with fail
        rw [HMB.out, HW1.out]
        have X1 := HX1.out
        obtain ⟨x0, xf0⟩ := CBox.at_ X1 0 _ rfl
        obtain ⟨x1, xf1⟩ := CBox.at_ X1 1 _ rfl
        obtain ⟨x2, xf2⟩ := CBox.at_ X1 2 _ rfl
        obtain ⟨x3, xf3⟩ := CBox.at_ X1 3 _ rfl
        obtain ⟨x4, xf4⟩ := CBox.at_ X1 4 _ rfl
        obtain ⟨x5, xf5⟩ := CBox.at_ X1 5 _ rfl
        obtain ⟨x6, xf6⟩ := CBox.at_ X1 6 _ rfl
        obtain ⟨x7, xf7⟩ := CBox.at_ X1 7 _ rfl
        obtain ⟨x8, xf8⟩ := CBox.at_ X1 8 _ rfl
        clear X1
        go_wp2_with fail
        go_ret
        exact ⟨by rw [HM.out]; rfl, HMB.out ▸ HB1.out⟩
end Go.Proofs.Ythkogdgfkhhleaa
