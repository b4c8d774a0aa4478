/- Texts joined into one file: MMay. -/
import Derived.Test.YthkibgdeibolfaaQ25
import Derived.Test.YthkibgdeibolfaaQ13
import Derived.Test.YthkibgdeibolfaaQ11

/- siphonref09.May. -/
namespace Go.Proofs.Ythkibgdeibolfaa
open Go.RowKit Go.Sort
set_option maxRecDepth 20000
set_option maxRecDepth 20000
attribute [local go_sem] bstr_size bstr_extract bstr_toList bstr_get

theorem rbody16 (v : Value) (R : List Rec) (w : World) (h : Recs w v R) :
    Calls Try.prog 64 #[v, .int .i64 16] w (RetBody w (pbody R 16).1 (pbody R 16).2) := rbody_any v R 16 w h
theorem rsized16 (v : Value) (L : List Str) (w : World) (h : Strs w v L) : Calls Try.prog 68 #[v, .int .i64 16] w fun e w' => e = .returned (.bool (sized L 16)) ∧ w = w' := by
  have HS := Lib.hid (show Calls Try.prog 89 #[v, .int .i64 16] w _ from sized_any v L 16 w h)
  obtain ⟨ao, c, rfl⟩ := h.shape
  obtain ⟨d, hd⟩ : ∃ d, sized L 16 = d := ⟨_, rfl⟩
  rw [hd] at HS ⊢
  clear h hd
  go_enter Try.func68, Try.ntmps68
  go_wp2_with ((with_reducible refine HS.out.mono ?_); rintro e w2 ⟨rfl, hw2⟩; subst w2)
  go_ret
  exact ⟨rfl, rfl⟩
theorem may9_q (v : Int) (g : Str) (mx : Int) (q : Bool) (r ev : Int) (L : List Str) (R : List Rec) : mayM9 ⟨1, v, g, mx, q, r, ev, L, R⟩ = ((decide (g = []) || grp g 16) && decide (R.length = 0) &&
    (if v = 2 then exact16 mx && exact8 ev && decide (0 ≤ r) && decide (r ≤ 7) && sized L 16 && (!decide (g = []) || decide (L.length = 0))
     else decide (v = 1) && bareB 0 q r ev L.length R.length && decide (0 ≤ mx) && decide (mx ≤ 65535))) := by
  rw [bareB_bare 1 v g 0 q r ev L R]
  have e1 : decide (R.length = 0) = decide (R = []) := by cases R <;> simp
  have e2 : decide (L.length = 0) = decide (L = []) := by cases L <;> simp
  have e3 : (!decide (g = [])) = decide (g ≠ []) := by cases g <;> rfl
  rw [e1, e2, e3]
  have h : mayM9 ⟨1, v, g, mx, q, r, ev, L, R⟩ = ((decide (g = []) || grp g 16) && decide (R = []) &&
    (if v = 2 then exact16 mx && exact8 ev && decide (0 ≤ r) && decide (r ≤ 7) && sized L 16 && (decide (g ≠ []) || decide (L = []))
     else decide (v = 1) && bare ⟨1, v, g, 0, q, r, ev, L, R⟩ && decide (0 ≤ mx) && decide (mx ≤ 65535))) := rfl
  rw [h]

set_option maxHeartbeats 4000000 in
theorem rmay_22 (mx r ev : Int) (g : Str) (q : Bool) (so : Option Addr) (L : List Str) (sc : Nat) (ro : Option Addr) (R : List Rec) (rc : Nat) (w : World)
    (hs : Strs w (.slice so L.length sc) L) (hrs : Recs w (.slice ro R.length rc) R) (hg : g.length ≤ maxLen) :
    Calls Try.prog 32 #[.agg (msgCells 2 2 g mx q r ev so L.length sc ro R.length rc)] w (RetB w (mayM9 ⟨2, 2, g, mx, q, r, ev, L, R⟩)) := by
  have l1 := run_len_any (P := Try.prog) Try.underlying26 so L.length sc
  have l2 := run_len_any (P := Try.prog) Try.underlying27 ro R.length rc
  have b0 : (⟨#[]⟩ : ByteArray) = bstr [] := bstr_nil.symm
  obtain ⟨W1, hW1⟩ : ∃ W1, w.alloc (.cells (msgCells 2 2 g mx q r ev so L.length sc ro R.length rc) 29) = W1 := ⟨_, rfl⟩
  obtain ⟨mb, hmb⟩ : ∃ mb, w.heap.size = mb := ⟨_, rfl⟩
  have hb1 : Below w.heap.size w W1 := by rw [← hW1]; exact (Below.refl _ _).alloc (Nat.le_refl _) _
  have HX1 := Lib.hid (show CBox W1 mb 29 (msgCells 2 2 g mx q r ev so L.length sc ro R.length rc) from by rw [← hW1]; exact CBox.new _ hmb.symm)
  have HS1 := Lib.hid (hs.mono hb1); have HR1 := Lib.hid (hrs.mono hb1)
  have HB1 := Lib.hid (show Below mb w W1 from hmb ▸ hb1)
  have HW1 := Lib.hid hW1; have HMB := Lib.hid hmb; have HG := Lib.hid hg
  have HGR := Lib.hid (fun W => rgroup9_any g W hg)
  obtain ⟨ns, hns⟩ : ∃ ns, L.length = ns := ⟨_, rfl⟩
  obtain ⟨nr, hnr⟩ : ∃ nr, R.length = nr := ⟨_, rfl⟩
  rw [hns] at l1 HX1 HS1 HW1
  rw [hnr] at l2 HX1 HR1 HW1
  rw [hns, hnr]
  have HNS := Lib.hid hns; have HNR := Lib.hid hnr
  clear hs hrs hg hW1 hmb hb1 hns hnr
  have HBD := Lib.hid (rbody16 (.slice ro nr rc) R W1 HR1.out)
  have hm := may9_22 g mx q r ev L R
  obtain ⟨PB, hPB⟩ : ∃ P, (pbody R 16).1 = P := ⟨_, rfl⟩
  obtain ⟨er, her⟩ : ∃ e, (pbody R 16).2 = e := ⟨_, rfl⟩
  rw [hPB, her] at HBD
  rw [her, HNS.out] at hm
  unfold RetBody at HBD
  obtain ⟨c5, hc5⟩ : ∃ c, (er == 0) = c := ⟨_, rfl⟩
  obtain ⟨t8, ht8⟩ : ∃ t, bareB mx q r ev ns 0 = t := ⟨_, rfl⟩
  rw [hc5, ht8] at hm
  have HM := Lib.hid hm
  have HBR := Lib.hid (fun W => rbare_any 2 2 mx r ev g q so ns sc none 0 0 W)
  rw [ht8] at HBR
  clear hm hPB her ht8
  go_enter Try.func32, Try.ntmps32
  go_upto_region 1 with fail
  rw [HMB.out, HW1.out]
  have X1 := HX1.out
  obtain ⟨x0, xf0⟩ := CBox.at_ X1 0 _ rfl
  obtain ⟨x1, xf1⟩ := CBox.at_ X1 1 _ rfl
  obtain ⟨x2, xf2⟩ := CBox.at_ X1 2 _ rfl
  obtain ⟨x3, xf3⟩ := CBox.at_ X1 3 _ rfl
  obtain ⟨x4, xf4⟩ := CBox.at_ X1 4 _ rfl
  obtain ⟨x5, xf5⟩ := CBox.at_ X1 5 _ rfl
  obtain ⟨x6, xf6⟩ := CBox.at_ X1 6 _ rfl
  obtain ⟨x7, xf7⟩ := CBox.at_ X1 7 _ rfl
  obtain ⟨x8, xf8⟩ := CBox.at_ X1 8 _ rfl
  clear X1
  go_upto_region 4 with ((with_reducible refine HBD.out.mono ?_); rintro e w3 ⟨rfl, hb3⟩; have HX3 := Lib.hid (HX1.out.below hb3 HX1.out.lt); have HB3 := Lib.hid (HB1.out.trans (hb3.mono (Nat.le_of_lt HX1.out.lt))); clear hb3 x0 xf0 x1 xf1 x2 xf2 x3 xf3 x4 xf4 x5 xf5 x6 xf6 x7 xf7 x8 xf8)
  obtain ⟨x8, xf8⟩ := HX3.out.at_ 8 _ rfl
  go_upto_region 5 with fail
  have HXB := Lib.hid (show CBox (w3.setCell ⟨mb, 8, none⟩ (.slice none 0 0)) mb 29 (msgCells 2 2 g mx q r ev so ns sc none 0 0) from HX3.out.set 8 _)
  have HBW := Lib.hid (show Below mb w (w3.setCell ⟨mb, 8, none⟩ (.slice none 0 0)) from HB3.out.setCell (p := ⟨mb, 8, none⟩) (Nat.le_refl _) _)
  obtain ⟨W4, hW4⟩ : ∃ W4, w3.setCell ⟨mb, 8, none⟩ (.slice none 0 0) = W4 := ⟨_, rfl⟩
  rw [hW4] at HXB HBW ⊢
  clear hW4 x8 xf8
  have XB := HXB.out
  obtain ⟨x0, xf0⟩ := CBox.at_ XB 0 _ rfl
  obtain ⟨x1, xf1⟩ := CBox.at_ XB 1 _ rfl
  obtain ⟨x2, xf2⟩ := CBox.at_ XB 2 _ rfl
  obtain ⟨x3, xf3⟩ := CBox.at_ XB 3 _ rfl
  obtain ⟨x4, xf4⟩ := CBox.at_ XB 4 _ rfl
  obtain ⟨x5, xf5⟩ := CBox.at_ XB 5 _ rfl
  obtain ⟨x6, xf6⟩ := CBox.at_ XB 6 _ rfl
  obtain ⟨x7, xf7⟩ := CBox.at_ XB 7 _ rfl
  obtain ⟨x8, xf8⟩ := CBox.at_ XB 8 _ rfl
  clear XB
  by_cases hg0 : g = []
  · subst hg0
    rw [decide_eq_true rfl] at HM
    cases c5
    · go_wp2_with fail
      go_ret
      exact ⟨by rw [HM.out]; rfl, HMB.out ▸ HBW.out⟩
    · go_wp2_with ((with_reducible refine (HBR.out _).mono ?_); rintro e w9 ⟨rfl, hb9⟩; have HB9 := Lib.hid (HBW.out.trans (hb9.mono (Nat.le_of_lt HXB.out.lt))); clear hb9)
      go_ret
      exact ⟨by rw [HM.out]; cases t8 <;> rfl, HMB.out ▸ HB9.out⟩
  · have e2 : (g == []) = false := beq_eq_false_iff_ne.2 hg0
    have e3 : g.isEmpty = false := isEmpty_ne hg0
    rw [decide_eq_false hg0] at HM
    clear hg0
    go_wp2_with fail
    go_ret
    exact ⟨by rw [HM.out]; cases c5 <;> rfl, HMB.out ▸ HBW.out⟩

set_option maxHeartbeats 4000000 in
theorem rmay_21 (mx r ev : Int) (g : Str) (q : Bool) (so : Option Addr) (L : List Str) (sc : Nat) (ro : Option Addr) (R : List Rec) (rc : Nat) (w : World)
    (hs : Strs w (.slice so L.length sc) L) (hrs : Recs w (.slice ro R.length rc) R) (hg : g.length ≤ maxLen) :
    Calls Try.prog 32 #[.agg (msgCells 2 1 g mx q r ev so L.length sc ro R.length rc)] w (RetB w (mayM9 ⟨2, 1, g, mx, q, r, ev, L, R⟩)) := by
  have l1 := run_len_any (P := Try.prog) Try.underlying26 so L.length sc
  have l2 := run_len_any (P := Try.prog) Try.underlying27 ro R.length rc
  have b0 : (⟨#[]⟩ : ByteArray) = bstr [] := bstr_nil.symm
  obtain ⟨W1, hW1⟩ : ∃ W1, w.alloc (.cells (msgCells 2 1 g mx q r ev so L.length sc ro R.length rc) 29) = W1 := ⟨_, rfl⟩
  obtain ⟨mb, hmb⟩ : ∃ mb, w.heap.size = mb := ⟨_, rfl⟩
  have hb1 : Below w.heap.size w W1 := by rw [← hW1]; exact (Below.refl _ _).alloc (Nat.le_refl _) _
  have HX1 := Lib.hid (show CBox W1 mb 29 (msgCells 2 1 g mx q r ev so L.length sc ro R.length rc) from by rw [← hW1]; exact CBox.new _ hmb.symm)
  have HS1 := Lib.hid (hs.mono hb1); have HR1 := Lib.hid (hrs.mono hb1)
  have HB1 := Lib.hid (show Below mb w W1 from hmb ▸ hb1)
  have HW1 := Lib.hid hW1; have HMB := Lib.hid hmb; have HG := Lib.hid hg
  have HGR := Lib.hid (fun W => rgroup9_any g W hg)
  obtain ⟨ns, hns⟩ : ∃ ns, L.length = ns := ⟨_, rfl⟩
  obtain ⟨nr, hnr⟩ : ∃ nr, R.length = nr := ⟨_, rfl⟩
  rw [hns] at l1 HX1 HS1 HW1
  rw [hnr] at l2 HX1 HR1 HW1
  rw [hns, hnr]
  have HNS := Lib.hid hns; have HNR := Lib.hid hnr
  clear hs hrs hg hW1 hmb hb1 hns hnr
  have HBR := Lib.hid (fun W => rbare_any 2 1 mx r ev g q so ns sc ro nr rc W)
  have hm := may9_one 2 g mx q r ev L R (by decide)
  rw [HNS.out, HNR.out] at hm
  obtain ⟨c3, hc3⟩ : ∃ c, grp g 16 = c := ⟨_, rfl⟩
  obtain ⟨t8, ht8⟩ : ∃ t, bareB mx q r ev ns nr = t := ⟨_, rfl⟩
  rw [hc3, ht8] at hm
  rw [hc3] at HGR
  rw [ht8] at HBR
  have HM := Lib.hid hm
  clear hm hc3 ht8
  cases c3
  · go_enter Try.func32, Try.ntmps32
    go_upto_region 1 with fail
    rw [HMB.out, HW1.out]
    have X1 := HX1.out
    obtain ⟨x0, xf0⟩ := CBox.at_ X1 0 _ rfl
    obtain ⟨x1, xf1⟩ := CBox.at_ X1 1 _ rfl
    obtain ⟨x2, xf2⟩ := CBox.at_ X1 2 _ rfl
    obtain ⟨x3, xf3⟩ := CBox.at_ X1 3 _ rfl
    obtain ⟨x4, xf4⟩ := CBox.at_ X1 4 _ rfl
    obtain ⟨x5, xf5⟩ := CBox.at_ X1 5 _ rfl
    obtain ⟨x6, xf6⟩ := CBox.at_ X1 6 _ rfl
    obtain ⟨x7, xf7⟩ := CBox.at_ X1 7 _ rfl
    obtain ⟨x8, xf8⟩ := CBox.at_ X1 8 _ rfl
    clear X1
    go_wp2_with ((with_reducible refine (HGR.out _).mono ?_); rintro e w2 ⟨rfl, hw2⟩; subst hw2)
    go_ret
    exact ⟨by rw [HM.out]; rfl, HMB.out ▸ HB1.out⟩
  · go_enter Try.func32, Try.ntmps32
    go_upto_region 1 with fail
    rw [HMB.out, HW1.out]
    have X1 := HX1.out
    obtain ⟨x0, xf0⟩ := CBox.at_ X1 0 _ rfl
    obtain ⟨x1, xf1⟩ := CBox.at_ X1 1 _ rfl
    obtain ⟨x2, xf2⟩ := CBox.at_ X1 2 _ rfl
    obtain ⟨x3, xf3⟩ := CBox.at_ X1 3 _ rfl
    obtain ⟨x4, xf4⟩ := CBox.at_ X1 4 _ rfl
    obtain ⟨x5, xf5⟩ := CBox.at_ X1 5 _ rfl
    obtain ⟨x6, xf6⟩ := CBox.at_ X1 6 _ rfl
    obtain ⟨x7, xf7⟩ := CBox.at_ X1 7 _ rfl
    obtain ⟨x8, xf8⟩ := CBox.at_ X1 8 _ rfl
    clear X1
    go_wp2_with (first | ((with_reducible refine (HGR.out _).mono ?_); rintro e w2 ⟨rfl, hw2⟩; subst hw2) | ((with_reducible refine (HBR.out _).mono ?_); rintro e w9 ⟨rfl, hb9⟩; have HB9 := Lib.hid (HB1.out.trans (hb9.mono (Nat.le_of_lt HX1.out.lt))); clear hb9))
    go_ret
    exact ⟨by rw [HM.out]; rfl, HMB.out ▸ HB9.out⟩

set_option maxHeartbeats 4000000 in
theorem rmay_31 (mx r ev : Int) (g : Str) (q : Bool) (so : Option Addr) (L : List Str) (sc : Nat) (ro : Option Addr) (R : List Rec) (rc : Nat) (w : World)
    (hs : Strs w (.slice so L.length sc) L) (hrs : Recs w (.slice ro R.length rc) R) (hg : g.length ≤ maxLen) :
    Calls Try.prog 32 #[.agg (msgCells 3 1 g mx q r ev so L.length sc ro R.length rc)] w (RetB w (mayM9 ⟨3, 1, g, mx, q, r, ev, L, R⟩)) := by
  have l1 := run_len_any (P := Try.prog) Try.underlying26 so L.length sc
  have l2 := run_len_any (P := Try.prog) Try.underlying27 ro R.length rc
  have b0 : (⟨#[]⟩ : ByteArray) = bstr [] := bstr_nil.symm
  obtain ⟨W1, hW1⟩ : ∃ W1, w.alloc (.cells (msgCells 3 1 g mx q r ev so L.length sc ro R.length rc) 29) = W1 := ⟨_, rfl⟩
  obtain ⟨mb, hmb⟩ : ∃ mb, w.heap.size = mb := ⟨_, rfl⟩
  have hb1 : Below w.heap.size w W1 := by rw [← hW1]; exact (Below.refl _ _).alloc (Nat.le_refl _) _
  have HX1 := Lib.hid (show CBox W1 mb 29 (msgCells 3 1 g mx q r ev so L.length sc ro R.length rc) from by rw [← hW1]; exact CBox.new _ hmb.symm)
  have HS1 := Lib.hid (hs.mono hb1); have HR1 := Lib.hid (hrs.mono hb1)
  have HB1 := Lib.hid (show Below mb w W1 from hmb ▸ hb1)
  have HW1 := Lib.hid hW1; have HMB := Lib.hid hmb; have HG := Lib.hid hg
  have HGR := Lib.hid (fun W => rgroup9_any g W hg)
  obtain ⟨ns, hns⟩ : ∃ ns, L.length = ns := ⟨_, rfl⟩
  obtain ⟨nr, hnr⟩ : ∃ nr, R.length = nr := ⟨_, rfl⟩
  rw [hns] at l1 HX1 HS1 HW1
  rw [hnr] at l2 HX1 HR1 HW1
  rw [hns, hnr]
  have HNS := Lib.hid hns; have HNR := Lib.hid hnr
  clear hs hrs hg hW1 hmb hb1 hns hnr
  have HBR := Lib.hid (fun W => rbare_any 3 1 mx r ev g q so ns sc ro nr rc W)
  have hm := may9_one 3 g mx q r ev L R (by decide)
  rw [HNS.out, HNR.out] at hm
  obtain ⟨c3, hc3⟩ : ∃ c, grp g 16 = c := ⟨_, rfl⟩
  obtain ⟨t8, ht8⟩ : ∃ t, bareB mx q r ev ns nr = t := ⟨_, rfl⟩
  rw [hc3, ht8] at hm
  rw [hc3] at HGR
  rw [ht8] at HBR
  have HM := Lib.hid hm
  clear hm hc3 ht8
  cases c3
  · go_enter Try.func32, Try.ntmps32
    go_upto_region 1 with fail
    rw [HMB.out, HW1.out]
    have X1 := HX1.out
    obtain ⟨x0, xf0⟩ := CBox.at_ X1 0 _ rfl
    obtain ⟨x1, xf1⟩ := CBox.at_ X1 1 _ rfl
    obtain ⟨x2, xf2⟩ := CBox.at_ X1 2 _ rfl
    obtain ⟨x3, xf3⟩ := CBox.at_ X1 3 _ rfl
    obtain ⟨x4, xf4⟩ := CBox.at_ X1 4 _ rfl
    obtain ⟨x5, xf5⟩ := CBox.at_ X1 5 _ rfl
    obtain ⟨x6, xf6⟩ := CBox.at_ X1 6 _ rfl
    obtain ⟨x7, xf7⟩ := CBox.at_ X1 7 _ rfl
    obtain ⟨x8, xf8⟩ := CBox.at_ X1 8 _ rfl
    clear X1
    go_wp2_with ((with_reducible refine (HGR.out _).mono ?_); rintro e w2 ⟨rfl, hw2⟩; subst hw2)
    go_ret
    exact ⟨by rw [HM.out]; rfl, HMB.out ▸ HB1.out⟩
  · go_enter Try.func32, Try.ntmps32
    go_upto_region 1 with fail
    rw [HMB.out, HW1.out]
    have X1 := HX1.out
    obtain ⟨x0, xf0⟩ := CBox.at_ X1 0 _ rfl
    obtain ⟨x1, xf1⟩ := CBox.at_ X1 1 _ rfl
    obtain ⟨x2, xf2⟩ := CBox.at_ X1 2 _ rfl
    obtain ⟨x3, xf3⟩ := CBox.at_ X1 3 _ rfl
    obtain ⟨x4, xf4⟩ := CBox.at_ X1 4 _ rfl
    obtain ⟨x5, xf5⟩ := CBox.at_ X1 5 _ rfl
    obtain ⟨x6, xf6⟩ := CBox.at_ X1 6 _ rfl
    obtain ⟨x7, xf7⟩ := CBox.at_ X1 7 _ rfl
    obtain ⟨x8, xf8⟩ := CBox.at_ X1 8 _ rfl
    clear X1
    go_wp2_with (first | ((with_reducible refine (HGR.out _).mono ?_); rintro e w2 ⟨rfl, hw2⟩; subst hw2) | ((with_reducible refine (HBR.out _).mono ?_); rintro e w9 ⟨rfl, hb9⟩; have HB9 := Lib.hid (HB1.out.trans (hb9.mono (Nat.le_of_lt HX1.out.lt))); clear hb9))
    go_ret
    exact ⟨by rw [HM.out]; rfl, HMB.out ▸ HB9.out⟩

set_option maxHeartbeats 4000000 in
theorem rmay_n1 (k v mx r ev : Int) (g : Str) (q : Bool) (so : Option Addr) (L : List Str) (sc : Nat) (ro : Option Addr) (R : List Rec) (rc : Nat) (w : World)
    (hs : Strs w (.slice so L.length sc) L) (hrs : Recs w (.slice ro R.length rc) R) (hg : g.length ≤ maxLen) (h0 : k = 2) (h1 : ¬ v = 2) (h2 : ¬ v = 1) :
    Calls Try.prog 32 #[.agg (msgCells k v g mx q r ev so L.length sc ro R.length rc)] w (RetB w (mayM9 ⟨k, v, g, mx, q, r, ev, L, R⟩)) := by
  have l1 := run_len_any (P := Try.prog) Try.underlying26 so L.length sc
  have l2 := run_len_any (P := Try.prog) Try.underlying27 ro R.length rc
  have b0 : (⟨#[]⟩ : ByteArray) = bstr [] := bstr_nil.symm
  obtain ⟨W1, hW1⟩ : ∃ W1, w.alloc (.cells (msgCells k v g mx q r ev so L.length sc ro R.length rc) 29) = W1 := ⟨_, rfl⟩
  obtain ⟨mb, hmb⟩ : ∃ mb, w.heap.size = mb := ⟨_, rfl⟩
  have hb1 : Below w.heap.size w W1 := by rw [← hW1]; exact (Below.refl _ _).alloc (Nat.le_refl _) _
  have HX1 := Lib.hid (show CBox W1 mb 29 (msgCells k v g mx q r ev so L.length sc ro R.length rc) from by rw [← hW1]; exact CBox.new _ hmb.symm)
  have HS1 := Lib.hid (hs.mono hb1); have HR1 := Lib.hid (hrs.mono hb1)
  have HB1 := Lib.hid (show Below mb w W1 from hmb ▸ hb1)
  have HW1 := Lib.hid hW1; have HMB := Lib.hid hmb; have HG := Lib.hid hg
  have HGR := Lib.hid (fun W => rgroup9_any g W hg)
  obtain ⟨ns, hns⟩ : ∃ ns, L.length = ns := ⟨_, rfl⟩
  obtain ⟨nr, hnr⟩ : ∃ nr, R.length = nr := ⟨_, rfl⟩
  rw [hns] at l1 HX1 HS1 HW1
  rw [hnr] at l2 HX1 HR1 HW1
  rw [hns, hnr]
  have HNS := Lib.hid hns; have HNR := Lib.hid hnr
  clear hs hrs hg hW1 hmb hb1 hns hnr
  have HM := Lib.hid (may9_no k v g mx q r ev L R (by omega) (by omega) (by omega) (by omega))
  have q0 : (k != 1) = true := bne_iff_ne.2 (by omega)
  have q1 : (k == 2) = true := beq_iff_eq.2 h0
  have q2 : (v == 2) = false := beq_eq_false_iff_ne.2 h1
  have q3 : (v == 1) = false := beq_eq_false_iff_ne.2 h2
  clear h0 h1 h2
  go_enter Try.func32, Try.ntmps32
  go_upto_region 1 with fail
  rw [HMB.out, HW1.out]
  have X1 := HX1.out
  obtain ⟨x0, xf0⟩ := CBox.at_ X1 0 _ rfl
  obtain ⟨x1, xf1⟩ := CBox.at_ X1 1 _ rfl
  obtain ⟨x2, xf2⟩ := CBox.at_ X1 2 _ rfl
  obtain ⟨x3, xf3⟩ := CBox.at_ X1 3 _ rfl
  obtain ⟨x4, xf4⟩ := CBox.at_ X1 4 _ rfl
  obtain ⟨x5, xf5⟩ := CBox.at_ X1 5 _ rfl
  obtain ⟨x6, xf6⟩ := CBox.at_ X1 6 _ rfl
  obtain ⟨x7, xf7⟩ := CBox.at_ X1 7 _ rfl
  obtain ⟨x8, xf8⟩ := CBox.at_ X1 8 _ rfl
  clear X1
  go_wp2_with fail
  go_ret
  exact ⟨by rw [HM.out]; rfl, HMB.out ▸ HB1.out⟩

set_option maxHeartbeats 4000000 in
theorem rmay_n2 (k v mx r ev : Int) (g : Str) (q : Bool) (so : Option Addr) (L : List Str) (sc : Nat) (ro : Option Addr) (R : List Rec) (rc : Nat) (w : World)
    (hs : Strs w (.slice so L.length sc) L) (hrs : Recs w (.slice ro R.length rc) R) (hg : g.length ≤ maxLen) (h0 : k = 3) (h1 : ¬ v = 1) :
    Calls Try.prog 32 #[.agg (msgCells k v g mx q r ev so L.length sc ro R.length rc)] w (RetB w (mayM9 ⟨k, v, g, mx, q, r, ev, L, R⟩)) := by
  have l1 := run_len_any (P := Try.prog) Try.underlying26 so L.length sc
  have l2 := run_len_any (P := Try.prog) Try.underlying27 ro R.length rc
  have b0 : (⟨#[]⟩ : ByteArray) = bstr [] := bstr_nil.symm
  obtain ⟨W1, hW1⟩ : ∃ W1, w.alloc (.cells (msgCells k v g mx q r ev so L.length sc ro R.length rc) 29) = W1 := ⟨_, rfl⟩
  obtain ⟨mb, hmb⟩ : ∃ mb, w.heap.size = mb := ⟨_, rfl⟩
  have hb1 : Below w.heap.size w W1 := by rw [← hW1]; exact (Below.refl _ _).alloc (Nat.le_refl _) _
  have HX1 := Lib.hid (show CBox W1 mb 29 (msgCells k v g mx q r ev so L.length sc ro R.length rc) from by rw [← hW1]; exact CBox.new _ hmb.symm)
  have HS1 := Lib.hid (hs.mono hb1); have HR1 := Lib.hid (hrs.mono hb1)
  have HB1 := Lib.hid (show Below mb w W1 from hmb ▸ hb1)
  have HW1 := Lib.hid hW1; have HMB := Lib.hid hmb; have HG := Lib.hid hg
  have HGR := Lib.hid (fun W => rgroup9_any g W hg)
  obtain ⟨ns, hns⟩ : ∃ ns, L.length = ns := ⟨_, rfl⟩
  obtain ⟨nr, hnr⟩ : ∃ nr, R.length = nr := ⟨_, rfl⟩
  rw [hns] at l1 HX1 HS1 HW1
  rw [hnr] at l2 HX1 HR1 HW1
  rw [hns, hnr]
  have HNS := Lib.hid hns; have HNR := Lib.hid hnr
  clear hs hrs hg hW1 hmb hb1 hns hnr
  have HM := Lib.hid (may9_no k v g mx q r ev L R (by omega) (by omega) (by omega) (by omega))
  have q0 : (k != 1) = true := bne_iff_ne.2 (by omega)
  have q1 : (k == 2) = false := beq_eq_false_iff_ne.2 (by omega)
  have q3 : (v == 1) = false := beq_eq_false_iff_ne.2 h1
  have q4 : (k == 3) = true := beq_iff_eq.2 h0
  clear h0 h1
  go_enter Try.func32, Try.ntmps32
  go_upto_region 1 with fail
  rw [HMB.out, HW1.out]
  have X1 := HX1.out
  obtain ⟨x0, xf0⟩ := CBox.at_ X1 0 _ rfl
  obtain ⟨x1, xf1⟩ := CBox.at_ X1 1 _ rfl
  obtain ⟨x2, xf2⟩ := CBox.at_ X1 2 _ rfl
  obtain ⟨x3, xf3⟩ := CBox.at_ X1 3 _ rfl
  obtain ⟨x4, xf4⟩ := CBox.at_ X1 4 _ rfl
  obtain ⟨x5, xf5⟩ := CBox.at_ X1 5 _ rfl
  obtain ⟨x6, xf6⟩ := CBox.at_ X1 6 _ rfl
  obtain ⟨x7, xf7⟩ := CBox.at_ X1 7 _ rfl
  obtain ⟨x8, xf8⟩ := CBox.at_ X1 8 _ rfl
  clear X1
  go_wp2_with fail
  go_ret
  exact ⟨by rw [HM.out]; rfl, HMB.out ▸ HB1.out⟩

set_option maxHeartbeats 4000000 in
theorem rmay_n3 (k v mx r ev : Int) (g : Str) (q : Bool) (so : Option Addr) (L : List Str) (sc : Nat) (ro : Option Addr) (R : List Rec) (rc : Nat) (w : World)
    (hs : Strs w (.slice so L.length sc) L) (hrs : Recs w (.slice ro R.length rc) R) (hg : g.length ≤ maxLen) (h0 : ¬ k = 1) (h1 : ¬ k = 2) (h2 : ¬ k = 3) :
    Calls Try.prog 32 #[.agg (msgCells k v g mx q r ev so L.length sc ro R.length rc)] w (RetB w (mayM9 ⟨k, v, g, mx, q, r, ev, L, R⟩)) := by
  have l1 := run_len_any (P := Try.prog) Try.underlying26 so L.length sc
  have l2 := run_len_any (P := Try.prog) Try.underlying27 ro R.length rc
  have b0 : (⟨#[]⟩ : ByteArray) = bstr [] := bstr_nil.symm
  obtain ⟨W1, hW1⟩ : ∃ W1, w.alloc (.cells (msgCells k v g mx q r ev so L.length sc ro R.length rc) 29) = W1 := ⟨_, rfl⟩
  obtain ⟨mb, hmb⟩ : ∃ mb, w.heap.size = mb := ⟨_, rfl⟩
  have hb1 : Below w.heap.size w W1 := by rw [← hW1]; exact (Below.refl _ _).alloc (Nat.le_refl _) _
  have HX1 := Lib.hid (show CBox W1 mb 29 (msgCells k v g mx q r ev so L.length sc ro R.length rc) from by rw [← hW1]; exact CBox.new _ hmb.symm)
  have HS1 := Lib.hid (hs.mono hb1); have HR1 := Lib.hid (hrs.mono hb1)
  have HB1 := Lib.hid (show Below mb w W1 from hmb ▸ hb1)
  have HW1 := Lib.hid hW1; have HMB := Lib.hid hmb; have HG := Lib.hid hg
  have HGR := Lib.hid (fun W => rgroup9_any g W hg)
  obtain ⟨ns, hns⟩ : ∃ ns, L.length = ns := ⟨_, rfl⟩
  obtain ⟨nr, hnr⟩ : ∃ nr, R.length = nr := ⟨_, rfl⟩
  rw [hns] at l1 HX1 HS1 HW1
  rw [hnr] at l2 HX1 HR1 HW1
  rw [hns, hnr]
  have HNS := Lib.hid hns; have HNR := Lib.hid hnr
  clear hs hrs hg hW1 hmb hb1 hns hnr
  have HM := Lib.hid (may9_no k v g mx q r ev L R h0 (by omega) (by omega) (by omega))
  have q0 : (k != 1) = true := bne_iff_ne.2 h0
  have q1 : (k == 2) = false := beq_eq_false_iff_ne.2 h1
  have q4 : (k == 3) = false := beq_eq_false_iff_ne.2 h2
  clear h0 h1 h2
  go_enter Try.func32, Try.ntmps32
  go_upto_region 1 with fail
  rw [HMB.out, HW1.out]
  have X1 := HX1.out
  obtain ⟨x0, xf0⟩ := CBox.at_ X1 0 _ rfl
  obtain ⟨x1, xf1⟩ := CBox.at_ X1 1 _ rfl
  obtain ⟨x2, xf2⟩ := CBox.at_ X1 2 _ rfl
  obtain ⟨x3, xf3⟩ := CBox.at_ X1 3 _ rfl
  obtain ⟨x4, xf4⟩ := CBox.at_ X1 4 _ rfl
  obtain ⟨x5, xf5⟩ := CBox.at_ X1 5 _ rfl
  obtain ⟨x6, xf6⟩ := CBox.at_ X1 6 _ rfl
  obtain ⟨x7, xf7⟩ := CBox.at_ X1 7 _ rfl
  obtain ⟨x8, xf8⟩ := CBox.at_ X1 8 _ rfl
  clear X1
  go_wp2_with fail
  go_ret
  exact ⟨by rw [HM.out]; rfl, HMB.out ▸ HB1.out⟩

set_option maxHeartbeats 4000000 in
theorem rmay_q (v mx r ev : Int) (g : Str) (q : Bool) (so : Option Addr) (L : List Str) (sc : Nat) (ro : Option Addr) (R : List Rec) (rc : Nat) (w : World)
    (hs : Strs w (.slice so L.length sc) L) (hrs : Recs w (.slice ro R.length rc) R) (hg : g.length ≤ maxLen) :
    Calls Try.prog 32 #[.agg (msgCells 1 v g mx q r ev so L.length sc ro R.length rc)] w (RetB w (mayM9 ⟨1, v, g, mx, q, r, ev, L, R⟩)) := by
  have l1 := run_len_any (P := Try.prog) Try.underlying26 so L.length sc
  have l2 := run_len_any (P := Try.prog) Try.underlying27 ro R.length rc
  have b0 : (⟨#[]⟩ : ByteArray) = bstr [] := bstr_nil.symm
  obtain ⟨W1, hW1⟩ : ∃ W1, w.alloc (.cells (msgCells 1 v g mx q r ev so L.length sc ro R.length rc) 29) = W1 := ⟨_, rfl⟩
  obtain ⟨mb, hmb⟩ : ∃ mb, w.heap.size = mb := ⟨_, rfl⟩
  have hb1 : Below w.heap.size w W1 := by rw [← hW1]; exact (Below.refl _ _).alloc (Nat.le_refl _) _
  have HX1 := Lib.hid (show CBox W1 mb 29 (msgCells 1 v g mx q r ev so L.length sc ro R.length rc) from by rw [← hW1]; exact CBox.new _ hmb.symm)
  have HS1 := Lib.hid (hs.mono hb1); have HR1 := Lib.hid (hrs.mono hb1)
  have HB1 := Lib.hid (show Below mb w W1 from hmb ▸ hb1)
  have HW1 := Lib.hid hW1; have HMB := Lib.hid hmb; have HG := Lib.hid hg
  have HGR := Lib.hid (fun W => rgroup9_any g W hg)
  obtain ⟨ns, hns⟩ : ∃ ns, L.length = ns := ⟨_, rfl⟩
  obtain ⟨nr, hnr⟩ : ∃ nr, R.length = nr := ⟨_, rfl⟩
  rw [hns] at l1 HX1 HS1 HW1
  rw [hnr] at l2 HX1 HR1 HW1
  rw [hns, hnr]
  have HNS := Lib.hid hns; have HNR := Lib.hid hnr
  clear hs hrs hg hW1 hmb hb1 hns hnr
  have hm := may9_q v g mx q r ev L R
  rw [HNS.out, HNR.out] at hm
  obtain ⟨c3, hc3⟩ : ∃ c, grp g 16 = c := ⟨_, rfl⟩
  rw [hc3] at hm HGR
  clear hc3
  by_cases hz : (g ≠ [] ∧ c3 = false) ∨ 0 < nr
  · have HM := Lib.hid (show mayM9 ⟨1, v, g, mx, q, r, ev, L, R⟩ = false from by
      rw [hm]
      rcases hz with ⟨h1, h2⟩ | h1
      · rw [decide_eq_false h1, h2]; rfl
      · rw [decide_eq_false (show ¬ nr = 0 by omega)]; cases (decide (g = []) || c3) <;> rfl)
    clear hm
    by_cases hg0 : g = []
    · have hnr : 0 < nr := by rcases hz with h | h; exact absurd hg0 h.1; exact h
      have dn : decide ((0 : Int) < nr) = true := decide_eq_true (by omega)
      have dn' : decide (0 < nr) = true := decide_eq_true hnr
      subst hg0
      clear hz hnr
      go_enter Try.func32, Try.ntmps32
      go_upto_region 1 with fail
      rw [HMB.out, HW1.out]
      have X1 := HX1.out
      obtain ⟨x0, xf0⟩ := CBox.at_ X1 0 _ rfl
      obtain ⟨x1, xf1⟩ := CBox.at_ X1 1 _ rfl
      obtain ⟨x2, xf2⟩ := CBox.at_ X1 2 _ rfl
      obtain ⟨x3, xf3⟩ := CBox.at_ X1 3 _ rfl
      obtain ⟨x4, xf4⟩ := CBox.at_ X1 4 _ rfl
      obtain ⟨x5, xf5⟩ := CBox.at_ X1 5 _ rfl
      obtain ⟨x6, xf6⟩ := CBox.at_ X1 6 _ rfl
      obtain ⟨x7, xf7⟩ := CBox.at_ X1 7 _ rfl
      obtain ⟨x8, xf8⟩ := CBox.at_ X1 8 _ rfl
      clear X1
      go_wp2_with fail
      go_ret
      exact ⟨by rw [HM.out]; rfl, HMB.out ▸ HB1.out⟩
    · have e2 : (g == []) = false := beq_eq_false_iff_ne.2 hg0
      have e3 : (g != []) = true := bne_iff_ne.2 hg0
      have e4 : g.isEmpty = false := isEmpty_ne hg0
      cases c3
      · clear hz hg0
        go_enter Try.func32, Try.ntmps32
        go_upto_region 1 with fail
        rw [HMB.out, HW1.out]
        have X1 := HX1.out
        obtain ⟨x0, xf0⟩ := CBox.at_ X1 0 _ rfl
        obtain ⟨x1, xf1⟩ := CBox.at_ X1 1 _ rfl
        obtain ⟨x2, xf2⟩ := CBox.at_ X1 2 _ rfl
        obtain ⟨x3, xf3⟩ := CBox.at_ X1 3 _ rfl
        obtain ⟨x4, xf4⟩ := CBox.at_ X1 4 _ rfl
        obtain ⟨x5, xf5⟩ := CBox.at_ X1 5 _ rfl
        obtain ⟨x6, xf6⟩ := CBox.at_ X1 6 _ rfl
        obtain ⟨x7, xf7⟩ := CBox.at_ X1 7 _ rfl
        obtain ⟨x8, xf8⟩ := CBox.at_ X1 8 _ rfl
        clear X1
        go_wp2_with ((with_reducible refine (HGR.out _).mono ?_); rintro e w2 ⟨rfl, hw2⟩; subst hw2)
        go_ret
        exact ⟨by rw [HM.out]; rfl, HMB.out ▸ HB1.out⟩
      · have hnr : 0 < nr := by rcases hz with h | h; cases h.2; exact h
        have dn : decide ((0 : Int) < nr) = true := decide_eq_true (by omega)
        have dn' : decide (0 < nr) = true := decide_eq_true hnr
        clear hz hg0 hnr
        go_enter Try.func32, Try.ntmps32
        go_upto_region 1 with fail
        rw [HMB.out, HW1.out]
        have X1 := HX1.out
        obtain ⟨x0, xf0⟩ := CBox.at_ X1 0 _ rfl
        obtain ⟨x1, xf1⟩ := CBox.at_ X1 1 _ rfl
        obtain ⟨x2, xf2⟩ := CBox.at_ X1 2 _ rfl
        obtain ⟨x3, xf3⟩ := CBox.at_ X1 3 _ rfl
        obtain ⟨x4, xf4⟩ := CBox.at_ X1 4 _ rfl
        obtain ⟨x5, xf5⟩ := CBox.at_ X1 5 _ rfl
        obtain ⟨x6, xf6⟩ := CBox.at_ X1 6 _ rfl
        obtain ⟨x7, xf7⟩ := CBox.at_ X1 7 _ rfl
        obtain ⟨x8, xf8⟩ := CBox.at_ X1 8 _ rfl
        clear X1
        go_wp2_with ((with_reducible refine (HGR.out _).mono ?_); rintro e w2 ⟨rfl, hw2⟩; subst hw2)
        go_ret
        exact ⟨by rw [HM.out]; rfl, HMB.out ▸ HB1.out⟩
  · have hnr : nr = 0 := by
      rcases Nat.eq_zero_or_pos nr with h | h
      · exact h
      · exact absurd (.inr h) hz
    have hgc : (decide (g = []) || c3) = true := by
      by_cases h1 : g = []
      · rw [decide_eq_true h1]; rfl
      · cases c3
        · exact absurd (.inl ⟨h1, rfl⟩) hz
        · rw [Bool.or_true]
    rw [hgc, decide_eq_true hnr] at hm
    have dn : decide ((0 : Int) < nr) = false := decide_eq_false (by omega)
    have dn' : decide (0 < nr) = false := decide_eq_false (by omega)
    obtain ⟨gz, hgz⟩ : ∃ t, decide (g = []) = t := ⟨_, rfl⟩
    rw [hgz] at hm hgc
    have HGZ := Lib.hid hgz
    have HNR0 := Lib.hid hnr
    clear hz hnr
    by_cases hv : v = 2
    · rw [if_pos hv] at hm
      have qv : (v == 2) = true := beq_iff_eq.2 hv
      have HE1 := Lib.hid (fun W => exact16_any mx W)
      have HE2 := Lib.hid (fun W => exact8_any ev W)
      have HSZ := Lib.hid (rsized16 (.slice so ns sc) L W1 HS1.out)
      obtain ⟨t1, ht1⟩ : ∃ t, exact16 mx = t := ⟨_, rfl⟩
      obtain ⟨t2, ht2⟩ : ∃ t, exact8 ev = t := ⟨_, rfl⟩
      obtain ⟨t3, ht3⟩ : ∃ t, decide (0 ≤ r) = t := ⟨_, rfl⟩
      obtain ⟨t4, ht4⟩ : ∃ t, decide (r ≤ 7) = t := ⟨_, rfl⟩
      obtain ⟨t5, ht5⟩ : ∃ t, sized L 16 = t := ⟨_, rfl⟩
      obtain ⟨t6, ht6⟩ : ∃ t, decide (ns = 0) = t := ⟨_, rfl⟩
      rw [ht1, ht2, ht3, ht4, ht5, ht6] at hm
      rw [ht1] at HE1
      rw [ht2] at HE2
      rw [ht5] at HSZ
      have qn : ((ns : Int) == 0) = t6 := by rw [← ht6, Bool.eq_iff_iff, beq_iff_eq, decide_eq_true_eq]; omega
      have qn' : (ns == 0) = t6 := by rw [← ht6, Bool.eq_iff_iff, beq_iff_eq, decide_eq_true_eq]
      have HM := Lib.hid hm
      clear hm ht1 ht2 ht5 ht6 hv
      by_cases hg0 : g = []
      · have hgz1 : gz = true := by rw [← HGZ.out]; exact decide_eq_true hg0
        subst hgz1 hg0
        clear hgz hgc
        go_enter Try.func32, Try.ntmps32
        go_upto_region 1 with fail
        rw [HMB.out, HW1.out]
        have X1 := HX1.out
        obtain ⟨x0, xf0⟩ := CBox.at_ X1 0 _ rfl
        obtain ⟨x1, xf1⟩ := CBox.at_ X1 1 _ rfl
        obtain ⟨x2, xf2⟩ := CBox.at_ X1 2 _ rfl
        obtain ⟨x3, xf3⟩ := CBox.at_ X1 3 _ rfl
        obtain ⟨x4, xf4⟩ := CBox.at_ X1 4 _ rfl
        obtain ⟨x5, xf5⟩ := CBox.at_ X1 5 _ rfl
        obtain ⟨x6, xf6⟩ := CBox.at_ X1 6 _ rfl
        obtain ⟨x7, xf7⟩ := CBox.at_ X1 7 _ rfl
        obtain ⟨x8, xf8⟩ := CBox.at_ X1 8 _ rfl
        clear X1
        go_upto_region 10 with fail
        cases t1
        · go_wp2_with ((with_reducible refine (HE1.out _).mono ?_); rintro e w3 ⟨rfl, hw3⟩; subst hw3)
          go_ret
          exact ⟨by rw [HM.out]; rfl, HMB.out ▸ HB1.out⟩
        · cases t2
          · go_wp2_with (first | ((with_reducible refine (HE1.out _).mono ?_); rintro e w3 ⟨rfl, hw3⟩; subst hw3) | ((with_reducible refine (HE2.out _).mono ?_); rintro e w3 ⟨rfl, hw3⟩; subst hw3))
            go_ret
            exact ⟨by rw [HM.out]; rfl, HMB.out ▸ HB1.out⟩
          · cases t3
            · go_wp2_with (first | ((with_reducible refine (HE1.out _).mono ?_); rintro e w3 ⟨rfl, hw3⟩; subst hw3) | ((with_reducible refine (HE2.out _).mono ?_); rintro e w3 ⟨rfl, hw3⟩; subst hw3))
              go_ret
              exact ⟨by rw [HM.out]; rfl, HMB.out ▸ HB1.out⟩
            · cases t4
              · go_wp2_with (first | ((with_reducible refine (HE1.out _).mono ?_); rintro e w3 ⟨rfl, hw3⟩; subst hw3) | ((with_reducible refine (HE2.out _).mono ?_); rintro e w3 ⟨rfl, hw3⟩; subst hw3))
                go_ret
                exact ⟨by rw [HM.out]; rfl, HMB.out ▸ HB1.out⟩
              · cases t5
                · go_wp2_with (first | ((with_reducible refine (HE1.out _).mono ?_); rintro e w3 ⟨rfl, hw3⟩; subst hw3) | ((with_reducible refine (HE2.out _).mono ?_); rintro e w3 ⟨rfl, hw3⟩; subst hw3) | ((with_reducible refine HSZ.out.mono ?_); rintro e w4 ⟨rfl, hw4⟩; subst hw4))
                  go_ret
                  exact ⟨by rw [HM.out]; rfl, HMB.out ▸ HB1.out⟩
                · go_wp2_with (first | ((with_reducible refine (HE1.out _).mono ?_); rintro e w3 ⟨rfl, hw3⟩; subst hw3) | ((with_reducible refine (HE2.out _).mono ?_); rintro e w3 ⟨rfl, hw3⟩; subst hw3) | ((with_reducible refine HSZ.out.mono ?_); rintro e w4 ⟨rfl, hw4⟩; subst hw4))
                  go_ret
                  exact ⟨by rw [HM.out]; rfl, HMB.out ▸ HB1.out⟩
      · have hgz1 : gz = false := by rw [← HGZ.out]; exact decide_eq_false hg0
        have e2 : (g == []) = false := beq_eq_false_iff_ne.2 hg0
        have e3 : (g != []) = true := bne_iff_ne.2 hg0
        have e4 : g.isEmpty = false := isEmpty_ne hg0
        subst hgz1
        have hc3 : c3 = true := hgc
        subst hc3
        clear hgz hgc hg0
        go_enter Try.func32, Try.ntmps32
        go_upto_region 1 with fail
        rw [HMB.out, HW1.out]
        have X1 := HX1.out
        obtain ⟨x0, xf0⟩ := CBox.at_ X1 0 _ rfl
        obtain ⟨x1, xf1⟩ := CBox.at_ X1 1 _ rfl
        obtain ⟨x2, xf2⟩ := CBox.at_ X1 2 _ rfl
        obtain ⟨x3, xf3⟩ := CBox.at_ X1 3 _ rfl
        obtain ⟨x4, xf4⟩ := CBox.at_ X1 4 _ rfl
        obtain ⟨x5, xf5⟩ := CBox.at_ X1 5 _ rfl
        obtain ⟨x6, xf6⟩ := CBox.at_ X1 6 _ rfl
        obtain ⟨x7, xf7⟩ := CBox.at_ X1 7 _ rfl
        obtain ⟨x8, xf8⟩ := CBox.at_ X1 8 _ rfl
        clear X1
        go_upto_region 10 with ((with_reducible refine (HGR.out _).mono ?_); rintro e w2 ⟨rfl, hw2⟩; subst hw2)
        cases t1
        · go_wp2_with ((with_reducible refine (HE1.out _).mono ?_); rintro e w3 ⟨rfl, hw3⟩; subst hw3)
          go_ret
          exact ⟨by rw [HM.out]; rfl, HMB.out ▸ HB1.out⟩
        · cases t2
          · go_wp2_with (first | ((with_reducible refine (HE1.out _).mono ?_); rintro e w3 ⟨rfl, hw3⟩; subst hw3) | ((with_reducible refine (HE2.out _).mono ?_); rintro e w3 ⟨rfl, hw3⟩; subst hw3))
            go_ret
            exact ⟨by rw [HM.out]; rfl, HMB.out ▸ HB1.out⟩
          · cases t3
            · go_wp2_with (first | ((with_reducible refine (HE1.out _).mono ?_); rintro e w3 ⟨rfl, hw3⟩; subst hw3) | ((with_reducible refine (HE2.out _).mono ?_); rintro e w3 ⟨rfl, hw3⟩; subst hw3))
              go_ret
              exact ⟨by rw [HM.out]; rfl, HMB.out ▸ HB1.out⟩
            · cases t4
              · go_wp2_with (first | ((with_reducible refine (HE1.out _).mono ?_); rintro e w3 ⟨rfl, hw3⟩; subst hw3) | ((with_reducible refine (HE2.out _).mono ?_); rintro e w3 ⟨rfl, hw3⟩; subst hw3))
                go_ret
                exact ⟨by rw [HM.out]; rfl, HMB.out ▸ HB1.out⟩
              · cases t5
                · go_wp2_with (first | ((with_reducible refine (HE1.out _).mono ?_); rintro e w3 ⟨rfl, hw3⟩; subst hw3) | ((with_reducible refine (HE2.out _).mono ?_); rintro e w3 ⟨rfl, hw3⟩; subst hw3) | ((with_reducible refine HSZ.out.mono ?_); rintro e w4 ⟨rfl, hw4⟩; subst hw4))
                  go_ret
                  exact ⟨by rw [HM.out]; rfl, HMB.out ▸ HB1.out⟩
                · go_wp2_with (first | ((with_reducible refine (HE1.out _).mono ?_); rintro e w3 ⟨rfl, hw3⟩; subst hw3) | ((with_reducible refine (HE2.out _).mono ?_); rintro e w3 ⟨rfl, hw3⟩; subst hw3) | ((with_reducible refine HSZ.out.mono ?_); rintro e w4 ⟨rfl, hw4⟩; subst hw4))
                  go_ret
                  exact ⟨by rw [HM.out]; rfl, HMB.out ▸ HB1.out⟩
    · rw [if_neg hv] at hm
      have qv : (v == 2) = false := beq_eq_false_iff_ne.2 hv
      have HBR := Lib.hid (fun W => rbare_any 1 v 0 r ev g q so ns sc ro nr rc W)
      obtain ⟨t8, ht8⟩ : ∃ t, bareB 0 q r ev ns nr = t := ⟨_, rfl⟩
      obtain ⟨t1, ht1⟩ : ∃ t, decide (v = 1) = t := ⟨_, rfl⟩
      obtain ⟨t3, ht3⟩ : ∃ t, decide (0 ≤ mx) = t := ⟨_, rfl⟩
      obtain ⟨t4, ht4⟩ : ∃ t, decide (mx ≤ 65535) = t := ⟨_, rfl⟩
      rw [ht8] at HBR
      rw [ht8, ht1, ht3, ht4] at hm
      have qv1 : (v == 1) = t1 := by rw [← ht1, Bool.eq_iff_iff, beq_iff_eq, decide_eq_true_eq]
      have HM := Lib.hid hm
      clear hm ht8 ht1 hv
      by_cases hg0 : g = []
      · have hgz1 : gz = true := by rw [← HGZ.out]; exact decide_eq_true hg0
        subst hgz1 hg0
        clear hgz hgc
        go_enter Try.func32, Try.ntmps32
        go_upto_region 1 with fail
        rw [HMB.out, HW1.out]
        have X1 := HX1.out
        obtain ⟨x0, xf0⟩ := CBox.at_ X1 0 _ rfl
        obtain ⟨x1, xf1⟩ := CBox.at_ X1 1 _ rfl
        obtain ⟨x2, xf2⟩ := CBox.at_ X1 2 _ rfl
        obtain ⟨x3, xf3⟩ := CBox.at_ X1 3 _ rfl
        obtain ⟨x4, xf4⟩ := CBox.at_ X1 4 _ rfl
        obtain ⟨x5, xf5⟩ := CBox.at_ X1 5 _ rfl
        obtain ⟨x6, xf6⟩ := CBox.at_ X1 6 _ rfl
        obtain ⟨x7, xf7⟩ := CBox.at_ X1 7 _ rfl
        obtain ⟨x8, xf8⟩ := CBox.at_ X1 8 _ rfl
        clear X1
        go_upto_region 13 with fail
        have HXB := Lib.hid (show CBox (W1.setCell ⟨mb, 3, none⟩ (.int .i64 0)) mb 29 (msgCells 1 v [] 0 q r ev so ns sc ro nr rc) from HX1.out.set 3 _)
        have HBW := Lib.hid (show Below mb w (W1.setCell ⟨mb, 3, none⟩ (.int .i64 0)) from HB1.out.setCell (p := ⟨mb, 3, none⟩) (Nat.le_refl _) _)
        obtain ⟨W4, hW4⟩ : ∃ W4, W1.setCell ⟨mb, 3, none⟩ (.int .i64 0) = W4 := ⟨_, rfl⟩
        rw [hW4] at HXB HBW ⊢
        clear hW4 x0 xf0 x1 xf1 x2 xf2 x3 xf3 x4 xf4 x5 xf5 x6 xf6 x7 xf7 x8 xf8
        have XB := HXB.out
        obtain ⟨x0, xf0⟩ := CBox.at_ XB 0 _ rfl
        obtain ⟨x1, xf1⟩ := CBox.at_ XB 1 _ rfl
        obtain ⟨x2, xf2⟩ := CBox.at_ XB 2 _ rfl
        obtain ⟨x3, xf3⟩ := CBox.at_ XB 3 _ rfl
        obtain ⟨x4, xf4⟩ := CBox.at_ XB 4 _ rfl
        obtain ⟨x5, xf5⟩ := CBox.at_ XB 5 _ rfl
        obtain ⟨x6, xf6⟩ := CBox.at_ XB 6 _ rfl
        obtain ⟨x7, xf7⟩ := CBox.at_ XB 7 _ rfl
        obtain ⟨x8, xf8⟩ := CBox.at_ XB 8 _ rfl
        clear XB
        cases t1
        · go_wp2_with fail
          go_ret
          exact ⟨by rw [HM.out]; rfl, HMB.out ▸ HBW.out⟩
        · cases t8
          · go_wp2_with ((with_reducible refine (HBR.out _).mono ?_); rintro e w9 ⟨rfl, hb9⟩; have HB9 := Lib.hid (HBW.out.trans (hb9.mono (Nat.le_of_lt HXB.out.lt))); clear hb9)
            go_ret
            exact ⟨by rw [HM.out]; rfl, HMB.out ▸ HB9.out⟩
          · cases t3
            · go_wp2_with ((with_reducible refine (HBR.out _).mono ?_); rintro e w9 ⟨rfl, hb9⟩; have HB9 := Lib.hid (HBW.out.trans (hb9.mono (Nat.le_of_lt HXB.out.lt))); clear hb9)
              go_ret
              exact ⟨by rw [HM.out]; rfl, HMB.out ▸ HB9.out⟩
            · go_wp2_with ((with_reducible refine (HBR.out _).mono ?_); rintro e w9 ⟨rfl, hb9⟩; have HB9 := Lib.hid (HBW.out.trans (hb9.mono (Nat.le_of_lt HXB.out.lt))); clear hb9)
              go_ret
              exact ⟨by rw [HM.out]; rfl, HMB.out ▸ HB9.out⟩
      · have hgz1 : gz = false := by rw [← HGZ.out]; exact decide_eq_false hg0
        have e2 : (g == []) = false := beq_eq_false_iff_ne.2 hg0
        have e3 : (g != []) = true := bne_iff_ne.2 hg0
        have e4 : g.isEmpty = false := isEmpty_ne hg0
        subst hgz1
        have hc3 : c3 = true := hgc
        subst hc3
        clear hgz hgc hg0
        go_enter Try.func32, Try.ntmps32
        go_upto_region 1 with fail
        rw [HMB.out, HW1.out]
        have X1 := HX1.out
        obtain ⟨x0, xf0⟩ := CBox.at_ X1 0 _ rfl
        obtain ⟨x1, xf1⟩ := CBox.at_ X1 1 _ rfl
        obtain ⟨x2, xf2⟩ := CBox.at_ X1 2 _ rfl
        obtain ⟨x3, xf3⟩ := CBox.at_ X1 3 _ rfl
        obtain ⟨x4, xf4⟩ := CBox.at_ X1 4 _ rfl
        obtain ⟨x5, xf5⟩ := CBox.at_ X1 5 _ rfl
        obtain ⟨x6, xf6⟩ := CBox.at_ X1 6 _ rfl
        obtain ⟨x7, xf7⟩ := CBox.at_ X1 7 _ rfl
        obtain ⟨x8, xf8⟩ := CBox.at_ X1 8 _ rfl
        clear X1
        go_upto_region 13 with ((with_reducible refine (HGR.out _).mono ?_); rintro e w2 ⟨rfl, hw2⟩; subst hw2)
        have HXB := Lib.hid (show CBox (W1.setCell ⟨mb, 3, none⟩ (.int .i64 0)) mb 29 (msgCells 1 v g 0 q r ev so ns sc ro nr rc) from HX1.out.set 3 _)
        have HBW := Lib.hid (show Below mb w (W1.setCell ⟨mb, 3, none⟩ (.int .i64 0)) from HB1.out.setCell (p := ⟨mb, 3, none⟩) (Nat.le_refl _) _)
        obtain ⟨W4, hW4⟩ : ∃ W4, W1.setCell ⟨mb, 3, none⟩ (.int .i64 0) = W4 := ⟨_, rfl⟩
        rw [hW4] at HXB HBW ⊢
        clear hW4 x0 xf0 x1 xf1 x2 xf2 x3 xf3 x4 xf4 x5 xf5 x6 xf6 x7 xf7 x8 xf8
        have XB := HXB.out
        obtain ⟨x0, xf0⟩ := CBox.at_ XB 0 _ rfl
        obtain ⟨x1, xf1⟩ := CBox.at_ XB 1 _ rfl
        obtain ⟨x2, xf2⟩ := CBox.at_ XB 2 _ rfl
        obtain ⟨x3, xf3⟩ := CBox.at_ XB 3 _ rfl
        obtain ⟨x4, xf4⟩ := CBox.at_ XB 4 _ rfl
        obtain ⟨x5, xf5⟩ := CBox.at_ XB 5 _ rfl
        obtain ⟨x6, xf6⟩ := CBox.at_ XB 6 _ rfl
        obtain ⟨x7, xf7⟩ := CBox.at_ XB 7 _ rfl
        obtain ⟨x8, xf8⟩ := CBox.at_ XB 8 _ rfl
        clear XB
        cases t1
        · go_wp2_with fail
          go_ret
          exact ⟨by rw [HM.out]; rfl, HMB.out ▸ HBW.out⟩
        · cases t8
          · go_wp2_with ((with_reducible refine (HBR.out _).mono ?_); rintro e w9 ⟨rfl, hb9⟩; have HB9 := Lib.hid (HBW.out.trans (hb9.mono (Nat.le_of_lt HXB.out.lt))); clear hb9)
            go_ret
            exact ⟨by rw [HM.out]; rfl, HMB.out ▸ HB9.out⟩
          · cases t3
            · go_wp2_with ((with_reducible refine (HBR.out _).mono ?_); rintro e w9 ⟨rfl, hb9⟩; have HB9 := Lib.hid (HBW.out.trans (hb9.mono (Nat.le_of_lt HXB.out.lt))); clear hb9)
              go_ret
              exact ⟨by rw [HM.out]; rfl, HMB.out ▸ HB9.out⟩
            · go_wp2_with ((with_reducible refine (HBR.out _).mono ?_); rintro e w9 ⟨rfl, hb9⟩; have HB9 := Lib.hid (HBW.out.trans (hb9.mono (Nat.le_of_lt HXB.out.lt))); clear hb9)
              go_ret
              exact ⟨by rw [HM.out]; rfl, HMB.out ▸ HB9.out⟩

theorem rmay9_any (k v mx r ev : Int) (g : Str) (q : Bool) (so : Option Addr) (L : List Str) (sc : Nat) (ro : Option Addr) (R : List Rec) (rc : Nat) (w : World)
    (hs : Strs w (.slice so L.length sc) L) (hrs : Recs w (.slice ro R.length rc) R) (hg : g.length ≤ maxLen) :
    Calls Try.prog 32 #[.agg (msgCells k v g mx q r ev so L.length sc ro R.length rc)] w (RetB w (mayM9 ⟨k, v, g, mx, q, r, ev, L, R⟩)) := by
  by_cases h1 : k = 1
  · subst h1; exact rmay_q v mx r ev g q so L sc ro R rc w hs hrs hg
  · by_cases h2 : k = 2
    · by_cases v2 : v = 2
      · subst h2 v2; exact rmay_22 mx r ev g q so L sc ro R rc w hs hrs hg
      · by_cases v1 : v = 1
        · subst h2 v1; exact rmay_21 mx r ev g q so L sc ro R rc w hs hrs hg
        · exact rmay_n1 k v mx r ev g q so L sc ro R rc w hs hrs hg h2 v2 v1
    · by_cases h3 : k = 3
      · by_cases v1 : v = 1
        · subst h3 v1; exact rmay_31 mx r ev g q so L sc ro R rc w hs hrs hg
        · exact rmay_n2 k v mx r ev g q so L sc ro R rc w hs hrs hg h3 v1
      · exact rmay_n3 k v mx r ev g q so L sc ro R rc w hs hrs hg h1 h2 h3
end Go.Proofs.Ythkibgdeibolfaa
