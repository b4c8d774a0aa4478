/- Texts joined into one file: BVl6, BVl7, BFKey, BFd1. -/
import Derived.Test.YthcdppppppgckaaGreatDoorC31
import Derived.Test.YthcdppppppgckaaGreatDoorC06
import Derived.Sort.OwnSortedInts
import Derived.Test.YthcdppppppgckaaGreatDoorC20
import Derived.Test.YthcdppppppgckaaGreatDoorC27
import Derived.DeepKeys4
import Derived.Test.YthcdppppppgckaaGreatDoorC29
import Derived.Test.YthcdppppppgckaaGreatDoorC05
import Derived.Test.YthcdppppppgckaaGreatDoorC04
import Derived.Deep.DeepCutAuto

namespace Go.Proofs.YthcdppppppgckaaGreatDoor
open Go.RowKit Go.Lib Go.Sort
set_option maxRecDepth 20000
set_option maxRecDepth 20000

def vOut1 (p : Pt) (f : Fr) : Fr × Int :=
 if f.vlan = 0 then (frZero, 1)
 else if p.tagged.contains f.vlan = true then (f, 0)
 else if p.member f.vlan = false then (frZero, 6)
 else if fineF ⟨f.dst, f.src, false, 0, 0, f.typ, f.data⟩ = true then (⟨f.dst, f.src, false, 0, 0, f.typ, f.data⟩, 0) else (frZero, 6)
theorem vOut_asked (L : List Pt) (port : Int) (f : Fr) : vOut L port f = if (askedP L port f).2 ≠ 0 then (frZero, (askedP L port f).2) else vOut1 (askedP L port f).1 f := by
 unfold vOut askedP vOut1
 by_cases h1 : vCheck L ≠ 0
 · rw [if_pos h1, if_pos h1, if_pos h1]
 · rw [if_neg h1, if_neg h1]
   by_cases h2 : port < 0 ∨ (L.length : Int) ≤ port ∨ fineF f = false
   · rw [if_pos h2, if_pos h2, if_pos (by decide)]
   · rw [if_neg h2, if_neg h2]
     dsimp only
     rw [if_neg (show ¬ ((0 : Int) ≠ 0) from fun h => h rfl)]

set_option maxHeartbeats 4000000 in
theorem vout_any (R : Nat → Prop) (v : Value) (L : List Pt) (port : Int) (f : Fr) (w : World) (h : Pts R w v L) (hs : frOk f) :
 Calls Tryz.prog 185 #[v, .int .i64 port, encF f] w (RetFr w (vOut L port f)) := by
 rw [vOut_asked]
 obtain ⟨⟨P0, er⟩, hA⟩ : ∃ A, askedP L port f = A := ⟨_, rfl⟩
 have HFO := Lib.hid (show frOk f from hs)
 have HAS := Lib.hid (fun W (hW : Below w.heap.size w W) => asked_any R v L port f w W h hW hs)
 rw [hA] at HAS ⊢
 dsimp only at HAS ⊢
 obtain ⟨dst, src, tg, vl, pr, ty, da⟩ := f
 obtain ⟨W1, hW1⟩ : ∃ W, w.alloc (.cells #[.string (bstr dst), .string (bstr src), .bool tg, .int .i64 vl, .int .i64 pr, .int .i64 ty, .string (bstr da)] 48) = W := ⟨_, rfl⟩
 obtain ⟨q0, hq0⟩ : ∃ q, w.heap.size = q := ⟨_, rfl⟩
 have hb1 : Below w.heap.size w W1 := by rw [← hW1]; exact (Below.refl _ _).alloc (Nat.le_refl _) _
 have hx1 : CBox W1 q0 48 #[.string (bstr dst), .string (bstr src), .bool tg, .int .i64 vl, .int .i64 pr, .int .i64 ty, .string (bstr da)] := by rw [← hW1]; exact CBox.new _ hq0.symm
 obtain ⟨W2, hW2⟩ : ∃ W, W1.alloc (.cells #[.string ⟨#[]⟩, .string ⟨#[]⟩, .bool false, .int .i64 0, .int .i64 0, .int .i64 0, .string ⟨#[]⟩] 48) = W := ⟨_, rfl⟩
 obtain ⟨q1, hq1⟩ : ∃ q, W1.heap.size = q := ⟨_, rfl⟩
 have hb2 : Below W1.heap.size W1 W2 := by rw [← hW2]; exact (Below.refl _ _).alloc (Nat.le_refl _) _
 have HX := Lib.hid (hx1.below hb2 hx1.lt)
 have HZ := Lib.hid (show CBox W2 q1 48 #[.string ⟨#[]⟩, .string ⟨#[]⟩, .bool false, .int .i64 0, .int .i64 0, .int .i64 0, .string ⟨#[]⟩] from by rw [← hW2]; exact CBox.new _ hq1.symm)
 have HB := Lib.hid (hb1.trans (hb2.mono hb1.size))
 have HLE := Lib.hid (show w.heap.size ≤ q1 from by have := hb1.size; omega)
 have HNE := Lib.hid (show q0 ≠ q1 ∧ w.heap.size ≤ q0 from by have := hx1.lt; omega)
 have HW1 := Lib.hid hW1; have HW2 := Lib.hid hW2; have HQ0 := Lib.hid hq0; have HQ1 := Lib.hid (show q0 + 1 = q1 from by rw [← hq1, ← hW1, World.size_alloc, hq0])
 obtain ⟨r, hr⟩ : ∃ r, (if er ≠ 0 then (frZero, er) else vOut1 P0 ⟨dst, src, tg, vl, pr, ty, da⟩) = r := ⟨_, rfl⟩
 have HR := Lib.hid hr
 rw [hr]
 unfold encF fcells at HAS ⊢
 dsimp only at HAS ⊢
 clear hx1 hb1 hb2 hW1 hW2 hq0 hq1 h hs hr hA
 go_enter Tryz.func185, Tryz.ntmps185
 go_upto_region 1 with fail
 rw [HW1.out, HW2.out, HQ0.out, HQ1.out]
 obtain ⟨c0, cf0⟩ := CBox.at_ HX.out 0 _ rfl
 obtain ⟨c1, cf1⟩ := CBox.at_ HX.out 1 _ rfl
 obtain ⟨c2, cf2⟩ := CBox.at_ HX.out 2 _ rfl
 obtain ⟨c3, cf3⟩ := CBox.at_ HX.out 3 _ rfl
 obtain ⟨c4, cf4⟩ := CBox.at_ HX.out 4 _ rfl
 obtain ⟨c5, cf5⟩ := CBox.at_ HX.out 5 _ rfl
 obtain ⟨c6, cf6⟩ := CBox.at_ HX.out 6 _ rfl
 go_upto_region 2 with ((with_reducible refine (HAS.out _ HB.out).mono ?_); rintro e w3 ⟨vt, vp, rfl, hi1, hi2, hb3⟩; obtain ⟨ao, an, ac, rfl⟩ := hi1.shape; obtain ⟨bo, bn, bc, rfl⟩ := hi2.shape; have B3 := Lib.hid (HB.out.trans (hb3.mono HB.out.size)); have X3 := Lib.hid (HX.out.below hb3 HX.out.lt); have Z3 := Lib.hid (HZ.out.below hb3 HZ.out.lt); have I3 := Lib.hid (And.intro hi1 hi2); have HS3 := Lib.hid hb3.size; clear hb3 hi1 hi2)
 clear c0 cf0 c1 cf1 c2 cf2 c3 cf3 c4 cf4 c5 cf5 c6 cf6
 obtain ⟨d, hd⟩ : ∃ d, P0.default_ = d := ⟨_, rfl⟩
 have HD := Lib.hid hd
 rw [hd]
 obtain ⟨W4, hW4⟩ : ∃ W, w3.alloc (.cells #[.int .i64 d, .slice ao an ac, .slice bo bn bc] 56) = W := ⟨_, rfl⟩
 obtain ⟨q2, hq2⟩ : ∃ q, w3.heap.size = q := ⟨_, rfl⟩
 have hb4 : Below w3.heap.size w3 W4 := by rw [← hW4]; exact (Below.refl _ _).alloc (Nat.le_refl _) _
 have P4 := Lib.hid (show CBox W4 q2 56 #[.int .i64 d, .slice ao an ac, .slice bo bn bc] from by rw [← hW4]; exact CBox.new _ hq2.symm)
 have B4 := Lib.hid (B3.out.trans (hb4.mono B3.out.size)); have X4 := Lib.hid (X3.out.below hb4 X3.out.lt); have Z4 := Lib.hid (Z3.out.below hb4 Z3.out.lt); have I4 := Lib.hid (And.intro (I3.out.1.mono B4.out) (I3.out.2.mono B4.out)); have I0 := I3
 have HN2 := Lib.hid (show q2 ≠ q0 ∧ q2 ≠ q1 from by have := X3.out.lt; have := Z3.out.lt; omega)
 rw [hW4, hq2]
 clear hW4 hq2 hb4 hd X3 Z3 B3 I3 HX HZ HB HAS HW1 HW2
 obtain ⟨c0, cf0⟩ := CBox.at_ X4.out 0 _ rfl
 obtain ⟨c1, cf1⟩ := CBox.at_ X4.out 1 _ rfl
 obtain ⟨c2, cf2⟩ := CBox.at_ X4.out 2 _ rfl
 obtain ⟨c3, cf3⟩ := CBox.at_ X4.out 3 _ rfl
 obtain ⟨c4, cf4⟩ := CBox.at_ X4.out 4 _ rfl
 obtain ⟨c5, cf5⟩ := CBox.at_ X4.out 5 _ rfl
 obtain ⟨c6, cf6⟩ := CBox.at_ X4.out 6 _ rfl
 obtain ⟨z0, zf0⟩ := CBox.at_ Z4.out 0 _ rfl
 obtain ⟨z1, zf1⟩ := CBox.at_ Z4.out 1 _ rfl
 obtain ⟨z2, zf2⟩ := CBox.at_ Z4.out 2 _ rfl
 obtain ⟨z3, zf3⟩ := CBox.at_ Z4.out 3 _ rfl
 obtain ⟨z4, zf4⟩ := CBox.at_ Z4.out 4 _ rfl
 obtain ⟨z5, zf5⟩ := CBox.at_ Z4.out 5 _ rfl
 obtain ⟨z6, zf6⟩ := CBox.at_ Z4.out 6 _ rfl
 obtain ⟨p0, pf0⟩ := CBox.at_ P4.out 0 _ rfl
 obtain ⟨p1, pf1⟩ := CBox.at_ P4.out 1 _ rfl
 obtain ⟨p2, pf2⟩ := CBox.at_ P4.out 2 _ rfl
 cases q1' : (er != 0)
 · have he : er = 0 := by simpa [bne] using q1'
   subst he
   clear q1'
   cases qv : (vl == 0)
   · have hv0 : vl ≠ 0 := by simpa using qv
     have HNZ := Lib.hid hv0
     clear hv0
     have HCT := Lib.hid (contains_any (.slice ao an ac) P0.tagged vl W4 I4.out.1)
     have HMB := Lib.hid (member_any P0 (.slice ao an ac) (.slice bo bn bc) vl W4 I4.out.1 I4.out.2)
     have HEC := Lib.hid (fun W => encodes_any ⟨dst, src, false, 0, 0, ty, da⟩ W ⟨HFO.out.1, HFO.out.2.1, HFO.out.2.2⟩)
     obtain ⟨t, ht⟩ : ∃ t, P0.tagged.contains vl = t := ⟨_, rfl⟩
     obtain ⟨m, hm⟩ : ∃ m, P0.member vl = m := ⟨_, rfl⟩
     obtain ⟨g, hg⟩ : ∃ g, fineF ⟨dst, src, false, 0, 0, ty, da⟩ = g := ⟨_, rfl⟩
     have HRR := Lib.hid (show r = if t = true then (⟨dst, src, tg, vl, pr, ty, da⟩, 0) else if m = false then (frZero, 6) else if g = true then (⟨dst, src, false, 0, 0, ty, da⟩, 0) else (frZero, 6) from by
      rw [← HR.out, if_neg (fun h => h rfl), ← ht, ← hm, ← hg]
      unfold vOut1
      dsimp only
      rw [if_neg HNZ.out])
     rw [ht] at HCT
     rw [hm, HD.out] at HMB
     rw [hg] at HEC
     unfold encF fcells at HEC
     dsimp only at HEC
     clear ht hm hg
     cases t
     · cases m
       · have HR0 := Lib.hid (show r = (frZero, 6) from by rw [HRR.out, if_neg (by decide), if_pos rfl])
         clear HEC
         go_wp2_with (first | ((with_reducible refine HCT.out.mono ?_); rintro e w5 ⟨rfl, hw5⟩; subst w5) | ((with_reducible refine HMB.out.mono ?_); rintro e w6 ⟨rfl, hb6⟩; have B6 := Lib.hid (B4.out.trans (hb6.mono B4.out.size)); have X6 := Lib.hid (X4.out.below hb6 X4.out.lt); have Z6 := Lib.hid (Z4.out.below hb6 Z4.out.lt); clear hb6 c0 cf0 c1 cf1 c2 cf2 c3 cf3 c4 cf4 c5 cf5 c6 cf6 z0 zf0 z1 zf1 z2 zf2 z3 zf3 z4 zf4 z5 zf5 z6 zf6 p0 pf0 p1 pf1 p2 pf2; obtain ⟨c0, cf0⟩ := CBox.at_ X6.out 0 _ rfl; obtain ⟨c1, cf1⟩ := CBox.at_ X6.out 1 _ rfl; obtain ⟨c2, cf2⟩ := CBox.at_ X6.out 2 _ rfl; obtain ⟨c3, cf3⟩ := CBox.at_ X6.out 3 _ rfl; obtain ⟨c4, cf4⟩ := CBox.at_ X6.out 4 _ rfl; obtain ⟨c5, cf5⟩ := CBox.at_ X6.out 5 _ rfl; obtain ⟨c6, cf6⟩ := CBox.at_ X6.out 6 _ rfl; obtain ⟨z0, zf0⟩ := CBox.at_ Z6.out 0 _ rfl; obtain ⟨z1, zf1⟩ := CBox.at_ Z6.out 1 _ rfl; obtain ⟨z2, zf2⟩ := CBox.at_ Z6.out 2 _ rfl; obtain ⟨z3, zf3⟩ := CBox.at_ Z6.out 3 _ rfl; obtain ⟨z4, zf4⟩ := CBox.at_ Z6.out 4 _ rfl; obtain ⟨z5, zf5⟩ := CBox.at_ Z6.out 5 _ rfl; obtain ⟨z6, zf6⟩ := CBox.at_ Z6.out 6 _ rfl))
         have hz := box7 (cells7s Z6.out (.string ⟨#[]⟩) (.string ⟨#[]⟩) (.bool false) (.int .i64 0) (.int .i64 0) (.int .i64 0) (.string ⟨#[]⟩))
         dsimp only [setsL] at hz
         obtain ⟨r0, r1, r2, r3, r4, r5, r6⟩ := hz
         refine bodyPost_ret (v := .tuple #[.agg #[.string ⟨#[]⟩, .string ⟨#[]⟩, .bool false, .int .i64 0, .int .i64 0, .int .i64 0, .string ⟨#[]⟩], .int .i64 6]) (by simp [results, Tryz.results185, go_sem, r0, r1, r2, r3, r4, r5, r6]) rfl ?_
         rw [HR0.out]
         exact ⟨by rw [enc_zero], setsL_below HLE.out [.string ⟨#[]⟩, .string ⟨#[]⟩, .bool false, .int .i64 0, .int .i64 0, .int .i64 0, .string ⟨#[]⟩] 0 B6.out⟩
       · go_upto_region 10 with (first | ((with_reducible refine HCT.out.mono ?_); rintro e w5 ⟨rfl, hw5⟩; subst w5) | ((with_reducible refine HMB.out.mono ?_); rintro e w6 ⟨rfl, hb6⟩; have B6 := Lib.hid (B4.out.trans (hb6.mono B4.out.size)); have X6 := Lib.hid (X4.out.below hb6 X4.out.lt); have Z6 := Lib.hid (Z4.out.below hb6 Z4.out.lt); clear hb6 c0 cf0 c1 cf1 c2 cf2 c3 cf3 c4 cf4 c5 cf5 c6 cf6 z0 zf0 z1 zf1 z2 zf2 z3 zf3 z4 zf4 z5 zf5 z6 zf6 p0 pf0 p1 pf1 p2 pf2; obtain ⟨c0, cf0⟩ := CBox.at_ X6.out 0 _ rfl; obtain ⟨c1, cf1⟩ := CBox.at_ X6.out 1 _ rfl; obtain ⟨c2, cf2⟩ := CBox.at_ X6.out 2 _ rfl; obtain ⟨c3, cf3⟩ := CBox.at_ X6.out 3 _ rfl; obtain ⟨c4, cf4⟩ := CBox.at_ X6.out 4 _ rfl; obtain ⟨c5, cf5⟩ := CBox.at_ X6.out 5 _ rfl; obtain ⟨c6, cf6⟩ := CBox.at_ X6.out 6 _ rfl; obtain ⟨z0, zf0⟩ := CBox.at_ Z6.out 0 _ rfl; obtain ⟨z1, zf1⟩ := CBox.at_ Z6.out 1 _ rfl; obtain ⟨z2, zf2⟩ := CBox.at_ Z6.out 2 _ rfl; obtain ⟨z3, zf3⟩ := CBox.at_ Z6.out 3 _ rfl; obtain ⟨z4, zf4⟩ := CBox.at_ Z6.out 4 _ rfl; obtain ⟨z5, zf5⟩ := CBox.at_ Z6.out 5 _ rfl; obtain ⟨z6, zf6⟩ := CBox.at_ Z6.out 6 _ rfl))
         go_upto_region 11 with fail
         obtain ⟨W7, hW7⟩ : ∃ W, ((w6.setCell ⟨q0, 2, none⟩ (.bool false)).setCell ⟨q0, 3, none⟩ (.int .i64 0)).setCell ⟨q0, 4, none⟩ (.int .i64 0) = W := ⟨_, rfl⟩
         have X7 := Lib.hid (show CBox W7 q0 48 #[.string (bstr dst), .string (bstr src), .bool false, .int .i64 0, .int .i64 0, .int .i64 ty, .string (bstr da)] from by
          rw [← hW7]
          have h1 : CBox _ q0 48 #[.string (bstr dst), .string (bstr src), .bool false, .int .i64 vl, .int .i64 pr, .int .i64 ty, .string (bstr da)] := X6.out.set 2 (.bool false)
          have h2 : CBox _ q0 48 #[.string (bstr dst), .string (bstr src), .bool false, .int .i64 0, .int .i64 pr, .int .i64 ty, .string (bstr da)] := h1.set 3 (.int .i64 0)
          exact h2.set 4 (.int .i64 0))
         have Z7 := Lib.hid (show CBox W7 q1 48 #[.string ⟨#[]⟩, .string ⟨#[]⟩, .bool false, .int .i64 0, .int .i64 0, .int .i64 0, .string ⟨#[]⟩] from by rw [← hW7]; exact ((Z6.out.far (p := ⟨q0, 2, none⟩) (Ne.symm HNE.out.1) _).far (p := ⟨q0, 3, none⟩) (Ne.symm HNE.out.1) _).far (p := ⟨q0, 4, none⟩) (Ne.symm HNE.out.1) _)
         have B7 := Lib.hid (show Below w.heap.size w W7 from by rw [← hW7]; exact ((B6.out.setCell (p := ⟨q0, 2, none⟩) HNE.out.2 _).setCell (p := ⟨q0, 3, none⟩) HNE.out.2 _).setCell (p := ⟨q0, 4, none⟩) HNE.out.2 _)
         rw [hW7]
         clear hW7 c0 cf0 c1 cf1 c2 cf2 c3 cf3 c4 cf4 c5 cf5 c6 cf6 z0 zf0 z1 zf1 z2 zf2 z3 zf3 z4 zf4 z5 zf5 z6 zf6
         obtain ⟨c0, cf0⟩ := CBox.at_ X7.out 0 _ rfl
         obtain ⟨c1, cf1⟩ := CBox.at_ X7.out 1 _ rfl
         obtain ⟨c2, cf2⟩ := CBox.at_ X7.out 2 _ rfl
         obtain ⟨c3, cf3⟩ := CBox.at_ X7.out 3 _ rfl
         obtain ⟨c4, cf4⟩ := CBox.at_ X7.out 4 _ rfl
         obtain ⟨c5, cf5⟩ := CBox.at_ X7.out 5 _ rfl
         obtain ⟨c6, cf6⟩ := CBox.at_ X7.out 6 _ rfl
         obtain ⟨z0, zf0⟩ := CBox.at_ Z7.out 0 _ rfl
         obtain ⟨z1, zf1⟩ := CBox.at_ Z7.out 1 _ rfl
         obtain ⟨z2, zf2⟩ := CBox.at_ Z7.out 2 _ rfl
         obtain ⟨z3, zf3⟩ := CBox.at_ Z7.out 3 _ rfl
         obtain ⟨z4, zf4⟩ := CBox.at_ Z7.out 4 _ rfl
         obtain ⟨z5, zf5⟩ := CBox.at_ Z7.out 5 _ rfl
         obtain ⟨z6, zf6⟩ := CBox.at_ Z7.out 6 _ rfl
         cases g
         · have HR0 := Lib.hid (show r = (frZero, 6) from by rw [HRR.out, if_neg (by decide), if_neg (by decide), if_neg (by decide)])
           go_wp2_with ((with_reducible refine (HEC.out _).mono ?_); rintro e w8 ⟨rfl, hb8⟩; have B8 := Lib.hid (B7.out.trans (hb8.mono B7.out.size)); have X8 := Lib.hid (X7.out.below hb8 X7.out.lt); have Z8 := Lib.hid (Z7.out.below hb8 Z7.out.lt); clear hb8 c0 cf0 c1 cf1 c2 cf2 c3 cf3 c4 cf4 c5 cf5 c6 cf6 z0 zf0 z1 zf1 z2 zf2 z3 zf3 z4 zf4 z5 zf5 z6 zf6; obtain ⟨c0, cf0⟩ := CBox.at_ X8.out 0 _ rfl; obtain ⟨c1, cf1⟩ := CBox.at_ X8.out 1 _ rfl; obtain ⟨c2, cf2⟩ := CBox.at_ X8.out 2 _ rfl; obtain ⟨c3, cf3⟩ := CBox.at_ X8.out 3 _ rfl; obtain ⟨c4, cf4⟩ := CBox.at_ X8.out 4 _ rfl; obtain ⟨c5, cf5⟩ := CBox.at_ X8.out 5 _ rfl; obtain ⟨c6, cf6⟩ := CBox.at_ X8.out 6 _ rfl; obtain ⟨z0, zf0⟩ := CBox.at_ Z8.out 0 _ rfl; obtain ⟨z1, zf1⟩ := CBox.at_ Z8.out 1 _ rfl; obtain ⟨z2, zf2⟩ := CBox.at_ Z8.out 2 _ rfl; obtain ⟨z3, zf3⟩ := CBox.at_ Z8.out 3 _ rfl; obtain ⟨z4, zf4⟩ := CBox.at_ Z8.out 4 _ rfl; obtain ⟨z5, zf5⟩ := CBox.at_ Z8.out 5 _ rfl; obtain ⟨z6, zf6⟩ := CBox.at_ Z8.out 6 _ rfl)
           have hz := box7 (cells7s Z8.out (.string ⟨#[]⟩) (.string ⟨#[]⟩) (.bool false) (.int .i64 0) (.int .i64 0) (.int .i64 0) (.string ⟨#[]⟩))
           dsimp only [setsL] at hz
           obtain ⟨r0, r1, r2, r3, r4, r5, r6⟩ := hz
           refine bodyPost_ret (v := .tuple #[.agg #[.string ⟨#[]⟩, .string ⟨#[]⟩, .bool false, .int .i64 0, .int .i64 0, .int .i64 0, .string ⟨#[]⟩], .int .i64 6]) (by simp [results, Tryz.results185, go_sem, r0, r1, r2, r3, r4, r5, r6]) rfl ?_
           rw [HR0.out]
           exact ⟨by rw [enc_zero], setsL_below HLE.out [.string ⟨#[]⟩, .string ⟨#[]⟩, .bool false, .int .i64 0, .int .i64 0, .int .i64 0, .string ⟨#[]⟩] 0 B8.out⟩
         · have HR0 := Lib.hid (show r = (⟨dst, src, false, 0, 0, ty, da⟩, 0) from by rw [HRR.out, if_neg (by decide), if_neg (by decide), if_pos rfl])
           go_wp2_with ((with_reducible refine (HEC.out _).mono ?_); rintro e w8 ⟨rfl, hb8⟩; have B8 := Lib.hid (B7.out.trans (hb8.mono B7.out.size)); have X8 := Lib.hid (X7.out.below hb8 X7.out.lt); have Z8 := Lib.hid (Z7.out.below hb8 Z7.out.lt); clear hb8 c0 cf0 c1 cf1 c2 cf2 c3 cf3 c4 cf4 c5 cf5 c6 cf6 z0 zf0 z1 zf1 z2 zf2 z3 zf3 z4 zf4 z5 zf5 z6 zf6; obtain ⟨c0, cf0⟩ := CBox.at_ X8.out 0 _ rfl; obtain ⟨c1, cf1⟩ := CBox.at_ X8.out 1 _ rfl; obtain ⟨c2, cf2⟩ := CBox.at_ X8.out 2 _ rfl; obtain ⟨c3, cf3⟩ := CBox.at_ X8.out 3 _ rfl; obtain ⟨c4, cf4⟩ := CBox.at_ X8.out 4 _ rfl; obtain ⟨c5, cf5⟩ := CBox.at_ X8.out 5 _ rfl; obtain ⟨c6, cf6⟩ := CBox.at_ X8.out 6 _ rfl; obtain ⟨z0, zf0⟩ := CBox.at_ Z8.out 0 _ rfl; obtain ⟨z1, zf1⟩ := CBox.at_ Z8.out 1 _ rfl; obtain ⟨z2, zf2⟩ := CBox.at_ Z8.out 2 _ rfl; obtain ⟨z3, zf3⟩ := CBox.at_ Z8.out 3 _ rfl; obtain ⟨z4, zf4⟩ := CBox.at_ Z8.out 4 _ rfl; obtain ⟨z5, zf5⟩ := CBox.at_ Z8.out 5 _ rfl; obtain ⟨z6, zf6⟩ := CBox.at_ Z8.out 6 _ rfl)
           have hz := box7 (cells7s Z8.out (.string (bstr dst)) (.string (bstr src)) (.bool false) (.int .i64 0) (.int .i64 0) (.int .i64 ty) (.string (bstr da)))
           dsimp only [setsL] at hz
           obtain ⟨r0, r1, r2, r3, r4, r5, r6⟩ := hz
           refine bodyPost_ret (v := .tuple #[.agg #[.string (bstr dst), .string (bstr src), .bool false, .int .i64 0, .int .i64 0, .int .i64 ty, .string (bstr da)], .int .i64 0]) (by simp [results, Tryz.results185, go_sem, r0, r1, r2, r3, r4, r5, r6]) rfl ?_
           rw [HR0.out]
           exact ⟨rfl, setsL_below HLE.out [.string (bstr dst), .string (bstr src), .bool false, .int .i64 0, .int .i64 0, .int .i64 ty, .string (bstr da)] 0 B8.out⟩
     · have HR0 := Lib.hid (show r = (⟨dst, src, tg, vl, pr, ty, da⟩, 0) from by rw [HRR.out, if_pos rfl])
       clear HEC HMB
       go_wp2_with ((with_reducible refine HCT.out.mono ?_); rintro e w5 ⟨rfl, hw5⟩; subst w5)
       have hz := box7 (cells7s Z4.out (.string (bstr dst)) (.string (bstr src)) (.bool tg) (.int .i64 vl) (.int .i64 pr) (.int .i64 ty) (.string (bstr da)))
       dsimp only [setsL] at hz
       obtain ⟨r0, r1, r2, r3, r4, r5, r6⟩ := hz
       refine bodyPost_ret (v := .tuple #[.agg #[.string (bstr dst), .string (bstr src), .bool tg, .int .i64 vl, .int .i64 pr, .int .i64 ty, .string (bstr da)], .int .i64 0]) (by simp [results, Tryz.results185, go_sem, r0, r1, r2, r3, r4, r5, r6]) rfl ?_
       rw [HR0.out]
       exact ⟨rfl, setsL_below HLE.out [.string (bstr dst), .string (bstr src), .bool tg, .int .i64 vl, .int .i64 pr, .int .i64 ty, .string (bstr da)] 0 B4.out⟩
   · have hv0 : vl = 0 := by simpa using qv
     have HR0 := Lib.hid (show r = (frZero, 1) from by rw [← HR.out, if_neg (fun h => h rfl)]; unfold vOut1; dsimp only; rw [if_pos hv0])
     clear hv0
     go_wp2_with fail
     have hz := box7 (cells7s Z4.out (.string ⟨#[]⟩) (.string ⟨#[]⟩) (.bool false) (.int .i64 0) (.int .i64 0) (.int .i64 0) (.string ⟨#[]⟩))
     dsimp only [setsL] at hz
     obtain ⟨r0, r1, r2, r3, r4, r5, r6⟩ := hz
     refine bodyPost_ret (v := .tuple #[.agg #[.string ⟨#[]⟩, .string ⟨#[]⟩, .bool false, .int .i64 0, .int .i64 0, .int .i64 0, .string ⟨#[]⟩], .int .i64 1]) (by simp [results, Tryz.results185, go_sem, r0, r1, r2, r3, r4, r5, r6]) rfl ?_
     rw [HR0.out]
     exact ⟨by rw [enc_zero], setsL_below HLE.out [.string ⟨#[]⟩, .string ⟨#[]⟩, .bool false, .int .i64 0, .int .i64 0, .int .i64 0, .string ⟨#[]⟩] 0 B4.out⟩
 · have HR0 := Lib.hid (show r = (frZero, er) from by rw [← HR.out, if_pos (by intro h; rw [h] at q1'; cases q1')])
   go_wp2_with fail
   have hz := box7 (cells7s Z4.out (.string ⟨#[]⟩) (.string ⟨#[]⟩) (.bool false) (.int .i64 0) (.int .i64 0) (.int .i64 0) (.string ⟨#[]⟩))
   dsimp only [setsL] at hz
   obtain ⟨r0, r1, r2, r3, r4, r5, r6⟩ := hz
   refine bodyPost_ret (v := .tuple #[.agg #[.string ⟨#[]⟩, .string ⟨#[]⟩, .bool false, .int .i64 0, .int .i64 0, .int .i64 0, .string ⟨#[]⟩], .int .i64 er]) (by simp [results, Tryz.results185, go_sem, r0, r1, r2, r3, r4, r5, r6]) rfl ?_
   rw [HR0.out]
   exact ⟨by rw [enc_zero], setsL_below HLE.out [.string ⟨#[]⟩, .string ⟨#[]⟩, .bool false, .int .i64 0, .int .i64 0, .int .i64 0, .string ⟨#[]⟩] 0 B4.out⟩

theorem infoIntV : (Tryz.prog.info? 3).map (fun i => (i.zero, i.size, i.bytes)) = some (some (.int .i64 0), 1, 8) := by kernel_rfl
def memTo (l : List Pt) (v : Int) (k : Nat) : List Int := ((List.range k).filter fun i => (l.getD i default).member v).map Int.ofNat
theorem memTo_succ {l : List Pt} {v : Int} {k : Nat} (h : k < l.length) : memTo l v (k + 1) = memTo l v k ++ (if l[k].member v then [(k : Int)] else []) := by
 unfold memTo
 have e : l.getD k default = l[k] := by simp [List.getD_eq_getElem?_getD, h]
 rw [List.range_succ, List.filter_append, List.map_append, List.filter_cons, e]
 cases l[k].member v <;> rfl
theorem memTo_len (l : List Pt) (v : Int) (k : Nat) : (memTo l v k).length ≤ k := by
 unfold memTo
 rw [List.length_map]
 exact Nat.le_trans (List.length_filter_le _ _) (by simp)
theorem memTo_wf (l : List Pt) (v : Int) (k : Nat) (hk : k ≤ 1000000) : ∀ x ∈ memTo l v k, (Lit.int .i64 x).wf = true := fun x hx => by
 unfold memTo at hx
 obtain ⟨i, hi, rfl⟩ := List.mem_map.1 hx
 have := List.mem_range.1 (List.mem_filter.1 hi).1
 exact WalkArith.wf_i64 (n := (i : Int)) (by omega)
def RetIs (w : World) (L : List Int) (e : Ending) (w' : World) : Prop := ∃ v, e = .returned v ∧ Ints w' v L ∧ (∀ j, v.ownBlock = some j → w.heap.size ≤ j) ∧ Below w.heap.size w w'

set_option maxHeartbeats 2000000 in
theorem members_any (R : Nat → Prop) (v : Value) (L : List Pt) (x : Int) (w : World) (h : Pts R w v L) :
 Calls Tryz.prog 188 #[v, .int .i64 x] w (RetIs w (vMembers L x)) := by
 obtain ⟨i0, hi, hz0, hz1, hz2⟩ := info_parts infoIntV
 obtain ⟨b, off, hm, hlen, hidx, hc⟩ := h.facts
 have HM := Lib.hid hm
 clear h
 go_enter Tryz.func188, Tryz.ntmps188
 go_wp2_with fail
 go_loopw [5, 6, 7, 10] (fun r _ _ i wr => ∃ k : Nat, k ≤ L.length ∧ i = .int .i64 (k : Nat) ∧ wr.ownsRow w.heap.size 3 1 r (memTo L x k).length ((memTo L x k).map (Value.int .i64)) ∧ Below w.heap.size w wr) (fun _ _ _ i _ => L.length - (intOf i).toNat)
 case atStart => exact ⟨0, Nat.zero_le _, rfl, World.ownsRow_nil _ _ _ _, Below.refl _ _⟩
 case round =>
  obtain ⟨k, hk, rfl, hrow, hb⟩ := hrel
  by_cases hlt : k < L.length
  · have HS := Lib.hid (memTo_succ (v := x) hlt)
    have HL := Lib.hid (memTo_len L x k)
    obtain ⟨hl, vt, vp, c0, c1, c2, i1, i2⟩ := hc k hlt
    have s0 := (hb.cell (p := ⟨b, off + k * 3, none⟩) hl).trans c0
    have s1 := (hb.cell (p := ⟨b, off + k * 3 + 1, none⟩) hl).trans c1
    have s2 := (hb.cell (p := ⟨b, off + k * 3 + 2, none⟩) hl).trans c2
    have hp := hidx k hlt
    obtain ⟨P0, hP0⟩ : ∃ P0, L[k] = P0 := ⟨_, rfl⟩
    rw [hP0] at HS s0 i1 i2
    have hb1 : Below wr.heap.size wr (wr.alloc (.cells #[.int .i64 P0.default_, vt, vp] 56)) := (Below.refl _ _).alloc (Nat.le_refl _) _
    have HC := Lib.hid (member_any P0 vt vp x (wr.alloc (.cells #[.int .i64 P0.default_, vt, vp] 56)) ((i1.mono hb).mono hb1) ((i2.mono hb).mono hb1))
    have HB := Lib.hid (hb.trans (hb1.mono hb.size))
    have HRW := Lib.hid (gown_bel hrow hb1)
    obtain ⟨ao, an, ac, rfl⟩ := i1.shape
    obtain ⟨bo, bn, bc, rfl⟩ := i2.shape
    obtain ⟨d, hd⟩ : ∃ d, P0.default_ = d := ⟨_, rfl⟩
    obtain ⟨f, hf⟩ : ∃ f, P0.member x = f := ⟨_, rfl⟩
    rw [hd] at s0 HC HB HRW
    rw [hf] at HC HS
    clear hidx hc hrow hb hb1 c0 c1 c2 i1 i2 hl hd hf hlen hP0
    cases f
    · have HE := Lib.hid (show memTo L x (k + 1) = memTo L x k from by rw [HS.out]; simp)
      go_wp2_with ((with_reducible refine HC.out.mono ?_); rintro e w2 ⟨rfl, hb2⟩; have HB2 := Lib.hid (HB.out.trans (hb2.mono HB.out.size)); have HR2 := Lib.hid (gown_bel HRW.out hb2); clear hb2)
      go_roundw
      case rel => exact ⟨k + 1, by omega, by go_num, by rw [HE.out]; exact HR2.out, HB2.out⟩
      case measure => simp [intOf]; omega
    · have HE := Lib.hid (show memTo L x (k + 1) = memTo L x k ++ [(k : Int)] from by rw [HS.out]; simp)
      obtain ⟨M, hM⟩ : ∃ M, memTo L x k = M := ⟨_, rfl⟩
      rw [hM] at HE HL HRW
      have HM2 := Lib.hid hM
      clear hM
      have hc3 : M.length + 1 ≤ maxLen := by have := HL.out; have := HM.out; unfold maxLen; omega
      have hc4 : (M.length + 1) * 8 ≤ 140737488355328 := by have := HL.out; have := HM.out; omega
      have HC3 := Lib.hid hc3; have HC4 := Lib.hid hc4
      clear hc3 hc4
      go_wp2_with (first | ((with_reducible refine HC.out.mono ?_); rintro e w2 ⟨rfl, hb2⟩; have HB2 := Lib.hid (HB.out.trans (hb2.mono HB.out.size)); have HR2 := Lib.hid (gown_bel HRW.out hb2); have HSZ := Lib.hid HB2.out.size; clear hb2) | (at_builtin; refine wpList_append_own _ rfl _ _ 23 rfl w.heap.size 3 i0 (.int .i64 0) 1 8 Tryz.underlying23 hi hz0 hz1 hz2 rfl (by decide) _ _ _ rfl (HR2.out.alloc _) ⟨w2.heap.size, 0, none⟩ 1 1 [.int .i64 (k : Nat)] rfl rfl (cell_one_new _ _ _) (ints_oneCell .i64 [(k : Int)]) HC3.out HC4.out (by have := HSZ.out; simp; omega) ?_; intro v' w3 hown3 hg3 _; have HO3 := Lib.hid hown3; have HB3 := Lib.hid (below_own (HB2.out.alloc HSZ.out (.cells #[.int .i64 (k : Nat)] 3)) (HR2.out.alloc _) (Nat.le_refl _) (by have := HSZ.out; simp; omega) hg3); clear hown3 hg3))
      go_roundw
      case rel => exact ⟨k + 1, by omega, by go_num, by rw [HE.out, List.length_append, List.map_append]; exact HO3.out, HB3.out⟩
      case measure => simp [intOf]; omega
  · obtain rfl : k = L.length := by omega
    have HE := Lib.hid (show memTo L x L.length = vMembers L x from rfl)
    have HB := Lib.hid hb
    rw [HE.out] at hrow
    have HV := Lib.hid (show (vMembers L x).length ≤ 17592186044416 ∧ ∀ y ∈ vMembers L x, (Lit.int .i64 y).wf = true from by
     rw [← HE.out]
     exact ⟨by have := memTo_len L x L.length; have := HM.out; omega, memTo_wf L x L.length HM.out⟩)
    have HRW := Lib.hid hrow
    clear hidx hc hrow hb hlen
    go_wp2_with fail
    go_ret
    exact ⟨_, rfl, Ints.own HRW.out HV.out.1 HV.out.2, fun j hj => (HRW.out.lt j hj).1, HB.out⟩
end Go.Proofs.YthcdppppppgckaaGreatDoor

namespace Go.Proofs.YthcdppppppgckaaGreatDoor
open Go.RowKit Go.Lib Go.Maps
set_option maxRecDepth 20000

theorem fk_wide : (match Tryz.prog.underlying 202 with | some (.array _ _) | some (.struct _) => true | _ => false) = true := by kernel_rfl
theorem fk_laid : laidOutB Tryz.prog = true := by kernel_rfl
theorem fk_row : 202 < Tryz.prog.types.size := of_decide_eq_true (by kernel_rfl)
set_option maxRecDepth 100000 in
theorem fk_law : Keyed Tryz.prog 202 := Keyed.of_law (deep_law_laid fk_laid (m := 9) (by decide) fk_row (by kernel_rfl) fk_wide)
theorem fk_is : Tryz.prog.keyType 202 = true := by kernel_rfl
theorem fk_cells : Tryz.prog.cellsOf 202 = 2 := by kernel_rfl
theorem fk_ci : Tryz.prog.cellsOf 3 = 1 := by kernel_rfl
theorem fk_ca : Tryz.prog.cellsOf 46 = 1 := by kernel_rfl
theorem fk_size : ∃ n, Tryz.prog.types.size = n + 1 := ⟨Tryz.prog.types.size - 1, by kernel_rfl⟩

def encFK (x : Int × Str) : Value := .agg #[.int .i64 x.1, .string (bstr x.2)]
def okFK (x : Int × Str) : Prop := (Lit.int .i64 x.1).wf = true ∧ x.2.length ≤ maxLen
def litFK (x : Int × Str) : Lit := .string (keyBytes [.int .i64 x.1, .string x.2])

set_option maxRecDepth 100000 in
theorem fk_reads (x : Int × Str) (h : okFK x) : keyOf Tryz.prog 202 (encFK x) = some (litFK x) := by
 obtain ⟨n, hn⟩ := fk_size
 have hs : (bstr x.2).size ≤ maxLen := by rw [bstr_size]; exact h.2
 have hd : (bstr x.2).data.toList = x.2 := bstr_data x.2
 unfold keyOf encFK litFK
 rw [Tryz.underlying202]
 simp only [fk_is, Bool.true_and]
 have hf : Value.formed Tryz.prog 202 (.agg #[.int .i64 x.1, .string (bstr x.2)]) = true := by
  simp [Value.formed, Tryz.underlying202, fk_cells]
 rw [if_pos hf, hn]
 simp [Program.keyLits, Value.cells, Tryz.underlying202, fk_cells, fk_ci, fk_ca, Tryz.underlying3, Tryz.underlying46, h.1, hs, hd]

set_option maxRecDepth 100000 in
theorem fk_all (v : Value) (l : Lit) (h : keyOf Tryz.prog 202 v = some l) : ∃ x, okFK x ∧ v = encFK x := by
 obtain ⟨n, hn⟩ := fk_size
 unfold keyOf at h
 rw [Tryz.underlying202] at h
 simp only [fk_is, Bool.true_and] at h
 split at h
 · rename_i hf
   cases v <;> simp [Value.formed, Tryz.underlying202, fk_cells] at hf
   rename_i cs
   obtain ⟨a, b, rfl⟩ : ∃ a b, cs = #[a, b] := by
    obtain ⟨l⟩ := cs
    match l, hf with
    | [a, b], _ => exact ⟨a, b, rfl⟩
   rw [hn] at h
   simp [Program.keyLits, Value.cells, Tryz.underlying202, fk_cells, fk_ci, fk_ca, Tryz.underlying3, Tryz.underlying46] at h
   cases a <;> simp at h
   rename_i q z
   by_cases hq : q = .i64 ∧ (Lit.int .i64 z).wf = true
   · rw [if_pos hq] at h
     obtain ⟨rfl, hz⟩ := hq
     cases b <;> simp at h
     rename_i t
     by_cases ht : t.size ≤ maxLen
     · exact ⟨(z, t.data.toList), ⟨hz, by simpa using ht⟩, by simp [encFK, bstr]⟩
     · rw [if_neg ht] at h; simp at h
   · rw [if_neg hq] at h; simp at h
 · cases h

theorem fk_inj (x y : Int × Str) (h : encFK x = encFK y) : x = y := by
 obtain ⟨a, b⟩ := x
 obtain ⟨c, d⟩ := y
 simp only [encFK] at h
 have h1 : a = c := by injection h with h; simp at h; exact h.1
 have h2 : bstr b = bstr d := by injection h with h; simp at h; exact h.2
 rw [h1, bstr_inj h2]

def KF : KeyEnc Tryz.prog 202 (Int × Str) := ⟨encFK, okFK, litFK, fk_reads, fk_all, fk_inj, fk_law⟩
end Go.Proofs.YthcdppppppgckaaGreatDoor

namespace Go.Proofs.YthcdppppppgckaaGreatDoor
open Go.RowKit Go.Lib Go.Sort
set_option maxRecDepth 20000
set_option maxRecDepth 20000

abbrev Fdb := Int × Str → Option (Int × Int)
def encE (k : Int × Str) (e : Int × Int) : Value := .agg #[.int .i64 k.1, .string (bstr k.2), .int .i64 e.1, .int .i64 e.2]
def encV (F : Fdb) : Int × Str → Option Value := fun k => (F k).map (encE k)
structure FdAt (w : World) (p m n : Nat) (room age : Int) (F : Fdb) : Prop where
 box : CBox w p 151 #[.int .i64 room, .int .i64 age, .map (some m)]
 map : VMap KF w m n (encV F)
section
variable {w w' : World} {p m n : Nat} {room age : Int} {F : Fdb}
theorem FdAt.lt (h : FdAt w p m n room age F) : p < w.heap.size ∧ m < w.heap.size := ⟨h.box.lt, h.map.lt⟩
theorem FdAt.isMap (h : FdAt w p m n room age F) : ∃ es c, w.heap[m]? = some (.map es c) := by
 obtain ⟨_, D, ⟨es, clock, hb, _⟩, _⟩ := h.map
 exact ⟨es, clock, hb⟩
theorem FdAt.ne (h : FdAt w p m n room age F) : p ≠ m := fun e => by
 obtain ⟨es, c, hm⟩ := h.isMap
 have hb : w.heap[p]? = some _ := h.box
 rw [e, hm] at hb
 cases hb
theorem FdAt.same (h : FdAt w p m n room age F) (h1 : w'.heap[p]? = w.heap[p]?) (h2 : w'.heap[m]? = w.heap[m]?) : FdAt w' p m n room age F := ⟨h1.trans h.box, h.map.same h2⟩
theorem FdAt.below (h : FdAt w p m n room age F) (hb : Below w.heap.size w w') : FdAt w' p m n room age F := h.same (hb.block _ h.lt.1) (hb.block _ h.lt.2)
theorem FdAt.up {n' : Nat} (h : FdAt w p m n room age F) (hn : n ≤ n') : FdAt w p m n' room age F := ⟨h.box, h.map.up hn⟩
end
def cutF (F : Fdb) (pr : Int × Str → Int × Int → Bool) : Fdb := fun k => match F k with | some e => if pr k e then none else some e | none => none
def mixD (F : Fdb) (pr : Int × Str → Int × Int → Bool) (lf : Int × Str → Bool) : Fdb := fun k => if lf k then F k else cutF F pr k
theorem encV_ne {F : Fdb} {k : Int × Str} (h : F k ≠ none) : encV F k ≠ none := fun e => h (by unfold encV at e; cases hF : F k <;> first | rfl | (rw [hF] at e; cases e))
theorem mixD_start (F : Fdb) (pr : Int × Str → Int × Int → Bool) : mixD F pr (fun k => (encV F k).isSome) = F := by
 funext k
 unfold mixD cutF encV
 cases h : F k <;> simp [h]
theorem mixD_end (F : Fdb) (pr : Int × Str → Int × Int → Bool) {lf : Int × Str → Bool} (h : ∀ k, okFK k → lf k = false) (ho : ∀ k, F k ≠ none → okFK k) : mixD F pr lf = cutF F pr := by
 funext k
 unfold mixD
 by_cases hk : okFK k
 · rw [h k hk]; rfl
 · have : F k = none := by
    cases hF : F k
    · rfl
    · exact absurd (ho k (by rw [hF]; simp)) hk
   unfold cutF
   rw [this]
   simp
theorem mixD_keep {F : Fdb} {pr : Int × Str → Int × Int → Bool} {lf : Int × Str → Bool} {x : Int × Str} {e : Int × Int} (hF : F x = some e) (hp : pr x e = false) : mixD F pr (strikeK lf x) = mixD F pr lf := by
 funext k
 unfold mixD strikeK cutF
 by_cases h : k = x
 · subst h
   rw [hF]
   simp [hp]
 · simp [h]
theorem mixD_drop {F : Fdb} {pr : Int × Str → Int × Int → Bool} {lf : Int × Str → Bool} {x : Int × Str} {e : Int × Int} (hF : F x = some e) (hp : pr x e = true) : encV (mixD F pr (strikeK lf x)) = delV (encV (mixD F pr lf)) x := by
 funext k
 unfold encV delV mixD strikeK cutF
 by_cases h : k = x
 · subst h
   rw [hF]
   simp [hp]
 · simp [h]
theorem mixD_at {F : Fdb} {pr : Int × Str → Int × Int → Bool} {lf : Int × Str → Bool} {x : Int × Str} {c : Value} (h : encV (mixD F pr lf) x = some c) (hl : lf x = true) : ∃ e, F x = some e ∧ c = encE x e := by
 unfold encV mixD at h
 rw [hl] at h
 cases hF : F x
 · rw [hF] at h; cases h
 · rw [hF] at h
   exact ⟨_, rfl, by simpa using h.symm⟩
def RetFd (w : World) (p m n : Nat) (room age : Int) (F : Fdb) (e : Ending) (w' : World) : Prop := (∃ i : Int, e = .returned (.int .i64 i)) ∧ FdAt w' p m n room age F ∧ Turn (fun k => k = m) w w'
theorem fd_turn {w w' : World} {m : Nat} (h : ∃ es c, w.heap[m]? = some (Obj.map es c)) (hg : w.grownBy w' (some m)) : Turn (fun k => k = m) w w' :=
 Turn.of_grown hg fun r hr => by cases hr; exact ⟨rfl, h⟩
set_option maxHeartbeats 4000000 in
set_option maxRecDepth 100000 in
theorem ftake_any (f : Nat) (caps : Array Value) (pr : Int × Str → Int × Int → Bool) (p m n : Nat) (room age : Int) (F : Fdb) (w : World) (h : FdAt w p m n room age F) (hcf : ∀ args w', (callFunc f args).run Tryz.prog w' = .ok (.enter f args) w')
 (hf : ∀ k e W, F k = some e → w.grownBy W (some m) → Calls Tryz.prog f (#[encE k e] ++ caps) W fun e' w'' => e' = .returned (.bool (pr k e)) ∧ Below W.heap.size W w'') :
 Calls Tryz.prog 97 #[.pointer (some ⟨p, 0, none⟩), .func (.func f) #[] caps] w (RetFd w p m n room age (cutF F pr)) := by
 obtain ⟨c2, _⟩ := h.box.at_ 2 _ rfl
 obtain ⟨L, hL, hLn, hlen⟩ := h.map.count Tryz.underlying149
 have H := Lib.hid h
 have HF := Lib.hid hf
 clear h hf
 go_enter Tryz.func97, Tryz.ntmps97
 go_wp2_with (first
  | (at_range; refine wpList_range_v _ rfl _ 149 187 rfl Tryz.underlying149 KF m n (encV F) rfl H.out.map ?_; intro w0 cnt0 hrg0 hb0 hs0)
  | go_in)
 go_frame
 have HRG0 := Lib.hid hrg0; have HB0 := Lib.hid hb0
 clear hrg0 hb0 hs0 hlen c2
 go_loopw [6, 7] (fun _ _ wr => ∃ (lf : Int × Str → Bool) (cnt : Nat), VRg KF wr m w.heap.size n (encV (mixD F pr lf)) lf cnt ∧ w.grownBy wr (some m)) (fun _ _ wr => wr.rangeLeft m w.heap.size)
 case atStart => exact ⟨_, cnt0, by rw [mixD_start]; exact HRG0.out, grown_below (World.grownBy.refl _ _) HB0.out⟩
 case round =>
  obtain ⟨lf, cnt, hrg, hg⟩ := hrel
  have HRG := Lib.hid hrg; have HG := Lib.hid hg
  clear hrg hg HRG0 HB0
  go_wp2_with (first
   | (at_next; refine wpList_next_b _ rfl _ rfl KF m w.heap.size n _ _ _ rfl HRG.out ?_ ?_)
   | go_in)
  · intro hdone
    have HM := Lib.hid (show VMap KF wr m n (encV (cutF F pr)) from by
     have := HRG.out.map
     rw [mixD_end F pr hdone (fun k hk => H.out.map.1 k (encV_ne hk))] at this
     exact this)
    obtain ⟨L', _, _, hlen'⟩ := HM.out.count Tryz.underlying149
    have hbx : CBox wr p 151 #[.int .i64 room, .int .i64 age, .map (some m)] := H.out.box.grown HG.out (by have := H.out.ne; simpa using this)
    obtain ⟨c2, _⟩ := hbx.at_ 2 _ rfl
    have HR := Lib.hid (show FdAt wr p m n room age (cutF F pr) ∧ Turn (fun k => k = m) w wr from ⟨⟨hbx, HM.out⟩, fd_turn H.out.isMap HG.out⟩)
    clear hdone hbx
    go_wp2_with fail
    go_ret
    exact ⟨⟨_, rfl⟩, HR.out⟩
  · rintro ⟨x⟩ c w2 cnt2 hxk hx hlf hrg2 hlt hg2 hs2 hen
    obtain ⟨e, hFx, rfl⟩ := mixD_at hx hlf
    have hG2 : w.grownBy w2 (some m) := HG.out.andThen hg2 (fun j hj => by cases hj; exact .inl (Nat.le_refl _))
    obtain ⟨x1, x2⟩ := x
    replace hen : (Instr.entry (.pointer (some ⟨w.heap.size, 0, none⟩))).run Tryz.prog w2 = .ok (.tuple #[.agg #[.int .i64 x1, .string (bstr x2)], .agg #[.int .i64 x1, .string (bstr x2), .int .i64 e.1, .int .i64 e.2]]) w2 := hen
    obtain ⟨W4, hW4⟩ : ∃ W, (w2.alloc (.cells #[.int .i64 x1, .string (bstr x2)] 202)).alloc (.cells #[.int .i64 x1, .string (bstr x2), .int .i64 e.1, .int .i64 e.2] 187) = W := ⟨_, rfl⟩
    have hb4 : Below w2.heap.size w2 W4 := by rw [← hW4]; exact ((Below.refl _ _).alloc (Nat.le_refl _) _).alloc (by simp) _
    obtain ⟨q0, hq0⟩ : ∃ q, w2.heap.size = q := ⟨_, rfl⟩
    have K4 := Lib.hid (show CBox W4 q0 202 #[.int .i64 x1, .string (bstr x2)] from by rw [← hW4]; exact (CBox.new _ hq0.symm).old _)
    have E4 := Lib.hid (show CBox W4 (q0 + 1) 187 #[.int .i64 x1, .string (bstr x2), .int .i64 e.1, .int .i64 e.2] from by rw [← hW4]; exact CBox.new _ (by rw [World.size_alloc, hq0]))
    have HG4 := Lib.hid (grown_below hG2 hb4)
    have HR4 := Lib.hid (hrg2.below hb4)
    have HC := Lib.hid (HF.out (x1, x2) e W4 hFx HG4.out)
    have HLT := Lib.hid (show cnt2 < wr.rangeLeft m w.heap.size from by rw [HRG.out.left]; exact hlt)
    have HFX := Lib.hid hFx; have HOK := Lib.hid hxk
    have HW4 := Lib.hid hW4; have HQ0 := Lib.hid hq0
    obtain ⟨e1, e2⟩ := e
    obtain ⟨d, hd⟩ : ∃ d, pr (x1, x2) (e1, e2) = d := ⟨_, rfl⟩
    have HD := Lib.hid hd
    rw [hd] at HC
    unfold encE at HC
    dsimp only at HC E4 HW4 hen
    have HPB := Lib.hid (fun (W : World) (hW : w.grownBy W (some m)) => (show CBox W p 151 #[.int .i64 room, .int .i64 age, .map (some m)] from H.out.box.grown hW (by have := H.out.ne; simpa using this)))
    obtain ⟨y0, yf0⟩ := CBox.at_ E4.out 0 _ rfl
    obtain ⟨y1, yf1⟩ := CBox.at_ E4.out 1 _ rfl
    obtain ⟨y2, yf2⟩ := CBox.at_ E4.out 2 _ rfl
    obtain ⟨y3, yf3⟩ := CBox.at_ E4.out 3 _ rfl
    clear hx hlf hrg2 hlt hg2 hs2 hFx hxk hG2 hW4 hb4 hq0 hd
    cases d
    · have HMX := Lib.hid (mixD_keep (lf := lf) HFX.out HD.out)
      go_upto_region 5 with fail
      rw [HW4.out, HQ0.out]
      go_wp2_with ((with_reducible refine HC.out.mono ?_); rintro e' w5 ⟨rfl, hb5⟩; have HB5 := Lib.hid hb5; clear hb5)
      go_roundw
      case rel => exact ⟨_, cnt2, by rw [HMX.out]; exact HR4.out.below HB5.out, grown_below HG4.out HB5.out⟩
      case measure => rw [(HR4.out.below HB5.out).left]; exact HLT.out
    · have HMX := Lib.hid (mixD_drop (lf := lf) HFX.out HD.out)
      go_upto_region 5 with fail
      rw [HW4.out, HQ0.out]
      go_upto_region 6 with ((with_reducible refine HC.out.mono ?_); rintro e' w5 ⟨rfl, hb5⟩; have HB5 := Lib.hid hb5; clear hb5)
      obtain ⟨V, hV⟩ : ∃ W, w5.drew = W := ⟨_, rfl⟩
      have hbv : Below w5.heap.size w5 V := by rw [← hV]; exact Below.drew (Below.refl _ _)
      have HV := Lib.hid hV
      have KV := Lib.hid ((K4.out.below HB5.out K4.out.lt).below hbv (K4.out.below HB5.out K4.out.lt).lt)
      have GV := Lib.hid (grown_below (grown_below HG4.out HB5.out) hbv)
      have RV := Lib.hid ((HR4.out.below HB5.out).below hbv)
      obtain ⟨w7, cnt7, hrun, hrg7, hle7, hturn7⟩ := RV.out.drop Tryz.underlying149 (x1, x2) HOK.out 0
      replace hrun : (Builtin.delete_ #[149, 202] 0 #[.map (some m), .agg #[.int .i64 x1, .string (bstr x2)]]).run Tryz.prog V = .ok (.tuple #[]) w7 := hrun
      have HQM := Lib.hid (show q0 ≠ m from fun q => by
       obtain ⟨es, c, hm⟩ := (show ∃ es c, V.heap[m]? = some (Obj.map es c) from by obtain ⟨_, D, ⟨es, clock, hb, _⟩, _⟩ := RV.out.map; exact ⟨es, clock, hb⟩)
       have hk : V.heap[q0]? = some _ := KV.out
       rw [q, hm] at hk
       cases hk)
      have G7 := Lib.hid (show w.grownBy w7 (some m) from GV.out.andThen hturn7.grown (fun j hj => by cases hj; exact .inr rfl))
      have R7 := Lib.hid (show VRg KF w7 m w.heap.size n (encV (mixD F pr (strikeK lf (x1, x2)))) (strikeK (strikeK lf (x1, x2)) (x1, x2)) cnt7 from by rw [HMX.out]; exact hrg7)
      have T7 := Lib.hid hturn7.grown
      have HMS := Lib.hid (show mixD F pr (strikeK (strikeK lf (x1, x2)) (x1, x2)) = mixD F pr (strikeK lf (x1, x2)) from by
       congr 1
       funext k
       unfold strikeK
       cases lf k <;> cases decide (k = (x1, x2)) <;> rfl)
      have HLE7 := Lib.hid hle7
      clear hbv hV hrg7 hle7 hturn7
      have HF1 := Lib.hid (fun (wq : World) (h : CBox wq p 151 #[.int .i64 room, .int .i64 age, .map (some m)] ∧ CBox wq q0 202 #[.int .i64 x1, .string (bstr x2)]) => And.intro (h.1.at_ 2 _ rfl).1 (And.intro (h.2.at_ 0 _ rfl).1 (h.2.at_ 1 _ rfl).1))
      have HF := HF1
      refine wp_region_held_drew (S := fun wq => CBox wq p 151 #[.int .i64 room, .int .i64 age, .map (some m)] ∧ CBox wq q0 202 #[.int .i64 x1, .string (bstr x2)]) (by kernel_rfl) (by rw [HV.out]; exact ⟨HPB.out _ GV.out, KV.out⟩) (fun hHeld => ?_)
      rw [HV.out] at hHeld ⊢
      have hrunH := Lib.hid hrun
      clear hrun y0 yf0 y1 yf1 y2 yf2 y3 yf3
      iterate 5 (first | (refine takeO 6 (v := ?_) rfl (by kernel_rfl) (fun _ _ _ h => h) (Or.inl ⟨by rfl, ?_⟩) (by assumption) ?_; rotate_left; (focus (intro wq hSq; have f := HF.out wq hSq; go_simp <;> with_reducible rfl)); simp only [Act.put, List.setIfInBounds_toArray, List.set_cons_zero, List.set_cons_succ]) | (refine takeO 6 (v := undef) rfl (by kernel_rfl) (fun _ _ _ h => h) (Or.inr ⟨by rfl, rfl⟩) (by assumption) ?_; simp only [Act.put, List.setIfInBounds_toArray, List.set_cons_zero, List.set_cons_succ]))
      have hrun := hrunH.out
      refine wpAnyH_ready (rs := [5]) (by kernel_rfl) (by simp) (nextL 5 rfl (fun Kr hKr => ?_) AllReadyH.nil)
      rw [if_pos (by rfl)]
      go_simp
      refine hKr.out _ _ ⟨HPB.out _ G7.out, KV.out.grown T7.out (by have := HQM.out; simpa using this)⟩ (fun _ => ?_)
      clear hKr hrun
      refine wpAnyH_done (by kernel_rfl) ?_ _
      clear hHeld
      go_wp2_with fail
      go_roundw
      case rel => exact ⟨_, cnt7, by rw [HMS.out]; exact R7.out, G7.out⟩
      case measure => rw [R7.out.left]; exact Nat.lt_of_le_of_lt HLE7.out HLT.out
end Go.Proofs.YthcdppppppgckaaGreatDoor
