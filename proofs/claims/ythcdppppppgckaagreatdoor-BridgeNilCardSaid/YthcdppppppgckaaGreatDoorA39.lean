/- Texts joined into one file: BVl5, BVl6, BVl7. -/
import Derived.Test.YthcdppppppgckaaGreatDoorA38
import Derived.Test.YthcdppppppgckaaGreatDoorA07
import Derived.Sort.OwnSortedInts

namespace Go.Proofs.YthcdppppppgckaaGreatDoor
open Go.RowKit Go.Lib Go.Sort
set_option maxRecDepth 20000
set_option maxRecDepth 20000

theorem enc_zero : encF frZero = .agg #[.string ⟨#[]⟩, .string ⟨#[]⟩, .bool false, .int .i64 0, .int .i64 0, .int .i64 0, .string ⟨#[]⟩] := by
 unfold encF fcells frZero
 dsimp only
 rw [bstr_nil]
def RetFr (w : World) (r : Fr × Int) (e : Ending) (w' : World) : Prop := e = .returned (.tuple #[encF r.1, .int .i64 r.2]) ∧ Below w.heap.size w w'
def vIn1 (p : Pt) (f : Fr) : Fr × Int :=
 if (if f.vlan = 0 then p.default_ else f.vlan) = 0 ∨ p.member (if f.vlan = 0 then p.default_ else f.vlan) = false then (frZero, 6)
 else (if f.vlan = 0 then { f with tagged := true, vlan := p.default_ } else f, 0)
theorem vIn_asked (L : List Pt) (port : Int) (f : Fr) : vIn L port f = if (askedP L port f).2 ≠ 0 then (frZero, (askedP L port f).2) else vIn1 (askedP L port f).1 f := by
 unfold vIn askedP vIn1
 by_cases h1 : vCheck L ≠ 0
 · rw [if_pos h1, if_pos h1, if_pos h1]
 · rw [if_neg h1, if_neg h1]
   by_cases h2 : port < 0 ∨ (L.length : Int) ≤ port ∨ fineF f = false
   · rw [if_pos h2, if_pos h2, if_pos (by decide)]
   · rw [if_neg h2, if_neg h2]
     by_cases h3 : f.vlan = 0 <;> simp [h3]
set_option maxHeartbeats 4000000 in
theorem vin_any (R : Nat → Prop) (v : Value) (L : List Pt) (port : Int) (f : Fr) (w : World) (h : Pts R w v L) (hs : frOk f) :
 Calls Tryz.prog 61 #[v, .int .i64 port, encF f] w (RetFr w (vIn L port f)) := by
 rw [vIn_asked]
 obtain ⟨⟨P0, er⟩, hA⟩ : ∃ A, askedP L port f = A := ⟨_, rfl⟩
 have HAS := Lib.hid (fun W (hW : Below w.heap.size w W) => asked_any R v L port f w W h hW hs)
 rw [hA] at HAS ⊢
 dsimp only at HAS ⊢
 obtain ⟨dst, src, tg, vl, pr, ty, da⟩ := f
 obtain ⟨W1, hW1⟩ : ∃ W, w.alloc (.cells #[.string (bstr dst), .string (bstr src), .bool tg, .int .i64 vl, .int .i64 pr, .int .i64 ty, .string (bstr da)] 48) = W := ⟨_, rfl⟩
 obtain ⟨q0, hq0⟩ : ∃ q, w.heap.size = q := ⟨_, rfl⟩
 have hb1 : Below w.heap.size w W1 := by rw [← hW1]; exact (Below.refl _ _).alloc (Nat.le_refl _) _
 have hx1 : CBox W1 q0 48 #[.string (bstr dst), .string (bstr src), .bool tg, .int .i64 vl, .int .i64 pr, .int .i64 ty, .string (bstr da)] := by rw [← hW1]; exact CBox.new _ hq0.symm
 obtain ⟨W2, hW2⟩ : ∃ W, W1.alloc (.cells #[.string ⟨#[]⟩, .string ⟨#[]⟩, .bool false, .int .i64 0, .int .i64 0, .int .i64 0, .string ⟨#[]⟩] 48) = W := ⟨_, rfl⟩
 obtain ⟨q1, hq1⟩ : ∃ q, W1.heap.size = q := ⟨_, rfl⟩
 have hb2 : Below W1.heap.size W1 W2 := by rw [← hW2]; exact (Below.refl _ _).alloc (Nat.le_refl _) _
 have HX := Lib.hid (hx1.below hb2 hx1.lt)
 have HZ := Lib.hid (show CBox W2 q1 48 #[.string ⟨#[]⟩, .string ⟨#[]⟩, .bool false, .int .i64 0, .int .i64 0, .int .i64 0, .string ⟨#[]⟩] from by rw [← hW2]; exact CBox.new _ hq1.symm)
 have HB := Lib.hid (hb1.trans (hb2.mono hb1.size))
 have HLE := Lib.hid (show w.heap.size ≤ q1 from by have := hb1.size; omega)
 have HNE := Lib.hid (show q0 ≠ q1 ∧ w.heap.size ≤ q0 from by have := hx1.lt; omega)
 have HW1 := Lib.hid hW1; have HW2 := Lib.hid hW2; have HQ0 := Lib.hid hq0; have HQ1 := Lib.hid (show q0 + 1 = q1 from by rw [← hq1, ← hW1, World.size_alloc, hq0])
 obtain ⟨r, hr⟩ : ∃ r, (if er ≠ 0 then (frZero, er) else vIn1 P0 ⟨dst, src, tg, vl, pr, ty, da⟩) = r := ⟨_, rfl⟩
 have HR := Lib.hid hr
 rw [hr]
 unfold encF fcells at HAS ⊢
 dsimp only at HAS ⊢
 clear hx1 hb1 hb2 hW1 hW2 hq0 hq1 h hs hr hA
 go_enter Tryz.func61, Tryz.ntmps61
 go_upto_region 1 with fail
 rw [HW1.out, HW2.out, HQ0.out, HQ1.out]
 obtain ⟨c0, cf0⟩ := CBox.at_ HX.out 0 _ rfl
 obtain ⟨c1, cf1⟩ := CBox.at_ HX.out 1 _ rfl
 obtain ⟨c2, cf2⟩ := CBox.at_ HX.out 2 _ rfl
 obtain ⟨c3, cf3⟩ := CBox.at_ HX.out 3 _ rfl
 obtain ⟨c4, cf4⟩ := CBox.at_ HX.out 4 _ rfl
 obtain ⟨c5, cf5⟩ := CBox.at_ HX.out 5 _ rfl
 obtain ⟨c6, cf6⟩ := CBox.at_ HX.out 6 _ rfl
 go_upto_region 2 with ((with_reducible refine (HAS.out _ HB.out).mono ?_); rintro e w3 ⟨vt, vp, rfl, hi1, hi2, hb3⟩; obtain ⟨ao, an, ac, rfl⟩ := hi1.shape; obtain ⟨bo, bn, bc, rfl⟩ := hi2.shape; have B3 := Lib.hid (HB.out.trans (hb3.mono HB.out.size)); have X3 := Lib.hid (HX.out.below hb3 HX.out.lt); have Z3 := Lib.hid (HZ.out.below hb3 HZ.out.lt); have I3 := Lib.hid (And.intro hi1 hi2); have HS3 := Lib.hid hb3.size; clear hb3 hi1 hi2)
 clear c0 cf0 c1 cf1 c2 cf2 c3 cf3 c4 cf4 c5 cf5 c6 cf6
 obtain ⟨d, hd⟩ : ∃ d, P0.default_ = d := ⟨_, rfl⟩
 have HD := Lib.hid hd
 rw [hd]
 obtain ⟨W4, hW4⟩ : ∃ W, w3.alloc (.cells #[.int .i64 d, .slice ao an ac, .slice bo bn bc] 56) = W := ⟨_, rfl⟩
 obtain ⟨q2, hq2⟩ : ∃ q, w3.heap.size = q := ⟨_, rfl⟩
 have hb4 : Below w3.heap.size w3 W4 := by rw [← hW4]; exact (Below.refl _ _).alloc (Nat.le_refl _) _
 have P4 := Lib.hid (show CBox W4 q2 56 #[.int .i64 d, .slice ao an ac, .slice bo bn bc] from by rw [← hW4]; exact CBox.new _ hq2.symm)
 have B4 := Lib.hid (B3.out.trans (hb4.mono B3.out.size)); have X4 := Lib.hid (X3.out.below hb4 X3.out.lt); have Z4 := Lib.hid (Z3.out.below hb4 Z3.out.lt); have I4 := Lib.hid (And.intro (I3.out.1.mono B4.out) (I3.out.2.mono B4.out)); have I0 := I3
 have HN2 := Lib.hid (show q2 ≠ q0 ∧ q2 ≠ q1 from by have := X3.out.lt; have := Z3.out.lt; omega)
 rw [hW4, hq2]
 clear hW4 hq2 hb4 hd X3 Z3 B3 I3 HX HZ HB HAS HW1 HW2
 obtain ⟨c0, cf0⟩ := CBox.at_ X4.out 0 _ rfl
 obtain ⟨c1, cf1⟩ := CBox.at_ X4.out 1 _ rfl
 obtain ⟨c2, cf2⟩ := CBox.at_ X4.out 2 _ rfl
 obtain ⟨c3, cf3⟩ := CBox.at_ X4.out 3 _ rfl
 obtain ⟨c4, cf4⟩ := CBox.at_ X4.out 4 _ rfl
 obtain ⟨c5, cf5⟩ := CBox.at_ X4.out 5 _ rfl
 obtain ⟨c6, cf6⟩ := CBox.at_ X4.out 6 _ rfl
 obtain ⟨z0, zf0⟩ := CBox.at_ Z4.out 0 _ rfl
 obtain ⟨z1, zf1⟩ := CBox.at_ Z4.out 1 _ rfl
 obtain ⟨z2, zf2⟩ := CBox.at_ Z4.out 2 _ rfl
 obtain ⟨z3, zf3⟩ := CBox.at_ Z4.out 3 _ rfl
 obtain ⟨z4, zf4⟩ := CBox.at_ Z4.out 4 _ rfl
 obtain ⟨z5, zf5⟩ := CBox.at_ Z4.out 5 _ rfl
 obtain ⟨z6, zf6⟩ := CBox.at_ Z4.out 6 _ rfl
 obtain ⟨p0, pf0⟩ := CBox.at_ P4.out 0 _ rfl
 obtain ⟨p1, pf1⟩ := CBox.at_ P4.out 1 _ rfl
 obtain ⟨p2, pf2⟩ := CBox.at_ P4.out 2 _ rfl
 cases q1' : (er != 0)
 · have he : er = 0 := by simpa [bne] using q1'
   subst he
   clear q1'
   cases qv : (vl == 0)
   · have hv0 : vl ≠ 0 := by simpa using qv
     have HNZ := Lib.hid hv0
     clear hv0
     have HMB := Lib.hid (member_any P0 (.slice ao an ac) (.slice bo bn bc) vl W4 I4.out.1 I4.out.2)
     obtain ⟨m, hm⟩ : ∃ m, P0.member vl = m := ⟨_, rfl⟩
     rw [hm, HD.out] at HMB
     cases m
     · have HR0 := Lib.hid (show r = (frZero, 6) from by rw [← HR.out, if_neg (fun h => h rfl)]; unfold vIn1; dsimp only; rw [if_neg HNZ.out, if_neg HNZ.out]; rw [if_pos (.inr hm)])
       clear hm
       go_wp2_with ((with_reducible refine HMB.out.mono ?_); rintro e w6 ⟨rfl, hb6⟩; have B6 := Lib.hid (B4.out.trans (hb6.mono B4.out.size)); have X6 := Lib.hid (X4.out.below hb6 X4.out.lt); have Z6 := Lib.hid (Z4.out.below hb6 Z4.out.lt); clear hb6 c0 cf0 c1 cf1 c2 cf2 c3 cf3 c4 cf4 c5 cf5 c6 cf6 z0 zf0 z1 zf1 z2 zf2 z3 zf3 z4 zf4 z5 zf5 z6 zf6 p0 pf0 p1 pf1 p2 pf2; obtain ⟨c0, cf0⟩ := CBox.at_ X6.out 0 _ rfl; obtain ⟨c1, cf1⟩ := CBox.at_ X6.out 1 _ rfl; obtain ⟨c2, cf2⟩ := CBox.at_ X6.out 2 _ rfl; obtain ⟨c3, cf3⟩ := CBox.at_ X6.out 3 _ rfl; obtain ⟨c4, cf4⟩ := CBox.at_ X6.out 4 _ rfl; obtain ⟨c5, cf5⟩ := CBox.at_ X6.out 5 _ rfl; obtain ⟨c6, cf6⟩ := CBox.at_ X6.out 6 _ rfl; obtain ⟨z0, zf0⟩ := CBox.at_ Z6.out 0 _ rfl; obtain ⟨z1, zf1⟩ := CBox.at_ Z6.out 1 _ rfl; obtain ⟨z2, zf2⟩ := CBox.at_ Z6.out 2 _ rfl; obtain ⟨z3, zf3⟩ := CBox.at_ Z6.out 3 _ rfl; obtain ⟨z4, zf4⟩ := CBox.at_ Z6.out 4 _ rfl; obtain ⟨z5, zf5⟩ := CBox.at_ Z6.out 5 _ rfl; obtain ⟨z6, zf6⟩ := CBox.at_ Z6.out 6 _ rfl)
       have hz := box7 (cells7s Z6.out (.string ⟨#[]⟩) (.string ⟨#[]⟩) (.bool false) (.int .i64 0) (.int .i64 0) (.int .i64 0) (.string ⟨#[]⟩))
       dsimp only [setsL] at hz
       obtain ⟨r0, r1, r2, r3, r4, r5, r6⟩ := hz
       refine bodyPost_ret (v := .tuple #[.agg #[.string ⟨#[]⟩, .string ⟨#[]⟩, .bool false, .int .i64 0, .int .i64 0, .int .i64 0, .string ⟨#[]⟩], .int .i64 6]) (by simp [results, Tryz.results61, go_sem, r0, r1, r2, r3, r4, r5, r6]) rfl ?_
       rw [HR0.out]
       exact ⟨by rw [enc_zero], setsL_below HLE.out [.string ⟨#[]⟩, .string ⟨#[]⟩, .bool false, .int .i64 0, .int .i64 0, .int .i64 0, .string ⟨#[]⟩] 0 B6.out⟩
     · have HR0 := Lib.hid (show r = (⟨dst, src, tg, vl, pr, ty, da⟩, 0) from by rw [← HR.out, if_neg (fun h => h rfl)]; unfold vIn1; dsimp only; rw [if_neg HNZ.out, if_neg HNZ.out]; rw [if_neg (fun h => by rcases h with h | h <;> first | exact HNZ.out h | (rw [hm] at h; cases h))])
       clear hm
       go_wp2_with ((with_reducible refine HMB.out.mono ?_); rintro e w6 ⟨rfl, hb6⟩; have B6 := Lib.hid (B4.out.trans (hb6.mono B4.out.size)); have X6 := Lib.hid (X4.out.below hb6 X4.out.lt); have Z6 := Lib.hid (Z4.out.below hb6 Z4.out.lt); clear hb6 c0 cf0 c1 cf1 c2 cf2 c3 cf3 c4 cf4 c5 cf5 c6 cf6 z0 zf0 z1 zf1 z2 zf2 z3 zf3 z4 zf4 z5 zf5 z6 zf6 p0 pf0 p1 pf1 p2 pf2; obtain ⟨c0, cf0⟩ := CBox.at_ X6.out 0 _ rfl; obtain ⟨c1, cf1⟩ := CBox.at_ X6.out 1 _ rfl; obtain ⟨c2, cf2⟩ := CBox.at_ X6.out 2 _ rfl; obtain ⟨c3, cf3⟩ := CBox.at_ X6.out 3 _ rfl; obtain ⟨c4, cf4⟩ := CBox.at_ X6.out 4 _ rfl; obtain ⟨c5, cf5⟩ := CBox.at_ X6.out 5 _ rfl; obtain ⟨c6, cf6⟩ := CBox.at_ X6.out 6 _ rfl; obtain ⟨z0, zf0⟩ := CBox.at_ Z6.out 0 _ rfl; obtain ⟨z1, zf1⟩ := CBox.at_ Z6.out 1 _ rfl; obtain ⟨z2, zf2⟩ := CBox.at_ Z6.out 2 _ rfl; obtain ⟨z3, zf3⟩ := CBox.at_ Z6.out 3 _ rfl; obtain ⟨z4, zf4⟩ := CBox.at_ Z6.out 4 _ rfl; obtain ⟨z5, zf5⟩ := CBox.at_ Z6.out 5 _ rfl; obtain ⟨z6, zf6⟩ := CBox.at_ Z6.out 6 _ rfl)
       have hz := box7 (cells7s Z6.out (.string (bstr dst)) (.string (bstr src)) (.bool tg) (.int .i64 vl) (.int .i64 pr) (.int .i64 ty) (.string (bstr da)))
       dsimp only [setsL] at hz
       obtain ⟨r0, r1, r2, r3, r4, r5, r6⟩ := hz
       refine bodyPost_ret (v := .tuple #[.agg #[.string (bstr dst), .string (bstr src), .bool tg, .int .i64 vl, .int .i64 pr, .int .i64 ty, .string (bstr da)], .int .i64 0]) (by simp [results, Tryz.results61, go_sem, r0, r1, r2, r3, r4, r5, r6]) rfl ?_
       rw [HR0.out]
       exact ⟨rfl, setsL_below HLE.out [.string (bstr dst), .string (bstr src), .bool tg, .int .i64 vl, .int .i64 pr, .int .i64 ty, .string (bstr da)] 0 B6.out⟩
   · have hv0 : vl = 0 := by simpa using qv
     subst hv0
     clear qv
     go_upto_region 5 with fail
     obtain ⟨V, hV⟩ : ∃ W, W4.drew = W := ⟨_, rfl⟩
     have hbv : Below W4.heap.size W4 V := by rw [← hV]; exact Below.drew (Below.refl _ _)
     have HV := Lib.hid hV
     have XV := Lib.hid (X4.out.below hbv X4.out.lt); have ZV := Lib.hid (Z4.out.below hbv Z4.out.lt); have PV := Lib.hid (P4.out.below hbv P4.out.lt); have BV := Lib.hid (B4.out.trans (hbv.mono B4.out.size))
     clear hV hbv c0 cf0 c1 cf1 c2 cf2 c3 cf3 c4 cf4 c5 cf5 c6 cf6 z0 zf0 z1 zf1 z2 zf2 z3 zf3 z4 zf4 z5 zf5 z6 zf6 p0 pf0 p1 pf1 p2 pf2 X4 Z4 P4 B4 I4
     have HF := Lib.hid (fun (wq : World) (h : CBox wq q2 56 #[.int .i64 d, .slice ao an ac, .slice bo bn bc]) => (h.at_ 0 _ rfl).1)
     refine wp_region_held_drew (S := fun wq => CBox wq q2 56 #[.int .i64 d, .slice ao an ac, .slice bo bn bc]) (by kernel_rfl) (by rw [HV.out]; exact PV.out) (fun hHeld => ?_)
     rw [HV.out] at hHeld ⊢
     obtain ⟨c0, cf0⟩ := CBox.at_ XV.out 0 _ rfl
     obtain ⟨c1, cf1⟩ := CBox.at_ XV.out 1 _ rfl
     obtain ⟨c2, cf2⟩ := CBox.at_ XV.out 2 _ rfl
     obtain ⟨c3, cf3⟩ := CBox.at_ XV.out 3 _ rfl
     obtain ⟨c4, cf4⟩ := CBox.at_ XV.out 4 _ rfl
     obtain ⟨c5, cf5⟩ := CBox.at_ XV.out 5 _ rfl
     obtain ⟨c6, cf6⟩ := CBox.at_ XV.out 6 _ rfl
     refine tkL 0 (v := ?_) rfl (by kernel_rfl) (fun _ _ _ => id) (Or.inl ⟨by rfl, ?_⟩) (by assumption) ?_; rotate_left; (focus (intro wq hSq; have f0 := HF.out wq hSq; go_simp <;> with_reducible rfl)); simp only [Act.put, pA, pB, pC]
     refine tkL 1 (v := ?_) rfl (by kernel_rfl) (fun _ _ _ => id) (Or.inl ⟨by rfl, ?_⟩) (by assumption) ?_; rotate_left; (focus (intro wq hSq; have f0 := HF.out wq hSq; go_simp <;> with_reducible rfl)); simp only [Act.put, pA, pB, pC]
     refine tkL 2 (v := ?_) rfl (by kernel_rfl) (fun _ _ _ => id) (Or.inl ⟨by rfl, ?_⟩) (by assumption) ?_; rotate_left; (focus (intro wq hSq; have f0 := HF.out wq hSq; go_simp <;> with_reducible rfl)); simp only [Act.put, pA, pB, pC]
     refine wpAnyH_ready (rs := [3]) (by kernel_rfl) (by simp) (nextL 3 rfl (fun Kr hKr => ?_) AllReadyH.nil)
     rw [if_pos (by rfl)]
     go_simp
     have P7 := Lib.hid (PV.out.far (p := ⟨q0, 2, none⟩) HN2.out.1 (.bool true)); have X7 := Lib.hid (show CBox (V.setCell ⟨q0, 2, none⟩ (.bool true)) q0 48 #[.string (bstr dst), .string (bstr src), .bool true, .int .i64 0, .int .i64 pr, .int .i64 ty, .string (bstr da)] from XV.out.set 2 _)
     refine hKr.out _ _ P7.out (fun _ => ?_)
     clear hKr c0 cf0 c1 cf1 c2 cf2 c3 cf3 c4 cf4 c5 cf5 c6 cf6
     obtain ⟨c0, cf0⟩ := CBox.at_ X7.out 0 _ rfl
     obtain ⟨c1, cf1⟩ := CBox.at_ X7.out 1 _ rfl
     obtain ⟨c2, cf2⟩ := CBox.at_ X7.out 2 _ rfl
     obtain ⟨c3, cf3⟩ := CBox.at_ X7.out 3 _ rfl
     obtain ⟨c4, cf4⟩ := CBox.at_ X7.out 4 _ rfl
     obtain ⟨c5, cf5⟩ := CBox.at_ X7.out 5 _ rfl
     obtain ⟨c6, cf6⟩ := CBox.at_ X7.out 6 _ rfl
     have HF := Lib.hid (fun (wq : World) (h : CBox wq q2 56 #[.int .i64 d, .slice ao an ac, .slice bo bn bc]) => (h.at_ 0 _ rfl).1)
     have hHeld := P7.out
     refine tkL 4 (v := ?_) rfl (by kernel_rfl) (fun _ _ _ => id) (Or.inl ⟨by rfl, ?_⟩) (by assumption) ?_; rotate_left; (focus (intro wq hSq; have f0 := HF.out wq hSq; go_simp <;> with_reducible rfl)); simp only [Act.put, pA, pB, pC]
     refine wpAnyH_ready (rs := [5]) (by kernel_rfl) (by simp) (nextL 5 rfl (fun Kr hKr => ?_) AllReadyH.nil)
     rw [if_pos (by rfl)]
     go_simp
     refine hKr.out _ _ (P7.out.far (p := ⟨q0, 3, none⟩) HN2.out.1 (.int .i64 d)) (fun _ => ?_)
     clear hKr c0 cf0 c1 cf1 c2 cf2 c3 cf3 c4 cf4 c5 cf5 c6 cf6
     refine wpAnyH_done (by kernel_rfl) ?_ _
     obtain ⟨W5, hW5⟩ : ∃ W, (V.setCell ⟨q0, 2, none⟩ (.bool true)).setCell ⟨q0, 3, none⟩ (.int .i64 d) = W := ⟨_, rfl⟩
     have X5 := Lib.hid (show CBox W5 q0 48 #[.string (bstr dst), .string (bstr src), .bool true, .int .i64 d, .int .i64 pr, .int .i64 ty, .string (bstr da)] from by rw [← hW5]; exact X7.out.set 3 _)
     have Z5 := Lib.hid (show CBox W5 q1 48 #[.string ⟨#[]⟩, .string ⟨#[]⟩, .bool false, .int .i64 0, .int .i64 0, .int .i64 0, .string ⟨#[]⟩] from by rw [← hW5]; exact (ZV.out.far (p := ⟨q0, 2, none⟩) (Ne.symm HNE.out.1) _).far (p := ⟨q0, 3, none⟩) (Ne.symm HNE.out.1) _)
     have P5 := Lib.hid (show CBox W5 q2 56 #[.int .i64 d, .slice ao an ac, .slice bo bn bc] from by rw [← hW5]; exact P7.out.far (p := ⟨q0, 3, none⟩) HN2.out.1 _)
     have B5 := Lib.hid (show Below w.heap.size w W5 from by rw [← hW5]; exact (BV.out.setCell (p := ⟨q0, 2, none⟩) HNE.out.2 _).setCell (p := ⟨q0, 3, none⟩) HNE.out.2 _)
     have I5 := Lib.hid (And.intro (I0.out.1.mono B5.out) (I0.out.2.mono B5.out))
     rw [hW5]
     clear hW5 HF hHeld XV ZV PV BV X7 P7 HV
     obtain ⟨c0, cf0⟩ := CBox.at_ X5.out 0 _ rfl
     obtain ⟨c1, cf1⟩ := CBox.at_ X5.out 1 _ rfl
     obtain ⟨c2, cf2⟩ := CBox.at_ X5.out 2 _ rfl
     obtain ⟨c3, cf3⟩ := CBox.at_ X5.out 3 _ rfl
     obtain ⟨c4, cf4⟩ := CBox.at_ X5.out 4 _ rfl
     obtain ⟨c5, cf5⟩ := CBox.at_ X5.out 5 _ rfl
     obtain ⟨c6, cf6⟩ := CBox.at_ X5.out 6 _ rfl
     obtain ⟨z0, zf0⟩ := CBox.at_ Z5.out 0 _ rfl
     obtain ⟨z1, zf1⟩ := CBox.at_ Z5.out 1 _ rfl
     obtain ⟨z2, zf2⟩ := CBox.at_ Z5.out 2 _ rfl
     obtain ⟨z3, zf3⟩ := CBox.at_ Z5.out 3 _ rfl
     obtain ⟨z4, zf4⟩ := CBox.at_ Z5.out 4 _ rfl
     obtain ⟨z5, zf5⟩ := CBox.at_ Z5.out 5 _ rfl
     obtain ⟨z6, zf6⟩ := CBox.at_ Z5.out 6 _ rfl
     obtain ⟨p0, pf0⟩ := CBox.at_ P5.out 0 _ rfl
     obtain ⟨p1, pf1⟩ := CBox.at_ P5.out 1 _ rfl
     obtain ⟨p2, pf2⟩ := CBox.at_ P5.out 2 _ rfl
     cases qd : (d == 0)
     · have hd0 : d ≠ 0 := by simpa using qd
       have HNZ := Lib.hid hd0
       clear hd0
       have HMB := Lib.hid (member_any P0 (.slice ao an ac) (.slice bo bn bc) d W5 I5.out.1 I5.out.2)
       obtain ⟨m, hm⟩ : ∃ m, P0.member d = m := ⟨_, rfl⟩
       rw [hm, HD.out] at HMB
       cases m
       · have HR0 := Lib.hid (show r = (frZero, 6) from by rw [← HR.out, if_neg (fun h => h rfl)]; unfold vIn1; dsimp only; rw [if_pos (.inr (by rw [if_pos rfl, HD.out]; exact hm))])
         clear hm
         go_wp2_with ((with_reducible refine HMB.out.mono ?_); rintro e w6 ⟨rfl, hb6⟩; have B6 := Lib.hid (B5.out.trans (hb6.mono B5.out.size)); have X6 := Lib.hid (X5.out.below hb6 X5.out.lt); have Z6 := Lib.hid (Z5.out.below hb6 Z5.out.lt); clear hb6 c0 cf0 c1 cf1 c2 cf2 c3 cf3 c4 cf4 c5 cf5 c6 cf6 z0 zf0 z1 zf1 z2 zf2 z3 zf3 z4 zf4 z5 zf5 z6 zf6 p0 pf0 p1 pf1 p2 pf2; obtain ⟨c0, cf0⟩ := CBox.at_ X6.out 0 _ rfl; obtain ⟨c1, cf1⟩ := CBox.at_ X6.out 1 _ rfl; obtain ⟨c2, cf2⟩ := CBox.at_ X6.out 2 _ rfl; obtain ⟨c3, cf3⟩ := CBox.at_ X6.out 3 _ rfl; obtain ⟨c4, cf4⟩ := CBox.at_ X6.out 4 _ rfl; obtain ⟨c5, cf5⟩ := CBox.at_ X6.out 5 _ rfl; obtain ⟨c6, cf6⟩ := CBox.at_ X6.out 6 _ rfl; obtain ⟨z0, zf0⟩ := CBox.at_ Z6.out 0 _ rfl; obtain ⟨z1, zf1⟩ := CBox.at_ Z6.out 1 _ rfl; obtain ⟨z2, zf2⟩ := CBox.at_ Z6.out 2 _ rfl; obtain ⟨z3, zf3⟩ := CBox.at_ Z6.out 3 _ rfl; obtain ⟨z4, zf4⟩ := CBox.at_ Z6.out 4 _ rfl; obtain ⟨z5, zf5⟩ := CBox.at_ Z6.out 5 _ rfl; obtain ⟨z6, zf6⟩ := CBox.at_ Z6.out 6 _ rfl)
         have hz := box7 (cells7s Z6.out (.string ⟨#[]⟩) (.string ⟨#[]⟩) (.bool false) (.int .i64 0) (.int .i64 0) (.int .i64 0) (.string ⟨#[]⟩))
         dsimp only [setsL] at hz
         obtain ⟨r0, r1, r2, r3, r4, r5, r6⟩ := hz
         refine bodyPost_ret (v := .tuple #[.agg #[.string ⟨#[]⟩, .string ⟨#[]⟩, .bool false, .int .i64 0, .int .i64 0, .int .i64 0, .string ⟨#[]⟩], .int .i64 6]) (by simp [results, Tryz.results61, go_sem, r0, r1, r2, r3, r4, r5, r6]) rfl ?_
         rw [HR0.out]
         exact ⟨by rw [enc_zero], setsL_below HLE.out [.string ⟨#[]⟩, .string ⟨#[]⟩, .bool false, .int .i64 0, .int .i64 0, .int .i64 0, .string ⟨#[]⟩] 0 B6.out⟩
       · have HR0 := Lib.hid (show r = (⟨dst, src, true, d, pr, ty, da⟩, 0) from by rw [← HR.out, if_neg (fun h => h rfl)]; unfold vIn1; dsimp only; rw [if_pos rfl, HD.out]; rw [if_neg (fun h => by rcases h with h | h <;> first | exact HNZ.out h | (rw [hm] at h; cases h))]; rw [if_pos rfl])
         clear hm
         go_wp2_with ((with_reducible refine HMB.out.mono ?_); rintro e w6 ⟨rfl, hb6⟩; have B6 := Lib.hid (B5.out.trans (hb6.mono B5.out.size)); have X6 := Lib.hid (X5.out.below hb6 X5.out.lt); have Z6 := Lib.hid (Z5.out.below hb6 Z5.out.lt); clear hb6 c0 cf0 c1 cf1 c2 cf2 c3 cf3 c4 cf4 c5 cf5 c6 cf6 z0 zf0 z1 zf1 z2 zf2 z3 zf3 z4 zf4 z5 zf5 z6 zf6 p0 pf0 p1 pf1 p2 pf2; obtain ⟨c0, cf0⟩ := CBox.at_ X6.out 0 _ rfl; obtain ⟨c1, cf1⟩ := CBox.at_ X6.out 1 _ rfl; obtain ⟨c2, cf2⟩ := CBox.at_ X6.out 2 _ rfl; obtain ⟨c3, cf3⟩ := CBox.at_ X6.out 3 _ rfl; obtain ⟨c4, cf4⟩ := CBox.at_ X6.out 4 _ rfl; obtain ⟨c5, cf5⟩ := CBox.at_ X6.out 5 _ rfl; obtain ⟨c6, cf6⟩ := CBox.at_ X6.out 6 _ rfl; obtain ⟨z0, zf0⟩ := CBox.at_ Z6.out 0 _ rfl; obtain ⟨z1, zf1⟩ := CBox.at_ Z6.out 1 _ rfl; obtain ⟨z2, zf2⟩ := CBox.at_ Z6.out 2 _ rfl; obtain ⟨z3, zf3⟩ := CBox.at_ Z6.out 3 _ rfl; obtain ⟨z4, zf4⟩ := CBox.at_ Z6.out 4 _ rfl; obtain ⟨z5, zf5⟩ := CBox.at_ Z6.out 5 _ rfl; obtain ⟨z6, zf6⟩ := CBox.at_ Z6.out 6 _ rfl)
         have hz := box7 (cells7s Z6.out (.string (bstr dst)) (.string (bstr src)) (.bool true) (.int .i64 d) (.int .i64 pr) (.int .i64 ty) (.string (bstr da)))
         dsimp only [setsL] at hz
         obtain ⟨r0, r1, r2, r3, r4, r5, r6⟩ := hz
         refine bodyPost_ret (v := .tuple #[.agg #[.string (bstr dst), .string (bstr src), .bool true, .int .i64 d, .int .i64 pr, .int .i64 ty, .string (bstr da)], .int .i64 0]) (by simp [results, Tryz.results61, go_sem, r0, r1, r2, r3, r4, r5, r6]) rfl ?_
         rw [HR0.out]
         exact ⟨rfl, setsL_below HLE.out [.string (bstr dst), .string (bstr src), .bool true, .int .i64 d, .int .i64 pr, .int .i64 ty, .string (bstr da)] 0 B6.out⟩
     · have hd0 : d = 0 := by simpa using qd
       have HR0 := Lib.hid (show r = (frZero, 6) from by rw [← HR.out, if_neg (fun h => h rfl)]; unfold vIn1; dsimp only; rw [if_pos (.inl (by rw [if_pos rfl, HD.out]; exact hd0))])
       clear hd0
       go_wp2_with fail
       have hz := box7 (cells7s Z5.out (.string ⟨#[]⟩) (.string ⟨#[]⟩) (.bool false) (.int .i64 0) (.int .i64 0) (.int .i64 0) (.string ⟨#[]⟩))
       dsimp only [setsL] at hz
       obtain ⟨r0, r1, r2, r3, r4, r5, r6⟩ := hz
       refine bodyPost_ret (v := .tuple #[.agg #[.string ⟨#[]⟩, .string ⟨#[]⟩, .bool false, .int .i64 0, .int .i64 0, .int .i64 0, .string ⟨#[]⟩], .int .i64 6]) (by simp [results, Tryz.results61, go_sem, r0, r1, r2, r3, r4, r5, r6]) rfl ?_
       rw [HR0.out]
       exact ⟨by rw [enc_zero], setsL_below HLE.out [.string ⟨#[]⟩, .string ⟨#[]⟩, .bool false, .int .i64 0, .int .i64 0, .int .i64 0, .string ⟨#[]⟩] 0 B5.out⟩
 · have HR0 := Lib.hid (show r = (frZero, er) from by rw [← HR.out, if_pos (by intro h; rw [h] at q1'; cases q1')])
   go_wp2_with fail
   have hz := box7 (cells7s Z4.out (.string ⟨#[]⟩) (.string ⟨#[]⟩) (.bool false) (.int .i64 0) (.int .i64 0) (.int .i64 0) (.string ⟨#[]⟩))
   dsimp only [setsL] at hz
   obtain ⟨r0, r1, r2, r3, r4, r5, r6⟩ := hz
   refine bodyPost_ret (v := .tuple #[.agg #[.string ⟨#[]⟩, .string ⟨#[]⟩, .bool false, .int .i64 0, .int .i64 0, .int .i64 0, .string ⟨#[]⟩], .int .i64 er]) (by simp [results, Tryz.results61, go_sem, r0, r1, r2, r3, r4, r5, r6]) rfl ?_
   rw [HR0.out]
   exact ⟨by rw [enc_zero], setsL_below HLE.out [.string ⟨#[]⟩, .string ⟨#[]⟩, .bool false, .int .i64 0, .int .i64 0, .int .i64 0, .string ⟨#[]⟩] 0 B4.out⟩

def vOut1 (p : Pt) (f : Fr) : Fr × Int :=
 if f.vlan = 0 then (frZero, 1)
 else if p.tagged.contains f.vlan = true then (f, 0)
 else if p.member f.vlan = false then (frZero, 6)
 else if fineF ⟨f.dst, f.src, false, 0, 0, f.typ, f.data⟩ = true then (⟨f.dst, f.src, false, 0, 0, f.typ, f.data⟩, 0) else (frZero, 6)
theorem vOut_asked (L : List Pt) (port : Int) (f : Fr) : vOut L port f = if (askedP L port f).2 ≠ 0 then (frZero, (askedP L port f).2) else vOut1 (askedP L port f).1 f := by
 unfold vOut askedP vOut1
 by_cases h1 : vCheck L ≠ 0
 · rw [if_pos h1, if_pos h1, if_pos h1]
 · rw [if_neg h1, if_neg h1]
   by_cases h2 : port < 0 ∨ (L.length : Int) ≤ port ∨ fineF f = false
   · rw [if_pos h2, if_pos h2, if_pos (by decide)]
   · rw [if_neg h2, if_neg h2]
     dsimp only
     rw [if_neg (show ¬ ((0 : Int) ≠ 0) from fun h => h rfl)]

set_option maxHeartbeats 4000000 in
theorem vout_any (R : Nat → Prop) (v : Value) (L : List Pt) (port : Int) (f : Fr) (w : World) (h : Pts R w v L) (hs : frOk f) :
 Calls Tryz.prog 185 #[v, .int .i64 port, encF f] w (RetFr w (vOut L port f)) := by
 rw [vOut_asked]
 obtain ⟨⟨P0, er⟩, hA⟩ : ∃ A, askedP L port f = A := ⟨_, rfl⟩
 have HFO := Lib.hid (show frOk f from hs)
 have HAS := Lib.hid (fun W (hW : Below w.heap.size w W) => asked_any R v L port f w W h hW hs)
 rw [hA] at HAS ⊢
 dsimp only at HAS ⊢
 obtain ⟨dst, src, tg, vl, pr, ty, da⟩ := f
 obtain ⟨W1, hW1⟩ : ∃ W, w.alloc (.cells #[.string (bstr dst), .string (bstr src), .bool tg, .int .i64 vl, .int .i64 pr, .int .i64 ty, .string (bstr da)] 48) = W := ⟨_, rfl⟩
 obtain ⟨q0, hq0⟩ : ∃ q, w.heap.size = q := ⟨_, rfl⟩
 have hb1 : Below w.heap.size w W1 := by rw [← hW1]; exact (Below.refl _ _).alloc (Nat.le_refl _) _
 have hx1 : CBox W1 q0 48 #[.string (bstr dst), .string (bstr src), .bool tg, .int .i64 vl, .int .i64 pr, .int .i64 ty, .string (bstr da)] := by rw [← hW1]; exact CBox.new _ hq0.symm
 obtain ⟨W2, hW2⟩ : ∃ W, W1.alloc (.cells #[.string ⟨#[]⟩, .string ⟨#[]⟩, .bool false, .int .i64 0, .int .i64 0, .int .i64 0, .string ⟨#[]⟩] 48) = W := ⟨_, rfl⟩
 obtain ⟨q1, hq1⟩ : ∃ q, W1.heap.size = q := ⟨_, rfl⟩
 have hb2 : Below W1.heap.size W1 W2 := by rw [← hW2]; exact (Below.refl _ _).alloc (Nat.le_refl _) _
 have HX := Lib.hid (hx1.below hb2 hx1.lt)
 have HZ := Lib.hid (show CBox W2 q1 48 #[.string ⟨#[]⟩, .string ⟨#[]⟩, .bool false, .int .i64 0, .int .i64 0, .int .i64 0, .string ⟨#[]⟩] from by rw [← hW2]; exact CBox.new _ hq1.symm)
 have HB := Lib.hid (hb1.trans (hb2.mono hb1.size))
 have HLE := Lib.hid (show w.heap.size ≤ q1 from by have := hb1.size; omega)
 have HNE := Lib.hid (show q0 ≠ q1 ∧ w.heap.size ≤ q0 from by have := hx1.lt; omega)
 have HW1 := Lib.hid hW1; have HW2 := Lib.hid hW2; have HQ0 := Lib.hid hq0; have HQ1 := Lib.hid (show q0 + 1 = q1 from by rw [← hq1, ← hW1, World.size_alloc, hq0])
 obtain ⟨r, hr⟩ : ∃ r, (if er ≠ 0 then (frZero, er) else vOut1 P0 ⟨dst, src, tg, vl, pr, ty, da⟩) = r := ⟨_, rfl⟩
 have HR := Lib.hid hr
 rw [hr]
 unfold encF fcells at HAS ⊢
 dsimp only at HAS ⊢
 clear hx1 hb1 hb2 hW1 hW2 hq0 hq1 h hs hr hA
 go_enter Tryz.func185, Tryz.ntmps185
 go_upto_region 1 with fail
 rw [HW1.out, HW2.out, HQ0.out, HQ1.out]
 obtain ⟨c0, cf0⟩ := CBox.at_ HX.out 0 _ rfl
 obtain ⟨c1, cf1⟩ := CBox.at_ HX.out 1 _ rfl
 obtain ⟨c2, cf2⟩ := CBox.at_ HX.out 2 _ rfl
 obtain ⟨c3, cf3⟩ := CBox.at_ HX.out 3 _ rfl
 obtain ⟨c4, cf4⟩ := CBox.at_ HX.out 4 _ rfl
 obtain ⟨c5, cf5⟩ := CBox.at_ HX.out 5 _ rfl
 obtain ⟨c6, cf6⟩ := CBox.at_ HX.out 6 _ rfl
 go_upto_region 2 with ((with_reducible refine (HAS.out _ HB.out).mono ?_); rintro e w3 ⟨vt, vp, rfl, hi1, hi2, hb3⟩; obtain ⟨ao, an, ac, rfl⟩ := hi1.shape; obtain ⟨bo, bn, bc, rfl⟩ := hi2.shape; have B3 := Lib.hid (HB.out.trans (hb3.mono HB.out.size)); have X3 := Lib.hid (HX.out.below hb3 HX.out.lt); have Z3 := Lib.hid (HZ.out.below hb3 HZ.out.lt); have I3 := Lib.hid (And.intro hi1 hi2); have HS3 := Lib.hid hb3.size; clear hb3 hi1 hi2)
 clear c0 cf0 c1 cf1 c2 cf2 c3 cf3 c4 cf4 c5 cf5 c6 cf6
 obtain ⟨d, hd⟩ : ∃ d, P0.default_ = d := ⟨_, rfl⟩
 have HD := Lib.hid hd
 rw [hd]
 obtain ⟨W4, hW4⟩ : ∃ W, w3.alloc (.cells #[.int .i64 d, .slice ao an ac, .slice bo bn bc] 56) = W := ⟨_, rfl⟩
 obtain ⟨q2, hq2⟩ : ∃ q, w3.heap.size = q := ⟨_, rfl⟩
 have hb4 : Below w3.heap.size w3 W4 := by rw [← hW4]; exact (Below.refl _ _).alloc (Nat.le_refl _) _
 have P4 := Lib.hid (show CBox W4 q2 56 #[.int .i64 d, .slice ao an ac, .slice bo bn bc] from by rw [← hW4]; exact CBox.new _ hq2.symm)
 have B4 := Lib.hid (B3.out.trans (hb4.mono B3.out.size)); have X4 := Lib.hid (X3.out.below hb4 X3.out.lt); have Z4 := Lib.hid (Z3.out.below hb4 Z3.out.lt); have I4 := Lib.hid (And.intro (I3.out.1.mono B4.out) (I3.out.2.mono B4.out)); have I0 := I3
 have HN2 := Lib.hid (show q2 ≠ q0 ∧ q2 ≠ q1 from by have := X3.out.lt; have := Z3.out.lt; omega)
 rw [hW4, hq2]
 clear hW4 hq2 hb4 hd X3 Z3 B3 I3 HX HZ HB HAS HW1 HW2
 obtain ⟨c0, cf0⟩ := CBox.at_ X4.out 0 _ rfl
 obtain ⟨c1, cf1⟩ := CBox.at_ X4.out 1 _ rfl
 obtain ⟨c2, cf2⟩ := CBox.at_ X4.out 2 _ rfl
 obtain ⟨c3, cf3⟩ := CBox.at_ X4.out 3 _ rfl
 obtain ⟨c4, cf4⟩ := CBox.at_ X4.out 4 _ rfl
 obtain ⟨c5, cf5⟩ := CBox.at_ X4.out 5 _ rfl
 obtain ⟨c6, cf6⟩ := CBox.at_ X4.out 6 _ rfl
 obtain ⟨z0, zf0⟩ := CBox.at_ Z4.out 0 _ rfl
 obtain ⟨z1, zf1⟩ := CBox.at_ Z4.out 1 _ rfl
 obtain ⟨z2, zf2⟩ := CBox.at_ Z4.out 2 _ rfl
 obtain ⟨z3, zf3⟩ := CBox.at_ Z4.out 3 _ rfl
 obtain ⟨z4, zf4⟩ := CBox.at_ Z4.out 4 _ rfl
 obtain ⟨z5, zf5⟩ := CBox.at_ Z4.out 5 _ rfl
 obtain ⟨z6, zf6⟩ := CBox.at_ Z4.out 6 _ rfl
 obtain ⟨p0, pf0⟩ := CBox.at_ P4.out 0 _ rfl
 obtain ⟨p1, pf1⟩ := CBox.at_ P4.out 1 _ rfl
 obtain ⟨p2, pf2⟩ := CBox.at_ P4.out 2 _ rfl
 cases q1' : (er != 0)
 · have he : er = 0 := by simpa [bne] using q1'
   subst he
   clear q1'
   cases qv : (vl == 0)
   · have hv0 : vl ≠ 0 := by simpa using qv
     have HNZ := Lib.hid hv0
     clear hv0
     have HCT := Lib.hid (contains_any (.slice ao an ac) P0.tagged vl W4 I4.out.1)
     have HMB := Lib.hid (member_any P0 (.slice ao an ac) (.slice bo bn bc) vl W4 I4.out.1 I4.out.2)
     have HEC := Lib.hid (fun W => encodes_any ⟨dst, src, false, 0, 0, ty, da⟩ W ⟨HFO.out.1, HFO.out.2.1, HFO.out.2.2⟩)
     obtain ⟨t, ht⟩ : ∃ t, P0.tagged.contains vl = t := ⟨_, rfl⟩
     obtain ⟨m, hm⟩ : ∃ m, P0.member vl = m := ⟨_, rfl⟩
     obtain ⟨g, hg⟩ : ∃ g, fineF ⟨dst, src, false, 0, 0, ty, da⟩ = g := ⟨_, rfl⟩
     have HRR := Lib.hid (show r = if t = true then (⟨dst, src, tg, vl, pr, ty, da⟩, 0) else if m = false then (frZero, 6) else if g = true then (⟨dst, src, false, 0, 0, ty, da⟩, 0) else (frZero, 6) from by
      rw [← HR.out, if_neg (fun h => h rfl), ← ht, ← hm, ← hg]
      unfold vOut1
      dsimp only
      rw [if_neg HNZ.out])
     rw [ht] at HCT
     rw [hm, HD.out] at HMB
     rw [hg] at HEC
     unfold encF fcells at HEC
     dsimp only at HEC
     clear ht hm hg
     cases t
     · cases m
       · have HR0 := Lib.hid (show r = (frZero, 6) from by rw [HRR.out, if_neg (by decide), if_pos rfl])
         clear HEC
         go_wp2_with (first | ((with_reducible refine HCT.out.mono ?_); rintro e w5 ⟨rfl, hw5⟩; subst w5) | ((with_reducible refine HMB.out.mono ?_); rintro e w6 ⟨rfl, hb6⟩; have B6 := Lib.hid (B4.out.trans (hb6.mono B4.out.size)); have X6 := Lib.hid (X4.out.below hb6 X4.out.lt); have Z6 := Lib.hid (Z4.out.below hb6 Z4.out.lt); clear hb6 c0 cf0 c1 cf1 c2 cf2 c3 cf3 c4 cf4 c5 cf5 c6 cf6 z0 zf0 z1 zf1 z2 zf2 z3 zf3 z4 zf4 z5 zf5 z6 zf6 p0 pf0 p1 pf1 p2 pf2; obtain ⟨c0, cf0⟩ := CBox.at_ X6.out 0 _ rfl; obtain ⟨c1, cf1⟩ := CBox.at_ X6.out 1 _ rfl; obtain ⟨c2, cf2⟩ := CBox.at_ X6.out 2 _ rfl; obtain ⟨c3, cf3⟩ := CBox.at_ X6.out 3 _ rfl; obtain ⟨c4, cf4⟩ := CBox.at_ X6.out 4 _ rfl; obtain ⟨c5, cf5⟩ := CBox.at_ X6.out 5 _ rfl; obtain ⟨c6, cf6⟩ := CBox.at_ X6.out 6 _ rfl; obtain ⟨z0, zf0⟩ := CBox.at_ Z6.out 0 _ rfl; obtain ⟨z1, zf1⟩ := CBox.at_ Z6.out 1 _ rfl; obtain ⟨z2, zf2⟩ := CBox.at_ Z6.out 2 _ rfl; obtain ⟨z3, zf3⟩ := CBox.at_ Z6.out 3 _ rfl; obtain ⟨z4, zf4⟩ := CBox.at_ Z6.out 4 _ rfl; obtain ⟨z5, zf5⟩ := CBox.at_ Z6.out 5 _ rfl; obtain ⟨z6, zf6⟩ := CBox.at_ Z6.out 6 _ rfl))
         have hz := box7 (cells7s Z6.out (.string ⟨#[]⟩) (.string ⟨#[]⟩) (.bool false) (.int .i64 0) (.int .i64 0) (.int .i64 0) (.string ⟨#[]⟩))
         dsimp only [setsL] at hz
         obtain ⟨r0, r1, r2, r3, r4, r5, r6⟩ := hz
         refine bodyPost_ret (v := .tuple #[.agg #[.string ⟨#[]⟩, .string ⟨#[]⟩, .bool false, .int .i64 0, .int .i64 0, .int .i64 0, .string ⟨#[]⟩], .int .i64 6]) (by simp [results, Tryz.results185, go_sem, r0, r1, r2, r3, r4, r5, r6]) rfl ?_
         rw [HR0.out]
         exact ⟨by rw [enc_zero], setsL_below HLE.out [.string ⟨#[]⟩, .string ⟨#[]⟩, .bool false, .int .i64 0, .int .i64 0, .int .i64 0, .string ⟨#[]⟩] 0 B6.out⟩
       · go_upto_region 10 with (first | ((with_reducible refine HCT.out.mono ?_); rintro e w5 ⟨rfl, hw5⟩; subst w5) | ((with_reducible refine HMB.out.mono ?_); rintro e w6 ⟨rfl, hb6⟩; have B6 := Lib.hid (B4.out.trans (hb6.mono B4.out.size)); have X6 := Lib.hid (X4.out.below hb6 X4.out.lt); have Z6 := Lib.hid (Z4.out.below hb6 Z4.out.lt); clear hb6 c0 cf0 c1 cf1 c2 cf2 c3 cf3 c4 cf4 c5 cf5 c6 cf6 z0 zf0 z1 zf1 z2 zf2 z3 zf3 z4 zf4 z5 zf5 z6 zf6 p0 pf0 p1 pf1 p2 pf2; obtain ⟨c0, cf0⟩ := CBox.at_ X6.out 0 _ rfl; obtain ⟨c1, cf1⟩ := CBox.at_ X6.out 1 _ rfl; obtain ⟨c2, cf2⟩ := CBox.at_ X6.out 2 _ rfl; obtain ⟨c3, cf3⟩ := CBox.at_ X6.out 3 _ rfl; obtain ⟨c4, cf4⟩ := CBox.at_ X6.out 4 _ rfl; obtain ⟨c5, cf5⟩ := CBox.at_ X6.out 5 _ rfl; obtain ⟨c6, cf6⟩ := CBox.at_ X6.out 6 _ rfl; obtain ⟨z0, zf0⟩ := CBox.at_ Z6.out 0 _ rfl; obtain ⟨z1, zf1⟩ := CBox.at_ Z6.out 1 _ rfl; obtain ⟨z2, zf2⟩ := CBox.at_ Z6.out 2 _ rfl; obtain ⟨z3, zf3⟩ := CBox.at_ Z6.out 3 _ rfl; obtain ⟨z4, zf4⟩ := CBox.at_ Z6.out 4 _ rfl; obtain ⟨z5, zf5⟩ := CBox.at_ Z6.out 5 _ rfl; obtain ⟨z6, zf6⟩ := CBox.at_ Z6.out 6 _ rfl))
         go_upto_region 11 with fail
         obtain ⟨W7, hW7⟩ : ∃ W, ((w6.setCell ⟨q0, 2, none⟩ (.bool false)).setCell ⟨q0, 3, none⟩ (.int .i64 0)).setCell ⟨q0, 4, none⟩ (.int .i64 0) = W := ⟨_, rfl⟩
         have X7 := Lib.hid (show CBox W7 q0 48 #[.string (bstr dst), .string (bstr src), .bool false, .int .i64 0, .int .i64 0, .int .i64 ty, .string (bstr da)] from by
          rw [← hW7]
          have h1 : CBox _ q0 48 #[.string (bstr dst), .string (bstr src), .bool false, .int .i64 vl, .int .i64 pr, .int .i64 ty, .string (bstr da)] := X6.out.set 2 (.bool false)
          have h2 : CBox _ q0 48 #[.string (bstr dst), .string (bstr src), .bool false, .int .i64 0, .int .i64 pr, .int .i64 ty, .string (bstr da)] := h1.set 3 (.int .i64 0)
          exact h2.set 4 (.int .i64 0))
         have Z7 := Lib.hid (show CBox W7 q1 48 #[.string ⟨#[]⟩, .string ⟨#[]⟩, .bool false, .int .i64 0, .int .i64 0, .int .i64 0, .string ⟨#[]⟩] from by rw [← hW7]; exact ((Z6.out.far (p := ⟨q0, 2, none⟩) (Ne.symm HNE.out.1) _).far (p := ⟨q0, 3, none⟩) (Ne.symm HNE.out.1) _).far (p := ⟨q0, 4, none⟩) (Ne.symm HNE.out.1) _)
         have B7 := Lib.hid (show Below w.heap.size w W7 from by rw [← hW7]; exact ((B6.out.setCell (p := ⟨q0, 2, none⟩) HNE.out.2 _).setCell (p := ⟨q0, 3, none⟩) HNE.out.2 _).setCell (p := ⟨q0, 4, none⟩) HNE.out.2 _)
         rw [hW7]
         clear hW7 c0 cf0 c1 cf1 c2 cf2 c3 cf3 c4 cf4 c5 cf5 c6 cf6 z0 zf0 z1 zf1 z2 zf2 z3 zf3 z4 zf4 z5 zf5 z6 zf6
         obtain ⟨c0, cf0⟩ := CBox.at_ X7.out 0 _ rfl
         obtain ⟨c1, cf1⟩ := CBox.at_ X7.out 1 _ rfl
         obtain ⟨c2, cf2⟩ := CBox.at_ X7.out 2 _ rfl
         obtain ⟨c3, cf3⟩ := CBox.at_ X7.out 3 _ rfl
         obtain ⟨c4, cf4⟩ := CBox.at_ X7.out 4 _ rfl
         obtain ⟨c5, cf5⟩ := CBox.at_ X7.out 5 _ rfl
         obtain ⟨c6, cf6⟩ := CBox.at_ X7.out 6 _ rfl
         obtain ⟨z0, zf0⟩ := CBox.at_ Z7.out 0 _ rfl
         obtain ⟨z1, zf1⟩ := CBox.at_ Z7.out 1 _ rfl
         obtain ⟨z2, zf2⟩ := CBox.at_ Z7.out 2 _ rfl
         obtain ⟨z3, zf3⟩ := CBox.at_ Z7.out 3 _ rfl
         obtain ⟨z4, zf4⟩ := CBox.at_ Z7.out 4 _ rfl
         obtain ⟨z5, zf5⟩ := CBox.at_ Z7.out 5 _ rfl
         obtain ⟨z6, zf6⟩ := CBox.at_ Z7.out 6 _ rfl
         cases g
         · have HR0 := Lib.hid (show r = (frZero, 6) from by rw [HRR.out, if_neg (by decide), if_neg (by decide), if_neg (by decide)])
           go_wp2_with ((with_reducible refine (HEC.out _).mono ?_); rintro e w8 ⟨rfl, hb8⟩; have B8 := Lib.hid (B7.out.trans (hb8.mono B7.out.size)); have X8 := Lib.hid (X7.out.below hb8 X7.out.lt); have Z8 := Lib.hid (Z7.out.below hb8 Z7.out.lt); clear hb8 c0 cf0 c1 cf1 c2 cf2 c3 cf3 c4 cf4 c5 cf5 c6 cf6 z0 zf0 z1 zf1 z2 zf2 z3 zf3 z4 zf4 z5 zf5 z6 zf6; obtain ⟨c0, cf0⟩ := CBox.at_ X8.out 0 _ rfl; obtain ⟨c1, cf1⟩ := CBox.at_ X8.out 1 _ rfl; obtain ⟨c2, cf2⟩ := CBox.at_ X8.out 2 _ rfl; obtain ⟨c3, cf3⟩ := CBox.at_ X8.out 3 _ rfl; obtain ⟨c4, cf4⟩ := CBox.at_ X8.out 4 _ rfl; obtain ⟨c5, cf5⟩ := CBox.at_ X8.out 5 _ rfl; obtain ⟨c6, cf6⟩ := CBox.at_ X8.out 6 _ rfl; obtain ⟨z0, zf0⟩ := CBox.at_ Z8.out 0 _ rfl; obtain ⟨z1, zf1⟩ := CBox.at_ Z8.out 1 _ rfl; obtain ⟨z2, zf2⟩ := CBox.at_ Z8.out 2 _ rfl; obtain ⟨z3, zf3⟩ := CBox.at_ Z8.out 3 _ rfl; obtain ⟨z4, zf4⟩ := CBox.at_ Z8.out 4 _ rfl; obtain ⟨z5, zf5⟩ := CBox.at_ Z8.out 5 _ rfl; obtain ⟨z6, zf6⟩ := CBox.at_ Z8.out 6 _ rfl)
           have hz := box7 (cells7s Z8.out (.string ⟨#[]⟩) (.string ⟨#[]⟩) (.bool false) (.int .i64 0) (.int .i64 0) (.int .i64 0) (.string ⟨#[]⟩))
           dsimp only [setsL] at hz
           obtain ⟨r0, r1, r2, r3, r4, r5, r6⟩ := hz
           refine bodyPost_ret (v := .tuple #[.agg #[.string ⟨#[]⟩, .string ⟨#[]⟩, .bool false, .int .i64 0, .int .i64 0, .int .i64 0, .string ⟨#[]⟩], .int .i64 6]) (by simp [results, Tryz.results185, go_sem, r0, r1, r2, r3, r4, r5, r6]) rfl ?_
           rw [HR0.out]
           exact ⟨by rw [enc_zero], setsL_below HLE.out [.string ⟨#[]⟩, .string ⟨#[]⟩, .bool false, .int .i64 0, .int .i64 0, .int .i64 0, .string ⟨#[]⟩] 0 B8.out⟩
         · have HR0 := Lib.hid (show r = (⟨dst, src, false, 0, 0, ty, da⟩, 0) from by rw [HRR.out, if_neg (by decide), if_neg (by decide), if_pos rfl])
           go_wp2_with ((with_reducible refine (HEC.out _).mono ?_); rintro e w8 ⟨rfl, hb8⟩; have B8 := Lib.hid (B7.out.trans (hb8.mono B7.out.size)); have X8 := Lib.hid (X7.out.below hb8 X7.out.lt); have Z8 := Lib.hid (Z7.out.below hb8 Z7.out.lt); clear hb8 c0 cf0 c1 cf1 c2 cf2 c3 cf3 c4 cf4 c5 cf5 c6 cf6 z0 zf0 z1 zf1 z2 zf2 z3 zf3 z4 zf4 z5 zf5 z6 zf6; obtain ⟨c0, cf0⟩ := CBox.at_ X8.out 0 _ rfl; obtain ⟨c1, cf1⟩ := CBox.at_ X8.out 1 _ rfl; obtain ⟨c2, cf2⟩ := CBox.at_ X8.out 2 _ rfl; obtain ⟨c3, cf3⟩ := CBox.at_ X8.out 3 _ rfl; obtain ⟨c4, cf4⟩ := CBox.at_ X8.out 4 _ rfl; obtain ⟨c5, cf5⟩ := CBox.at_ X8.out 5 _ rfl; obtain ⟨c6, cf6⟩ := CBox.at_ X8.out 6 _ rfl; obtain ⟨z0, zf0⟩ := CBox.at_ Z8.out 0 _ rfl; obtain ⟨z1, zf1⟩ := CBox.at_ Z8.out 1 _ rfl; obtain ⟨z2, zf2⟩ := CBox.at_ Z8.out 2 _ rfl; obtain ⟨z3, zf3⟩ := CBox.at_ Z8.out 3 _ rfl; obtain ⟨z4, zf4⟩ := CBox.at_ Z8.out 4 _ rfl; obtain ⟨z5, zf5⟩ := CBox.at_ Z8.out 5 _ rfl; obtain ⟨z6, zf6⟩ := CBox.at_ Z8.out 6 _ rfl)
           have hz := box7 (cells7s Z8.out (.string (bstr dst)) (.string (bstr src)) (.bool false) (.int .i64 0) (.int .i64 0) (.int .i64 ty) (.string (bstr da)))
           dsimp only [setsL] at hz
           obtain ⟨r0, r1, r2, r3, r4, r5, r6⟩ := hz
           refine bodyPost_ret (v := .tuple #[.agg #[.string (bstr dst), .string (bstr src), .bool false, .int .i64 0, .int .i64 0, .int .i64 ty, .string (bstr da)], .int .i64 0]) (by simp [results, Tryz.results185, go_sem, r0, r1, r2, r3, r4, r5, r6]) rfl ?_
           rw [HR0.out]
           exact ⟨rfl, setsL_below HLE.out [.string (bstr dst), .string (bstr src), .bool false, .int .i64 0, .int .i64 0, .int .i64 ty, .string (bstr da)] 0 B8.out⟩
     · have HR0 := Lib.hid (show r = (⟨dst, src, tg, vl, pr, ty, da⟩, 0) from by rw [HRR.out, if_pos rfl])
       clear HEC HMB
       go_wp2_with ((with_reducible refine HCT.out.mono ?_); rintro e w5 ⟨rfl, hw5⟩; subst w5)
       have hz := box7 (cells7s Z4.out (.string (bstr dst)) (.string (bstr src)) (.bool tg) (.int .i64 vl) (.int .i64 pr) (.int .i64 ty) (.string (bstr da)))
       dsimp only [setsL] at hz
       obtain ⟨r0, r1, r2, r3, r4, r5, r6⟩ := hz
       refine bodyPost_ret (v := .tuple #[.agg #[.string (bstr dst), .string (bstr src), .bool tg, .int .i64 vl, .int .i64 pr, .int .i64 ty, .string (bstr da)], .int .i64 0]) (by simp [results, Tryz.results185, go_sem, r0, r1, r2, r3, r4, r5, r6]) rfl ?_
       rw [HR0.out]
       exact ⟨rfl, setsL_below HLE.out [.string (bstr dst), .string (bstr src), .bool tg, .int .i64 vl, .int .i64 pr, .int .i64 ty, .string (bstr da)] 0 B4.out⟩
   · have hv0 : vl = 0 := by simpa using qv
     have HR0 := Lib.hid (show r = (frZero, 1) from by rw [← HR.out, if_neg (fun h => h rfl)]; unfold vOut1; dsimp only; rw [if_pos hv0])
     clear hv0
     go_wp2_with fail
     have hz := box7 (cells7s Z4.out (.string ⟨#[]⟩) (.string ⟨#[]⟩) (.bool false) (.int .i64 0) (.int .i64 0) (.int .i64 0) (.string ⟨#[]⟩))
     dsimp only [setsL] at hz
     obtain ⟨r0, r1, r2, r3, r4, r5, r6⟩ := hz
     refine bodyPost_ret (v := .tuple #[.agg #[.string ⟨#[]⟩, .string ⟨#[]⟩, .bool false, .int .i64 0, .int .i64 0, .int .i64 0, .string ⟨#[]⟩], .int .i64 1]) (by simp [results, Tryz.results185, go_sem, r0, r1, r2, r3, r4, r5, r6]) rfl ?_
     rw [HR0.out]
     exact ⟨by rw [enc_zero], setsL_below HLE.out [.string ⟨#[]⟩, .string ⟨#[]⟩, .bool false, .int .i64 0, .int .i64 0, .int .i64 0, .string ⟨#[]⟩] 0 B4.out⟩
 · have HR0 := Lib.hid (show r = (frZero, er) from by rw [← HR.out, if_pos (by intro h; rw [h] at q1'; cases q1')])
   go_wp2_with fail
   have hz := box7 (cells7s Z4.out (.string ⟨#[]⟩) (.string ⟨#[]⟩) (.bool false) (.int .i64 0) (.int .i64 0) (.int .i64 0) (.string ⟨#[]⟩))
   dsimp only [setsL] at hz
   obtain ⟨r0, r1, r2, r3, r4, r5, r6⟩ := hz
   refine bodyPost_ret (v := .tuple #[.agg #[.string ⟨#[]⟩, .string ⟨#[]⟩, .bool false, .int .i64 0, .int .i64 0, .int .i64 0, .string ⟨#[]⟩], .int .i64 er]) (by simp [results, Tryz.results185, go_sem, r0, r1, r2, r3, r4, r5, r6]) rfl ?_
   rw [HR0.out]
   exact ⟨by rw [enc_zero], setsL_below HLE.out [.string ⟨#[]⟩, .string ⟨#[]⟩, .bool false, .int .i64 0, .int .i64 0, .int .i64 0, .string ⟨#[]⟩] 0 B4.out⟩

theorem infoIntV : (Tryz.prog.info? 3).map (fun i => (i.zero, i.size, i.bytes)) = some (some (.int .i64 0), 1, 8) := by kernel_rfl
def memTo (l : List Pt) (v : Int) (k : Nat) : List Int := ((List.range k).filter fun i => (l.getD i default).member v).map Int.ofNat
theorem memTo_succ {l : List Pt} {v : Int} {k : Nat} (h : k < l.length) : memTo l v (k + 1) = memTo l v k ++ (if l[k].member v then [(k : Int)] else []) := by
 unfold memTo
 have e : l.getD k default = l[k] := by simp [List.getD_eq_getElem?_getD, h]
 rw [List.range_succ, List.filter_append, List.map_append, List.filter_cons, e]
 cases l[k].member v <;> rfl
theorem memTo_len (l : List Pt) (v : Int) (k : Nat) : (memTo l v k).length ≤ k := by
 unfold memTo
 rw [List.length_map]
 exact Nat.le_trans (List.length_filter_le _ _) (by simp)
theorem memTo_wf (l : List Pt) (v : Int) (k : Nat) (hk : k ≤ 1000000) : ∀ x ∈ memTo l v k, (Lit.int .i64 x).wf = true := fun x hx => by
 unfold memTo at hx
 obtain ⟨i, hi, rfl⟩ := List.mem_map.1 hx
 have := List.mem_range.1 (List.mem_filter.1 hi).1
 exact WalkArith.wf_i64 (n := (i : Int)) (by omega)
def RetIs (w : World) (L : List Int) (e : Ending) (w' : World) : Prop := ∃ v, e = .returned v ∧ Ints w' v L ∧ (∀ j, v.ownBlock = some j → w.heap.size ≤ j) ∧ Below w.heap.size w w'

set_option maxHeartbeats 2000000 in
theorem members_any (R : Nat → Prop) (v : Value) (L : List Pt) (x : Int) (w : World) (h : Pts R w v L) :
 Calls Tryz.prog 188 #[v, .int .i64 x] w (RetIs w (vMembers L x)) := by
 obtain ⟨i0, hi, hz0, hz1, hz2⟩ := info_parts infoIntV
 obtain ⟨b, off, hm, hlen, hidx, hc⟩ := h.facts
 have HM := Lib.hid hm
 clear h
 go_enter Tryz.func188, Tryz.ntmps188
 go_wp2_with fail
 go_loopw [5, 6, 7, 10] (fun r _ _ i wr => ∃ k : Nat, k ≤ L.length ∧ i = .int .i64 (k : Nat) ∧ wr.ownsRow w.heap.size 3 1 r (memTo L x k).length ((memTo L x k).map (Value.int .i64)) ∧ Below w.heap.size w wr) (fun _ _ _ i _ => L.length - (intOf i).toNat)
 case atStart => exact ⟨0, Nat.zero_le _, rfl, World.ownsRow_nil _ _ _ _, Below.refl _ _⟩
 case round =>
  obtain ⟨k, hk, rfl, hrow, hb⟩ := hrel
  by_cases hlt : k < L.length
  · have HS := Lib.hid (memTo_succ (v := x) hlt)
    have HL := Lib.hid (memTo_len L x k)
    obtain ⟨hl, vt, vp, c0, c1, c2, i1, i2⟩ := hc k hlt
    have s0 := (hb.cell (p := ⟨b, off + k * 3, none⟩) hl).trans c0
    have s1 := (hb.cell (p := ⟨b, off + k * 3 + 1, none⟩) hl).trans c1
    have s2 := (hb.cell (p := ⟨b, off + k * 3 + 2, none⟩) hl).trans c2
    have hp := hidx k hlt
    obtain ⟨P0, hP0⟩ : ∃ P0, L[k] = P0 := ⟨_, rfl⟩
    rw [hP0] at HS s0 i1 i2
    have hb1 : Below wr.heap.size wr (wr.alloc (.cells #[.int .i64 P0.default_, vt, vp] 56)) := (Below.refl _ _).alloc (Nat.le_refl _) _
    have HC := Lib.hid (member_any P0 vt vp x (wr.alloc (.cells #[.int .i64 P0.default_, vt, vp] 56)) ((i1.mono hb).mono hb1) ((i2.mono hb).mono hb1))
    have HB := Lib.hid (hb.trans (hb1.mono hb.size))
    have HRW := Lib.hid (gown_bel hrow hb1)
    obtain ⟨ao, an, ac, rfl⟩ := i1.shape
    obtain ⟨bo, bn, bc, rfl⟩ := i2.shape
    obtain ⟨d, hd⟩ : ∃ d, P0.default_ = d := ⟨_, rfl⟩
    obtain ⟨f, hf⟩ : ∃ f, P0.member x = f := ⟨_, rfl⟩
    rw [hd] at s0 HC HB HRW
    rw [hf] at HC HS
    clear hidx hc hrow hb hb1 c0 c1 c2 i1 i2 hl hd hf hlen hP0
    cases f
    · have HE := Lib.hid (show memTo L x (k + 1) = memTo L x k from by rw [HS.out]; simp)
      go_wp2_with ((with_reducible refine HC.out.mono ?_); rintro e w2 ⟨rfl, hb2⟩; have HB2 := Lib.hid (HB.out.trans (hb2.mono HB.out.size)); have HR2 := Lib.hid (gown_bel HRW.out hb2); clear hb2)
      go_roundw
      case rel => exact ⟨k + 1, by omega, by go_num, by rw [HE.out]; exact HR2.out, HB2.out⟩
      case measure => simp [intOf]; omega
    · have HE := Lib.hid (show memTo L x (k + 1) = memTo L x k ++ [(k : Int)] from by rw [HS.out]; simp)
      obtain ⟨M, hM⟩ : ∃ M, memTo L x k = M := ⟨_, rfl⟩
      rw [hM] at HE HL HRW
      have HM2 := Lib.hid hM
      clear hM
      have hc3 : M.length + 1 ≤ maxLen := by have := HL.out; have := HM.out; unfold maxLen; omega
      have hc4 : (M.length + 1) * 8 ≤ 140737488355328 := by have := HL.out; have := HM.out; omega
      have HC3 := Lib.hid hc3; have HC4 := Lib.hid hc4
      clear hc3 hc4
      go_wp2_with (first | ((with_reducible refine HC.out.mono ?_); rintro e w2 ⟨rfl, hb2⟩; have HB2 := Lib.hid (HB.out.trans (hb2.mono HB.out.size)); have HR2 := Lib.hid (gown_bel HRW.out hb2); have HSZ := Lib.hid HB2.out.size; clear hb2) | (at_builtin; refine wpList_append_own _ rfl _ _ 23 rfl w.heap.size 3 i0 (.int .i64 0) 1 8 Tryz.underlying23 hi hz0 hz1 hz2 rfl (by decide) _ _ _ rfl (HR2.out.alloc _) ⟨w2.heap.size, 0, none⟩ 1 1 [.int .i64 (k : Nat)] rfl rfl (cell_one_new _ _ _) (ints_oneCell .i64 [(k : Int)]) HC3.out HC4.out (by have := HSZ.out; simp; omega) ?_; intro v' w3 hown3 hg3 _; have HO3 := Lib.hid hown3; have HB3 := Lib.hid (below_own (HB2.out.alloc HSZ.out (.cells #[.int .i64 (k : Nat)] 3)) (HR2.out.alloc _) (Nat.le_refl _) (by have := HSZ.out; simp; omega) hg3); clear hown3 hg3))
      go_roundw
      case rel => exact ⟨k + 1, by omega, by go_num, by rw [HE.out, List.length_append, List.map_append]; exact HO3.out, HB3.out⟩
      case measure => simp [intOf]; omega
  · obtain rfl : k = L.length := by omega
    have HE := Lib.hid (show memTo L x L.length = vMembers L x from rfl)
    have HB := Lib.hid hb
    rw [HE.out] at hrow
    have HV := Lib.hid (show (vMembers L x).length ≤ 17592186044416 ∧ ∀ y ∈ vMembers L x, (Lit.int .i64 y).wf = true from by
     rw [← HE.out]
     exact ⟨by have := memTo_len L x L.length; have := HM.out; omega, memTo_wf L x L.length HM.out⟩)
    have HRW := Lib.hid hrow
    clear hidx hc hrow hb hlen
    go_wp2_with fail
    go_ret
    exact ⟨_, rfl, Ints.own HRW.out HV.out.1 HV.out.2, fun j hj => (HRW.out.lt j hj).1, HB.out⟩
end Go.Proofs.YthcdppppppgckaaGreatDoor
