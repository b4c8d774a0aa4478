/- Texts joined into one file: ULaw, ULaw2. -/
import Derived.Test.YtpibmjkbebkilaaGreatW31
import Derived.Test.YtpibmjkbebkilaaGreatW17
import Derived.Test.YtpibmjkbebkilaaGreatW27

namespace Go.Proofs.YtpibmjkbebkilaaGreat
open Go.RowKit Go.Lib Go.Maps Go.Sort
set_option maxRecDepth 20000
set_option maxRecDepth 20000

set_option maxHeartbeats 8000000 in
theorem holds_yes (p b o q B : Nat) (room M L : Int) (k : Nat) (w : World) (h : Sc w p b o q B room M L k) (hk : k ≤ 1001) :
 Calls Tryz.prog 8 #[.pointer (some ⟨p, 0, none⟩), .pointer (some ⟨q, 0, none⟩)] w fun e w' => e = .returned (.bool true) ∧ Below w.heap.size w w' := by
 obtain ⟨n, m, F, O, Q, S, h1, h2, h3, h4, h5, h6, h7, h8, h9⟩ := h
 obtain ⟨K, hK⟩ : ∃ K, (Q.map Prod.fst).map Prod.fst = K := ⟨_, rfl⟩
 have HKE := Lib.hid hK
 have HKL := Lib.hid (show K.length = Q.length from by rw [← hK]; simp)
 have h7k := h7.keys
 rw [hK] at h7k
 have HKS := Lib.hid (keys_fn (some ⟨p, 0, none⟩) n F K w ⟨h7k, .inr ⟨p, b, o, m, room, M, L, O, rfl, h5⟩⟩ (by omega))
 clear h7k hK
 have HT := Lib.hid h5; have HK := Lib.hid h6; have HR := Lib.hid h7
 have hQ : Q.length ≤ 1001 := by omega
 clear h1 h2 h4 h5 h6 h7 h8 h9 hk h3
 go_enter Tryz.func8, Tryz.ntmps8
 go_upto_region 2 with ((with_reducible refine HKS.out.mono ?_); rintro e w1 ⟨u, rfl, hu, _, hb1⟩; have U1 := Lib.hid hu; have HB1 := Lib.hid hb1; clear hu hb1)
 have T1 := Lib.hid (HT.out.mono HB1.out); have K1 := Lib.hid (HK.out.below HB1.out)
 obtain ⟨uo, uc, hus⟩ := U1.out.shape
 rw [HKL.out] at hus
 subst hus
 obtain ⟨ub, uf, hul, hui, hur⟩ := U1.out.facts
 obtain ⟨v0, u0, hbox, _, hrows, hok, _⟩ := K1.out
 obtain ⟨gb, hlen, hidx, hc, hgb⟩ := rfacts hrows
 have HC := Lib.hid hc; have HIX := Lib.hid hidx; have HBX := Lib.hid hbox; have HOK := Lib.hid hok; have HGB := Lib.hid hgb; have HUR := Lib.hid hur; have HUI := Lib.hid hui
 obtain ⟨x3, _⟩ := hbox.at_ 3 _ rfl
 rw [HKL.out] at hul
 clear hbox hrows hok hidx hc hgb hur hui HT HK HKS
 go_wp2_with fail
 go_loopw [6] (fun i wr => ∃ j, j ≤ Q.length ∧ i = .int .i64 (j : Nat) ∧ Below w1.heap.size w1 wr) (fun i _ => Q.length - (intOf i).toNat)
 case atStart => exact ⟨0, Nat.zero_le _, rfl, Below.refl _ _⟩
 case round =>
  obtain ⟨j, hj, rfl, hb⟩ := hrel
  have HB := Lib.hid hb
  obtain ⟨x3, _⟩ := (HBX.out.below hb HBX.out.lt).at_ 3 _ rfl
  clear hb
  by_cases hlt : j < Q.length
  · obtain ⟨_, hgl, _⟩ := HGB.out j hlt
    obtain ⟨c0, c1, c2, c3, c4, c5⟩ := HC.out j hlt
    have hp := HIX.out j hlt
    have hlt2 : j < K.length := by rw [HKL.out]; exact hlt
    obtain ⟨hul2, k0, k1, k2⟩ := HUR.out j hlt2
    have hpu := HUI.out j hlt2
    have hgk : K.getD j default = Q[j].1.1 := by rw [← HKE.out]; simp [List.getD_eq_getElem?_getD, hlt]
    rw [hgk] at k0 k1 k2
    obtain ⟨hT, hkey, _⟩ := HOK.out Q[j] (List.getElem_mem hlt)
    have hF : F Q[j].1.1 = some Q[j].1.2 := by
     have := HR.out.at_ (i := j) (by simpa using hlt)
     rw [List.getElem_map] at this
     exact this
    have HST := Lib.hid (fun W TW => tstate_any p b o n m room M L F O Q[j].1.1 W TW hkey)
    rw [show oldS F Q[j].1.1 = Q[j].1.2 from by unfold oldS; rw [hF]; rfl, hF] at HST
    obtain ⟨⟨⟨⟨rv, rg, rp⟩, ⟨re, ra, rl⟩⟩, ru⟩, hst⟩ : ∃ x : QRow18, x = Q[j] := ⟨_, rfl⟩
    rw [← hst] at c0 c1 c2 c3 c4 c5 hT k0 k1 k2 HST
    dsimp only at c0 c1 c2 c3 c4 c5 hT k0 k1 k2 HST
    unfold RetStB encS encT at HST
    dsimp only [Option.isSome] at HST
    obtain ⟨ao, cap, rfl⟩ := hT.shape
    have d0 := (HB.out.cell (p := ⟨gb, j * 6, none⟩) hgl).trans c0
    have d1 := (HB.out.cell (p := ⟨gb, j * 6 + 1, none⟩) hgl).trans c1
    have d2 := (HB.out.cell (p := ⟨gb, j * 6 + 2, none⟩) hgl).trans c2
    have d3 := (HB.out.cell (p := ⟨gb, j * 6 + 3, none⟩) hgl).trans c3
    have d4 := (HB.out.cell (p := ⟨gb, j * 6 + 4, none⟩) hgl).trans c4
    have d5 := (HB.out.cell (p := ⟨gb, j * 6 + 5, none⟩) hgl).trans c5
    have HTM := Lib.hid hT
    have HK0 := Lib.hid (And.intro hul2 (And.intro k0 (And.intro k1 k2)))
    have HPU := Lib.hid hpu
    clear c0 c1 c2 c3 c4 c5 hT hst hgl hul2 k0 k1 k2 hgk hF hkey hpu
    go_upto_region 8 with fail
    obtain ⟨W2, hW2⟩ : ∃ W, wr.alloc (.cells #[.int .i64 rv, .string (bstr rg), .int .i64 rp, .bool re, .int .i64 ra, .slice ao rl.length cap] 73) = W := ⟨_, rfl⟩
    obtain ⟨rb, hrb⟩ : ∃ b, wr.heap.size = b := ⟨_, rfl⟩
    have hb2 : Below wr.heap.size wr W2 := by rw [← hW2]; exact (Below.refl _ _).alloc (Nat.le_refl _) _
    have XR := Lib.hid (show CBox W2 rb 73 #[.int .i64 rv, .string (bstr rg), .int .i64 rp, .bool re, .int .i64 ra, .slice ao rl.length cap] from by rw [← hW2]; exact CBox.new _ hrb.symm)
    have B2 := Lib.hid (HB.out.trans (hb2.mono HB.out.size))
    rw [hW2, hrb]
    have HS2 := Lib.hid (HST.out W2 (T1.out.mono B2.out))
    obtain ⟨hul2, k0, k1, k2⟩ := HK0.out
    have y0 := (B2.out.cell (p := ⟨ub, uf + j * 3, none⟩) hul2).trans k0
    have y1 := (B2.out.cell (p := ⟨ub, uf + j * 3 + 1, none⟩) hul2).trans k1
    have y2 := (B2.out.cell (p := ⟨ub, uf + j * 3 + 2, none⟩) hul2).trans k2
    have hpu := HPU.out
    clear hW2 hrb hb2 d0 d1 d2 d3 d4 d5 x3 hp k0 k1 k2 hul2
    go_upto_region 9 with ((with_reducible refine HS2.out.mono ?_); rintro e w3 ⟨sv, rfl, hs, hb3⟩; obtain ⟨vo, vc, rfl⟩ := hs.shape; have H3 := Lib.hid (And.intro hs hb3); clear hs hb3)
    obtain ⟨W4, hW4⟩ : ∃ W, w3.alloc (.cells #[.bool re, .int .i64 ra, .slice vo rl.length vc] 71) = W := ⟨_, rfl⟩
    obtain ⟨sb, hsb⟩ : ∃ b, w3.heap.size = b := ⟨_, rfl⟩
    have hb4 : Below w3.heap.size w3 W4 := by rw [← hW4]; exact (Below.refl _ _).alloc (Nat.le_refl _) _
    have XS := Lib.hid (show CBox W4 sb 71 #[.bool re, .int .i64 ra, .slice vo rl.length vc] from by rw [← hW4]; exact CBox.new _ hsb.symm)
    have h24 := H3.out.2.trans (hb4.mono H3.out.2.size)
    have XR4 := Lib.hid (XR.out.below h24 XR.out.lt)
    have TS4 := Lib.hid (H3.out.1.mono hb4)
    have B4 := Lib.hid (B2.out.trans (h24.mono B2.out.size))
    rw [hW4, hsb]
    clear hW4 hsb hb4 h24 y0 y1 y2 HS2 H3 XR
    obtain ⟨Z, hZ⟩ : ∃ W, W4.drew = W := ⟨_, rfl⟩
    have hbz : Below W4.heap.size W4 Z := by rw [← hZ]; exact Below.drew (Below.refl _ _)
    have XSZ := Lib.hid (XS.out.below hbz XS.out.lt); have XRZ := Lib.hid (XR4.out.below hbz XR4.out.lt); have HZ := Lib.hid hZ
    have BZ := Lib.hid (B4.out.trans (hbz.mono B4.out.size))
    have HSM := Lib.hid (tsame_yes re ra _ _ rl Z (TS4.out.mono hbz) (HTM.out.mono BZ.out))
    have HF := Lib.hid (show ∀ wq, Below Z.heap.size Z wq → wq.cell? ⟨ub, uf + j * 3, none⟩ = some (.int .i64 rv) ∧ wq.cell? ⟨ub, uf + j * 3 + 1, none⟩ = some (.string (bstr rg)) ∧ wq.cell? ⟨ub, uf + j * 3 + 2, none⟩ = some (.int .i64 rp) ∧
     wq.cell? ⟨rb, 0, none⟩ = some (.int .i64 rv) ∧ wq.cell? ⟨rb, 1, none⟩ = some (.string (bstr rg)) ∧ wq.cell? ⟨rb, 2, none⟩ = some (.int .i64 rp) ∧ wq.cell? ⟨rb, 3, none⟩ = some (.bool re) ∧ wq.cell? ⟨rb, 4, none⟩ = some (.int .i64 ra) ∧ wq.cell? ⟨rb, 5, none⟩ = some (.slice ao rl.length cap) ∧
     wq.cell? ⟨sb, 0, none⟩ = some (.bool re) ∧ wq.cell? ⟨sb, 1, none⟩ = some (.int .i64 ra) ∧ wq.cell? ⟨sb, 2, none⟩ = some (.slice vo rl.length vc) from fun wq hq => by
     obtain ⟨hul2, k0, k1, k2⟩ := HK0.out
     have hq1 := BZ.out.trans (hq.mono BZ.out.size)
     have a := XRZ.out.below hq XRZ.out.lt
     have c := XSZ.out.below hq XSZ.out.lt
     exact ⟨(hq1.cell (p := ⟨ub, uf + j * 3, none⟩) hul2).trans k0, (hq1.cell (p := ⟨ub, uf + j * 3 + 1, none⟩) hul2).trans k1, (hq1.cell (p := ⟨ub, uf + j * 3 + 2, none⟩) hul2).trans k2, (a.at_ 0 _ rfl).1, (a.at_ 1 _ rfl).1, (a.at_ 2 _ rfl).1, (a.at_ 3 _ rfl).1, (a.at_ 4 _ rfl).1, (a.at_ 5 _ rfl).1, (c.at_ 0 _ rfl).1, (c.at_ 1 _ rfl).1, (c.at_ 2 _ rfl).1⟩)
    clear hZ hbz XS XR4 TS4
    refine wp_region_held_drew (S := fun W' => Below Z.heap.size Z W') (by kernel_rfl) (by rw [HZ.out]; exact Below.refl _ _) (fun hHeld => ?_)
    rw [HZ.out] at hHeld ⊢
    refine tkL 0 (v := ?_) rfl (by kernel_rfl) (fun _ _ _ => id) (Or.inl ⟨by rfl, ?_⟩) (by assumption) ?_; rotate_left; (focus (intro wq hSq; have f := HF.out wq hSq; go_simp <;> with_reducible rfl)); simp only [Act.put, pA, pB, pC]
    refine tkL 1 (v := ?_) rfl (by kernel_rfl) (fun _ _ _ => id) (Or.inl ⟨by rfl, ?_⟩) (by assumption) ?_; rotate_left; (focus (intro wq hSq; have f := HF.out wq hSq; go_simp <;> with_reducible rfl)); simp only [Act.put, pA, pB, pC]
    refine tkL 2 (v := ?_) rfl (by kernel_rfl) (fun _ _ _ => id) (Or.inl ⟨by rfl, ?_⟩) (by assumption) ?_; rotate_left; (focus (intro wq hSq; have f := HF.out wq hSq; go_simp <;> with_reducible rfl)); simp only [Act.put, pA, pB, pC]
    refine tkL 3 (v := ?_) rfl (by kernel_rfl) (fun _ _ _ => id) (Or.inl ⟨by rfl, ?_⟩) (by assumption) ?_; rotate_left; (focus (intro wq hSq; have f := HF.out wq hSq; go_simp <;> with_reducible rfl)); simp only [Act.put, pA, pB, pC]
    refine tkL 4 (v := ?_) rfl (by kernel_rfl) (fun _ _ _ => id) (Or.inl ⟨by rfl, ?_⟩) (by assumption) ?_; rotate_left; (focus (intro wq hSq; have f := HF.out wq hSq; go_simp <;> with_reducible rfl)); simp only [Act.put, pA, pB, pC]
    refine tkL 5 (v := ?_) rfl (by kernel_rfl) (fun _ _ _ => id) (Or.inl ⟨by rfl, ?_⟩) (by assumption) ?_; rotate_left; (focus (intro wq hSq; have f := HF.out wq hSq; go_simp <;> with_reducible rfl)); simp only [Act.put, pA, pB, pC]
    refine tkL 6 (v := ?_) rfl (by kernel_rfl) (fun _ _ _ => id) (Or.inl ⟨by rfl, ?_⟩) (by assumption) ?_; rotate_left; (focus (intro wq hSq; have f := HF.out wq hSq; go_simp <;> with_reducible rfl)); simp only [Act.put, pA, pB, pC]
    refine tkL 7 (v := ?_) rfl (by kernel_rfl) (fun _ _ _ => id) (Or.inl ⟨by rfl, ?_⟩) (by assumption) ?_; rotate_left; (focus (intro wq hSq; have f := HF.out wq hSq; go_simp <;> with_reducible rfl)); simp only [Act.put, pA, pB, pC]
    refine tkL 8 (v := ?_) rfl (by kernel_rfl) (fun _ _ _ => id) (Or.inl ⟨by rfl, ?_⟩) (by assumption) ?_; rotate_left; (focus (intro wq hSq; have f := HF.out wq hSq; go_simp <;> with_reducible rfl)); simp only [Act.put, pA, pB, pC]
    refine tkL 9 (v := ?_) rfl (by kernel_rfl) (fun _ _ _ => id) (Or.inl ⟨by rfl, ?_⟩) (by assumption) ?_; rotate_left; (focus (intro wq hSq; have f := HF.out wq hSq; go_simp <;> with_reducible rfl)); simp only [Act.put, pA, pB, pC]
    refine tkL 10 (v := ?_) rfl (by kernel_rfl) (fun _ _ _ => id) (Or.inl ⟨by rfl, ?_⟩) (by assumption) ?_; rotate_left; (focus (intro wq hSq; have f := HF.out wq hSq; go_simp <;> with_reducible rfl)); simp only [Act.put, pA, pB, pC]
    refine tkL 11 (v := ?_) rfl (by kernel_rfl) (fun _ _ _ => id) (Or.inl ⟨by rfl, ?_⟩) (by assumption) ?_; rotate_left; (focus (intro wq hSq; have f := HF.out wq hSq; go_simp <;> with_reducible rfl)); simp only [Act.put, pA, pB, pC]
    refine tkL 12 (v := ?_) rfl (by kernel_rfl) (fun _ _ _ => id) (Or.inl ⟨by rfl, ?_⟩) (by assumption) ?_; rotate_left; (focus (intro wq hSq; have f := HF.out wq hSq; go_simp <;> with_reducible rfl)); simp only [Act.put, pA, pB, pC]
    refine tkL 13 (v := ?_) rfl (by kernel_rfl) (fun _ _ _ => id) (Or.inl ⟨by rfl, ?_⟩) (by assumption) ?_; rotate_left; (focus (intro wq hSq; have f := HF.out wq hSq; go_simp <;> with_reducible rfl)); simp only [Act.put, pA, pB, pC]
    refine tkL 14 (v := ?_) rfl (by kernel_rfl) (fun _ _ _ => id) (Or.inl ⟨by rfl, ?_⟩) (by assumption) ?_; rotate_left; (focus (intro wq hSq; have f := HF.out wq hSq; go_simp <;> with_reducible rfl)); simp only [Act.put, pA, pB, pC]
    refine tkL 15 (v := ?_) rfl (by kernel_rfl) (fun _ _ _ => id) (Or.inl ⟨by rfl, ?_⟩) (by assumption) ?_; rotate_left; (focus (intro wq hSq; have f := HF.out wq hSq; go_simp <;> with_reducible rfl)); simp only [Act.put, pA, pB, pC]
    refine tkL 16 (v := ?_) rfl (by kernel_rfl) (fun _ _ _ => id) (Or.inl ⟨by rfl, ?_⟩) (by assumption) ?_; rotate_left; (focus (intro wq hSq; have f := HF.out wq hSq; go_simp <;> with_reducible rfl)); simp only [Act.put, pA, pB, pC]
    refine tkL 17 (v := ?_) rfl (by kernel_rfl) (fun _ _ _ => id) (Or.inl ⟨by rfl, ?_⟩) (by assumption) ?_; rotate_left; (focus (intro wq hSq; have f := HF.out wq hSq; go_simp <;> with_reducible rfl)); simp only [Act.put, pA, pB, pC]
    refine tkL 18 (v := ?_) rfl (by kernel_rfl) (fun _ _ _ => id) (Or.inl ⟨by rfl, ?_⟩) (by assumption) ?_; rotate_left; (focus (intro wq hSq; have f := HF.out wq hSq; go_simp <;> with_reducible rfl)); simp only [Act.put, pA, pB, pC]
    refine tkL 19 (v := ?_) rfl (by kernel_rfl) (fun _ _ _ => id) (Or.inl ⟨by rfl, ?_⟩) (by assumption) ?_; rotate_left; (focus (intro wq hSq; have f := HF.out wq hSq; go_simp <;> with_reducible rfl)); simp only [Act.put, pA, pB, pC]
    refine tkL 20 (v := ?_) rfl (by kernel_rfl) (fun _ _ _ => id) (Or.inl ⟨by rfl, ?_⟩) (by assumption) ?_; rotate_left; (focus (intro wq hSq; have f := HF.out wq hSq; go_simp <;> with_reducible rfl)); simp only [Act.put, pA, pB, pC]
    refine tkL 21 (v := ?_) rfl (by kernel_rfl) (fun _ _ _ => id) (Or.inl ⟨by rfl, ?_⟩) (by assumption) ?_; rotate_left; (focus (intro wq hSq; have f := HF.out wq hSq; go_simp <;> with_reducible rfl)); simp only [Act.put, pA, pB, pC]
    refine tkL 22 (v := ?_) rfl (by kernel_rfl) (fun _ _ _ => id) (Or.inl ⟨by rfl, ?_⟩) (by assumption) ?_; rotate_left; (focus (intro wq hSq; have f := HF.out wq hSq; go_simp <;> with_reducible rfl)); simp only [Act.put, pA, pB, pC]
    refine tkL 23 (v := ?_) rfl (by kernel_rfl) (fun _ _ _ => id) (Or.inl ⟨by rfl, ?_⟩) (by assumption) ?_; rotate_left; (focus (intro wq hSq; have f := HF.out wq hSq; go_simp <;> with_reducible rfl)); simp only [Act.put, pA, pB, pC]
    refine tkL 24 (v := ?_) rfl (by kernel_rfl) (fun _ _ _ => id) (Or.inl ⟨by rfl, ?_⟩) (by assumption) ?_; rotate_left; (focus (intro wq hSq; have f := HF.out wq hSq; go_simp <;> with_reducible rfl)); simp only [Act.put, pA, pB, pC]
    refine tkL 25 (v := ?_) rfl (by kernel_rfl) (fun _ _ _ => id) (Or.inl ⟨by rfl, ?_⟩) (by assumption) ?_; rotate_left; (focus (intro wq hSq; have f := HF.out wq hSq; go_simp <;> with_reducible rfl)); simp only [Act.put, pA, pB, pC]
    refine tkL 26 (v := ?_) rfl (by kernel_rfl) (fun _ _ _ => id) (Or.inl ⟨by rfl, ?_⟩) (by assumption) ?_; rotate_left; (focus (intro wq hSq; have f := HF.out wq hSq; go_simp <;> with_reducible rfl)); simp only [Act.put, pA, pB, pC]
    refine tkL 27 (v := ?_) rfl (by kernel_rfl) (fun _ _ _ => id) (Or.inl ⟨by rfl, ?_⟩) (by assumption) ?_; rotate_left; (focus (intro wq hSq; have f := HF.out wq hSq; go_simp <;> with_reducible rfl)); simp only [Act.put, pA, pB, pC]
    refine tkL 28 (v := ?_) rfl (by kernel_rfl) (fun _ _ _ => id) (Or.inl ⟨by rfl, ?_⟩) (by assumption) ?_; rotate_left; (focus (intro wq hSq; have f := HF.out wq hSq; go_simp <;> with_reducible rfl)); simp only [Act.put, pA, pB, pC]
    refine tkL 29 (v := ?_) rfl (by kernel_rfl) (fun _ _ _ => id) (Or.inl ⟨by rfl, ?_⟩) (by assumption) ?_; rotate_left; (focus (intro wq hSq; have f := HF.out wq hSq; go_simp <;> with_reducible rfl)); simp only [Act.put, pA, pB, pC]
    refine tkL 30 (v := ?_) rfl (by kernel_rfl) (fun _ _ _ => id) (Or.inl ⟨by rfl, ?_⟩) (by assumption) ?_; rotate_left; (focus (intro wq hSq; have f := HF.out wq hSq; go_simp <;> with_reducible rfl)); simp only [Act.put, pA, pB, pC]
    refine tkL 31 (v := ?_) rfl (by kernel_rfl) (fun _ _ _ => id) (Or.inl ⟨by rfl, ?_⟩) (by assumption) ?_; rotate_left; (focus (intro wq hSq; have f := HF.out wq hSq; go_simp <;> with_reducible rfl)); simp only [Act.put, pA, pB, pC]
    refine tkL 32 (v := ?_) rfl (by kernel_rfl) (fun _ _ _ => id) (Or.inl ⟨by rfl, ?_⟩) (by assumption) ?_; rotate_left; (focus (intro wq hSq; have f := HF.out wq hSq; go_simp <;> with_reducible rfl)); simp only [Act.put, pA, pB, pC]
    refine tkL 33 (v := ?_) rfl (by kernel_rfl) (fun _ _ _ => id) (Or.inl ⟨by rfl, ?_⟩) (by assumption) ?_; rotate_left; (focus (intro wq hSq; have f := HF.out wq hSq; go_simp <;> with_reducible rfl)); simp only [Act.put, pA, pB, pC]
    refine tkL 34 (v := ?_) rfl (by kernel_rfl) (fun _ _ _ => id) (Or.inl ⟨by rfl, ?_⟩) (by assumption) ?_; rotate_left; (focus (intro wq hSq; have f := HF.out wq hSq; go_simp <;> with_reducible rfl)); simp only [Act.put, pA, pB, pC]
    refine tkL 35 (v := ?_) rfl (by kernel_rfl) (fun _ _ _ => id) (Or.inl ⟨by rfl, ?_⟩) (by assumption) ?_; rotate_left; (focus (intro wq hSq; have f := HF.out wq hSq; go_simp <;> with_reducible rfl)); simp only [Act.put, pA, pB, pC]
    refine wpAnyH_ready (rs := [36]) (by kernel_rfl) (by simp) (nextL 36 rfl (fun Kr hKr => ?_) AllReadyH.nil)
    rw [if_pos (by rfl)]
    go_simp
    refine HSM.out.mono ?_
    rintro e w5 ⟨rfl, hb5⟩
    have B5 := Lib.hid (BZ.out.trans (hb5.mono BZ.out.size))
    refine hKr.out _ _ hb5 (fun _ => ?_)
    clear hKr hb5
    refine tkL 37 (v := ?_) rfl (by kernel_rfl) (fun _ _ _ => id) (Or.inl ⟨by rfl, ?_⟩) (by assumption) ?_; rotate_left; (focus (intro wq hSq; go_simp <;> with_reducible rfl)); simp only [Act.put, pA, pB, pC]
    refine tkL 38 (v := ?_) rfl (by kernel_rfl) (fun _ _ _ => id) (Or.inl ⟨by rfl, ?_⟩) (by assumption) ?_; rotate_left; (focus (intro wq hSq; go_simp <;> with_reducible rfl)); simp only [Act.put, pA, pB, pC]
    refine wpAnyH_done (by kernel_rfl) ?_ _
    clear hHeld
    go_wp2_with fail
    go_roundw
    case rel => exact ⟨j + 1, by omega, by go_num, B5.out⟩
    case measure => simp [intOf]; omega
  · obtain rfl : j = Q.length := by omega
    go_wp2_with fail
    go_ret
    exact ⟨rfl, HB1.out.trans (HB.out.mono HB1.out.size)⟩

set_option maxHeartbeats 8000000 in
theorem step_o (p b o q B B0 : Nat) (room M L : Int) (k : Nat) (x : TOp) (xv : Value) (w : World) (h : Sc w p b o q B room M L k) (hx : x.Ok w xv) (hk : k ≤ 1000) (hB : B0 ≤ b ∧ B0 ≤ o ∧ B0 ≤ B ∧ B0 ≤ w.heap.size) (hf : fitsT room M L) (hd : x.d ≠ 0 ∧ x.d ≠ 1 ∧ x.d ≠ 2 ∧ x.d ≠ 3 ∧ x.d ≠ 4 ∧ x.d ≠ 5) :
 Calls Tryz.prog 7 #[.pointer (some ⟨p, 0, none⟩), .pointer (some ⟨q, 0, none⟩), .agg (x.cells xv).toArray] w (RetSc w p b o q B B0 room M L k) := by
 have hxs := hx.strs
 obtain ⟨so, sc, rfl⟩ := hxs.shape
 obtain ⟨d, vl, pt, kind, g, C, src, now⟩ := x
 obtain ⟨_, hgl, hsl, _, hwv, hwp, _, _⟩ := hx
 dsimp only at hd hxs hgl hsl hwv hwp ⊢
 obtain ⟨e0, e1, e2, e3, e4, e5⟩ := hd
 show Calls _ _ #[.pointer (some ⟨p, 0, none⟩), .pointer (some ⟨q, 0, none⟩), .agg #[.int .i64 d, .int .i64 vl, .int .i64 pt, .int .i64 kind, .string (bstr g), .slice so C.length sc, .string (bstr src), .int .i64 now]] w _
 obtain ⟨W0, hW0⟩ : ∃ W0, w.alloc (.cells #[.int .i64 d, .int .i64 vl, .int .i64 pt, .int .i64 kind, .string (bstr g), .slice so C.length sc, .string (bstr src), .int .i64 now] 41) = W0 := ⟨_, rfl⟩
 obtain ⟨ob, hob⟩ : ∃ b, w.heap.size = b := ⟨_, rfl⟩
 have hb0 : Below w.heap.size w W0 := by rw [← hW0]; exact (Below.refl _ _).alloc (Nat.le_refl _) _
 have XO := Lib.hid (show CBox W0 ob 41 #[.int .i64 d, .int .i64 vl, .int .i64 pt, .int .i64 kind, .string (bstr g), .slice so C.length sc, .string (bstr src), .int .i64 now] from by rw [← hW0]; exact CBox.new _ hob.symm)
 have HB := Lib.hid (hb0.mono hB.2.2.2)
 have RV := Lib.hid (hxs.mono hb0)
 have HBB := Lib.hid (show B0 ≤ b ∧ B0 ≤ o ∧ B0 ≤ B ∧ B0 ≤ W0.heap.size from ⟨hB.1, hB.2.1, hB.2.2.1, Nat.le_trans hB.2.2.2 hb0.size⟩)
 have HF0 := Lib.hid hf; have HBW := Lib.hid hB.2.2.2
 obtain ⟨n, m, F, O, Q, S, h1, h2, h3, h4, h5, h6, h7, h8, h9⟩ := h.below hb0
 have HOKT := Lib.hid (show okT (vl, g, pt) from ⟨hwv, hgl, hwp⟩)
 have H9 := Lib.hid h9
 have HW0 := Lib.hid hW0; have HOB := Lib.hid hob
 clear hW0 hob hb0 h hxs hB hf h9
 go_enter Tryz.func7, Tryz.ntmps7
 go_upto_region 1 with fail
 rw [HW0.out, HOB.out]
 clear HW0 HOB
 obtain ⟨x0, _⟩ := XO.out.at_ 0 _ rfl
 have HSC := Lib.hid (show Sc W0 p b o q B room M L k from ⟨n, m, F, O, Q, S, h1, h2, h3, h4, h5, h6, h7, h8, H9.out⟩)
 have HH := Lib.hid (holds_yes p b o q B room M L k W0 HSC.out (by omega))
 have q0 : (d == 0) = false := by simpa using e0
 have q1 : (d == 1) = false := by simpa using e1
 have q2 : (d == 2) = false := by simpa using e2
 have q3 : (d == 3) = false := by simpa using e3
 have q4 : (d == 4) = false := by simpa using e4
 have q5 : (d == 5) = false := by simpa using e5
 clear h5 h6 h7 h8 h1 h2 h3 h4 hk hgl hsl hwv hwp RV H9 HOKT e0 e1 e2 e3 e4 e5
 go_wp2_with ((with_reducible refine HH.out.mono ?_); rintro e w1 ⟨rfl, hb1⟩; have B1 := Lib.hid hb1; clear hb1)
 go_ret
 obtain ⟨n, m, F, O, Q, S, h1, h2, h3, h4, h5⟩ := HSC.out
 exact ⟨rfl, Sc.below ⟨n, m, F, O, Q, S, by omega, by omega, by omega, by omega, h5⟩ B1.out, HB.out.trans (B1.out.mono HBB.out.2.2.2)⟩

theorem step_any (p b o q B B0 : Nat) (room M L : Int) (k : Nat) (x : TOp) (xv : Value) (w : World) (h : Sc w p b o q B room M L k) (hx : x.Ok w xv) (hk : k ≤ 1000) (hB : B0 ≤ b ∧ B0 ≤ o ∧ B0 ≤ B ∧ B0 ≤ w.heap.size) (hf : fitsT room M L) :
 Calls Tryz.prog 7 #[.pointer (some ⟨p, 0, none⟩), .pointer (some ⟨q, 0, none⟩), .agg (x.cells xv).toArray] w (RetSc w p b o q B B0 room M L k) := by
 by_cases e0 : x.d = 0
 · exact step_0 p b o q B B0 room M L k x xv w h hx hk hB hf e0
 by_cases e1 : x.d = 1
 · exact step_1 p b o q B B0 room M L k x xv w h hx hk hB hf e1
 by_cases e2 : x.d = 2
 · exact step_2 p b o q B B0 room M L k x xv w h hx hk hB hf e2
 by_cases e3 : x.d = 3
 · exact step_3 p b o q B B0 room M L k x xv w h hx hk hB hf e3
 by_cases e4 : x.d = 4
 · exact step_4 p b o q B B0 room M L k x xv w h hx hk hB hf e4
 by_cases e5 : x.d = 5
 · cases ht : timeT x.now
   · exact step_5n p b o q B B0 room M L k x xv w h hx hk hB hf e5 ht
   · exact step_5y p b o q B B0 room M L k x xv w h hx hk hB hf e5 ht
 · exact step_o p b o q B B0 room M L k x xv w h hx hk hB hf ⟨e0, e1, e2, e3, e4, e5⟩

open Classical in
noncomputable def fitsB (room M L : Int) : Bool := decide (fitsT room M L)
open Classical in
theorem fitsB_yes {room M L : Int} (h : fitsT room M L) : fitsB room M L = true := by unfold fitsB; exact decide_eq_true h
open Classical in
theorem fitsB_no {room M L : Int} (h : ¬ fitsT room M L) : fitsB room M L = false := by unfold fitsB; exact decide_eq_false h
set_option maxHeartbeats 4000000 in
theorem fits18_any (room M L : Int) (w : World) :
 Calls Tryz.prog 5 #[.int .i64 room, .agg #[.int .i64 M, .int .i64 L]] w fun e w' => e = .returned (.bool (fitsB room M L)) ∧ Below w.heap.size w w' := by
 have hr : fitsB room M L = (decide (1 ≤ room) && decide (room ≤ 4096) && decide (1 ≤ M) && decide (M ≤ 1000000) && decide (1 ≤ L) && decide (L ≤ 1000000)) := by
  unfold fitsB fitsT
  rw [Bool.eq_iff_iff]
  simp [and_assoc]
 rw [hr]
 clear hr
 obtain ⟨W0, hW0⟩ : ∃ W0, w.alloc (.cells #[.int .i64 M, .int .i64 L] 23) = W0 := ⟨_, rfl⟩
 obtain ⟨tb, htb⟩ : ∃ b, w.heap.size = b := ⟨_, rfl⟩
 have HB := Lib.hid (show Below w.heap.size w W0 from by rw [← hW0]; exact (Below.refl _ _).alloc (Nat.le_refl _) _)
 have XT := Lib.hid (show CBox W0 tb 23 #[.int .i64 M, .int .i64 L] from by rw [← hW0]; exact CBox.new _ htb.symm)
 have HW := Lib.hid hW0; have HT := Lib.hid htb
 clear hW0 htb
 cases c1 : decide (1 ≤ room) <;> cases c2 : decide (room ≤ 4096) <;> cases c3 : decide (1 ≤ M) <;> cases c4 : decide (M ≤ 1000000) <;> cases c5 : decide (1 ≤ L) <;> cases c6 : decide (L ≤ 1000000)
 all_goals
  go_enter Tryz.func5, Tryz.ntmps5
  go_upto_region 1 with fail
  rw [HW.out, HT.out]
  obtain ⟨x0, _⟩ := XT.out.at_ 0 _ rfl
  obtain ⟨x1, _⟩ := XT.out.at_ 1 _ rfl
  go_wp2_with fail
  go_ret
  exact ⟨rfl, HB.out⟩

theorem TOp.Ok.mono {o : TOp} {w w' : World} {v : Value} (h : o.Ok w v) (hb : Below w.heap.size w w') : o.Ok w' v := ⟨h.strs.mono hb, h.gl, h.sl, h.wd, h.wvl, h.wpt, h.wkind, h.wnow⟩

set_option maxHeartbeats 4000000 in
theorem tscripts_no (z M L : Int) (v : Value) (w : World) (hr : ¬ fitsT z M L) :
 Calls Tryz.prog 3 #[.int .i64 z, .agg #[.int .i64 M, .int .i64 L], v] w fun e w' => e = .returned (.bool true) ∧ Below w.heap.size w w' := by
 obtain ⟨W0, hW0⟩ : ∃ W0, w.alloc (.cells #[.int .i64 M, .int .i64 L] 23) = W0 := ⟨_, rfl⟩
 obtain ⟨tb, htb⟩ : ∃ b, w.heap.size = b := ⟨_, rfl⟩
 have HB := Lib.hid (show Below w.heap.size w W0 from by rw [← hW0]; exact (Below.refl _ _).alloc (Nat.le_refl _) _)
 have XT := Lib.hid (show CBox W0 tb 23 #[.int .i64 M, .int .i64 L] from by rw [← hW0]; exact CBox.new _ htb.symm)
 have HW := Lib.hid hW0; have HT := Lib.hid htb
 have HN := Lib.hid (tnew_no z M L W0 hr)
 have HFI := Lib.hid (fun W => fits18_any z M L W)
 rw [show fitsB z M L = false from fitsB_no hr] at HFI
 have HLV := Lib.hid (fun W => tlive_any W)
 clear hW0 htb hr
 go_enter Tryz.func3, Tryz.ntmps3
 go_upto_region 1 with fail
 rw [HW.out, HT.out]
 obtain ⟨x0, _⟩ := XT.out.at_ 0 _ rfl
 obtain ⟨x1, _⟩ := XT.out.at_ 1 _ rfl
 go_wp2_with (first
  | ((with_reducible refine HN.out.mono ?_); rintro e w1 ⟨rfl, hb1⟩; have B1 := Lib.hid hb1; have y0 := ((XT.out.below hb1 XT.out.lt).at_ 0 _ rfl).1; have y1 := ((XT.out.below hb1 XT.out.lt).at_ 1 _ rfl).1; clear hb1)
  | ((with_reducible refine (HFI.out _).mono ?_); rintro e w2 ⟨rfl, hb2⟩; have B2 := Lib.hid (B1.out.trans (hb2.mono B1.out.size)); clear hb2)
  | ((with_reducible refine (HLV.out _).mono ?_); rintro e w3 ⟨rfl, hb3⟩; have B3 := Lib.hid (B2.out.trans (hb3.mono B2.out.size)); clear hb3))
 go_ret
 exact ⟨rfl, HB.out.trans (B3.out.mono HB.out.size)⟩

set_option maxHeartbeats 8000000 in
theorem law_tscripts (z M L : Int) (v : Value) (R : List TOp) (w : World) (h : OpsT w v R) :
 Calls Tryz.prog 3 #[.int .i64 z, .agg #[.int .i64 M, .int .i64 L], v] w fun e w' => e = .returned (.bool true) ∧ Below w.heap.size w w' := by
 by_cases hr : fitsT z M L
 rotate_left
 · exact tscripts_no z M L v w hr
 obtain ⟨vo, vc, rfl⟩ := h.shape
 obtain ⟨b0, off, src, hm, hlen, hidx, hc⟩ := h.facts
 clear h
 obtain ⟨W0, hW0⟩ : ∃ W0, w.alloc (.cells #[.int .i64 M, .int .i64 L] 23) = W0 := ⟨_, rfl⟩
 obtain ⟨tb, htb⟩ : ∃ b, w.heap.size = b := ⟨_, rfl⟩
 have HB := Lib.hid (show Below w.heap.size w W0 from by rw [← hW0]; exact (Below.refl _ _).alloc (Nat.le_refl _) _)
 have XT := Lib.hid (show CBox W0 tb 23 #[.int .i64 M, .int .i64 L] from by rw [← hW0]; exact CBox.new _ htb.symm)
 have HW := Lib.hid hW0; have HT := Lib.hid htb
 have HN := Lib.hid (tnew_yes z M L W0 hr)
 have HFI := Lib.hid (fun W => fits18_any z M L W)
 rw [show fitsB z M L = true from fitsB_yes hr] at HFI
 have HLV := Lib.hid (fun W => tlive_any W)
 have HR := Lib.hid hr; have HC := Lib.hid hc; have HIX := Lib.hid hidx; have HM := Lib.hid hm
 clear hW0 htb hr hc hidx hm
 go_enter Tryz.func3, Tryz.ntmps3
 go_upto_region 1 with fail
 rw [HW.out, HT.out]
 obtain ⟨x0, _⟩ := XT.out.at_ 0 _ rfl
 obtain ⟨x1, _⟩ := XT.out.at_ 1 _ rfl
 go_upto_region 6 with (first
  | ((with_reducible refine HN.out.mono ?_); rintro e w1 ⟨p, b, o, rfl, htb, hb, ho, hb1⟩; have B1 := Lib.hid hb1; have T1 := Lib.hid (And.intro htb (And.intro hb ho)); have y0 := ((XT.out.below hb1 XT.out.lt).at_ 0 _ rfl).1; have y1 := ((XT.out.below hb1 XT.out.lt).at_ 1 _ rfl).1; clear hb1 htb hb ho)
  | ((with_reducible refine (HFI.out _).mono ?_); rintro e w2 ⟨rfl, hb2⟩; have B2 := Lib.hid (B1.out.trans (hb2.mono B1.out.size)); have T2 := Lib.hid (T1.out.1.mono hb2); clear hb2))
 clear x0 x1 y0 y1 HFI HN
 obtain ⟨x0, _⟩ := (XT.out.below B2.out XT.out.lt).at_ 0 _ rfl
 obtain ⟨x1, _⟩ := (XT.out.below B2.out XT.out.lt).at_ 1 _ rfl
 go_upto_region 7 with fail
 obtain ⟨W3, hW3⟩ : ∃ W, w2.alloc (.cells #[.int .i64 z, .int .i64 M, .int .i64 L, .slice none 0 0, .slice none 0 0] 35) = W := ⟨_, rfl⟩
 obtain ⟨q, hq⟩ : ∃ b, w2.heap.size = b := ⟨_, rfl⟩
 have hb3 : Below w2.heap.size w2 W3 := by rw [← hW3]; exact (Below.refl _ _).alloc (Nat.le_refl _) _
 have HSC := Lib.hid (show Sc W3 p b o q q z M L 0 from ⟨0, 0, fun _ => none, fun _ => none, [], [], Nat.le_refl _, Nat.le_refl _, Nat.le_refl _, Nat.le_refl _, T2.out.mono hb3, ⟨_, _, by rw [← hW3]; exact CBox.new _ hq.symm, Nat.le_refl _, World.ownsRow_nil _ _ _ _, by simp, World.ownsRow_nil _ _ _ _, NoStr.nil _⟩, RelT.nil, RelO.nil, by simp⟩)
 have B3 := Lib.hid (HB.out.trans ((B2.out.trans (hb3.mono B2.out.size)).mono HB.out.size))
 have HBB := Lib.hid (show w.heap.size ≤ b ∧ w.heap.size ≤ o ∧ w.heap.size ≤ q from ⟨Nat.le_trans HB.out.size T1.out.2.1, Nat.le_trans HB.out.size T1.out.2.2, by rw [← hq]; exact Nat.le_trans HB.out.size B2.out.size⟩)
 rw [hW3, hq]
 clear hW3 hq hb3 x0 x1 B2 T1 B1 T2 XT HW HT HB
 go_wp2_with fail
 go_loopw [10] (fun i wr => ∃ k, k ≤ R.length ∧ k ≤ 40 ∧ i = .int .i64 (k : Nat) ∧ Sc wr p b o q q z M L k ∧ Below w.heap.size w wr) (fun i _ => R.length - (intOf i).toNat)
 case atStart => exact ⟨0, Nat.zero_le _, Nat.zero_le _, rfl, HSC.out, B3.out⟩
 case round =>
  obtain ⟨k, hk, hk40, rfl, hsc, hbr⟩ := hrel
  have HSR := Lib.hid hsc; have HBR := Lib.hid hbr
  clear hsc hbr HSC B3
  by_cases hlt : k < R.length
  · by_cases h40 : k < 40
    · obtain ⟨hlb, hrow, hok⟩ := HC.out k hlt
      have HOK := Lib.hid hok
      obtain ⟨so, sc, hso⟩ := hok.strs.shape
      obtain ⟨c0, c1, c2, c3, c4, c5, c6, c7⟩ := TOp.row HBR.out hlb hrow
      have hp := HIX.out k hlt
      have HST := Lib.hid (step_any p b o q q w.heap.size z M L k _ _ wr HSR.out (hok.mono HBR.out) (by omega) ⟨HBB.out.1, HBB.out.2.1, HBB.out.2.2, HBR.out.size⟩ HR.out)
      unfold TOp.cells at HST
      rw [hso] at c5 HST
      generalize R.getD k default = x at c0 c1 c2 c3 c4 c5 c6 c7 HST hso hok HOK hrow
      obtain ⟨d, vl, pt, kind, g, C, sr, now⟩ := x
      dsimp only at c0 c1 c2 c3 c4 c5 c6 c7 HST hso
      clear hrow hok hlb hso HOK
      cases d60 : decide ((60 : Int) < (C.length : Int))
      · go_wp2_with ((with_reducible refine HST.out.mono ?_); rintro e w4 ⟨rfl, hsc, hb4⟩; have H4 := Lib.hid (And.intro hsc hb4); clear hsc hb4)
        go_roundw
        case rel => exact ⟨k + 1, by omega, by omega, by go_num, H4.out.1, HBR.out.trans H4.out.2⟩
        case measure => simp [intOf]; omega
      · go_wp2_with ((with_reducible refine (HLV.out _).mono ?_); rintro e w4 ⟨rfl, hb4⟩; have B4 := Lib.hid (HBR.out.trans (hb4.mono HBR.out.size)); clear hb4)
        go_ret
        exact ⟨rfl, B4.out⟩
    · obtain rfl : k = 40 := by omega
      have HH := Lib.hid (holds_yes p b o q q z M L 40 wr HSR.out (by omega))
      go_wp2_with (first
       | ((with_reducible refine HH.out.mono ?_); rintro e w4 ⟨rfl, hb4⟩; have B4 := Lib.hid (HBR.out.trans (hb4.mono HBR.out.size)); clear hb4)
       | ((with_reducible refine (HLV.out _).mono ?_); rintro e w5 ⟨rfl, hb5⟩; have B5 := Lib.hid (B4.out.trans (hb5.mono B4.out.size)); clear hb5))
      go_ret
      exact ⟨rfl, B5.out⟩
  · have HH := Lib.hid (holds_yes p b o q q z M L k wr HSR.out (by omega))
    go_wp2_with (first
     | ((with_reducible refine HH.out.mono ?_); rintro e w4 ⟨rfl, hb4⟩; have B4 := Lib.hid (HBR.out.trans (hb4.mono HBR.out.size)); clear hb4)
     | ((with_reducible refine (HLV.out _).mono ?_); rintro e w5 ⟨rfl, hb5⟩; have B5 := Lib.hid (B4.out.trans (hb5.mono B4.out.size)); clear hb5))
    go_ret
    exact ⟨rfl, B5.out⟩
end Go.Proofs.YtpibmjkbebkilaaGreat
