/- Texts joined into one file: BLearn, BNewT, BAge. -/
import Derived.Test.YthcdppppppgckaaGreatDoorA08
import Derived.WalkSmall

namespace Go.Proofs.YthcdppppppgckaaGreatDoor
open Go.RowKit Go.Lib Go.Sort
set_option maxRecDepth 20000
set_option maxRecDepth 20000

set_option maxHeartbeats 4000000 in
theorem tlearns_any (p g cap : Nat) (t : Tre) (i : Int) (w : World) (h : TreeAt w p g cap t) (ok : TreOk t) :
 Calls Tryz.prog 62 #[.pointer (some ⟨p, 0, none⟩), .int .i64 i] w fun e w' => e = .returned (.bool (t.learns i)) ∧ Below w.heap.size w w' := by
 have HA := Lib.hid (tat_any p g cap t i 0 w h)
 obtain ⟨Z, hZ⟩ : ∃ W, w.drew = W := ⟨_, rfl⟩
 have hbz : Below w.heap.size w Z := by rw [← hZ]; exact Below.drew (Below.refl _ _)
 have HZ := Lib.hid hZ; have HB := Lib.hid hbz
 unfold Tre.learns
 cases hc : t.okAt i 0
 · rw [hc] at HA
   have HF := Lib.hid (fun (wq : World) (h : wq = Z) => h)
   clear hc h hZ hbz ok
   go_enter Tryz.func62, Tryz.ntmps62
   go_upto_region 2 with ((with_reducible refine HA.out.mono ?_); rintro e w1 ⟨rfl, hw1⟩; subst w1)
   refine wp_region_held_drew (S := fun wq => wq = Z) (by kernel_rfl) (by rw [HZ.out]) (fun hHeld => ?_)
   rw [HZ.out] at hHeld ⊢
   refine tkL 0 (v := ?_) rfl (by kernel_rfl) (fun _ _ _ => id) (Or.inl ⟨by rfl, ?_⟩) (by assumption) ?_; rotate_left; (focus (intro wq hSq; go_simp <;> with_reducible rfl)); simp only [Act.put, pA, pB, pC]
   refine tkL 1 (v := ?_) rfl (by kernel_rfl) (fun _ _ _ => id) (Or.inl ⟨by rfl, ?_⟩) (by assumption) ?_; rotate_left; (focus (intro wq hSq; go_simp <;> with_reducible rfl)); simp only [Act.put, pA, pB, pC]
   refine tkL 2 (v := ?_) rfl (by kernel_rfl) (fun _ _ _ => id) (Or.inl ⟨by rfl, ?_⟩) (by assumption) ?_; rotate_left; (focus (intro wq hSq; go_simp <;> with_reducible rfl)); simp only [Act.put, pA, pB, pC]
   refine tkL 3 (v := undef) rfl (by kernel_rfl) (fun _ _ _ h => h) (Or.inr ⟨by rfl, rfl⟩) (by assumption) ?_; simp only [Act.put, pA, pB, pC]
   refine tkL 4 (v := undef) rfl (by kernel_rfl) (fun _ _ _ h => h) (Or.inr ⟨by rfl, rfl⟩) (by assumption) ?_; simp only [Act.put, pA, pB, pC]
   refine tkL 5 (v := undef) rfl (by kernel_rfl) (fun _ _ _ h => h) (Or.inr ⟨by rfl, rfl⟩) (by assumption) ?_; simp only [Act.put, pA, pB, pC]
   refine tkL 6 (v := undef) rfl (by kernel_rfl) (fun _ _ _ h => h) (Or.inr ⟨by rfl, rfl⟩) (by assumption) ?_; simp only [Act.put, pA, pB, pC]
   refine tkL 7 (v := undef) rfl (by kernel_rfl) (fun _ _ _ h => h) (Or.inr ⟨by rfl, rfl⟩) (by assumption) ?_; simp only [Act.put, pA, pB, pC]
   refine tkL 8 (v := ?_) rfl (by kernel_rfl) (fun _ _ _ => id) (Or.inl ⟨by rfl, ?_⟩) (by assumption) ?_; rotate_left; (focus (intro wq hSq; go_simp <;> with_reducible rfl)); simp only [Act.put, pA, pB, pC]
   refine tkL 9 (v := ?_) rfl (by kernel_rfl) (fun _ _ _ => id) (Or.inl ⟨by rfl, ?_⟩) (by assumption) ?_; rotate_left; (focus (intro wq hSq; go_simp <;> with_reducible rfl)); simp only [Act.put, pA, pB, pC]
   refine tkL 10 (v := undef) rfl (by kernel_rfl) (fun _ _ _ h => h) (Or.inr ⟨by rfl, rfl⟩) (by assumption) ?_; simp only [Act.put, pA, pB, pC]
   refine tkL 11 (v := undef) rfl (by kernel_rfl) (fun _ _ _ h => h) (Or.inr ⟨by rfl, rfl⟩) (by assumption) ?_; simp only [Act.put, pA, pB, pC]
   refine tkL 12 (v := undef) rfl (by kernel_rfl) (fun _ _ _ h => h) (Or.inr ⟨by rfl, rfl⟩) (by assumption) ?_; simp only [Act.put, pA, pB, pC]
   refine tkL 13 (v := undef) rfl (by kernel_rfl) (fun _ _ _ h => h) (Or.inr ⟨by rfl, rfl⟩) (by assumption) ?_; simp only [Act.put, pA, pB, pC]
   refine tkL 14 (v := undef) rfl (by kernel_rfl) (fun _ _ _ h => h) (Or.inr ⟨by rfl, rfl⟩) (by assumption) ?_; simp only [Act.put, pA, pB, pC]
   refine tkL 15 (v := undef) rfl (by kernel_rfl) (fun _ _ _ h => h) (Or.inr ⟨by rfl, rfl⟩) (by assumption) ?_; simp only [Act.put, pA, pB, pC]
   refine tkL 16 (v := undef) rfl (by kernel_rfl) (fun _ _ _ h => h) (Or.inr ⟨by rfl, rfl⟩) (by assumption) ?_; simp only [Act.put, pA, pB, pC]
   refine tkL 17 (v := undef) rfl (by kernel_rfl) (fun _ _ _ h => h) (Or.inr ⟨by rfl, rfl⟩) (by assumption) ?_; simp only [Act.put, pA, pB, pC]
   refine tkL 18 (v := undef) rfl (by kernel_rfl) (fun _ _ _ h => h) (Or.inr ⟨by rfl, rfl⟩) (by assumption) ?_; simp only [Act.put, pA, pB, pC]
   refine tkL 19 (v := undef) rfl (by kernel_rfl) (fun _ _ _ h => h) (Or.inr ⟨by rfl, rfl⟩) (by assumption) ?_; simp only [Act.put, pA, pB, pC]
   refine tkL 20 (v := ?_) rfl (by kernel_rfl) (fun _ _ _ => id) (Or.inl ⟨by rfl, ?_⟩) (by assumption) ?_; rotate_left; (focus (intro wq hSq; go_simp <;> with_reducible rfl)); simp only [Act.put, pA, pB, pC]
   refine tkL 21 (v := ?_) rfl (by kernel_rfl) (fun _ _ _ => id) (Or.inl ⟨by rfl, ?_⟩) (by assumption) ?_; rotate_left; (focus (intro wq hSq; go_simp <;> with_reducible rfl)); simp only [Act.put, pA, pB, pC]
   refine wpAnyH_done (by kernel_rfl) ?_ _
   go_wp2_with fail
   go_ret
   exact ⟨rfl, HB.out⟩
 · rw [hc] at HA
   obtain ⟨h1, h2, h3⟩ := okAt_iff.1 hc
   obtain ⟨k, rfl⟩ := Int.eq_ofNat_of_zero_le h2
   have hk : k < t.ports.length := by omega
   have hb2 := h.below hbz
   obtain ⟨_, c2, _, _⟩ := hb2.getD (k := k) hk
   obtain ⟨b2, _⟩ := hb2.boxc.at_ 2 _ rfl
   have hps := (ok.ports _ (List.getElem_mem hk)).since
   have hgd : t.ports.getD k default = t.ports[k] := by simp [List.getD_eq_getElem?_getD, hk]
   have hnow := ok.now
   rw [if_pos rfl] at HA
   rw [Int.toNat_natCast] at HA ⊢
   rw [hgd] at c2 ⊢
   obtain ⟨sn, hsn⟩ : ∃ s, t.ports[k].since = s := ⟨_, rfl⟩
   obtain ⟨tn, htn⟩ : ∃ s, t.now = s := ⟨_, rfl⟩
   rw [hsn] at c2 hps ⊢
   rw [htn] at b2 hnow ⊢
   have hsub : IntKind.i64.wrap (tn - sn) = tn - sn := by rw [IntKind.wrap_i64]; omega
   have HF := Lib.hid (fun (wq : World) (h : wq.cell? ⟨p, 2, none⟩ = some (.int .i64 tn) ∧ wq.cell? ⟨g, k * 15 + 2, none⟩ = some (.int .i64 sn)) => h)
   clear hc h hZ hbz ok h1 h2 h3 hk hb2 hps hgd hnow hsn htn
   cases q : (sn == -1)
   · have q' : (sn != -1) = true := by simp [bne, q]
     cases d : decide (15 ≤ tn - sn)
     all_goals
      go_enter Tryz.func62, Tryz.ntmps62
      go_upto_region 2 with ((with_reducible refine HA.out.mono ?_); rintro e w1 ⟨rfl, hw1⟩; subst w1)
      refine wp_region_held_drew (S := fun wq => wq.cell? ⟨p, 2, none⟩ = some (.int .i64 tn) ∧ wq.cell? ⟨g, k * 15 + 2, none⟩ = some (.int .i64 sn)) (by kernel_rfl) (by rw [HZ.out]; exact ⟨b2, c2⟩) (fun hHeld => ?_)
      rw [HZ.out] at hHeld ⊢
      refine tkL 0 (v := ?_) rfl (by kernel_rfl) (fun _ _ _ => id) (Or.inl ⟨by rfl, ?_⟩) (by assumption) ?_; rotate_left; (focus (intro wq hSq; have f := HF.out wq hSq; go_simp <;> with_reducible rfl)); simp only [Act.put, pA, pB, pC]
      refine tkL 1 (v := ?_) rfl (by kernel_rfl) (fun _ _ _ => id) (Or.inl ⟨by rfl, ?_⟩) (by assumption) ?_; rotate_left; (focus (intro wq hSq; have f := HF.out wq hSq; go_simp <;> with_reducible rfl)); simp only [Act.put, pA, pB, pC]
      refine tkL 2 (v := ?_) rfl (by kernel_rfl) (fun _ _ _ => id) (Or.inl ⟨by rfl, ?_⟩) (by assumption) ?_; rotate_left; (focus (intro wq hSq; have f := HF.out wq hSq; go_simp <;> with_reducible rfl)); simp only [Act.put, pA, pB, pC]
      refine tkL 3 (v := ?_) rfl (by kernel_rfl) (fun _ _ _ => id) (Or.inl ⟨by rfl, ?_⟩) (by assumption) ?_; rotate_left; (focus (intro wq hSq; have f := HF.out wq hSq; go_simp <;> with_reducible rfl)); simp only [Act.put, pA, pB, pC]
      refine tkL 4 (v := ?_) rfl (by kernel_rfl) (fun _ _ _ => id) (Or.inl ⟨by rfl, ?_⟩) (by assumption) ?_; rotate_left; (focus (intro wq hSq; have f := HF.out wq hSq; go_simp <;> with_reducible rfl)); simp only [Act.put, pA, pB, pC]
      refine tkL 5 (v := ?_) rfl (by kernel_rfl) (fun _ _ _ => id) (Or.inl ⟨by rfl, ?_⟩) (by assumption) ?_; rotate_left; (focus (intro wq hSq; have f := HF.out wq hSq; go_simp <;> with_reducible rfl)); simp only [Act.put, pA, pB, pC]
      refine tkL 6 (v := ?_) rfl (by kernel_rfl) (fun _ _ _ => id) (Or.inl ⟨by rfl, ?_⟩) (by assumption) ?_; rotate_left; (focus (intro wq hSq; have f := HF.out wq hSq; go_simp <;> with_reducible rfl)); simp only [Act.put, pA, pB, pC]
      refine tkL 7 (v := ?_) rfl (by kernel_rfl) (fun _ _ _ => id) (Or.inl ⟨by rfl, ?_⟩) (by assumption) ?_; rotate_left; (focus (intro wq hSq; have f := HF.out wq hSq; go_simp <;> with_reducible rfl)); simp only [Act.put, pA, pB, pC]
      refine tkL 8 (v := ?_) rfl (by kernel_rfl) (fun _ _ _ => id) (Or.inl ⟨by rfl, ?_⟩) (by assumption) ?_; rotate_left; (focus (intro wq hSq; have f := HF.out wq hSq; go_simp <;> with_reducible rfl)); simp only [Act.put, pA, pB, pC]
      refine tkL 9 (v := ?_) rfl (by kernel_rfl) (fun _ _ _ => id) (Or.inl ⟨by rfl, ?_⟩) (by assumption) ?_; rotate_left; (focus (intro wq hSq; have f := HF.out wq hSq; go_simp <;> with_reducible rfl)); simp only [Act.put, pA, pB, pC]
      refine tkL 10 (v := ?_) rfl (by kernel_rfl) (fun _ _ _ => id) (Or.inl ⟨by rfl, ?_⟩) (by assumption) ?_; rotate_left; (focus (intro wq hSq; have f := HF.out wq hSq; go_simp <;> with_reducible rfl)); simp only [Act.put, pA, pB, pC]
      refine tkL 11 (v := ?_) rfl (by kernel_rfl) (fun _ _ _ => id) (Or.inl ⟨by rfl, ?_⟩) (by assumption) ?_; rotate_left; (focus (intro wq hSq; have f := HF.out wq hSq; go_simp <;> with_reducible rfl)); simp only [Act.put, pA, pB, pC]
      refine tkL 12 (v := ?_) rfl (by kernel_rfl) (fun _ _ _ => id) (Or.inl ⟨by rfl, ?_⟩) (by assumption) ?_; rotate_left; (focus (intro wq hSq; have f := HF.out wq hSq; go_simp <;> with_reducible rfl)); simp only [Act.put, pA, pB, pC]
      refine tkL 13 (v := ?_) rfl (by kernel_rfl) (fun _ _ _ => id) (Or.inl ⟨by rfl, ?_⟩) (by assumption) ?_; rotate_left; (focus (intro wq hSq; have f := HF.out wq hSq; go_simp <;> with_reducible rfl)); simp only [Act.put, pA, pB, pC]
      refine tkL 14 (v := ?_) rfl (by kernel_rfl) (fun _ _ _ => id) (Or.inl ⟨by rfl, ?_⟩) (by assumption) ?_; rotate_left; (focus (intro wq hSq; have f := HF.out wq hSq; go_simp <;> with_reducible rfl)); simp only [Act.put, pA, pB, pC]
      refine tkL 15 (v := ?_) rfl (by kernel_rfl) (fun _ _ _ => id) (Or.inl ⟨by rfl, ?_⟩) (by assumption) ?_; rotate_left; (focus (intro wq hSq; have f := HF.out wq hSq; go_simp <;> with_reducible rfl)); simp only [Act.put, pA, pB, pC]
      refine tkL 16 (v := ?_) rfl (by kernel_rfl) (fun _ _ _ => id) (Or.inl ⟨by rfl, ?_⟩) (by assumption) ?_; rotate_left; (focus (intro wq hSq; have f := HF.out wq hSq; go_simp <;> with_reducible rfl)); simp only [Act.put, pA, pB, pC]
      refine tkL 17 (v := ?_) rfl (by kernel_rfl) (fun _ _ _ => id) (Or.inl ⟨by rfl, ?_⟩) (by assumption) ?_; rotate_left; (focus (intro wq hSq; have f := HF.out wq hSq; go_simp <;> with_reducible rfl)); simp only [Act.put, pA, pB, pC]
      refine tkL 18 (v := ?_) rfl (by kernel_rfl) (fun _ _ _ => id) (Or.inl ⟨by rfl, ?_⟩) (by assumption) ?_; rotate_left; (focus (intro wq hSq; have f := HF.out wq hSq; go_simp <;> with_reducible rfl)); simp only [Act.put, pA, pB, pC]
      refine tkL 19 (v := ?_) rfl (by kernel_rfl) (fun _ _ _ => id) (Or.inl ⟨by rfl, ?_⟩) (by assumption) ?_; rotate_left; (focus (intro wq hSq; have f := HF.out wq hSq; go_simp <;> with_reducible rfl)); simp only [Act.put, pA, pB, pC]
      refine tkL 20 (v := ?_) rfl (by kernel_rfl) (fun _ _ _ => id) (Or.inl ⟨by rfl, ?_⟩) (by assumption) ?_; rotate_left; (focus (intro wq hSq; have f := HF.out wq hSq; go_simp <;> with_reducible rfl)); simp only [Act.put, pA, pB, pC]
      refine tkL 21 (v := ?_) rfl (by kernel_rfl) (fun _ _ _ => id) (Or.inl ⟨by rfl, ?_⟩) (by assumption) ?_; rotate_left; (focus (intro wq hSq; have f := HF.out wq hSq; go_simp <;> with_reducible rfl)); simp only [Act.put, pA, pB, pC]
      refine wpAnyH_done (by kernel_rfl) ?_ _
      go_wp2_with fail
      go_ret
      exact ⟨rfl, HB.out⟩
   · have q' : (sn != -1) = false := by simp [bne, q]
     go_enter Tryz.func62, Tryz.ntmps62
     go_upto_region 2 with ((with_reducible refine HA.out.mono ?_); rintro e w1 ⟨rfl, hw1⟩; subst w1)
     refine wp_region_held_drew (S := fun wq => wq.cell? ⟨p, 2, none⟩ = some (.int .i64 tn) ∧ wq.cell? ⟨g, k * 15 + 2, none⟩ = some (.int .i64 sn)) (by kernel_rfl) (by rw [HZ.out]; exact ⟨b2, c2⟩) (fun hHeld => ?_)
     rw [HZ.out] at hHeld ⊢
     refine tkL 0 (v := ?_) rfl (by kernel_rfl) (fun _ _ _ => id) (Or.inl ⟨by rfl, ?_⟩) (by assumption) ?_; rotate_left; (focus (intro wq hSq; have f := HF.out wq hSq; go_simp <;> with_reducible rfl)); simp only [Act.put, pA, pB, pC]
     refine tkL 1 (v := ?_) rfl (by kernel_rfl) (fun _ _ _ => id) (Or.inl ⟨by rfl, ?_⟩) (by assumption) ?_; rotate_left; (focus (intro wq hSq; have f := HF.out wq hSq; go_simp <;> with_reducible rfl)); simp only [Act.put, pA, pB, pC]
     refine tkL 2 (v := ?_) rfl (by kernel_rfl) (fun _ _ _ => id) (Or.inl ⟨by rfl, ?_⟩) (by assumption) ?_; rotate_left; (focus (intro wq hSq; have f := HF.out wq hSq; go_simp <;> with_reducible rfl)); simp only [Act.put, pA, pB, pC]
     refine tkL 3 (v := ?_) rfl (by kernel_rfl) (fun _ _ _ => id) (Or.inl ⟨by rfl, ?_⟩) (by assumption) ?_; rotate_left; (focus (intro wq hSq; have f := HF.out wq hSq; go_simp <;> with_reducible rfl)); simp only [Act.put, pA, pB, pC]
     refine tkL 4 (v := ?_) rfl (by kernel_rfl) (fun _ _ _ => id) (Or.inl ⟨by rfl, ?_⟩) (by assumption) ?_; rotate_left; (focus (intro wq hSq; have f := HF.out wq hSq; go_simp <;> with_reducible rfl)); simp only [Act.put, pA, pB, pC]
     refine tkL 5 (v := ?_) rfl (by kernel_rfl) (fun _ _ _ => id) (Or.inl ⟨by rfl, ?_⟩) (by assumption) ?_; rotate_left; (focus (intro wq hSq; have f := HF.out wq hSq; go_simp <;> with_reducible rfl)); simp only [Act.put, pA, pB, pC]
     refine tkL 6 (v := ?_) rfl (by kernel_rfl) (fun _ _ _ => id) (Or.inl ⟨by rfl, ?_⟩) (by assumption) ?_; rotate_left; (focus (intro wq hSq; have f := HF.out wq hSq; go_simp <;> with_reducible rfl)); simp only [Act.put, pA, pB, pC]
     refine tkL 7 (v := ?_) rfl (by kernel_rfl) (fun _ _ _ => id) (Or.inl ⟨by rfl, ?_⟩) (by assumption) ?_; rotate_left; (focus (intro wq hSq; have f := HF.out wq hSq; go_simp <;> with_reducible rfl)); simp only [Act.put, pA, pB, pC]
     refine tkL 8 (v := ?_) rfl (by kernel_rfl) (fun _ _ _ => id) (Or.inl ⟨by rfl, ?_⟩) (by assumption) ?_; rotate_left; (focus (intro wq hSq; have f := HF.out wq hSq; go_simp <;> with_reducible rfl)); simp only [Act.put, pA, pB, pC]
     refine tkL 9 (v := ?_) rfl (by kernel_rfl) (fun _ _ _ => id) (Or.inl ⟨by rfl, ?_⟩) (by assumption) ?_; rotate_left; (focus (intro wq hSq; have f := HF.out wq hSq; go_simp <;> with_reducible rfl)); simp only [Act.put, pA, pB, pC]
     refine tkL 10 (v := undef) rfl (by kernel_rfl) (fun _ _ _ h => h) (Or.inr ⟨by rfl, rfl⟩) (by assumption) ?_; simp only [Act.put, pA, pB, pC]
     refine tkL 11 (v := undef) rfl (by kernel_rfl) (fun _ _ _ h => h) (Or.inr ⟨by rfl, rfl⟩) (by assumption) ?_; simp only [Act.put, pA, pB, pC]
     refine tkL 12 (v := undef) rfl (by kernel_rfl) (fun _ _ _ h => h) (Or.inr ⟨by rfl, rfl⟩) (by assumption) ?_; simp only [Act.put, pA, pB, pC]
     refine tkL 13 (v := undef) rfl (by kernel_rfl) (fun _ _ _ h => h) (Or.inr ⟨by rfl, rfl⟩) (by assumption) ?_; simp only [Act.put, pA, pB, pC]
     refine tkL 14 (v := undef) rfl (by kernel_rfl) (fun _ _ _ h => h) (Or.inr ⟨by rfl, rfl⟩) (by assumption) ?_; simp only [Act.put, pA, pB, pC]
     refine tkL 15 (v := undef) rfl (by kernel_rfl) (fun _ _ _ h => h) (Or.inr ⟨by rfl, rfl⟩) (by assumption) ?_; simp only [Act.put, pA, pB, pC]
     refine tkL 16 (v := undef) rfl (by kernel_rfl) (fun _ _ _ h => h) (Or.inr ⟨by rfl, rfl⟩) (by assumption) ?_; simp only [Act.put, pA, pB, pC]
     refine tkL 17 (v := undef) rfl (by kernel_rfl) (fun _ _ _ h => h) (Or.inr ⟨by rfl, rfl⟩) (by assumption) ?_; simp only [Act.put, pA, pB, pC]
     refine tkL 18 (v := undef) rfl (by kernel_rfl) (fun _ _ _ h => h) (Or.inr ⟨by rfl, rfl⟩) (by assumption) ?_; simp only [Act.put, pA, pB, pC]
     refine tkL 19 (v := undef) rfl (by kernel_rfl) (fun _ _ _ h => h) (Or.inr ⟨by rfl, rfl⟩) (by assumption) ?_; simp only [Act.put, pA, pB, pC]
     refine tkL 20 (v := ?_) rfl (by kernel_rfl) (fun _ _ _ => id) (Or.inl ⟨by rfl, ?_⟩) (by assumption) ?_; rotate_left; (focus (intro wq hSq; go_simp <;> with_reducible rfl)); simp only [Act.put, pA, pB, pC]
     refine tkL 21 (v := ?_) rfl (by kernel_rfl) (fun _ _ _ => id) (Or.inl ⟨by rfl, ?_⟩) (by assumption) ?_; rotate_left; (focus (intro wq hSq; go_simp <;> with_reducible rfl)); simp only [Act.put, pA, pB, pC]
     refine wpAnyH_done (by kernel_rfl) ?_ _
     go_wp2_with fail
     go_ret
     exact ⟨rfl, HB.out⟩

theorem infoPort : (Tryz.prog.info? 145).map (fun i => (i.zero, i.size, i.bytes)) = some (some (.agg #[.int .i64 0, .int .i64 0, .int .i64 0, .bool false, .bool false, .bool false, .int .u64 0, .int .i64 0, .int .u64 0, .int .i64 0, .int .i64 0, .bool false, .bool false, .bool false, .int .i64 0]), 15, 88) := by kernel_rfl
def prt0 (c : Int) : Prt := ⟨c, 0, -1, false, false, false, default, 0⟩
def RetNewT (w : World) (b : Int) (L : List Int) (e : Ending) (w' : World) : Prop :=
 Below w.heap.size w w' ∧ ((costsOk L = false ∧ e = .returned (.tuple #[.pointer none, .int .i64 1])) ∨ (costsOk L = true ∧ ∃ p g cap, e = .returned (.tuple #[.pointer (some ⟨p, 0, none⟩), .int .i64 0]) ∧ TreeAt w' p g cap (newTree b L) ∧ w.heap.size ≤ p ∧ w.heap.size ≤ g))
theorem own_base0 {w : World} {base size n : Nat} {e : TypeId} {v : Value} {xs : List Value} (h : w.ownsRow base e size v n xs) : w.ownsRow 0 e size v n xs := by
 rcases h.2 with ⟨rfl, h0⟩ | ⟨g, cap, cur, rfl, _, hr⟩
 · exact ⟨h.1, .inl ⟨rfl, h0⟩⟩
 · exact ⟨h.1, .inr ⟨g, cap, cur, rfl, Nat.zero_le _, hr⟩⟩
theorem costs_no {L : List Int} {k : Nat} (h : k < L.length) (hk : L[k] < 1 ∨ 200000000 < L[k]) : costsOk L = false := by
 cases hc : costsOk L
 · rfl
 · unfold costsOk at hc
   simp only [Bool.and_eq_true, List.all_eq_true] at hc
   have := hc.2 _ (List.getElem_mem h)
   simp at this
   omega
theorem costs_yes {L : List Int} (h1 : 1 ≤ L.length) (h2 : L.length ≤ 16) (h : ∀ j, (hj : j < L.length) → 1 ≤ L[j] ∧ L[j] ≤ 200000000) : costsOk L = true := by
 unfold costsOk
 simp only [Bool.and_eq_true, List.all_eq_true, decide_eq_true_eq]
 refine ⟨⟨h1, h2⟩, fun x hx => ?_⟩
 obtain ⟨j, hj, rfl⟩ := List.mem_iff_getElem.1 hx
 exact h j hj
theorem newTree_ok {b : Int} {L : List Int} (h : costsOk L = true) : TreOk (newTree b L) := by
 unfold costsOk at h
 simp only [Bool.and_eq_true, List.all_eq_true, decide_eq_true_eq] at h
 refine ⟨by simp [newTree], by simp [newTree]; exact h.1, by simp [newTree], fun p hp => ?_⟩
 obtain ⟨c, hc, rfl⟩ := List.mem_map.1 (show p ∈ L.map _ from hp)
 exact ⟨h.2 c hc, by simp, by simp, by simp [show (default : Bpd).age = 0 from rfl]⟩

set_option maxHeartbeats 8000000 in
theorem tnewt_any (b : Int) (v : Value) (L : List Int) (w : World) (h : Ints w v L) : Calls Tryz.prog 27 #[.int .u64 b, v] w (RetNewT w b L) := by
 obtain ⟨i0, hi0, hz0, hz1, hz2⟩ := info_parts23 infoPort
 obtain ⟨cb, off, hm, hlen, hidx, hc⟩ := h.facts
 have HC := Lib.hid hc; have HIX := Lib.hid hidx
 have HOW := Lib.hid (own_any b w)
 clear hc hidx h
 cases q1 : decide (L.length < 1)
 · cases q2 : decide (16 < L.length)
   · have hl1 : 1 ≤ L.length := by have := of_decide_eq_false q1; omega
     have hl2 : L.length ≤ 16 := by have := of_decide_eq_false q2; omega
     have e1 : decide ((L.length : Int) < 1) = false := decide_eq_false (by omega)
     have e2 : decide (16 < (L.length : Int)) = false := decide_eq_false (by omega)
     have n1 : ¬ ((L.length : Int) < 1) := by omega
     have n2 : ¬ (16 < (L.length : Int)) := by omega
     go_enter Tryz.func27, Tryz.ntmps27
     go_upto_region 4 with ((with_reducible refine HOW.out.mono ?_); rintro e w1 ⟨rfl, hb1⟩; have H1 := Lib.hid hb1; clear hb1; unfold vagg vown; dsimp only)
     obtain ⟨W2, hW2⟩ : ∃ W, w1.alloc (.cells #[.int .u64 b, .slice none 0 0, .int .i64 0, .int .i64 (-1), .int .i64 (-1), .int .u64 b, .int .i64 0, .int .u64 b, .int .i64 0] 143) = W := ⟨_, rfl⟩
     obtain ⟨tb, htb⟩ : ∃ n, w1.heap.size = n := ⟨_, rfl⟩
     have hb2 : Below w1.heap.size w1 W2 := by rw [← hW2]; exact (Below.refl _ _).alloc (Nat.le_refl _) _
     have X2 := Lib.hid (show CBox W2 tb 143 #[.int .u64 b, .slice none 0 0, .int .i64 0, .int .i64 (-1), .int .i64 (-1), .int .u64 b, .int .i64 0, .int .u64 b, .int .i64 0] from by rw [← hW2]; exact CBox.new _ htb.symm)
     have B2 := Lib.hid (H1.out.trans (hb2.mono H1.out.size))
     have HTB := Lib.hid (show w.heap.size ≤ tb from by rw [← htb]; exact H1.out.size)
     rw [hW2, htb]
     clear hW2 htb hb2 H1 HOW
     go_wp2_with fail
     go_loopw [24] (fun i wr => ∃ k u, k ≤ L.length ∧ i = .int .i64 (k : Nat) ∧ CBox wr tb 143 #[.int .u64 b, u, .int .i64 0, .int .i64 (-1), .int .i64 (-1), .int .u64 b, .int .i64 0, .int .u64 b, .int .i64 0] ∧ wr.ownsRow w.heap.size 145 15 u k (((L.take k).map prt0).flatMap pcell) ∧ Below w.heap.size w wr ∧ ∀ j, (hj : j < L.length) → j < k → 1 ≤ L[j] ∧ L[j] ≤ 200000000) (fun i _ => L.length - (intOf i).toNat)
     case atStart => exact ⟨0, _, Nat.zero_le _, rfl, X2.out, World.ownsRow_nil _ _ _ _, B2.out, fun j _ h => absurd h (by omega)⟩
     case round =>
      obtain ⟨k, u, hk, rfl, hx, hrow, hb, hall⟩ := hrel
      obtain ⟨ao, cap, rfl⟩ := own_form hrow
      have HX := Lib.hid hx; have HRW := Lib.hid hrow; have HB := Lib.hid hb; have HALL := Lib.hid hall
      have HNE := Lib.hid (own_ne_box hrow hx (by decide))
      clear hx hrow hb hall B2
      by_cases hlt : k < L.length
      · obtain ⟨hlb, c0⟩ := HC.out k hlt
        have hp := HIX.out k hlt
        have hgd : L.getD k 0 = L[k] := by simp [List.getD_eq_getElem?_getD, hlt]
        rw [hgd] at c0
        have d0 := (HB.out.cell (p := ⟨cb, off + k, none⟩) hlb).trans c0
        have HSN := Lib.hid (show ((L.take (k + 1)).map prt0).flatMap pcell = ((L.take k).map prt0).flatMap pcell ++ pcell (prt0 L[k]) from by rw [List.take_succ_eq_append_getElem hlt, List.map_append, List.flatMap_append]; simp)
        have HNO := Lib.hid (fun h => costs_no hlt h)
        obtain ⟨c, hcc⟩ : ∃ c, L[k] = c := ⟨_, rfl⟩
        have HCC := Lib.hid hcc
        rw [hcc] at d0 HSN HNO
        clear c0 hlb hgd hcc
        obtain ⟨y1, yf1⟩ := HX.out.at_ 1 _ rfl
        cases r1 : decide (c < 1)
        · cases r2 : decide (200000000 < c)
          · have HR := Lib.hid (show 1 ≤ c ∧ c ≤ 200000000 from by have := of_decide_eq_false r1; have := of_decide_eq_false r2; omega)
            have HSN := Lib.hid (show ((L.take (k + 1)).map prt0).flatMap pcell = ((L.take k).map prt0).flatMap pcell ++ [.int .i64 c, .int .i64 0, .int .i64 (-1), .bool false, .bool false, .bool false, .int .u64 0, .int .i64 0, .int .u64 0, .int .i64 0, .int .i64 0, .bool false, .bool false, .bool false, .int .i64 0] from HSN.out)
            have T1 := Lib.hid (HRW.out.alloc (.cells #[.int .i64 c, .int .i64 0, .int .i64 (-1), .bool false, .bool false, .bool false, .int .u64 0, .int .i64 0, .int .u64 0, .int .i64 0, .int .i64 0, .bool false, .bool false, .bool false, .int .i64 0] 145))
            have T2 := Lib.hid (sliceOf_block (size := 15) (m := 1) (c := 1) (heap_new wr (.cells #[.int .i64 c, .int .i64 0, .int .i64 (-1), .bool false, .bool false, .bool false, .int .u64 0, .int .i64 0, .int .u64 0, .int .i64 0, .int .i64 0, .bool false, .bool false, .bool false, .int .i64 0] 145) _ rfl) rfl (by simp [Value.oneCell']))
            have ha : Below wr.heap.size wr (wr.alloc (.cells #[.int .i64 c, .int .i64 0, .int .i64 (-1), .bool false, .bool false, .bool false, .int .u64 0, .int .i64 0, .int .u64 0, .int .i64 0, .int .i64 0, .bool false, .bool false, .bool false, .int .i64 0] 145)) := (Below.refl _ _).alloc (Nat.le_refl _) _
            have T3 := Lib.hid (show w.heap.size ≤ (wr.alloc (.cells #[.int .i64 c, .int .i64 0, .int .i64 (-1), .bool false, .bool false, .bool false, .int .u64 0, .int .i64 0, .int .u64 0, .int .i64 0, .int .i64 0, .bool false, .bool false, .bool false, .int .i64 0] 145)).heap.size from Nat.le_trans HB.out.size ha.size)
            have T4 := Lib.hid (HB.out.trans (ha.mono HB.out.size)); have T5 := Lib.hid (HX.out.below ha HX.out.lt)
            clear ha
            go_wp2_with (at_builtin; refine wpList_append_vals _ rfl _ _ 141 rfl w.heap.size 145 i0 _ 15 88 Tryz.underlying141 hi0 hz0 hz1 hz2 rfl (by decide) _ k (((L.take k).map prt0).flatMap pcell) rfl T1.out _ 1 [.int .i64 c, .int .i64 0, .int .i64 (-1), .bool false, .bool false, .bool false, .int .u64 0, .int .i64 0, .int .u64 0, .int .i64 0, .int .i64 0, .bool false, .bool false, .bool false, .int .i64 0] rfl T2.out (by unfold maxLen; omega) (by omega) T3.out ?_; intro v' w7 ho hg hv; obtain ⟨o7, c7, rfl⟩ := own_form ho; have hx7 := T5.out.grown hg (fun e => HNE.out tb e.symm rfl); obtain ⟨y7, yf7⟩ := hx7.at_ 1 _ rfl; have H7 := Lib.hid (And.intro ho (And.intro hg hx7)); clear ho hg hv hx7)
            go_roundw
            case rel =>
             have hs := H7.out.2.2.set 1 (.slice o7 (k + 1) c7)
             refine ⟨k + 1, .slice o7 (k + 1) c7, by omega, by go_num, by simpa using hs, ?_, (below_own T4.out T1.out (Nat.le_refl _) T3.out H7.out.2.1).setCell (p := ⟨tb, 1, none⟩) HTB.out _, fun j hj hjk => ?_⟩
             · rw [HSN.out]
               exact own_keep H7.out.1 fun g' hg' => Below.heap_setCell _ _ _ g' (own_ne_box H7.out.1 H7.out.2.2 (by decide) g' hg')
             · rcases Nat.lt_or_ge j k with q | q
               · exact HALL.out j hj q
               · obtain rfl : j = k := by omega
                 rw [HCC.out]; exact HR.out
            case measure => simp [intOf]; omega
          · have HN := Lib.hid (HNO.out (.inr (of_decide_eq_true r2)))
            go_wp2_with fail
            exact bodyPost_ret (v := .tuple #[.pointer none, .int .i64 1]) (by simp [results, Tryz.results27, go_sem]) rfl ⟨HB.out, .inl ⟨HN.out, rfl⟩⟩
        · have HN := Lib.hid (HNO.out (.inl (of_decide_eq_true r1)))
          go_wp2_with fail
          exact bodyPost_ret (v := .tuple #[.pointer none, .int .i64 1]) (by simp [results, Tryz.results27, go_sem]) rfl ⟨HB.out, .inl ⟨HN.out, rfl⟩⟩
      · obtain rfl : k = L.length := by omega
        have HY := Lib.hid (costs_yes hl1 hl2 (fun j hj => HALL.out j hj hj))
        have hrw := HRW.out
        rw [List.take_length] at hrw
        rcases hrw.2 with ⟨e, _⟩ | ⟨g, cap', cur, e, hg, _⟩
        · injection e with _ e _; omega
        · injection e with e1 _ e3
          subst e1 e3
          have HG := Lib.hid hg
          have HT := Lib.hid (show TreeAt wr tb g cap (newTree b L) from by
           have hn : (newTree b L).ports.length = L.length := by simp [newTree]
           refine ⟨?_, ?_⟩
           · rw [hn]; exact HX.out
           · rw [hn]; exact own_base0 hrw)
          clear hrw hg
          go_wp2_with fail
          exact bodyPost_ret (v := .tuple #[.pointer (some ⟨tb, 0, none⟩), .int .i64 0]) (by simp [results, Tryz.results27, go_sem]) rfl ⟨HB.out, .inr ⟨HY.out, tb, g, _, rfl, HT.out, HTB.out, HG.out⟩⟩
   · have hn : costsOk L = false := by have := of_decide_eq_true q2; unfold costsOk; simp; omega
     have b1 := of_decide_eq_false q1; have b2 := of_decide_eq_true q2
     have n1 : ¬ ((L.length : Int) < 1) := by omega
     have n2 : 16 < (L.length : Int) := by omega
     clear b1 b2
     have HN := Lib.hid hn
     clear hn
     go_enter Tryz.func27, Tryz.ntmps27
     go_wp2_with fail
     exact bodyPost_ret (v := .tuple #[.pointer none, .int .i64 1]) (by simp [results, Tryz.results27, go_sem]) rfl ⟨Below.refl _ _, .inl ⟨HN.out, rfl⟩⟩
 · have hn : costsOk L = false := by have := of_decide_eq_true q1; unfold costsOk; simp; omega
   have b1 := of_decide_eq_true q1
   have n1 : (L.length : Int) < 1 := by omega
   clear b1
   have HN := Lib.hid hn
   clear hn
   go_enter Tryz.func27, Tryz.ntmps27
   go_wp2_with fail
   exact bodyPost_ret (v := .tuple #[.pointer none, .int .i64 1]) (by simp [results, Tryz.results27, go_sem]) rfl ⟨Below.refl _ _, .inl ⟨HN.out, rfl⟩⟩
end Go.Proofs.YthcdppppppgckaaGreatDoor

namespace Go.Proofs.YthcdppppppgckaaGreatDoor
open Go.RowKit Go.Lib Go.Sort
set_option maxRecDepth 20000

theorem bits_and_i64_nat (a b : Nat) (ha : a < 9223372036854775808) (hb : b < 9223372036854775808) :
 bits .and .i64 (a : Int) (b : Int) = ((a &&& b : Nat) : Int) := by
 have hx : a &&& b < 2 ^ 63 := Nat.and_lt_two_pow _ (by omega)
 have h1 : (BitVec.ofInt 64 (a : Int)).toNat = a := by
  rw [BitVec.ofInt_natCast, BitVec.toNat_ofNat]; exact Nat.mod_eq_of_lt (by omega)
 have h2 : (BitVec.ofInt 64 (b : Int)).toNat = b := by
  rw [BitVec.ofInt_natCast, BitVec.toNat_ofNat]; exact Nat.mod_eq_of_lt (by omega)
 show IntKind.i64.wrap ((BitVec.ofInt 64 (a : Int) &&& BitVec.ofInt 64 (b : Int)).toNat : Int) = _
 rw [BitVec.toNat_and, h1, h2, IntKind.wrap_i64]
 omega
theorem and_one_i64 (E : Int) (h0 : 0 ≤ E) (h1 : E ≤ 9223372036854775807) : bits BinOp.and IntKind.i64 E 1 = E % 2 := by
 have h := bits_and_i64_nat E.toNat 1 (by omega) (by omega)
 rw [Nat.and_one_is_mod, Int.toNat_of_nonneg h0] at h
 have h2 : ((E.toNat % 2 : Nat) : Int) = E % 2 := by omega
 exact h.trans h2
theorem bstep_range {b : Int} {s : Int × Vec} {i : Nat} {h : Hrd} {n : Nat} (hs : s.1 = -1 ∨ (0 ≤ s.1 ∧ s.1 < n)) (hi : i < n) : (bstep b s i h).1 = -1 ∨ (0 ≤ (bstep b s i h).1 ∧ (bstep b s i h).1 < n) := by
 unfold bstep
 split
 · right
   dsimp only
   omega
 · exact hs
theorem pbestGo_range {b : Int} {n : Nat} : ∀ (l : List Hrd) (i : Nat) (s : Int × Vec), i + l.length ≤ n → (s.1 = -1 ∨ (0 ≤ s.1 ∧ s.1 < n)) → ((pbestGo b i s l).1 = -1 ∨ (0 ≤ (pbestGo b i s l).1 ∧ (pbestGo b i s l).1 < n))
 | [], _, _, _, h => h
 | x :: l, i, s, hl, h => by
   have hl' : i + (l.length + 1) ≤ n := by simpa using hl
   exact pbestGo_range l (i + 1) _ (by omega) (bstep_range h (by omega))
theorem pbest_range (b : Int) (l : List Hrd) : (pbest b l).1 = -1 ∨ (0 ≤ (pbest b l).1 ∧ (pbest b l).1 < l.length) := pbestGo_range l 0 _ (by omega) (.inl rfl)
theorem settle_root (t : Tre) : t.settle.root = -1 ∨ (0 ≤ t.settle.root ∧ t.settle.root < t.settle.ports.length) := by
 have h := pbest_range t.bridge (t.drop.ports.map hrd)
 have hl : t.settle.ports.length = (t.drop.ports.map hrd).length := by
  show (settle2 t.now t.drop.ports (proles t.bridge (t.drop.ports.map hrd))).length = _
  rw [settle2_len, proles_len, List.length_map, Nat.min_self]
 rw [hl]
 exact h
theorem ticksGo_snoc (t : Tre) : ∀ (l : List Prt) (i : Nat) (p : Prt), t.ticksGo i (l ++ [p]) = t.ticksGo i l ++ (if p.role == 2 then [t.tick1 (i + l.length) p] else [])
 | [], i, p => by simp [Tre.ticksGo]
 | x :: l, i, p => by
   have e : i + 1 + l.length = i + (x :: l).length := by simp; omega
   show (if x.role == 2 then [t.tick1 i x] else []) ++ t.ticksGo (i + 1) (l ++ [p]) = _
   rw [ticksGo_snoc t l (i + 1), e, ← List.append_assoc]
   rfl
theorem ticksGo_len (t : Tre) : ∀ (l : List Prt) (i : Nat), (t.ticksGo i l).length ≤ l.length
 | [], _ => Nat.le_refl _
 | x :: l, i => by
   have := ticksGo_len t l (i + 1)
   show ((if x.role == 2 then [t.tick1 i x] else []) ++ t.ticksGo (i + 1) l).length ≤ l.length + 1
   rw [List.length_append]
   split <;> simp <;> omega
theorem tick_ok {t : Tre} {now : Int} (h : TreOk t) : TreOk (t.tick now).1 := by
 unfold Tre.tick
 split
 · rename_i hc
   obtain ⟨h1, _⟩ := okAt_iff.1 hc
   refine settle_ok ⟨?_, h.len, h.change, h.ports⟩
   have := h.now
   dsimp only
   omega
 · exact h
end Go.Proofs.YthcdppppppgckaaGreatDoor
