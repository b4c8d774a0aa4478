/- Texts joined into one file: BLearn, BNewT, BAge, BTick. -/
import Derived.Test.YthcdppppppgckaaGreatDoorC08
import Derived.WalkSmall
import Derived.Deep.MidRow

namespace Go.Proofs.YthcdppppppgckaaGreatDoor
open Go.RowKit Go.Lib Go.Sort
set_option maxRecDepth 20000
set_option maxRecDepth 20000

set_option maxHeartbeats 4000000 in
theorem tlearns_any (p g cap : Nat) (t : Tre) (i : Int) (w : World) (h : TreeAt w p g cap t) (ok : TreOk t) :
 Calls Tryz.prog 62 #[.pointer (some ⟨p, 0, none⟩), .int .i64 i] w fun e w' => e = .returned (.bool (t.learns i)) ∧ Below w.heap.size w w' := by
 have HA := Lib.hid (tat_any p g cap t i 0 w h)
 obtain ⟨Z, hZ⟩ : ∃ W, w.drew = W := ⟨_, rfl⟩
 have hbz : Below w.heap.size w Z := by rw [← hZ]; exact Below.drew (Below.refl _ _)
 have HZ := Lib.hid hZ; have HB := Lib.hid hbz
 unfold Tre.learns
 cases hc : t.okAt i 0
 · rw [hc] at HA
   have HF := Lib.hid (fun (wq : World) (h : wq = Z) => h)
   clear hc h hZ hbz ok
   go_enter Tryz.func62, Tryz.ntmps62
   go_upto_region 2 with ((with_reducible refine HA.out.mono ?_); rintro e w1 ⟨rfl, hw1⟩; subst w1)
   refine wp_region_held_drew (S := fun wq => wq = Z) (by kernel_rfl) (by rw [HZ.out]) (fun hHeld => ?_)
   rw [HZ.out] at hHeld ⊢
   refine tkL 0 (v := ?_) rfl (by kernel_rfl) (fun _ _ _ => id) (Or.inl ⟨by rfl, ?_⟩) (by assumption) ?_; rotate_left; (focus (intro wq hSq; go_simp <;> with_reducible rfl)); simp only [Act.put, pA, pB, pC]
   refine tkL 1 (v := ?_) rfl (by kernel_rfl) (fun _ _ _ => id) (Or.inl ⟨by rfl, ?_⟩) (by assumption) ?_; rotate_left; (focus (intro wq hSq; go_simp <;> with_reducible rfl)); simp only [Act.put, pA, pB, pC]
   refine tkL 2 (v := ?_) rfl (by kernel_rfl) (fun _ _ _ => id) (Or.inl ⟨by rfl, ?_⟩) (by assumption) ?_; rotate_left; (focus (intro wq hSq; go_simp <;> with_reducible rfl)); simp only [Act.put, pA, pB, pC]
   refine tkL 3 (v := undef) rfl (by kernel_rfl) (fun _ _ _ h => h) (Or.inr ⟨by rfl, rfl⟩) (by assumption) ?_; simp only [Act.put, pA, pB, pC]
   refine tkL 4 (v := undef) rfl (by kernel_rfl) (fun _ _ _ h => h) (Or.inr ⟨by rfl, rfl⟩) (by assumption) ?_; simp only [Act.put, pA, pB, pC]
   refine tkL 5 (v := undef) rfl (by kernel_rfl) (fun _ _ _ h => h) (Or.inr ⟨by rfl, rfl⟩) (by assumption) ?_; simp only [Act.put, pA, pB, pC]
   refine tkL 6 (v := undef) rfl (by kernel_rfl) (fun _ _ _ h => h) (Or.inr ⟨by rfl, rfl⟩) (by assumption) ?_; simp only [Act.put, pA, pB, pC]
   refine tkL 7 (v := undef) rfl (by kernel_rfl) (fun _ _ _ h => h) (Or.inr ⟨by rfl, rfl⟩) (by assumption) ?_; simp only [Act.put, pA, pB, pC]
   refine tkL 8 (v := ?_) rfl (by kernel_rfl) (fun _ _ _ => id) (Or.inl ⟨by rfl, ?_⟩) (by assumption) ?_; rotate_left; (focus (intro wq hSq; go_simp <;> with_reducible rfl)); simp only [Act.put, pA, pB, pC]
   refine tkL 9 (v := ?_) rfl (by kernel_rfl) (fun _ _ _ => id) (Or.inl ⟨by rfl, ?_⟩) (by assumption) ?_; rotate_left; (focus (intro wq hSq; go_simp <;> with_reducible rfl)); simp only [Act.put, pA, pB, pC]
   refine tkL 10 (v := undef) rfl (by kernel_rfl) (fun _ _ _ h => h) (Or.inr ⟨by rfl, rfl⟩) (by assumption) ?_; simp only [Act.put, pA, pB, pC]
   refine tkL 11 (v := undef) rfl (by kernel_rfl) (fun _ _ _ h => h) (Or.inr ⟨by rfl, rfl⟩) (by assumption) ?_; simp only [Act.put, pA, pB, pC]
   refine tkL 12 (v := undef) rfl (by kernel_rfl) (fun _ _ _ h => h) (Or.inr ⟨by rfl, rfl⟩) (by assumption) ?_; simp only [Act.put, pA, pB, pC]
   refine tkL 13 (v := undef) rfl (by kernel_rfl) (fun _ _ _ h => h) (Or.inr ⟨by rfl, rfl⟩) (by assumption) ?_; simp only [Act.put, pA, pB, pC]
   refine tkL 14 (v := undef) rfl (by kernel_rfl) (fun _ _ _ h => h) (Or.inr ⟨by rfl, rfl⟩) (by assumption) ?_; simp only [Act.put, pA, pB, pC]
   refine tkL 15 (v := undef) rfl (by kernel_rfl) (fun _ _ _ h => h) (Or.inr ⟨by rfl, rfl⟩) (by assumption) ?_; simp only [Act.put, pA, pB, pC]
   refine tkL 16 (v := undef) rfl (by kernel_rfl) (fun _ _ _ h => h) (Or.inr ⟨by rfl, rfl⟩) (by assumption) ?_; simp only [Act.put, pA, pB, pC]
   refine tkL 17 (v := undef) rfl (by kernel_rfl) (fun _ _ _ h => h) (Or.inr ⟨by rfl, rfl⟩) (by assumption) ?_; simp only [Act.put, pA, pB, pC]
   refine tkL 18 (v := undef) rfl (by kernel_rfl) (fun _ _ _ h => h) (Or.inr ⟨by rfl, rfl⟩) (by assumption) ?_; simp only [Act.put, pA, pB, pC]
   refine tkL 19 (v := undef) rfl (by kernel_rfl) (fun _ _ _ h => h) (Or.inr ⟨by rfl, rfl⟩) (by assumption) ?_; simp only [Act.put, pA, pB, pC]
   refine tkL 20 (v := ?_) rfl (by kernel_rfl) (fun _ _ _ => id) (Or.inl ⟨by rfl, ?_⟩) (by assumption) ?_; rotate_left; (focus (intro wq hSq; go_simp <;> with_reducible rfl)); simp only [Act.put, pA, pB, pC]
   refine tkL 21 (v := ?_) rfl (by kernel_rfl) (fun _ _ _ => id) (Or.inl ⟨by rfl, ?_⟩) (by assumption) ?_; rotate_left; (focus (intro wq hSq; go_simp <;> with_reducible rfl)); simp only [Act.put, pA, pB, pC]
   refine wpAnyH_done (by kernel_rfl) ?_ _
   go_wp2_with fail
   go_ret
   exact ⟨rfl, HB.out⟩
 · rw [hc] at HA
   obtain ⟨h1, h2, h3⟩ := okAt_iff.1 hc
   obtain ⟨k, rfl⟩ := Int.eq_ofNat_of_zero_le h2
   have hk : k < t.ports.length := by omega
   have hb2 := h.below hbz
   obtain ⟨_, c2, _, _⟩ := hb2.getD (k := k) hk
   obtain ⟨b2, _⟩ := hb2.boxc.at_ 2 _ rfl
   have hps := (ok.ports _ (List.getElem_mem hk)).since
   have hgd : t.ports.getD k default = t.ports[k] := by simp [List.getD_eq_getElem?_getD, hk]
   have hnow := ok.now
   rw [if_pos rfl] at HA
   rw [Int.toNat_natCast] at HA ⊢
   rw [hgd] at c2 ⊢
   obtain ⟨sn, hsn⟩ : ∃ s, t.ports[k].since = s := ⟨_, rfl⟩
   obtain ⟨tn, htn⟩ : ∃ s, t.now = s := ⟨_, rfl⟩
   rw [hsn] at c2 hps ⊢
   rw [htn] at b2 hnow ⊢
   have hsub : IntKind.i64.wrap (tn - sn) = tn - sn := by rw [IntKind.wrap_i64]; omega
   have HF := Lib.hid (fun (wq : World) (h : wq.cell? ⟨p, 2, none⟩ = some (.int .i64 tn) ∧ wq.cell? ⟨g, k * 15 + 2, none⟩ = some (.int .i64 sn)) => h)
   clear hc h hZ hbz ok h1 h2 h3 hk hb2 hps hgd hnow hsn htn
   cases q : (sn == -1)
   · have q' : (sn != -1) = true := by simp [bne, q]
     cases d : decide (15 ≤ tn - sn)
     all_goals
      go_enter Tryz.func62, Tryz.ntmps62
      go_upto_region 2 with ((with_reducible refine HA.out.mono ?_); rintro e w1 ⟨rfl, hw1⟩; subst w1)
      refine wp_region_held_drew (S := fun wq => wq.cell? ⟨p, 2, none⟩ = some (.int .i64 tn) ∧ wq.cell? ⟨g, k * 15 + 2, none⟩ = some (.int .i64 sn)) (by kernel_rfl) (by rw [HZ.out]; exact ⟨b2, c2⟩) (fun hHeld => ?_)
      rw [HZ.out] at hHeld ⊢
      refine tkL 0 (v := ?_) rfl (by kernel_rfl) (fun _ _ _ => id) (Or.inl ⟨by rfl, ?_⟩) (by assumption) ?_; rotate_left; (focus (intro wq hSq; have f := HF.out wq hSq; go_simp <;> with_reducible rfl)); simp only [Act.put, pA, pB, pC]
      refine tkL 1 (v := ?_) rfl (by kernel_rfl) (fun _ _ _ => id) (Or.inl ⟨by rfl, ?_⟩) (by assumption) ?_; rotate_left; (focus (intro wq hSq; have f := HF.out wq hSq; go_simp <;> with_reducible rfl)); simp only [Act.put, pA, pB, pC]
      refine tkL 2 (v := ?_) rfl (by kernel_rfl) (fun _ _ _ => id) (Or.inl ⟨by rfl, ?_⟩) (by assumption) ?_; rotate_left; (focus (intro wq hSq; have f := HF.out wq hSq; go_simp <;> with_reducible rfl)); simp only [Act.put, pA, pB, pC]
      refine tkL 3 (v := ?_) rfl (by kernel_rfl) (fun _ _ _ => id) (Or.inl ⟨by rfl, ?_⟩) (by assumption) ?_; rotate_left; (focus (intro wq hSq; have f := HF.out wq hSq; go_simp <;> with_reducible rfl)); simp only [Act.put, pA, pB, pC]
      refine tkL 4 (v := ?_) rfl (by kernel_rfl) (fun _ _ _ => id) (Or.inl ⟨by rfl, ?_⟩) (by assumption) ?_; rotate_left; (focus (intro wq hSq; have f := HF.out wq hSq; go_simp <;> with_reducible rfl)); simp only [Act.put, pA, pB, pC]
      refine tkL 5 (v := ?_) rfl (by kernel_rfl) (fun _ _ _ => id) (Or.inl ⟨by rfl, ?_⟩) (by assumption) ?_; rotate_left; (focus (intro wq hSq; have f := HF.out wq hSq; go_simp <;> with_reducible rfl)); simp only [Act.put, pA, pB, pC]
      refine tkL 6 (v := ?_) rfl (by kernel_rfl) (fun _ _ _ => id) (Or.inl ⟨by rfl, ?_⟩) (by assumption) ?_; rotate_left; (focus (intro wq hSq; have f := HF.out wq hSq; go_simp <;> with_reducible rfl)); simp only [Act.put, pA, pB, pC]
      refine tkL 7 (v := ?_) rfl (by kernel_rfl) (fun _ _ _ => id) (Or.inl ⟨by rfl, ?_⟩) (by assumption) ?_; rotate_left; (focus (intro wq hSq; have f := HF.out wq hSq; go_simp <;> with_reducible rfl)); simp only [Act.put, pA, pB, pC]
      refine tkL 8 (v := ?_) rfl (by kernel_rfl) (fun _ _ _ => id) (Or.inl ⟨by rfl, ?_⟩) (by assumption) ?_; rotate_left; (focus (intro wq hSq; have f := HF.out wq hSq; go_simp <;> with_reducible rfl)); simp only [Act.put, pA, pB, pC]
      refine tkL 9 (v := ?_) rfl (by kernel_rfl) (fun _ _ _ => id) (Or.inl ⟨by rfl, ?_⟩) (by assumption) ?_; rotate_left; (focus (intro wq hSq; have f := HF.out wq hSq; go_simp <;> with_reducible rfl)); simp only [Act.put, pA, pB, pC]
      refine tkL 10 (v := ?_) rfl (by kernel_rfl) (fun _ _ _ => id) (Or.inl ⟨by rfl, ?_⟩) (by assumption) ?_; rotate_left; (focus (intro wq hSq; have f := HF.out wq hSq; go_simp <;> with_reducible rfl)); simp only [Act.put, pA, pB, pC]
      refine tkL 11 (v := ?_) rfl (by kernel_rfl) (fun _ _ _ => id) (Or.inl ⟨by rfl, ?_⟩) (by assumption) ?_; rotate_left; (focus (intro wq hSq; have f := HF.out wq hSq; go_simp <;> with_reducible rfl)); simp only [Act.put, pA, pB, pC]
      refine tkL 12 (v := ?_) rfl (by kernel_rfl) (fun _ _ _ => id) (Or.inl ⟨by rfl, ?_⟩) (by assumption) ?_; rotate_left; (focus (intro wq hSq; have f := HF.out wq hSq; go_simp <;> with_reducible rfl)); simp only [Act.put, pA, pB, pC]
      refine tkL 13 (v := ?_) rfl (by kernel_rfl) (fun _ _ _ => id) (Or.inl ⟨by rfl, ?_⟩) (by assumption) ?_; rotate_left; (focus (intro wq hSq; have f := HF.out wq hSq; go_simp <;> with_reducible rfl)); simp only [Act.put, pA, pB, pC]
      refine tkL 14 (v := ?_) rfl (by kernel_rfl) (fun _ _ _ => id) (Or.inl ⟨by rfl, ?_⟩) (by assumption) ?_; rotate_left; (focus (intro wq hSq; have f := HF.out wq hSq; go_simp <;> with_reducible rfl)); simp only [Act.put, pA, pB, pC]
      refine tkL 15 (v := ?_) rfl (by kernel_rfl) (fun _ _ _ => id) (Or.inl ⟨by rfl, ?_⟩) (by assumption) ?_; rotate_left; (focus (intro wq hSq; have f := HF.out wq hSq; go_simp <;> with_reducible rfl)); simp only [Act.put, pA, pB, pC]
      refine tkL 16 (v := ?_) rfl (by kernel_rfl) (fun _ _ _ => id) (Or.inl ⟨by rfl, ?_⟩) (by assumption) ?_; rotate_left; (focus (intro wq hSq; have f := HF.out wq hSq; go_simp <;> with_reducible rfl)); simp only [Act.put, pA, pB, pC]
      refine tkL 17 (v := ?_) rfl (by kernel_rfl) (fun _ _ _ => id) (Or.inl ⟨by rfl, ?_⟩) (by assumption) ?_; rotate_left; (focus (intro wq hSq; have f := HF.out wq hSq; go_simp <;> with_reducible rfl)); simp only [Act.put, pA, pB, pC]
      refine tkL 18 (v := ?_) rfl (by kernel_rfl) (fun _ _ _ => id) (Or.inl ⟨by rfl, ?_⟩) (by assumption) ?_; rotate_left; (focus (intro wq hSq; have f := HF.out wq hSq; go_simp <;> with_reducible rfl)); simp only [Act.put, pA, pB, pC]
      refine tkL 19 (v := ?_) rfl (by kernel_rfl) (fun _ _ _ => id) (Or.inl ⟨by rfl, ?_⟩) (by assumption) ?_; rotate_left; (focus (intro wq hSq; have f := HF.out wq hSq; go_simp <;> with_reducible rfl)); simp only [Act.put, pA, pB, pC]
      refine tkL 20 (v := ?_) rfl (by kernel_rfl) (fun _ _ _ => id) (Or.inl ⟨by rfl, ?_⟩) (by assumption) ?_; rotate_left; (focus (intro wq hSq; have f := HF.out wq hSq; go_simp <;> with_reducible rfl)); simp only [Act.put, pA, pB, pC]
      refine tkL 21 (v := ?_) rfl (by kernel_rfl) (fun _ _ _ => id) (Or.inl ⟨by rfl, ?_⟩) (by assumption) ?_; rotate_left; (focus (intro wq hSq; have f := HF.out wq hSq; go_simp <;> with_reducible rfl)); simp only [Act.put, pA, pB, pC]
      refine wpAnyH_done (by kernel_rfl) ?_ _
      go_wp2_with fail
      go_ret
      exact ⟨rfl, HB.out⟩
   · have q' : (sn != -1) = false := by simp [bne, q]
     go_enter Tryz.func62, Tryz.ntmps62
     go_upto_region 2 with ((with_reducible refine HA.out.mono ?_); rintro e w1 ⟨rfl, hw1⟩; subst w1)
     refine wp_region_held_drew (S := fun wq => wq.cell? ⟨p, 2, none⟩ = some (.int .i64 tn) ∧ wq.cell? ⟨g, k * 15 + 2, none⟩ = some (.int .i64 sn)) (by kernel_rfl) (by rw [HZ.out]; exact ⟨b2, c2⟩) (fun hHeld => ?_)
     rw [HZ.out] at hHeld ⊢
     refine tkL 0 (v := ?_) rfl (by kernel_rfl) (fun _ _ _ => id) (Or.inl ⟨by rfl, ?_⟩) (by assumption) ?_; rotate_left; (focus (intro wq hSq; have f := HF.out wq hSq; go_simp <;> with_reducible rfl)); simp only [Act.put, pA, pB, pC]
     refine tkL 1 (v := ?_) rfl (by kernel_rfl) (fun _ _ _ => id) (Or.inl ⟨by rfl, ?_⟩) (by assumption) ?_; rotate_left; (focus (intro wq hSq; have f := HF.out wq hSq; go_simp <;> with_reducible rfl)); simp only [Act.put, pA, pB, pC]
     refine tkL 2 (v := ?_) rfl (by kernel_rfl) (fun _ _ _ => id) (Or.inl ⟨by rfl, ?_⟩) (by assumption) ?_; rotate_left; (focus (intro wq hSq; have f := HF.out wq hSq; go_simp <;> with_reducible rfl)); simp only [Act.put, pA, pB, pC]
     refine tkL 3 (v := ?_) rfl (by kernel_rfl) (fun _ _ _ => id) (Or.inl ⟨by rfl, ?_⟩) (by assumption) ?_; rotate_left; (focus (intro wq hSq; have f := HF.out wq hSq; go_simp <;> with_reducible rfl)); simp only [Act.put, pA, pB, pC]
     refine tkL 4 (v := ?_) rfl (by kernel_rfl) (fun _ _ _ => id) (Or.inl ⟨by rfl, ?_⟩) (by assumption) ?_; rotate_left; (focus (intro wq hSq; have f := HF.out wq hSq; go_simp <;> with_reducible rfl)); simp only [Act.put, pA, pB, pC]
     refine tkL 5 (v := ?_) rfl (by kernel_rfl) (fun _ _ _ => id) (Or.inl ⟨by rfl, ?_⟩) (by assumption) ?_; rotate_left; (focus (intro wq hSq; have f := HF.out wq hSq; go_simp <;> with_reducible rfl)); simp only [Act.put, pA, pB, pC]
     refine tkL 6 (v := ?_) rfl (by kernel_rfl) (fun _ _ _ => id) (Or.inl ⟨by rfl, ?_⟩) (by assumption) ?_; rotate_left; (focus (intro wq hSq; have f := HF.out wq hSq; go_simp <;> with_reducible rfl)); simp only [Act.put, pA, pB, pC]
     refine tkL 7 (v := ?_) rfl (by kernel_rfl) (fun _ _ _ => id) (Or.inl ⟨by rfl, ?_⟩) (by assumption) ?_; rotate_left; (focus (intro wq hSq; have f := HF.out wq hSq; go_simp <;> with_reducible rfl)); simp only [Act.put, pA, pB, pC]
     refine tkL 8 (v := ?_) rfl (by kernel_rfl) (fun _ _ _ => id) (Or.inl ⟨by rfl, ?_⟩) (by assumption) ?_; rotate_left; (focus (intro wq hSq; have f := HF.out wq hSq; go_simp <;> with_reducible rfl)); simp only [Act.put, pA, pB, pC]
     refine tkL 9 (v := ?_) rfl (by kernel_rfl) (fun _ _ _ => id) (Or.inl ⟨by rfl, ?_⟩) (by assumption) ?_; rotate_left; (focus (intro wq hSq; have f := HF.out wq hSq; go_simp <;> with_reducible rfl)); simp only [Act.put, pA, pB, pC]
     refine tkL 10 (v := undef) rfl (by kernel_rfl) (fun _ _ _ h => h) (Or.inr ⟨by rfl, rfl⟩) (by assumption) ?_; simp only [Act.put, pA, pB, pC]
     refine tkL 11 (v := undef) rfl (by kernel_rfl) (fun _ _ _ h => h) (Or.inr ⟨by rfl, rfl⟩) (by assumption) ?_; simp only [Act.put, pA, pB, pC]
     refine tkL 12 (v := undef) rfl (by kernel_rfl) (fun _ _ _ h => h) (Or.inr ⟨by rfl, rfl⟩) (by assumption) ?_; simp only [Act.put, pA, pB, pC]
     refine tkL 13 (v := undef) rfl (by kernel_rfl) (fun _ _ _ h => h) (Or.inr ⟨by rfl, rfl⟩) (by assumption) ?_; simp only [Act.put, pA, pB, pC]
     refine tkL 14 (v := undef) rfl (by kernel_rfl) (fun _ _ _ h => h) (Or.inr ⟨by rfl, rfl⟩) (by assumption) ?_; simp only [Act.put, pA, pB, pC]
     refine tkL 15 (v := undef) rfl (by kernel_rfl) (fun _ _ _ h => h) (Or.inr ⟨by rfl, rfl⟩) (by assumption) ?_; simp only [Act.put, pA, pB, pC]
     refine tkL 16 (v := undef) rfl (by kernel_rfl) (fun _ _ _ h => h) (Or.inr ⟨by rfl, rfl⟩) (by assumption) ?_; simp only [Act.put, pA, pB, pC]
     refine tkL 17 (v := undef) rfl (by kernel_rfl) (fun _ _ _ h => h) (Or.inr ⟨by rfl, rfl⟩) (by assumption) ?_; simp only [Act.put, pA, pB, pC]
     refine tkL 18 (v := undef) rfl (by kernel_rfl) (fun _ _ _ h => h) (Or.inr ⟨by rfl, rfl⟩) (by assumption) ?_; simp only [Act.put, pA, pB, pC]
     refine tkL 19 (v := undef) rfl (by kernel_rfl) (fun _ _ _ h => h) (Or.inr ⟨by rfl, rfl⟩) (by assumption) ?_; simp only [Act.put, pA, pB, pC]
     refine tkL 20 (v := ?_) rfl (by kernel_rfl) (fun _ _ _ => id) (Or.inl ⟨by rfl, ?_⟩) (by assumption) ?_; rotate_left; (focus (intro wq hSq; go_simp <;> with_reducible rfl)); simp only [Act.put, pA, pB, pC]
     refine tkL 21 (v := ?_) rfl (by kernel_rfl) (fun _ _ _ => id) (Or.inl ⟨by rfl, ?_⟩) (by assumption) ?_; rotate_left; (focus (intro wq hSq; go_simp <;> with_reducible rfl)); simp only [Act.put, pA, pB, pC]
     refine wpAnyH_done (by kernel_rfl) ?_ _
     go_wp2_with fail
     go_ret
     exact ⟨rfl, HB.out⟩

theorem infoPort : (Tryz.prog.info? 145).map (fun i => (i.zero, i.size, i.bytes)) = some (some (.agg #[.int .i64 0, .int .i64 0, .int .i64 0, .bool false, .bool false, .bool false, .int .u64 0, .int .i64 0, .int .u64 0, .int .i64 0, .int .i64 0, .bool false, .bool false, .bool false, .int .i64 0]), 15, 88) := by kernel_rfl
def prt0 (c : Int) : Prt := ⟨c, 0, -1, false, false, false, default, 0⟩
def RetNewT (w : World) (b : Int) (L : List Int) (e : Ending) (w' : World) : Prop :=
 Below w.heap.size w w' ∧ ((costsOk L = false ∧ e = .returned (.tuple #[.pointer none, .int .i64 1])) ∨ (costsOk L = true ∧ ∃ p g cap, e = .returned (.tuple #[.pointer (some ⟨p, 0, none⟩), .int .i64 0]) ∧ TreeAt w' p g cap (newTree b L) ∧ w.heap.size ≤ p ∧ w.heap.size ≤ g))
theorem own_base0 {w : World} {base size n : Nat} {e : TypeId} {v : Value} {xs : List Value} (h : w.ownsRow base e size v n xs) : w.ownsRow 0 e size v n xs := by
 rcases h.2 with ⟨rfl, h0⟩ | ⟨g, cap, cur, rfl, _, hr⟩
 · exact ⟨h.1, .inl ⟨rfl, h0⟩⟩
 · exact ⟨h.1, .inr ⟨g, cap, cur, rfl, Nat.zero_le _, hr⟩⟩
theorem costs_no {L : List Int} {k : Nat} (h : k < L.length) (hk : L[k] < 1 ∨ 200000000 < L[k]) : costsOk L = false := by
 cases hc : costsOk L
 · rfl
 · unfold costsOk at hc
   simp only [Bool.and_eq_true, List.all_eq_true] at hc
   have := hc.2 _ (List.getElem_mem h)
   simp at this
   omega
theorem costs_yes {L : List Int} (h1 : 1 ≤ L.length) (h2 : L.length ≤ 16) (h : ∀ j, (hj : j < L.length) → 1 ≤ L[j] ∧ L[j] ≤ 200000000) : costsOk L = true := by
 unfold costsOk
 simp only [Bool.and_eq_true, List.all_eq_true, decide_eq_true_eq]
 refine ⟨⟨h1, h2⟩, fun x hx => ?_⟩
 obtain ⟨j, hj, rfl⟩ := List.mem_iff_getElem.1 hx
 exact h j hj
theorem newTree_ok {b : Int} {L : List Int} (h : costsOk L = true) : TreOk (newTree b L) := by
 unfold costsOk at h
 simp only [Bool.and_eq_true, List.all_eq_true, decide_eq_true_eq] at h
 refine ⟨by simp [newTree], by simp [newTree]; exact h.1, by simp [newTree], fun p hp => ?_⟩
 obtain ⟨c, hc, rfl⟩ := List.mem_map.1 (show p ∈ L.map _ from hp)
 exact ⟨h.2 c hc, by simp, by simp, by simp [show (default : Bpd).age = 0 from rfl]⟩

set_option maxHeartbeats 8000000 in
theorem tnewt_any (b : Int) (v : Value) (L : List Int) (w : World) (h : Ints w v L) : Calls Tryz.prog 27 #[.int .u64 b, v] w (RetNewT w b L) := by
 obtain ⟨i0, hi0, hz0, hz1, hz2⟩ := info_parts23 infoPort
 obtain ⟨cb, off, hm, hlen, hidx, hc⟩ := h.facts
 have HC := Lib.hid hc; have HIX := Lib.hid hidx
 have HOW := Lib.hid (own_any b w)
 clear hc hidx h
 cases q1 : decide (L.length < 1)
 · cases q2 : decide (16 < L.length)
   · have hl1 : 1 ≤ L.length := by have := of_decide_eq_false q1; omega
     have hl2 : L.length ≤ 16 := by have := of_decide_eq_false q2; omega
     have e1 : decide ((L.length : Int) < 1) = false := decide_eq_false (by omega)
     have e2 : decide (16 < (L.length : Int)) = false := decide_eq_false (by omega)
     have n1 : ¬ ((L.length : Int) < 1) := by omega
     have n2 : ¬ (16 < (L.length : Int)) := by omega
     go_enter Tryz.func27, Tryz.ntmps27
     go_upto_region 4 with ((with_reducible refine HOW.out.mono ?_); rintro e w1 ⟨rfl, hb1⟩; have H1 := Lib.hid hb1; clear hb1; unfold vagg vown; dsimp only)
     obtain ⟨W2, hW2⟩ : ∃ W, w1.alloc (.cells #[.int .u64 b, .slice none 0 0, .int .i64 0, .int .i64 (-1), .int .i64 (-1), .int .u64 b, .int .i64 0, .int .u64 b, .int .i64 0] 143) = W := ⟨_, rfl⟩
     obtain ⟨tb, htb⟩ : ∃ n, w1.heap.size = n := ⟨_, rfl⟩
     have hb2 : Below w1.heap.size w1 W2 := by rw [← hW2]; exact (Below.refl _ _).alloc (Nat.le_refl _) _
     have X2 := Lib.hid (show CBox W2 tb 143 #[.int .u64 b, .slice none 0 0, .int .i64 0, .int .i64 (-1), .int .i64 (-1), .int .u64 b, .int .i64 0, .int .u64 b, .int .i64 0] from by rw [← hW2]; exact CBox.new _ htb.symm)
     have B2 := Lib.hid (H1.out.trans (hb2.mono H1.out.size))
     have HTB := Lib.hid (show w.heap.size ≤ tb from by rw [← htb]; exact H1.out.size)
     rw [hW2, htb]
     clear hW2 htb hb2 H1 HOW
     go_wp2_with fail
     go_loopw [24] (fun i wr => ∃ k u, k ≤ L.length ∧ i = .int .i64 (k : Nat) ∧ CBox wr tb 143 #[.int .u64 b, u, .int .i64 0, .int .i64 (-1), .int .i64 (-1), .int .u64 b, .int .i64 0, .int .u64 b, .int .i64 0] ∧ wr.ownsRow w.heap.size 145 15 u k (((L.take k).map prt0).flatMap pcell) ∧ Below w.heap.size w wr ∧ ∀ j, (hj : j < L.length) → j < k → 1 ≤ L[j] ∧ L[j] ≤ 200000000) (fun i _ => L.length - (intOf i).toNat)
     case atStart => exact ⟨0, _, Nat.zero_le _, rfl, X2.out, World.ownsRow_nil _ _ _ _, B2.out, fun j _ h => absurd h (by omega)⟩
     case round =>
      obtain ⟨k, u, hk, rfl, hx, hrow, hb, hall⟩ := hrel
      obtain ⟨ao, cap, rfl⟩ := own_form hrow
      have HX := Lib.hid hx; have HRW := Lib.hid hrow; have HB := Lib.hid hb; have HALL := Lib.hid hall
      have HNE := Lib.hid (own_ne_box hrow hx (by decide))
      clear hx hrow hb hall B2
      by_cases hlt : k < L.length
      · obtain ⟨hlb, c0⟩ := HC.out k hlt
        have hp := HIX.out k hlt
        have hgd : L.getD k 0 = L[k] := by simp [List.getD_eq_getElem?_getD, hlt]
        rw [hgd] at c0
        have d0 := (HB.out.cell (p := ⟨cb, off + k, none⟩) hlb).trans c0
        have HSN := Lib.hid (show ((L.take (k + 1)).map prt0).flatMap pcell = ((L.take k).map prt0).flatMap pcell ++ pcell (prt0 L[k]) from by rw [List.take_succ_eq_append_getElem hlt, List.map_append, List.flatMap_append]; simp)
        have HNO := Lib.hid (fun h => costs_no hlt h)
        obtain ⟨c, hcc⟩ : ∃ c, L[k] = c := ⟨_, rfl⟩
        have HCC := Lib.hid hcc
        rw [hcc] at d0 HSN HNO
        clear c0 hlb hgd hcc
        obtain ⟨y1, yf1⟩ := HX.out.at_ 1 _ rfl
        cases r1 : decide (c < 1)
        · cases r2 : decide (200000000 < c)
          · have HR := Lib.hid (show 1 ≤ c ∧ c ≤ 200000000 from by have := of_decide_eq_false r1; have := of_decide_eq_false r2; omega)
            have HSN := Lib.hid (show ((L.take (k + 1)).map prt0).flatMap pcell = ((L.take k).map prt0).flatMap pcell ++ [.int .i64 c, .int .i64 0, .int .i64 (-1), .bool false, .bool false, .bool false, .int .u64 0, .int .i64 0, .int .u64 0, .int .i64 0, .int .i64 0, .bool false, .bool false, .bool false, .int .i64 0] from HSN.out)
            have T1 := Lib.hid (HRW.out.alloc (.cells #[.int .i64 c, .int .i64 0, .int .i64 (-1), .bool false, .bool false, .bool false, .int .u64 0, .int .i64 0, .int .u64 0, .int .i64 0, .int .i64 0, .bool false, .bool false, .bool false, .int .i64 0] 145))
            have T2 := Lib.hid (sliceOf_block (size := 15) (m := 1) (c := 1) (heap_new wr (.cells #[.int .i64 c, .int .i64 0, .int .i64 (-1), .bool false, .bool false, .bool false, .int .u64 0, .int .i64 0, .int .u64 0, .int .i64 0, .int .i64 0, .bool false, .bool false, .bool false, .int .i64 0] 145) _ rfl) rfl (by simp [Value.oneCell']))
            have ha : Below wr.heap.size wr (wr.alloc (.cells #[.int .i64 c, .int .i64 0, .int .i64 (-1), .bool false, .bool false, .bool false, .int .u64 0, .int .i64 0, .int .u64 0, .int .i64 0, .int .i64 0, .bool false, .bool false, .bool false, .int .i64 0] 145)) := (Below.refl _ _).alloc (Nat.le_refl _) _
            have T3 := Lib.hid (show w.heap.size ≤ (wr.alloc (.cells #[.int .i64 c, .int .i64 0, .int .i64 (-1), .bool false, .bool false, .bool false, .int .u64 0, .int .i64 0, .int .u64 0, .int .i64 0, .int .i64 0, .bool false, .bool false, .bool false, .int .i64 0] 145)).heap.size from Nat.le_trans HB.out.size ha.size)
            have T4 := Lib.hid (HB.out.trans (ha.mono HB.out.size)); have T5 := Lib.hid (HX.out.below ha HX.out.lt)
            clear ha
            go_wp2_with (at_builtin; refine wpList_append_vals _ rfl _ _ 141 rfl w.heap.size 145 i0 _ 15 88 Tryz.underlying141 hi0 hz0 hz1 hz2 rfl (by decide) _ k (((L.take k).map prt0).flatMap pcell) rfl T1.out _ 1 [.int .i64 c, .int .i64 0, .int .i64 (-1), .bool false, .bool false, .bool false, .int .u64 0, .int .i64 0, .int .u64 0, .int .i64 0, .int .i64 0, .bool false, .bool false, .bool false, .int .i64 0] rfl T2.out (by unfold maxLen; omega) (by omega) T3.out ?_; intro v' w7 ho hg hv; obtain ⟨o7, c7, rfl⟩ := own_form ho; have hx7 := T5.out.grown hg (fun e => HNE.out tb e.symm rfl); obtain ⟨y7, yf7⟩ := hx7.at_ 1 _ rfl; have H7 := Lib.hid (And.intro ho (And.intro hg hx7)); clear ho hg hv hx7)
            go_roundw
            case rel =>
             have hs := H7.out.2.2.set 1 (.slice o7 (k + 1) c7)
             refine ⟨k + 1, .slice o7 (k + 1) c7, by omega, by go_num, by simpa using hs, ?_, (below_own T4.out T1.out (Nat.le_refl _) T3.out H7.out.2.1).setCell (p := ⟨tb, 1, none⟩) HTB.out _, fun j hj hjk => ?_⟩
             · rw [HSN.out]
               exact own_keep H7.out.1 fun g' hg' => Below.heap_setCell _ _ _ g' (own_ne_box H7.out.1 H7.out.2.2 (by decide) g' hg')
             · rcases Nat.lt_or_ge j k with q | q
               · exact HALL.out j hj q
               · obtain rfl : j = k := by omega
                 rw [HCC.out]; exact HR.out
            case measure => simp [intOf]; omega
          · have HN := Lib.hid (HNO.out (.inr (of_decide_eq_true r2)))
            go_wp2_with fail
            exact bodyPost_ret (v := .tuple #[.pointer none, .int .i64 1]) (by simp [results, Tryz.results27, go_sem]) rfl ⟨HB.out, .inl ⟨HN.out, rfl⟩⟩
        · have HN := Lib.hid (HNO.out (.inl (of_decide_eq_true r1)))
          go_wp2_with fail
          exact bodyPost_ret (v := .tuple #[.pointer none, .int .i64 1]) (by simp [results, Tryz.results27, go_sem]) rfl ⟨HB.out, .inl ⟨HN.out, rfl⟩⟩
      · obtain rfl : k = L.length := by omega
        have HY := Lib.hid (costs_yes hl1 hl2 (fun j hj => HALL.out j hj hj))
        have hrw := HRW.out
        rw [List.take_length] at hrw
        rcases hrw.2 with ⟨e, _⟩ | ⟨g, cap', cur, e, hg, _⟩
        · injection e with _ e _; omega
        · injection e with e1 _ e3
          subst e1 e3
          have HG := Lib.hid hg
          have HT := Lib.hid (show TreeAt wr tb g cap (newTree b L) from by
           have hn : (newTree b L).ports.length = L.length := by simp [newTree]
           refine ⟨?_, ?_⟩
           · rw [hn]; exact HX.out
           · rw [hn]; exact own_base0 hrw)
          clear hrw hg
          go_wp2_with fail
          exact bodyPost_ret (v := .tuple #[.pointer (some ⟨tb, 0, none⟩), .int .i64 0]) (by simp [results, Tryz.results27, go_sem]) rfl ⟨HB.out, .inr ⟨HY.out, tb, g, _, rfl, HT.out, HTB.out, HG.out⟩⟩
   · have hn : costsOk L = false := by have := of_decide_eq_true q2; unfold costsOk; simp; omega
     have b1 := of_decide_eq_false q1; have b2 := of_decide_eq_true q2
     have n1 : ¬ ((L.length : Int) < 1) := by omega
     have n2 : 16 < (L.length : Int) := by omega
     clear b1 b2
     have HN := Lib.hid hn
     clear hn
     go_enter Tryz.func27, Tryz.ntmps27
     go_wp2_with fail
     exact bodyPost_ret (v := .tuple #[.pointer none, .int .i64 1]) (by simp [results, Tryz.results27, go_sem]) rfl ⟨Below.refl _ _, .inl ⟨HN.out, rfl⟩⟩
 · have hn : costsOk L = false := by have := of_decide_eq_true q1; unfold costsOk; simp; omega
   have b1 := of_decide_eq_true q1
   have n1 : (L.length : Int) < 1 := by omega
   clear b1
   have HN := Lib.hid hn
   clear hn
   go_enter Tryz.func27, Tryz.ntmps27
   go_wp2_with fail
   exact bodyPost_ret (v := .tuple #[.pointer none, .int .i64 1]) (by simp [results, Tryz.results27, go_sem]) rfl ⟨Below.refl _ _, .inl ⟨HN.out, rfl⟩⟩
end Go.Proofs.YthcdppppppgckaaGreatDoor

namespace Go.Proofs.YthcdppppppgckaaGreatDoor
open Go.RowKit Go.Lib Go.Sort
set_option maxRecDepth 20000

theorem bits_and_i64_nat (a b : Nat) (ha : a < 9223372036854775808) (hb : b < 9223372036854775808) :
 bits .and .i64 (a : Int) (b : Int) = ((a &&& b : Nat) : Int) := by
 have hx : a &&& b < 2 ^ 63 := Nat.and_lt_two_pow _ (by omega)
 have h1 : (BitVec.ofInt 64 (a : Int)).toNat = a := by
  rw [BitVec.ofInt_natCast, BitVec.toNat_ofNat]; exact Nat.mod_eq_of_lt (by omega)
 have h2 : (BitVec.ofInt 64 (b : Int)).toNat = b := by
  rw [BitVec.ofInt_natCast, BitVec.toNat_ofNat]; exact Nat.mod_eq_of_lt (by omega)
 show IntKind.i64.wrap ((BitVec.ofInt 64 (a : Int) &&& BitVec.ofInt 64 (b : Int)).toNat : Int) = _
 rw [BitVec.toNat_and, h1, h2, IntKind.wrap_i64]
 omega
theorem and_one_i64 (E : Int) (h0 : 0 ≤ E) (h1 : E ≤ 9223372036854775807) : bits BinOp.and IntKind.i64 E 1 = E % 2 := by
 have h := bits_and_i64_nat E.toNat 1 (by omega) (by omega)
 rw [Nat.and_one_is_mod, Int.toNat_of_nonneg h0] at h
 have h2 : ((E.toNat % 2 : Nat) : Int) = E % 2 := by omega
 exact h.trans h2
theorem bstep_range {b : Int} {s : Int × Vec} {i : Nat} {h : Hrd} {n : Nat} (hs : s.1 = -1 ∨ (0 ≤ s.1 ∧ s.1 < n)) (hi : i < n) : (bstep b s i h).1 = -1 ∨ (0 ≤ (bstep b s i h).1 ∧ (bstep b s i h).1 < n) := by
 unfold bstep
 split
 · right
   dsimp only
   omega
 · exact hs
theorem pbestGo_range {b : Int} {n : Nat} : ∀ (l : List Hrd) (i : Nat) (s : Int × Vec), i + l.length ≤ n → (s.1 = -1 ∨ (0 ≤ s.1 ∧ s.1 < n)) → ((pbestGo b i s l).1 = -1 ∨ (0 ≤ (pbestGo b i s l).1 ∧ (pbestGo b i s l).1 < n))
 | [], _, _, _, h => h
 | x :: l, i, s, hl, h => by
   have hl' : i + (l.length + 1) ≤ n := by simpa using hl
   exact pbestGo_range l (i + 1) _ (by omega) (bstep_range h (by omega))
theorem pbest_range (b : Int) (l : List Hrd) : (pbest b l).1 = -1 ∨ (0 ≤ (pbest b l).1 ∧ (pbest b l).1 < l.length) := pbestGo_range l 0 _ (by omega) (.inl rfl)
theorem settle_root (t : Tre) : t.settle.root = -1 ∨ (0 ≤ t.settle.root ∧ t.settle.root < t.settle.ports.length) := by
 have h := pbest_range t.bridge (t.drop.ports.map hrd)
 have hl : t.settle.ports.length = (t.drop.ports.map hrd).length := by
  show (settle2 t.now t.drop.ports (proles t.bridge (t.drop.ports.map hrd))).length = _
  rw [settle2_len, proles_len, List.length_map, Nat.min_self]
 rw [hl]
 exact h
theorem ticksGo_snoc (t : Tre) : ∀ (l : List Prt) (i : Nat) (p : Prt), t.ticksGo i (l ++ [p]) = t.ticksGo i l ++ (if p.role == 2 then [t.tick1 (i + l.length) p] else [])
 | [], i, p => by simp [Tre.ticksGo]
 | x :: l, i, p => by
   have e : i + 1 + l.length = i + (x :: l).length := by simp; omega
   show (if x.role == 2 then [t.tick1 i x] else []) ++ t.ticksGo (i + 1) (l ++ [p]) = _
   rw [ticksGo_snoc t l (i + 1), e, ← List.append_assoc]
   rfl
theorem ticksGo_len (t : Tre) : ∀ (l : List Prt) (i : Nat), (t.ticksGo i l).length ≤ l.length
 | [], _ => Nat.le_refl _
 | x :: l, i => by
   have := ticksGo_len t l (i + 1)
   show ((if x.role == 2 then [t.tick1 i x] else []) ++ t.ticksGo (i + 1) l).length ≤ l.length + 1
   rw [List.length_append]
   split <;> simp <;> omega
theorem tick_ok {t : Tre} {now : Int} (h : TreOk t) : TreOk (t.tick now).1 := by
 unfold Tre.tick
 split
 · rename_i hc
   obtain ⟨h1, _⟩ := okAt_iff.1 hc
   refine settle_ok ⟨?_, h.len, h.change, h.ports⟩
   have := h.now
   dsimp only
   omega
 · exact h
end Go.Proofs.YthcdppppppgckaaGreatDoor

namespace Go.Proofs.YthcdppppppgckaaGreatDoor
open Go.RowKit Go.Lib Go.Sort
set_option maxRecDepth 20000
set_option maxRecDepth 20000

theorem infoOutT : (Tryz.prog.info? 133).map (fun i => (i.zero, i.size, i.bytes)) = some (some (.agg #[.int .i64 0, .int .u64 0, .int .i64 0, .int .u64 0, .int .i64 0, .int .i64 0, .bool false, .bool false, .bool false]), 9, 56) := by kernel_rfl
theorem list_reads {P : Program} {ops : Array Oper} {rest : List Oper} {o : Oper} {a : Act} {w : World} {Q : Exit → Act → World → Prop} (hg : o.guard = none) (d : Option Tmp) (hd : o.dst = d)
 (v : Value) (hr : (execOp a.eval o).run P w = .ok (.value v) w) (h : wpList P ops Q rest (a.put d v) w) : wpList P ops Q (o :: rest) a w :=
 wpList_plain hg fun K hK => by subst hd; unfold Oper.wp; rw [hr, Oper.upon_value]; exact hK _ _ h
theorem portN : (Tryz.prog.info? 145).map (·.size) = some 15 := by kernel_rfl
def ocell (o : Int × Bpd) : List Value := [.int .i64 o.1, .int .u64 o.2.v.root, .int .i64 o.2.v.cost, .int .u64 o.2.v.bridge, .int .i64 o.2.v.port, .int .i64 o.2.age, .bool o.2.change, .bool o.2.learn, .bool o.2.fwd]
theorem ocell_len (o : Int × Bpd) : (ocell o).length = 9 := rfl
theorem own_base9 {w : World} {base base' size n : Nat} {e : TypeId} {v : Value} {xs : List Value} (h : w.ownsRow base e size v n xs) (hb : base' ≤ base) : w.ownsRow base' e size v n xs := by
 rcases h.2 with ⟨rfl, h0⟩ | ⟨g, cap, cur, rfl, hg, hr⟩
 · exact ⟨h.1, .inl ⟨rfl, h0⟩⟩
 · exact ⟨h.1, .inr ⟨g, cap, cur, rfl, Nat.le_trans hb hg, hr⟩⟩
def RetTick (w : World) (p g cap : Nat) (r : Tre × List (Int × Bpd)) (e : Ending) (w' : World) : Prop :=
 ∃ u, e = .returned u ∧ w'.ownsRow w.heap.size 133 9 u r.2.length (r.2.flatMap ocell) ∧ TreeAt w' p g cap r.1 ∧ Turn (tfoot p g) w w'

set_option maxHeartbeats 8000000 in
theorem ttick_any (p g cap : Nat) (t : Tre) (now : Int) (w : World) (h : TreeAt w p g cap t) (ok : TreOk t) :
 Calls Tryz.prog 71 #[.pointer (some ⟨p, 0, none⟩), .int .i64 now] w (RetTick w p g cap (t.tick now)) := by
 obtain ⟨i0, hi0, hz0, hz1, hz2⟩ := info_parts23 infoOutT
 have HA := Lib.hid (tat_any p g cap t 0 now w h)
 have HT := Lib.hid h
 cases hc : t.okAt 0 now
 · rw [hc] at HA
   have HL := Lib.hid (show t.tick now = (t, []) from by unfold Tre.tick; rw [hc]; rfl)
   clear hc h ok
   go_enter Tryz.func71, Tryz.ntmps71
   go_wp2_with ((with_reducible refine HA.out.mono ?_); rintro e w1 ⟨rfl, hw1⟩; subst w1)
   go_ret
   exact ⟨_, rfl, by rw [HL.out]; exact World.ownsRow_nil _ _ _ _, by rw [HL.out]; exact HT.out, Turn.refl _ _⟩
 · rw [hc] at HA
   obtain ⟨h1, h2, h3⟩ := okAt_iff.1 hc
   rw [if_pos rfl] at HA
   obtain ⟨mx, hmx⟩ : ∃ m, max t.now now = m := ⟨_, rfl⟩
   obtain ⟨s, hs⟩ : ∃ s, Tre.settle { t with now := mx } = s := ⟨_, rfl⟩
   have HTI := Lib.hid (show t.tick now = (s, if now % 2 == 1 || decide (20 ≤ s.age) then [] else s.ticksGo 0 s.ports) from by unfold Tre.tick; rw [hc, hmx, hs]; rfl)
   have hpre : TreOk { t with now := mx } := ⟨by have := ok.now; dsimp only; omega, ok.len, ok.change, ok.ports⟩
   have HSO := Lib.hid (show TreOk s from by rw [← hs]; exact settle_ok hpre)
   have HRG := Lib.hid (show s.root = -1 ∨ (0 ≤ s.root ∧ s.root < s.ports.length) from by rw [← hs]; exact settle_root _)
   have HNW := Lib.hid h1
   have HSL := Lib.hid (fun W (hW : TreeAt W p g cap { t with now := mx }) => tsettle_any p g cap { t with now := mx } W hW hpre)
   rw [hs] at HSL
   have hb := h.boxc
   obtain ⟨b2, bf2⟩ := hb.at_ 2 _ rfl
   have hor : (t.now < now ∧ mx = now) ∨ (¬ t.now < now ∧ mx = t.now) := by
    rw [← hmx]
    by_cases q : t.now < now
    · exact .inl ⟨q, by omega⟩
    · exact .inr ⟨q, by omega⟩
   have step : ∃ V, w.setCell ⟨p, 2, none⟩ (.int .i64 mx) = V ∧ Calls Tryz.prog 95 #[.pointer (some ⟨p, 0, none⟩)] V fun e w' => e = .returned (.tuple #[]) ∧ TreeAt w' p g cap s ∧ Turn (tfoot p g) w w' := by
    obtain ⟨q1, q2⟩ := h.box 2 (.int .i64 mx) { t with now := mx } rfl rfl
    exact ⟨_, rfl, (HSL.out _ q1).mono fun e w' ⟨he, a1, a2⟩ => ⟨he, a1, q2.trans a2⟩⟩
   obtain ⟨V, hV, hcl⟩ := step
   have HV := Lib.hid hV; have HCL := Lib.hid hcl; have HOR := Lib.hid hor
   clear hc h ok h1 h2 h3 hb hmx hs hpre hV hcl HSL hor
   go_enter Tryz.func71, Tryz.ntmps71
   go_upto_region 3 with ((with_reducible refine HA.out.mono ?_); rintro e w1 ⟨rfl, hw1⟩; subst w1)
   go_cut [] (fun W' => W' = V)
   case first =>
    rcases HOR.out with ⟨hd, hm⟩ | ⟨hd, hm⟩
    · have HM := Lib.hid hm
      clear hm
      go_wp2_with fail
      go_meet
      case rel => rw [← HV.out, HM.out]
    · have HM := Lib.hid hm
      clear hm
      go_wp2_with fail
      go_meet
      case rel => rw [← HV.out, HM.out]
   case rest =>
    obtain ⟨w3, rfl⟩ : ∃ W, W = wc := ⟨_, rfl⟩
    subst hcut
    clear b2 bf2 HA
    go_upto_region 5 with ((with_reducible refine HCL.out.mono ?_); rintro e w4 ⟨rfl, ht4, hu4⟩; have T4 := Lib.hid ht4; have U4 := Lib.hid hu4; clear ht4 hu4)
    obtain ⟨b3, _⟩ := T4.out.boxc.at_ 3 _ rfl
    go_upto_if 30 with fail
    go_cut [5] (fun s5 W' => s5 = .int .i64 s.age ∧ Below w4.heap.size w4 W')
    case first =>
     rcases HRG.out with hr | ⟨hr0, hr1⟩
     · have HAG := Lib.hid (show s.age = 0 from by unfold Tre.age; rw [if_pos hr])
       have hr2 : (s.root != -1) = false := by simp [hr]
       go_wp2_with fail
       go_meet
       case rel => exact ⟨by rw [HAG.out], Below.refl _ _⟩
     · obtain ⟨k, hk⟩ := Int.eq_ofNat_of_zero_le hr0
       have hkl : k < s.ports.length := by omega
       have HAG := Lib.hid (show s.age = s.ports[k].kept.age + 1 from by unfold Tre.age; rw [if_neg (by omega), hk]; simp [List.getD_eq_getElem?_getD, hkl])
       have hag := (HSO.out.ports _ (List.getElem_mem hkl)).age
       obtain ⟨Z, hZ⟩ : ∃ W, w4.drew = W := ⟨_, rfl⟩
       have hbz : Below w4.heap.size w4 Z := by rw [← hZ]; exact Below.drew (Below.refl _ _)
       have TZ := T4.out.below hbz
       obtain ⟨_, hidx, _⟩ := TZ.facts
       have hp := hidx k hkl
       obtain ⟨_, _, ⟨c10, _⟩, _⟩ := TZ.cells hkl rfl
       obtain ⟨z1, _⟩ := TZ.boxc.at_ 1 _ rfl
       obtain ⟨z3, _⟩ := TZ.boxc.at_ 3 _ rfl
       obtain ⟨ag, hge⟩ : ∃ a, s.ports[k].kept.age = a := ⟨_, rfl⟩
       rw [hge] at HAG hag c10
       rw [hk] at z3
       have hw1 : IntKind.i64.wrap (ag + 1) = ag + 1 := by rw [IntKind.wrap_i64]; omega
       have hr2 : (s.root != -1) = true := by simp [bne]; omega
       obtain ⟨n, hn⟩ : ∃ n, s.ports.length = n := ⟨_, rfl⟩
       rw [hn] at z1 hp
       have hkn : k < n := by rw [← hn]; exact hkl
       have HZ := Lib.hid hZ; have HBZ := Lib.hid hbz
       have HF := Lib.hid (fun (wq : World) (h : (wq.cell? ⟨p, 1, none⟩ = some (.slice (some ⟨g, 0, none⟩) n cap) ∧ wq.cell? ⟨p, 3, none⟩ = some (.int .i64 (k : Nat)) ∧ wq.cell? ⟨g, k * 15 + 10, none⟩ = some (.int .i64 ag)) ∧ wq = Z) => And.intro h.1.1 (And.intro h.1.2.1 (And.intro h.1.2.2 (hp wq))))
       clear hr0 hr1 hidx hZ hbz hag hge hn
       go_upto_region 7 with fail
       refine wp_region_held_drew (S := fun wq => (wq.cell? ⟨p, 1, none⟩ = some (.slice (some ⟨g, 0, none⟩) n cap) ∧ wq.cell? ⟨p, 3, none⟩ = some (.int .i64 (k : Nat)) ∧ wq.cell? ⟨g, k * 15 + 10, none⟩ = some (.int .i64 ag)) ∧ wq = Z) (by kernel_rfl) (by rw [HZ.out]; exact ⟨⟨z1, z3, c10⟩, rfl⟩) (fun hHeld => ?_)
       rw [HZ.out] at hHeld ⊢
       clear hp
       refine tkL 0 (v := ?_) rfl (by kernel_rfl) (fun _ _ _ => id) (Or.inl ⟨by rfl, ?_⟩) (by assumption) ?_; rotate_left; (focus (intro wq hSq; have f := HF.out wq hSq; go_simp <;> with_reducible rfl)); simp only [Act.put, pA, pB, pC]
       refine tkL 1 (v := ?_) rfl (by kernel_rfl) (fun _ _ _ => id) (Or.inl ⟨by rfl, ?_⟩) (by assumption) ?_; rotate_left; (focus (intro wq hSq; have f := HF.out wq hSq; go_simp <;> with_reducible rfl)); simp only [Act.put, pA, pB, pC]
       refine tkL 2 (v := ?_) rfl (by kernel_rfl) (fun _ _ _ => id) (Or.inl ⟨by rfl, ?_⟩) (by assumption) ?_; rotate_left; (focus (intro wq hSq; have f := HF.out wq hSq; go_simp <;> with_reducible rfl)); simp only [Act.put, pA, pB, pC]
       refine tkL 3 (v := ?_) rfl (by kernel_rfl) (fun _ _ _ => id) (Or.inl ⟨by rfl, ?_⟩) (by assumption) ?_; rotate_left; (focus (intro wq hSq; have f := HF.out wq hSq; go_simp <;> with_reducible rfl)); simp only [Act.put, pA, pB, pC]
       refine tkL 4 (v := ?_) rfl (by kernel_rfl) (fun _ _ _ => id) (Or.inl ⟨by rfl, ?_⟩) (by assumption) ?_; rotate_left; (focus (intro wq hSq; have f := HF.out wq hSq; go_simp <;> with_reducible rfl)); simp only [Act.put, pA, pB, pC]
       refine tkL 5 (v := ?_) rfl (by kernel_rfl) (fun _ _ _ => id) (Or.inl ⟨by rfl, ?_⟩) (by assumption) ?_; rotate_left; (focus (intro wq hSq; have f := HF.out wq hSq; go_simp <;> with_reducible rfl)); simp only [Act.put, pA, pB, pC]
       refine tkL 6 (v := ?_) rfl (by kernel_rfl) (fun _ _ _ => id) (Or.inl ⟨by rfl, ?_⟩) (by assumption) ?_; rotate_left; (focus (intro wq hSq; have f := HF.out wq hSq; go_simp <;> with_reducible rfl)); simp only [Act.put, pA, pB, pC]
       refine tkL 7 (v := ?_) rfl (by kernel_rfl) (fun _ _ _ => id) (Or.inl ⟨by rfl, ?_⟩) (by assumption) ?_; rotate_left; (focus (intro wq hSq; have f := HF.out wq hSq; go_simp <;> with_reducible rfl)); simp only [Act.put, pA, pB, pC]
       refine tkL 8 (v := ?_) rfl (by kernel_rfl) (fun _ _ _ => id) (Or.inl ⟨by rfl, ?_⟩) (by assumption) ?_; rotate_left; (focus (intro wq hSq; have f := HF.out wq hSq; go_simp <;> with_reducible rfl)); simp only [Act.put, pA, pB, pC]
       refine tkL 9 (v := ?_) rfl (by kernel_rfl) (fun _ _ _ => id) (Or.inl ⟨by rfl, ?_⟩) (by assumption) ?_; rotate_left; (focus (intro wq hSq; have f := HF.out wq hSq; go_simp <;> with_reducible rfl)); simp only [Act.put, pA, pB, pC]
       refine tkL 10 (v := ?_) rfl (by kernel_rfl) (fun _ _ _ => id) (Or.inl ⟨by rfl, ?_⟩) (by assumption) ?_; rotate_left; (focus (intro wq hSq; have f := HF.out wq hSq; go_simp <;> with_reducible rfl)); simp only [Act.put, pA, pB, pC]
       refine tkL 11 (v := ?_) rfl (by kernel_rfl) (fun _ _ _ => id) (Or.inl ⟨by rfl, ?_⟩) (by assumption) ?_; rotate_left; (focus (intro wq hSq; have f := HF.out wq hSq; go_simp <;> with_reducible rfl)); simp only [Act.put, pA, pB, pC]
       refine tkL 12 (v := ?_) rfl (by kernel_rfl) (fun _ _ _ => id) (Or.inl ⟨by rfl, ?_⟩) (by assumption) ?_; rotate_left; (focus (intro wq hSq; have f := HF.out wq hSq; go_simp <;> with_reducible rfl)); simp only [Act.put, pA, pB, pC]
       refine tkL 13 (v := ?_) rfl (by kernel_rfl) (fun _ _ _ => id) (Or.inl ⟨by rfl, ?_⟩) (by assumption) ?_; rotate_left; (focus (intro wq hSq; have f := HF.out wq hSq; go_simp <;> with_reducible rfl)); simp only [Act.put, pA, pB, pC]
       refine wpAnyH_done (by kernel_rfl) ?_ _
       clear hHeld
       go_wp2_with fail
       go_meet
       case rel => exact ⟨by rw [HAG.out], HBZ.out⟩
    case rest =>
     obtain ⟨w5, rfl⟩ : ∃ W, W = wc := ⟨_, rfl⟩
     obtain ⟨rfl, hb5⟩ := hcut
     have T5 := Lib.hid (T4.out.below hb5); have U5 := Lib.hid (U4.out.after hb5)
     clear hb5 b3 T4 U4 HCL
     have hand : bits BinOp.and IntKind.i64 now 1 = now % 2 := and_one_i64 now HNW.out.1 (by have := HNW.out.2; omega)
     cases q1 : (now % 2 == 1)
     · cases q2 : decide (20 ≤ s.age)
       · have HR := Lib.hid (show t.tick now = (s, s.ticksGo 0 s.ports) from by rw [HTI.out, q1, q2]; rfl)
         have hlen := fun ty w' => run_len_any (P := Tryz.prog) Tryz.underlying141 (some ⟨g, 0, none⟩) s.ports.length cap ty w'
         obtain ⟨b1, _⟩ := T5.out.boxc.at_ 1 _ rfl
         have hn16 := HSO.out.len.2
         go_upto_region 11 with fail
         clear hand q1 q2
         go_wp2_with fail
         go_loopw [6, 56] (fun r i wr => ∃ k, k ≤ s.ports.length ∧ i = .int .i64 (k : Nat) ∧ wr.ownsRow w5.heap.size 133 9 r (s.ticksGo 0 (s.ports.take k)).length ((s.ticksGo 0 (s.ports.take k)).flatMap ocell) ∧ Below w5.heap.size w5 wr) (fun _ i _ => s.ports.length - (intOf i).toNat)
         case atStart => exact ⟨0, Nat.zero_le _, rfl, World.ownsRow_nil _ _ _ _, Below.refl _ _⟩
         case round =>
          obtain ⟨k, hk, rfl, hrow, hb⟩ := hrel
          have HRW := Lib.hid hrow; have HB := Lib.hid hb
          clear hrow hb b1
          by_cases hlt : k < s.ports.length
          · have TR := Lib.hid (T5.out.below HB.out)
            obtain ⟨_, hidx, hcell⟩ := TR.out.facts
            have hp := hidx k hlt
            have HSN := Lib.hid (show s.ticksGo 0 (s.ports.take (k + 1)) = s.ticksGo 0 (s.ports.take k) ++ (if s.ports[k].role == 2 then [s.tick1 k s.ports[k]] else []) from by rw [List.take_succ_eq_append_getElem hlt, ticksGo_snoc, List.length_take, Nat.min_eq_left (by omega), Nat.zero_add])
            have HLN := Lib.hid (show (s.ticksGo 0 (s.ports.take k)).length ≤ 16 from by have := ticksGo_len s (s.ports.take k) 0; rw [List.length_take] at this; omega)
            obtain ⟨⟨pc, pr, ps, pu, pk, pf, ⟨⟨vr, vc, vb, vp⟩, pa, p11, p12, p13⟩, pat⟩, hq⟩ : ∃ x, x = s.ports[k] := ⟨_, rfl⟩
            have hrg : wr.rangeAt g (k * 15) (pcell s.ports[k]) := by
             intro j v hv
             have hj : j < 15 := by
              rcases Nat.lt_or_ge j 15 with h | h
              · exact h
              · rw [List.getElem?_eq_none (by simpa [pcell] using h)] at hv; cases hv
             rw [(hcell k hlt j hj).1]; exact hv
            rw [← hq] at hrg
            have hld : wr.rangeAt g (k * 15) [.int .i64 pc, .int .i64 pr, .int .i64 ps, .bool pu, .bool pk, .bool pf, .int .u64 vr, .int .i64 vc, .int .u64 vb, .int .i64 vp, .int .i64 pa, .bool p11, .bool p12, .bool p13, .int .i64 pat] := hrg
            clear hrg
            rw [← hq] at HSN
            dsimp only at HSN
            clear hidx hcell hq
            go_upto_region 13 with fail
            refine wp_region_lit ?_
            refine list_reads rfl (some 58) rfl (.int .i64 (k : Nat)) rfl ?_
            refine list_reads rfl (some 59) rfl (.pointer (some ⟨g, k * 15, none⟩)) (by unfold execOp; simp [Act.eval, Act.put, hp]) ?_
            refine wpList_load_mid rfl 145 _ rfl g (k * 15) rfl [.int .i64 pc, .int .i64 pr, .int .i64 ps, .bool pu, .bool pk, .bool pf, .int .u64 vr, .int .i64 vc, .int .u64 vb, .int .i64 vp, .int .i64 pa, .bool p11, .bool p12, .bool p13, .int .i64 pat] _ hld Tryz.underlying145 rfl portN ?_
            go_upto_region 14 with fail
            obtain ⟨W6, hW6⟩ : ∃ W, wr.alloc (.cells #[.int .i64 pc, .int .i64 pr, .int .i64 ps, .bool pu, .bool pk, .bool pf, .int .u64 vr, .int .i64 vc, .int .u64 vb, .int .i64 vp, .int .i64 pa, .bool p11, .bool p12, .bool p13, .int .i64 pat] 145) = W := ⟨_, rfl⟩
            obtain ⟨pb, hpb⟩ : ∃ n, wr.heap.size = n := ⟨_, rfl⟩
            have hb6 : Below wr.heap.size wr W6 := by rw [← hW6]; exact (Below.refl _ _).alloc (Nat.le_refl _) _
            have X8 := Lib.hid (show CBox W6 pb 145 #[.int .i64 pc, .int .i64 pr, .int .i64 ps, .bool pu, .bool pk, .bool pf, .int .u64 vr, .int .i64 vc, .int .u64 vb, .int .i64 vp, .int .i64 pa, .bool p11, .bool p12, .bool p13, .int .i64 pat] from by rw [← hW6]; exact CBox.new _ hpb.symm)
            have R6 := Lib.hid (gown_bel HRW.out hb6); have B6 := Lib.hid (HB.out.trans (hb6.mono HB.out.size)); have T6 := Lib.hid (TR.out.below hb6)
            rw [hW6, hpb]
            clear hW6 hpb hb6 hld hp HRW HB TR
            obtain ⟨x0, xf0⟩ := CBox.at_ X8.out 0 _ rfl
            obtain ⟨x1, xf1⟩ := CBox.at_ X8.out 1 _ rfl
            obtain ⟨x2, xf2⟩ := CBox.at_ X8.out 2 _ rfl
            obtain ⟨x3, xf3⟩ := CBox.at_ X8.out 3 _ rfl
            obtain ⟨x4, xf4⟩ := CBox.at_ X8.out 4 _ rfl
            obtain ⟨x5, xf5⟩ := CBox.at_ X8.out 5 _ rfl
            obtain ⟨x6, xf6⟩ := CBox.at_ X8.out 6 _ rfl
            obtain ⟨x7, xf7⟩ := CBox.at_ X8.out 7 _ rfl
            obtain ⟨x8, xf8⟩ := CBox.at_ X8.out 8 _ rfl
            obtain ⟨x9, xf9⟩ := CBox.at_ X8.out 9 _ rfl
            obtain ⟨x10, xf10⟩ := CBox.at_ X8.out 10 _ rfl
            obtain ⟨x11, xf11⟩ := CBox.at_ X8.out 11 _ rfl
            obtain ⟨x12, xf12⟩ := CBox.at_ X8.out 12 _ rfl
            obtain ⟨x13, xf13⟩ := CBox.at_ X8.out 13 _ rfl
            obtain ⟨x14, xf14⟩ := CBox.at_ X8.out 14 _ rfl
            cases q : (pr == 2)
            · have q' : (pr != 2) = true := by simp [bne, q]
              have HE := Lib.hid (show s.ticksGo 0 (s.ports.take (k + 1)) = s.ticksGo 0 (s.ports.take k) from by rw [HSN.out, q]; simp)
              go_wp2_with fail
              go_roundw
              case rel => exact ⟨k + 1, by omega, by go_num, by rw [HE.out]; exact R6.out, B6.out⟩
              case measure => simp [intOf]; omega
            · have q' : (pr != 2) = false := by simp [bne, q]
              have HE := Lib.hid (show s.ticksGo 0 (s.ports.take (k + 1)) = s.ticksGo 0 (s.ports.take k) ++ [s.tick1 k ⟨pc, pr, ps, pu, pk, pf, ⟨⟨vr, vc, vb, vp⟩, pa, p11, p12, p13⟩, pat⟩] from by rw [HSN.out, q]; simp)
              go_upto_region 15 with fail
              clear x0 xf0 x1 xf1 x2 xf2 x3 xf3 x4 xf4 x5 xf5 x6 xf6 x7 xf7 x8 xf8 x9 xf9 x10 xf10 x11 xf11 x12 xf12 x13 xf13 x14 xf14 q q' HSN
              obtain ⟨Z, hZ⟩ : ∃ W, W6.drew = W := ⟨_, rfl⟩
              have hbz : Below W6.heap.size W6 Z := by rw [← hZ]; exact Below.drew (Below.refl _ _)
              have HZ := Lib.hid hZ
              have TZ := Lib.hid (T6.out.below hbz); have XZ := Lib.hid (X8.out.below hbz X8.out.lt); have RZ := Lib.hid (gown_bel R6.out hbz); have BZ := Lib.hid (B6.out.trans (hbz.mono B6.out.size))
              clear hZ hbz T6 X8 R6 B6
              have HF := Lib.hid (fun (wq : World) (h : Below Z.heap.size Z wq) => And.intro ((TZ.out.below h).boxc.at_ 0 _ rfl).1 (And.intro ((TZ.out.below h).boxc.at_ 5 _ rfl).1 ((TZ.out.below h).boxc.at_ 6 _ rfl).1))
              refine wp_region_held_drew (S := fun W' => Below Z.heap.size Z W') (by kernel_rfl) (by rw [HZ.out]; exact Below.refl _ _) (fun hHeld => ?_)
              rw [HZ.out] at hHeld ⊢
              refine tkL 0 (v := ?_) rfl (by kernel_rfl) (fun _ _ _ => id) (Or.inl ⟨by rfl, ?_⟩) (by assumption) ?_; rotate_left; (focus (intro wq hSq; have f := HF.out wq hSq; go_simp <;> with_reducible rfl)); simp only [Act.put, pA, pB, pC]
              refine tkL 1 (v := ?_) rfl (by kernel_rfl) (fun _ _ _ => id) (Or.inl ⟨by rfl, ?_⟩) (by assumption) ?_; rotate_left; (focus (intro wq hSq; have f := HF.out wq hSq; go_simp <;> with_reducible rfl)); simp only [Act.put, pA, pB, pC]
              refine tkL 2 (v := ?_) rfl (by kernel_rfl) (fun _ _ _ => id) (Or.inl ⟨by rfl, ?_⟩) (by assumption) ?_; rotate_left; (focus (intro wq hSq; have f := HF.out wq hSq; go_simp <;> with_reducible rfl)); simp only [Act.put, pA, pB, pC]
              refine tkL 3 (v := ?_) rfl (by kernel_rfl) (fun _ _ _ => id) (Or.inl ⟨by rfl, ?_⟩) (by assumption) ?_; rotate_left; (focus (intro wq hSq; have f := HF.out wq hSq; go_simp <;> with_reducible rfl)); simp only [Act.put, pA, pB, pC]
              refine tkL 4 (v := ?_) rfl (by kernel_rfl) (fun _ _ _ => id) (Or.inl ⟨by rfl, ?_⟩) (by assumption) ?_; rotate_left; (focus (intro wq hSq; have f := HF.out wq hSq; go_simp <;> with_reducible rfl)); simp only [Act.put, pA, pB, pC]
              refine tkL 5 (v := ?_) rfl (by kernel_rfl) (fun _ _ _ => id) (Or.inl ⟨by rfl, ?_⟩) (by assumption) ?_; rotate_left; (focus (intro wq hSq; have f := HF.out wq hSq; go_simp <;> with_reducible rfl)); simp only [Act.put, pA, pB, pC]
              refine tkL 6 (v := ?_) rfl (by kernel_rfl) (fun _ _ _ => id) (Or.inl ⟨by rfl, ?_⟩) (by assumption) ?_; rotate_left; (focus (intro wq hSq; have f := HF.out wq hSq; go_simp <;> with_reducible rfl)); simp only [Act.put, pA, pB, pC]
              refine tkL 7 (v := ?_) rfl (by kernel_rfl) (fun _ _ _ => id) (Or.inl ⟨by rfl, ?_⟩) (by assumption) ?_; rotate_left; (focus (intro wq hSq; have f := HF.out wq hSq; go_simp <;> with_reducible rfl)); simp only [Act.put, pA, pB, pC]
              refine tkL 8 (v := ?_) rfl (by kernel_rfl) (fun _ _ _ => id) (Or.inl ⟨by rfl, ?_⟩) (by assumption) ?_; rotate_left; (focus (intro wq hSq; have f := HF.out wq hSq; go_simp <;> with_reducible rfl)); simp only [Act.put, pA, pB, pC]
              refine tkL 9 (v := ?_) rfl (by kernel_rfl) (fun _ _ _ => id) (Or.inl ⟨by rfl, ?_⟩) (by assumption) ?_; rotate_left; (focus (intro wq hSq; have f := HF.out wq hSq; go_simp <;> with_reducible rfl)); simp only [Act.put, pA, pB, pC]
              refine tkL 10 (v := ?_) rfl (by kernel_rfl) (fun _ _ _ => id) (Or.inl ⟨by rfl, ?_⟩) (by assumption) ?_; rotate_left; (focus (intro wq hSq; have f := HF.out wq hSq; go_simp <;> with_reducible rfl)); simp only [Act.put, pA, pB, pC]
              refine tkL 11 (v := ?_) rfl (by kernel_rfl) (fun _ _ _ => id) (Or.inl ⟨by rfl, ?_⟩) (by assumption) ?_; rotate_left; (focus (intro wq hSq; have f := HF.out wq hSq; go_simp <;> with_reducible rfl)); simp only [Act.put, pA, pB, pC]
              refine tkL 12 (v := ?_) rfl (by kernel_rfl) (fun _ _ _ => id) (Or.inl ⟨by rfl, ?_⟩) (by assumption) ?_; rotate_left; (focus (intro wq hSq; have f := HF.out wq hSq; go_simp <;> with_reducible rfl)); simp only [Act.put, pA, pB, pC]
              refine tkL 13 (v := ?_) rfl (by kernel_rfl) (fun _ _ _ => id) (Or.inl ⟨by rfl, ?_⟩) (by assumption) ?_; rotate_left; (focus (intro wq hSq; have f := HF.out wq hSq; go_simp <;> with_reducible rfl)); simp only [Act.put, pA, pB, pC]
              refine tkL 14 (v := ?_) rfl (by kernel_rfl) (fun _ _ _ => id) (Or.inl ⟨by rfl, ?_⟩) (by assumption) ?_; rotate_left; (focus (intro wq hSq; have f := HF.out wq hSq; go_simp <;> with_reducible rfl)); simp only [Act.put, pA, pB, pC]
              refine tkL 15 (v := ?_) rfl (by kernel_rfl) (fun _ _ _ => id) (Or.inl ⟨by rfl, ?_⟩) (by assumption) ?_; rotate_left; (focus (intro wq hSq; have f := HF.out wq hSq; go_simp <;> with_reducible rfl)); simp only [Act.put, pA, pB, pC]
              refine wpAnyH_ready (rs := [16]) (by kernel_rfl) (by simp) (nextL 16 rfl (fun Kr hKr => ?_) AllReadyH.nil)
              rw [if_pos (by rfl)]
              go_simp
              obtain ⟨V, hV⟩ : ∃ W, Z.alloc (.cells #[.int .u64 0, .int .i64 0, .int .u64 0, .int .i64 0] 108) = W := ⟨_, rfl⟩
              obtain ⟨nb, hnb⟩ : ∃ n, Z.heap.size = n := ⟨_, rfl⟩
              have hbv : Below Z.heap.size Z V := by rw [← hV]; exact (Below.refl _ _).alloc (Nat.le_refl _) _
              have XV := Lib.hid (show CBox V nb 108 #[.int .u64 0, .int .i64 0, .int .u64 0, .int .i64 0] from by rw [← hV]; exact CBox.new _ hnb.symm)
              have HNB := Lib.hid (Nat.le_of_eq hnb)
              have BV := Lib.hid hbv
              rw [hV, hnb]
              refine hKr.out _ _ hbv (fun _ => ?_)
              clear hKr hV hnb hbv
              obtain ⟨z0, zf0⟩ := CBox.at_ XV.out 0 _ rfl
              obtain ⟨z1, zf1⟩ := CBox.at_ XV.out 1 _ rfl
              obtain ⟨z2, zf2⟩ := CBox.at_ XV.out 2 _ rfl
              obtain ⟨z3, zf3⟩ := CBox.at_ XV.out 3 _ rfl
              refine wpAnyH_ready (rs := [17]) (by kernel_rfl) (by simp) (nextL 17 rfl (fun Kr hKr => ?_) AllReadyH.nil)
              rw [if_pos (by rfl)]
              go_simp
              obtain ⟨V4, hV4⟩ : ∃ W, (((V.setCell ⟨nb, 0, none⟩ (.int .u64 s.best.root)).setCell ⟨nb, 1, none⟩ (.int .i64 s.best.cost)).setCell ⟨nb, 2, none⟩ (.int .u64 s.bridge)).setCell ⟨nb, 3, none⟩ (.int .i64 (k : Nat)) = W := ⟨_, rfl⟩
              have hb4 : Below Z.heap.size Z V4 := by rw [← hV4]; exact (((BV.out.setCell (p := ⟨nb, 0, none⟩) HNB.out _).setCell (p := ⟨nb, 1, none⟩) HNB.out _).setCell (p := ⟨nb, 2, none⟩) HNB.out _).setCell (p := ⟨nb, 3, none⟩) HNB.out _
              have X4 := Lib.hid (show CBox V4 nb 108 #[.int .u64 s.best.root, .int .i64 s.best.cost, .int .u64 s.bridge, .int .i64 (k : Nat)] from by rw [← hV4]; simpa using (((XV.out.set 0 _).set 1 _).set 2 _).set 3 _)
              have P4 := Lib.hid (XZ.out.below hb4 XZ.out.lt); have T4 := Lib.hid (TZ.out.below hb4); have R4 := Lib.hid (gown_bel RZ.out hb4); have B4 := Lib.hid (BZ.out.trans (hb4.mono BZ.out.size))
              rw [hV4]
              refine hKr.out _ _ hb4 (fun _ => ?_)
              refine wpAnyH_done (by kernel_rfl) ?_ _
              clear hKr hV4 hb4 z0 zf0 z1 zf1 z2 zf2 z3 zf3 XV BV HNB XZ TZ RZ BZ HF hHeld HZ
              go_upto_region 16 with fail
              obtain ⟨Z5, hZ5⟩ : ∃ W, V4.drew = W := ⟨_, rfl⟩
              have hb5 : Below V4.heap.size V4 Z5 := by rw [← hZ5]; exact Below.drew (Below.refl _ _)
              have HZ5 := Lib.hid hZ5
              have X5 := Lib.hid (X4.out.below hb5 X4.out.lt); have P5 := Lib.hid (P4.out.below hb5 P4.out.lt); have TY := Lib.hid (T4.out.below hb5); have R5 := Lib.hid (gown_bel R4.out hb5); have B5 := Lib.hid (B4.out.trans (hb5.mono B4.out.size))
              obtain ⟨b4, _⟩ := TY.out.boxc.at_ 4 _ rfl
              obtain ⟨b2, _⟩ := TY.out.boxc.at_ 2 _ rfl
              have hnow := HSO.out.now
              have hchg := HSO.out.change
              obtain ⟨tn, htn⟩ : ∃ a, s.now = a := ⟨_, rfl⟩
              obtain ⟨cn, hcn⟩ : ∃ a, s.change = a := ⟨_, rfl⟩
              rw [htn] at b2 hnow
              rw [hcn] at b4 hchg
              have hsub : IntKind.i64.wrap (tn - cn) = tn - cn := by rw [IntKind.wrap_i64]; omega
              have HF := Lib.hid (fun (wq : World) (h : wq.cell? ⟨p, 4, none⟩ = some (.int .i64 cn) ∧ wq.cell? ⟨p, 2, none⟩ = some (.int .i64 tn)) => h)
              have HTN := Lib.hid htn; have HCN := Lib.hid hcn
              clear hZ5 hb5 hnow hchg htn hcn X4 P4 T4 R4 B4
              go_cut [10] (fun s10 W' => s10 = .bool (!(cn == -1) && decide (tn - cn < 4)) ∧ W' = Z5)
              case first =>
               cases q : (cn == -1)
               · have q' : (cn != -1) = true := by simp [bne, q]
                 cases d : decide (tn - cn < 4)
                 all_goals
                  refine wp_region_held_drew (S := fun wq => wq.cell? ⟨p, 4, none⟩ = some (.int .i64 cn) ∧ wq.cell? ⟨p, 2, none⟩ = some (.int .i64 tn)) (by kernel_rfl) (by rw [HZ5.out]; exact ⟨b4, b2⟩) (fun hHeld => ?_)
                  rw [HZ5.out] at hHeld ⊢
                  refine tkL 0 (v := ?_) rfl (by kernel_rfl) (fun _ _ _ => id) (Or.inl ⟨by rfl, ?_⟩) (by assumption) ?_; rotate_left; (focus (intro wq hSq; have f := HF.out wq hSq; go_simp <;> with_reducible rfl)); simp only [Act.put, pA, pB, pC]
                  refine tkL 1 (v := ?_) rfl (by kernel_rfl) (fun _ _ _ => id) (Or.inl ⟨by rfl, ?_⟩) (by assumption) ?_; rotate_left; (focus (intro wq hSq; have f := HF.out wq hSq; go_simp <;> with_reducible rfl)); simp only [Act.put, pA, pB, pC]
                  refine tkL 2 (v := ?_) rfl (by kernel_rfl) (fun _ _ _ => id) (Or.inl ⟨by rfl, ?_⟩) (by assumption) ?_; rotate_left; (focus (intro wq hSq; have f := HF.out wq hSq; go_simp <;> with_reducible rfl)); simp only [Act.put, pA, pB, pC]
                  refine tkL 3 (v := ?_) rfl (by kernel_rfl) (fun _ _ _ => id) (Or.inl ⟨by rfl, ?_⟩) (by assumption) ?_; rotate_left; (focus (intro wq hSq; have f := HF.out wq hSq; go_simp <;> with_reducible rfl)); simp only [Act.put, pA, pB, pC]
                  refine tkL 4 (v := ?_) rfl (by kernel_rfl) (fun _ _ _ => id) (Or.inl ⟨by rfl, ?_⟩) (by assumption) ?_; rotate_left; (focus (intro wq hSq; have f := HF.out wq hSq; go_simp <;> with_reducible rfl)); simp only [Act.put, pA, pB, pC]
                  refine tkL 5 (v := ?_) rfl (by kernel_rfl) (fun _ _ _ => id) (Or.inl ⟨by rfl, ?_⟩) (by assumption) ?_; rotate_left; (focus (intro wq hSq; have f := HF.out wq hSq; go_simp <;> with_reducible rfl)); simp only [Act.put, pA, pB, pC]
                  refine tkL 6 (v := ?_) rfl (by kernel_rfl) (fun _ _ _ => id) (Or.inl ⟨by rfl, ?_⟩) (by assumption) ?_; rotate_left; (focus (intro wq hSq; have f := HF.out wq hSq; go_simp <;> with_reducible rfl)); simp only [Act.put, pA, pB, pC]
                  refine tkL 7 (v := ?_) rfl (by kernel_rfl) (fun _ _ _ => id) (Or.inl ⟨by rfl, ?_⟩) (by assumption) ?_; rotate_left; (focus (intro wq hSq; have f := HF.out wq hSq; go_simp <;> with_reducible rfl)); simp only [Act.put, pA, pB, pC]
                  refine tkL 8 (v := ?_) rfl (by kernel_rfl) (fun _ _ _ => id) (Or.inl ⟨by rfl, ?_⟩) (by assumption) ?_; rotate_left; (focus (intro wq hSq; have f := HF.out wq hSq; go_simp <;> with_reducible rfl)); simp only [Act.put, pA, pB, pC]
                  refine tkL 9 (v := ?_) rfl (by kernel_rfl) (fun _ _ _ => id) (Or.inl ⟨by rfl, ?_⟩) (by assumption) ?_; rotate_left; (focus (intro wq hSq; have f := HF.out wq hSq; go_simp <;> with_reducible rfl)); simp only [Act.put, pA, pB, pC]
                  refine tkL 10 (v := ?_) rfl (by kernel_rfl) (fun _ _ _ => id) (Or.inl ⟨by rfl, ?_⟩) (by assumption) ?_; rotate_left; (focus (intro wq hSq; have f := HF.out wq hSq; go_simp <;> with_reducible rfl)); simp only [Act.put, pA, pB, pC]
                  refine tkL 11 (v := ?_) rfl (by kernel_rfl) (fun _ _ _ => id) (Or.inl ⟨by rfl, ?_⟩) (by assumption) ?_; rotate_left; (focus (intro wq hSq; have f := HF.out wq hSq; go_simp <;> with_reducible rfl)); simp only [Act.put, pA, pB, pC]
                  refine tkL 12 (v := ?_) rfl (by kernel_rfl) (fun _ _ _ => id) (Or.inl ⟨by rfl, ?_⟩) (by assumption) ?_; rotate_left; (focus (intro wq hSq; have f := HF.out wq hSq; go_simp <;> with_reducible rfl)); simp only [Act.put, pA, pB, pC]
                  refine tkL 13 (v := ?_) rfl (by kernel_rfl) (fun _ _ _ => id) (Or.inl ⟨by rfl, ?_⟩) (by assumption) ?_; rotate_left; (focus (intro wq hSq; have f := HF.out wq hSq; go_simp <;> with_reducible rfl)); simp only [Act.put, pA, pB, pC]
                  refine tkL 14 (v := ?_) rfl (by kernel_rfl) (fun _ _ _ => id) (Or.inl ⟨by rfl, ?_⟩) (by assumption) ?_; rotate_left; (focus (intro wq hSq; have f := HF.out wq hSq; go_simp <;> with_reducible rfl)); simp only [Act.put, pA, pB, pC]
                  refine tkL 15 (v := ?_) rfl (by kernel_rfl) (fun _ _ _ => id) (Or.inl ⟨by rfl, ?_⟩) (by assumption) ?_; rotate_left; (focus (intro wq hSq; have f := HF.out wq hSq; go_simp <;> with_reducible rfl)); simp only [Act.put, pA, pB, pC]
                  refine tkL 16 (v := ?_) rfl (by kernel_rfl) (fun _ _ _ => id) (Or.inl ⟨by rfl, ?_⟩) (by assumption) ?_; rotate_left; (focus (intro wq hSq; have f := HF.out wq hSq; go_simp <;> with_reducible rfl)); simp only [Act.put, pA, pB, pC]
                  refine tkL 17 (v := ?_) rfl (by kernel_rfl) (fun _ _ _ => id) (Or.inl ⟨by rfl, ?_⟩) (by assumption) ?_; rotate_left; (focus (intro wq hSq; have f := HF.out wq hSq; go_simp <;> with_reducible rfl)); simp only [Act.put, pA, pB, pC]
                  refine wpAnyH_done (by kernel_rfl) ?_ _
                  clear hHeld
                  go_wp2_with fail
                  go_meet
                  case rel => exact ⟨by rw [q, d]; rfl, rfl⟩
               · have q' : (cn != -1) = false := by simp [bne, q]
                 refine wp_region_held_drew (S := fun wq => wq.cell? ⟨p, 4, none⟩ = some (.int .i64 cn) ∧ wq.cell? ⟨p, 2, none⟩ = some (.int .i64 tn)) (by kernel_rfl) (by rw [HZ5.out]; exact ⟨b4, b2⟩) (fun hHeld => ?_)
                 rw [HZ5.out] at hHeld ⊢
                 refine tkL 0 (v := ?_) rfl (by kernel_rfl) (fun _ _ _ => id) (Or.inl ⟨by rfl, ?_⟩) (by assumption) ?_; rotate_left; (focus (intro wq hSq; have f := HF.out wq hSq; go_simp <;> with_reducible rfl)); simp only [Act.put, pA, pB, pC]
                 refine tkL 1 (v := ?_) rfl (by kernel_rfl) (fun _ _ _ => id) (Or.inl ⟨by rfl, ?_⟩) (by assumption) ?_; rotate_left; (focus (intro wq hSq; have f := HF.out wq hSq; go_simp <;> with_reducible rfl)); simp only [Act.put, pA, pB, pC]
                 refine tkL 2 (v := ?_) rfl (by kernel_rfl) (fun _ _ _ => id) (Or.inl ⟨by rfl, ?_⟩) (by assumption) ?_; rotate_left; (focus (intro wq hSq; have f := HF.out wq hSq; go_simp <;> with_reducible rfl)); simp only [Act.put, pA, pB, pC]
                 refine tkL 3 (v := ?_) rfl (by kernel_rfl) (fun _ _ _ => id) (Or.inl ⟨by rfl, ?_⟩) (by assumption) ?_; rotate_left; (focus (intro wq hSq; have f := HF.out wq hSq; go_simp <;> with_reducible rfl)); simp only [Act.put, pA, pB, pC]
                 refine tkL 4 (v := ?_) rfl (by kernel_rfl) (fun _ _ _ => id) (Or.inl ⟨by rfl, ?_⟩) (by assumption) ?_; rotate_left; (focus (intro wq hSq; have f := HF.out wq hSq; go_simp <;> with_reducible rfl)); simp only [Act.put, pA, pB, pC]
                 refine tkL 5 (v := ?_) rfl (by kernel_rfl) (fun _ _ _ => id) (Or.inl ⟨by rfl, ?_⟩) (by assumption) ?_; rotate_left; (focus (intro wq hSq; have f := HF.out wq hSq; go_simp <;> with_reducible rfl)); simp only [Act.put, pA, pB, pC]
                 refine tkL 6 (v := undef) rfl (by kernel_rfl) (fun _ _ _ h => h) (Or.inr ⟨by rfl, rfl⟩) (by assumption) ?_; simp only [Act.put, pA, pB, pC]
                 refine tkL 7 (v := undef) rfl (by kernel_rfl) (fun _ _ _ h => h) (Or.inr ⟨by rfl, rfl⟩) (by assumption) ?_; simp only [Act.put, pA, pB, pC]
                 refine tkL 8 (v := undef) rfl (by kernel_rfl) (fun _ _ _ h => h) (Or.inr ⟨by rfl, rfl⟩) (by assumption) ?_; simp only [Act.put, pA, pB, pC]
                 refine tkL 9 (v := undef) rfl (by kernel_rfl) (fun _ _ _ h => h) (Or.inr ⟨by rfl, rfl⟩) (by assumption) ?_; simp only [Act.put, pA, pB, pC]
                 refine tkL 10 (v := undef) rfl (by kernel_rfl) (fun _ _ _ h => h) (Or.inr ⟨by rfl, rfl⟩) (by assumption) ?_; simp only [Act.put, pA, pB, pC]
                 refine tkL 11 (v := undef) rfl (by kernel_rfl) (fun _ _ _ h => h) (Or.inr ⟨by rfl, rfl⟩) (by assumption) ?_; simp only [Act.put, pA, pB, pC]
                 refine tkL 12 (v := undef) rfl (by kernel_rfl) (fun _ _ _ h => h) (Or.inr ⟨by rfl, rfl⟩) (by assumption) ?_; simp only [Act.put, pA, pB, pC]
                 refine tkL 13 (v := undef) rfl (by kernel_rfl) (fun _ _ _ h => h) (Or.inr ⟨by rfl, rfl⟩) (by assumption) ?_; simp only [Act.put, pA, pB, pC]
                 refine tkL 14 (v := undef) rfl (by kernel_rfl) (fun _ _ _ h => h) (Or.inr ⟨by rfl, rfl⟩) (by assumption) ?_; simp only [Act.put, pA, pB, pC]
                 refine tkL 15 (v := undef) rfl (by kernel_rfl) (fun _ _ _ h => h) (Or.inr ⟨by rfl, rfl⟩) (by assumption) ?_; simp only [Act.put, pA, pB, pC]
                 refine tkL 16 (v := ?_) rfl (by kernel_rfl) (fun _ _ _ => id) (Or.inl ⟨by rfl, ?_⟩) (by assumption) ?_; rotate_left; (focus (intro wq hSq; go_simp <;> with_reducible rfl)); simp only [Act.put, pA, pB, pC]
                 refine tkL 17 (v := ?_) rfl (by kernel_rfl) (fun _ _ _ => id) (Or.inl ⟨by rfl, ?_⟩) (by assumption) ?_; rotate_left; (focus (intro wq hSq; go_simp <;> with_reducible rfl)); simp only [Act.put, pA, pB, pC]
                 refine wpAnyH_done (by kernel_rfl) ?_ _
                 clear hHeld
                 go_wp2_with fail
                 go_meet
                 case rel => exact ⟨by rw [q]; rfl, rfl⟩
              case rest =>
               obtain ⟨rfl, rfl⟩ := hcut
               clear b4 b2 hsub HF HZ5
               go_upto_region 17 with fail
               obtain ⟨Z7, hZ7⟩ : ∃ W, wc.drew = W := ⟨_, rfl⟩
               have hb7 : Below wc.heap.size wc Z7 := by rw [← hZ7]; exact Below.drew (Below.refl _ _)
               have HZ7 := Lib.hid hZ7
               have X7 := Lib.hid (X5.out.below hb7 X5.out.lt); have P7 := Lib.hid (P5.out.below hb7 P5.out.lt); have T7 := Lib.hid (TY.out.below hb7); have R7 := Lib.hid (gown_bel R5.out hb7); have B7 := Lib.hid (B5.out.trans (hb7.mono B5.out.size))
               clear hZ7 hb7 X5 P5 TY R5 B5
               have HLE := Lib.hid (fun W (hW : Below Z7.heap.size Z7 W) => tlearns_any p g cap s (k : Nat) W (T7.out.below hW) HSO.out)
               have HF := Lib.hid (fun (wq : World) (h : CBox wq nb 108 #[.int .u64 s.best.root, .int .i64 s.best.cost, .int .u64 s.bridge, .int .i64 (k : Nat)] ∧ CBox wq pb 145 #[.int .i64 pc, .int .i64 pr, .int .i64 ps, .bool pu, .bool pk, .bool pf, .int .u64 vr, .int .i64 vc, .int .u64 vb, .int .i64 vp, .int .i64 pa, .bool p11, .bool p12, .bool p13, .int .i64 pat]) => And.intro (h.1.at_ 0 _ rfl).1 (And.intro (h.1.at_ 1 _ rfl).1 (And.intro (h.1.at_ 2 _ rfl).1 (And.intro (h.1.at_ 3 _ rfl).1 (h.2.at_ 5 _ rfl).1))))
               refine wp_region_held_drew (S := fun wq => CBox wq nb 108 #[.int .u64 s.best.root, .int .i64 s.best.cost, .int .u64 s.bridge, .int .i64 (k : Nat)] ∧ CBox wq pb 145 #[.int .i64 pc, .int .i64 pr, .int .i64 ps, .bool pu, .bool pk, .bool pf, .int .u64 vr, .int .i64 vc, .int .u64 vb, .int .i64 vp, .int .i64 pa, .bool p11, .bool p12, .bool p13, .int .i64 pat]) (by kernel_rfl) (by rw [HZ7.out]; exact ⟨X7.out, P7.out⟩) (fun hHeld => ?_)
               rw [HZ7.out] at hHeld ⊢
               iterate 7 (first | (refine takeO 15 (v := ?_) rfl (by kernel_rfl) (fun _ _ _ => id) (Or.inl ⟨by rfl, ?_⟩) (by assumption) ?_; rotate_left; (focus (intro wq hSq; have f := HF.out wq hSq; go_simp <;> with_reducible rfl)); simp only [Act.put, List.setIfInBounds_toArray, List.set_cons_zero, List.set_cons_succ]) | (refine takeO 15 (v := undef) rfl (by kernel_rfl) (fun _ _ _ h => h) (Or.inr ⟨by rfl, rfl⟩) (by assumption) ?_; simp only [Act.put, List.setIfInBounds_toArray, List.set_cons_zero, List.set_cons_succ]))
               refine tkL 8 (v := ?_) rfl (by kernel_rfl) (fun _ _ _ => id) (Or.inl ⟨by rfl, ?_⟩) (by assumption) ?_; rotate_left; (focus (intro wq hSq; have f := HF.out wq hSq; go_simp <;> with_reducible rfl)); simp only [Act.put, pA, pB, pC]
               refine tkL 9 (v := ?_) rfl (by kernel_rfl) (fun _ _ _ => id) (Or.inl ⟨by rfl, ?_⟩) (by assumption) ?_; rotate_left; (focus (intro wq hSq; have f := HF.out wq hSq; go_simp <;> with_reducible rfl)); simp only [Act.put, pA, pB, pC]
               refine wpAnyH_ready (rs := [7]) (by kernel_rfl) (by simp) (nextL 7 rfl (fun Kr hKr => ?_) AllReadyH.nil)
               rw [if_pos (by rfl)]
               go_simp
               (with_reducible refine (HLE.out _ (Below.refl _ _)).mono ?_)
               rintro e w8 ⟨rfl, hb8⟩
               have R8 := Lib.hid (gown_bel R7.out hb8); have B8 := Lib.hid (B7.out.trans (hb8.mono B7.out.size)); have T8 := Lib.hid (T7.out.below hb8); have X8 := Lib.hid (X7.out.below hb8 X7.out.lt); have P8 := Lib.hid (P7.out.below hb8 P7.out.lt)
               refine hKr.out _ _ ⟨X8.out, P8.out⟩ (fun _ => ?_)
               clear hKr HLE
               iterate 2 (first | (refine takeO 15 (v := ?_) rfl (by kernel_rfl) (fun _ _ _ => id) (Or.inl ⟨by rfl, ?_⟩) (by assumption) ?_; rotate_left; (focus (intro wq hSq; go_simp <;> with_reducible rfl)); simp only [Act.put, List.setIfInBounds_toArray, List.set_cons_zero, List.set_cons_succ]) | (refine takeO 15 (v := undef) rfl (by kernel_rfl) (fun _ _ _ h => h) (Or.inr ⟨by rfl, rfl⟩) (by assumption) ?_; simp only [Act.put, List.setIfInBounds_toArray, List.set_cons_zero, List.set_cons_succ]))
               refine wpAnyH_ready (rs := [12]) (by kernel_rfl) (by simp) (nextL 12 rfl (fun Kr hKr => ?_) AllReadyH.nil)
               rw [if_pos (by rfl)]
               go_simp
               obtain ⟨W9, hW9⟩ : ∃ W, w8.alloc (.cells #[.int .i64 (k : Nat), .int .u64 s.best.root, .int .i64 s.best.cost, .int .u64 s.bridge, .int .i64 (k : Nat), .int .i64 s.age, .bool (!(cn == -1) && decide (tn - cn < 4)), .bool (s.learns (k : Nat)), .bool pf] 133) = W := ⟨_, rfl⟩
               have hb9 : Below w8.heap.size w8 W9 := by rw [← hW9]; exact (Below.refl _ _).alloc (Nat.le_refl _) _
               have HN9 := Lib.hid (show SliceOf W9 9 (.slice (some ⟨w8.heap.size, 0, none⟩) 1 1) 1 (ocell (s.tick1 k ⟨pc, pr, ps, pu, pk, pf, ⟨⟨vr, vc, vb, vp⟩, pa, p11, p12, p13⟩, pat⟩)) from by
                rw [← hW9]
                unfold Tre.tick1
                rw [HTN.out, HCN.out]
                exact sliceOf_block (heap_new w8 _ _ rfl) rfl (by simp [ocell, Value.oneCell']))
               have R9 := Lib.hid (gown_bel R8.out hb9); have B9 := Lib.hid (B8.out.trans (hb9.mono B8.out.size)); have T9 := Lib.hid (T8.out.below hb9)
               have X9 := Lib.hid (X8.out.below hb9 X8.out.lt); have P9 := Lib.hid (P8.out.below hb9 P8.out.lt)
               rw [hW9]
               refine hKr.out _ _ ⟨X9.out, P9.out⟩ (fun _ => ?_)
               have hc3 : (s.ticksGo 0 (s.ports.take k)).length + 1 ≤ maxLen := by have := HLN.out; unfold maxLen; omega
               have hc4 : ((s.ticksGo 0 (s.ports.take k)).length + 1) * 56 ≤ 140737488355328 := by have := HLN.out; omega
               have HC3 := Lib.hid hc3; have HC4 := Lib.hid hc4
               clear hKr hW9 hb9 hb8 hc3 hc4
               refine wpAnyH_ready (rs := [13]) (by kernel_rfl) (by simp) (nextL 13 rfl (fun Kr hKr => ?_) AllReadyH.nil)
               refine step_append_vals (by rfl) (.tmp 97) (.tmp 109) 130 (by rfl) w5.heap.size 133 i0 _ 9 56 Tryz.underlying130 hi0 hz0 hz1 hz2 rfl (by decide) u6 (s.ticksGo 0 (s.ports.take k)).length ((s.ticksGo 0 (s.ports.take k)).flatMap ocell) (by rfl) R9.out (.slice (some ⟨w8.heap.size, 0, none⟩) 1 1) 1 (ocell (s.tick1 k ⟨pc, pr, ps, pu, pk, pf, ⟨⟨vr, vc, vb, vp⟩, pa, p11, p12, p13⟩, pat⟩)) (by rfl) HN9.out HC3.out HC4.out B9.out.size ?_
               intro v' wA ho hg hv
               refine hKr.out _ _ ⟨X9.out.grown hg (fun e => own_box R9.out X9.out (by decide) e.symm), P9.out.grown hg (fun e => own_box R9.out P9.out (by decide) e.symm)⟩ (fun _ => ?_)
               have HBA := Lib.hid (below_own B9.out R9.out (Nat.le_refl _) B9.out.size hg)
               have HRA := Lib.hid (show wA.ownsRow w5.heap.size 133 9 v' (s.ticksGo 0 (s.ports.take (k + 1))).length ((s.ticksGo 0 (s.ports.take (k + 1))).flatMap ocell) from by
                rw [HE.out, List.length_append, List.flatMap_append]
                simpa using ho)
               clear hKr ho hg hv
               iterate 1 (first | (refine takeO 15 (v := ?_) rfl (by kernel_rfl) (fun _ _ _ => id) (Or.inl ⟨by rfl, ?_⟩) (by assumption) ?_; rotate_left; (focus (intro wq hSq; go_simp <;> with_reducible rfl)); simp only [Act.put, List.setIfInBounds_toArray, List.set_cons_zero, List.set_cons_succ]) | (refine takeO 15 (v := undef) rfl (by kernel_rfl) (fun _ _ _ h => h) (Or.inr ⟨by rfl, rfl⟩) (by assumption) ?_; simp only [Act.put, List.setIfInBounds_toArray, List.set_cons_zero, List.set_cons_succ]))
               refine wpAnyH_done (by kernel_rfl) ?_ _
               clear hHeld HF HC3 HC4
               go_wp2_with fail
               go_roundw
               case rel => exact ⟨k + 1, by omega, by go_num, HRA.out, HBA.out⟩
               case measure => simp [intOf]; omega
          · obtain rfl : k = s.ports.length := by omega
            have hrw := HRW.out
            rw [List.take_length] at hrw
            have HL := Lib.hid hrw
            clear hrw
            go_wp2_with fail
            go_ret
            exact ⟨_, rfl, by rw [HR.out]; exact own_base9 HL.out (by have := U5.out.size; omega), by rw [HR.out]; exact T5.out.below HB.out, U5.out.after HB.out⟩
       · have HR := Lib.hid (show t.tick now = (s, []) from by rw [HTI.out, q1, q2]; rfl)
         go_wp2_with fail
         go_ret
         exact ⟨_, rfl, by rw [HR.out]; exact World.ownsRow_nil _ _ _ _, by rw [HR.out]; exact T5.out, U5.out⟩
     · have HR := Lib.hid (show t.tick now = (s, []) from by rw [HTI.out, q1]; rfl)
       go_wp2_with fail
       go_ret
       exact ⟨_, rfl, by rw [HR.out]; exact World.ownsRow_nil _ _ _ _, by rw [HR.out]; exact T5.out, U5.out⟩
end Go.Proofs.YthcdppppppgckaaGreatDoor
