/- Texts joined into one file: BRf, BCf, BSi, BOp. -/
import Derived.Test.YthcdppppppgckaaGreatDoorC29
import Derived.Test.YthcdppppppgckaaGreatDoorC28
import Derived.Test.YthcdppppppgckaaGreatDoorC04
import Derived.Deep.DeepCutAuto
import Derived.Test.YthcdppppppgckaaGreatDoorC31
import Derived.Test.YthcdppppppgckaaGreatDoorC35
import Derived.Test.YthcdppppppgckaaGreatDoorC38
import Derived.Test.YthcdppppppgckaaGreatDoorC39
import Derived.Test.YthcdppppppgckaaGreatDoorC27
import Derived.Test.YthcdppppppgckaaGreatDoorC11
import Derived.ProofKit
import Derived.OpenShut
import Derived.SizedLaws
import Derived.Lib.SmallJoins
import Derived.Deep.SlicePairs

namespace Go.Proofs.YthcdppppppgckaaGreatDoor
open Go.RowKit Go.Lib Go.Sort
set_option maxRecDepth 20000
set_option maxRecDepth 20000

structure Fit (f : Fr) : Prop where
 dst : f.dst.length = 6
 src : f.src.length = 6
 tg : f.tagged = false
 vl : f.vlan = 0
 pr : f.prio = 0
 ty : 0 ≤ f.typ ∧ f.typ ≤ 65535 ∧ f.typ ≠ 33024
 da : f.data.length ≤ 2000
set_option maxHeartbeats 4000000 in
theorem rmay_plain (f : Fr) (w : World) (h : Fit f) :
 Calls Tryz.prog 54 #[encF f] w fun e w' => e = .returned (.bool true) ∧ Below w.heap.size w w' := by
 obtain ⟨d1, s1, t1, v1, p1, y1, a1⟩ := f
 obtain ⟨h1, h2, rfl, rfl, rfl, ⟨h3, h4, h5⟩, h6⟩ := h
 dsimp only at h1 h2 h3 h4 h5 h6
 obtain ⟨W1, hW1⟩ : ∃ W, w.alloc (.cells #[.string (bstr d1), .string (bstr s1), .bool false, .int .i64 0, .int .i64 0, .int .i64 y1, .string (bstr a1)] 48) = W := ⟨_, rfl⟩
 obtain ⟨q0, hq0⟩ : ∃ q, w.heap.size = q := ⟨_, rfl⟩
 have hb1 : Below w.heap.size w W1 := by rw [← hW1]; exact (Below.refl _ _).alloc (Nat.le_refl _) _
 have X1 := Lib.hid (show CBox W1 q0 48 #[.string (bstr d1), .string (bstr s1), .bool false, .int .i64 0, .int .i64 0, .int .i64 y1, .string (bstr a1)] from by rw [← hW1]; exact CBox.new _ hq0.symm)
 have l1 : ∀ ty W, (Builtin.len_ #[46] ty #[.string (bstr d1)]).run Tryz.prog W = .ok (.int .i64 6) W := fun ty W => by
  have := run_len_b W 46 Tryz.underlying46 d1 ty
  rwa [h1] at this
 have l2 : ∀ ty W, (Builtin.len_ #[46] ty #[.string (bstr s1)]).run Tryz.prog W = .ok (.int .i64 6) W := fun ty W => by
  have := run_len_b W 46 Tryz.underlying46 s1 ty
  rwa [h2] at this
 have l3 : ∀ ty W, (Builtin.len_ #[9] ty #[.string (bstr a1)]).run Tryz.prog W = .ok (.int .i64 a1.length) W := fun ty W => run_len_b W 9 Tryz.underlying9 a1 ty
 have q1 : decide (y1 < 0) = false := decide_eq_false (by omega)
 have q2 : decide (65535 < y1) = false := decide_eq_false (by omega)
 have q3 : decide ((2000 : Int) < (a1.length : Int)) = false := decide_eq_false (by omega)
 have q4 : (y1 != 33024) = true := by simpa using h5
 have B1 := Lib.hid hb1; have HW1 := Lib.hid hW1; have HQ0 := Lib.hid hq0
 unfold encF fcells
 dsimp only
 clear h1 h2 h3 h4 h5 h6 hW1 hq0 hb1
 go_enter Tryz.func54, Tryz.ntmps54
 go_upto_region 1 with fail
 rw [HW1.out, HQ0.out]
 obtain ⟨c0, cf0⟩ := CBox.at_ X1.out 0 _ rfl
 obtain ⟨c1, cf1⟩ := CBox.at_ X1.out 1 _ rfl
 obtain ⟨c2, cf2⟩ := CBox.at_ X1.out 2 _ rfl
 obtain ⟨c3, cf3⟩ := CBox.at_ X1.out 3 _ rfl
 obtain ⟨c4, cf4⟩ := CBox.at_ X1.out 4 _ rfl
 obtain ⟨c5, cf5⟩ := CBox.at_ X1.out 5 _ rfl
 obtain ⟨c6, cf6⟩ := CBox.at_ X1.out 6 _ rfl
 go_wp2_with fail
 go_ret
 exact ⟨rfl, B1.out⟩

attribute [local go_sem] bstr_append
set_option maxHeartbeats 4000000 in
theorem renc_plain (f : Fr) (w : World) (h : Fit f) :
 Calls Tryz.prog 24 #[encF f] w fun e w' => e = .returned (.tuple #[.string (bstr (eEncS f)), .int .i64 0]) ∧ Below w.heap.size w w' := by
 have HMY := Lib.hid (fun W => rmay_plain f W h)
 obtain ⟨d1, s1, t1, v1, p1, y1, a1⟩ := f
 obtain ⟨h1, h2, rfl, rfl, rfl, ⟨h3, h4, h5⟩, h6⟩ := h
 dsimp only at h1 h2 h3 h4 h5 h6
 obtain ⟨n, rfl⟩ := Int.eq_ofNat_of_zero_le h3
 obtain ⟨W1, hW1⟩ : ∃ W, w.alloc (.cells #[.string (bstr d1), .string (bstr s1), .bool false, .int .i64 0, .int .i64 0, .int .i64 n, .string (bstr a1)] 48) = W := ⟨_, rfl⟩
 obtain ⟨q0, hq0⟩ : ∃ q, w.heap.size = q := ⟨_, rfl⟩
 have hb1 : Below w.heap.size w W1 := by rw [← hW1]; exact (Below.refl _ _).alloc (Nat.le_refl _) _
 have X1 := Lib.hid (show CBox W1 q0 48 #[.string (bstr d1), .string (bstr s1), .bool false, .int .i64 0, .int .i64 0, .int .i64 n, .string (bstr a1)] from by rw [← hW1]; exact CBox.new _ hq0.symm)
 have HOF := Lib.hid (fun W => (show Calls Tryz.prog 55 #[.int .i64 n, .int .i64 2] W (fun e w' => e = .returned (.string (bstr (ofN n 2))) ∧ Below W.heap.size W w') from of_any n 2 W (by decide) (by decide) (by omega)))
 have e1 : ∀ W, (Op.stringOp .add (bstr d1) (bstr s1)).run Tryz.prog W = .ok (.string (bstr (d1 ++ s1))) W := fun W => run_sadd_b W d1 s1 (by omega)
 have m2 : ¬ (9223372036854775807 < (bstr (d1 ++ s1)).size + (bstr (ofN n 2)).size) := by rw [bstr_size, bstr_size, List.length_append, ofN_length]; omega
 have m3 : ¬ (9223372036854775807 < (bstr (d1 ++ (s1 ++ ofN n 2))).size + (bstr a1).size) := by rw [bstr_size, bstr_size, List.length_append, List.length_append, ofN_length]; omega
 have HE := Lib.hid (show eEncS ⟨d1, s1, false, 0, 0, n, a1⟩ = d1 ++ s1 ++ ofN n 2 ++ a1 from by unfold eEncS; simp)
 have B1 := Lib.hid hb1; have HW1 := Lib.hid hW1; have HQ0 := Lib.hid hq0
 unfold encF fcells at HMY ⊢
 dsimp only at HMY ⊢
 clear h1 h2 h3 h4 h5 h6 hW1 hq0 hb1
 go_enter Tryz.func24, Tryz.ntmps24
 go_upto_region 1 with fail
 rw [HW1.out, HQ0.out]
 obtain ⟨c0, cf0⟩ := CBox.at_ X1.out 0 _ rfl
 obtain ⟨c1, cf1⟩ := CBox.at_ X1.out 1 _ rfl
 obtain ⟨c2, cf2⟩ := CBox.at_ X1.out 2 _ rfl
 obtain ⟨c3, cf3⟩ := CBox.at_ X1.out 3 _ rfl
 obtain ⟨c4, cf4⟩ := CBox.at_ X1.out 4 _ rfl
 obtain ⟨c5, cf5⟩ := CBox.at_ X1.out 5 _ rfl
 obtain ⟨c6, cf6⟩ := CBox.at_ X1.out 6 _ rfl
 go_upto_region 3 with ((with_reducible refine (HMY.out _).mono ?_); rintro e w2 ⟨rfl, hb2⟩; have B2 := Lib.hid (B1.out.trans (hb2.mono B1.out.size)); have X2 := Lib.hid (X1.out.below hb2 X1.out.lt); clear hb2)
 clear c0 cf0 c1 cf1 c2 cf2 c3 cf3 c4 cf4 c5 cf5 c6 cf6
 obtain ⟨c0, cf0⟩ := CBox.at_ X2.out 0 _ rfl
 obtain ⟨c1, cf1⟩ := CBox.at_ X2.out 1 _ rfl
 obtain ⟨c2, cf2⟩ := CBox.at_ X2.out 2 _ rfl
 obtain ⟨c3, cf3⟩ := CBox.at_ X2.out 3 _ rfl
 obtain ⟨c4, cf4⟩ := CBox.at_ X2.out 4 _ rfl
 obtain ⟨c5, cf5⟩ := CBox.at_ X2.out 5 _ rfl
 obtain ⟨c6, cf6⟩ := CBox.at_ X2.out 6 _ rfl
 go_upto_region 6 with fail
 clear c0 cf0 c1 cf1 c2 cf2 c3 cf3 c4 cf4 c5 cf5 c6 cf6
 obtain ⟨Z, hZ⟩ : ∃ W, w2.drew = W := ⟨_, rfl⟩
 have hbz : Below w2.heap.size w2 Z := by rw [← hZ]; exact Below.drew (Below.refl _ _)
 have BZ := Lib.hid (B2.out.trans (hbz.mono B2.out.size)); have XZ := Lib.hid (X2.out.below hbz X2.out.lt); have HZ := Lib.hid hZ
 clear hZ hbz
 have HF := Lib.hid (fun (wq : World) (h : CBox wq q0 48 #[.string (bstr d1), .string (bstr s1), .bool false, .int .i64 0, .int .i64 0, .int .i64 n, .string (bstr a1)]) => And.intro (h.at_ 5 _ rfl).1 (h.at_ 6 _ rfl).1)
 refine wp_region_held_drew (S := fun wq => CBox wq q0 48 #[.string (bstr d1), .string (bstr s1), .bool false, .int .i64 0, .int .i64 0, .int .i64 n, .string (bstr a1)]) (by kernel_rfl) (by rw [HZ.out]; exact XZ.out) (fun hHeld => ?_)
 rw [HZ.out] at hHeld ⊢
 iterate 3 (first | (refine takeO 10 (v := ?_) rfl (by kernel_rfl) (fun _ _ _ => id) (Or.inl ⟨by rfl, ?_⟩) (by assumption) ?_; rotate_left; (focus (intro wq hSq; have f := HF.out wq hSq; go_simp <;> with_reducible rfl)); simp only [Act.put, List.setIfInBounds_toArray, List.set_cons_zero, List.set_cons_succ]) | (refine takeO 10 (v := undef) rfl (by kernel_rfl) (fun _ _ _ h => h) (Or.inr ⟨by rfl, rfl⟩) (by assumption) ?_; simp only [Act.put, List.setIfInBounds_toArray, List.set_cons_zero, List.set_cons_succ]))
 refine tkL 5 (v := ?_) rfl (by kernel_rfl) (fun _ _ _ => id) (Or.inl ⟨by rfl, ?_⟩) (by assumption) ?_; rotate_left; (focus (intro wq hSq; have f := HF.out wq hSq; go_simp <;> with_reducible rfl)); simp only [Act.put, pA, pB, pC]
 refine tkL 6 (v := ?_) rfl (by kernel_rfl) (fun _ _ _ => id) (Or.inl ⟨by rfl, ?_⟩) (by assumption) ?_; rotate_left; (focus (intro wq hSq; have f := HF.out wq hSq; go_simp <;> with_reducible rfl)); simp only [Act.put, pA, pB, pC]
 refine wpAnyH_ready (rs := [3]) (by kernel_rfl) (by simp) (nextL 3 rfl (fun Kr hKr => ?_) AllReadyH.nil)
 rw [if_pos (by rfl)]
 go_simp
 (with_reducible refine (HOF.out Z).mono ?_)
 rintro e w3 ⟨rfl, hb3⟩
 have hHeld := XZ.out.below hb3 XZ.out.lt
 refine hKr.out _ _ hHeld (fun _ => ?_)
 have B3 := Lib.hid (BZ.out.trans (hb3.mono BZ.out.size))
 clear hKr hb3
 refine tkL 4 (v := ?_) rfl (by kernel_rfl) (fun _ _ _ => id) (Or.inl ⟨by rfl, ?_⟩) (by assumption) ?_; rotate_left; (focus (intro wq hSq; have f := HF.out wq hSq; go_simp <;> with_reducible rfl)); simp only [Act.put, pA, pB, pC]
 refine tkL 7 (v := ?_) rfl (by kernel_rfl) (fun _ _ _ => id) (Or.inl ⟨by rfl, ?_⟩) (by assumption) ?_; rotate_left; (focus (intro wq hSq; have f := HF.out wq hSq; go_simp <;> with_reducible rfl)); simp only [Act.put, pA, pB, pC]
 refine tkL 8 (v := ?_) rfl (by kernel_rfl) (fun _ _ _ => id) (Or.inl ⟨by rfl, ?_⟩) (by assumption) ?_; rotate_left; (focus (intro wq hSq; have f := HF.out wq hSq; go_simp <;> with_reducible rfl)); simp only [Act.put, pA, pB, pC]
 refine tkL 9 (v := ?_) rfl (by kernel_rfl) (fun _ _ _ => id) (Or.inl ⟨by rfl, ?_⟩) (by assumption) ?_; rotate_left; (focus (intro wq hSq; have f := HF.out wq hSq; go_simp <;> with_reducible rfl)); simp only [Act.put, pA, pB, pC]
 refine wpAnyH_done (by kernel_rfl) ?_ _
 clear hHeld HF
 go_wp2_with fail
 go_ret2
 exact ⟨by rw [HE.out]; simp, B3.out⟩
end Go.Proofs.YthcdppppppgckaaGreatDoor

namespace Go.Proofs.YthcdppppppgckaaGreatDoor
open Go.RowKit Go.Lib
set_option maxRecDepth 20000
set_option maxRecDepth 20000

theorem cells13s {w : World} {b : Nat} {T : TypeId} {x0 x1 x2 x3 x4 x5 x6 x7 x8 x9 x10 x11 x12 : Value} (h : CBox w b T #[x0, x1, x2, x3, x4, x5, x6, x7, x8, x9, x10, x11, x12]) (v0 v1 v2 v3 v4 v5 v6 v7 v8 v9 v10 v11 v12 : Value) : CBox (setsL w b 0 [v0, v1, v2, v3, v4, v5, v6, v7, v8, v9, v10, v11, v12]) b T #[v0, v1, v2, v3, v4, v5, v6, v7, v8, v9, v10, v11, v12] :=
 have h0 : CBox _ b T #[v0, x1, x2, x3, x4, x5, x6, x7, x8, x9, x10, x11, x12] := h.set 0 v0
 have h1 : CBox _ b T #[v0, v1, x2, x3, x4, x5, x6, x7, x8, x9, x10, x11, x12] := h0.set 1 v1
 have h2 : CBox _ b T #[v0, v1, v2, x3, x4, x5, x6, x7, x8, x9, x10, x11, x12] := h1.set 2 v2
 have h3 : CBox _ b T #[v0, v1, v2, v3, x4, x5, x6, x7, x8, x9, x10, x11, x12] := h2.set 3 v3
 have h4 : CBox _ b T #[v0, v1, v2, v3, v4, x5, x6, x7, x8, x9, x10, x11, x12] := h3.set 4 v4
 have h5 : CBox _ b T #[v0, v1, v2, v3, v4, v5, x6, x7, x8, x9, x10, x11, x12] := h4.set 5 v5
 have h6 : CBox _ b T #[v0, v1, v2, v3, v4, v5, v6, x7, x8, x9, x10, x11, x12] := h5.set 6 v6
 have h7 : CBox _ b T #[v0, v1, v2, v3, v4, v5, v6, v7, x8, x9, x10, x11, x12] := h6.set 7 v7
 have h8 : CBox _ b T #[v0, v1, v2, v3, v4, v5, v6, v7, v8, x9, x10, x11, x12] := h7.set 8 v8
 have h9 : CBox _ b T #[v0, v1, v2, v3, v4, v5, v6, v7, v8, v9, x10, x11, x12] := h8.set 9 v9
 have h10 : CBox _ b T #[v0, v1, v2, v3, v4, v5, v6, v7, v8, v9, v10, x11, x12] := h9.set 10 v10
 have h11 : CBox _ b T #[v0, v1, v2, v3, v4, v5, v6, v7, v8, v9, v10, v11, x12] := h10.set 11 v11
 have h12 : CBox _ b T #[v0, v1, v2, v3, v4, v5, v6, v7, v8, v9, v10, v11, v12] := h11.set 12 v12
 h12
set_option maxHeartbeats 8000000 in
theorem config_any (n0 n1 n2 n3 n4 n5 n6 : Int) (a1 b1 : Option Addr) (a2 a3 b2 b3 : Nat) (s1 s2 : ByteArray) (l1 l2 : Bool) (w : World) :
 Calls Tryz.prog 11 #[.agg #[.int .u64 n0, .slice a1 a2 a3, .slice b1 b2 b3, .string s1, .string s2, .int .i64 n1, .int .i64 n2, .int .i64 n3, .int .i64 n4, .int .i64 n5, .int .i64 n6, .bool l1, .bool l2]] w fun e w' => e = .returned (.agg #[.int .u64 n0, .slice a1 a2 a3, .slice b1 b2 b3, .string s1, .string s2, .int .i64 n1, .int .i64 n2, .int .i64 n3, .int .i64 n4, .int .i64 n5, .int .i64 n6, .bool l1, .bool l2]) ∧ Below w.heap.size w w' := by
 obtain ⟨W1, hW1⟩ : ∃ W, w.alloc (.cells #[.int .u64 n0, .slice a1 a2 a3, .slice b1 b2 b3, .string s1, .string s2, .int .i64 n1, .int .i64 n2, .int .i64 n3, .int .i64 n4, .int .i64 n5, .int .i64 n6, .bool l1, .bool l2] 27) = W := ⟨_, rfl⟩
 obtain ⟨q0, hq0⟩ : ∃ q, w.heap.size = q := ⟨_, rfl⟩
 have hb1 : Below w.heap.size w W1 := by rw [← hW1]; exact (Below.refl _ _).alloc (Nat.le_refl _) _
 have hx1 : CBox W1 q0 27 #[.int .u64 n0, .slice a1 a2 a3, .slice b1 b2 b3, .string s1, .string s2, .int .i64 n1, .int .i64 n2, .int .i64 n3, .int .i64 n4, .int .i64 n5, .int .i64 n6, .bool l1, .bool l2] := by rw [← hW1]; exact CBox.new _ hq0.symm
 obtain ⟨W2, hW2⟩ : ∃ W, W1.alloc (.cells #[.int .u64 0, .slice none 0 0, .slice none 0 0, .string ⟨#[]⟩, .string ⟨#[]⟩, .int .i64 0, .int .i64 0, .int .i64 0, .int .i64 0, .int .i64 0, .int .i64 0, .bool false, .bool false] 32) = W := ⟨_, rfl⟩
 have hb2 : Below W1.heap.size W1 W2 := by rw [← hW2]; exact (Below.refl _ _).alloc (Nat.le_refl _) _
 have hs1 : W1.heap.size = q0 + 1 := by rw [← hW1, World.size_alloc, hq0]
 have X2 := Lib.hid (hx1.below hb2 hx1.lt)
 have Z2 := Lib.hid (show CBox W2 (q0 + 1) 32 #[.int .u64 0, .slice none 0 0, .slice none 0 0, .string ⟨#[]⟩, .string ⟨#[]⟩, .int .i64 0, .int .i64 0, .int .i64 0, .int .i64 0, .int .i64 0, .int .i64 0, .bool false, .bool false] from by rw [← hW2]; exact CBox.new _ hs1.symm)
 have B2 := Lib.hid (hb1.trans (hb2.mono hb1.size)); have HW1 := Lib.hid hW1; have HW2 := Lib.hid hW2; have HQ0 := Lib.hid hq0; have HS1 := Lib.hid hs1
 have HLE := Lib.hid (show w.heap.size ≤ q0 + 1 from by omega)
 clear hW1 hq0 hb1 hx1 hW2 hb2 hs1
 go_enter Tryz.func11, Tryz.ntmps11
 go_upto_region 1 with fail
 rw [HW1.out, HW2.out, HQ0.out]
 obtain ⟨c0, cf0⟩ := CBox.at_ X2.out 0 _ rfl
 obtain ⟨c1, cf1⟩ := CBox.at_ X2.out 1 _ rfl
 obtain ⟨c2, cf2⟩ := CBox.at_ X2.out 2 _ rfl
 obtain ⟨c3, cf3⟩ := CBox.at_ X2.out 3 _ rfl
 obtain ⟨c4, cf4⟩ := CBox.at_ X2.out 4 _ rfl
 obtain ⟨c5, cf5⟩ := CBox.at_ X2.out 5 _ rfl
 obtain ⟨c6, cf6⟩ := CBox.at_ X2.out 6 _ rfl
 obtain ⟨c7, cf7⟩ := CBox.at_ X2.out 7 _ rfl
 obtain ⟨c8, cf8⟩ := CBox.at_ X2.out 8 _ rfl
 obtain ⟨c9, cf9⟩ := CBox.at_ X2.out 9 _ rfl
 obtain ⟨c10, cf10⟩ := CBox.at_ X2.out 10 _ rfl
 obtain ⟨c11, cf11⟩ := CBox.at_ X2.out 11 _ rfl
 obtain ⟨c12, cf12⟩ := CBox.at_ X2.out 12 _ rfl
 obtain ⟨z0, zf0⟩ := CBox.at_ Z2.out 0 _ rfl
 obtain ⟨z1, zf1⟩ := CBox.at_ Z2.out 1 _ rfl
 obtain ⟨z2, zf2⟩ := CBox.at_ Z2.out 2 _ rfl
 obtain ⟨z3, zf3⟩ := CBox.at_ Z2.out 3 _ rfl
 obtain ⟨z4, zf4⟩ := CBox.at_ Z2.out 4 _ rfl
 obtain ⟨z5, zf5⟩ := CBox.at_ Z2.out 5 _ rfl
 obtain ⟨z6, zf6⟩ := CBox.at_ Z2.out 6 _ rfl
 obtain ⟨z7, zf7⟩ := CBox.at_ Z2.out 7 _ rfl
 obtain ⟨z8, zf8⟩ := CBox.at_ Z2.out 8 _ rfl
 obtain ⟨z9, zf9⟩ := CBox.at_ Z2.out 9 _ rfl
 obtain ⟨z10, zf10⟩ := CBox.at_ Z2.out 10 _ rfl
 obtain ⟨z11, zf11⟩ := CBox.at_ Z2.out 11 _ rfl
 obtain ⟨z12, zf12⟩ := CBox.at_ Z2.out 12 _ rfl
 go_wp2_with fail
 have hz := box13 (cells13s Z2.out (.int .u64 n0) (.slice a1 a2 a3) (.slice b1 b2 b3) (.string s1) (.string s2) (.int .i64 n1) (.int .i64 n2) (.int .i64 n3) (.int .i64 n4) (.int .i64 n5) (.int .i64 n6) (.bool l1) (.bool l2))
 dsimp only [setsL] at hz
 obtain ⟨r0, r1, r2, r3, r4, r5, r6, r7, r8, r9, r10, r11, r12⟩ := hz
 refine bodyPost_ret (v := .agg #[.int .u64 n0, .slice a1 a2 a3, .slice b1 b2 b3, .string s1, .string s2, .int .i64 n1, .int .i64 n2, .int .i64 n3, .int .i64 n4, .int .i64 n5, .int .i64 n6, .bool l1, .bool l2]) (by simp [results, Tryz.results11, go_sem, r0, r1, r2, r3, r4, r5, r6, r7, r8, r9, r10, r11, r12]) rfl ?_
 exact ⟨rfl, setsL_below HLE.out [.int .u64 n0, .slice a1 a2 a3, .slice b1 b2 b3, .string s1, .string s2, .int .i64 n1, .int .i64 n2, .int .i64 n3, .int .i64 n4, .int .i64 n5, .int .i64 n6, .bool l1, .bool l2] 0 B2.out⟩

def simP : Pt := ⟨10, [], [10]⟩
def simC : Cfg := ⟨7, [10, 10], [simP, simP], [], [], 20, 2, 50, 2, 100, 50, false, false⟩
theorem simR {R : List Int} (h1 : R.Pairwise (· < ·)) (h2 : ∀ x, x ∈ R ↔ x ∈ allV [simP, simP]) : R = [10] := by
 refine rises_uniq h1 (by simp) fun x => ?_
 rw [h2]
 simp [allV, simP]
theorem simC_ok : CfgOk simC :=
 ⟨by decide, by decide, rfl, fun R h1 h2 => by rw [simR h1 h2]; decide, rfl, rfl, by decide, by decide, by decide, by decide, by decide, by decide⟩
def RetSim (w : World) (e : Ending) (w' : World) : Prop :=
 ∃ a b, e = .returned (.agg #[.int .u64 7, .slice (some a) 2 2, .slice (some b) 2 2, .string ⟨#[]⟩, .string ⟨#[]⟩, .int .i64 20, .int .i64 2, .int .i64 50, .int .i64 2, .int .i64 100, .int .i64 50, .bool false, .bool false]) ∧
   CfgIn w' (fun j => w.heap.size ≤ j) simC (.slice (some a) 2 2) (.slice (some b) 2 2) ∧ Below w.heap.size w w'
set_option maxHeartbeats 8000000 in
theorem simple_any (w : World) : Calls Tryz.prog 22 #[] w (RetSim w) := by
 obtain ⟨V, hV⟩ : ∃ W, ((w.alloc (.cells #[.int .u64 0, .slice none 0 0, .slice none 0 0, .string ⟨#[]⟩, .string ⟨#[]⟩, .int .i64 0, .int .i64 0, .int .i64 0, .int .i64 0, .int .i64 0, .int .i64 0, .bool false, .bool false] 27)).alloc (.cells #[.int .i64 10] 3)).alloc (.cells #[.int .i64 10, .slice none 0 0, .slice (some ⟨w.heap.size + 1, 0, none⟩) 1 1] 56) = W := ⟨_, rfl⟩
 obtain ⟨q, hq⟩ : ∃ q, w.heap.size = q := ⟨_, rfl⟩
 rw [hq] at hV
 have hbv : Below w.heap.size w V := by rw [← hV]; exact (((Below.refl _ _).alloc (Nat.le_refl _) _).alloc (by simp) _).alloc (by simp; omega) _
 have xz : CBox V q 27 #[.int .u64 0, .slice none 0 0, .slice none 0 0, .string ⟨#[]⟩, .string ⟨#[]⟩, .int .i64 0, .int .i64 0, .int .i64 0, .int .i64 0, .int .i64 0, .int .i64 0, .bool false, .bool false] := by rw [← hV]; exact ((CBox.new _ hq.symm).old _).old _
 have xi : CBox V (q + 1) 3 #[.int .i64 10] := by rw [← hV]; exact (CBox.new _ (by rw [World.size_alloc, hq])).old _
 have xp : CBox V (q + 1 + 1) 56 #[.int .i64 10, .slice none 0 0, .slice (some ⟨q + 1, 0, none⟩) 1 1] := by rw [← hV]; exact CBox.new _ (by rw [World.size_alloc, World.size_alloc, hq])
 have hsz : V.heap.size = q + 1 + 1 + 1 := by rw [← hV, World.size_alloc, World.size_alloc, World.size_alloc, hq]
 obtain ⟨W, hW⟩ : ∃ W, (V.alloc (.cells #[.int .i64 10, .int .i64 10] 3)).alloc (.cells #[.int .i64 10, .slice none 0 0, .slice (some ⟨q + 1, 0, none⟩) 1 1, .int .i64 10, .slice none 0 0, .slice (some ⟨q + 1, 0, none⟩) 1 1] 56) = W := ⟨_, rfl⟩
 have hbw : Below V.heap.size V W := by rw [← hW]; exact ((Below.refl _ _).alloc (Nat.le_refl _) _).alloc (by simp) _
 have yz := xz.below hbw xz.lt
 have yi := xi.below hbw xi.lt
 have y3 : CBox W (q + 1 + 1 + 1) 3 #[.int .i64 10, .int .i64 10] := by rw [← hW]; exact (CBox.new _ hsz.symm).old _
 have y4 : CBox W (q + 1 + 1 + 1 + 1) 56 #[.int .i64 10, .slice none 0 0, .slice (some ⟨q + 1, 0, none⟩) 1 1, .int .i64 10, .slice none 0 0, .slice (some ⟨q + 1, 0, none⟩) 1 1] := by rw [← hW]; exact CBox.new _ (by rw [World.size_alloc, hsz])
 obtain ⟨U, hU⟩ : ∃ W', setsL W q 0 [.int .u64 7, .slice (some ⟨q + 1 + 1 + 1, 0, none⟩) 2 2, .slice (some ⟨q + 1 + 1 + 1 + 1, 0, none⟩) 2 2, .string ⟨#[]⟩, .string ⟨#[]⟩, .int .i64 20, .int .i64 2, .int .i64 50, .int .i64 2, .int .i64 100, .int .i64 50, .bool false, .bool false] = W' := ⟨_, rfl⟩
 have hbu : Below w.heap.size w U := by rw [← hU]; exact setsL_below (by omega) _ 0 (hbv.trans (hbw.mono hbv.size))
 have uz := box13 (cells13s yz (.int .u64 7) (.slice (some ⟨q + 1 + 1 + 1, 0, none⟩) 2 2) (.slice (some ⟨q + 1 + 1 + 1 + 1, 0, none⟩) 2 2) (.string ⟨#[]⟩) (.string ⟨#[]⟩) (.int .i64 20) (.int .i64 2) (.int .i64 50) (.int .i64 2) (.int .i64 100) (.int .i64 50) (.bool false) (.bool false))
 rw [hU] at uz
 have ui : CBox U (q + 1) 3 #[.int .i64 10] := by rw [← hU]; exact setsL_far (by omega) _ 0 yi
 have u3 : CBox U (q + 1 + 1 + 1) 3 #[.int .i64 10, .int .i64 10] := by rw [← hU]; exact setsL_far (by omega) _ 0 y3
 have u4 : CBox U (q + 1 + 1 + 1 + 1) 56 #[.int .i64 10, .slice none 0 0, .slice (some ⟨q + 1, 0, none⟩) 1 1, .int .i64 10, .slice none 0 0, .slice (some ⟨q + 1, 0, none⟩) 1 1] := by rw [← hU]; exact setsL_far (by omega) _ 0 y4
 have i1 : Ints U (.slice (some ⟨q + 1, 0, none⟩) 1 1) [10] := ⟨_, 1, q + 1, 0, rfl, .inr rfl, by decide, by decide, fun k hk => ⟨ui.lt, by
  obtain rfl : k = 0 := by simp at hk; exact hk
  exact (ui.at_ 0 _ rfl).1⟩⟩
 have i3 : Ints U (.slice (some ⟨q + 1 + 1 + 1, 0, none⟩) 2 2) [10, 10] := ⟨_, 2, q + 1 + 1 + 1, 0, rfl, .inr rfl, by decide, by decide, fun k hk => ⟨u3.lt, by
  match k, hk with
  | 0, _ => exact (u3.at_ 0 _ rfl).1
  | 1, _ => exact (u3.at_ 1 _ rfl).1⟩⟩
 have hqw : ∀ j, q + 1 ≤ j → w.heap.size ≤ j := fun j hj => by omega
 have own1 : ∀ j, (Value.slice (some ⟨q + 1, 0, none⟩) 1 1).ownBlock = some j → w.heap.size ≤ j := fun j hj => by
  have : q + 1 = j := by simpa [Value.ownBlock] using hj
  omega
 have own0 : ∀ j, (Value.slice none 0 0).ownBlock = some j → w.heap.size ≤ j := fun j hj => by simp [Value.ownBlock] at hj
 have p4 : Pts (fun j => w.heap.size ≤ j) U (.slice (some ⟨q + 1 + 1 + 1 + 1, 0, none⟩) 2 2) [simP, simP] := ⟨_, 2, q + 1 + 1 + 1 + 1, 0, rfl, .inr rfl, by decide, fun k hk => by
  match k, hk with
  | 0, _ => exact ⟨u4.lt, hqw _ (by omega), (by decide : (Lit.int .i64 10).wf = true), _, _, (u4.at_ 0 _ rfl).1, (u4.at_ 1 _ rfl).1, (u4.at_ 2 _ rfl).1, Ints.nil _, i1, own0, own1⟩
  | 1, _ => exact ⟨u4.lt, hqw _ (by omega), (by decide : (Lit.int .i64 10).wf = true), _, _, (u4.at_ 3 _ rfl).1, (u4.at_ 4 _ rfl).1, (u4.at_ 5 _ rfl).1, Ints.nil _, i1, own0, own1⟩⟩
 have HU := Lib.hid uz; have HI := Lib.hid (show CfgIn U (fun j => w.heap.size ≤ j) simC (.slice (some ⟨q + 1 + 1 + 1, 0, none⟩) 2 2) (.slice (some ⟨q + 1 + 1 + 1 + 1, 0, none⟩) 2 2) from ⟨i3, p4⟩)
 have HV := Lib.hid hV; have HQ := Lib.hid hq; have HB := Lib.hid hbu; have HXP := Lib.hid xp; have HZ := Lib.hid xz; have HS := Lib.hid hsz; have HW := Lib.hid hW; have HUU := Lib.hid hU; have HYZ := Lib.hid yz
 clear hV hq hbv xz xi xp hsz hW hbw yz yi y3 y4 hU hbu uz ui u3 u4 i1 i3 hqw own1 own0 p4
 go_enter Tryz.func22, Tryz.ntmps22
 go_upto_region 2 with fail
 rw [HQ.out, HV.out]
 have HX1 := Lib.hid (HXP.out.old (.cells #[.int .i64 10, .int .i64 10] 3))
 have HZ1 := Lib.hid ((HZ.out.old (.cells #[.int .i64 10, .int .i64 10] 3)).old (.cells #[.int .i64 10, .slice none 0 0, .slice (some ⟨q + 1, 0, none⟩) 1 1, .int .i64 10, .slice none 0 0, .slice (some ⟨q + 1, 0, none⟩) 1 1] 56))
 obtain ⟨c0, cf0⟩ := CBox.at_ HX1.out 0 _ rfl
 obtain ⟨c1, cf1⟩ := CBox.at_ HX1.out 1 _ rfl
 obtain ⟨c2, cf2⟩ := CBox.at_ HX1.out 2 _ rfl
 obtain ⟨z0, zf0⟩ := CBox.at_ HZ1.out 0 _ rfl
 obtain ⟨z1, zf1⟩ := CBox.at_ HZ1.out 1 _ rfl
 obtain ⟨z2, zf2⟩ := CBox.at_ HZ1.out 2 _ rfl
 obtain ⟨z3, zf3⟩ := CBox.at_ HZ1.out 3 _ rfl
 obtain ⟨z4, zf4⟩ := CBox.at_ HZ1.out 4 _ rfl
 obtain ⟨z5, zf5⟩ := CBox.at_ HZ1.out 5 _ rfl
 obtain ⟨z6, zf6⟩ := CBox.at_ HZ1.out 6 _ rfl
 obtain ⟨z7, zf7⟩ := CBox.at_ HZ1.out 7 _ rfl
 obtain ⟨z8, zf8⟩ := CBox.at_ HZ1.out 8 _ rfl
 obtain ⟨z9, zf9⟩ := CBox.at_ HZ1.out 9 _ rfl
 obtain ⟨z10, zf10⟩ := CBox.at_ HZ1.out 10 _ rfl
 obtain ⟨z11, zf11⟩ := CBox.at_ HZ1.out 11 _ rfl
 obtain ⟨z12, zf12⟩ := CBox.at_ HZ1.out 12 _ rfl
 go_wp2_with fail
 have huu := HUU.out
 dsimp only [setsL] at huu
 rw [HS.out, HW.out, huu]
 obtain ⟨r0, r1, r2, r3, r4, r5, r6, r7, r8, r9, r10, r11, r12⟩ := HU.out
 refine bodyPost_ret (v := .agg #[.int .u64 7, .slice (some ⟨q + 1 + 1 + 1, 0, none⟩) 2 2, .slice (some ⟨q + 1 + 1 + 1 + 1, 0, none⟩) 2 2, .string ⟨#[]⟩, .string ⟨#[]⟩, .int .i64 20, .int .i64 2, .int .i64 50, .int .i64 2, .int .i64 100, .int .i64 50, .bool false, .bool false]) (by simp [results, Tryz.results22, go_sem, r0, r1, r2, r3, r4, r5, r6, r7, r8, r9, r10, r11, r12]) rfl ?_
 exact ⟨_, _, rfl, HI.out, HB.out⟩
end Go.Proofs.YthcdppppppgckaaGreatDoor

namespace Go.Proofs.YthcdppppppgckaaGreatDoor
open Go.ChangeShapes Go.WideShapes Go.ChangeAt Go.RowKit
set_option maxRecDepth 20000
theorem cellsItB : Tryz.prog.cellsOf 3 = 1 := by kernel_rfl
theorem cellsAdB : Tryz.prog.cellsOf 25 = 1 := by kernel_rfl
theorem cellsBlB : Tryz.prog.cellsOf 4 = 1 := by kernel_rfl
section
variable {H : Type} {enc : TypeId × Value → H} {w : World} {base : Nat} {spare : Nat → Bool} {held : Bool} {fuel : Nat} {cs : List Value} {x : DataW H × List MemPlace}
end
end Go.Proofs.YthcdppppppgckaaGreatDoor
