/- Texts joined into one file: TState, TSmall. -/
import Derived.Test.YthcdppppppgckaaGreatDoorC23
import Derived.Test.YthcdppppppgckaaGreatDoorC24
import Derived.Test.YthcdppppppgckaaGreatDoorC20
import Derived.Test.YthcdppppppgckaaGreatDoorC25

namespace Go.Proofs.YthcdppppppgckaaGreatDoor
open Go.RowKit Go.Lib Go.Maps Go.Sort
set_option maxRecDepth 20000
set_option maxRecDepth 20000


def fitsT (room M L : Int) : Prop := (1 ≤ room ∧ room ≤ 4096) ∧ (1 ≤ M ∧ M ≤ 1000000) ∧ (1 ≤ L ∧ L ≤ 1000000)

set_option maxHeartbeats 2000000 in
theorem tnew_yesP (room M L : Int) (w : World) (h : fitsT room M L) :
 Calls Tryz.prog 35 #[.int .i64 room, .agg #[.int .i64 M, .int .i64 L]] w fun e w' => ∃ p b o, e = .returned (.tuple #[.pointer (some ⟨p, 0, none⟩), .int .i64 0]) ∧ Tb w' p b o 0 0 room M L (fun _ => none) (fun _ => none) ∧ w.heap.size ≤ b ∧ w.heap.size ≤ o ∧ Below w.heap.size w w' ∧ w.heap.size ≤ p := by
 obtain ⟨⟨r1, r2⟩, ⟨m1, m2⟩, ⟨l1, l2⟩⟩ := h
 have H1 := Lib.hid (fun W => twithin_any room 1 4096 W)
 have H2 := Lib.hid (fun W => twithin_any M 1 1000000 W)
 have H3 := Lib.hid (fun W => twithin_any L 1 1000000 W)
 have e1 : (decide (1 ≤ room) && decide (room ≤ 4096)) = true := by simp [r1, r2]
 have e2 : (decide (1 ≤ M) && decide (M ≤ 1000000)) = true := by simp [m1, m2]
 have e3 : (decide (1 ≤ L) && decide (L ≤ 1000000)) = true := by simp [l1, l2]
 rw [e1] at H1
 rw [e2] at H2
 rw [e3] at H3
 obtain ⟨W0, hW0⟩ : ∃ W0, W0 = w.alloc (.cells #[.int .i64 M, .int .i64 L] 91) := ⟨_, rfl⟩
 have hb0 : Below w.heap.size w W0 := by rw [hW0]; exact (Below.refl _ _).alloc (Nat.le_refl _) _
 have b0 : CBox W0 w.heap.size 91 #[.int .i64 M, .int .i64 L] := by rw [hW0]; exact CBox.new _ rfl
 obtain ⟨x0, _⟩ := b0.at_ 0 _ rfl
 obtain ⟨x1, _⟩ := b0.at_ 1 _ rfl
 have hs0 : W0.heap.size = w.heap.size + 1 := by rw [hW0]; simp
 obtain ⟨W1, hW1⟩ : ∃ W1, W1 = W0.alloc (.map #[] 0) := ⟨_, rfl⟩
 have hb1 : Below W0.heap.size W0 W1 := by rw [hW1]; exact (Below.refl _ _).alloc (Nat.le_refl _) _
 have hV1 : VMap KT W1 W0.heap.size 0 (fun _ => none) := by rw [hW1]; exact VMap.made KT W0
 have hs1 : W1.heap.size = W0.heap.size + 1 := by rw [hW1]; simp
 obtain ⟨W2, hW2⟩ : ∃ W2, W2 = W1.alloc (.map #[] 0) := ⟨_, rfl⟩
 have hb2 : Below W1.heap.size W1 W2 := by rw [hW2]; exact (Below.refl _ _).alloc (Nat.le_refl _) _
 have hU2 : VMap KI W2 (W0.heap.size + 1) 0 (fun _ => none) := by rw [hW2, ← hs1]; exact VMap.made KI W1
 have hs2 : W2.heap.size = W1.heap.size + 1 := by rw [hW2]; simp
 obtain ⟨W3, hW3⟩ : ∃ W3, W3 = W2.alloc (.cells #[.int .i64 room, .int .i64 M, .int .i64 L, .map (some W0.heap.size), .map (some (W0.heap.size + 1))] 155) := ⟨_, rfl⟩
 have hb3 : Below W2.heap.size W2 W3 := by rw [hW3]; exact (Below.refl _ _).alloc (Nat.le_refl _) _
 have b3 : CBox W3 (W0.heap.size + 1 + 1) 155 #[.int .i64 room, .int .i64 M, .int .i64 L, .map (some W0.heap.size), .map (some (W0.heap.size + 1))] := by rw [hW3]; exact CBox.new _ (by omega)
 have HT := Lib.hid (show Tb W3 (W0.heap.size + 1 + 1) W0.heap.size (W0.heap.size + 1) 0 0 room M L (fun _ => none) (fun _ => none) from ⟨b3, ⟨_, (hV1.below hb2 hV1.lt).below hb3 (hV1.below hb2 hV1.lt).lt, fun k => rfl⟩, ⟨_, hU2.below hb3 hU2.lt, fun x => rfl⟩, by omega⟩)
 have HB := Lib.hid (hb0.trans ((hb1.trans ((hb2.trans (hb3.mono (by omega))).mono (by omega))).mono (by omega)))
 have HZ := Lib.hid (show w.heap.size ≤ W0.heap.size ∧ w.heap.size ≤ W0.heap.size + 1 ∧ w.heap.size ≤ W0.heap.size + 1 + 1 from by omega)
 have HW0 := Lib.hid hW0; have HW1 := Lib.hid hW1; have HW2 := Lib.hid hW2; have HW3 := Lib.hid hW3
 have hmm := @run_makeMap Tryz.prog
 clear hb0 b0 hb1 hV1 hb2 hU2 hb3 b3 hW1 hW2 hW3 hW0 r1 r2 m1 m2 l1 l2 e1 e2 e3 hs0 hs1 hs2
 go_enter Tryz.func35, Tryz.ntmps35
 go_upto_region 1 with fail
 rw [← HW0.out]
 go_wp2_with (first
  | ((with_reducible refine (H1.out _).mono ?_); rintro e w' ⟨rfl, hw'⟩; subst w')
  | ((with_reducible refine (H2.out _).mono ?_); rintro e w' ⟨rfl, hw'⟩; subst w')
  | ((with_reducible refine (H3.out _).mono ?_); rintro e w' ⟨rfl, hw'⟩; subst w'))
 rw [← HW1.out, ← HW2.out]
 refine bodyPost_ret (v := .tuple #[.pointer (some ⟨W0.heap.size + 1 + 1, 0, none⟩), .int .i64 0]) (by simp [results, Tryz.results35, go_sem]) rfl ?_
 rw [← HW3.out]
 exact ⟨W0.heap.size + 1 + 1, W0.heap.size, W0.heap.size + 1, rfl, HT.out, HZ.out.1, HZ.out.2.1, HB.out, HZ.out.2.2⟩
end Go.Proofs.YthcdppppppgckaaGreatDoor
