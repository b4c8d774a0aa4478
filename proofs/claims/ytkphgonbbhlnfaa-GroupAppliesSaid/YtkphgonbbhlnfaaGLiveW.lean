/- siphonlaw17.live: the walk. -/
import Derived.Test.YtkphgonbbhlnfaaGLive
namespace Go.Proofs.Ytkphgonbbhlnfaa
open Go.RowKit Go.Lib Go.Maps Go.Sort

theorem strs_one {w : World} {b : Nat} {x : Str} (h : w.heap[b]? = some (.cells #[encStr x] 25 (0, 0))) (hx : x.length ≤ maxLen) (c : Nat) : Strs w (.slice (some ⟨b, 0, none⟩) 1 c) [x] := by
  refine ⟨_, c, b, 0, rfl, .inr rfl, by simp, fun y hy => by rw [List.mem_singleton] at hy; subst hy; exact hx, fun k hk => ?_⟩
  obtain rfl : k = 0 := by simp at hk; omega
  exact ⟨(Array.getElem?_eq_some_iff.1 h).1, by simp [World.cell?, h]⟩

set_option maxRecDepth 20000 in
set_option maxHeartbeats 4000000 in
theorem live_yes (w : World) : Calls Try.prog 10 #[] w fun e w' => e = .returned (.bool true) ∧ Below w.heap.size w w' := by
  obtain ⟨W0, hW0⟩ : ∃ W0, W0 = (w.alloc (.cells #[.int .i64 260, .int .i64 2] 39)).alloc (.cells #[.string ⟨#[97]⟩] 25) := ⟨_, rfl⟩
  have hb0 : Below w.heap.size w W0 := by rw [hW0]; exact ((Below.refl _ _).alloc (Nat.le_refl _) _).alloc (by simp) _
  have s1 : CBox W0 w.heap.size 39 #[.int .i64 260, .int .i64 2] := by rw [hW0]; exact (CBox.new _ rfl).old _
  have hs1 : Strs W0 (.slice (some ⟨w.heap.size + 1, 0, none⟩) 1 1) [sA] := by
    rw [hW0]
    refine strs_one (heap_new _ _ _ (by simp)) (by decide) _
  have H1 := Lib.hid (apply_any false 0 (.slice none 0 0) [] false 2 ⟨#[]⟩ _ [sA] 10 260 2 W0 (Tms.nil _) hs1 rfl)
  have S1 := Lib.hid s1; have B0 := Lib.hid hb0
  rw [hW0] at H1
  clear hb0 s1 hs1
  go_enter Try.func10, Try.ntmps10
  go_wp2_with fail
  refine H1.out.mono ?_
  rintro e w1 ⟨hb1, hr1⟩
  rw [← hW0] at hb1
  rcases hr1 with ⟨hv, _⟩ | ⟨hv, K, hK, hr1⟩
  · exact absurd live_v1 hv
  obtain ⟨hKe, hrest⟩ := live1 (R := []) (L' := []) hK
  rcases hr1 with ⟨h60, _⟩ | ⟨_, ⟨hne, _⟩, _⟩ | ⟨_, _, v1, L1, u1, R1, rfl, hT1, hS1, hR1, hA1, hlv1, _⟩
  · rw [hKe] at h60; simp at h60
  · simp [inEx] at hne
  obtain ⟨rfl, hL1⟩ := (live1 (R := R1) (L' := L1) hK).2 hR1
  obtain rfl := hL1 hA1
  obtain ⟨v1o, v1c, rfl⟩ := hT1.shape
  obtain ⟨u1o, u1c, rfl⟩ := hS1.shape
  have T1 := Lib.hid hT1; have S1' := Lib.hid (S1.out.below hb1 S1.out.lt); have B1 := Lib.hid (B0.out.trans (hb1.mono B0.out.size))
  obtain ⟨W2, hW2⟩ : ∃ W2, W2 = ((w1.alloc (.cells #[.bool true, .int .i64 270, .slice v1o 1 v1c] 24)).alloc (.cells #[.bool false, .slice u1o 0 u1c] 44)).alloc (.cells #[.string ⟨#[98]⟩] 25) := ⟨_, rfl⟩
  have hb2 : Below w1.heap.size w1 W2 := by rw [hW2]; exact (((Below.refl _ _).alloc (Nat.le_refl _) _).alloc (by simp) _).alloc (by simp <;> omega) _
  have hs2 : Strs W2 (.slice (some ⟨w1.heap.size + 1 + 1, 0, none⟩) 1 1) [sB] := by
    rw [hW2]
    refine strs_one (heap_new _ _ _ (by simp)) (by decide) _
  have H2 := Lib.hid (apply_any true 270 (.slice v1o 1 v1c) LA true 3 ⟨#[]⟩ _ [sB] 20 260 2 W2 (T1.out.mono hb2) hs2 rfl)
  have hx := (S1'.out.below hb2 S1'.out.lt)
  have x0 := (hx.at_ 0 (.int .i64 260) rfl).1
  have x1 := (hx.at_ 1 (.int .i64 2) rfl).1
  have B2 := Lib.hid (B1.out.trans (hb2.mono B1.out.size))
  have hwl := S1'.out.lt
  rw [hW2] at H2 x0 x1
  clear hb1 hT1 hS1 hR1 hA1 hlv1 hL1 hK hrest hKe hv H1 hb2 hs2 hx S1 B0
  have e1 : inAt 2 0 (10 + 260) = 270 := by decide
  have e2 : inEx 2 false = true := rfl
  have e3 : inG 2 false = false := rfl
  have e4 : LA.length = 1 := rfl
  simp only [Bool.false_and, Bool.false_eq_true, if_false, e1, e2, e3, e4, List.length_nil]
  clear e1 e2 e3 e4
  go_wp2_with fail
  refine H2.out.mono ?_
  rintro e w3 ⟨hb3, hr3⟩
  rw [← hW2] at hb3
  simp only [Bool.true_and, if_true] at hr3
  rcases hr3 with ⟨hv, _⟩ | ⟨hv, K, hK, hr3⟩
  · exact absurd live_v2 hv
  obtain ⟨hKe, hrest⟩ := live2 (R := []) (L' := []) hK
  rcases hr3 with ⟨h60, _⟩ | ⟨_, ⟨hne, _⟩, _⟩ | ⟨_, _, v3, L3, u3, R3, rfl, hT3, hS3, hR3, hA3, hlv3, _⟩
  · rw [hKe] at h60; simp at h60
  · simp [inEx] at hne
  obtain ⟨rfl, hL3⟩ := (live2 (R := R3) (L' := L3) hK).2 hR3
  obtain rfl := hL3 hA3
  obtain ⟨v3o, v3c, rfl⟩ := hT3.shape
  obtain ⟨u3o, u3c, rfl⟩ := hS3.shape
  have e1 : inAt 3 270 (20 + 260) = 270 := by decide
  have e2 : inEx 3 true = true := rfl
  have e3 : inG 3 true = true := rfl
  have e4 : LB.length = 2 := rfl
  have e5 : min (270 : Int) (20 + 2) = 22 := by decide
  obtain ⟨tb, toff, _, htl, hti, htc⟩ := hT3.facts
  have hp1 : ∀ w', (Instr.indexAt 22 (.slice v3o 2 v3c) (.int .i64 1)).run Try.prog w' = .ok (.pointer (some ⟨tb, toff + 1 * 2, none⟩)) w' := hti 1 (by decide)
  obtain ⟨htb, c0, c1⟩ := htc 1 (by decide)
  have d0 : w3.cell? ⟨tb, toff + 1 * 2, none⟩ = some (.string ⟨#[98]⟩) := by rw [bB]; exact c0
  have d1 : w3.cell? ⟨tb, toff + 1 * 2 + 1, none⟩ = some (.int .i64 280) := c1
  rw [e4] at htl
  simp only [if_true, e1, e2, e3, e4, e5, List.length_nil]
  have T3 := Lib.hid hT3
  have B3 := Lib.hid (B2.out.trans (hb3.mono B2.out.size))
  obtain ⟨W4, hW4⟩ : ∃ W4, W4 = (w3.alloc (.cells #[.bool true, .int .i64 22, .slice v3o 2 v3c] 24)).alloc (.cells #[.bool true, .slice u3o 0 u3c] 44) := ⟨_, rfl⟩
  have hb4 : Below w3.heap.size w3 W4 := by rw [hW4]; exact ((Below.refl _ _).alloc (Nat.le_refl _) _).alloc (by simp) _
  have k4 : CBox W4 w3.heap.size 24 #[.bool true, .int .i64 22, .slice v3o 2 v3c] := by rw [hW4]; exact (CBox.new _ rfl).old _
  have B4 := Lib.hid (B3.out.trans (hb4.mono B3.out.size))
  have K4 := Lib.hid k4
  have HA1 := Lib.hid (show Calls Try.prog 14 #[.agg #[.bool true, .int .i64 22, .slice v3o 2 v3c], .string ⟨#[97]⟩, .int .i64 20] W4 _ from by rw [bA]; exact admits_any true 22 _ LB 20 sA (by decide) W4 (T3.out.mono hb4))
  have HA2 := Lib.hid (fun W (hW : Below W4.heap.size W4 W) => show Calls Try.prog 14 #[.agg #[.bool true, .int .i64 22, .slice v3o 2 v3c], .string ⟨#[99]⟩, .int .i64 21] W _ from by rw [bC]; exact admits_any true 22 _ LB 21 sC (by decide) W (T3.out.mono (hb4.trans (hW.mono hb4.size))))
  have HA3 := Lib.hid (fun W (hW : Below W4.heap.size W4 W) => show Calls Try.prog 14 #[.agg #[.bool true, .int .i64 22, .slice v3o 2 v3c], .string ⟨#[99]⟩, .int .i64 22] W _ from by rw [bC]; exact admits_any true 22 _ LB 22 sC (by decide) W (T3.out.mono (hb4.trans (hW.mono hb4.size))))
  have HA4 := Lib.hid (fun W (hW : Below W4.heap.size W4 W) => show Calls Try.prog 14 #[.agg #[.bool true, .int .i64 22, .slice v3o 2 v3c], .string ⟨#[98]⟩, .int .i64 22] W _ from by rw [bB]; exact admits_any true 22 _ LB 22 sB (by decide) W (T3.out.mono (hb4.trans (hW.mono hb4.size))))
  rw [live_a1] at HA1; simp only [live_a2] at HA2; simp only [live_a3] at HA3; simp only [live_a4] at HA4
  have dd0 := (hb4.cell (p := ⟨tb, toff + 1 * 2, none⟩) htb).trans d0
  have dd1 := (hb4.cell (p := ⟨tb, toff + 1 * 2 + 1, none⟩) htb).trans d1
  rw [hW4] at HA1 dd0 dd1
  clear c0 c1 hti htc hT3 hS3 hR3 hA3 hlv3 hL3 hK hrest hKe hv H2 hb3 hb4 k4 x0 x1 e1 e2 e3 e4 e5
  go_wp2_with fail
  refine HA1.out.mono ?_
  rintro e w5 ⟨rfl, hb5⟩
  rw [← hW4] at hb5
  have k5 := K4.out.below hb5 K4.out.lt
  obtain ⟨x0, _⟩ := k5.at_ 0 (.bool true) rfl
  obtain ⟨x1, _⟩ := k5.at_ 1 (.int .i64 22) rfl
  obtain ⟨x2, _⟩ := k5.at_ 2 (.slice v3o 2 v3c) rfl
  have B5 := Lib.hid hb5
  have HB := Lib.hid (HA2.out w5 hb5)
  clear dd0 dd1 hb5 k5
  go_wp2_with fail
  refine HB.out.mono ?_
  rintro e w6 ⟨rfl, hb6⟩
  have hb46 := B5.out.trans (hb6.mono B5.out.size)
  have k6 := K4.out.below hb46 K4.out.lt
  clear x0 x1 x2 HB
  obtain ⟨x0, _⟩ := k6.at_ 0 (.bool true) rfl
  obtain ⟨x1, _⟩ := k6.at_ 1 (.int .i64 22) rfl
  obtain ⟨x2, _⟩ := k6.at_ 2 (.slice v3o 2 v3c) rfl
  have B6 := Lib.hid hb46
  have HB := Lib.hid (HA3.out w6 hb46)
  clear hb6 hb46 k6
  go_wp2_with fail
  refine HB.out.mono ?_
  rintro e w7 ⟨rfl, hb7⟩
  have hb47 := B6.out.trans (hb7.mono B6.out.size)
  have k7 := K4.out.below hb47 K4.out.lt
  clear x0 x1 x2 HB
  obtain ⟨x0, _⟩ := k7.at_ 0 (.bool true) rfl
  obtain ⟨x1, _⟩ := k7.at_ 1 (.int .i64 22) rfl
  obtain ⟨x2, _⟩ := k7.at_ 2 (.slice v3o 2 v3c) rfl
  have B7 := Lib.hid hb47
  have HB := Lib.hid (HA4.out w7 hb47)
  clear hb7 hb47 k7
  go_wp2_with fail
  refine HB.out.mono ?_
  rintro e w8 ⟨rfl, hb8⟩
  have B8 := Lib.hid (B7.out.trans (hb8.mono B7.out.size))
  clear hb8 HB x0 x1 x2
  go_wp2_with fail
  go_ret
  exact ⟨rfl, B4.out.trans (B8.out.mono B4.out.size)⟩
end Go.Proofs.Ytkphgonbbhlnfaa
