/- (*group.known).refuses: sources are not wanted any more. -/
import Derived.Test.YtkphgonbbhlnfaaGSoon
namespace Go.Proofs.Ytkphgonbbhlnfaa
open Go.RowKit Go.Lib Go.Maps Go.Sort

def fillF (F : Str → Option Int) (Q : List Str) (z : Int) : Str → Option Int := fun a => if Q.contains a && !runF F a then some z else F a
theorem fillF_nil (F : Str → Option Int) (z : Int) : fillF F [] z = F := by funext a; simp [fillF]
theorem fillF_at (F : Str → Option Int) (Q : List Str) (z : Int) (x : Str) : runF (fillF F Q z) x = ((if (Q.contains x && !runF F x) = true then some z else F x).getD 0 != 0) := rfl
theorem fillF_yes (F : Str → Option Int) (Q : List Str) (z : Int) (k : Nat) (h : k < Q.length) (hr : runF (fillF F (Q.take k) z) Q[k] = true) : fillF F (Q.take (k + 1)) z = fillF F (Q.take k) z := by
  funext a
  unfold fillF
  rw [mem_snoc Q a k h]
  by_cases e : a = Q[k]
  · subst e
    by_cases h2 : runF F Q[k] = true
    · simp [h2]
    · have h2' : runF F Q[k] = false := by simpa using h2
      by_cases hc : (Q.take k).contains Q[k] = true
      · rw [hc]; simp
      · have hc' : (Q.take k).contains Q[k] = false := by simpa using hc
        rw [fillF_at, hc', Bool.false_and, if_neg (by simp)] at hr
        exact absurd hr h2
  · have e' : (Q[k] == a) = false := by rw [beq_eq_false_iff_ne]; exact fun h => e h.symm
    rw [e', Bool.or_false]
theorem fillF_no (F : Str → Option Int) (Q : List Str) (z : Int) (k : Nat) (h : k < Q.length) (hr : runF (fillF F (Q.take k) z) Q[k] = false) : fillF F (Q.take (k + 1)) z = upd (fillF F (Q.take k) z) Q[k] z := by
  funext a
  unfold fillF upd
  rw [mem_snoc Q a k h]
  by_cases e : a = Q[k]
  · subst e
    by_cases h2 : runF F Q[k] = true
    · exfalso
      rw [fillF_at, h2, Bool.not_true, Bool.and_false, if_neg (by simp)] at hr
      have h3 : runF F Q[k] = false := hr
      rw [h2] at h3; cases h3
    · have h2' : runF F Q[k] = false := by simpa using h2
      simp [h2']
  · have e' : (Q[k] == a) = false := by rw [beq_eq_false_iff_ne]; exact fun h => e h.symm
    rw [e', Bool.or_false, if_neg e]

theorem rises_filter {S : List Str} (h : S.Pairwise (· < ·)) (p : Str → Bool) : Rises (fun a => S.contains a && p a) (S.filter p) :=
  ⟨h.filter _, fun a => by rw [List.mem_filter, Bool.and_eq_true, List.contains_iff_mem]⟩

theorem callOpen (args : Array Value) (w : World) : (callFunc 50 args).run Try.prog w = .ok (.enter 50 args) w := by kernel_rfl

theorem open_tells (ex : Bool) (at' : Int) (b n B c : Nat) (F : Str → Option Int) (a : Str) (ha : a.length ≤ maxLen) (w : World) (hc : w.cell? ⟨c, 0, none⟩ = some (.pointer (some ⟨B, 0, none⟩))) (hB : CBox w B 60 #[.bool ex, .int .i64 at', .map (some b)]) (h : Mp w b n F) :
    Calls Try.prog 50 #[.string (bstr a), .pointer (some ⟨c, 0, none⟩)] w fun e w' => e = .returned (.bool (!(F a == some 0))) ∧ Below w.heap.size w w' := by
  have HC := Lib.hid (blocks_any ex at' b n F a ha w h)
  obtain ⟨x0, _⟩ := hB.at_ 0 _ rfl
  obtain ⟨x1, _⟩ := hB.at_ 1 _ rfl
  obtain ⟨x2, _⟩ := hB.at_ 2 _ rfl
  obtain ⟨o, ho⟩ : ∃ o, (F a == some 0) = o := ⟨_, rfl⟩
  rw [ho] at HC ⊢
  clear hB h ho
  go_enter Try.func50, Try.ntmps50
  go_wp2_with ((with_reducible refine HC.out.mono ?_); rintro e w' ⟨rfl, hb⟩)
  go_ret
  exact ⟨rfl, hb⟩

set_option maxRecDepth 20000 in
set_option maxHeartbeats 4000000 in
theorem refuses_no (at' : Int) (b n B : Nat) (F : Str → Option Int) (kind z : Int) (sv : Value) (S : List Str) (lo : Nat) (w : World) (hB : CBox w B 60 #[.bool false, .int .i64 at', .map (some b)]) (h : Mp w b n F) (hn : n + S.length ≤ 8796093022200)
    (hS : Strs w sv S) (hr : S.Pairwise (· < ·)) (hl : Lies lo sv) (_hBl : B < lo) (_hbl : b < lo) :
    Calls Try.prog 34 #[.pointer (some ⟨B, 0, none⟩), .agg #[.int .i64 kind, sv, .int .i64 z]] w (RetWork w B b false at' (n + S.length) F false (fun a => S.contains a && runF F a)) := by
  obtain ⟨so, sc, rfl⟩ := hS.shape
  obtain ⟨W0, hW0⟩ : ∃ W0, W0 = ((w.alloc (.cells #[.pointer (some ⟨B, 0, none⟩)] 82)).alloc (.cells #[.int .i64 kind, .slice so S.length sc, .int .i64 z] 72)).alloc (.cells #[.bool false, .slice none 0 0] 44) := ⟨_, rfl⟩
  have hb0 : Below w.heap.size w W0 := by rw [hW0]; exact (((Below.refl _ _).alloc (Nat.le_refl _) _).alloc (by simp) _).alloc (by simp <;> omega) _
  have hs0 : W0.heap.size = w.heap.size + 3 := by rw [hW0]; simp
  have s0 : CBox W0 w.heap.size 82 #[.pointer (some ⟨B, 0, none⟩)] := by rw [hW0]; exact ((CBox.new _ rfl).old _).old _
  have s1 : CBox W0 (w.heap.size + 1) 72 #[.int .i64 kind, .slice so S.length sc, .int .i64 z] := by rw [hW0]; exact (CBox.new _ (by simp)).old _
  have s2 : CBox W0 (w.heap.size + 1 + 1) 44 #[.bool false, .slice none 0 0] := by rw [hW0]; exact CBox.new _ (by simp)
  have hne := hB.ne_mp h
  have hBw := hB.lt
  have hbw := h.lt
  have HM := Lib.hid (h.below hb0 h.lt); have HBX := Lib.hid (hB.below hb0 hB.lt); have HS := Lib.hid (hS.mono hb0)
  have HB0 := Lib.hid hb0; have HRISE := Lib.hid hr
  have hbx := hB.below hb0 hB.lt
  obtain ⟨x0, _⟩ := hbx.at_ 0 _ rfl
  obtain ⟨p0, _⟩ := s0.at_ 0 _ rfl
  obtain ⟨x1, _⟩ := hbx.at_ 1 _ rfl
  obtain ⟨x2, _⟩ := hbx.at_ 2 _ rfl
  have HK := Lib.hid (show ∀ w' cs, Below (w.heap.size + 1 + 1) W0 w' → CBox w' (w.heap.size + 1 + 1) 44 cs → w'.cell? ⟨B, 0, none⟩ = some (.bool false) ∧ w'.cell? ⟨B, 1, none⟩ = some (.int .i64 at') ∧ w'.cell? ⟨B, 2, none⟩ = some (.map (some b)) ∧ w'.cell? ⟨w.heap.size, 0, none⟩ = some (.pointer (some ⟨B, 0, none⟩)) ∧ w'.cell? ⟨w.heap.size + 1, 1, none⟩ = some (.slice so S.length sc) ∧ w'.frozen? ⟨w.heap.size + 1 + 1, 0, none⟩ = false ∧ w'.frozen? ⟨w.heap.size + 1 + 1, 1, none⟩ = false from fun w' cs hb hcs =>
    have t := hbx.below hb (by omega)
    have u := s1.below hb (by omega)
    ⟨(t.at_ 0 _ rfl).1, (t.at_ 1 _ rfl).1, (t.at_ 2 _ rfl).1, ((s0.below hb (by omega)).at_ 0 _ rfl).1, (u.at_ 1 _ rfl).1, hcs.thaw 0, hcs.thaw 1⟩)
  have HQ := Lib.hid (fun (w' : World) (hb : Below W0.heap.size W0 w') => show CBox w' (w.heap.size + 1 + 1) 44 #[.bool false, .slice none 0 0] from s2.below hb (by omega))
  have R0 := Lib.hid (Below.drew (Below.refl W0.heap.size W0))
  have HW := Lib.hid (fun (W2 : World) (h2 : Below W0.heap.size W0 W2) =>
    which_any _ S 27 #[.agg #[.bool false, .int .i64 at', .map (some b)]] #[] (runF F) W2 (HS.out.mono h2) (by omega) callRuns (fun x W hx hW => runs_any false at' b n F x hx W (HM.out.below (h2.trans (hW.mono h2.size)) HM.out.lt)))
  have HL := Lib.hid (show W0.heap.size = w.heap.size + 3 from hs0)
  have HBW := Lib.hid (show ∀ w', Below W0.heap.size W0 w' → Mp w' b n F ∧ CBox w' B 60 #[.bool false, .int .i64 at', .map (some b)] ∧ But w w' B b from fun w' h2 => ⟨HM.out.below h2 HM.out.lt, HBX.out.below h2 HBX.out.lt, But.of_below (hb0.trans (h2.mono hb0.size)) B b⟩)
  rw [hW0] at x0 x1 x2 p0 HK HQ R0 HW HBW
  clear h hB hS hl hb0 s0 s1 s2 hbx hs0 HM HS HB0 HBX HL hr
  go_enter Try.func34, Try.ntmps34
  go_wp2_with fail
  go_region_held3 (fun w' => w'.cell? ⟨B, 0, none⟩ = some (.bool false) ∧ w'.cell? ⟨B, 1, none⟩ = some (.int .i64 at') ∧ w'.cell? ⟨B, 2, none⟩ = some (.map (some b)) ∧ w'.cell? ⟨w.heap.size, 0, none⟩ = some (.pointer (some ⟨B, 0, none⟩)) ∧ w'.cell? ⟨w.heap.size + 1, 1, none⟩ = some (.slice so S.length sc) ∧ w'.frozen? ⟨w.heap.size + 1 + 1, 0, none⟩ = false ∧ w'.frozen? ⟨w.heap.size + 1 + 1, 1, none⟩ = false) (first | exact HK.out _ _ (((R1.out.mono (by simp)).setCell (by simp) _).setCell (by simp) _) (((HQ.out _ R1.out).set 0 _).set 1 _) | exact HK.out _ _ (R1.out.mono (by simp)) (HQ.out _ R1.out) | exact HK.out _ _ (R0.out.mono (by simp)) (HQ.out _ R0.out))
    (((with_reducible refine (HW.out _ R0.out).mono ?_); rintro e w3 ⟨o, rfl, ho, hb, hlo⟩; obtain ⟨oo, oc, rfl⟩ := ho.shape; have HO := Lib.hid (And.intro ho hlo); have R1 := Lib.hid (R0.out.trans (hb.mono R0.out.size)); obtain ⟨q0, q0f⟩ := (HQ.out _ R1.out).at_ 0 _ rfl; obtain ⟨q1, q1f⟩ := (HQ.out _ R1.out).at_ 1 _ rfl; clear ho hlo hb))
  all_goals
    have BX' := Lib.hid (((HQ.out _ R1.out).set 0 (.bool false)).set 1 (.slice oo (S.filter (runF F)).length oc))
    clear q0 q0f q1 q1f
    go_wp2_with fail
    have HLO := HO.out.2.mono (lo' := w.heap.size + 3) (by simp)
    have r0 := (BX'.out.at_ 0 _ rfl).1
    have r1 := (BX'.out.at_ 1 _ rfl).1
    obtain ⟨k1, k2, k3⟩ := HBW.out _ R1.out
    refine bodyPost_ret (v := .agg #[.bool false, .slice oo (S.filter (runF F)).length oc]) (by simp [results, Try.results34, go_sem, r0, r1]) rfl ⟨b, _, S.filter (runF F), w.heap.size + 3, rfl, ?_, rises_filter HRISE.out _, by have := List.length_filter_le (runF F) S; omega, HLO, by omega, by omega, .inl rfl, ?_, ?_, ?_⟩
    · exact (HO.out.1.far HLO (by simp) _).far HLO (by simp) _
    · exact (k2.far (by simp; omega) _).far (by simp; omega) _
    · exact ((k1.set (by simp; omega) _).set (by simp; omega) _).up (by omega)
    · exact (k3.set (.inr (by simp; omega)) _).set (.inr (by simp; omega)) _
end Go.Proofs.Ytkphgonbbhlnfaa
