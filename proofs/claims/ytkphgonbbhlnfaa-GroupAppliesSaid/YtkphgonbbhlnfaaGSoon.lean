/- (*group.known).soon: all that is asked about ends at last. -/
import Derived.Test.YtkphgonbbhlnfaaGWork
namespace Go.Proofs.Ytkphgonbbhlnfaa
open Go.RowKit Go.Lib Go.Maps Go.Sort

def soonF (F : Str → Option Int) (Q : List Str) (z : Int) : Str → Option Int := fun a => if Q.contains a && runF F a then some (min ((F a).getD 0) z) else F a
theorem soonF_nil (F : Str → Option Int) (z : Int) : soonF F [] z = F := by funext a; simp [soonF]
theorem soonF_no (F : Str → Option Int) (Q : List Str) (z : Int) (_hz : 0 < z) (k : Nat) (h : k < Q.length) (hr : runF (soonF F (Q.take k) z) Q[k] = false) : soonF F (Q.take (k + 1)) z = soonF F (Q.take k) z := by
  funext a
  unfold soonF at hr ⊢
  rw [mem_snoc Q a k h]
  by_cases e : a = Q[k]
  · subst e
    by_cases h2 : runF F Q[k] = true
    · by_cases hc : (Q.take k).contains Q[k] = true
      · rw [hc]; simp
      · have hc' : (Q.take k).contains Q[k] = false := by simpa using hc
        have hr' : ((if ((Q.take k).contains Q[k] && runF F Q[k]) = true then some (min ((F Q[k]).getD 0) z) else F Q[k]).getD 0 != 0) = false := hr
        rw [hc', Bool.false_and, if_neg (by simp)] at hr'
        exact absurd h2 (by unfold runF; rw [hr']; simp)
    · have h2' : runF F Q[k] = false := by simpa using h2
      simp [h2']
  · have e' : (Q[k] == a) = false := by rw [beq_eq_false_iff_ne]; exact fun h => e h.symm
    rw [e', Bool.or_false]
theorem soonF_yes (F : Str → Option Int) (Q : List Str) (z : Int) (k : Nat) (h : k < Q.length) (hr : runF (soonF F (Q.take k) z) Q[k] = true) : soonF F (Q.take (k + 1)) z = upd (soonF F (Q.take k) z) Q[k] (min ((soonF F (Q.take k) z Q[k]).getD 0) z) := by
  funext a
  unfold soonF upd at *
  rw [mem_snoc Q a k h]
  by_cases e : a = Q[k]
  · subst e
    by_cases h2 : runF F Q[k] = true
    · by_cases hc : (Q.take k).contains Q[k] = true
      · rw [hc]; simp [h2]
      · have hc' : (Q.take k).contains Q[k] = false := by simpa using hc
        rw [hc']; simp [h2]
    · have h2' : runF F Q[k] = false := by simpa using h2
      exfalso
      have hr' : ((if ((Q.take k).contains Q[k] && runF F Q[k]) = true then some (min ((F Q[k]).getD 0) z) else F Q[k]).getD 0 != 0) = true := hr
      rw [h2', Bool.and_false, if_neg (by simp)] at hr'
      exact h2 hr'
  · have e' : (Q[k] == a) = false := by rw [beq_eq_false_iff_ne]; exact fun h => e h.symm
    rw [e', Bool.or_false, if_neg e]

theorem run_min (ty : TypeId) (x y : Int) (w : World) : (Builtin.min_ #[3, 3] ty #[.int .i64 x, .int .i64 y]).run Try.prog w = .ok (.int .i64 (min x y)) w := by
  have e : (if y < x then y else x) = min x y := by rw [Int.min_def]; split <;> split <;> omega
  simp [Builtin.min_, Builtin.min2, e]

theorem Mp.wf0 {w : World} {b n : Nat} {F : Str → Option Int} (h : Mp w b n F) (a : Str) (ha : a.length ≤ maxLen) : (Lit.int .i64 ((F a).getD 0)).wf = true := by
  cases hF : F a
  · rfl
  · exact h.wf a ha _ hF

theorem wf_min {x y : Int} (hx : (Lit.int .i64 x).wf = true) (hy : (Lit.int .i64 y).wf = true) : (Lit.int .i64 (min x y)).wf = true := by
  rcases Int.le_total x y with h | h
  · rw [Int.min_eq_left h]; exact hx
  · rw [Int.min_eq_right h]; exact hy

set_option maxRecDepth 20000 in
set_option maxHeartbeats 4000000 in
theorem soon_any (ex : Bool) (at' : Int) (b n B : Nat) (F : Str → Option Int) (g : Bool) (z : Int) (sv : Value) (S : List Str) (lo : Nat) (w : World) (hB : CBox w B 60 #[.bool ex, .int .i64 at', .map (some b)]) (h : Mp w b n F) (hn : n + S.length ≤ 8796093022200)
    (hS : Strs w sv S) (hl : Lies lo sv) (_hBl : B < lo) (hbl : b < lo) (hz : (Lit.int .i64 z).wf = true) (hz0 : 0 < z) :
    Calls Try.prog 36 #[.pointer (some ⟨B, 0, none⟩), .agg #[.bool g, sv], .int .i64 z] w fun e w' => e = .returned (.tuple #[]) ∧ CBox w' B 60 #[.bool ex, .int .i64 (if g then min at' z else at'), .map (some b)] ∧ Mp w' b (n + S.length) (soonF F S z) ∧ But w w' B b := by
  obtain ⟨so, sc, rfl⟩ := hS.shape
  obtain ⟨W0, hW0⟩ : ∃ W0, W0 = w.alloc (.cells #[.bool g, .slice so S.length sc] 44) := ⟨_, rfl⟩
  have hb0 : Below w.heap.size w W0 := by rw [hW0]; exact (Below.refl _ _).alloc (Nat.le_refl _) _
  have hs0 : W0.heap.size = w.heap.size + 1 := by rw [hW0]; simp
  have s1 : CBox W0 w.heap.size 44 #[.bool g, .slice so S.length sc] := by rw [hW0]; exact CBox.new _ rfl
  have hne := hB.ne_mp h
  have hBw := hB.lt
  have hbw := h.lt
  have hm0 := h.below hb0 h.lt
  have T1 := Lib.hid (hB.below hb0 hB.lt); have U1 := Lib.hid s1; have HB0 := Lib.hid hb0
  obtain ⟨sb, soff, hsm, hslen, hsidx, hsc⟩ := hS.factsL hl
  have hsw := hS.len
  have HZ := Lib.hid hz; have HZ0 := Lib.hid hz0
  clear h hB hS hl hz hz0 hb0 s1
  go_enter Try.func36, Try.ntmps36
  go_wp2_with fail
  rw [← hW0]
  go_loopw [11] (fun i wr => ∃ k : Nat, k ≤ S.length ∧ i = .int .i64 k ∧ Mp wr b (n + k) (soonF F (S.take k) z) ∧ W0.grownBy wr (some b)) (fun i _ => S.length - (intOf i).toNat)
  case atStart => exact ⟨0, Nat.zero_le _, rfl, by rw [List.take_zero, soonF_nil]; exact hm0, World.grownBy.refl _ _⟩
  case round =>
    obtain ⟨k, hk, rfl, hm, hg⟩ := hrel
    clear hm0
    have tB := T1.out.grown hg (fun e => hne (by injection e))
    have uS := U1.out.grown hg (fun e => by injection e with e; omega)
    obtain ⟨a0, f0⟩ := tB.at_ 0 _ rfl
    obtain ⟨a1, f1⟩ := tB.at_ 1 _ rfl
    obtain ⟨a2, f2⟩ := tB.at_ 2 _ rfl
    have hBr := tB.lt
    have HG := Lib.hid hg; have TB := Lib.hid tB; have HMR := Lib.hid hm
    by_cases hlt : k < S.length
    · obtain ⟨lb1, lb2, hcell⟩ := hsc k hlt
      have HN := Lib.hid (soonF_no F S z HZ0.out k hlt)
      have HY := Lib.hid (soonF_yes F S z k hlt)
      obtain ⟨a, ha⟩ : ∃ a, S[k] = a := ⟨_, rfl⟩
      have hal : a.length ≤ maxLen := by rw [← ha]; exact hsw _ (List.getElem_mem hlt)
      rw [show S.getD k [] = a from by rw [← ha]; simp [List.getD_eq_getElem?_getD, hlt], enc_bstr] at hcell
      rw [ha] at HN HY
      have hc : wr.cell? ⟨sb, soff + k, none⟩ = some (.string (bstr a)) := hg.cell ((HB0.out.cell (p := ⟨sb, soff + k, none⟩) lb2).trans hcell) (fun e => by injection e with e; simp at e; omega)
      have hp := hsidx k hlt
      have HR := Lib.hid (runs_any ex at' b (n + k) (soonF F (S.take k) z) a hal wr hm)
      obtain ⟨r, hr⟩ : ∃ r, runF (soonF F (S.take k) z) a = r := ⟨_, rfl⟩
      have hr' : ((soonF F (S.take k) z a).getD 0 != 0) = r := hr
      rw [hr'] at HR
      clear hsidx hsc hsw ha hcell hm hg tB uS lb1 lb2 hr'
      cases r
      · have HE := Lib.hid (HN.out hr)
        clear hr HN HY
        go_wp2_with ((with_reducible refine HR.out.mono ?_); rintro e w2 ⟨rfl, hb2⟩)
        go_roundw
        case rel => exact ⟨k + 1, by omega, by go_num, by rw [HE.out]; exact (HMR.out.below hb2 HMR.out.lt).up (by omega), grown_below HG.out hb2⟩
        case measure => simp [intOf]; omega
      · have HE := Lib.hid (HY.out hr)
        clear hr HN HY
        go_wp2_with fail
        refine HR.out.mono ?_
        rintro e w2 ⟨rfl, hb2⟩
        have tB2 := TB.out.below hb2 hBr
        obtain ⟨a0', f0'⟩ := tB2.at_ 0 _ rfl
        obtain ⟨a1', f1'⟩ := tB2.at_ 1 _ rfl
        obtain ⟨a2', f2'⟩ := tB2.at_ 2 _ rfl
        have hm2 := HMR.out.below hb2 HMR.out.lt
        have hg2 := grown_below HG.out hb2
        have hmd := hm2.below (Below.drew (Below.refl w2.heap.size w2)) hm2.lt
        have hget := hmd.get a hal
        have hmin := fun ty => run_min ty ((soonF F (S.take k) z a).getD 0) z w2.drew
        obtain ⟨w3, hrun, hm3, hg3⟩ := hmd.put a hal (min ((soonF F (S.take k) z a).getD 0) z) (wf_min (hmd.wf0 a hal) HZ.out) (by unfold maxLen; omega)
        have HM3 := Lib.hid hm3; have HG3 := Lib.hid hg3; have HG2 := Lib.hid hg2
        clear hm2 hg2 hmd hm3 hg3 tB2 hb2 HR
        go_wp2_with fail
        go_region
        go_wp2_with fail
        go_roundw
        case rel => exact ⟨k + 1, by omega, by go_num, by rw [HE.out]; exact HM3.out, (grown_below HG2.out (Below.drew (Below.refl _ _))).trans HG3.out⟩
        case measure => simp [intOf]; omega
    · have HT := Lib.hid (show S.take k = S from List.take_of_length_le (by omega))
      have hk' : k = S.length := by omega
      obtain ⟨z0, _⟩ := uS.at_ 0 _ rfl
      have hmin := fun ty => run_min ty at' z wr
      have hcs := HB0.out.size
      clear hsidx hsc hsw hm hg tB uS
      have HBT := Lib.hid ((But.of_below HB0.out B b).grown HG.out (fun j e => by injection e with e; exact .inr (.inl e.symm)))
      have HMM := Lib.hid (show Mp wr b (n + S.length) (soonF F S z) from by have := HMR.out; rw [HT.out, hk'] at this; exact this)
      cases g
      · go_wp2_with fail
        go_end0
        exact ⟨rfl, TB.out, HMM.out, HBT.out⟩
      · go_wp2_with fail
        go_end0
        exact ⟨rfl, TB.out.set 1 _, HMM.out.set (fun e => hne e.symm) _, HBT.out.set (.inl rfl) _⟩
end Go.Proofs.Ytkphgonbbhlnfaa
