/- The router's table of ports: New, may, Fix, Seen. -/
import Derived.Test.YtmhldokaphlppaaRList
import Derived.StillTailTactics
namespace Go.Proofs.Ytmhldokaphlppaa
open Go.RowKit Go.Maps Go.Sort

def mayB (v p : Int) : Bool := decide (1 ≤ v) && decide (v ≤ 4094) && decide (0 ≤ p) && decide (p < 16)

theorem mayB_wf {v p : Int} (h : mayB v p = true) : (Lit.int .i64 v).wf = true ∧ (Lit.int .i64 p).wf = true := by
  simp [mayB] at h
  exact ⟨WalkArith.wf_i64 (by omega), WalkArith.wf_i64 (by omega)⟩

set_option maxHeartbeats 400000 in
theorem may_any (v p : Int) (w : World) :
    Calls Try.prog 13 #[.agg #[.int .i64 v, .int .i64 p]] w fun e w' => e = .returned (.bool (mayB v p)) ∧ w' = w.alloc (.cells #[.int .i64 v, .int .i64 p] 45) := by
  go_enter Try.func13, Try.ntmps13
  go_wp2
  all_goals go_ret
  all_goals refine ⟨ret_bool ?_, rfl⟩
  all_goals (simp [mayB]; try omega)

/-- the table: its box, what is so for good, what was heard -/
structure PS (B : Nat) (w : World) (p bf bh nf nh : Nat) (age : Int) (F D : DataW Unit) : Prop where
  box : w.heap[p]? = some (.cells #[.int .i64 age, .map (some bf), .map (some bh)] 43 (0, 0))
  fix : w.ownsMap Try.prog 45 fixT bf nf F
  hrd : w.ownsMap Try.prog 45 hrdT bh nh D
  ne : bf ≠ bh
  bp : B ≤ p
  bbf : B ≤ bf
  bbh : B ≤ bh

theorem PS.mono {B : Nat} {w w' : World} {p bf bh nf nh : Nat} {age : Int} {F D : DataW Unit} (h : PS B w p bf bh nf nh age F D) (hb : Below w.heap.size w w') : PS B w' p bf bh nf nh age F D :=
  ⟨(hb.block p (Array.getElem?_eq_some_iff.1 h.box).1).trans h.box, own_below h.fix hb h.fix.lt, own_below h.hrd hb h.hrd.lt, h.ne, h.bp, h.bbf, h.bbh⟩

theorem grown_below {w w' : World} (h : Below w.heap.size w w') : w.grownBy w' none := ⟨h.os, h.tape, h.output, h.size, fun i hi _ => h.block i hi⟩

theorem PS.ne' {B : Nat} {w : World} {p bf bh nf nh : Nat} {age : Int} {F D : DataW Unit} (h : PS B w p bf bh nf nh age F D) : p ≠ bh := by
  rintro rfl
  have hx := h.box
  obtain ⟨es, c, h1, _⟩ := h.hrd; rw [hx] at h1; cases h1

theorem PS.below {B : Nat} {w w2 : World} {p bf bh nf nh : Nat} {age : Int} {F D : DataW Unit} (h : PS B w p bf bh nf nh age F D) (hg : w.grownBy w2 (some bh)) : Below B w w2 :=
  (Below.refl _ _).grown hg (Nat.le_trans h.bp (Nat.le_of_lt (Array.getElem?_eq_some_iff.1 h.box).1)) (fun j hj => by cases hj; exact h.bbh)

theorem PS.turned {B : Nat} {w wX w2 : World} {p bf bh nf nh b : Nat} {age : Int} {F D : DataW Unit} (h : PS B w p bf bh nf nh age F D) (hb : Below w.heap.size w wX) (ht : wX.drew.mapTurned w2 b) (hbb : b = bf ∨ b = bh) :
    w2.heap[p]? = some (.cells #[.int .i64 age, .map (some bf), .map (some bh)] 43 (0, 0)) ∧ Below B w w2 ∧ (b ≠ bf → w2.ownsMap Try.prog 45 fixT bf nf F) ∧ (b ≠ bh → w2.ownsMap Try.prog 45 hrdT bh nh D) := by
  have hp : p < w.heap.size := (Array.getElem?_eq_some_iff.1 h.box).1
  have hBw : B ≤ w.heap.size := Nat.le_trans h.bp (Nat.le_of_lt hp)
  have hg := ht.grown
  have hne : p ≠ b := by
    rintro rfl
    have hx := h.box
    rcases hbb with rfl | rfl
    · obtain ⟨es, c, h1, _⟩ := h.fix; rw [hx] at h1; cases h1
    · obtain ⟨es, c, h1, _⟩ := h.hrd; rw [hx] at h1; cases h1
  refine ⟨?_, ?_, fun hn => ?_, fun hn => ?_⟩
  · rw [hg.block p (Nat.lt_of_lt_of_le hp hb.size) (by simpa using hne)]
    exact (hb.block p hp).trans h.box
  · exact (below_draws B (hb.mono hBw) 1).grown hg (Nat.le_trans hBw hb.size) (fun j hj => by cases hj; rcases hbb with rfl | rfl; exact h.bbf; exact h.bbh)
  · exact ((own_below h.fix hb h.fix.lt).drew).kept hg (by simpa using fun e => hn e.symm)
  · exact ((own_below h.hrd hb h.hrd.lt).drew).kept hg (by simpa using fun e => hn e.symm)

theorem new_ok (age : Int) (w : World) (h1 : 1 ≤ age) (h2 : age ≤ 1000000) :
    Calls Try.prog 5 #[.int .i64 age] w fun e w' => ∃ p bf bh, e = .returned (.tuple #[.pointer (some ⟨p, 0, none⟩), .int .i64 0]) ∧ PS w.heap.size w' p bf bh 0 0 age (.map []) (.map []) ∧ Below w.heap.size w w' := by
  have hmm := @run_makeMap Try.prog
  have e1 : decide (age < 1) = false := by simp; omega
  have e2 : decide (1000000 < age) = false := by simp; omega
  go_enter Try.func5, Try.ntmps5
  go_wp2
  go_ret2
  have hb : Below w.heap.size w (w.alloc (.map #[] 0)) := (Below.refl _ _).alloc (Nat.le_refl _) _
  have hb2 := hb.alloc (o := .map #[] 0) (by simp)
  have hb3 := hb2.alloc (o := .cells #[.int .i64 age, .map (some w.heap.size), .map (some (w.heap.size + 1))] 43) (by simp; omega)
  refine ⟨w.heap.size + 2, w.heap.size, w.heap.size + 1, by simp, ⟨?_, ?_, ?_, by simp, by omega, by omega, by omega⟩, hb3⟩
  · have := heap_alloc_new ((w.alloc (.map #[] 0)).alloc (.map #[] 0)) (.cells #[.int .i64 age, .map (some w.heap.size), .map (some (w.heap.size + 1))] 43)
    simpa using this
  · exact ((World.ownsMap_made w _ _ _).alloc _).alloc _
  · have := (World.ownsMap_made (w.alloc (.map #[] 0)) Try.prog 45 hrdT).alloc (.cells #[.int .i64 age, .map (some w.heap.size), .map (some (w.heap.size + 1))] 43)
    simpa using this

theorem new_bad (age : Int) (w : World) (h : age < 1 ∨ 1000000 < age) :
    Calls Try.prog 5 #[.int .i64 age] w fun e w' => e = .returned (.tuple #[.pointer none, .int .i64 1]) ∧ w = w' := by
  by_cases h1 : age < 1
  · go_enter Try.func5, Try.ntmps5
    go_wp2
    go_ret2
    exact ⟨rfl, rfl⟩
  · have e1 : decide (age < 1) = false := by simp; omega
    have e2 : 1000000 < age := by omega
    go_enter Try.func5, Try.ntmps5
    go_wp2
    go_ret2
    exact ⟨rfl, rfl⟩

theorem fix_nil (v port : Int) (w : World) :
    Calls Try.prog 6 #[.pointer none, .int .i64 v, .int .i64 port] w fun e w' => e = .returned (.int .i64 1) ∧ Below w.heap.size w w' := by
  go_enter Try.func6, Try.ntmps6
  go_wp2
  go_ret
  exact ⟨rfl, (Below.refl _ _).alloc (Nat.le_refl _) _⟩

theorem seen_nil (v port now : Int) (w : World) :
    Calls Try.prog 7 #[.pointer none, .int .i64 v, .int .i64 port, .int .i64 now] w fun e w' => e = .returned (.int .i64 1) ∧ Below w.heap.size w w' := by
  go_enter Try.func7, Try.ntmps7
  go_wp2
  go_ret
  exact ⟨rfl, (Below.refl _ _).alloc (Nat.le_refl _) _⟩

theorem list_nil (v now : Int) (w : World) :
    Calls Try.prog 8 #[.pointer none, .int .i64 v, .int .i64 now] w fun e w' => e = .returned (.slice none 0 0) ∧ w = w' := by
  go_enter Try.func8, Try.ntmps8
  go_wp2
  go_ret
  exact ⟨rfl, rfl⟩

theorem forget_nil (f : Value) (w : World) :
    Calls Try.prog 16 #[.pointer none, f] w fun e w' => e = .returned (.int .i64 0) ∧ w = w' := by
  go_enter Try.func16, Try.ntmps16
  go_wp2
  go_ret
  exact ⟨rfl, rfl⟩

theorem drop_nil (port : Int) (w : World) :
    Calls Try.prog 9 #[.pointer none, .int .i64 port] w fun e w' => e = .returned (.int .i64 0) ∧ Below w.heap.size w w' := by
  go_enter Try.func9, Try.ntmps9
  go_wp2_with ((with_reducible refine (forget_nil _ _).mono ?_); rintro e w' ⟨rfl, rfl⟩)
  go_ret
  exact ⟨rfl, (Below.refl _ _).alloc (Nat.le_refl _) _⟩

theorem expire_nil (now : Int) (w : World) :
    Calls Try.prog 10 #[.pointer none, .int .i64 now] w fun e w' => e = .returned (.int .i64 0) ∧ Below w.heap.size w w' := by
  go_enter Try.func10, Try.ntmps10
  go_wp2_with ((with_reducible refine (forget_nil _ _).mono ?_); rintro e w' ⟨rfl, rfl⟩)
  go_ret
  exact ⟨rfl, ((Below.refl _ _).alloc (Nat.le_refl _) _).alloc (by simp) _⟩

theorem fix_bad {p : Addr} (v port : Int) (w : World) (h : mayB v port = false) :
    Calls Try.prog 6 #[.pointer (some p), .int .i64 v, .int .i64 port] w fun e w' => e = .returned (.int .i64 1) ∧ Below w.heap.size w w' := by
  go_enter Try.func6, Try.ntmps6
  go_wp2_with ((with_reducible refine (may_any _ _ _).mono ?_); rintro e w' ⟨rfl, rfl⟩)
  go_ret
  exact ⟨rfl, ((Below.refl _ _).alloc (Nat.le_refl _) _).alloc (by simp) _⟩

set_option maxHeartbeats 1000000 in
theorem fix_ok {B p bf bh nf nh : Nat} {age : Int} {F D : DataW Unit} (v port : Int) (w : World) (h : PS B w p bf bh nf nh age F D) (hn : nf < 1000) (hm : mayB v port = true) :
    Calls Try.prog 6 #[.pointer (some ⟨p, 0, none⟩), .int .i64 v, .int .i64 port] w fun e w' => e = .returned (.int .i64 0) ∧ PS B w' p bf bh (nf + 1) nh age (F.put (plKey v port) (.lit (.bool true))) D ∧ Below B w w' := by
  obtain ⟨wv, wp⟩ := mayB_wf hm
  have hkey := key_mk wv wp
  have c1 : w.cell? ⟨p, 1, none⟩ = some (.map (some bf)) := by simp [World.cell?, h.box]
  have H := Lib.hid h
  have hp : p < w.heap.size := (Array.getElem?_eq_some_iff.1 h.box).1
  have hbl : Below w.heap.size w ((w.alloc (.cells #[.int .i64 v, .int .i64 port] 45)).alloc (.cells #[.int .i64 v, .int .i64 port] 45)) := ((Below.refl _ _).alloc (Nat.le_refl _) _).alloc (by simp) _
  have c1' := (hbl.cell (p := ⟨p, 1, none⟩) hp).trans c1
  obtain ⟨w2, hrun, hown, hturn⟩ := ((own_below h.fix (hbl) h.fix.lt).drew).store lawP Try.underlying40 (by unfold maxLen; omega) hkey (plainElem_bool Try.underlying4 true)
  have HW := Lib.hid (And.intro hown hturn)
  have HB := Lib.hid hbl
  clear h c1 hbl hown hturn
  go_enter Try.func6, Try.ntmps6
  go_wp2_with ((with_reducible refine (may_any _ _ _).mono ?_); rintro e w' ⟨rfl, rfl⟩)
  go_region
  go_wp2
  go_ret
  obtain ⟨hown, hturn⟩ := HW.out
  obtain ⟨h1, h2, _, h4⟩ := H.out.turned HB.out hturn (.inl rfl)
  exact ⟨rfl, ⟨h1, hown, h4 H.out.ne, H.out.ne, H.out.bp, H.out.bbf, H.out.bbh⟩, h2⟩

set_option maxHeartbeats 1000000 in
theorem seen_ok {B p bf bh nf nh : Nat} {age : Int} {F D : DataW Unit} (v port now : Int) (w : World) (h : PS B w p bf bh nf nh age F D) (hn : nh < 1000) (hm : mayB v port = true) (h0 : 0 ≤ now) (h1 : now ≤ 1099511627776) :
    Calls Try.prog 7 #[.pointer (some ⟨p, 0, none⟩), .int .i64 v, .int .i64 port, .int .i64 now] w fun e w' => e = .returned (.int .i64 0) ∧ PS B w' p bf bh nf (nh + 1) age F (D.put (plKey v port) (.lit (.int .i64 now))) ∧ w.grownBy w' (some bh) := by
  obtain ⟨wv, wp⟩ := mayB_wf hm
  have hkey := key_mk wv wp
  have c1 : w.cell? ⟨p, 2, none⟩ = some (.map (some bh)) := by simp [World.cell?, h.box]
  have H := Lib.hid h
  have hp : p < w.heap.size := (Array.getElem?_eq_some_iff.1 h.box).1
  have hbl : Below w.heap.size w ((w.alloc (.cells #[.int .i64 v, .int .i64 port] 45)).alloc (.cells #[.int .i64 v, .int .i64 port] 45)) := ((Below.refl _ _).alloc (Nat.le_refl _) _).alloc (by simp) _
  have c1' := (hbl.cell (p := ⟨p, 2, none⟩) hp).trans c1
  obtain ⟨w2, hrun, hown, hturn⟩ := ((own_below h.hrd hbl h.hrd.lt).drew).store lawP Try.underlying41 (by unfold maxLen; omega) hkey (plainElem_int Try.underlying3 (WalkArith.wf_i64 (n := now) (by omega)))
  have HW := Lib.hid (And.intro hown hturn)
  have HB := Lib.hid hbl
  have e1 : decide (now < 0) = false := by simp; omega
  have e2 : decide (1099511627776 < now) = false := by simp; omega
  clear h c1 hbl hown hturn
  go_enter Try.func7, Try.ntmps7
  go_wp2_with ((with_reducible refine (may_any _ _ _).mono ?_); rintro e w' ⟨rfl, rfl⟩)
  go_region
  go_wp2
  go_ret
  obtain ⟨hown, hturn⟩ := HW.out
  obtain ⟨h1, h2, h3, _⟩ := H.out.turned HB.out hturn (.inr rfl)
  exact ⟨rfl, ⟨h1, h3 H.out.ne.symm, hown, H.out.ne, H.out.bp, H.out.bbf, H.out.bbh⟩, ((grown_below HB.out.drew).but _).andThen hturn.grown (fun j hj => by cases hj; exact .inr rfl)⟩

theorem seen_bad {p : Addr} (v port now : Int) (w : World) (h : ¬ (mayB v port = true ∧ 0 ≤ now ∧ now ≤ 1099511627776)) :
    Calls Try.prog 7 #[.pointer (some p), .int .i64 v, .int .i64 port, .int .i64 now] w fun e w' => e = .returned (.int .i64 1) ∧ Below w.heap.size w w' := by
  have hbl : Below w.heap.size w ((w.alloc (.cells #[.int .i64 v, .int .i64 port] 45)).alloc (.cells #[.int .i64 v, .int .i64 port] 45)) := ((Below.refl _ _).alloc (Nat.le_refl _) _).alloc (by simp) _
  have HB := Lib.hid hbl
  clear hbl
  cases hm : mayB v port
  · clear h
    go_enter Try.func7, Try.ntmps7
    go_wp2_with ((with_reducible refine (may_any _ _ _).mono ?_); rintro e w' ⟨rfl, rfl⟩)
    go_ret
    exact ⟨rfl, HB.out⟩
  · by_cases h0 : now < 0
    · clear h
      go_enter Try.func7, Try.ntmps7
      go_wp2_with ((with_reducible refine (may_any _ _ _).mono ?_); rintro e w' ⟨rfl, rfl⟩)
      go_ret
      exact ⟨rfl, HB.out⟩
    · have e1 : decide (now < 0) = false := by simpa using h0
      have e2 : 1099511627776 < now := by
        by_cases h2 : 1099511627776 < now
        · exact h2
        · exact absurd ⟨hm, by omega, by omega⟩ h
      clear h h0
      go_enter Try.func7, Try.ntmps7
      go_wp2_with ((with_reducible refine (may_any _ _ _).mono ?_); rintro e w' ⟨rfl, rfl⟩)
      go_ret
      exact ⟨rfl, HB.out⟩
end Go.Proofs.Ytmhldokaphlppaa
