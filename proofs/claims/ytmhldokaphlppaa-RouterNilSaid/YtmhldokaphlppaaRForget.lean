/- (*router.Ports).forget, Drop, Expire at a table that is there: what is so for good stays. -/
import Derived.Test.YtmhldokaphlppaaRLive
namespace Go.Proofs.Ytmhldokaphlppaa
open Go.RowKit Go.Maps Go.Sort

/-- what has turned is what was heard alone -/
theorem PS.grown {B : Nat} {w w2 : World} {p bf bh nf nh : Nat} {age : Int} {F D D' : DataW Unit} (h : PS B w p bf bh nf nh age F D) (hg : w.grownBy w2 (some bh)) (ho : w2.ownsMap Try.prog 45 hrdT bh nh D') : PS B w2 p bf bh nf nh age F D' ∧ w.grownBy w2 (some bh) :=
  have hp : p < w.heap.size := (Array.getElem?_eq_some_iff.1 h.box).1
  ⟨⟨(hg.block p hp (by simpa using h.ne')).trans h.box, h.fix.kept hg (by simpa using h.ne), ho, h.ne, h.bp, h.bbf, h.bbh⟩, hg⟩

set_option maxHeartbeats 4000000 in
set_option maxRecDepth 100000 in
theorem forget_any {B p bf bh nf nh : Nat} {age : Int} {F D : DataW Unit} (f : Nat) (caps : Array Value) (pr : Int → Int → Int → Bool) (w : World) (h : PS B w p bf bh nf nh age F D) (_ : nh ≤ 1000) (hcf : ∀ args w', (callFunc f args).run Try.prog w' = .ok (.enter f args) w')
    (hf : ∀ a q c w', w.grownBy w' (some bh) → Calls Try.prog f (#[.agg #[.int .i64 a, .int .i64 q], .int .i64 c] ++ caps) w' fun e w'' => e = .returned (.bool (pr a q c)) ∧ ∃ n, w'' = (w'.alloc (.cells #[.int .i64 a, .int .i64 q] 45)).drewN n) :
    Calls Try.prog 16 #[.pointer (some ⟨p, 0, none⟩), .func (.func f) #[] caps] w fun e w' => ∃ n D', e = .returned (.int .i64 n) ∧ PS B w' p bf bh nf nh age F D' ∧ w.grownBy w' (some bh) := by
  have c2 : w.cell? ⟨p, 2, none⟩ = some (.map (some bh)) := cell_of h.box 2 _ rfl
  have hp : p < w.heap.size := (Array.getElem?_eq_some_iff.1 h.box).1
  have hpb : p ≠ bh := h.ne'
  have hD := h.hrd
  have hbl := h.hrd.lt
  have H := Lib.hid h
  have HF := Lib.hid hf
  clear h hf
  go_enter Try.func16, Try.ntmps16
  go_wp2_with (first
    | (at_range; refine wpList_range_own _ rfl _ 41 rfl 45 3 lawP Try.underlying41 _ bh nh _ rfl hD ?_; intro w0 hrg0 hg0 hs0)
    | go_in)
  go_frame
  go_loopw [5] (fun k wr => ∃ (left : Lit → Bool) (cnt : Nat) (D' : DataW Unit) (n : Int), k = .int .i64 n ∧ wr.ranges Try.prog 45 hrdT bh w.heap.size nh D' left cnt ∧ w.grownBy wr (some bh))
    (fun _ wr => wr.rangeLeft bh w.heap.size)
  case atStart => exact ⟨_, _, D, 0, rfl, hrg0, hg0.but _⟩
  case round =>
    obtain ⟨left, cnt, D', n, rfl, hrg, hgr⟩ := hrel
    clear hrg0 hg0 hs0 hD
    go_wp2_with (first
      | (at_next; refine wpList_next_heard _ rfl _ rfl bh w.heap.size nh _ _ _ rfl hrg ?_ ?_)
      | go_in)
    · intro hl0
      have HR := Lib.hid (H.out.grown hgr hrg.owns)
      clear hl0 hrg hgr
      go_wp2
      go_ret
      exact ⟨n, D', rfl, HR.out⟩
    · intro a q c w2 cnt2 wa wq wc hhas hat hrg2 hlt hg2 hen
      have hgr2 : w.grownBy w2 (some bh) := hgr.andThen hg2 (fun j hj => by cases hj; exact .inl (Nat.le_refl _))
      have hgr3 : w.grownBy (w2.alloc (.cells #[.int .i64 a, .int .i64 q] 45)) (some bh) := hgr2.andThen (World.grownBy_alloc w2 _ none) (fun j hj => by cases hj)
      have hcall := HF.out a q c _ hgr3
      have hbl2 : bh < w2.heap.size := Nat.lt_of_lt_of_le hbl hgr2.size
      have hgr4 : w.grownBy ((w2.alloc (.cells #[.int .i64 a, .int .i64 q] 45)).alloc (.cells #[.int .i64 a, .int .i64 q] 45)) (some bh) := hgr3.andThen (World.grownBy_alloc _ _ none) (fun j hj => by cases hj)
      have hrg4 := (hrg2.alloc (.cells #[.int .i64 a, .int .i64 q] 45)).alloc (.cells #[.int .i64 a, .int .i64 q] 45)
      have c2' : ((w2.alloc (.cells #[.int .i64 a, .int .i64 q] 45)).alloc (.cells #[.int .i64 a, .int .i64 q] 45)).cell? ⟨p, 2, none⟩ = some (.map (some bh)) := (World.cell?_of_block (a := ⟨p, 2, none⟩) (hgr4.block p hp (by simpa using hpb))).trans c2
      have HE := Lib.hid (fun (w' : World) (hb : w2.grownBy w' none) => And.intro (hgr2.andThen hb (fun j hj => by cases hj)) (hrg2.kept hb (by simp) (by simp)))
      have HL := Lib.hid (fun (cnt' : Nat) (wr' : World) (D'' : DataW Unit) (left' : Lit → Bool) (hr : wr'.ranges Try.prog 45 hrdT bh w.heap.size nh D'' left' cnt') (hle : cnt' ≤ cnt2) => show wr'.rangeLeft bh w.heap.size < wr.rangeLeft bh w.heap.size by rw [hr.left_eq, hrg.left_eq]; omega)
      cases hpr : pr a q c
      · rw [hpr] at hcall
        have HC := Lib.hid hcall
        clear hcall hat hrg hgr hg2 hrg2 hgr2 hgr3 hgr4 c2 c2' hrg4 hpr
        go_wp2_with ((with_reducible refine HC.out.mono ?_); rintro e w' ⟨rfl, m, rfl⟩)
        go_roundw
        case rel =>
          obtain ⟨h1, h2⟩ := HE.out (((w2.alloc (.cells #[.int .i64 a, .int .i64 q] 45)).alloc (.cells #[.int .i64 a, .int .i64 q] 45)).drewN m) (grown_below (below_draws _ (((Below.refl _ _).alloc (Nat.le_refl _) _).alloc (by simp) _) m))
          exact ⟨_, cnt2, D', n, rfl, h2, h1⟩
        case measure =>
          obtain ⟨h1, h2⟩ := HE.out (((w2.alloc (.cells #[.int .i64 a, .int .i64 q] 45)).alloc (.cells #[.int .i64 a, .int .i64 q] 45)).drewN m) (grown_below (below_draws _ (((Below.refl _ _).alloc (Nat.le_refl _) _).alloc (by simp) _) m))
          exact HL.out _ _ _ _ h2 (Nat.le_refl _)
      · rw [hpr] at hcall
        have HC := Lib.hid hcall
        clear hcall hat hrg hgr hg2 hrg2 hgr2 hgr3 hgr4 c2 hpr
        go_wp2_with ((with_reducible refine HC.out.mono ?_); rintro e w' ⟨rfl, m, rfl⟩)
        obtain ⟨hgrm, hrgm⟩ := HE.out (((w2.alloc (.cells #[.int .i64 a, .int .i64 q] 45)).alloc (.cells #[.int .i64 a, .int .i64 q] 45)).drewN (m + 1)) (grown_below (below_draws _ (((Below.refl _ _).alloc (Nat.le_refl _) _).alloc (by simp) _) (m + 1)))
        obtain ⟨w5, cnt5, hrun, hrg5, hle5, hturn5⟩ := hrgm.drop lawP Try.underlying41 (key_mk wa wq) 0
        have HW := Lib.hid (And.intro hrg5 (And.intro hle5 (And.intro hturn5 hgrm)))
        clear hrgm hgrm hrg4 hrg5 hle5 hturn5
        go_region
        go_wp2
        go_roundw
        case rel =>
          obtain ⟨h1, h2, h3, h4⟩ := HW.out
          exact ⟨_, cnt5, _, _, rfl, h1, h4.andThen h3.grown (fun j hj => by cases hj; exact .inr rfl)⟩
        case measure => exact HL.out _ _ _ _ HW.out.1 HW.out.2.1

theorem callDrop (args : Array Value) (w : World) : (callFunc 17 args).run Try.prog w = .ok (.enter 17 args) w := by kernel_rfl
theorem callExpire (args : Array Value) (w : World) : (callFunc 18 args).run Try.prog w = .ok (.enter 18 args) w := by kernel_rfl

theorem drop1_any (a q c port : Int) (b : Nat) (w : World) (hb : b < w.heap.size) (h : w.cell? ⟨b, 0, none⟩ = some (.int .i64 port)) :
    Calls Try.prog 17 #[.agg #[.int .i64 a, .int .i64 q], .int .i64 c, .pointer (some ⟨b, 0, none⟩)] w fun e w' => e = .returned (.bool (q == port)) ∧ ∃ n, w' = (w.alloc (.cells #[.int .i64 a, .int .i64 q] 45)).drewN n := by
  have h' : (w.alloc (.cells #[.int .i64 a, .int .i64 q] 45)).cell? ⟨b, 0, none⟩ = some (.int .i64 port) := (((Below.refl _ _).alloc (Nat.le_refl _) _).cell (p := ⟨b, 0, none⟩) hb).trans h
  clear h
  go_enter Try.func17, Try.ntmps17
  go_wp2
  go_ret
  exact ⟨rfl, 0, rfl⟩

theorem expire1_any (a q c now age : Int) (b b' p : Nat) (w : World) (hb : b < w.heap.size) (hb' : b' < w.heap.size) (hp : p < w.heap.size) (h : w.cell? ⟨b, 0, none⟩ = some (.pointer (some ⟨p, 0, none⟩))) (h1 : w.cell? ⟨b', 0, none⟩ = some (.int .i64 now)) (h2 : w.cell? ⟨p, 0, none⟩ = some (.int .i64 age)) :
    Calls Try.prog 18 #[.agg #[.int .i64 a, .int .i64 q], .int .i64 c, .pointer (some ⟨b, 0, none⟩), .pointer (some ⟨b', 0, none⟩)] w fun e w' => e = .returned (.bool (decide (wrap64 (c + age) ≤ now))) ∧ ∃ n, w' = (w.alloc (.cells #[.int .i64 a, .int .i64 q] 45)).drewN n := by
  have hbl : Below w.heap.size w (w.alloc (.cells #[.int .i64 a, .int .i64 q] 45)) := (Below.refl _ _).alloc (Nat.le_refl _) _
  have h' := (hbl.cell (p := ⟨b, 0, none⟩) hb).trans h
  have h1' := (hbl.cell (p := ⟨b', 0, none⟩) hb').trans h1
  have h2' := (hbl.cell (p := ⟨p, 0, none⟩) hp).trans h2
  clear h h1 h2 hbl
  go_enter Try.func18, Try.ntmps18
  go_wp2
  go_quiet (fail)
  go_wp2
  go_ret
  exact ⟨rfl, nq, rfl⟩

theorem kept_cell {w w' : World} {bh : Nat} (h : w.grownBy w' (some bh)) {b k : Nat} (hb : b < w.heap.size) (hne : b ≠ bh) : w'.cell? ⟨b, k, none⟩ = w.cell? ⟨b, k, none⟩ :=
  World.cell?_of_block (a := ⟨b, k, none⟩) (h.block b hb (by simpa using hne))

theorem drop_any {B p bf bh nf nh : Nat} {age : Int} {F D : DataW Unit} (port : Int) (w : World) (h : PS B w p bf bh nf nh age F D) (hn : nh ≤ 1000) :
    Calls Try.prog 9 #[.pointer (some ⟨p, 0, none⟩), .int .i64 port] w fun e w' => ∃ n D', e = .returned (.int .i64 n) ∧ PS B w' p bf bh nf nh age F D' ∧ w.grownBy w' (some bh) := by
  have hb : Below w.heap.size w (w.alloc (.cells #[.int .i64 port] 3)) := (Below.refl _ _).alloc (Nat.le_refl _) _
  have hp : p < w.heap.size := (Array.getElem?_eq_some_iff.1 h.box).1
  have hbh := h.hrd.lt
  have h1 := h.mono hb
  have hc : (w.alloc (.cells #[.int .i64 port] 3)).cell? ⟨w.heap.size, 0, none⟩ = some (.int .i64 port) := cell_of (heap_alloc_new w _) 0 _ rfl
  have HC := Lib.hid (forget_any 17 #[.pointer (some ⟨w.heap.size, 0, none⟩)] (fun _ q _ => q == port) _ h1 hn callDrop (fun a q c w' hg =>
    drop1_any a q c port w.heap.size w' (Nat.lt_of_lt_of_le (by simp) hg.size) ((kept_cell hg (by simp) (by omega)).trans hc)))
  have HB := Lib.hid (grown_below hb)
  clear h hb hp hbh h1 hc
  go_enter Try.func9, Try.ntmps9
  go_wp2_with ((with_reducible refine HC.out.mono ?_); rintro e w' ⟨n, D', rfl, hps, hbl⟩; have HR := Lib.hid (And.intro hps hbl); clear hps hbl)
  go_ret
  exact ⟨n, D', rfl, HR.out.1, (HB.out.but _).andThen HR.out.2 (fun j hj => by cases hj; exact .inr rfl)⟩

theorem expire_any {B p bf bh nf nh : Nat} {age : Int} {F D : DataW Unit} (now : Int) (w : World) (h : PS B w p bf bh nf nh age F D) (hn : nh ≤ 1000) :
    Calls Try.prog 10 #[.pointer (some ⟨p, 0, none⟩), .int .i64 now] w fun e w' => ∃ n D', e = .returned (.int .i64 n) ∧ PS B w' p bf bh nf nh age F D' ∧ w.grownBy w' (some bh) := by
  have hb0 : Below w.heap.size w (w.alloc (.cells #[.pointer (some ⟨p, 0, none⟩)] 24)) := (Below.refl _ _).alloc (Nat.le_refl _) _
  have hb := hb0.alloc (by simp) (.cells #[.int .i64 now] 3)
  have hp : p < w.heap.size := (Array.getElem?_eq_some_iff.1 h.box).1
  have hbh := h.hrd.lt
  have h1 := h.mono hb
  have hpb := h.ne'
  have hc0 : (w.alloc (.cells #[.pointer (some ⟨p, 0, none⟩)] 24)).cell? ⟨w.heap.size, 0, none⟩ = some (.pointer (some ⟨p, 0, none⟩)) := cell_of (heap_alloc_new w _) 0 _ rfl
  have hc : ((w.alloc (.cells #[.pointer (some ⟨p, 0, none⟩)] 24)).alloc (.cells #[.int .i64 now] 3)).cell? ⟨w.heap.size, 0, none⟩ = some (.pointer (some ⟨p, 0, none⟩)) := (((Below.refl _ _).alloc (Nat.le_refl _) _).cell (p := ⟨w.heap.size, 0, none⟩) (by simp)).trans hc0
  have hc1 : ((w.alloc (.cells #[.pointer (some ⟨p, 0, none⟩)] 24)).alloc (.cells #[.int .i64 now] 3)).cell? ⟨w.heap.size + 1, 0, none⟩ = some (.int .i64 now) := by simp
  have hc2 := cell_of h1.box 0 _ rfl
  have HC := Lib.hid (forget_any 18 #[.pointer (some ⟨w.heap.size, 0, none⟩), .pointer (some ⟨w.heap.size + 1, 0, none⟩)] (fun _ _ c => decide (wrap64 (c + age) ≤ now)) _ h1 hn callExpire (fun a q c w' hg =>
    have hsz := hg.size
    expire1_any a q c now age w.heap.size (w.heap.size + 1) p w' (by simp at hsz; omega) (by simp at hsz; omega) (by simp at hsz; omega) ((kept_cell hg (by simp; omega) (by omega)).trans hc) ((kept_cell hg (by simp) (by omega)).trans hc1) ((kept_cell hg (by simp; omega) hpb).trans hc2)))
  have HB := Lib.hid (grown_below hb)
  clear h hb0 hb hp hbh h1 hc0 hc hc1 hc2 hpb
  go_enter Try.func10, Try.ntmps10
  go_wp2_with ((with_reducible refine HC.out.mono ?_); rintro e w' ⟨n, D', rfl, hps, hbl⟩; have HR := Lib.hid (And.intro hps hbl); clear hps hbl)
  go_ret
  exact ⟨n, D', rfl, HR.out.1, (HB.out.but _).andThen HR.out.2 (fun j hj => by cases hj; exact .inr rfl)⟩
end Go.Proofs.Ytmhldokaphlppaa
