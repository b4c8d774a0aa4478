/- The router's statements: 'live', and RouterNil's body. -/
import Derived.Test.YtmhldokaphlppaaRPorts
namespace Go.Proofs.Ytmhldokaphlppaa
open Go.RowKit Go.Maps Go.Sort

def RetV (w : World) (v : Value) (e : Ending) (w' : World) : Prop := e = .returned v ∧ Below w.heap.size w w'

/-- the table, and nothing old written -/
structure LS (w w' : World) (p bf bh nf nh : Nat) (age : Int) (F D : DataW Unit) : Prop where
  ps : PS w.heap.size w' p bf bh nf nh age F D
  bel : Below w.heap.size w w'

theorem LS.step {w w1 w2 : World} {p bf bh nf nh : Nat} {age : Int} {F D : DataW Unit} (h : LS w w1 p bf bh nf nh age F D) (hb : Below w1.heap.size w1 w2) : LS w w2 p bf bh nf nh age F D :=
  ⟨h.ps.mono hb, h.bel.trans (hb.mono h.bel.size)⟩

theorem LS.turn {w w1 w2 : World} {p bf bh nf nh nf' nh' : Nat} {age : Int} {F D F' D' : DataW Unit} (h : LS w w1 p bf bh nf nh age F D) (hp : PS w.heap.size w2 p bf bh nf' nh' age F' D') (hb : Below w.heap.size w1 w2) : LS w w2 p bf bh nf' nh' age F' D' :=
  ⟨hp, h.bel.trans hb⟩

/-- what is told of one that was heard -/
theorem fresh_put_same {D : DataW Unit} (hD : IsMap D) (age now v x a : Int) : fresh (D.put (plKey v x) (.lit (.int .i64 a))) age now (plKey v x) = decide (now < wrap64 (a + age)) := by
  unfold fresh
  rw [atKey_put_same hD (plKey_isKey v x)]

theorem fresh_put_other {D : DataW Unit} {k k' : Lit} (hne : k' ≠ k) (age now a : Int) : fresh (D.put k (.lit (.int .i64 a))) age now k' = fresh D age now k' := by
  unfold fresh
  rw [atKey_put_other hne]

theorem fresh_empty (age now : Int) (k : Lit) : fresh (.map [] : DataW Unit) age now k = false := rfl

theorem fresh_one (now x : Int) (hx : (Lit.int .i64 x).wf = true) : (has (.map [] : DataW Unit) (plKey 1 x) = true ∨ fresh ((.map [] : DataW Unit).put (plKey 1 3) (.lit (.int .i64 5))) 10 now (plKey 1 x) = true) ↔ (x = 3 ∧ now < 15) := by
  have h1 : has (.map [] : DataW Unit) (plKey 1 x) = false := rfl
  rw [h1]
  by_cases e : x = 3
  · subst e
    rw [fresh_put_same isMap_empty]
    simp [wrap64]
  · have hne : plKey 1 x ≠ plKey 1 3 := fun h => e (key_inj (by decide) hx (by decide) (by decide) h).2
    rw [fresh_put_other hne, fresh_empty]
    simp [e]

theorem list_one {L : List Int} (hr : L.Pairwise (· < ·)) (hw : ∀ x ∈ L, (Lit.int .i64 x).wf = true) (hm : ∀ x, (Lit.int .i64 x).wf = true → (x ∈ L ↔ x = 3)) : L = [3] := by
  have h3 : (3 : Int) ∈ L := (hm 3 (by decide)).2 rfl
  match L, h3, hr with
  | [a], h3, _ => rw [List.mem_singleton] at h3; rw [← h3]
  | a :: b :: r, _, hr =>
    have ha := (hm a (hw a (by simp))).1 (by simp)
    have hb := (hm b (hw b (by simp))).1 (by simp)
    have := (List.pairwise_cons.1 hr).1 b (by simp)
    omega

theorem list_none {L : List Int} (hw : ∀ x ∈ L, (Lit.int .i64 x).wf = true) (hm : ∀ x, (Lit.int .i64 x).wf = true → (x ∈ L ↔ False)) : L = [] := by
  cases L with
  | nil => rfl
  | cons a r => exact ((hm a (hw a (by simp))).1 (by simp)).elim

theorem cell_of {w : World} {b : Nat} {cs : Array Value} {T : TypeId} {fr : Nat × Nat} (h : w.heap[b]? = some (.cells cs T fr)) (k : Nat) (v : Value) (hk : cs[k]? = some v) : w.cell? ⟨b, k, none⟩ = some v := by
  simp [World.cell?, h, hk]

theorem Ints.lit1 (w : World) (x : Int) (hx : (Lit.int .i64 x).wf = true) : Ints (w.alloc (.cells #[.int .i64 x] 3)) (.slice (some ⟨w.heap.size, 0, none⟩) 1 1) [x] :=
  ⟨_, 1, w.heap.size, 0, rfl, .inr rfl, by simp, by simpa using hx, fun k hk => by
    obtain rfl : k = 0 := by simpa using hk
    have := heap_alloc_new w (.cells #[.int .i64 x] 3)
    exact ⟨by simp, cell_of this 0 _ rfl⟩⟩

set_option maxHeartbeats 4000000 in
theorem live_any (w : World) : Calls Try.prog 11 #[] w (RetV w (.bool true)) := by
  go_enter Try.func11, Try.ntmps11
  go_wp2_with ((with_reducible refine (new_ok 10 _ (by decide) (by decide)).mono ?_); rintro e w1 ⟨p, bf, bh, rfl, hps, hb⟩; have H1 := Lib.hid (LS.mk hps hb); clear hps hb)
  go_wp2_with ((with_reducible refine (new_bad 0 _ (by decide)).mono ?_); rintro e w2 ⟨rfl, rfl⟩)
  refine (seen_ok 1 3 5 _ H1.out.ps (by decide) (by decide) (by decide) (by decide)).mono ?_
  rintro e w2 ⟨rfl, hps, hb⟩
  have H2 := Lib.hid (H1.out.turn hps (H1.out.ps.below hb))
  clear hps hb
  go_wp2_with fail
  refine (list_any p bf bh _ _ 10 1 14 _ _ _ H2.out.ps.box H2.out.ps.fix H2.out.ps.hrd (by decide) (by decide)).mono ?_
  rintro e w3 ⟨o, L, rfl, hi, hr, hm, hb⟩
  obtain rfl := list_one hr hi.wf (fun x hx => by rw [hm x hx, fresh_one 14 x hx]; simp)
  have H3 := Lib.hid (And.intro (H2.out.step hb) hi)
  clear hi hr hm hb
  go_wp2_with fail
  refine (list_any p bf bh _ _ 10 1 15 _ _ _ H3.out.1.ps.box H3.out.1.ps.fix H3.out.1.ps.hrd (by decide) (by decide)).mono ?_
  rintro e w4 ⟨o2, L2, rfl, hi2, hr2, hm2, hb2⟩
  obtain rfl := list_none hi2.wf (fun x hx => by rw [hm2 x hx, fresh_one 15 x hx]; simp)
  have H4 := Lib.hid (And.intro (H3.out.1.step hb2) (And.intro (H3.out.2.mono hb2) hi2))
  obtain ⟨ao, cap, b, off, rfl, _⟩ := hi2
  clear hr2 hm2 hb2
  go_wp2_with fail
  have hb5 : Below w4.heap.size w4 (w4.alloc (.cells #[.int .i64 3] 3)) := (Below.refl _ _).alloc (Nat.le_refl _) _
  have H5 := Lib.hid (H4.out.1.step hb5)
  refine (same_any _ _ _ _ _ (H4.out.2.1.mono hb5) (Ints.lit1 w4 3 (by decide))).mono ?_
  rintro e w6 ⟨rfl, n6, rfl⟩
  have H6 := Lib.hid (H5.out.step (below_draws _ (Below.refl _ _) n6))
  clear hb5
  go_wp2_with fail
  refine (fix_bad 0 0 _ (by decide)).mono ?_
  rintro e w7 ⟨rfl, hb7⟩
  have H7 := Lib.hid (H6.out.step hb7)
  clear hb7
  go_wp2
  go_ret
  exact ⟨rfl, H7.out.bel⟩

set_option maxHeartbeats 4000000 in
theorem law_nil (d0 v port now : Int) (w : World) : Calls Try.prog 3 #[.agg #[.int .i64 d0, .int .i64 v, .int .i64 port, .int .i64 now]] w (RetV w (.bool true)) := by
  have hb0 : Below w.heap.size w (w.alloc (.cells #[.int .i64 d0, .int .i64 v, .int .i64 port, .int .i64 now] 23)) := (Below.refl _ _).alloc (Nat.le_refl _) _
  have hx := heap_alloc_new w (.cells #[.int .i64 d0, .int .i64 v, .int .i64 port, .int .i64 now] 23)
  have c1 : (w.alloc (.cells #[.int .i64 d0, .int .i64 v, .int .i64 port, .int .i64 now] 23)).cell? ⟨w.heap.size, 1, none⟩ = some (.int .i64 v) := cell_of hx 1 _ rfl
  have c2 : (w.alloc (.cells #[.int .i64 d0, .int .i64 v, .int .i64 port, .int .i64 now] 23)).cell? ⟨w.heap.size, 2, none⟩ = some (.int .i64 port) := cell_of hx 2 _ rfl
  have c3 : (w.alloc (.cells #[.int .i64 d0, .int .i64 v, .int .i64 port, .int .i64 now] 23)).cell? ⟨w.heap.size, 3, none⟩ = some (.int .i64 now) := cell_of hx 3 _ rfl
  obtain ⟨w1, hw1⟩ : ∃ w1, w1 = w.alloc (.cells #[.int .i64 d0, .int .i64 v, .int .i64 port, .int .i64 now] 23) := ⟨_, rfl⟩
  rw [← hw1] at hb0 c1 c2 c3
  have HW1 := Lib.hid hw1
  have hlt : w.heap.size < w1.heap.size := by rw [hw1]; simp
  have CS : ∀ w2, Below w1.heap.size w1 w2 → Below w.heap.size w w2 ∧ w2.cell? ⟨w.heap.size, 1, none⟩ = some (.int .i64 v) ∧ w2.cell? ⟨w.heap.size, 2, none⟩ = some (.int .i64 port) ∧ w2.cell? ⟨w.heap.size, 3, none⟩ = some (.int .i64 now) :=
    fun w2 hb => ⟨hb0.trans (hb.mono (Nat.le_of_lt hlt)), (hb.cell hlt).trans c1, (hb.cell hlt).trans c2, (hb.cell hlt).trans c3⟩
  have HCS := Lib.hid CS
  clear hx CS hb0 hlt hw1 c1 c2 c3
  go_enter Try.func3, Try.ntmps3
  go_wp2_with ((with_reducible refine (new_bad 0 _ (by decide)).mono ?_); rintro e w2 ⟨rfl, rfl⟩)
  refine (fix_nil v port _).mono ?_
  rintro e w2 ⟨rfl, hb⟩
  rw [← HW1.out] at hb
  have HB2 := Lib.hid hb
  obtain ⟨_, d1, d2, d3⟩ := HCS.out _ hb
  clear hb
  go_wp2_with fail
  refine (seen_nil v port now _).mono ?_
  rintro e w3 ⟨rfl, hb⟩
  have HB3 := Lib.hid (HB2.out.trans (hb.mono HB2.out.size))
  obtain ⟨_, c1, c2, c3⟩ := HCS.out _ HB3.out
  clear hb d1 d2 d3
  go_wp2_with ((with_reducible refine (list_nil v now _).mono ?_); rintro e w4 ⟨rfl, rfl⟩)
  refine (drop_nil port _).mono ?_
  rintro e w4 ⟨rfl, hb⟩
  have HB4 := Lib.hid (HB3.out.trans (hb.mono HB3.out.size))
  obtain ⟨_, d1, d2, d3⟩ := HCS.out _ HB4.out
  clear hb c1 c2 c3
  go_wp2_with fail
  refine (expire_nil now _).mono ?_
  rintro e w5 ⟨rfl, hb⟩
  have HB5 := Lib.hid (HB4.out.trans (hb.mono HB4.out.size))
  clear hb d1 d2 d3
  go_wp2_with fail
  refine (live_any _).mono ?_
  rintro e w6 ⟨rfl, hb⟩
  have HB6 := Lib.hid (HB5.out.trans (hb.mono HB5.out.size))
  clear hb
  go_wp2
  go_ret
  exact ⟨rfl, (HCS.out _ HB6.out).1⟩
end Go.Proofs.Ytmhldokaphlppaa
