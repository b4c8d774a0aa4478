/- The five statements' bodies, walked: each returns true and writes nothing that was there. (These lines are printed by a program of mine.) -/
import Derived.Test.YtmjpjpdgejpeeaaFwdSmall
namespace Go.Proofs.Ytmjpjpdgejpeeaa
open Go.RowKit Go.Sort

/-- what a law's walk knows of the world as it stands: nothing old is written; the case's lists are there; its box; the lists that were handed back so far -/
structure St (w w' : World) (cs : Array Value) (vm vo vr vw : Value) (M O R W : List Int) (xs : List (Value × List Int)) : Prop where
  bel : Below w.heap.size w w'
  inn : CaseIn w' vm vo vr vw M O R W
  box : w'.heap[w.heap.size]? = some (.cells cs 24 (0, 0))
  ex : ∀ p ∈ xs, Ints w' p.1 p.2

section
variable {w w' w'' : World} {cs : Array Value} {vm vo vr vw : Value} {M O R W : List Int} {xs : List (Value × List Int)}

theorem St.step (h : St w w' cs vm vo vr vw M O R W xs) (hb : Below w'.heap.size w' w'') : St w w'' cs vm vo vr vw M O R W xs :=
  ⟨h.bel.trans (hb.mono h.bel.size), h.inn.mono hb, (hb.block _ (Array.getElem?_eq_some_iff.1 h.box).1).trans h.box, fun p hp => (h.ex p hp).mono hb⟩

theorem St.start (h : CaseIn w vm vo vr vw M O R W) : St w (w.alloc (.cells cs 24)) cs vm vo vr vw M O R W [] :=
  have hb : Below w.heap.size w (w.alloc (.cells cs 24)) := (Below.refl _ _).alloc (Nat.le_refl _) _
  ⟨hb, h.mono hb, heap_alloc_new w _, by simp⟩

theorem St.draws (h : St w w' cs vm vo vr vw M O R W xs) (n : Nat) : St w (w'.drewN n) cs vm vo vr vw M O R W xs :=
  h.step (below_draws _ (Below.refl _ _) n)

theorem St.add (h : St w w' cs vm vo vr vw M O R W xs) {v : Value} {L : List Int} (hv : Ints w' v L) : St w w' cs vm vo vr vw M O R W ((v, L) :: xs) :=
  ⟨h.bel, h.inn, h.box, fun p hp => by
    rcases List.mem_cons.1 hp with rfl | hp
    · exact hv
    · exact h.ex p hp⟩
end

/-- an operation that is wanted, guarded or not -/
theorem wpList_wanted {ops : Array Oper} {rest : List Oper} {o : Oper} {a : Act} {w : World} {Q : Exit → Act → World → Prop} (hw : Region.wanted o (yielded ops a.tmps) = true)
    (h : o.wp Try.prog a w (wpList Try.prog ops Q rest) Q) : wpList Try.prog ops Q (o :: rest) a w := by
  unfold wpList
  rw [if_pos hw]
  exact .inl h

theorem infoC : (Try.prog.info? 24).map (·.size) = some 10 := by kernel_rfl


set_option maxHeartbeats 400000 in
theorem law_local (s : ByteArray) (w : World) (hs : s.size ≤ maxLen) :
    Calls Try.prog 4 #[.string s] w (RetV w (.bool true)) := by
  have HL := Lib.hid (fun u => local_any s u hs)
  have HR := Lib.hid (fun u => rlocal_any s u hs)
  clear hs
  go_enter Try.func4, Try.ntmps4
  go_wp2_with (first | ((with_reducible refine (HL.out _).mono ?_); rintro e w' ⟨rfl, rfl⟩) | ((with_reducible refine (HR.out _).mono ?_); rintro e w' ⟨rfl, rfl⟩) | ((with_reducible refine (live_any _).mono ?_); rintro e w' ⟨rfl, hb⟩; have HB := Lib.hid hb; clear hb))
  go_ret
  exact ⟨rfl, HB.out⟩

set_option maxHeartbeats 4000000 in
theorem law_decides (port : Int) (vm vo vr vw : Value) (lo ov re kn fl : Bool) (M O R W : List Int) (w : World) (h : CaseIn w vm vo vr vw M O R W) :
    Calls Try.prog 3 #[.agg #[.int .i64 port, vm, vo, vr, vw, .bool lo, .bool ov, .bool re, .bool kn, .bool fl]] w (RetV w (.bool true)) := by
  have H1 := Lib.hid (St.start (cs := #[.int .i64 port, vm, vo, vr, vw, .bool lo, .bool ov, .bool re, .bool kn, .bool fl]) h)
  have hg1 := H1.out.box
  clear h
  cases hf : fewB M O R W
  · go_enter Try.func3, Try.ntmps3
    go_wp2_with ((with_reducible show wpList _ _ _ _ _ _); refine wpList_wanted rfl (wp_load_row 24 _ rfl w.heap.size rfl 24 _ (0, 0) _ (by assumption) Try.underlying24 rfl (by exact infoC) ?_))
    refine (few_any port vm vo vr vw lo ov re kn fl M O R W _ H1.out.inn).mono ?_
    rintro e w2 ⟨rfl, hb2⟩
    have H2 := Lib.hid (H1.out.step hb2)
    have hg2 := H2.out.box
    clear hb2 hg1
    go_wp2_with ((with_reducible show wpList _ _ _ _ _ _); refine wpList_wanted rfl (wp_load_row 24 _ rfl w.heap.size rfl 24 _ (0, 0) _ (by assumption) Try.underlying24 rfl (by exact infoC) ?_))
    refine (live_any _).mono ?_
    rintro e w3 ⟨rfl, hb3⟩
    have H3 := Lib.hid (H2.out.step hb3)
    clear hb3 hg2
    go_wp2
    go_ret
    exact ⟨rfl, H3.out.bel⟩
  · go_enter Try.func3, Try.ntmps3
    go_wp2_with ((with_reducible show wpList _ _ _ _ _ _); refine wpList_wanted rfl (wp_load_row 24 _ rfl w.heap.size rfl 24 _ (0, 0) _ (by assumption) Try.underlying24 rfl (by exact infoC) ?_))
    refine (few_any port vm vo vr vw lo ov re kn fl M O R W _ H1.out.inn).mono ?_
    rintro e w2 ⟨rfl, hb2⟩
    have H2 := Lib.hid (H1.out.step hb2)
    have hg2 := H2.out.box
    clear hb2 hg1
    go_wp2_with ((with_reducible show wpList _ _ _ _ _ _); refine wpList_wanted rfl (wp_load_row 24 _ rfl w.heap.size rfl 24 _ (0, 0) _ (by assumption) Try.underlying24 rfl (by exact infoC) ?_))
    refine (told_any port vm vo vr vw lo ov re kn fl M O R W _ H2.out.inn).mono ?_
    rintro e w3 ⟨rfl, hb3⟩
    have H3 := Lib.hid (H2.out.step hb3)
    have hg3 := H3.out.box
    clear hb3 hg2
    go_wp2_with ((with_reducible show wpList _ _ _ _ _ _); refine wpList_wanted rfl (wp_load_row 24 _ rfl w.heap.size rfl 24 _ (0, 0) _ (by assumption) Try.underlying24 rfl (by exact infoC) ?_))
    refine (flood_any port vm vo vr vw lo ov re kn fl M O R W _ H3.out.inn).mono ?_
    rintro e w4 ⟨va, rfl, hi4, hb4⟩
    have H4 := Lib.hid ((H3.out.step hb4).add hi4)
    have hg4 := H4.out.box
    clear hb4 hg3 hi4
    go_wp2_with ((with_reducible show wpList _ _ _ _ _ _); refine wpList_wanted rfl (wp_load_row 24 _ rfl w.heap.size rfl 24 _ (0, 0) _ (by assumption) Try.underlying24 rfl (by exact infoC) ?_))
    refine (told_any port vm vo vr vw lo ov re kn fl M O R W _ H4.out.inn).mono ?_
    rintro e w5 ⟨rfl, hb5⟩
    have H5 := Lib.hid (H4.out.step hb5)
    have hg5 := H5.out.box
    clear hb5 hg4
    go_wp2_with ((with_reducible show wpList _ _ _ _ _ _); refine wpList_wanted rfl (wp_load_row 24 _ rfl w.heap.size rfl 24 _ (0, 0) _ (by assumption) Try.underlying24 rfl (by exact infoC) ?_))
    refine (decide_any port vm vo vr vw lo ov re kn fl M O R W _ H5.out.inn).mono ?_
    rintro e w6 ⟨vb, rfl, hi6, hb6⟩
    have H6 := Lib.hid ((H5.out.step hb6).add hi6)
    have hg6 := H6.out.box
    clear hb6 hg5 hi6
    go_wp2_with ((with_reducible show wpList _ _ _ _ _ _); refine wpList_wanted rfl (wp_load_row 24 _ rfl w.heap.size rfl 24 _ (0, 0) _ (by assumption) Try.underlying24 rfl (by exact infoC) ?_))
    refine (rflood_any port vm vo vr vw lo ov re kn fl M O R W _ H6.out.inn).mono ?_
    rintro e w7 ⟨vc, rfl, hi7, hb7⟩
    have H7 := Lib.hid ((H6.out.step hb7).add hi7)
    have hg7 := H7.out.box
    clear hb7 hg6 hi7
    go_wp2_with ((with_reducible show wpList _ _ _ _ _ _); refine wpList_wanted rfl (wp_load_row 24 _ rfl w.heap.size rfl 24 _ (0, 0) _ (by assumption) Try.underlying24 rfl (by exact infoC) ?_))
    refine (same_any va vc _ _ _ (H7.out.ex (va, lFlood port M O) (by simp)) (H7.out.ex (vc, lFlood port M O) (by simp))).mono ?_
    rintro e w8 ⟨rfl, d8, rfl⟩
    have H8 := Lib.hid (H7.out.draws d8)
    have hg8 := H8.out.box
    clear hg7
    go_wp2_with ((with_reducible show wpList _ _ _ _ _ _); refine wpList_wanted rfl (wp_load_row 24 _ rfl w.heap.size rfl 24 _ (0, 0) _ (by assumption) Try.underlying24 rfl (by exact infoC) ?_))
    refine (rdecide_any port vm vo vr vw lo ov re kn fl M O R W _ H8.out.inn).mono ?_
    rintro e w9 ⟨vd, rfl, hi9, hb9⟩
    have H9 := Lib.hid ((H8.out.step hb9).add hi9)
    have hg9 := H9.out.box
    clear hb9 hg8 hi9
    go_wp2_with ((with_reducible show wpList _ _ _ _ _ _); refine wpList_wanted rfl (wp_load_row 24 _ rfl w.heap.size rfl 24 _ (0, 0) _ (by assumption) Try.underlying24 rfl (by exact infoC) ?_))
    refine (same_any vb vd _ _ _ (H9.out.ex (vb, lDecide port M O R W lo ov re kn fl) (by simp)) (H9.out.ex (vd, lDecide port M O R W lo ov re kn fl) (by simp))).mono ?_
    rintro e w10 ⟨rfl, d10, rfl⟩
    have H10 := Lib.hid (H9.out.draws d10)
    have hg10 := H10.out.box
    clear hg9
    go_wp2_with ((with_reducible show wpList _ _ _ _ _ _); refine wpList_wanted rfl (wp_load_row 24 _ rfl w.heap.size rfl 24 _ (0, 0) _ (by assumption) Try.underlying24 rfl (by exact infoC) ?_))
    refine (live_any _).mono ?_
    rintro e w11 ⟨rfl, hb11⟩
    have H11 := Lib.hid (H10.out.step hb11)
    clear hb11 hg10
    go_wp2
    go_ret
    exact ⟨rfl, H11.out.bel⟩
end Go.Proofs.Ytmjpjpdgejpeeaa
