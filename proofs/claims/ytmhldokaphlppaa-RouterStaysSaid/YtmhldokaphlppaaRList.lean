/- (*router.Ports).List: the rising list of the ports of a VLAN. -/
import Derived.Test.YtmhldokaphlppaaRMaps
import Derived.Test.YtmhldokaphlppaaCompact
import Derived.Maps.OwnOps
import Derived.Sort.OwnSortedInts
namespace Go.Proofs.Ytmhldokaphlppaa
open Go.RowKit Go.Maps Go.Sort

theorem info3 : (Try.prog.info? 3).map (fun i => (i.zero, i.size, i.bytes)) = some (some (.int .i64 0), 1, 8) := by kernel_rfl

noncomputable abbrev fixT := plainElem (H := Unit) Try.prog 4
noncomputable abbrev hrdT := plainElem (H := Unit) Try.prog 3

theorem own_below {P : Program} {k : TypeId} {R : Value → Option (DataW Unit × List MemPlace)} {w w' : World} {b n B : Nat} {D : DataW Unit} (h : w.ownsMap P k R b n D) (hb : Below B w w') (hlt : b < B) : w'.ownsMap P k R b n D := by
  obtain ⟨es, c, h1, r⟩ := h
  exact ⟨es, c, (hb.block b hlt).trans h1, r⟩

theorem own_kept0 {w w' : World} {base : Nat} {e : TypeId} {size : Nat} {v : Value} {n : Nat} {xs : List Value} (h : w.ownsRow base e size v n xs) (hg : w.grownBy w' none) : w'.ownsRow base e size v n xs :=
  h.kept hg (by cases hv : v.ownBlock; exact .inl rfl; exact .inr (by simp))

theorem cell_one_new2 (w : World) (o : Obj) (x : Value) (t : TypeId) : ∀ j u, [x][j]? = some u → ((w.alloc o).alloc (.cells #[x] t)).cell? ((⟨w.heap.size + 1, 0, none⟩ : Addr).add j) = some u := by
  have := cell_one_new (w.alloc o) x t
  rwa [show (w.alloc o).heap.size = w.heap.size + 1 from by simp] at this

set_option maxHeartbeats 4000000 in
set_option maxRecDepth 100000 in
theorem list_any (p bf bh nf nh : Nat) (age v now : Int) (F D : DataW Unit) (w : World) (hbox : w.heap[p]? = some (.cells #[.int .i64 age, .map (some bf), .map (some bh)] 43 (0, 0)))
    (hF : w.ownsMap Try.prog 45 fixT bf nf F) (hD : w.ownsMap Try.prog 45 hrdT bh nh D) (hn : nf + nh ≤ 1000) (hv : (Lit.int .i64 v).wf = true) :
    Calls Try.prog 8 #[.pointer (some ⟨p, 0, none⟩), .int .i64 v, .int .i64 now] w fun e w' => ∃ o L, e = .returned o ∧ Ints w' o L ∧ L.Pairwise (· < ·) ∧
      (∀ x, (Lit.int .i64 x).wf = true → (x ∈ L ↔ has F (plKey v x) = true ∨ fresh D age now (plKey v x) = true)) ∧ Below w.heap.size w w' := by
  obtain ⟨i0, hi, hz0, hz1, hz2⟩ := info_parts info3
  have hp : p < w.heap.size := (Array.getElem?_eq_some_iff.1 hbox).1
  have hbl := hF.lt
  have hbl' := hD.lt
  have hs1 := hF.size_le
  have hs2 := hD.size_le
  have c0 : w.cell? ⟨p, 0, none⟩ = some (.int .i64 age) := by simp [World.cell?, hbox]
  have c1 : w.cell? ⟨p, 1, none⟩ = some (.map (some bf)) := by simp [World.cell?, hbox]
  have c2 : w.cell? ⟨p, 2, none⟩ = some (.map (some bh)) := by simp [World.cell?, hbox]
  have HB := Lib.hid hbox
  clear hbox
  go_enter Try.func8, Try.ntmps8
  go_wp2_with (first
    | (at_range; refine wpList_range_own _ rfl _ 40 rfl 45 4 lawP Try.underlying40 _ bf nf _ rfl hF ?_; intro w0 hrg0 hg0 hs0)
    | go_in)
  go_frame
  go_loopw [7] (fun l wr => ∃ (left : Lit → Bool) (cnt : Nat) (L : List Int), wr.ranges Try.prog 45 fixT bf w.heap.size nf F left cnt ∧ L.length + cnt ≤ nf ∧
      wr.ownsRow w.heap.size 3 1 l L.length (L.map (Value.int .i64)) ∧ Coll F (fun _ => true) v left (fun _ => False) L ∧ Below w.heap.size w wr)
    (fun _ wr => wr.rangeLeft bf w.heap.size)
  case atStart =>
    exact ⟨_, _, [], hrg0, by simpa using hs1, World.ownsRow_nil _ _ _ _, coll_start F _ v _ [] (by simp) (by simp), (Below.refl _ _).grown hg0 (Nat.le_refl _) (fun j hj => by cases hj)⟩
  case round =>
    obtain ⟨left, cnt, L, hrg, hcs, hrow, hC, hnx⟩ := hrel
    go_wp2_with (first
      | (at_next; refine wpList_next_fixed _ rfl _ rfl bf w.heap.size nf _ _ _ rfl hrg ?_ ?_)
      | go_in)
    · intro hl0
      obtain ⟨hwL, hmL⟩ := coll_end hC hl0
      have hD' := own_below hD hnx hbl'
      have c0' := (hnx.cell (p := ⟨p, 0, none⟩) hp).trans c0
      have c2' := (hnx.cell (p := ⟨p, 2, none⟩) hp).trans c2
      clear hl0 hC hrg hrg0 hs0 hg0 c1 c2
      go_wp2_with (first
        | (at_range; refine wpList_range_own _ rfl _ 41 rfl 45 3 lawP Try.underlying41 _ bh nh _ rfl hD' ?_; intro w1 hrg1 hg1 hs1)
        | go_in)
      obtain ⟨wa, rfl⟩ : ∃ wa : World, wa = wr := ⟨_, rfl⟩
      have hrow1 := own_kept0 hrow hg1
      have hB1 : w.heap.size ≤ wa.heap.size := hnx.size
      have hbel1 := hnx.grown hg1 hB1 (fun j hj => by cases hj)
      have HM := Lib.hid hmL
      have hlen1 : L.length ≤ nf := by omega
      have hst := coll_start D (fresh D age now) v (fun x => has F (plKey v x) = true) L hwL (fun x hx => by simpa using hmL x hx)
      clear c0' c2' hmL hwL hs1 hg1 hD'
      go_loopw [7] (fun l wr => ∃ (left : Lit → Bool) (cnt : Nat) (L : List Int), wr.ranges Try.prog 45 hrdT bh wa.heap.size nh D left cnt ∧ L.length + cnt ≤ nf + nh ∧
          wr.ownsRow w.heap.size 3 1 l L.length (L.map (Value.int .i64)) ∧ Coll D (fresh D age now) v left (fun x => has F (plKey v x) = true) L ∧ Below w.heap.size w wr)
        (fun _ wr => wr.rangeLeft bh wa.heap.size)
      case atStart => exact ⟨_, _, L, hrg1, by omega, hrow1, hst, hbel1⟩
      case round =>
        clear hst hrg1 hrow1 hbel1 hrow hnx HM hlen1 hcs
        obtain ⟨left, cnt, L, hrg, hcs, hrow, hC, hnx⟩ := hrel
        go_wp2_with (first
          | (at_next; refine wpList_next_heard _ rfl _ rfl bh wa.heap.size nh _ _ _ rfl hrg ?_ ?_)
          | go_in)
        · intro hl0
          have HE := Lib.hid (coll_end hC hl0)
          have HS := Lib.hid (sorted_compact hrow (by omega) HE.out.1)
          have HG := Lib.hid (fun w' (hg : wr.grownBy w' u7.ownBlock) => hnx.grown hg hnx.size (fun j hj => (hrow.lt j hj).1))
          clear hl0 hC hrg hcs hrow hnx
          go_wp2_with (first
            | ((with_reducible refine HS.out.mono ?_); rintro e w2 ⟨rfl, hc⟩; have HC := Lib.hid hc; clear hc)
            | ((with_reducible refine HC.out.mono ?_); rintro e w3 ⟨o3, R, rfl, hi3, hr3, hm3, hg3⟩; have HR := Lib.hid (And.intro hi3 (And.intro hr3 (And.intro hm3 hg3))); clear hi3 hr3 hm3 hg3))
          go_ret
          obtain ⟨hi3, hr3, hm3, hg3⟩ := HR.out
          exact ⟨_, R, rfl, hi3, hr3, fun x hx => by rw [hm3, HE.out.2 x hx, fresh_has], HG.out _ hg3⟩
        · intro a q c w2 cnt2 wa' wq wc hhas hat hrg2 hlt hg2 hen
          have hrow2 := hrow.kept hg2 (Or.inr (row_ne_iter hrow hrg).symm)
          have hsz2 : w.heap.size ≤ w2.heap.size := Nat.le_trans hnx.size hg2.size
          have hbel2 := hnx.grown hg2 hnx.size (fun j hj => by cases hj; exact hB1)
          have hL3 : L.length + 1 ≤ maxLen := by unfold maxLen; omega
          have hL4 : (L.length + 1) * 8 ≤ 140737488355328 := by omega
          have hfr : fresh D age now (plKey a q) = decide (now < wrap64 (c + age)) := by simp [fresh, hat]
          have c0' : ∀ o, (w2.alloc o).cell? ⟨p, 0, none⟩ = some (.int .i64 age) := fun o => ((hbel2.alloc hsz2 o).cell (p := ⟨p, 0, none⟩) hp).trans c0
          by_cases hav : v = a
          · subst hav
            by_cases hnow : now < wrap64 (c + age)
            · have hC2 := coll_take hC hv wq hhas (by rw [hfr]; simpa using hnow)
              clear hC hat hfr
              go_wp2_with (first
                | (at_builtin; refine wpList_append_own _ rfl _ _ 30 rfl w.heap.size 3 i0 (.int .i64 0) 1 8 Try.underlying30 hi hz0 hz1 hz2 rfl (by decide) _ _ _ rfl ((hrow2.alloc _).alloc _) ⟨w2.heap.size + 1, 0, none⟩ 1 1 [.int .i64 q] rfl rfl (cell_one_new2 _ _ _ _) (ints_oneCell .i64 [q]) hL3 hL4 (by simp; omega) ?_; intro v' w3 hown3 hg3 _; go_frame)
                | go_in)
              have hrg3 := ((hrg2.alloc _).alloc _).kept hg3 (row_ne_low hrow2 hbl') (row_ne_iter hrow2 hrg2)
              go_roundw
              case rel =>
                exact ⟨_, cnt2, L ++ [q], hrg3, by simp; omega, by simpa using hown3, hC2, below_own ((hbel2.alloc hsz2 _).alloc (by simp; omega) _) ((hrow2.alloc _).alloc _) (Nat.le_refl _) (by simp; omega) hg3⟩
              case measure => rw [hrg3.left_eq, hrg.left_eq]; exact hlt
            · have hC2 := coll_skip hC hv wa' wq (fun _ => by rw [hfr]; simpa using hnow)
              have e2 : decide (now < wrap64 (c + age)) = false := by simpa using hnow
              clear hC hat hfr
              go_wp2
              have hrg3 := hrg2.alloc (.cells #[.int .i64 v, .int .i64 q] 45)
              go_roundw
              case rel =>
                exact ⟨_, cnt2, L, hrg3, by omega, hrow2.alloc _, hC2, hbel2.alloc hsz2 _⟩
              case measure => rw [hrg3.left_eq, hrg.left_eq]; exact hlt
          · have e1 : (a == v) = false := by simp; exact fun h => hav h.symm
            have hC2 := coll_skip hC hv wa' wq (fun h => absurd h.symm hav)
            clear hC hat hfr
            go_wp2
            have hrg3 := hrg2.alloc (.cells #[.int .i64 a, .int .i64 q] 45)
            go_roundw
            case rel =>
              exact ⟨_, cnt2, L, hrg3, by omega, hrow2.alloc _, hC2, hbel2.alloc hsz2 _⟩
            case measure => rw [hrg3.left_eq, hrg.left_eq]; exact hlt
    · intro a q c w2 cnt2 wa wq hhas hrg2 hlt hg2 hen
      have hrow2 := hrow.kept hg2 (Or.inr (row_ne_iter hrow hrg).symm)
      have hsz2 : w.heap.size ≤ w2.heap.size := Nat.le_trans hnx.size hg2.size
      have hbel2 := hnx.grown hg2 hnx.size (fun j hj => by cases hj; exact Nat.le_refl _)
      have hL3 : L.length + 1 ≤ maxLen := by unfold maxLen; omega
      have hL4 : (L.length + 1) * 8 ≤ 140737488355328 := by omega
      by_cases hav : v = a
      · subst hav
        have hC2 := coll_take hC hv wq hhas rfl
        clear hC hg0 hrg0 hs0
        go_wp2_with (first
          | (at_builtin; refine wpList_append_own _ rfl _ _ 30 rfl w.heap.size 3 i0 (.int .i64 0) 1 8 Try.underlying30 hi hz0 hz1 hz2 rfl (by decide) _ _ _ rfl ((hrow2.alloc _).alloc _) ⟨w2.heap.size + 1, 0, none⟩ 1 1 [.int .i64 q] rfl rfl (cell_one_new2 _ _ _ _) (ints_oneCell .i64 [q]) hL3 hL4 (by simp; omega) ?_; intro v' w3 hown3 hg3 _; go_frame)
          | go_in)
        have hrg3 := ((hrg2.alloc _).alloc _).kept hg3 (row_ne_low hrow2 hbl) (row_ne_iter hrow2 hrg2)
        go_roundw
        case rel =>
          exact ⟨_, cnt2, L ++ [q], hrg3, by simp; omega, by simpa using hown3, hC2, below_own ((hbel2.alloc hsz2 _).alloc (by simp; omega) _) ((hrow2.alloc _).alloc _) (Nat.le_refl _) (by simp; omega) hg3⟩
        case measure => rw [hrg3.left_eq, hrg.left_eq]; exact hlt
      · have e1 : (a == v) = false := by simp; exact fun h => hav h.symm
        have hC2 := coll_skip hC hv wa wq (fun h => absurd h.symm hav)
        clear hC hg0 hrg0 hs0
        go_wp2
        have hrg3 := hrg2.alloc (.cells #[.int .i64 a, .int .i64 q] 45)
        go_roundw
        case rel =>
          exact ⟨_, cnt2, L, hrg3, by omega, hrow2.alloc _, hC2, hbel2.alloc hsz2 _⟩
        case measure => rw [hrg3.left_eq, hrg.left_eq]; exact hlt
end Go.Proofs.Ytmhldokaphlppaa
