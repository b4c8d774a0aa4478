/- forward.Flood and forward.Decide, for every case: what they hand back, as rising lists. -/
import Derived.Test.YtmjpjpdgejpeeaaWhich
namespace Go.Proofs.Ytmjpjpdgejpeeaa
open Go.RowKit Go.Sort

/-- a case in memory: the ten cells of a box -/
def caseCells (port : Int) (vm vo vr vw : Value) (lo ov re kn fl : Bool) : Array Value :=
  #[.int .i64 port, vm, vo, vr, vw, .bool lo, .bool ov, .bool re, .bool kn, .bool fl]

def pFlood (port : Int) (M : List Int) (x : Int) : Bool := x != port && M.contains x

set_option maxHeartbeats 400000 in
theorem flood1_any (b : Nat) (port : Int) (vm : Value) (M : List Int) (x : Int) (w : World) (h0 : w.cell? ⟨b, 0, none⟩ = some (.int .i64 port)) (h1 : w.cell? ⟨b, 1, none⟩ = some vm) (hM : Ints w vm M) :
    Calls Try.prog 20 #[.int .i64 x, .pointer (some ⟨b, 0, none⟩)] w fun e w' => e = .returned (.bool (pFlood port M x)) ∧ w = w' := by
  by_cases hx : (x != port) = true
  · have HP := Lib.hid (show pFlood port M x = M.contains x by simp only [pFlood, hx, Bool.true_and])
    go_enter Try.func20, Try.ntmps20
    go_wp2_with ((with_reducible refine (contains_any _ M x _ hM).mono ?_); rintro e w' ⟨rfl, rfl⟩)
    go_ret
    exact ⟨ret_bool (by rw [HP.out]; simp), rfl⟩
  · have hx' : (x != port) = false := by simpa using hx
    have HP := Lib.hid (show pFlood port M x = false by simp only [pFlood, hx', Bool.false_and])
    clear hx
    go_enter Try.func20, Try.ntmps20
    go_wp2
    go_ret
    exact ⟨ret_bool (by rw [HP.out]), rfl⟩

def pDecide (R W : List Int) (kn : Bool) (x : Int) : Bool := R.contains x || (kn && W.contains x)

set_option maxHeartbeats 400000 in
theorem decide1_any (b : Nat) (vr vw : Value) (R W : List Int) (kn : Bool) (x : Int) (w : World) (h3 : w.cell? ⟨b, 3, none⟩ = some vr) (h4 : w.cell? ⟨b, 4, none⟩ = some vw) (h8 : w.cell? ⟨b, 8, none⟩ = some (.bool kn)) (hR : Ints w vr R) (hW : Ints w vw W) :
    Calls Try.prog 22 #[.int .i64 x, .pointer (some ⟨b, 0, none⟩)] w fun e w' => e = .returned (.bool (pDecide R W kn x)) ∧ w = w' := by
  have c1 := contains_any vr R x w hR
  have c2 := contains_any vw W x w hW
  cases hr : R.contains x
  · rw [hr] at c1
    cases kn
    · have HP := Lib.hid (show pDecide R W false x = false by simp only [pDecide, hr, Bool.false_and, Bool.or_false])
      have C1 := Lib.hid c1
      clear c1 c2 hr
      go_enter Try.func22, Try.ntmps22
      go_wp2_with ((with_reducible refine C1.out.mono ?_); rintro e w' ⟨rfl, rfl⟩)
      go_ret
      exact ⟨ret_bool (by rw [HP.out]), rfl⟩
    · have HP := Lib.hid (show pDecide R W true x = W.contains x by simp only [pDecide, hr, Bool.true_and, Bool.false_or])
      have C1 := Lib.hid c1
      have C2 := Lib.hid c2
      clear c1 c2 hr
      go_enter Try.func22, Try.ntmps22
      go_wp2_with (first | ((with_reducible refine C1.out.mono ?_); rintro e w' ⟨rfl, rfl⟩) | ((with_reducible refine C2.out.mono ?_); rintro e w' ⟨rfl, rfl⟩))
      go_ret
      exact ⟨ret_bool (by rw [HP.out]; simp), rfl⟩
  · rw [hr] at c1
    have HP := Lib.hid (show pDecide R W kn x = true by simp only [pDecide, hr, Bool.true_or])
    have C1 := Lib.hid c1
    clear c1 c2 hr
    go_enter Try.func22, Try.ntmps22
    go_wp2_with ((with_reducible refine C1.out.mono ?_); rintro e w' ⟨rfl, rfl⟩)
    go_ret
    exact ⟨ret_bool (by rw [HP.out]), rfl⟩

theorem callFunc20 (args : Array Value) (w : World) : (callFunc 20 args).run Try.prog w = .ok (.enter 20 args) w := by kernel_rfl
theorem callFunc22 (args : Array Value) (w : World) : (callFunc 22 args).run Try.prog w = .ok (.enter 22 args) w := by kernel_rfl

/-- the words of a case: the four lists -/
structure CaseIn (w : World) (vm vo vr vw : Value) (M O R W : List Int) : Prop where
  m : Ints w vm M
  o : Ints w vo O
  r : Ints w vr R
  w : Ints w vw W

theorem CaseIn.mono {w w' : World} {vm vo vr vw : Value} {M O R W : List Int} (h : CaseIn w vm vo vr vw M O R W) (hb : Below w.heap.size w w') : CaseIn w' vm vo vr vw M O R W :=
  ⟨h.m.mono hb, h.o.mono hb, h.r.mono hb, h.w.mono hb⟩

def lFlood (port : Int) (M O : List Int) : List Int := canon (pFlood port M) O

/-- the cells of a new block read as they were laid, in every world that has kept what was there -/
theorem box_cell {w w' : World} {c : Array Value} {t : TypeId} (hb : Below (w.alloc (.cells c t)).heap.size (w.alloc (.cells c t)) w') (j : Nat) (v : Value) (hj : c[j]? = some v) : w'.cell? ⟨w.heap.size, j, none⟩ = some v := by
  rw [hb.cell (p := ⟨w.heap.size, j, none⟩) (by simp)]
  rw [cell_of_row _ w.heap.size j c t (0, 0) (heap_alloc_new w _)]
  exact hj

theorem box_below {w w' : World} {o : Obj} (hb : Below (w.alloc o).heap.size (w.alloc o) w') : Below w.heap.size w w' :=
  ((Below.refl _ _).alloc (Nat.le_refl _) o).trans (hb.mono (by simp))

set_option maxHeartbeats 400000 in
theorem flood_any (port : Int) (vm vo vr vw : Value) (lo ov re kn fl : Bool) (M O R W : List Int) (w : World) (h : CaseIn w vm vo vr vw M O R W) :
    Calls Try.prog 10 #[.agg #[.int .i64 port, vm, vo, vr, vw, .bool lo, .bool ov, .bool re, .bool kn, .bool fl]] w (RetInts w (lFlood port M O)) := by
  have hb : Below w.heap.size w (w.alloc (.cells #[.int .i64 port, vm, vo, vr, vw, .bool lo, .bool ov, .bool re, .bool kn, .bool fl] 28)) := (Below.refl _ _).alloc (Nat.le_refl _) _
  have hin := h.mono hb
  have hc := which_any vo O 20 w.heap.size (pFlood port M) _ hin.o callFunc20 (fun x w' hb' => flood1_any _ port vm M x w' (box_cell hb' 0 _ rfl) (box_cell hb' 1 _ rfl) (hin.m.mono hb'))
  have H := Lib.hid hc
  clear h hb hin hc
  go_enter Try.func10, Try.ntmps10
  go_wp2_with fail
  refine H.out.mono ?_
  rintro e w' ⟨v, rfl, hi, hb⟩
  have HI := Lib.hid hi
  have HB := Lib.hid (box_below hb)
  clear hi hb
  go_wp2
  go_ret
  exact ⟨v, rfl, HI.out, HB.out⟩

def lDecide (port : Int) (M O R W : List Int) (lo ov re kn fl : Bool) : List Int :=
  if lo || ov || re || (!kn && fl) then lFlood port M O else canon (pDecide R W kn) (lFlood port M O)

set_option maxHeartbeats 2000000 in
theorem decide_any (port : Int) (vm vo vr vw : Value) (lo ov re kn fl : Bool) (M O R W : List Int) (w : World) (h : CaseIn w vm vo vr vw M O R W) :
    Calls Try.prog 12 #[.agg #[.int .i64 port, vm, vo, vr, vw, .bool lo, .bool ov, .bool re, .bool kn, .bool fl]] w (RetInts w (lDecide port M O R W lo ov re kn fl)) := by
  have hb : Below w.heap.size w (w.alloc (.cells #[.int .i64 port, vm, vo, vr, vw, .bool lo, .bool ov, .bool re, .bool kn, .bool fl] 28)) := (Below.refl _ _).alloc (Nat.le_refl _) _
  have hin := h.mono hb
  have H := Lib.hid (flood_any port vm vo vr vw lo ov re kn fl M O R W _ hin)
  have HN := Lib.hid hin
  clear h hb hin
  go_enter Try.func12, Try.ntmps12
  go_wp2_with fail
  refine H.out.mono ?_
  rintro e w' ⟨v, rfl, hi, hb⟩
  have HI := Lib.hid hi
  have HB := Lib.hid (box_below hb)
  have HH := Lib.hid hb
  have c5 := box_cell hb 5 (.bool lo) rfl
  have c6 := box_cell hb 6 (.bool ov) rfl
  have c7 := box_cell hb 7 (.bool re) rfl
  have c8 := box_cell hb 8 (.bool kn) rfl
  have c9 := box_cell hb 9 (.bool fl) rfl
  have hw := which_any v (lFlood port M O) 22 w.heap.size (pDecide R W kn) w' hi callFunc22 (fun x w'' hb' => decide1_any _ vr vw R W kn x w''
    (box_cell (hb.trans (hb'.mono hb.size)) 3 _ rfl) (box_cell (hb.trans (hb'.mono hb.size)) 4 _ rfl) (box_cell (hb.trans (hb'.mono hb.size)) 8 _ rfl) ((HN.out.r.mono hb).mono hb') ((HN.out.w.mono hb).mono hb'))
  have HW := Lib.hid hw
  clear hi hb hw
  clear H HN HH
  cases lo
  cases ov
  cases re
  cases kn
  cases fl
  all_goals
    go_wp2_with ((with_reducible refine HW.out.mono ?_); rintro e w2 ⟨v2, rfl, hi2, hb2⟩; have HI2 := Lib.hid hi2; have HB2 := Lib.hid hb2; clear hi2 hb2)
    go_ret
    first
    | exact ⟨_, rfl, HI2.out, HB.out.trans (HB2.out.mono HB.out.size)⟩
    | exact ⟨_, rfl, by simpa [lDecide] using HI.out, HB.out⟩
end Go.Proofs.Ytmjpjpdgejpeeaa
