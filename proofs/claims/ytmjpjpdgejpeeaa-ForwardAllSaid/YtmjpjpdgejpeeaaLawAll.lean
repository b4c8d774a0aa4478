/- The walk of ForwardAll. -/
import Derived.Test.YtmjpjpdgejpeeaaLawMore
import Derived.Deep.RegionLaw
namespace Go.Proofs.Ytmjpjpdgejpeeaa
open Go.RowKit Go.Sort

theorem lFlood_mem (port : Int) (M O O' : List Int) (h : ∀ x, x ∈ O' ↔ x ∈ O) : lFlood port M O' = lFlood port M O :=
  rising_eq _ _ (canon_rising _ _) (canon_rising _ _) (fun x => by unfold lFlood; rw [canon_mem, canon_mem, h])
theorem lDecide_mem (port : Int) (M O O' R W : List Int) (lo ov re kn fl : Bool) (h : ∀ x, x ∈ O' ↔ x ∈ O) : lDecide port M O' R W lo ov re kn fl = lDecide port M O R W lo ov re kn fl := by
  unfold lDecide; rw [lFlood_mem port M O O' h]
theorem lDecide_over (port : Int) (M O R W : List Int) (lo re kn fl : Bool) : lDecide port M O R W lo true re kn fl = lFlood port M O := by
  unfold lDecide; rw [if_pos (by simp)]

/-- every one twice, from behind -/
def dd (O : List Int) (j : Nat) : List Int := (O.drop j).reverse.flatMap fun x => [x, x]
theorem dd_end (O : List Int) : dd O O.length = [] := by simp [dd]
theorem dd_step (O : List Int) (j : Nat) (hj : j < O.length) : dd O j = dd O (j + 1) ++ [O.getD j 0, O.getD j 0] := by
  unfold dd
  rw [List.drop_eq_getElem_cons hj, List.reverse_cons, List.flatMap_append]
  simp [List.getD_eq_getElem?_getD, hj]
theorem dd_mem (O : List Int) (x : Int) : x ∈ dd O 0 ↔ x ∈ O := by simp [dd]
theorem dd_mem' {O : List Int} {j : Nat} {x : Int} (h : x ∈ dd O j) : x ∈ O := by
  unfold dd at h
  rw [List.mem_flatMap] at h
  obtain ⟨y, hy, hx⟩ := h
  rw [List.mem_reverse] at hy
  have : x = y := by simpa using hx
  subst this
  exact List.mem_of_mem_drop hy
theorem dd_len (O : List Int) (j : Nat) : (dd O j).length ≤ 2 * O.length := by
  unfold dd
  have : ∀ l : List Int, (l.flatMap fun x => [x, x]).length = 2 * l.length := by
    intro l; induction l with
    | nil => rfl
    | cons a l ih => simp [ih]; omega
  rw [this, List.length_reverse, List.length_drop]
  omega

theorem sliceOf_two {w : World} {b : Nat} {u v : Value} (h : w.cell? ⟨b, 0, none⟩ = some u) (h' : w.cell? ⟨b, 1, none⟩ = some v) (h1 : u.oneCell' = true) (h2 : v.oneCell' = true) (c : Nat) : SliceOf w 1 (.slice (some ⟨b, 0, none⟩) 2 c) 2 [u, v] := by
  refine ⟨_, _, rfl, rfl, by simp [h1, h2], .inr ⟨_, rfl, fun j x hj => ?_⟩⟩
  match j, hj with
  | 0, hj => simp at hj; subst hj; rw [add_lit]; simpa using h
  | 1, hj => simp at hj; subst hj; rw [add_lit]; simpa using h'

set_option maxHeartbeats 64000000 in
theorem law_all (port : Int) (vm vo vr vw : Value) (lo ov re kn fl : Bool) (M O R W : List Int) (w : World) (h : CaseIn w vm vo vr vw M O R W) :
    Calls Try.prog 7 #[.agg #[.int .i64 port, vm, vo, vr, vw, .bool lo, .bool ov, .bool re, .bool kn, .bool fl]] w (RetV w (.bool true)) := by
  obtain ⟨a1, c1, rfl⟩ := h.m.shape'
  obtain ⟨a2, c2, rfl⟩ := h.o.shape'
  obtain ⟨a3, c3, rfl⟩ := h.r.shape'
  obtain ⟨a4, c4, rfl⟩ := h.w.shape'
  obtain ⟨i0, hi, hz0, hz1, hz2⟩ := info_parts info3
  obtain ⟨_, _, hmo, _, _, _⟩ := h.o.facts
  have HWO := Lib.hid h.o.wf
  have H1 := Lib.hid (St.start (cs := #[.int .i64 port, .slice a1 M.length c1, (.slice a2 O.length c2), .slice a3 R.length c3, .slice a4 W.length c4, .bool lo, .bool ov, .bool re, .bool kn, .bool fl]) h)
  have hg1 := H1.out.box
  clear h
  cases hf : fewB M O R W
  · go_enter Try.func7, Try.ntmps7
    go_wp2_with ((with_reducible show wpList _ _ _ _ _ _); refine wpList_wanted rfl (wp_load_row 24 _ rfl w.heap.size rfl 24 _ (0, 0) _ (by assumption) Try.underlying24 rfl (by exact infoC) ?_))
    refine (few_any port (.slice a1 M.length c1) (.slice a2 O.length c2) (.slice a3 R.length c3) (.slice a4 W.length c4) lo ov re kn fl M O R W _ H1.out.inn).mono ?_
    rintro e w2 ⟨rfl, hb2⟩
    have H2 := Lib.hid (H1.out.step hb2)
    clear hb2 hg1
    go_wp2_with fail
    refine (live_any _).mono ?_
    rintro e w3 ⟨rfl, hb3⟩
    have H3 := Lib.hid (H2.out.step hb3)
    clear hb3
    go_wp2
    go_ret
    exact ⟨rfl, H3.out.bel⟩
  · have hf' := hf
    unfold fewB at hf'
    simp only [Bool.and_eq_true, decide_eq_true_eq] at hf'
    obtain ⟨_, ho40, _, _⟩ := hf'
    go_enter Try.func7, Try.ntmps7
    go_wp2_with ((with_reducible show wpList _ _ _ _ _ _); refine wpList_wanted rfl (wp_load_row 24 _ rfl w.heap.size rfl 24 _ (0, 0) _ (by assumption) Try.underlying24 rfl (by exact infoC) ?_))
    refine (few_any port (.slice a1 M.length c1) (.slice a2 O.length c2) (.slice a3 R.length c3) (.slice a4 W.length c4) lo ov re kn fl M O R W _ H1.out.inn).mono ?_
    rintro e w2 ⟨rfl, hb2⟩
    have H2 := Lib.hid (H1.out.step hb2)
    have hg2 := H2.out.box
    clear hb2 hg1
    go_wp2_with ((with_reducible show wpList _ _ _ _ _ _); refine wpList_wanted rfl (wp_load_row 24 _ rfl w.heap.size rfl 24 _ (0, 0) _ (by assumption) Try.underlying24 rfl (by exact infoC) ?_))
    refine (told_any port (.slice a1 M.length c1) (.slice a2 O.length c2) (.slice a3 R.length c3) (.slice a4 W.length c4) lo ov re kn fl M O R W _ H2.out.inn).mono ?_
    rintro e w3 ⟨rfl, hb3⟩
    have H3 := Lib.hid (H2.out.step hb3)
    have hg3 := H3.out.box
    clear hb3 hg2
    go_wp2_with fail
    refine (flood_any port (.slice a1 M.length c1) (.slice a2 O.length c2) (.slice a3 R.length c3) (.slice a4 W.length c4) lo ov re kn fl M O R W _ H3.out.inn).mono ?_
    rintro e w4 ⟨va, rfl, hi4, hb4⟩
    have H4 := Lib.hid ((H3.out.step hb4).add hi4)
    have hg4 := H4.out.box
    clear hb4 hg3 hi4
    go_wp2_with ((with_reducible show wpList _ _ _ _ _ _); refine wpList_wanted rfl (wp_load_row 24 _ rfl w.heap.size rfl 24 _ (0, 0) _ (by assumption) Try.underlying24 rfl (by exact infoC) ?_))
    refine (told_any port (.slice a1 M.length c1) (.slice a2 O.length c2) (.slice a3 R.length c3) (.slice a4 W.length c4) lo ov re kn fl M O R W _ H4.out.inn).mono ?_
    rintro e w5 ⟨rfl, hb5⟩
    have H5 := Lib.hid (H4.out.step hb5)
    clear hb5 hg4 hf
    -- d.Over
    go_upto_region 5 with fail
    obtain ⟨D0, hD0⟩ : ∃ D, D = w5.alloc (.cells #[.int .i64 port, .slice a1 M.length c1, (.slice a2 O.length c2), .slice a3 R.length c3, .slice a4 W.length c4, .bool lo, .bool ov, .bool re, .bool kn, .bool fl] 28) := ⟨_, rfl⟩
    rw [← hD0]
    have X0 := Lib.hid (show DBox D0 w5.heap.size #[.int .i64 port, .slice a1 M.length c1, (.slice a2 O.length c2), .slice a3 R.length c3, .slice a4 W.length c4, .bool lo, .bool ov, .bool re, .bool kn, .bool fl] by rw [hD0]; exact DBox.new _ rfl)
    have B0 := Lib.hid (show Below w5.heap.size w5 D0 by rw [hD0]; exact (Below.refl _ _).alloc (Nat.le_refl _) _)
    clear hD0
    obtain ⟨p0, p1⟩ := X0.out.at_ 6 _ rfl
    go_upto_region 6 with fail
    clear p0 p1
    obtain ⟨D1, hD1⟩ : ∃ D, D = D0.setCell ⟨w5.heap.size, 6, none⟩ (.bool true) := ⟨_, rfl⟩
    rw [← hD1]
    have X1 := Lib.hid (show DBox D1 w5.heap.size #[.int .i64 port, .slice a1 M.length c1, (.slice a2 O.length c2), .slice a3 R.length c3, .slice a4 W.length c4, .bool lo, .bool true, .bool re, .bool kn, .bool fl] by rw [hD1]; exact X0.out.set 6 _)
    have B1 := Lib.hid (show Below w5.heap.size w5 D1 by rw [hD1]; exact B0.out.setCell (Nat.le_refl _) _)
    clear hD1
    have H6 := Lib.hid (H5.out.step B1.out)
    have HD := decide_any port _ _ _ _ lo true re kn fl M O R W D1 H6.out.inn
    rw [lDecide_over] at HD
    have KD := Lib.hid HD
    have xd : D1.heap[w5.heap.size]? = some (.cells #[.int .i64 port, .slice a1 M.length c1, (.slice a2 O.length c2), .slice a3 R.length c3, .slice a4 W.length c4, .bool lo, .bool true, .bool re, .bool kn, .bool fl] 28 (0, 0)) := X1.out
    clear HD
    go_wp2_with ((with_reducible show wpList _ _ _ _ _ _); refine wpList_wanted rfl (wp_load_row 28 _ rfl w5.heap.size rfl 28 _ (0, 0) _ (by assumption) Try.underlying28 rfl (by exact infoD) ?_))
    refine KD.out.mono ?_
    rintro e w6 ⟨vb, rfl, hi6, hb6⟩
    have H7 := Lib.hid ((H6.out.step hb6).add hi6)
    have hg7 := H7.out.box
    clear hi6 hb6 xd
    go_wp2_with ((with_reducible show wpList _ _ _ _ _ _); refine wpList_wanted rfl (wp_load_row 24 _ rfl w.heap.size rfl 24 _ (0, 0) _ (by assumption) Try.underlying24 rfl (by exact infoC) ?_))
    refine (told_any port (.slice a1 M.length c1) (.slice a2 O.length c2) (.slice a3 R.length c3) (.slice a4 W.length c4) lo ov re kn fl M O R W _ H7.out.inn).mono ?_
    rintro e w7 ⟨rfl, hb7⟩
    have H8 := Lib.hid (H7.out.step hb7)
    clear hb7 hg7
    -- e.Open
    go_upto_region 8 with fail
    obtain ⟨D2, hD2⟩ : ∃ D, D = w7.alloc (.cells #[.int .i64 port, .slice a1 M.length c1, (.slice a2 O.length c2), .slice a3 R.length c3, .slice a4 W.length c4, .bool lo, .bool ov, .bool re, .bool kn, .bool fl] 28) := ⟨_, rfl⟩
    rw [← hD2]
    have X2 := Lib.hid (show DBox D2 w7.heap.size #[.int .i64 port, .slice a1 M.length c1, (.slice a2 O.length c2), .slice a3 R.length c3, .slice a4 W.length c4, .bool lo, .bool ov, .bool re, .bool kn, .bool fl] by rw [hD2]; exact DBox.new _ rfl)
    have B2 := Lib.hid (show Below w7.heap.size w7 D2 by rw [hD2]; exact (Below.refl _ _).alloc (Nat.le_refl _) _)
    clear hD2
    obtain ⟨p0, p1⟩ := X2.out.at_ 2 _ rfl
    go_upto_region 9 with fail
    clear p0 p1
    obtain ⟨D3, hD3⟩ : ∃ D, D = D2.setCell ⟨w7.heap.size, 2, none⟩ (.slice none 0 0) := ⟨_, rfl⟩
    rw [← hD3]
    have X3 := Lib.hid (show DBox D3 w7.heap.size #[.int .i64 port, .slice a1 M.length c1, (.slice none 0 0), .slice a3 R.length c3, .slice a4 W.length c4, .bool lo, .bool ov, .bool re, .bool kn, .bool fl] by rw [hD3]; exact X2.out.set 2 _)
    have B3 := Lib.hid (show Below w7.heap.size w7 D3 by rw [hD3]; exact B2.out.setCell (Nat.le_refl _) _)
    clear hD3
    have q2 := (H8.out.step B3.out).cell 2 (.slice a2 O.length c2) rfl
    go_wp2_with fail
    clear q2
    go_loopw [7] (fun i wr => ∃ j : Nat, ∃ v, j ≤ O.length ∧ i = .int .i64 ((j : Int) - 1) ∧ DBox wr w7.heap.size #[.int .i64 port, .slice a1 M.length c1, v, .slice a3 R.length c3, .slice a4 W.length c4, .bool lo, .bool ov, .bool re, .bool kn, .bool fl] ∧ wr.ownsRow (w7.heap.size + 1) 3 1 v (dd O j).length ((dd O j).map (Value.int .i64)) ∧ Below w7.heap.size w7 wr) (fun i _ => (intOf i + 1).toNat)
    case atStart => exact ⟨O.length, _, Nat.le_refl _, rfl, X3.out, by rw [dd_end]; exact World.ownsRow_nil _ _ _ _, B3.out⟩
    case round =>
      obtain ⟨j, v, hj, rfl, hbox, hown, hbel⟩ := hrel
      obtain ⟨vo', vc', rfl⟩ := own_form hown
      have HX := Lib.hid hbox; have HO := Lib.hid hown; have HB := Lib.hid hbel
      have hlt3 := hbox.lt
      have q2 := (H8.out.step hbel).cell 2 (.slice a2 O.length c2) rfl
      clear hbox hown
      by_cases hz : j = 0
      · subst hz
        have HS := Lib.hid (H8.out.step hbel)
        have IO := Lib.hid (show Ints wr (.slice vo' (dd O 0).length vc') (dd O 0) from Ints.own HO.out (by have := dd_len O 0; omega) (fun y hy => HWO.out y (dd_mem' hy)))
        have KX := Lib.hid (show ∀ W', Below wr.heap.size wr W' → Calls Try.prog 10 #[.agg #[.int .i64 port, .slice a1 M.length c1, (.slice vo' (dd O 0).length vc'), .slice a3 R.length c3, .slice a4 W.length c4, .bool lo, .bool ov, .bool re, .bool kn, .bool fl]] W' (RetInts W' (lFlood port M O)) from fun W' hb => by
          have := flood_any port _ _ _ _ lo ov re kn fl M (dd O 0) R W W' ⟨HS.out.inn.m.mono hb, IO.out.mono hb, HS.out.inn.r.mono hb, HS.out.inn.w.mono hb⟩
          rwa [lFlood_mem port M O (dd O 0) (dd_mem O)] at this)
        have KY := Lib.hid (show ∀ W', Below wr.heap.size wr W' → Calls Try.prog 12 #[.agg #[.int .i64 port, .slice a1 M.length c1, (.slice vo' (dd O 0).length vc'), .slice a3 R.length c3, .slice a4 W.length c4, .bool lo, .bool ov, .bool re, .bool kn, .bool fl]] W' (RetInts W' (lDecide port M O R W lo ov re kn fl)) from fun W' hb => by
          have := decide_any port _ _ _ _ lo ov re kn fl M (dd O 0) R W W' ⟨HS.out.inn.m.mono hb, IO.out.mono hb, HS.out.inn.r.mono hb, HS.out.inn.w.mono hb⟩
          rwa [lDecide_mem port M O (dd O 0) R W lo ov re kn fl (dd_mem O)] at this)
        generalize dd O 0 = OO at *
        have xe : wr.heap[w7.heap.size]? = some (.cells #[.int .i64 port, .slice a1 M.length c1, (.slice vo' OO.length vc'), .slice a3 R.length c3, .slice a4 W.length c4, .bool lo, .bool ov, .bool re, .bool kn, .bool fl] 28 (0, 0)) := HX.out
        clear q2
        go_wp2_with ((with_reducible show wpList _ _ _ _ _ _); refine wpList_wanted rfl (wp_load_row 28 _ rfl w7.heap.size rfl 28 _ (0, 0) _ (by assumption) Try.underlying28 rfl (by exact infoD) ?_))
        refine (KX.out wr (Below.refl _ _)).mono ?_
        rintro e w8 ⟨vx, rfl, hi8, hb8⟩
        have H9 := Lib.hid ((HS.out.step hb8).add hi8)
        have xe2 : w8.heap[w7.heap.size]? = some (.cells #[.int .i64 port, .slice a1 M.length c1, (.slice vo' OO.length vc'), .slice a3 R.length c3, .slice a4 W.length c4, .bool lo, .bool ov, .bool re, .bool kn, .bool fl] 28 (0, 0)) := HX.out.below hb8 HX.out.lt
        have B8 := Lib.hid hb8
        clear hi8 hb8 xe
        go_wp2_with ((with_reducible show wpList _ _ _ _ _ _); refine wpList_wanted rfl (wp_load_row 28 _ rfl w7.heap.size rfl 28 _ (0, 0) _ (by assumption) Try.underlying28 rfl (by exact infoD) ?_))
        refine (KY.out w8 B8.out).mono ?_
        rintro e w9 ⟨vy, rfl, hi9, hb9⟩
        have H10 := Lib.hid ((H9.out.step hb9).add hi9)
        have hg10 := H10.out.box
        clear hi9 hb9 xe2
        go_wp2_with ((with_reducible show wpList _ _ _ _ _ _); refine wpList_wanted rfl (wp_load_row 24 _ rfl w.heap.size rfl 24 _ (0, 0) _ (by assumption) Try.underlying24 rfl (by exact infoC) ?_))
        refine (told_any port (.slice a1 M.length c1) (.slice a2 O.length c2) (.slice a3 R.length c3) (.slice a4 W.length c4) lo ov re kn fl M O R W _ H10.out.inn).mono ?_
        rintro e w10 ⟨rfl, hb10⟩
        have H11 := Lib.hid (H10.out.step hb10)
        clear hb10 hg10
        go_wp2_with fail
        refine (decide_any port (.slice a1 M.length c1) (.slice a2 O.length c2) (.slice a3 R.length c3) (.slice a4 W.length c4) lo ov re kn fl M O R W _ H11.out.inn).mono ?_
        rintro e w11 ⟨vz, rfl, hi11, hb11⟩
        have H12 := Lib.hid ((H11.out.step hb11).add hi11)
        clear hi11 hb11
        go_wp2_with fail
        refine (same_any va vb _ _ _ (H12.out.ex (va, lFlood port M O) (by simp)) (H12.out.ex (vb, lFlood port M O) (by simp))).mono ?_
        rintro e w12 ⟨rfl, d12, rfl⟩
        have H13 := Lib.hid (H12.out.draws d12)
        go_wp2_with fail
        refine (same_any va vx _ _ _ (H13.out.ex (va, lFlood port M O) (by simp)) (H13.out.ex (vx, lFlood port M O) (by simp))).mono ?_
        rintro e w13 ⟨rfl, d13, rfl⟩
        have H14 := Lib.hid (H12.out.draws (d12 + d13))
        go_wp2_with fail
        refine (same_any vy vz _ _ _ (H14.out.ex (vy, lDecide port M O R W lo ov re kn fl) (by simp)) (H14.out.ex (vz, lDecide port M O R W lo ov re kn fl) (by simp))).mono ?_
        rintro e w14 ⟨rfl, d14, rfl⟩
        have H15 := Lib.hid (H12.out.draws (d12 + d13 + d14))
        go_wp2_with fail
        refine (live_any _).mono ?_
        rintro e w15 ⟨rfl, hb15⟩
        have H16 := Lib.hid (H15.out.step hb15)
        clear hb15
        go_wp2
        go_ret
        exact ⟨rfl, H16.out.bel⟩
      · obtain ⟨m, rfl⟩ : ∃ m, j = m + 1 := ⟨j - 1, by omega⟩
        obtain ⟨b, off, _, _, hidx, hc⟩ := (H8.out.step hbel).inn.o.facts
        have hp : ∀ w', (Instr.indexAt 22 (.slice a2 O.length c2) (.int .i64 (((m + 1 : Nat) : Int) - 1))).run Try.prog w' = .ok (.pointer (some ⟨b, off + m, none⟩)) w' := by
          have := hidx m (by omega)
          rwa [show (m : Int) = ((m + 1 : Nat) : Int) - 1 from by omega] at this
        have hpm := hidx m (by omega)
        have hcell := (hc m (by omega)).2
        have HDD := Lib.hid (dd_step O m (by omega))
        have hwx := HWO.out (O.getD m 0) (by rw [List.getD_eq_getElem?_getD, List.getElem?_eq_getElem (by omega : m < O.length)]; exact List.getElem_mem _)
        obtain ⟨x, hx⟩ : ∃ x, O.getD m 0 = x := ⟨_, rfl⟩
        rw [hx] at hcell HDD hwx
        have hlb := dd_len O (m + 1)
        generalize dd O (m + 1) = L0 at *
        obtain ⟨p0, p1⟩ := HX.out.at_ 2 _ rfl
        have hc3 : L0.length + 2 ≤ maxLen := by unfold maxLen; omega
        have hc4 : (L0.length + 2) * 8 ≤ 140737488355328 := by omega
        have T1 := Lib.hid (HO.out.alloc (.cells #[.int .i64 x, .int .i64 x] 3)).drew
        have T2 := Lib.hid (sliceOf_two (w := World.drew (wr.alloc (.cells #[.int .i64 x, .int .i64 x] 3))) (b := wr.heap.size) (u := .int .i64 x) (v := .int .i64 x) (by exact (cell_of_row _ wr.heap.size 0 _ _ (0, 0) (heap_alloc_new wr _)).trans rfl) (by exact (cell_of_row _ wr.heap.size 1 _ _ (0, 0) (heap_alloc_new wr _)).trans rfl) rfl rfl 2)
        have T3 := Lib.hid (show w7.heap.size + 1 ≤ (World.drew (wr.alloc (.cells #[.int .i64 x, .int .i64 x] 3))).heap.size by simp; omega)
        have T4 := Lib.hid (show DBox (World.drew (wr.alloc (.cells #[.int .i64 x, .int .i64 x] 3))) w7.heap.size #[.int .i64 port, .slice a1 M.length c1, (.slice vo' L0.length vc'), .slice a3 R.length c3, .slice a4 W.length c4, .bool lo, .bool ov, .bool re, .bool kn, .bool fl] from DBox.old HX.out (.cells #[.int .i64 x, .int .i64 x] 3))
        have ca : (wr.alloc (.cells #[.int .i64 x, .int .i64 x] 3)).cell? ⟨w7.heap.size, 2, none⟩ = some (.slice vo' L0.length vc') := ((DBox.old HX.out (.cells #[.int .i64 x, .int .i64 x] 3)).at_ 2 _ rfl).1
        clear hidx hc hx hz
        go_wp2
        go_region_law ((refine step_append_vals (by rfl) (.tmp 35) (.tmp 46) 22 (by rfl) (w7.heap.size + 1) 3 i0 (.int .i64 0) 1 8 Try.underlying22 hi hz0 hz1 hz2 rfl (by decide) (.slice vo' L0.length vc') L0.length (L0.map (Value.int .i64)) (by rfl) T1.out (.slice (some ⟨wr.heap.size, 0, none⟩) 2 2) 2 [.int .i64 x, .int .i64 x] (by rfl) T2.out hc3 hc4 T3.out ?_; intro v' w3 hown3 hg3 _; obtain ⟨ao', c', rfl⟩ := own_form hown3; have X3' := (T4.out.grown hg3 (fun e => own_box T1.out T4.out e.symm)); obtain ⟨z0, z1⟩ := X3'.at_ 2 _ rfl))
        all_goals
          go_wp2
          go_roundw
          case rel =>
            refine ⟨m, _, by omega, by go_num, X3'.set 2 _, ?_, (below_own ((HB.out.alloc HB.out.size (.cells #[.int .i64 x, .int .i64 x] 3)).drew) T1.out (Nat.le_succ _) (by have := HB.out.size; simp; omega) hg3).setCell (Nat.le_refl _) _⟩
            rw [HDD.out, List.length_append, List.map_append]
            exact ownsRow_setCell_below hown3 (Nat.lt_succ_self _) _
          case measure => simp [intOf] <;> omega
end Go.Proofs.Ytmjpjpdgejpeeaa
