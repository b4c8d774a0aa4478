/- The walk of ForwardMore. -/
import Derived.Test.YtmjpjpdgejpeeaaMorePlain
namespace Go.Proofs.Ytmjpjpdgejpeeaa
open Go.RowKit Go.Sort

theorem Ints.shape' {w : World} {v : Value} {L : List Int} (h : Ints w v L) : ∃ a c, v = .slice a L.length c := by
  obtain ⟨ao, cap, b, off, rfl, _⟩ := h
  exact ⟨_, _, rfl⟩

theorem own_box {w : World} {base : Nat} {v : Value} {n : Nat} {xs : List Value} {b : Nat} {cs : Array Value} (h : w.ownsRow base 3 1 v n xs) (hd : DBox w b cs) : v.ownBlock ≠ some b := by
  have hd' : w.heap[b]? = some (.cells cs 28 (0, 0)) := hd
  rcases h.2 with ⟨rfl, _⟩ | ⟨g, cap, cur, rfl, _, hg, _⟩
  · simp [Value.ownBlock]
  · intro e
    have : g = b := by simpa [Value.ownBlock] using e
    subst this
    rw [hd'] at hg
    injection hg with hg
    injection hg with _ ht
    revert ht; decide

theorem St.cell {w w' : World} {cs : Array Value} {vm vo vr vw : Value} {M O R W : List Int} {xs : List (Value × List Int)} (h : St w w' cs vm vo vr vw M O R W xs) (i : Nat) (v : Value) (hi : cs[i]? = some v) : w'.cell? ⟨w.heap.size, i, none⟩ = some v := by
  have := h.box
  simp [World.cell?, this, hi]

theorem Ints.setBox {w : World} {v : Value} {L : List Int} (h : Ints w v L) {p : Addr} (hne : v.ownBlock ≠ some p.block) (u : Value) : Ints (w.setCell p u) v L := by
  obtain ⟨ao, cap, b, off, rfl, h0, h1, h2, h3⟩ := h
  refine ⟨ao, cap, b, off, rfl, h0, h1, h2, fun k hk => ?_⟩
  obtain ⟨hlt, hc⟩ := h3 k hk
  refine ⟨by simpa using hlt, ?_⟩
  have hb : b ≠ p.block := by
    rcases h0 with rfl | rfl
    · simp at hk
    · intro e; exact hne (by rw [← e]; rfl)
  rw [World.cell?_setCell_other w p _ u (fun e => hb (by have := congrArg Addr.block e; simp at this; omega))]
  exact hc

theorem box_one (w : World) (v : Value) (T : TypeId) : (w.alloc (.cells #[v] T)).cell? ⟨w.heap.size, 0, none⟩ = some v := by
  rw [cell_of_row _ w.heap.size 0 _ _ (0, 0) (heap_alloc_new w _)]; rfl

set_option maxHeartbeats 16000000 in
theorem law_more (port : Int) (vm vo vr vw : Value) (lo ov re kn fl : Bool) (M O R W : List Int) (port2 : Int) (w : World) (h : CaseIn w vm vo vr vw M O R W) (wi : (Lit.int .i64 port2).wf = true) :
    Calls Try.prog 6 #[.agg #[.int .i64 port, vm, vo, vr, vw, .bool lo, .bool ov, .bool re, .bool kn, .bool fl], .int .i64 port2] w (RetV w (.bool true)) := by
  obtain ⟨a1, c1, rfl⟩ := h.m.shape'
  obtain ⟨a2, c2, rfl⟩ := h.o.shape'
  obtain ⟨a3, c3, rfl⟩ := h.r.shape'
  obtain ⟨a4, c4, rfl⟩ := h.w.shape'
  obtain ⟨i0, hi, hz0, hz1, hz2⟩ := info_parts info3
  obtain ⟨_, _, hmr, _, _, _⟩ := h.r.facts
  obtain ⟨_, _, hmw, _, _, _⟩ := h.w.facts
  have HWR := Lib.hid h.r.wf
  have HWW := Lib.hid h.w.wf
  have HWI := Lib.hid wi
  have H1 := Lib.hid (St.start (cs := #[.int .i64 port, .slice a1 M.length c1, .slice a2 O.length c2, .slice a3 R.length c3, .slice a4 W.length c4, .bool lo, .bool ov, .bool re, .bool kn, .bool fl]) h)
  have hg1 := H1.out.box
  clear h wi
  cases hf : fewB M O R W
  · go_enter Try.func6, Try.ntmps6
    go_wp2_with ((with_reducible show wpList _ _ _ _ _ _); refine wpList_wanted rfl (wp_load_row 24 _ rfl w.heap.size rfl 24 _ (0, 0) _ (by assumption) Try.underlying24 rfl (by exact infoC) ?_))
    refine (few_any port (.slice a1 M.length c1) (.slice a2 O.length c2) (.slice a3 R.length c3) (.slice a4 W.length c4) lo ov re kn fl M O R W _ H1.out.inn).mono ?_
    rintro e w2 ⟨rfl, hb2⟩
    have H2 := Lib.hid (H1.out.step hb2)
    clear hb2 hg1
    go_wp2_with fail
    refine (live_any _).mono ?_
    rintro e w3 ⟨rfl, hb3⟩
    have H3 := Lib.hid (H2.out.step hb3)
    clear hb3
    go_wp2
    go_ret
    exact ⟨rfl, H3.out.bel⟩
  · have hf' := hf
    unfold fewB at hf'
    simp only [Bool.and_eq_true, decide_eq_true_eq] at hf'
    obtain ⟨_, _, hr40, hw40⟩ := hf'
    go_enter Try.func6, Try.ntmps6
    go_wp2_with ((with_reducible show wpList _ _ _ _ _ _); refine wpList_wanted rfl (wp_load_row 24 _ rfl w.heap.size rfl 24 _ (0, 0) _ (by assumption) Try.underlying24 rfl (by exact infoC) ?_))
    refine (few_any port (.slice a1 M.length c1) (.slice a2 O.length c2) (.slice a3 R.length c3) (.slice a4 W.length c4) lo ov re kn fl M O R W _ H1.out.inn).mono ?_
    rintro e w2 ⟨rfl, hb2⟩
    have H2 := Lib.hid (H1.out.step hb2)
    have hg2 := H2.out.box
    clear hb2 hg1
    go_wp2_with ((with_reducible show wpList _ _ _ _ _ _); refine wpList_wanted rfl (wp_load_row 24 _ rfl w.heap.size rfl 24 _ (0, 0) _ (by assumption) Try.underlying24 rfl (by exact infoC) ?_))
    refine (told_any port (.slice a1 M.length c1) (.slice a2 O.length c2) (.slice a3 R.length c3) (.slice a4 W.length c4) lo ov re kn fl M O R W _ H2.out.inn).mono ?_
    rintro e w3 ⟨rfl, hb3⟩
    have H3 := Lib.hid (H2.out.step hb3)
    have hg3 := H3.out.box
    clear hb3 hg2
    go_wp2_with fail
    refine (decide_any port (.slice a1 M.length c1) (.slice a2 O.length c2) (.slice a3 R.length c3) (.slice a4 W.length c4) lo ov re kn fl M O R W _ H3.out.inn).mono ?_
    rintro e w4 ⟨va, rfl, hi4, hb4⟩
    have H4 := Lib.hid ((H3.out.step hb4).add hi4)
    have hg4 := H4.out.box
    clear hb4 hg3 hi4
    go_wp2_with ((with_reducible show wpList _ _ _ _ _ _); refine wpList_wanted rfl (wp_load_row 24 _ rfl w.heap.size rfl 24 _ (0, 0) _ (by assumption) Try.underlying24 rfl (by exact infoC) ?_))
    refine (told_any port (.slice a1 M.length c1) (.slice a2 O.length c2) (.slice a3 R.length c3) (.slice a4 W.length c4) lo ov re kn fl M O R W _ H4.out.inn).mono ?_
    rintro e w5 ⟨rfl, hb5⟩
    have H5 := Lib.hid (H4.out.step hb5)
    clear hb5 hg4 hf
    go_upto_region 5 with fail
    obtain ⟨D0, hD0⟩ : ∃ D, D = w5.alloc (.cells #[.int .i64 port, .slice a1 M.length c1, .slice a2 O.length c2, .slice a3 R.length c3, .slice a4 W.length c4, .bool lo, .bool ov, .bool re, .bool kn, .bool fl] 28) := ⟨_, rfl⟩
    rw [← hD0]
    have X0 := Lib.hid (show DBox D0 w5.heap.size #[.int .i64 port, .slice a1 M.length c1, .slice a2 O.length c2, .slice a3 R.length c3, .slice a4 W.length c4, .bool lo, .bool ov, .bool re, .bool kn, .bool fl] by rw [hD0]; exact DBox.new _ rfl)
    have B0 := Lib.hid (show Below w5.heap.size w5 D0 by rw [hD0]; exact (Below.refl _ _).alloc (Nat.le_refl _) _)
    clear hD0
    -- Wants is struck
    obtain ⟨p0, p1⟩ := X0.out.at_ 4 _ rfl
    go_upto_region 6 with fail
    clear p0 p1
    obtain ⟨D1, hD1⟩ : ∃ D, D = D0.setCell ⟨w5.heap.size, 4, none⟩ (.slice none 0 0) := ⟨_, rfl⟩
    rw [← hD1]
    have X1 := Lib.hid (show DBox D1 w5.heap.size #[.int .i64 port, .slice a1 M.length c1, .slice a2 O.length c2, (.slice a3 R.length c3), (.slice none 0 0), .bool lo, .bool ov, .bool re, .bool kn, .bool fl] by rw [hD1]; exact X0.out.set 4 _)
    have B1 := Lib.hid (show Below w5.heap.size w5 D1 by rw [hD1]; exact B0.out.setCell (Nat.le_refl _) _)
    clear hD1
    -- all of c.Wants
    obtain ⟨p0, p1⟩ := X1.out.at_ 4 _ rfl
    have q4 := (H5.out.step B1.out).cell 4 (.slice a4 W.length c4) rfl
    have N1 := Lib.hid (World.ownsRow_nil D1 (w5.heap.size + 1) 3 1)
    have U1 := Lib.hid (H5.out.step B1.out).inn.w.sliceOf
    have z1 : w5.heap.size + 1 ≤ D1.heap.size := X1.out.lt
    go_upto_region 7 with (at_builtin; refine wpList_append_vals _ rfl _ _ 22 rfl (w5.heap.size + 1) 3 i0 (.int .i64 0) 1 8 Try.underlying22 hi hz0 hz1 hz2 rfl (by decide) (.slice none 0 0) 0 [] rfl N1.out _ W.length (W.map (Value.int .i64)) rfl U1.out (by unfold maxLen; omega) (by omega) z1 ?_; intro v6 w6 ho6 hg6 _; simp only [Nat.zero_add, List.nil_append] at ho6; obtain ⟨b6, c6, rfl⟩ := own_form ho6; have O6 := Lib.hid ho6; have B6 := Lib.hid (below_own (Below.refl (w5.heap.size + 1) _) N1.out (Nat.le_refl _) z1 hg6); obtain ⟨r0, r1⟩ := (X1.out.below B6.out (Nat.lt_succ_self _)).at_ 4 _ rfl; clear ho6 hg6)
    clear p0 p1 q4 r0 r1
    obtain ⟨D2, hD2⟩ : ∃ D, D = w6.setCell ⟨w5.heap.size, 4, none⟩ (.slice b6 W.length c6) := ⟨_, rfl⟩
    rw [← hD2]
    have X2 := Lib.hid (show DBox D2 w5.heap.size #[.int .i64 port, .slice a1 M.length c1, .slice a2 O.length c2, (.slice a3 R.length c3), (.slice b6 W.length c6), .bool lo, .bool ov, .bool re, .bool kn, .bool fl] by rw [hD2]; exact (X1.out.below B6.out (Nat.lt_succ_self _)).set 4 _)
    have B2 := Lib.hid (show Below w5.heap.size w5 D2 by rw [hD2]; exact (B1.out.trans (B6.out.mono (Nat.le_succ _))).setCell (Nat.le_refl _) _)
    have O2 := Lib.hid (show D2.ownsRow (w5.heap.size + 1) 3 1 (.slice b6 W.length c6) W.length (W.map (Value.int .i64)) by rw [hD2]; exact ownsRow_setCell_below O6.out (Nat.lt_succ_self _) _)
    clear hD2
    -- one more
    obtain ⟨p0, p1⟩ := X2.out.at_ 4 _ rfl
    have z2 : w5.heap.size + 1 ≤ D2.heap.size := X2.out.lt
    obtain ⟨WP, hWP⟩ : ∃ l, l = W ++ [port2] := ⟨_, rfl⟩
    have HWP := Lib.hid hWP
    clear hWP
    go_upto_region 8 with (at_builtin; refine wpList_append_keep _ rfl _ _ 22 rfl (w5.heap.size + 1) 3 i0 (.int .i64 0) 8 Try.underlying22 hi hz0 hz1 hz2 rfl _ W port2 rfl (O2.out.alloc _) D2.heap.size 1 rfl (box_one D2 _ _) (by omega) (by omega) (by simp; omega) HWW.out HWI.out ?_; intro v7 w7 _ hi7 hg7 ho7; rw [← HWP.out] at hi7 ho7; obtain ⟨b7, c7, rfl⟩ := own_form ho7; have O7 := Lib.hid ho7; have G7 := Lib.hid hg7; have X7 := Lib.hid ((X2.out.old (.cells #[.int .i64 port2] 3)).grown hg7 (fun e => own_box O2.out X2.out e.symm)); obtain ⟨r0, r1⟩ := X7.out.at_ 4 _ rfl; clear hi7 ho7 hg7)
    clear p0 p1 r0 r1
    obtain ⟨D3, hD3⟩ : ∃ D, D = w7.setCell ⟨w5.heap.size, 4, none⟩ (.slice b7 WP.length c7) := ⟨_, rfl⟩
    rw [← hD3]
    have X3 := Lib.hid (show DBox D3 w5.heap.size #[.int .i64 port, .slice a1 M.length c1, .slice a2 O.length c2, (.slice a3 R.length c3), (.slice b7 WP.length c7), .bool lo, .bool ov, .bool re, .bool kn, .bool fl] by rw [hD3]; exact X7.out.set 4 _)
    have B3 := Lib.hid (show Below w5.heap.size w5 D3 by rw [hD3]; exact (below_own (B2.out.alloc B2.out.size (.cells #[.int .i64 port2] 3)) (O2.out.alloc _) (Nat.le_succ _) (by simp; omega) G7.out).setCell (Nat.le_refl _) _)
    have O3 := Lib.hid (show D3.ownsRow (w5.heap.size + 1) 3 1 (.slice b7 WP.length c7) WP.length (WP.map (Value.int .i64)) by rw [hD3]; exact ownsRow_setCell_below O7.out (Nat.lt_succ_self _) _)
    clear hD3
    -- Routers is struck
    obtain ⟨p0, p1⟩ := X3.out.at_ 3 _ rfl
    go_upto_region 9 with fail
    clear p0 p1
    obtain ⟨D4, hD4⟩ : ∃ D, D = D3.setCell ⟨w5.heap.size, 3, none⟩ (.slice none 0 0) := ⟨_, rfl⟩
    rw [← hD4]
    have X4 := Lib.hid (show DBox D4 w5.heap.size #[.int .i64 port, .slice a1 M.length c1, .slice a2 O.length c2, (.slice none 0 0), (.slice b7 WP.length c7), .bool lo, .bool ov, .bool re, .bool kn, .bool fl] by rw [hD4]; exact X3.out.set 3 _)
    have B4 := Lib.hid (show Below w5.heap.size w5 D4 by rw [hD4]; exact B3.out.setCell (Nat.le_refl _) _)
    have O4 := Lib.hid (show D4.ownsRow (w5.heap.size + 1) 3 1 (.slice b7 WP.length c7) WP.length (WP.map (Value.int .i64)) by rw [hD4]; exact ownsRow_setCell_below O3.out (Nat.lt_succ_self _) _)
    clear hD4
    -- all of c.Routers
    obtain ⟨p0, p1⟩ := X4.out.at_ 3 _ rfl
    have q3 := (H5.out.step B4.out).cell 3 (.slice a3 R.length c3) rfl
    have N4 := Lib.hid (World.ownsRow_nil D4 D4.heap.size 3 1)
    have U4 := Lib.hid (H5.out.step B4.out).inn.r.sliceOf
    have z4 := X4.out.lt
    go_upto_region 10 with (at_builtin; refine wpList_append_vals _ rfl _ _ 22 rfl D4.heap.size 3 i0 (.int .i64 0) 1 8 Try.underlying22 hi hz0 hz1 hz2 rfl (by decide) (.slice none 0 0) 0 [] rfl N4.out _ R.length (R.map (Value.int .i64)) rfl U4.out (by unfold maxLen; omega) (by omega) (Nat.le_refl _) ?_; intro v8 w8 ho8 hg8 _; simp only [Nat.zero_add, List.nil_append] at ho8; obtain ⟨b8, c8, rfl⟩ := own_form ho8; have O8 := Lib.hid ho8; have B8 := Lib.hid (below_own (Below.refl D4.heap.size _) N4.out (Nat.le_refl _) (Nat.le_refl _) hg8); obtain ⟨r0, r1⟩ := (X4.out.below B8.out X4.out.lt).at_ 3 _ rfl; clear ho8 hg8)
    clear p0 p1 q3 r0 r1
    obtain ⟨D5, hD5⟩ : ∃ D, D = w8.setCell ⟨w5.heap.size, 3, none⟩ (.slice b8 R.length c8) := ⟨_, rfl⟩
    rw [← hD5]
    have X5 := Lib.hid (show DBox D5 w5.heap.size #[.int .i64 port, .slice a1 M.length c1, .slice a2 O.length c2, (.slice b8 R.length c8), (.slice b7 WP.length c7), .bool lo, .bool ov, .bool re, .bool kn, .bool fl] by rw [hD5]; exact (X4.out.below B8.out X4.out.lt).set 3 _)
    have B5 := Lib.hid (show Below w5.heap.size w5 D5 by rw [hD5]; exact (B4.out.trans (B8.out.mono B4.out.size)).setCell (Nat.le_refl _) _)
    have O5 := Lib.hid (show D5.ownsRow (w5.heap.size + 1) 3 1 (.slice b7 WP.length c7) WP.length (WP.map (Value.int .i64)) by rw [hD5]; exact ownsRow_setCell_below (own_below O4.out B8.out) (Nat.lt_succ_self _) _)
    have P5 := Lib.hid (show D5.ownsRow D4.heap.size 3 1 (.slice b8 R.length c8) R.length (R.map (Value.int .i64)) by rw [hD5]; exact ownsRow_setCell_below O8.out z4 _)
    have z5 : D4.heap.size ≤ D5.heap.size := by rw [hD5]; simpa using B8.out.size
    clear hD5
    -- e := d
    have xd : D5.heap[w5.heap.size]? = some (.cells #[.int .i64 port, .slice a1 M.length c1, .slice a2 O.length c2, (.slice b8 R.length c8), (.slice b7 WP.length c7), .bool lo, .bool ov, .bool re, .bool kn, .bool fl] 28 (0, 0)) := X5.out
    go_upto_region 11 with ((with_reducible show wpList _ _ _ _ _ _); refine wpList_wanted rfl (wp_load_row 28 _ rfl w5.heap.size rfl 28 _ (0, 0) _ (by assumption) Try.underlying28 rfl (by exact infoD) ?_))
    clear xd
    obtain ⟨D6, hD6⟩ : ∃ D, D = D5.alloc (.cells #[.int .i64 port, .slice a1 M.length c1, .slice a2 O.length c2, (.slice b8 R.length c8), (.slice b7 WP.length c7), .bool lo, .bool ov, .bool re, .bool kn, .bool fl] 28) := ⟨_, rfl⟩
    rw [← hD6]
    have X6 := Lib.hid (show DBox D6 w5.heap.size #[.int .i64 port, .slice a1 M.length c1, .slice a2 O.length c2, (.slice b8 R.length c8), (.slice b7 WP.length c7), .bool lo, .bool ov, .bool re, .bool kn, .bool fl] by rw [hD6]; exact X5.out.old _)
    have Y6 := Lib.hid (show DBox D6 D5.heap.size #[.int .i64 port, .slice a1 M.length c1, .slice a2 O.length c2, (.slice b8 R.length c8), (.slice b7 WP.length c7), .bool lo, .bool ov, .bool re, .bool kn, .bool fl] by rw [hD6]; exact DBox.new _ rfl)
    have B6' := Lib.hid (show Below w5.heap.size w5 D6 by rw [hD6]; exact B5.out.alloc B5.out.size _)
    have O6' := Lib.hid (show D6.ownsRow (w5.heap.size + 1) 3 1 (.slice b7 WP.length c7) WP.length (WP.map (Value.int .i64)) by rw [hD6]; exact O5.out.alloc _)
    have P6 := Lib.hid (show D6.ownsRow D4.heap.size 3 1 (.slice b8 R.length c8) R.length (R.map (Value.int .i64)) by rw [hD6]; exact P5.out.alloc _)
    have z6 : D4.heap.size ≤ D6.heap.size := by rw [hD6]; simp; omega
    have V4 := Lib.hid (show ∀ b, (Value.slice b7 WP.length c7).ownBlock = some b → b < D4.heap.size from fun b hb => (O4.out.lt b hb).2)
    clear hD6
    -- .. and one more router
    obtain ⟨p0, p1⟩ := Y6.out.at_ 3 _ rfl
    obtain ⟨RP, hRP⟩ : ∃ l, l = R ++ [port2] := ⟨_, rfl⟩
    have HRP := Lib.hid hRP
    clear hRP
    go_upto_region 12 with (at_builtin; refine wpList_append_keep _ rfl _ _ 22 rfl D4.heap.size 3 i0 (.int .i64 0) 8 Try.underlying22 hi hz0 hz1 hz2 rfl _ R port2 rfl (P6.out.alloc _) D6.heap.size 1 rfl (box_one D6 _ _) (by omega) (by omega) (by simp; omega) HWR.out HWI.out ?_; intro v9 w9 hk9 hi9 hg9 ho9; rw [← HRP.out] at hi9 ho9; obtain ⟨b9, c9, rfl⟩ := own_form ho9; have O9 := Lib.hid ho9; have G9 := Lib.hid hg9; have K9 := Lib.hid hk9; have X9 := Lib.hid ((X6.out.old (.cells #[.int .i64 port2] 3)).grown hg9 (fun e => own_box P6.out X6.out e.symm)); have Y9 := Lib.hid ((Y6.out.old (.cells #[.int .i64 port2] 3)).grown hg9 (fun e => own_box P6.out Y6.out e.symm)); obtain ⟨r0, r1⟩ := Y9.out.at_ 3 _ rfl; clear hi9 ho9 hg9 hk9)
    clear p0 p1 r0 r1
    obtain ⟨D7, hD7⟩ : ∃ D, D = w9.setCell ⟨D5.heap.size, 3, none⟩ (.slice b9 RP.length c9) := ⟨_, rfl⟩
    rw [← hD7]
    have hBd : w5.heap.size ≠ D5.heap.size := by have := X5.out.lt; omega
    have X7' := Lib.hid (show DBox D7 w5.heap.size #[.int .i64 port, .slice a1 M.length c1, .slice a2 O.length c2, (.slice b8 R.length c8), (.slice b7 WP.length c7), .bool lo, .bool ov, .bool re, .bool kn, .bool fl] by rw [hD7]; exact X9.out.far hBd _)
    have Y7 := Lib.hid (show DBox D7 D5.heap.size #[.int .i64 port, .slice a1 M.length c1, .slice a2 O.length c2, (.slice b9 RP.length c9), (.slice b7 WP.length c7), .bool lo, .bool ov, .bool re, .bool kn, .bool fl] by rw [hD7]; exact Y9.out.set 3 _)
    have B7 := Lib.hid (show Below w5.heap.size w5 D7 by
      rw [hD7]
      exact (below_own (B6'.out.alloc B6'.out.size (.cells #[.int .i64 port2] 3)) (P6.out.alloc _) (by have := B4.out.size; omega) (by have := B6'.out.size; simp; omega) G9.out).setCell (by have := B5.out.size; exact this) _)
    have I7W := Lib.hid (show Ints D7 (.slice b7 WP.length c7) WP by
      rw [hD7]
      have k1 : w9.ownsRow (w5.heap.size + 1) 3 1 (.slice b7 WP.length c7) WP.length (WP.map (Value.int .i64)) := (O6'.out.alloc (.cells #[.int .i64 port2] 3)).kept G9.out (by
        cases hv : (Value.slice b7 WP.length c7).ownBlock with
        | none => exact .inl rfl
        | some b =>
          refine .inr (fun e => ?_)
          have h1 := V4.out b hv
          have h2 := (P6.out.lt b e.symm).1
          omega)
      exact Ints.own (ownsRow_setCell_other k1 (own_box k1 Y9.out) _) (by rw [HWP.out]; simp; omega) (fun y hy => by
        rw [HWP.out] at hy
        rcases List.mem_append.1 hy with hy | hy
        · exact HWW.out y hy
        · rw [List.mem_singleton] at hy; subst hy; exact HWI.out))
    have I7R := Lib.hid (show Ints D7 (.slice b8 R.length c8) R by rw [hD7]; exact K9.out.setBox (own_box P6.out Y6.out) _)
    have I7P := Lib.hid (show Ints D7 (.slice b9 RP.length c9) RP by
      rw [hD7]
      exact Ints.own (ownsRow_setCell_other O9.out (own_box O9.out Y9.out) _) (by rw [HRP.out]; simp; omega) (fun y hy => by
        rw [HRP.out] at hy
        rcases List.mem_append.1 hy with hy | hy
        · exact HWR.out y hy
        · rw [List.mem_singleton] at hy; subst hy; exact HWI.out))
    clear hD7
    -- b := Decide(d)
    have H7 := Lib.hid (H5.out.step B7.out)
    obtain ⟨La, hLa⟩ : ∃ l, l = lDecide port M O R W lo ov re kn fl := ⟨_, rfl⟩
    obtain ⟨Lb, hLb⟩ : ∃ l, l = lDecide port M O R WP lo ov re kn fl := ⟨_, rfl⟩
    obtain ⟨Lf, hLf⟩ : ∃ l, l = lDecide port M O RP WP lo ov re kn fl := ⟨_, rfl⟩
    have HP := Lib.hid (show (∀ x ∈ La, x ∈ Lb ∧ x ∈ Lf) ∧ Lf.length ≤ La.length + 1 ∧ Lb.length ≤ Lf.length by rw [hLa, hLb, hLf, HWP.out, HRP.out]; exact lDecide_more port M O R W lo ov re kn fl port2)
    have IA := Lib.hid (show Ints D7 va La by rw [hLa]; exact H7.out.ex (va, lDecide port M O R W lo ov re kn fl) (by simp))
    have HDb := decide_any port _ _ _ _ lo ov re kn fl M O R WP D7 ⟨H7.out.inn.m, H7.out.inn.o, I7R.out, I7W.out⟩
    rw [← hLb] at HDb
    have HDf : ∀ W', Below D7.heap.size D7 W' → Calls Try.prog 12 #[.agg #[.int .i64 port, .slice a1 M.length c1, .slice a2 O.length c2, (.slice b9 RP.length c9), (.slice b7 WP.length c7), .bool lo, .bool ov, .bool re, .bool kn, .bool fl]] W' (RetInts W' Lf) := by
      rw [hLf]; exact fun W' hb => decide_any port _ _ _ _ lo ov re kn fl M O RP WP W' ⟨H7.out.inn.m.mono hb, H7.out.inn.o.mono hb, I7P.out.mono hb, I7W.out.mono hb⟩
    have KDb := Lib.hid HDb
    have KDf := Lib.hid HDf
    clear hLa hLb hLf HDb HDf
    have xd : D7.heap[w5.heap.size]? = some (.cells #[.int .i64 port, .slice a1 M.length c1, .slice a2 O.length c2, (.slice b8 R.length c8), (.slice b7 WP.length c7), .bool lo, .bool ov, .bool re, .bool kn, .bool fl] 28 (0, 0)) := X7'.out
    go_wp2_with ((with_reducible show wpList _ _ _ _ _ _); refine wpList_wanted rfl (wp_load_row 28 _ rfl w5.heap.size rfl 28 _ (0, 0) _ (by assumption) Try.underlying28 rfl (by exact infoD) ?_))
    refine KDb.out.mono ?_
    rintro e w10 ⟨vb, rfl, hi10, hb10⟩
    have xe : w10.heap[D5.heap.size]? = some (.cells #[.int .i64 port, .slice a1 M.length c1, .slice a2 O.length c2, (.slice b9 RP.length c9), (.slice b7 WP.length c7), .bool lo, .bool ov, .bool re, .bool kn, .bool fl] 28 (0, 0)) := Y7.out.below hb10 Y7.out.lt
    have T10 := Lib.hid (And.intro hi10 hb10)
    clear xd hi10 hb10
    go_wp2_with ((with_reducible show wpList _ _ _ _ _ _); refine wpList_wanted rfl (wp_load_row 28 _ rfl D5.heap.size rfl 28 _ (0, 0) _ (by assumption) Try.underlying28 rfl (by exact infoD) ?_))
    refine (KDf.out w10 T10.out.2).mono ?_
    rintro e w11 ⟨vf, rfl, hi11, hb11⟩
    have T11 := Lib.hid (And.intro hi11 hb11)
    clear xe hi11 hb11
    -- the loop
    obtain ⟨ba, oa, hma, hlen, hidx, hc⟩ := ((IA.out.mono T10.out.2).mono T11.out.2).facts
    have HB := Lib.hid (fun x => has_any vb Lb x w11 (T10.out.1.mono T11.out.2))
    have HF := Lib.hid (fun x => has_any vf Lf x w11 T11.out.1)
    obtain ⟨_, _, _, hlenb, _, _⟩ := (T10.out.1.mono T11.out.2).facts
    obtain ⟨_, _, _, hlenf, _, _⟩ := T11.out.1.facts
    have hle1 : (Lf.length : Int) ≤ (La.length : Int) + 1 := by have := HP.out.2.1; omega
    have hle2 : (Lb.length : Int) ≤ (Lf.length : Int) := by have := HP.out.2.2; omega
    go_wp2_with fail
    go_loop [10] (fun i => ∃ k : Nat, k ≤ La.length ∧ i = .int .i64 k) (fun i => La.length - (intOf i).toNat)
    case atStart => exact ⟨0, Nat.zero_le _, rfl⟩
    case round =>
      obtain ⟨k, hk, rfl⟩ := hrel
      by_cases hlt : k < La.length
      · have hp := hidx k hlt
        have hcell := (hc k hlt).2
        have hmem : La.getD k 0 ∈ La := by rw [List.getD_eq_getElem?_getD, List.getElem?_eq_getElem hlt]; exact List.getElem_mem hlt
        obtain ⟨h1, h2⟩ := HP.out.1 _ hmem
        have c1 := HB.out (La.getD k 0)
        have c2 := HF.out (La.getD k 0)
        rw [List.contains_iff_mem.2 h1] at c1
        rw [List.contains_iff_mem.2 h2] at c2
        obtain ⟨x, hx⟩ : ∃ x, La.getD k 0 = x := ⟨_, rfl⟩
        rw [hx] at hcell c1 c2
        have C1 := Lib.hid c1
        have C2 := Lib.hid c2
        clear hidx hc hmem h1 h2 c1 c2 hx
        go_wp2_with (first | ((with_reducible refine C1.out.mono ?_); rintro e w' ⟨rfl, rfl⟩) | ((with_reducible refine C2.out.mono ?_); rintro e w' ⟨rfl, rfl⟩))
        go_round
        case rel => exact ⟨k + 1, by omega, by go_num⟩
        case measure => simp [intOf]; omega
      · clear hidx hc
        go_wp2_with fail
        refine (live_any _).mono ?_
        rintro e w12 ⟨rfl, hb12⟩
        have T12 := Lib.hid hb12
        clear hb12
        go_wp2
        go_ret
        have hbb := (H7.out.bel.trans (T10.out.2.mono H7.out.bel.size))
        have hbc := hbb.trans (T11.out.2.mono hbb.size)
        exact ⟨rfl, hbc.trans (T12.out.mono hbc.size)⟩
end Go.Proofs.Ytmjpjpdgejpeeaa
