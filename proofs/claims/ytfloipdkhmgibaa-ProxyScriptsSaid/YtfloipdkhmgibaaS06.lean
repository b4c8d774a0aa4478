/- Texts joined into one file: Fil5, Fil6, Fil7. -/
import Derived.Test.YtfloipdkhmgibaaS05
import Derived.Test.YtfloipdkhmgibaaS03
import Derived.Deep.RegionLaw
import Derived.Lib.QuietBelow
import Derived.Deep.DeepCutAuto

/- siphonref11.Norm, Not, both, Less. -/
namespace Go.Proofs.Ytfloipdkhmgibaa
open Go.RowKit Go.Lib Go.Sort
set_option maxRecDepth 20000
attribute [local go_sem ↓] Go.wp_at_zero Go.wp_at_succ

set_option maxHeartbeats 2000000 in
theorem rnorm_any (e1 : Bool) (v : Value) (A : List Str) (w : World) (hv : Strs w v A) :
    Calls Try.prog 38 #[.agg #[.bool e1, v]] w (RetFil w e1 (sasc A)) := by
  obtain ⟨ao, cap, rfl⟩ := hv.shape
  obtain ⟨W0, hW0⟩ : ∃ W0, W0 = (w.alloc (.cells #[.bool e1, .slice ao A.length cap] 28)).alloc (.cells #[.bool false, .slice none 0 0] 28) := ⟨_, rfl⟩
  have hb0 : Below w.heap.size w W0 := by rw [hW0]; exact ((Below.refl _ _).alloc (Nat.le_refl _) _).alloc (by simp) _
  have k0 : W0.cell? ⟨w.heap.size, 0, none⟩ = some (.bool e1) := by rw [hW0]; exact cell_alloc_old (by simp) (cell_alloc_new rfl rfl)
  have k1 : W0.cell? ⟨w.heap.size, 1, none⟩ = some (.slice ao A.length cap) := by rw [hW0]; exact cell_alloc_old (by simp) (cell_alloc_new rfl rfl)
  have HZ := Lib.hid (fun W' (hb : Below (w.heap.size + 1 + 1) W0 W') => zbox (B := w.heap.size + 1) (T := 28) (by rw [hW0]; exact heap_new _ _ _ (by simp)) hb)
  have HC := Lib.hid (srising_any _ A W0.drew ((hv.mono hb0).draws 1))
  have HK := Lib.hid (show ∀ W', Below (w.heap.size + 1) W0 W' → W'.cell? ⟨w.heap.size, 0, none⟩ = some (.bool e1) ∧ W'.cell? ⟨w.heap.size, 1, none⟩ = some (.slice ao A.length cap) from fun W' hb =>
    ⟨(hb.cell (p := ⟨w.heap.size, 0, none⟩) (by simp)).trans k0, (hb.cell (p := ⟨w.heap.size, 1, none⟩) (by simp)).trans k1⟩)
  have HB0 := Lib.hid hb0
  rw [hW0] at HC HZ HB0 HK
  generalize sasc A = R at HC ⊢
  clear hv k0 k1 hb0 hW0 W0
  go_enter Try.func38, Try.ntmps38
  go_wp2
  go_region_held3 (fun w' => w'.cell? ⟨w.heap.size, 0, none⟩ = some (.bool e1) ∧ w'.cell? ⟨w.heap.size, 1, none⟩ = some (.slice ao A.length cap)) (first | exact HK.out _ (Below.drew (Below.refl _ _)) | exact HK.out _ HB2.out | exact HK.out _ ((HB2.out.setCell (by simp <;> omega) _).setCell (by simp <;> omega) _)) (((with_reducible refine HC.out.mono ?_); rintro e w' ⟨o, rfl, ho, hb, hlo⟩; obtain ⟨oo, oc, rfl⟩ := ho.shape; have HL := Lib.hid (hlo.mono (lo' := w.heap.size + 2) (by simp)); have HB1 := Lib.hid ((Below.drew (Below.refl (w.heap.size + 1 + 1) _)).trans (hb.mono (B' := w.heap.size + 1 + 1) (by simp))); have HB2 := Lib.hid (HB1.out.mono (B' := w.heap.size + 1) (by omega)); have HH := Lib.hid ho; clear hb ho hlo; obtain ⟨z0, z1, z2, z3⟩ := HZ.out _ HB1.out))
  obtain ⟨r0, r1⟩ := cells_pair (w := w') (b := w.heap.size + 1) (v0 := .bool e1) (v1 := .slice oo R.length oc) z0 z1
  go_wp2
  exact bodyPost_ret (v := .agg #[.bool e1, .slice oo R.length oc]) (by simp [results, Try.results38, go_sem, r0, r1]) rfl ⟨_, rfl, (HH.out.far HL.out (by simp <;> omega) _).far HL.out (by simp <;> omega) _, HB0.out.trans ((HB1.out.mono (by omega)).setCell (by simp <;> omega) _ |>.setCell (by simp <;> omega) _), HL.out.mono (by omega)⟩

set_option maxHeartbeats 1000000 in
theorem both_any (e1 e2 : Bool) (v u : Value) (A B : List Str) (w : World) (hv : Strs w v A) (hu : Strs w u B) (hl : A.length + B.length ≤ 8796093022200) :
    Calls Try.prog 57 #[.agg #[.bool e1, v], .agg #[.bool e2, u]] w (RetStrs w (sasc (A ++ B))) := by
  obtain ⟨ao, cap, rfl⟩ := hv.shape
  obtain ⟨bo, bcap, rfl⟩ := hu.shape
  obtain ⟨i0, hi, hz0, hz1, hz2⟩ := info_parts infoAddr
  obtain ⟨W0, hW0⟩ : ∃ W0, W0 = (w.alloc (.cells #[.bool e1, .slice ao A.length cap] 28)).alloc (.cells #[.bool e2, .slice bo B.length bcap] 28) := ⟨_, rfl⟩
  have hb0 : Below w.heap.size w W0 := by rw [hW0]; exact ((Below.refl _ _).alloc (Nat.le_refl _) _).alloc (by simp) _
  have hs0 : W0.heap.size = w.heap.size + 2 := by rw [hW0]; simp
  have k1 : W0.cell? ⟨w.heap.size + 1, 1, none⟩ = some (.slice bo B.length bcap) := by rw [hW0]; exact cell_alloc_new (by simp) rfl
  have HV := Lib.hid (hv.mono hb0).sliceOf
  have HU := Lib.hid (fun W' (hb : Below w.heap.size w W') => (hu.mono hb).sliceOf)
  have HW := Lib.hid (show ∀ x ∈ A ++ B, x.length ≤ maxLen from fun x hx => (List.mem_append.1 hx).elim (hv.len x) (hu.len x))
  have HK := Lib.hid (show ∀ W', Below (w.heap.size + 2) W0 W' → W'.cell? ⟨w.heap.size + 1, 1, none⟩ = some (.slice bo B.length bcap) from fun W' hb => (hb.cell (p := ⟨w.heap.size + 1, 1, none⟩) (by simp)).trans k1)
  have HB0 := Lib.hid hb0
  have HN := Lib.hid (World.ownsRow_nil W0 (w.heap.size + 2) 44 1)
  rw [hW0] at HV HK HB0 HN
  clear hv hu hb0 hs0 k1 hW0 W0
  go_enter Try.func57, Try.ntmps57
  go_wp2_with (first | (at_builtin; refine wpList_append_vals _ rfl _ _ 26 rfl (w.heap.size + 2) 44 i0 (.string ⟨#[]⟩) 1 16 Try.underlying26 hi hz0 hz1 hz2 rfl (by decide) (.slice none 0 0) 0 [] rfl HN.out _ A.length (A.map encStr) rfl HV.out (by unfold maxLen; omega) (by omega) (by simp) ?_; intro v1 w1 hown1 hg1 _; have hb1 := below_own (Below.refl (w.heap.size + 2) _) HN.out (Nat.le_refl _) (by simp) hg1; have k1 := HK.out _ hb1; have hs1 := hb1.size; have HB1 := Lib.hid (HB0.out.trans (hb1.mono (Nat.le_add_right _ 2))); have HO1 := Lib.hid hown1; have HBB := Lib.hid hb1; clear hown1 hg1 hb1) | (at_builtin; refine wpList_append_vals _ rfl _ _ 26 rfl (w.heap.size + 2) 44 i0 (.string ⟨#[]⟩) 1 16 Try.underlying26 hi hz0 hz1 hz2 rfl (by decide) v1 _ _ rfl HO1.out _ B.length (B.map encStr) rfl (HU.out _ HB1.out) (by unfold maxLen; omega) (by omega) (by simp at hs1 ⊢; omega) ?_; intro v2 w2 hown2 hg2 _; have HS := Lib.hid (srising_any v2 (A ++ B) w2 (Strs.own (base := w.heap.size + 2) (e := 44) (by simpa using hown2) (by simp; omega) HW.out)); have HB2 := Lib.hid (below_own (HBB.out.mono (Nat.le_add_right _ 2)) HO1.out (Nat.le_add_right _ 2) (by simp at hs1 ⊢; omega) hg2); clear hown2 hg2) | ((with_reducible refine HS.out.mono ?_); rintro e w3 ⟨v3, rfl, hs3, hb3, hl3⟩; have HR := Lib.hid hs3; have HB3 := Lib.hid hb3; have HL := Lib.hid hl3; clear hs3 hb3 hl3))
  go_ret
  exact ⟨_, rfl, HR.out, (HB0.out.trans HB2.out).trans (HB3.out.mono (HB0.out.trans HB2.out).size), HL.out.mono (HB0.out.trans HB2.out).size⟩

set_option maxHeartbeats 2000000 in
theorem less_any (v u : Value) (A B : List Str) (w : World) (hv : Strs w v A) (hu : Strs w u B) :
    Calls Try.prog 62 #[v, u] w (RetStrs w ((sasc A).filter fun x => !B.contains x)) := by
  obtain ⟨i0, hi, hz0, hz1, hz2⟩ := info_parts infoAddr
  have HR := Lib.hid (srising_any v A w hv)
  have HW := Lib.hid (show ∀ x ∈ sasc A, x.length ≤ maxLen from fun x hx => hv.len x ((sasc_mem A x).1 hx))
  have HU := Lib.hid (fun x W (hb : Below w.heap.size w W) => shas_any u B x W (hu.mono hb))
  generalize sasc A = C at *
  obtain ⟨p, hp⟩ : ∃ p : Str → Bool, p = fun x => !B.contains x := ⟨_, rfl⟩
  have HP := Lib.hid (show ∀ x, p x = !B.contains x from fun x => by rw [hp])
  rw [← hp]
  clear hp
  clear hv hu
  go_enter Try.func62, Try.ntmps62
  go_wp2_with ((with_reducible refine HR.out.mono ?_); rintro e w1 ⟨o, rfl, hC, hb1, _⟩; obtain ⟨bb, off, hm, hlen, hidx, hcell⟩ := hC.facts)
  have HB1 := Lib.hid hb1
  clear hb1 hC HR
  go_loopw [5, 7] (fun l i wr => ∃ k : Nat, k ≤ C.length ∧ i = .int .i64 k ∧ wr.ownsRow w1.heap.size 44 1 l ((C.take k).filter p).length (((C.take k).filter p).map encStr) ∧ Below w1.heap.size w1 wr) (fun _ i _ => C.length - (intOf i).toNat)
  case atStart => exact ⟨0, Nat.zero_le _, rfl, World.ownsRow_nil _ _ _ _, Below.refl _ _⟩
  case round =>
    obtain ⟨k, hk, rfl, hown, hbel⟩ := hrel
    by_cases hlt : k < C.length
    · have hpk := hidx k hlt
      have hce := (hbel.cell (p := ⟨bb, off + k, none⟩) (hcell k hlt).1).trans (hcell k hlt).2
      obtain ⟨x, hx⟩ : ∃ x, x = C.getD k [] := ⟨_, rfl⟩
      rw [← hx, enc_bstr] at hce
      have hxk : C[k] = x := by rw [hx]; simp [List.getD_eq_getElem?_getD, hlt]
      have HT := Lib.hid (show (C.take (k + 1)).filter p = (C.take k).filter p ++ (if p x then [x] else []) by
        rw [take_snoc C k hlt, hxk, List.filter_append, List.filter_cons, List.filter_nil])
      have hfl : ((C.take k).filter p).length ≤ k := Nat.le_trans (List.length_filter_le _ _) (by simp; omega)
      have HX := Lib.hid (HU.out x wr (HB1.out.trans (hbel.mono HB1.out.size)))
      clear hidx hcell hx hxk
      cases hpx : B.contains x
      · rw [hpx] at HX
        have HE := Lib.hid (show (C.take (k + 1)).filter p = (C.take k).filter p ++ [x] by rw [HT.out, HP.out, hpx]; simp)
        clear hpx HT
        have hc3 : ((C.take k).filter p).length + 1 ≤ maxLen := by unfold maxLen; omega
        have hc4 : (((C.take k).filter p).length + 1) * 16 ≤ 140737488355328 := by omega
        have HO := Lib.hid hown
        have hsz := hbel.size
        clear hown hfl
        go_wp2_with (first | (at_builtin; refine wpList_append_own _ rfl _ _ 26 rfl w1.heap.size 44 i0 (.string ⟨#[]⟩) 1 16 Try.underlying26 hi hz0 hz1 hz2 rfl (by decide) _ _ _ rfl (HO.out.alloc _) ⟨wr.heap.size, 0, none⟩ 1 1 [.string (bstr x)] rfl rfl (cell_one_new _ _ _) (ones_str x) hc3 hc4 (by simp; omega) ?_; intro v' w3 hown3 hg3 _) | ((with_reducible refine HX.out.mono ?_); rintro e w2 ⟨rfl, rfl⟩))
        go_roundw
        case rel =>
          refine ⟨k + 1, by omega, by go_num, ?_, below_own (hbel.alloc hbel.size _) (HO.out.alloc _) (Nat.le_refl _) (by simp; omega) hg3⟩
          rw [HE.out, List.length_append, List.map_append]
          rw [← enc_bstr] at hown3
          exact hown3
        case measure => simp [intOf]; omega
      · rw [hpx] at HX
        have HE := Lib.hid (show (C.take (k + 1)).filter p = (C.take k).filter p by rw [HT.out, HP.out, hpx]; simp)
        clear hpx HT
        go_wp2_with ((with_reducible refine HX.out.mono ?_); rintro e w2 ⟨rfl, rfl⟩)
        go_roundw
        case rel => exact ⟨k + 1, by omega, by go_num, by rw [HE.out]; exact hown, hbel⟩
        case measure => simp [intOf]; omega
    · have HL := Lib.hid (show C.take k = C from List.take_of_length_le (by omega))
      rw [HL.out] at hown
      have hfl : (C.filter p).length ≤ C.length := List.length_filter_le _ _
      clear hidx hcell HL
      go_wp2
      go_ret
      exact ⟨_, rfl, Strs.own hown (by omega) (fun x hx => HW.out x (List.mem_filter.1 hx).1), HB1.out.trans (hbel.mono HB1.out.size), (Lies.own hown).mono HB1.out.size⟩
end Go.Proofs.Ytfloipdkhmgibaa

/- siphonref11.Or and And. -/
namespace Go.Proofs.Ytfloipdkhmgibaa
open Go.RowKit Go.Lib Go.Sort
set_option maxRecDepth 20000
attribute [local go_sem ↓] Go.wp_at_zero Go.wp_at_succ

/-- a filter's box, whole -/
def FBox (w : World) (b : Nat) (ex : Bool) (v : Value) : Prop := w.heap[b]? = some (.cells #[.bool ex, v] 28 (0, 0))

theorem FBox.facts {w : World} {b : Nat} {ex : Bool} {v : Value} (h : FBox w b ex v) : w.cell? ⟨b, 0, none⟩ = some (.bool ex) ∧ w.cell? ⟨b, 1, none⟩ = some v ∧ w.frozen? ⟨b, 0, none⟩ = false ∧ w.frozen? ⟨b, 1, none⟩ = false := by
  have h' : w.heap[b]? = some (.cells #[.bool ex, v] 28 (0, 0)) := h
  exact ⟨by simp [World.cell?, h'], by simp [World.cell?, h'], by simp [World.frozen?, h'], by simp [World.frozen?, h']⟩

theorem FBox.lt {w : World} {b : Nat} {ex : Bool} {v : Value} (h : FBox w b ex v) : b < w.heap.size := (Array.getElem?_eq_some_iff.1 h).1
theorem FBox.below {w w' : World} {b B : Nat} {ex : Bool} {v : Value} (h : FBox w b ex v) (hb : Below B w w') (hB : b < B) : FBox w' b ex v := (hb.block b hB).trans h
theorem FBox.grown {w w' : World} {b : Nat} {ex : Bool} {v : Value} {row : Option Nat} (h : FBox w b ex v) (hg : w.grownBy w' row) (hne : some b ≠ row) : FBox w' b ex v := (hg.block b h.lt hne).trans h
theorem FBox.set {w : World} {b : Nat} {ex : Bool} {v : Value} (h : FBox w b ex v) (u : Value) : FBox (w.setCell ⟨b, 1, none⟩ u) b ex u := by
  have h' : w.heap[b]? = some (.cells #[.bool ex, v] 28 (0, 0)) := h
  unfold FBox
  simp [World.setCell, Array.getElem?_modify, h']
theorem FBox.new {w : World} {b : Nat} (ex : Bool) (v : Value) (hb : b = w.heap.size) : FBox (w.alloc (.cells #[.bool ex, v] 28)) b ex v := heap_new _ _ _ hb
theorem FBox.old {w : World} {b : Nat} {ex : Bool} {v : Value} (h : FBox w b ex v) (o : Obj) : FBox (w.alloc o) b ex v := h.below ((Below.refl _ w).alloc (Nat.le_refl _) o) h.lt

theorem Strs.grown {w w' : World} {v : Value} {L : List Str} {row : Option Nat} (h : Strs w v L) (hg : w.grownBy w' row) (hne : ∀ b, v.ownBlock = some b → some b ≠ row) : Strs w' v L := by
  obtain ⟨ao, cap, b, off, rfl, h0, h1, h2, h3⟩ := h
  refine ⟨ao, cap, b, off, rfl, h0, h1, h2, fun k hk => ?_⟩
  obtain ⟨hlt, hc⟩ := h3 k hk
  refine ⟨Nat.lt_of_lt_of_le hlt hg.size, ?_⟩
  rw [World.cell?_of_block (w := w) (hg.block b hlt (hne b (by
    rcases h0 with rfl | rfl
    · simp at hk
    · rfl)))]
  exact hc

theorem radmitsB (e1 : Bool) (v : Value) (L : List Str) (x : Str) (w : World) (h : Strs w v L) :
    Calls Try.prog 58 #[.agg #[.bool e1, v], .string (bstr x)] w fun e w' => e = .returned (.bool (adm e1 L x)) ∧ Below w.heap.size w w' :=
  (radmits_any e1 v L x w h).mono fun _ _ ⟨a, _, b⟩ => ⟨a, below_of_boxed b⟩

theorem grown_more {w1 wr w2 w3 : World} {Bo : Nat} (hg : w1.grownBy wr (some Bo)) (hb : Below wr.heap.size wr w2) (o : Obj) {v : Value} (hl : Lies w1.heap.size v) (hg3 : ((w2.alloc o).drew).grownBy w3 v.ownBlock) (u : Value) : w1.grownBy (w3.setCell ⟨Bo, 1, none⟩ u) (some Bo) := by
  have h2 := grown_below hg hb
  have hs := h2.size
  refine ⟨hg3.os.trans h2.os, hg3.tape.trans h2.tape, hg3.output.trans h2.output, ?_, fun k hk hne => ?_⟩
  · have := hg3.size; simp at this ⊢; omega
  · rw [Below.heap_setCell w3 ⟨Bo, 1, none⟩ u k (fun e => hne (by rw [e]))]
    rw [hg3.block k (by simp; omega) (fun e => by have := hl k e.symm; omega)]
    exact (Below.heap_alloc w2 o k (by omega)).trans (h2.block k hk hne)

theorem below_rg {w wr : World} (h : Below w.heap.size w wr) {d : Nat} {os : Array Obj} : Below w.heap.size w (Sort.grow (redrawn wr d) os) :=
  h.trans ((below_regrown wr d os).mono h.size)

theorem sliceOf_one {w : World} {b : Nat} {u : Value} (h : w.cell? ⟨b, 0, none⟩ = some u) (h1 : u.oneCell' = true) (c : Nat) : SliceOf w 1 (.slice (some ⟨b, 0, none⟩) 1 c) 1 [u] := by
  refine ⟨_, _, rfl, rfl, by simpa using h1, .inr ⟨_, rfl, fun j x hj => ?_⟩⟩
  match j, hj with
  | 0, hj =>
    simp at hj; subst hj
    rw [add_lit]; simpa using h


set_option maxHeartbeats 8000000 in
theorem ror_any (e1 e2 : Bool) (v u : Value) (A B : List Str) (w : World) (hv : Strs w v A) (hu : Strs w u B) (hl : A.length + B.length ≤ 8796093022200) :
    Calls Try.prog 33 #[.agg #[.bool e1, v], .agg #[.bool e2, u]] w (RetFil w (e1 || e2) ((sasc (A ++ B)).filter (pMade (pOr e1 A e2 B) (e1 || e2)))) := by
  obtain ⟨ao, cap, rfl⟩ := hv.shape
  obtain ⟨bo, bcap, rfl⟩ := hu.shape
  obtain ⟨i0, hi, hz0, hz1, hz2⟩ := info_parts infoAddr
  obtain ⟨ex, hex⟩ : ∃ ex, ex = (e1 || e2) := ⟨_, rfl⟩
  obtain ⟨p, hp⟩ : ∃ p, p = pOr e1 A e2 B := ⟨_, rfl⟩
  rw [← hex, ← hp]
  obtain ⟨q, hq⟩ : ∃ q, q = pMade p ex := ⟨_, rfl⟩
  have HQ := Lib.hid (show ∀ x, q x = (p x != ex) from fun x => by rw [hq]; rfl)
  rw [← hq]
  clear hq
  obtain ⟨W0, hW0⟩ : ∃ W0, W0 = ((w.alloc (.cells #[.bool e1, .slice ao A.length cap] 28)).alloc (.cells #[.bool e2, .slice bo B.length bcap] 28)).alloc (.cells #[.bool false, .slice none 0 0] 28) := ⟨_, rfl⟩
  have hb0 : Below w.heap.size w W0 := by rw [hW0]; exact (((Below.refl _ _).alloc (Nat.le_refl _) _).alloc (by simp) _).alloc (by simp <;> omega) _
  have hs0 : W0.heap.size = w.heap.size + 3 := by rw [hW0]; simp
  obtain ⟨W1, hW1⟩ : ∃ W1, W1 = W0.alloc (.cells #[.bool ex, .slice none 0 0] 28) := ⟨_, rfl⟩
  have hb1 : Below w.heap.size w W1 := by rw [hW1]; exact hb0.alloc (by omega) _
  have hs1 : W1.heap.size = w.heap.size + 4 := by rw [hW1]; simp [hs0]
  have f0 : FBox W1 w.heap.size e1 (.slice ao A.length cap) := by rw [hW1, hW0]; exact (((FBox.new _ _ rfl).old _).old _).old _
  have f1 : FBox W1 (w.heap.size + 1) e2 (.slice bo B.length bcap) := by rw [hW1, hW0]; exact ((FBox.new _ _ (by simp)).old _).old _
  have f2 : FBox W1 (w.heap.size + 2) false (.slice none 0 0) := by rw [hW1, hW0]; exact (FBox.new _ _ (by simp)).old _
  have f3 : FBox W1 (w.heap.size + 3) ex (.slice none 0 0) := by rw [hW1]; exact FBox.new _ _ (by omega)
  have HC := Lib.hid (both_any e1 e2 _ _ A B W1 (hv.mono hb1) (hu.mono hb1) hl)
  have HA := Lib.hid (fun x W (hb : Below w.heap.size w W) => radmitsB e1 _ A x W (hv.mono hb))
  have HD := Lib.hid (fun x W (hb : Below w.heap.size w W) => radmitsB e2 _ B x W (hu.mono hb))
  have HP := Lib.hid hp
  have HEX := Lib.hid hex
  have HW := Lib.hid (show ∀ x ∈ sasc (A ++ B), x.length ≤ maxLen from fun x hx => (List.mem_append.1 ((sasc_mem _ x).1 hx)).elim (hv.len x) (hu.len x))
  have HF := Lib.hid (And.intro f0 (And.intro f1 (And.intro f2 f3)))
  have HS := Lib.hid hs1
  have HB := Lib.hid hb1
  have HW1 := Lib.hid hW1
  have HW0 := Lib.hid hW0
  generalize sasc (A ++ B) = C at *
  clear hv hu hb0 hb1 hs0 hs1 f0 f1 f2 f3 hp hex hW0 hW1
  go_enter Try.func33, Try.ntmps33
  go_upto_region 1 with fail
  go_cut [5] (fun s5 w' => s5 = .pointer (some ⟨w.heap.size + 3, 0, none⟩) ∧ W1 = w')
  case first =>
    clear HC HA HD HW HF HB HP
    have E := HEX.out
    have W := HW1.out
    rw [HW0.out] at W
    clear HEX HW1 HW0
    cases e1
    all_goals
      simp only [Bool.false_or, Bool.true_or] at E
      subst E
      have HV := Lib.hid W
      clear W
      go_wp2
      go_meet
      case rel => exact ⟨rfl, HV.out⟩
  case rest =>
    obtain ⟨rfl, rfl⟩ := hcut
    clear HW1 HW0
    obtain ⟨x0, x1, _, _⟩ := HF.out.1.facts
    obtain ⟨y0, y1, _, _⟩ := HF.out.2.1.facts
    go_wp2_with ((with_reducible refine HC.out.mono ?_); rintro e w1 ⟨o, rfl, hC, hb1, hlo⟩; obtain ⟨bb, off, hm, hlen, hidx, hcell⟩ := hC.facts)
    have HB1 := Lib.hid hb1
    have HL1 := Lib.hid hlo
    clear x0 x1 y0 y1 hb1 HC hlo
    have HC0 := Lib.hid hC
    clear hC hlen hidx hcell HEX
    go_loopw [7] (fun i wr => ∃ k : Nat, ∃ v, k ≤ C.length ∧ i = .int .i64 k ∧ FBox wr (w.heap.size + 3) ex v ∧ wr.ownsRow w1.heap.size 44 1 v ((C.take k).filter q).length (((C.take k).filter q).map encStr) ∧ w1.grownBy wr (some (w.heap.size + 3))) (fun i _ => C.length - (intOf i).toNat)
    case atStart => exact ⟨0, _, Nat.zero_le _, rfl, HF.out.2.2.2.below HB1.out (by rw [HS.out]; omega), World.ownsRow_nil _ _ _ _, World.grownBy.refl _ _⟩
    case round =>
      obtain ⟨k, v, hk, rfl, hbox, hown, hg⟩ := hrel
      have hne : ∀ b, o.ownBlock = some b → some b ≠ some (w.heap.size + 3) := fun b hb e => by have := HL1.out b hb; rw [HS.out] at this; injection e with e; omega
      obtain ⟨bb, off, _, hlen, hidx, hcell⟩ := (HC0.out.grown hg hne).facts
      have hsw : w.heap.size + 4 ≤ w1.heap.size := by have := HB1.out.size; rw [HS.out] at this; omega
      have hbw : Below w.heap.size w wr := (HB.out.trans (HB1.out.mono HB.out.size)).grown hg (by omega) (fun b hb => by injection hb with hb; omega)
      have g0 := (HF.out.1.below HB1.out (by rw [HS.out]; omega)).grown hg (by intro e; injection e; omega)
      have g1 := (HF.out.2.1.below HB1.out (by rw [HS.out]; omega)).grown hg (by intro e; injection e; omega)
      have HBW := Lib.hid hbw
      have HBD := Lib.hid (Below.drew hbw)
      have HBX := Lib.hid hbox
      have HO := Lib.hid hown
      have HG := Lib.hid hg
      have hsr := hg.size
      have hlt3 := hbox.lt
      clear hne hbw hbox hown hg
      by_cases hlt : k < C.length
      · obtain ⟨x, hx⟩ : ∃ x, x = C.getD k [] := ⟨_, rfl⟩
        have hce := (hcell k hlt).2
        have hbl := (hcell k hlt).1
        rw [← hx, enc_bstr] at hce
        have hp := hidx k hlt
        have hxk : C[k] = x := by rw [hx]; simp [List.getD_eq_getElem?_getD, hlt]
        have HT := Lib.hid (show (C.take (k + 1)).filter q = (C.take k).filter q ++ (if q x then [x] else []) by
          rw [take_snoc C k hlt, hxk, List.filter_append, List.filter_cons, List.filter_nil])
        have hfl : ((C.take k).filter q).length ≤ k := Nat.le_trans (List.length_filter_le _ _) (by simp; omega)
        have HK := Lib.hid (And.intro (fun d os => cell_regrown g0.facts.1 d os) (And.intro (fun d os => cell_regrown g0.facts.2.1 d os) (And.intro (fun d os => cell_regrown g1.facts.1 d os) (And.intro (fun d os => cell_regrown g1.facts.2.1 d os) (fun d os => cell_regrown hce d os)))))
        have HQX := Lib.hid (show q x = ((adm e1 A x || adm e2 B x) != ex) from by rw [HQ.out, HP.out]; rfl)
        have HCE := Lib.hid hce
        clear hidx hcell hx hxk g0 g1 hce
        have A1 := fun W hb => HA.out x W hb
        have A2 := fun W hb => HD.out x W hb
        cases h1 : adm e1 A x
        · cases h2 : adm e2 B x
          · skip
            rw [h1] at A1 HQX
            rw [h2] at A2 HQX
            have A1 := Lib.hid A1
            have A2 := Lib.hid A2
            clear h1 h2
            go_wp2
            obtain ⟨m0, m1, m2, m3, m4⟩ := HK.out
            refine wp_region_quiet_below (by kernel_rfl) (by kernel_rfl) ?_
            repeat (first | go_big_quiet_step ((first | (with_reducible exact Calls.regrown_of (A1.out _ (below_rg HBW.out))) | (with_reducible exact Calls.regrown_of (A2.out _ (below_rg HBW.out))))) | quiet_step ((first | (with_reducible exact Calls.regrown_of (A1.out _ (below_rg HBW.out))) | (with_reducible exact Calls.regrown_of (A2.out _ (below_rg HBW.out))))))
            refine wpQuiet_nil ?_
            intro _ hw'
            obtain ⟨⟨nd, nos⟩, hw''⟩ := hw'
            subst hw''
            have hb2 := below_regrown wr nd nos
            generalize grow (redrawn wr nd) nos = w2 at hb2 ⊢
            have X2 := HBX.out.below hb2 HBX.out.lt
            have c0 := X2.facts.1
            clear m0 m1 m2 m3 m4 A1 A2
            cases ex
            · have hqx : q x = false := HQX.out.trans (by simp)
              have HE := Lib.hid (show (C.take (k + 1)).filter q = (C.take k).filter q by rw [HT.out, hqx]; simp)
              clear hqx hp hfl
              have HX2 := Lib.hid X2; have HB2 := Lib.hid hb2; clear X2 hb2
              go_wp2
              go_roundw
              case rel => exact ⟨k + 1, v, by omega, by go_num, HX2.out, by rw [HE.out]; exact own_below HO.out HB2.out, grown_below HG.out HB2.out⟩
              case measure => simp [intOf]; omega
            · have hqx : q x = true := HQX.out.trans (by simp)
              have HE := Lib.hid (show (C.take (k + 1)).filter q = (C.take k).filter q ++ [x] by rw [HT.out, hqx]; simp)
              have hc3 : ((C.take k).filter q).length + 1 ≤ maxLen := by unfold maxLen; omega
              have hc4 : (((C.take k).filter q).length + 1) * 16 ≤ 140737488355328 := by omega
              have c1 := X2.facts.2.1
              have cx := (hb2.cell (p := ⟨bb, off + k, none⟩) hbl).trans HCE.out
              have hs2 := hb2.size
              have ca := cell_alloc_old (o := .cells #[.string (bstr x)] 44) X2.lt c1
              have HO2 := Lib.hid (own_below HO.out hb2)
              have HX2 := Lib.hid X2; have HB2 := Lib.hid hb2; clear X2 hb2 hqx hfl
              have T1 := Lib.hid (HO2.out.alloc (.cells #[.string (bstr x)] 44)).drew
              have T2 := Lib.hid (sliceOf_one (w := World.drew (w2.alloc (.cells #[.string (bstr x)] 44))) (b := w2.heap.size) (u := .string (bstr x)) (by exact cell_alloc_new (w := w2) rfl rfl) rfl 1)
              have T4 := Lib.hid (show FBox (World.drew (w2.alloc (.cells #[.string (bstr x)] 44))) (w.heap.size + 3) _ v from FBox.old HX2.out (.cells #[.string (bstr x)] 44))
              have T3 := Lib.hid (show w1.heap.size ≤ (World.drew (w2.alloc (.cells #[.string (bstr x)] 44))).heap.size by simp; omega)
              go_wp2
              go_region_law ((refine step_append_vals (by rfl) (.tmp 44) (.tmp 49) 26 (by rfl) w1.heap.size 44 i0 (.string ⟨#[]⟩) 1 16 Try.underlying26 hi hz0 hz1 hz2 rfl (by decide) v ((C.take k).filter q).length (((C.take k).filter q).map encStr) (by rfl) T1.out (.slice (some ⟨w2.heap.size, 0, none⟩) 1 1) 1 [.string (bstr x)] (by rfl) T2.out hc3 hc4 T3.out ?_; intro v' w3 hown3 hg3 _; obtain ⟨ao', c', rfl⟩ := own_form hown3; have X3 := (T4.out.grown hg3 (fun e => by have := Lies.own HO2.out _ e.symm; omega)); obtain ⟨z0, z1, z2, z3⟩ := X3.facts))
              all_goals
                go_wp2
                go_roundw
                case rel =>
                  refine ⟨k + 1, _, by omega, by go_num, X3.set _, ?_, grown_more HG.out HB2.out _ (Lies.own HO2.out) hg3 _⟩
                  rw [HE.out, List.length_append, List.map_append]
                  rw [← enc_bstr] at hown3
                  exact ownsRow_setCell_below hown3 (by show _ < w1.heap.size; simp; omega) _
                case measure => simp [intOf]; omega
          · skip
            rw [h1] at A1 HQX
            rw [h2] at A2 HQX
            have A1 := Lib.hid A1
            have A2 := Lib.hid A2
            clear h1 h2
            go_wp2
            obtain ⟨m0, m1, m2, m3, m4⟩ := HK.out
            refine wp_region_quiet_below (by kernel_rfl) (by kernel_rfl) ?_
            repeat (first | go_big_quiet_step ((first | (with_reducible exact Calls.regrown_of (A1.out _ (below_rg HBW.out))) | (with_reducible exact Calls.regrown_of (A2.out _ (below_rg HBW.out))))) | quiet_step ((first | (with_reducible exact Calls.regrown_of (A1.out _ (below_rg HBW.out))) | (with_reducible exact Calls.regrown_of (A2.out _ (below_rg HBW.out))))))
            refine wpQuiet_nil ?_
            intro _ hw'
            obtain ⟨⟨nd, nos⟩, hw''⟩ := hw'
            subst hw''
            have hb2 := below_regrown wr nd nos
            generalize grow (redrawn wr nd) nos = w2 at hb2 ⊢
            have X2 := HBX.out.below hb2 HBX.out.lt
            have c0 := X2.facts.1
            clear m0 m1 m2 m3 m4 A1 A2
            cases ex
            · have hqx : q x = true := HQX.out.trans (by simp)
              have HE := Lib.hid (show (C.take (k + 1)).filter q = (C.take k).filter q ++ [x] by rw [HT.out, hqx]; simp)
              have hc3 : ((C.take k).filter q).length + 1 ≤ maxLen := by unfold maxLen; omega
              have hc4 : (((C.take k).filter q).length + 1) * 16 ≤ 140737488355328 := by omega
              have c1 := X2.facts.2.1
              have cx := (hb2.cell (p := ⟨bb, off + k, none⟩) hbl).trans HCE.out
              have hs2 := hb2.size
              have ca := cell_alloc_old (o := .cells #[.string (bstr x)] 44) X2.lt c1
              have HO2 := Lib.hid (own_below HO.out hb2)
              have HX2 := Lib.hid X2; have HB2 := Lib.hid hb2; clear X2 hb2 hqx hfl
              have T1 := Lib.hid (HO2.out.alloc (.cells #[.string (bstr x)] 44)).drew
              have T2 := Lib.hid (sliceOf_one (w := World.drew (w2.alloc (.cells #[.string (bstr x)] 44))) (b := w2.heap.size) (u := .string (bstr x)) (by exact cell_alloc_new (w := w2) rfl rfl) rfl 1)
              have T4 := Lib.hid (show FBox (World.drew (w2.alloc (.cells #[.string (bstr x)] 44))) (w.heap.size + 3) _ v from FBox.old HX2.out (.cells #[.string (bstr x)] 44))
              have T3 := Lib.hid (show w1.heap.size ≤ (World.drew (w2.alloc (.cells #[.string (bstr x)] 44))).heap.size by simp; omega)
              go_wp2
              go_region_law ((refine step_append_vals (by rfl) (.tmp 44) (.tmp 49) 26 (by rfl) w1.heap.size 44 i0 (.string ⟨#[]⟩) 1 16 Try.underlying26 hi hz0 hz1 hz2 rfl (by decide) v ((C.take k).filter q).length (((C.take k).filter q).map encStr) (by rfl) T1.out (.slice (some ⟨w2.heap.size, 0, none⟩) 1 1) 1 [.string (bstr x)] (by rfl) T2.out hc3 hc4 T3.out ?_; intro v' w3 hown3 hg3 _; obtain ⟨ao', c', rfl⟩ := own_form hown3; have X3 := (T4.out.grown hg3 (fun e => by have := Lies.own HO2.out _ e.symm; omega)); obtain ⟨z0, z1, z2, z3⟩ := X3.facts))
              all_goals
                go_wp2
                go_roundw
                case rel =>
                  refine ⟨k + 1, _, by omega, by go_num, X3.set _, ?_, grown_more HG.out HB2.out _ (Lies.own HO2.out) hg3 _⟩
                  rw [HE.out, List.length_append, List.map_append]
                  rw [← enc_bstr] at hown3
                  exact ownsRow_setCell_below hown3 (by show _ < w1.heap.size; simp; omega) _
                case measure => simp [intOf]; omega
            · have hqx : q x = false := HQX.out.trans (by simp)
              have HE := Lib.hid (show (C.take (k + 1)).filter q = (C.take k).filter q by rw [HT.out, hqx]; simp)
              clear hqx hp hfl
              have HX2 := Lib.hid X2; have HB2 := Lib.hid hb2; clear X2 hb2
              go_wp2
              go_roundw
              case rel => exact ⟨k + 1, v, by omega, by go_num, HX2.out, by rw [HE.out]; exact own_below HO.out HB2.out, grown_below HG.out HB2.out⟩
              case measure => simp [intOf]; omega
        · skip
          rw [h1] at A1 HQX
          have A1 := Lib.hid A1
          clear h1
          go_wp2
          obtain ⟨m0, m1, m2, m3, m4⟩ := HK.out
          refine wp_region_quiet_below (by kernel_rfl) (by kernel_rfl) ?_
          repeat (first | go_big_quiet_step ((with_reducible exact Calls.regrown_of (A1.out _ (below_rg HBW.out)))) | quiet_step ((with_reducible exact Calls.regrown_of (A1.out _ (below_rg HBW.out)))))
          refine wpQuiet_nil ?_
          intro _ hw'
          obtain ⟨⟨nd, nos⟩, hw''⟩ := hw'
          subst hw''
          have hb2 := below_regrown wr nd nos
          generalize grow (redrawn wr nd) nos = w2 at hb2 ⊢
          have X2 := HBX.out.below hb2 HBX.out.lt
          have c0 := X2.facts.1
          clear m0 m1 m2 m3 m4 A1
          cases ex
          · have hqx : q x = true := HQX.out.trans (by simp)
            have HE := Lib.hid (show (C.take (k + 1)).filter q = (C.take k).filter q ++ [x] by rw [HT.out, hqx]; simp)
            have hc3 : ((C.take k).filter q).length + 1 ≤ maxLen := by unfold maxLen; omega
            have hc4 : (((C.take k).filter q).length + 1) * 16 ≤ 140737488355328 := by omega
            have c1 := X2.facts.2.1
            have cx := (hb2.cell (p := ⟨bb, off + k, none⟩) hbl).trans HCE.out
            have hs2 := hb2.size
            have ca := cell_alloc_old (o := .cells #[.string (bstr x)] 44) X2.lt c1
            have HO2 := Lib.hid (own_below HO.out hb2)
            have HX2 := Lib.hid X2; have HB2 := Lib.hid hb2; clear X2 hb2 hqx hfl
            have T1 := Lib.hid (HO2.out.alloc (.cells #[.string (bstr x)] 44)).drew
            have T2 := Lib.hid (sliceOf_one (w := World.drew (w2.alloc (.cells #[.string (bstr x)] 44))) (b := w2.heap.size) (u := .string (bstr x)) (by exact cell_alloc_new (w := w2) rfl rfl) rfl 1)
            have T4 := Lib.hid (show FBox (World.drew (w2.alloc (.cells #[.string (bstr x)] 44))) (w.heap.size + 3) _ v from FBox.old HX2.out (.cells #[.string (bstr x)] 44))
            have T3 := Lib.hid (show w1.heap.size ≤ (World.drew (w2.alloc (.cells #[.string (bstr x)] 44))).heap.size by simp; omega)
            go_wp2
            go_region_law ((refine step_append_vals (by rfl) (.tmp 44) (.tmp 49) 26 (by rfl) w1.heap.size 44 i0 (.string ⟨#[]⟩) 1 16 Try.underlying26 hi hz0 hz1 hz2 rfl (by decide) v ((C.take k).filter q).length (((C.take k).filter q).map encStr) (by rfl) T1.out (.slice (some ⟨w2.heap.size, 0, none⟩) 1 1) 1 [.string (bstr x)] (by rfl) T2.out hc3 hc4 T3.out ?_; intro v' w3 hown3 hg3 _; obtain ⟨ao', c', rfl⟩ := own_form hown3; have X3 := (T4.out.grown hg3 (fun e => by have := Lies.own HO2.out _ e.symm; omega)); obtain ⟨z0, z1, z2, z3⟩ := X3.facts))
            all_goals
              go_wp2
              go_roundw
              case rel =>
                refine ⟨k + 1, _, by omega, by go_num, X3.set _, ?_, grown_more HG.out HB2.out _ (Lies.own HO2.out) hg3 _⟩
                rw [HE.out, List.length_append, List.map_append]
                rw [← enc_bstr] at hown3
                exact ownsRow_setCell_below hown3 (by show _ < w1.heap.size; simp; omega) _
              case measure => simp [intOf]; omega
          · have hqx : q x = false := HQX.out.trans (by simp)
            have HE := Lib.hid (show (C.take (k + 1)).filter q = (C.take k).filter q by rw [HT.out, hqx]; simp)
            clear hqx hp hfl
            have HX2 := Lib.hid X2; have HB2 := Lib.hid hb2; clear X2 hb2
            go_wp2
            go_roundw
            case rel => exact ⟨k + 1, v, by omega, by go_num, HX2.out, by rw [HE.out]; exact own_below HO.out HB2.out, grown_below HG.out HB2.out⟩
            case measure => simp [intOf]; omega

      · obtain rfl : k = C.length := by omega
        have HL := Lib.hid (show C.take C.length = C from List.take_of_length_le (Nat.le_refl _))
        have hown := HO.out
        rw [HL.out] at hown
        have hfl : (C.filter q).length ≤ C.length := List.length_filter_le _ _
        obtain ⟨vo, vc, rfl⟩ := own_form hown
        have HST := Lib.hid (Strs.own hown (by omega) (fun x hx => HW.out x (List.mem_filter.1 hx).1))
        have HLI := Lib.hid (Lies.own hown)
        obtain ⟨_, c0, c1, _⟩ := And.intro trivial HBX.out.facts
        have g2 := (HF.out.2.2.1.below HB1.out (by rw [HS.out]; omega)).grown HG.out (by intro e; injection e; omega)
        obtain ⟨z0, z1, z2, z3⟩ := g2.facts
        obtain ⟨r0, r1⟩ := cells_pairA (w := wr) (b := w.heap.size + 1 + 1) z0 z1
        clear hidx hcell hown g0 g1 g2
        go_wp2
        exact bodyPost_ret (v := .agg #[.bool ex, .slice vo (C.filter q).length vc]) (by simp [results, Try.results33, go_sem, r0, r1]) rfl ⟨_, rfl, (HST.out.far HLI.out (by simp; omega) _).far HLI.out (by simp; omega) _, (HBW.out.setCell (by simp <;> omega) _).setCell (by simp <;> omega) _, HLI.out.mono (by omega)⟩

end Go.Proofs.Ytfloipdkhmgibaa

/- siphonlaw11.copied and same. -/
namespace Go.Proofs.Ytfloipdkhmgibaa
open Go.RowKit Go.Lib Go.Sort
set_option maxRecDepth 20000

end Go.Proofs.Ytfloipdkhmgibaa
