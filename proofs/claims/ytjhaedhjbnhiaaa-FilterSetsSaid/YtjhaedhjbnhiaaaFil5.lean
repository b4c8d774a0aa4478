/- siphonref11.Norm, Not, both, Less. -/
import Derived.Test.YtjhaedhjbnhiaaaFil4
namespace Go.Proofs.Ytjhaedhjbnhiaaa
open Go.RowKit Go.Lib Go.Sort
attribute [local go_sem ↓] Go.wp_at_zero Go.wp_at_succ

set_option maxHeartbeats 2000000 in
theorem rnorm_any (e1 : Bool) (v : Value) (A : List Str) (w : World) (hv : Strs w v A) :
    Calls Try.prog 16 #[.agg #[.bool e1, v]] w (RetFil w e1 (sasc A)) := by
  obtain ⟨ao, cap, rfl⟩ := hv.shape
  obtain ⟨W0, hW0⟩ : ∃ W0, W0 = (w.alloc (.cells #[.bool e1, .slice ao A.length cap] 24)).alloc (.cells #[.bool false, .slice none 0 0] 24) := ⟨_, rfl⟩
  have hb0 : Below w.heap.size w W0 := by rw [hW0]; exact ((Below.refl _ _).alloc (Nat.le_refl _) _).alloc (by simp) _
  have k0 : W0.cell? ⟨w.heap.size, 0, none⟩ = some (.bool e1) := by rw [hW0]; exact cell_alloc_old (by simp) (cell_alloc_new rfl rfl)
  have k1 : W0.cell? ⟨w.heap.size, 1, none⟩ = some (.slice ao A.length cap) := by rw [hW0]; exact cell_alloc_old (by simp) (cell_alloc_new rfl rfl)
  have HZ := Lib.hid (fun W' (hb : Below (w.heap.size + 1 + 1) W0 W') => zbox (B := w.heap.size + 1) (T := 24) (by rw [hW0]; exact heap_new _ _ _ (by simp)) hb)
  have HC := Lib.hid (srising_any _ A W0.drew ((hv.mono hb0).draws 1))
  have HK := Lib.hid (show ∀ W', Below (w.heap.size + 1) W0 W' → W'.cell? ⟨w.heap.size, 0, none⟩ = some (.bool e1) ∧ W'.cell? ⟨w.heap.size, 1, none⟩ = some (.slice ao A.length cap) from fun W' hb =>
    ⟨(hb.cell (p := ⟨w.heap.size, 0, none⟩) (by simp)).trans k0, (hb.cell (p := ⟨w.heap.size, 1, none⟩) (by simp)).trans k1⟩)
  have HB0 := Lib.hid hb0
  rw [hW0] at HC HZ HB0 HK
  generalize sasc A = R at HC ⊢
  clear hv k0 k1 hb0 hW0 W0
  go_enter Try.func16, Try.ntmps16
  go_wp2
  go_region_held3 (fun w' => w'.cell? ⟨w.heap.size, 0, none⟩ = some (.bool e1) ∧ w'.cell? ⟨w.heap.size, 1, none⟩ = some (.slice ao A.length cap)) (first | exact HK.out _ (Below.drew (Below.refl _ _)) | exact HK.out _ HB2.out | exact HK.out _ ((HB2.out.setCell (by simp <;> omega) _).setCell (by simp <;> omega) _)) (((with_reducible refine HC.out.mono ?_); rintro e w' ⟨o, rfl, ho, hb, hlo⟩; obtain ⟨oo, oc, rfl⟩ := ho.shape; have HL := Lib.hid (hlo.mono (lo' := w.heap.size + 2) (by simp)); have HB1 := Lib.hid ((Below.drew (Below.refl (w.heap.size + 1 + 1) _)).trans (hb.mono (B' := w.heap.size + 1 + 1) (by simp))); have HB2 := Lib.hid (HB1.out.mono (B' := w.heap.size + 1) (by omega)); have HH := Lib.hid ho; clear hb ho hlo; obtain ⟨z0, z1, z2, z3⟩ := HZ.out _ HB1.out))
  obtain ⟨r0, r1⟩ := cells_pair (w := w') (b := w.heap.size + 1) (v0 := .bool e1) (v1 := .slice oo R.length oc) z0 z1
  go_wp2
  exact bodyPost_ret (v := .agg #[.bool e1, .slice oo R.length oc]) (by simp [results, Try.results16, go_sem, r0, r1]) rfl ⟨_, rfl, (HH.out.far HL.out (by simp <;> omega) _).far HL.out (by simp <;> omega) _, HB0.out.trans ((HB1.out.mono (by omega)).setCell (by simp <;> omega) _ |>.setCell (by simp <;> omega) _), HL.out.mono (by omega)⟩

set_option maxHeartbeats 2000000 in
theorem rnot_any (e1 : Bool) (v : Value) (A : List Str) (w : World) (hv : Strs w v A) :
    Calls Try.prog 27 #[.agg #[.bool e1, v]] w (RetFil w (!e1) (sasc A)) := by
  obtain ⟨ao, cap, rfl⟩ := hv.shape
  obtain ⟨W0, hW0⟩ : ∃ W0, W0 = (w.alloc (.cells #[.bool e1, .slice ao A.length cap] 24)).alloc (.cells #[.bool false, .slice none 0 0] 24) := ⟨_, rfl⟩
  have hb0 : Below w.heap.size w W0 := by rw [hW0]; exact ((Below.refl _ _).alloc (Nat.le_refl _) _).alloc (by simp) _
  have k0 : W0.cell? ⟨w.heap.size, 0, none⟩ = some (.bool e1) := by rw [hW0]; exact cell_alloc_old (by simp) (cell_alloc_new rfl rfl)
  have k1 : W0.cell? ⟨w.heap.size, 1, none⟩ = some (.slice ao A.length cap) := by rw [hW0]; exact cell_alloc_old (by simp) (cell_alloc_new rfl rfl)
  have HZ := Lib.hid (fun W' (hb : Below (w.heap.size + 1 + 1) W0 W') => zbox (B := w.heap.size + 1) (T := 24) (by rw [hW0]; exact heap_new _ _ _ (by simp)) hb)
  have HC := Lib.hid (srising_any _ A W0.drew ((hv.mono hb0).draws 1))
  have HK := Lib.hid (show ∀ W', Below (w.heap.size + 1) W0 W' → W'.cell? ⟨w.heap.size, 0, none⟩ = some (.bool e1) ∧ W'.cell? ⟨w.heap.size, 1, none⟩ = some (.slice ao A.length cap) from fun W' hb =>
    ⟨(hb.cell (p := ⟨w.heap.size, 0, none⟩) (by simp)).trans k0, (hb.cell (p := ⟨w.heap.size, 1, none⟩) (by simp)).trans k1⟩)
  have HB0 := Lib.hid hb0
  rw [hW0] at HC HZ HB0 HK
  generalize sasc A = R at HC ⊢
  clear hv k0 k1 hb0 hW0 W0
  go_enter Try.func27, Try.ntmps27
  go_wp2
  go_region_held3 (fun w' => w'.cell? ⟨w.heap.size, 0, none⟩ = some (.bool e1) ∧ w'.cell? ⟨w.heap.size, 1, none⟩ = some (.slice ao A.length cap)) (first | exact HK.out _ (Below.drew (Below.refl _ _)) | exact HK.out _ HB2.out | exact HK.out _ ((HB2.out.setCell (by simp <;> omega) _).setCell (by simp <;> omega) _)) (((with_reducible refine HC.out.mono ?_); rintro e w' ⟨o, rfl, ho, hb, hlo⟩; obtain ⟨oo, oc, rfl⟩ := ho.shape; have HL := Lib.hid (hlo.mono (lo' := w.heap.size + 2) (by simp)); have HB1 := Lib.hid ((Below.drew (Below.refl (w.heap.size + 1 + 1) _)).trans (hb.mono (B' := w.heap.size + 1 + 1) (by simp))); have HB2 := Lib.hid (HB1.out.mono (B' := w.heap.size + 1) (by omega)); have HH := Lib.hid ho; clear hb ho hlo; obtain ⟨z0, z1, z2, z3⟩ := HZ.out _ HB1.out))
  obtain ⟨r0, r1⟩ := cells_pairA (w := w') (b := w.heap.size + 1) z0 z1
  go_wp2
  exact bodyPost_ret (v := .agg #[.bool (!e1), .slice oo R.length oc]) (by simp [results, Try.results27, go_sem, r0, r1]) rfl ⟨_, rfl, (HH.out.far HL.out (by simp <;> omega) _).far HL.out (by simp <;> omega) _, HB0.out.trans ((HB1.out.mono (by omega)).setCell (by simp <;> omega) _ |>.setCell (by simp <;> omega) _), HL.out.mono (by omega)⟩

set_option maxHeartbeats 1000000 in
theorem both_any (e1 e2 : Bool) (v u : Value) (A B : List Str) (w : World) (hv : Strs w v A) (hu : Strs w u B) (hl : A.length + B.length ≤ 8796093022200) :
    Calls Try.prog 42 #[.agg #[.bool e1, v], .agg #[.bool e2, u]] w (RetStrs w (sasc (A ++ B))) := by
  obtain ⟨ao, cap, rfl⟩ := hv.shape
  obtain ⟨bo, bcap, rfl⟩ := hu.shape
  obtain ⟨i0, hi, hz0, hz1, hz2⟩ := info_parts infoAddr
  obtain ⟨W0, hW0⟩ : ∃ W0, W0 = (w.alloc (.cells #[.bool e1, .slice ao A.length cap] 24)).alloc (.cells #[.bool e2, .slice bo B.length bcap] 24) := ⟨_, rfl⟩
  have hb0 : Below w.heap.size w W0 := by rw [hW0]; exact ((Below.refl _ _).alloc (Nat.le_refl _) _).alloc (by simp) _
  have hs0 : W0.heap.size = w.heap.size + 2 := by rw [hW0]; simp
  have k1 : W0.cell? ⟨w.heap.size + 1, 1, none⟩ = some (.slice bo B.length bcap) := by rw [hW0]; exact cell_alloc_new (by simp) rfl
  have HV := Lib.hid (hv.mono hb0).sliceOf
  have HU := Lib.hid (fun W' (hb : Below w.heap.size w W') => (hu.mono hb).sliceOf)
  have HW := Lib.hid (show ∀ x ∈ A ++ B, x.length ≤ maxLen from fun x hx => (List.mem_append.1 hx).elim (hv.len x) (hu.len x))
  have HK := Lib.hid (show ∀ W', Below (w.heap.size + 2) W0 W' → W'.cell? ⟨w.heap.size + 1, 1, none⟩ = some (.slice bo B.length bcap) from fun W' hb => (hb.cell (p := ⟨w.heap.size + 1, 1, none⟩) (by simp)).trans k1)
  have HB0 := Lib.hid hb0
  have HN := Lib.hid (World.ownsRow_nil W0 (w.heap.size + 2) 25 1)
  rw [hW0] at HV HK HB0 HN
  clear hv hu hb0 hs0 k1 hW0 W0
  go_enter Try.func42, Try.ntmps42
  go_wp2_with (first | (at_builtin; refine wpList_append_vals _ rfl _ _ 22 rfl (w.heap.size + 2) 25 i0 (.string ⟨#[]⟩) 1 16 Try.underlying22 hi hz0 hz1 hz2 rfl (by decide) (.slice none 0 0) 0 [] rfl HN.out _ A.length (A.map encStr) rfl HV.out (by unfold maxLen; omega) (by omega) (by simp) ?_; intro v1 w1 hown1 hg1 _; have hb1 := below_own (Below.refl (w.heap.size + 2) _) HN.out (Nat.le_refl _) (by simp) hg1; have k1 := HK.out _ hb1; have hs1 := hb1.size; have HB1 := Lib.hid (HB0.out.trans (hb1.mono (Nat.le_add_right _ 2))); have HO1 := Lib.hid hown1; have HBB := Lib.hid hb1; clear hown1 hg1 hb1) | (at_builtin; refine wpList_append_vals _ rfl _ _ 22 rfl (w.heap.size + 2) 25 i0 (.string ⟨#[]⟩) 1 16 Try.underlying22 hi hz0 hz1 hz2 rfl (by decide) v1 _ _ rfl HO1.out _ B.length (B.map encStr) rfl (HU.out _ HB1.out) (by unfold maxLen; omega) (by omega) (by simp at hs1 ⊢; omega) ?_; intro v2 w2 hown2 hg2 _; have HS := Lib.hid (srising_any v2 (A ++ B) w2 (Strs.own (base := w.heap.size + 2) (e := 25) (by simpa using hown2) (by simp; omega) HW.out)); have HB2 := Lib.hid (below_own (HBB.out.mono (Nat.le_add_right _ 2)) HO1.out (Nat.le_add_right _ 2) (by simp at hs1 ⊢; omega) hg2); clear hown2 hg2) | ((with_reducible refine HS.out.mono ?_); rintro e w3 ⟨v3, rfl, hs3, hb3, hl3⟩; have HR := Lib.hid hs3; have HB3 := Lib.hid hb3; have HL := Lib.hid hl3; clear hs3 hb3 hl3))
  go_ret
  exact ⟨_, rfl, HR.out, (HB0.out.trans HB2.out).trans (HB3.out.mono (HB0.out.trans HB2.out).size), HL.out.mono (HB0.out.trans HB2.out).size⟩

set_option maxHeartbeats 2000000 in
theorem less_any (v u : Value) (A B : List Str) (w : World) (hv : Strs w v A) (hu : Strs w u B) :
    Calls Try.prog 37 #[v, u] w (RetStrs w ((sasc A).filter fun x => !B.contains x)) := by
  obtain ⟨i0, hi, hz0, hz1, hz2⟩ := info_parts infoAddr
  have HR := Lib.hid (srising_any v A w hv)
  have HW := Lib.hid (show ∀ x ∈ sasc A, x.length ≤ maxLen from fun x hx => hv.len x ((sasc_mem A x).1 hx))
  have HU := Lib.hid (fun x W (hb : Below w.heap.size w W) => shas_any u B x W (hu.mono hb))
  generalize sasc A = C at *
  obtain ⟨p, hp⟩ : ∃ p : Str → Bool, p = fun x => !B.contains x := ⟨_, rfl⟩
  have HP := Lib.hid (show ∀ x, p x = !B.contains x from fun x => by rw [hp])
  rw [← hp]
  clear hp
  clear hv hu
  go_enter Try.func37, Try.ntmps37
  go_wp2_with ((with_reducible refine HR.out.mono ?_); rintro e w1 ⟨o, rfl, hC, hb1, _⟩; obtain ⟨bb, off, hm, hlen, hidx, hcell⟩ := hC.facts)
  have HB1 := Lib.hid hb1
  clear hb1 hC HR
  go_loopw [5, 7] (fun l i wr => ∃ k : Nat, k ≤ C.length ∧ i = .int .i64 k ∧ wr.ownsRow w1.heap.size 25 1 l ((C.take k).filter p).length (((C.take k).filter p).map encStr) ∧ Below w1.heap.size w1 wr) (fun _ i _ => C.length - (intOf i).toNat)
  case atStart => exact ⟨0, Nat.zero_le _, rfl, World.ownsRow_nil _ _ _ _, Below.refl _ _⟩
  case round =>
    obtain ⟨k, hk, rfl, hown, hbel⟩ := hrel
    by_cases hlt : k < C.length
    · have hpk := hidx k hlt
      have hce := (hbel.cell (p := ⟨bb, off + k, none⟩) (hcell k hlt).1).trans (hcell k hlt).2
      obtain ⟨x, hx⟩ : ∃ x, x = C.getD k [] := ⟨_, rfl⟩
      rw [← hx, enc_bstr] at hce
      have hxk : C[k] = x := by rw [hx]; simp [List.getD_eq_getElem?_getD, hlt]
      have HT := Lib.hid (show (C.take (k + 1)).filter p = (C.take k).filter p ++ (if p x then [x] else []) by
        rw [take_snoc C k hlt, hxk, List.filter_append, List.filter_cons, List.filter_nil])
      have hfl : ((C.take k).filter p).length ≤ k := Nat.le_trans (List.length_filter_le _ _) (by simp; omega)
      have HX := Lib.hid (HU.out x wr (HB1.out.trans (hbel.mono HB1.out.size)))
      clear hidx hcell hx hxk
      cases hpx : B.contains x
      · rw [hpx] at HX
        have HE := Lib.hid (show (C.take (k + 1)).filter p = (C.take k).filter p ++ [x] by rw [HT.out, HP.out, hpx]; simp)
        clear hpx HT
        have hc3 : ((C.take k).filter p).length + 1 ≤ maxLen := by unfold maxLen; omega
        have hc4 : (((C.take k).filter p).length + 1) * 16 ≤ 140737488355328 := by omega
        have HO := Lib.hid hown
        have hsz := hbel.size
        clear hown hfl
        go_wp2_with (first | (at_builtin; refine wpList_append_own _ rfl _ _ 22 rfl w1.heap.size 25 i0 (.string ⟨#[]⟩) 1 16 Try.underlying22 hi hz0 hz1 hz2 rfl (by decide) _ _ _ rfl (HO.out.alloc _) ⟨wr.heap.size, 0, none⟩ 1 1 [.string (bstr x)] rfl rfl (cell_one_new _ _ _) (ones_str x) hc3 hc4 (by simp; omega) ?_; intro v' w3 hown3 hg3 _) | ((with_reducible refine HX.out.mono ?_); rintro e w2 ⟨rfl, rfl⟩))
        go_roundw
        case rel =>
          refine ⟨k + 1, by omega, by go_num, ?_, below_own (hbel.alloc hbel.size _) (HO.out.alloc _) (Nat.le_refl _) (by simp; omega) hg3⟩
          rw [HE.out, List.length_append, List.map_append]
          rw [← enc_bstr] at hown3
          exact hown3
        case measure => simp [intOf]; omega
      · rw [hpx] at HX
        have HE := Lib.hid (show (C.take (k + 1)).filter p = (C.take k).filter p by rw [HT.out, HP.out, hpx]; simp)
        clear hpx HT
        go_wp2_with ((with_reducible refine HX.out.mono ?_); rintro e w2 ⟨rfl, rfl⟩)
        go_roundw
        case rel => exact ⟨k + 1, by omega, by go_num, by rw [HE.out]; exact hown, hbel⟩
        case measure => simp [intOf]; omega
    · have HL := Lib.hid (show C.take k = C from List.take_of_length_le (by omega))
      rw [HL.out] at hown
      have hfl : (C.filter p).length ≤ C.length := List.length_filter_le _ _
      clear hidx hcell HL
      go_wp2
      go_ret
      exact ⟨_, rfl, Strs.own hown (by omega) (fun x hx => HW.out x (List.mem_filter.1 hx).1), HB1.out.trans (hbel.mono HB1.out.size), (Lies.own hown).mono HB1.out.size⟩
end Go.Proofs.Ytjhaedhjbnhiaaa
