/- Texts joined into one file: GSmall, GWhich, GRun. -/
import Derived.Test.YtpibmjkbebkilaaGreatW08
import Derived.Deep.RegionHeld3

namespace Go.Proofs.YtpibmjkbebkilaaGreat
open Go.RowKit Go.Lib Go.Maps Go.Sort
set_option maxRecDepth 20000

theorem within_any (n a b : Int) (w : World) : Calls Tryz.prog 50 #[.int .i64 n, .int .i64 a, .int .i64 b] w fun e w' => e = .returned (.bool (decide (a ≤ n) && decide (n ≤ b))) ∧ w = w' := by
 cases h1 : decide (a ≤ n)
 all_goals
  go_enter Tryz.func50, Tryz.ntmps50
  go_wp2
  go_ret
  exact ⟨ret_bool (by simp), rfl⟩

theorem names_any (kind e : Int) (v : Value) (L : List Str) (a : Str) (w : World) (h : Strs w v L) :
 Calls Tryz.prog 100 #[.agg #[.int .i64 kind, v, .int .i64 e], .string (bstr a)] w fun e w' => e = .returned (.bool (L.contains a)) ∧ Below w.heap.size w w' := by
 obtain ⟨ao, cap, rfl⟩ := h.shape
 have hb : Below w.heap.size w (w.alloc (.cells #[.int .i64 kind, .slice ao L.length cap, .int .i64 e] 118)) := (Below.refl _ _).alloc (Nat.le_refl _) _
 have HC := Lib.hid (scontains_any _ L a _ (h.mono hb))
 have HB := Lib.hid hb
 clear h hb
 go_enter Tryz.func100, Tryz.ntmps100
 go_wp2_with fail
 refine HC.out.mono ?_
 rintro e w' ⟨rfl, rfl⟩
 clear HC
 go_wp2
 go_ret
 exact ⟨ret_bool (by simp), HB.out⟩

theorem lacks_any (kind e : Int) (v : Value) (L : List Str) (a : Str) (w : World) (h : Strs w v L) :
 Calls Tryz.prog 82 #[.agg #[.int .i64 kind, v, .int .i64 e], .string (bstr a)] w fun e w' => e = .returned (.bool (!L.contains a)) ∧ Below w.heap.size w w' := by
 obtain ⟨ao, cap, rfl⟩ := h.shape
 have hb : Below w.heap.size w (w.alloc (.cells #[.int .i64 kind, .slice ao L.length cap, .int .i64 e] 118)) := (Below.refl _ _).alloc (Nat.le_refl _) _
 have HC := Lib.hid (names_any kind e _ L a _ (h.mono hb))
 have HB := Lib.hid hb
 clear h hb
 go_enter Tryz.func82, Tryz.ntmps82
 go_wp2_with fail
 refine HC.out.mono ?_
 rintro e w' ⟨rfl, hb⟩
 have HB' := Lib.hid (HB.out.trans (hb.mono HB.out.size))
 clear HC hb
 go_wp2
 go_ret
 exact ⟨ret_bool (by simp), HB'.out⟩
end Go.Proofs.YtpibmjkbebkilaaGreat

namespace Go.Proofs.YtpibmjkbebkilaaGreat
open Go.RowKit Go.Lib Go.Sort
set_option maxRecDepth 20000

set_option maxHeartbeats 1000000 in
theorem which_any (v : Value) (C : List Str) (f : Nat) (bs lb : Array Value) (p : Str → Bool) (w : World) (hv : Strs w v C) (hl : C.length ≤ 8796093022200) (hcf : ∀ args w', (callFunc f args).run Tryz.prog w' = .ok (.enter f args) w')
 (hf : ∀ x W, x.length ≤ maxLen → Below w.heap.size w W → Calls Tryz.prog f (bs.push (.string (bstr x)) ++ lb) W fun e W' => e = .returned (.bool (p x)) ∧ Below W.heap.size W W') :
 Calls Tryz.prog 80 #[v, .func (.func f) bs lb] w (RetStrs w (C.filter p)) := by
 obtain ⟨bb, off, hm, hlen, hidx, hcell⟩ := hv.facts
 have HW := Lib.hid hv.len
 have HF := Lib.hid hf
 obtain ⟨i0, hi, hz0, hz1, hz2⟩ := info_parts infoAddr
 clear hv hf
 go_enter Tryz.func80, Tryz.ntmps80
 go_wp2
 go_loopw [5, 10] (fun l i wr => ∃ k : Nat, k ≤ C.length ∧ i = .int .i64 k ∧ wr.ownsRow w.heap.size 36 1 l ((C.take k).filter p).length (((C.take k).filter p).map encStr) ∧ Below w.heap.size w wr) (fun _ i _ => C.length - (intOf i).toNat)
 case atStart => exact ⟨0, Nat.zero_le _, rfl, World.ownsRow_nil _ _ _ _, Below.refl _ _⟩
 case round =>
  obtain ⟨k, hk, rfl, hown, hbel⟩ := hrel
  by_cases hlt : k < C.length
  · have hp := hidx k hlt
    have hce := (hbel.cell (p := ⟨bb, off + k, none⟩) (hcell k hlt).1).trans (hcell k hlt).2
    obtain ⟨x, hx⟩ : ∃ x, x = C.getD k [] := ⟨_, rfl⟩
    rw [← hx, enc_bstr] at hce
    have hxk : C[k] = x := by rw [hx]; simp [List.getD_eq_getElem?_getD, hlt]
    have HT := Lib.hid (show (C.take (k + 1)).filter p = (C.take k).filter p ++ (if p x then [x] else []) by
     rw [take_snoc C k hlt, hxk, List.filter_append, List.filter_cons, List.filter_nil])
    have hfl : ((C.take k).filter p).length ≤ k := Nat.le_trans (List.length_filter_le _ _) (by simp; omega)
    have HX := Lib.hid (HF.out x wr (HW.out x (hxk ▸ List.getElem_mem hlt)) hbel)
    clear hidx hcell hx hxk
    cases hpx : p x
    · rw [hpx] at HX HT
      have HE := Lib.hid (show (C.take (k + 1)).filter p = (C.take k).filter p by rw [HT.out]; simp)
      clear hpx HT
      go_wp2_with ((with_reducible refine HX.out.mono ?_); rintro e w2 ⟨rfl, hb2⟩)
      go_roundw
      case rel => exact ⟨k + 1, by omega, by go_num, by rw [HE.out]; exact own_below hown hb2, hbel.trans (hb2.mono hbel.size)⟩
      case measure => simp [intOf]; omega
    · rw [hpx] at HX HT
      have HE := Lib.hid (show (C.take (k + 1)).filter p = (C.take k).filter p ++ [x] by rw [HT.out]; simp)
      clear hpx HT
      have hc3 : ((C.take k).filter p).length + 1 ≤ maxLen := by unfold maxLen; omega
      have hc4 : (((C.take k).filter p).length + 1) * 16 ≤ 140737488355328 := by omega
      have HO := Lib.hid hown
      clear hown hfl
      go_wp2_with (first | (at_builtin; refine wpList_append_own _ rfl _ _ 37 rfl w.heap.size 36 i0 (.string ⟨#[]⟩) 1 16 Tryz.underlying37 hi hz0 hz1 hz2 rfl (by decide) _ _ _ rfl ((own_below HO.out hb2).alloc _) ⟨w2.heap.size, 0, none⟩ 1 1 [.string (bstr x)] rfl rfl (cell_one_new _ _ _) (ones_str x) hc3 hc4 (by have h1 := hbel.size; have h2 := hb2.size; simp; omega) ?_; intro v' w3 hown3 hg3 _) | ((with_reducible refine HX.out.mono ?_); rintro e w2 ⟨rfl, hb2⟩))
      go_roundw
      case rel =>
       have hb12 := hbel.trans (hb2.mono hbel.size)
       have ho2 := own_below HO.out hb2
       refine ⟨k + 1, by omega, by go_num, ?_, below_own (hb12.alloc hb12.size _) (ho2.alloc _) (Nat.le_refl _) (by have := hb12.size; simp; omega) hg3⟩
       rw [HE.out, List.length_append, List.map_append]
       rw [← enc_bstr] at hown3
       exact hown3
      case measure => simp [intOf]; omega
  · have HL := Lib.hid (show C.take k = C from List.take_of_length_le (by omega))
    rw [HL.out] at hown
    have hfl : (C.filter p).length ≤ C.length := List.length_filter_le _ _
    have HO := Lib.hid hown
    have HB := Lib.hid hbel
    clear hidx hcell hown HL hbel
    go_wp2
    go_ret
    exact ⟨_, rfl, Strs.own HO.out (by omega) (fun x hx => HW.out x (List.mem_filter.1 hx).1), HB.out, Lies.own HO.out⟩
end Go.Proofs.YtpibmjkbebkilaaGreat

namespace Go.Proofs.YtpibmjkbebkilaaGreat
open Go.RowKit Go.Lib Go.Maps Go.Sort
set_option maxRecDepth 20000

theorem callRuns (args : Array Value) (w : World) : (callFunc 60 args).run Tryz.prog w = .ok (.enter 60 args) w := by kernel_rfl

def Rises (p : Str → Bool) (R : List Str) : Prop := R.Pairwise (· < ·) ∧ ∀ a, a ∈ R ↔ p a = true

def runF (F : Str → Option Int) (a : Str) : Bool := (F a).getD 0 != 0

theorem runF_some {F : Str → Option Int} {a : Str} (h : runF F a = true) : F a ≠ none := by
 intro e
 simp [runF, e] at h

theorem rises_runs {F : Str → Option Int} {K : List Str} (h : KeysOf' F K) (p : Str → Bool) : Rises (fun a => runF F a && p a) ((K.filter (runF F)).filter p) := by
 refine ⟨(h.1.filter _).filter _, fun a => ?_⟩
 rw [List.mem_filter, List.mem_filter, h.2, Bool.and_eq_true]
 exact ⟨fun ⟨⟨_, h1⟩, h2⟩ => ⟨h1, h2⟩, fun ⟨h1, h2⟩ => ⟨⟨runF_some h1, h1⟩, h2⟩⟩

theorem running_any (ex : Bool) (at' : Int) (b n : Nat) (F : Str → Option Int) (w : World) (h : Mp w b n F) (hn : n ≤ 8796093022200) :
 Calls Tryz.prog 81 #[.agg #[.bool ex, .int .i64 at', .map (some b)]] w fun e w' => ∃ K, KeysOf' F K ∧ K.length ≤ n ∧ RetStrs w (K.filter (runF F)) e w' := by
 obtain ⟨W0, hW0⟩ : ∃ W0, W0 = w.alloc (.cells #[.bool ex, .int .i64 at', .map (some b)] 109) := ⟨_, rfl⟩
 have hb0 : Below w.heap.size w W0 := by rw [hW0]; exact (Below.refl _ _).alloc (Nat.le_refl _) _
 have hs0 : W0.heap.size = w.heap.size + 1 := by rw [hW0]; simp
 have s1 : CBox W0 w.heap.size 109 #[.bool ex, .int .i64 at', .map (some b)] := by rw [hW0]; exact CBox.new _ rfl
 have HM := Lib.hid (h.below hb0 h.lt); have HL := Lib.hid h.lt; have HB := Lib.hid hb0
 have HK := Lib.hid (show ∀ w', Below W0.heap.size W0 w' → w'.cell? ⟨w.heap.size, 0, none⟩ = some (.bool ex) ∧ w'.cell? ⟨w.heap.size, 1, none⟩ = some (.int .i64 at') ∧ w'.cell? ⟨w.heap.size, 2, none⟩ = some (.map (some b)) from fun w' hb =>
  have t := s1.below hb (by omega)
  ⟨(t.at_ 0 _ rfl).1, (t.at_ 1 _ rfl).1, (t.at_ 2 _ rfl).1⟩)
 have R0 := Lib.hid (Below.drew (Below.refl W0.heap.size W0))
 have HZ := Lib.hid (show b < W0.heap.size from by have := h.lt; omega)
 have HWH := Lib.hid (fun (W2 : World) (v : Value) (C : List Str) (hv : Strs W2 v C) (hl : C.length ≤ 8796093022200) (h2 : Below W0.heap.size W0 W2) =>
  which_any v C 60 #[.agg #[.bool ex, .int .i64 at', .map (some b)]] #[] (runF F) W2 hv hl callRuns (fun x W hx hW => runs_any ex at' b n F x hx W (HM.out.below (h2.trans (hW.mono h2.size)) HZ.out)))
 rw [hW0] at HM HK R0 HZ HB HWH
 clear h hb0 s1 hs0 hW0 W0
 go_enter Tryz.func81, Tryz.ntmps81
 go_wp2_with fail
 go_region_held3 (fun w' => w'.cell? ⟨w.heap.size, 0, none⟩ = some (.bool ex) ∧ w'.cell? ⟨w.heap.size, 1, none⟩ = some (.int .i64 at') ∧ w'.cell? ⟨w.heap.size, 2, none⟩ = some (.map (some b))) (first | exact HK.out _ R3.out | exact HK.out _ R2.out | exact HK.out _ R1.out | exact HK.out _ R0.out)
  (first
    | ((with_reducible refine (HWH.out _ _ _ HK2.out (by have := HKN.out; omega) R2.out).mono ?_); rintro e w3 ⟨o, rfl, ho, hb, hlo⟩; obtain ⟨oo, oc, rfl⟩ := ho.shape; have HO := Lib.hid (And.intro ho hlo); have R3 := Lib.hid (R2.out.trans (hb.mono R2.out.size)); have H23 := Lib.hid hb; clear ho hlo hb)
    | ((with_reducible refine (sortedKeys_at (HM.out.below R1.out HZ.out) (by omega) (by simp) (by simp)).mono ?_); rintro e w2 ⟨vk, K, rfl, hk, hks, hkn, hkl, hkb⟩; obtain ⟨ko, kc, rfl⟩ := hk.shape; have HK2 := Lib.hid hk; have HKS := Lib.hid hks; have HKN := Lib.hid hkn; have R2 := Lib.hid (R1.out.trans (hkb.mono R1.out.size)); clear hk hks hkn hkl hkb)
    | ((with_reducible refine (keys_any (some b) _).mono ?_); rintro e w1 ⟨rfl, rfl⟩; have R1 := Lib.hid (((Below.refl (w.alloc (.cells #[.bool ex, .int .i64 at', .map (some b)] 109)).heap.size (w.alloc (.cells #[.bool ex, .int .i64 at', .map (some b)] 109))).alloc (Nat.le_refl _) (.cells #[.map (some b)] 107)).drew)))
 all_goals
  go_wp2
  go_ret
  exact ⟨K, HKS.out, HKN.out, _, rfl, HO.out.1, HB.out.trans (R3.out.mono HB.out.size), HO.out.2.mono (Nat.le_trans HB.out.size R2.out.size)⟩
end Go.Proofs.YtpibmjkbebkilaaGreat
