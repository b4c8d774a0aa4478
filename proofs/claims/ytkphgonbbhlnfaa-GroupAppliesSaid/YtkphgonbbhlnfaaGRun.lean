/- (group.known).running: the sources that run, rising. -/
import Derived.Test.YtkphgonbbhlnfaaGWhich
import Derived.Deep.RegionHeld3
namespace Go.Proofs.Ytkphgonbbhlnfaa
open Go.RowKit Go.Lib Go.Maps Go.Sort

theorem callRuns (args : Array Value) (w : World) : (callFunc 27 args).run Try.prog w = .ok (.enter 27 args) w := by kernel_rfl

/-- a list that rises and holds just those of which something holds -/
def Rises (p : Str → Bool) (R : List Str) : Prop := R.Pairwise (· < ·) ∧ ∀ a, a ∈ R ↔ p a = true

def runF (F : Str → Option Int) (a : Str) : Bool := (F a).getD 0 != 0

theorem runF_some {F : Str → Option Int} {a : Str} (h : runF F a = true) : F a ≠ none := by
  intro e
  simp [runF, e] at h

theorem rises_runs {F : Str → Option Int} {K : List Str} (h : KeysOf' F K) (p : Str → Bool) : Rises (fun a => runF F a && p a) ((K.filter (runF F)).filter p) := by
  refine ⟨(h.1.filter _).filter _, fun a => ?_⟩
  rw [List.mem_filter, List.mem_filter, h.2, Bool.and_eq_true]
  exact ⟨fun ⟨⟨_, h1⟩, h2⟩ => ⟨h1, h2⟩, fun ⟨h1, h2⟩ => ⟨⟨runF_some h1, h1⟩, h2⟩⟩

theorem running_any (ex : Bool) (at' : Int) (b n : Nat) (F : Str → Option Int) (w : World) (h : Mp w b n F) (hn : n ≤ 8796093022200) :
    Calls Try.prog 48 #[.agg #[.bool ex, .int .i64 at', .map (some b)]] w fun e w' => ∃ K, KeysOf' F K ∧ K.length ≤ n ∧ RetStrs w (K.filter (runF F)) e w' := by
  obtain ⟨W0, hW0⟩ : ∃ W0, W0 = w.alloc (.cells #[.bool ex, .int .i64 at', .map (some b)] 60) := ⟨_, rfl⟩
  have hb0 : Below w.heap.size w W0 := by rw [hW0]; exact (Below.refl _ _).alloc (Nat.le_refl _) _
  have hs0 : W0.heap.size = w.heap.size + 1 := by rw [hW0]; simp
  have s1 : CBox W0 w.heap.size 60 #[.bool ex, .int .i64 at', .map (some b)] := by rw [hW0]; exact CBox.new _ rfl
  have HM := Lib.hid (h.below hb0 h.lt); have HL := Lib.hid h.lt; have HB := Lib.hid hb0
  have HK := Lib.hid (show ∀ w', Below W0.heap.size W0 w' → w'.cell? ⟨w.heap.size, 0, none⟩ = some (.bool ex) ∧ w'.cell? ⟨w.heap.size, 1, none⟩ = some (.int .i64 at') ∧ w'.cell? ⟨w.heap.size, 2, none⟩ = some (.map (some b)) from fun w' hb =>
    have t := s1.below hb (by omega)
    ⟨(t.at_ 0 _ rfl).1, (t.at_ 1 _ rfl).1, (t.at_ 2 _ rfl).1⟩)
  have R0 := Lib.hid (Below.drew (Below.refl W0.heap.size W0))
  have HZ := Lib.hid (show b < W0.heap.size from by have := h.lt; omega)
  have HWH := Lib.hid (fun (W2 : World) (v : Value) (C : List Str) (hv : Strs W2 v C) (hl : C.length ≤ 8796093022200) (h2 : Below W0.heap.size W0 W2) =>
    which_any v C 27 #[.agg #[.bool ex, .int .i64 at', .map (some b)]] #[] (runF F) W2 hv hl callRuns (fun x W hx hW => runs_any ex at' b n F x hx W (HM.out.below (h2.trans (hW.mono h2.size)) HZ.out)))
  rw [hW0] at HM HK R0 HZ HB HWH
  clear h hb0 s1 hs0 hW0 W0
  go_enter Try.func48, Try.ntmps48
  go_wp2_with fail
  go_region_held3 (fun w' => w'.cell? ⟨w.heap.size, 0, none⟩ = some (.bool ex) ∧ w'.cell? ⟨w.heap.size, 1, none⟩ = some (.int .i64 at') ∧ w'.cell? ⟨w.heap.size, 2, none⟩ = some (.map (some b))) (first | exact HK.out _ R3.out | exact HK.out _ R2.out | exact HK.out _ R1.out | exact HK.out _ R0.out)
    (first
      | ((with_reducible refine (HWH.out _ _ _ HK2.out (by have := HKN.out; omega) R2.out).mono ?_); rintro e w3 ⟨o, rfl, ho, hb, hlo⟩; obtain ⟨oo, oc, rfl⟩ := ho.shape; have HO := Lib.hid (And.intro ho hlo); have R3 := Lib.hid (R2.out.trans (hb.mono R2.out.size)); have H23 := Lib.hid hb; clear ho hlo hb)
      | ((with_reducible refine (sortedKeys_at (HM.out.below R1.out HZ.out) (by omega) (by simp) (by simp)).mono ?_); rintro e w2 ⟨vk, K, rfl, hk, hks, hkn, hkl, hkb⟩; obtain ⟨ko, kc, rfl⟩ := hk.shape; have HK2 := Lib.hid hk; have HKS := Lib.hid hks; have HKN := Lib.hid hkn; have R2 := Lib.hid (R1.out.trans (hkb.mono R1.out.size)); clear hk hks hkn hkl hkb)
      | ((with_reducible refine (keys_any (some b) _).mono ?_); rintro e w1 ⟨rfl, rfl⟩; have R1 := Lib.hid (((Below.refl (w.alloc (.cells #[.bool ex, .int .i64 at', .map (some b)] 60)).heap.size (w.alloc (.cells #[.bool ex, .int .i64 at', .map (some b)] 60))).alloc (Nat.le_refl _) (.cells #[.map (some b)] 58)).drew)))
  all_goals
    go_wp2
    go_ret
    exact ⟨K, HKS.out, HKN.out, _, rfl, HO.out.1, HB.out.trans (R3.out.mono HB.out.size), HO.out.2.mono (Nat.le_trans HB.out.size R2.out.size)⟩
end Go.Proofs.Ytkphgonbbhlnfaa
