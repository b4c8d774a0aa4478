/- The walk of FilterNorms. -/
import Derived.Test.YtjhaedhjbnhiaaaFilLaws
namespace Go.Proofs.Ytjhaedhjbnhiaaa
open Go.RowKit Go.Lib Go.Sort
attribute [local go_sem ↓] Go.wp_at_zero Go.wp_at_succ

set_option maxHeartbeats 8000000 in
theorem law_norms (e : Bool) (v : Value) (L : List Str) (x : Str) (W : World) (hv : Strs W v L) : Calls Try.prog 3 #[.agg #[.bool e, v], .string (bstr x)] W fun en W' => en = .returned (.bool true) ∧ Below W.heap.size W W' := by
  obtain ⟨ao, cap, rfl⟩ := hv.shape
  have hv0 := Lib.hid hv
  clear hv
  have HB := Lib.hid (Below.refl W.heap.size W)
  have hba : Below W.heap.size W (W.alloc (.cells #[.bool e, (.slice ao L.length cap)] 24)) := (Below.refl _ _).alloc (Nat.le_refl _) _
  have Xf := Lib.hid (FBox.new (w := W) (b := W.heap.size) e (.slice ao L.length cap) (by first | rfl | simp))
  have Sf := Lib.hid (hv0.out.mono hba)
  replace HB := Lib.hid (HB.out.trans (hba.mono HB.out.size))
  clear hba
  by_cases hf : L.length ≤ 100
  · have hl : L.length ≤ 8796093022200 := by omega
    go_enter Try.func3, Try.ntmps3
    go_wp2_with fail
    refine (few_yes e e _ _ L L _ Sf.out Sf.out hf hf).mono ?_
    rintro e w1 ⟨rfl, hb⟩
    replace Xf := Lib.hid (Xf.out.below hb Xf.out.lt)
    replace Sf := Lib.hid (Sf.out.mono hb)
    replace HB := Lib.hid (HB.out.trans (hb.mono HB.out.size))
    clear hb
    obtain ⟨x1a, x1b, _, _⟩ := Xf.out.facts
    go_wp2_with fail
    refine (copied_any e _ L _ Sf.out).mono ?_
    clear x1a x1b
    rintro e w2 ⟨o, rfl, ho, hb, _⟩
    obtain ⟨oown, cown, rfl⟩ := ho.shape
    have S_own := Lib.hid ho
    clear ho
    replace Xf := Lib.hid (Xf.out.below hb Xf.out.lt)
    replace Sf := Lib.hid (Sf.out.mono hb)
    replace HB := Lib.hid (HB.out.trans (hb.mono HB.out.size))
    clear hb
    have hba : Below w2.heap.size w2 (w2.alloc (.cells #[.bool e, (.slice oown L.length cown)] 24)) := (Below.refl _ _).alloc (Nat.le_refl _) _
    have Xown := Lib.hid (FBox.new (w := w2) (b := w2.heap.size) e (.slice oown L.length cown) (by first | rfl | simp))
    have Sown := Lib.hid (S_own.out.mono hba)
    replace Xf := Lib.hid (Xf.out.below hba Xf.out.lt)
    replace Sf := Lib.hid (Sf.out.mono hba)
    replace HB := Lib.hid (HB.out.trans (hba.mono HB.out.size))
    clear hba
    go_wp2_with fail
    refine (norm_any e _ L _ Sown.out hl).mono ?_
    rintro e w3 ⟨o, rfl, ho, hb, _⟩
    obtain ⟨on, cn, rfl⟩ := ho.shape
    have S_n := Lib.hid ho
    clear ho
    replace Xf := Lib.hid (Xf.out.below hb Xf.out.lt)
    replace Sf := Lib.hid (Sf.out.mono hb)
    replace Xown := Lib.hid (Xown.out.below hb Xown.out.lt)
    replace Sown := Lib.hid (Sown.out.mono hb)
    replace HB := Lib.hid (HB.out.trans (hb.mono HB.out.size))
    clear hb
    obtain ⟨x2a, x2b, _, _⟩ := Xown.out.facts
    have x2c := Xown.out.lt
    have hba : Below w3.heap.size w3 (w3.alloc (.cells #[.bool e, (.slice on (sasc L).length cn)] 24)) := (Below.refl _ _).alloc (Nat.le_refl _) _
    have Xn := Lib.hid (FBox.new (w := w3) (b := w3.heap.size) e (.slice on (sasc L).length cn) (by first | rfl | simp))
    have Sn := Lib.hid (S_n.out.mono hba)
    replace Xf := Lib.hid (Xf.out.below hba Xf.out.lt)
    replace Sf := Lib.hid (Sf.out.mono hba)
    replace Xown := Lib.hid (Xown.out.below hba Xown.out.lt)
    replace Sown := Lib.hid (Sown.out.mono hba)
    replace HB := Lib.hid (HB.out.trans (hba.mono HB.out.size))
    clear hba
    go_wp2_with fail
    refine (check_any e _ L _ Sown.out).mono ?_
    clear x2a x2b x2c
    rintro e w4 ⟨rfl, hb⟩
    replace Xf := Lib.hid (Xf.out.below hb Xf.out.lt)
    replace Sf := Lib.hid (Sf.out.mono hb)
    replace Xown := Lib.hid (Xown.out.below hb Xown.out.lt)
    replace Sown := Lib.hid (Sown.out.mono hb)
    replace Xn := Lib.hid (Xn.out.below hb Xn.out.lt)
    replace Sn := Lib.hid (Sn.out.mono hb)
    replace HB := Lib.hid (HB.out.trans (hb.mono HB.out.size))
    clear hb
    obtain ⟨x3a, x3b, _, _⟩ := Xown.out.facts
    go_wp2_with fail
    refine (admitsB e _ L x _ Sown.out).mono ?_
    clear x3a x3b
    rintro e w5 ⟨rfl, hb⟩
    replace Xf := Lib.hid (Xf.out.below hb Xf.out.lt)
    replace Sf := Lib.hid (Sf.out.mono hb)
    replace Xown := Lib.hid (Xown.out.below hb Xown.out.lt)
    replace Sown := Lib.hid (Sown.out.mono hb)
    replace Xn := Lib.hid (Xn.out.below hb Xn.out.lt)
    replace Sn := Lib.hid (Sn.out.mono hb)
    replace HB := Lib.hid (HB.out.trans (hb.mono HB.out.size))
    clear hb
    have HK := Lib.hid (show ∀ w', Below w5.heap.size w5 w' → w'.cell? ⟨W.heap.size, 0, none⟩ = some (.bool e) ∧ w'.cell? ⟨W.heap.size, 1, none⟩ = some (.slice ao L.length cap) ∧ w'.cell? ⟨w2.heap.size, 0, none⟩ = some (.bool e) ∧ w'.cell? ⟨w2.heap.size, 1, none⟩ = some (.slice oown L.length cown) ∧ w'.cell? ⟨w3.heap.size, 0, none⟩ = some (.bool e) ∧ w'.cell? ⟨w3.heap.size, 1, none⟩ = some (.slice on (sasc L).length cn) from fun w' hb => ⟨(Xf.out.below hb Xf.out.lt).facts.1, (Xf.out.below hb Xf.out.lt).facts.2.1, (Xown.out.below hb Xown.out.lt).facts.1, (Xown.out.below hb Xown.out.lt).facts.2.1, (Xn.out.below hb Xn.out.lt).facts.1, (Xn.out.below hb Xn.out.lt).facts.2.1⟩)
    have R0 := Lib.hid (Below.drew (Below.refl w5.heap.size w5))
    go_wp2_with fail
    go_region_held3 (fun w' => w'.cell? ⟨W.heap.size, 0, none⟩ = some (.bool e) ∧ w'.cell? ⟨W.heap.size, 1, none⟩ = some (.slice ao L.length cap) ∧ w'.cell? ⟨w2.heap.size, 0, none⟩ = some (.bool e) ∧ w'.cell? ⟨w2.heap.size, 1, none⟩ = some (.slice oown L.length cown) ∧ w'.cell? ⟨w3.heap.size, 0, none⟩ = some (.bool e) ∧ w'.cell? ⟨w3.heap.size, 1, none⟩ = some (.slice on (sasc L).length cn)) (first | exact HK.out _ R4.out | exact HK.out _ R3.out | exact HK.out _ R2.out | exact HK.out _ R1.out | exact HK.out _ R0.out) (first | ((with_reducible refine (rcheck_any e _ L _ (Sf.out.mono R3.out)).mono ?_); rintro e v3_4w ⟨rfl, hb⟩; replace Tr := Lib.hid (Tr.out.mono hb); have R4 := Lib.hid (R3.out.trans (hb.mono R3.out.size)); clear hb) | ((with_reducible refine (same_yes e _ _ (sasc L) (sasc L) _ (Sn.out.mono R2.out) Tr.out rfl).mono ?_); rintro e v3_3w ⟨rfl, hb⟩; replace Tr := Lib.hid (Tr.out.mono hb); have R3 := Lib.hid (R2.out.trans (hb.mono R2.out.size)); clear hb) | ((with_reducible refine (rnorm_any e _ L _ (Sf.out.mono R1.out)).mono ?_); rintro e v3_2w ⟨o, rfl, ho, hb, _⟩; obtain ⟨or, cr, rfl⟩ := ho.shape; have Tr := Lib.hid ho; clear ho; have R2 := Lib.hid (R1.out.trans (hb.mono R1.out.size)); clear hb) | ((with_reducible refine (same_yes e _ _ L L _ (Sown.out.mono R0.out) (Sf.out.mono R0.out) rfl).mono ?_); rintro e v3_1w ⟨rfl, hb⟩; have R1 := Lib.hid (R0.out.trans (hb.mono R0.out.size)); clear hb))
    have hb := R4.out
    replace Xf := Lib.hid (Xf.out.below hb Xf.out.lt)
    replace Sf := Lib.hid (Sf.out.mono hb)
    replace Xown := Lib.hid (Xown.out.below hb Xown.out.lt)
    replace Sown := Lib.hid (Sown.out.mono hb)
    replace Xn := Lib.hid (Xn.out.below hb Xn.out.lt)
    replace Sn := Lib.hid (Sn.out.mono hb)
    replace HB := Lib.hid (HB.out.trans (hb.mono HB.out.size))
    clear hb HK R0 R1 R2 R3 R4
    obtain ⟨x5a, x5b, _, _⟩ := Xf.out.facts
    go_wp2_with fail
    refine (radmitsB e _ L x _ Sf.out).mono ?_
    clear x5a x5b
    rintro e w6 ⟨rfl, hb⟩
    replace Xf := Lib.hid (Xf.out.below hb Xf.out.lt)
    replace Sf := Lib.hid (Sf.out.mono hb)
    replace Xown := Lib.hid (Xown.out.below hb Xown.out.lt)
    replace Sown := Lib.hid (Sown.out.mono hb)
    replace Xn := Lib.hid (Xn.out.below hb Xn.out.lt)
    replace Sn := Lib.hid (Sn.out.mono hb)
    replace HB := Lib.hid (HB.out.trans (hb.mono HB.out.size))
    clear hb
    obtain ⟨x6a, x6b, _, _⟩ := Xn.out.facts
    go_wp2_with fail
    refine (check_yes e _ (sasc L) _ Sn.out (sasc_rising L)).mono ?_
    clear x6a x6b
    rintro e w7 ⟨rfl, hb⟩
    replace Xf := Lib.hid (Xf.out.below hb Xf.out.lt)
    replace Sf := Lib.hid (Sf.out.mono hb)
    replace Xown := Lib.hid (Xown.out.below hb Xown.out.lt)
    replace Sown := Lib.hid (Sown.out.mono hb)
    replace Xn := Lib.hid (Xn.out.below hb Xn.out.lt)
    replace Sn := Lib.hid (Sn.out.mono hb)
    replace HB := Lib.hid (HB.out.trans (hb.mono HB.out.size))
    clear hb
    go_wp2_with fail
    refine (live_yes _).mono ?_
    rintro e w8 ⟨rfl, hb⟩
    replace Xf := Lib.hid (Xf.out.below hb Xf.out.lt)
    replace Sf := Lib.hid (Sf.out.mono hb)
    replace Xown := Lib.hid (Xown.out.below hb Xown.out.lt)
    replace Sown := Lib.hid (Sown.out.mono hb)
    replace Xn := Lib.hid (Xn.out.below hb Xn.out.lt)
    replace Sn := Lib.hid (Sn.out.mono hb)
    replace HB := Lib.hid (HB.out.trans (hb.mono HB.out.size))
    clear hb
    go_wp2
    go_ret
    exact ⟨rfl, HB.out⟩
  · have hf' : ¬ (L.length ≤ 100 ∧ L.length ≤ 100) := fun h => hf h.1
    go_enter Try.func3, Try.ntmps3
    go_wp2_with fail
    refine (few_no e e _ _ L L _ Sf.out Sf.out hf').mono ?_
    rintro e w1 ⟨rfl, hb⟩
    replace Xf := Lib.hid (Xf.out.below hb Xf.out.lt)
    replace Sf := Lib.hid (Sf.out.mono hb)
    replace HB := Lib.hid (HB.out.trans (hb.mono HB.out.size))
    clear hb
    go_wp2_with fail
    refine (live_yes _).mono ?_
    rintro e w2 ⟨rfl, hb⟩
    replace Xf := Lib.hid (Xf.out.below hb Xf.out.lt)
    replace Sf := Lib.hid (Sf.out.mono hb)
    replace HB := Lib.hid (HB.out.trans (hb.mono HB.out.size))
    clear hb
    go_wp2
    go_ret
    exact ⟨rfl, HB.out⟩
end Go.Proofs.Ytjhaedhjbnhiaaa
