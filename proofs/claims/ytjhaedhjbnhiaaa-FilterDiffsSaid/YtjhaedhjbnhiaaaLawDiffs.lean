/- The walk of FilterDiffs. -/
import Derived.Test.YtjhaedhjbnhiaaaFilLaws
namespace Go.Proofs.Ytjhaedhjbnhiaaa
open Go.RowKit Go.Lib Go.Sort
attribute [local go_sem ↓] Go.wp_at_zero Go.wp_at_succ

set_option maxHeartbeats 16000000 in
theorem law_diffs (e : Bool) (v : Value) (A : List Str) (d : Bool) (u : Value) (B : List Str) (gr : Str) (W : World) (hv : Strs W v A) (hu : Strs W u B) (hgr : gr.length ≤ maxLen) : Calls Try.prog 4 #[.string (bstr gr), .agg #[.bool e, v], .agg #[.bool d, u]] W fun en W' => en = .returned (.bool true) ∧ Below W.heap.size W W' := by
  obtain ⟨ao, cap, rfl⟩ := hv.shape
  obtain ⟨bo, bcap, rfl⟩ := hu.shape
  have hv0 := Lib.hid hv
  have hu0 := Lib.hid (hu.mono ((Below.refl W.heap.size W).alloc (Nat.le_refl _) (.cells #[.bool e, .slice ao A.length cap] 24)))
  clear hv hu
  have HB := Lib.hid (Below.refl W.heap.size W)
  have hba : Below W.heap.size W (W.alloc (.cells #[.bool e, (.slice ao A.length cap)] 24)) := (Below.refl _ _).alloc (Nat.le_refl _) _
  have Xf := Lib.hid (FBox.new (w := W) (b := W.heap.size) e (.slice ao A.length cap) (by first | rfl | simp))
  have Sf := Lib.hid (hv0.out.mono hba)
  replace HB := Lib.hid (HB.out.trans (hba.mono HB.out.size))
  clear hba
  have hba : Below (W.alloc (.cells #[.bool e, (.slice ao A.length cap)] 24)).heap.size (W.alloc (.cells #[.bool e, (.slice ao A.length cap)] 24)) ((W.alloc (.cells #[.bool e, (.slice ao A.length cap)] 24)).alloc (.cells #[.bool d, (.slice bo B.length bcap)] 24)) := (Below.refl _ _).alloc (Nat.le_refl _) _
  have Xg := Lib.hid (FBox.new (w := (W.alloc (.cells #[.bool e, (.slice ao A.length cap)] 24))) (b := W.heap.size + 1) d (.slice bo B.length bcap) (by first | rfl | simp))
  have Sg := Lib.hid (hu0.out.mono hba)
  replace Xf := Lib.hid (Xf.out.below hba Xf.out.lt)
  replace Sf := Lib.hid (Sf.out.mono hba)
  replace HB := Lib.hid (HB.out.trans (hba.mono HB.out.size))
  clear hba
  by_cases hf : A.length ≤ 100 ∧ B.length ≤ 100
  · obtain ⟨ha, hb⟩ := hf
    obtain ⟨R, hR⟩ : ∃ R, R = pdiff gr e A d B := ⟨_, rfl⟩
    have HD : Hid (∀ v u w, Strs w v A → Strs w u B → Calls Try.prog 19 #[.string (bstr gr), .agg #[.bool e, v], .agg #[.bool d, u]] w (RetRecs w R)) := by rw [hR]; exact fun v u w h h' => diff_any gr e d v u A B w hgr h h' (by omega)
    have JD : Hid (∀ v u w, Strs w v A → Strs w u B → Calls Try.prog 21 #[.string (bstr gr), .agg #[.bool e, v], .agg #[.bool d, u]] w (RetRecs w R)) := by rw [hR]; exact fun v u w h h' => rdiff_any gr e d v u A B w hgr h h'
    clear hR hgr
    go_enter Try.func4, Try.ntmps4
    go_wp2_with fail
    refine (few_yes e d _ _ A B _ Sf.out Sg.out ha hb).mono ?_
    rintro e w1 ⟨rfl, hb⟩
    replace Xf := Lib.hid (Xf.out.below hb Xf.out.lt)
    replace Sf := Lib.hid (Sf.out.mono hb)
    replace Xg := Lib.hid (Xg.out.below hb Xg.out.lt)
    replace Sg := Lib.hid (Sg.out.mono hb)
    replace HB := Lib.hid (HB.out.trans (hb.mono HB.out.size))
    clear hb
    obtain ⟨x1a, x1b, _, _⟩ := Xf.out.facts
    go_wp2_with fail
    refine (copied_any e _ A _ Sf.out).mono ?_
    clear x1a x1b
    rintro e w2 ⟨o, rfl, ho, hb, _⟩
    obtain ⟨ox, cx, rfl⟩ := ho.shape
    have S_x := Lib.hid ho
    clear ho
    replace Xf := Lib.hid (Xf.out.below hb Xf.out.lt)
    replace Sf := Lib.hid (Sf.out.mono hb)
    replace Xg := Lib.hid (Xg.out.below hb Xg.out.lt)
    replace Sg := Lib.hid (Sg.out.mono hb)
    replace HB := Lib.hid (HB.out.trans (hb.mono HB.out.size))
    clear hb
    obtain ⟨x2a, x2b, _, _⟩ := Xg.out.facts
    have x2c := Xg.out.lt
    have hba : Below w2.heap.size w2 (w2.alloc (.cells #[.bool e, (.slice ox A.length cx)] 24)) := (Below.refl _ _).alloc (Nat.le_refl _) _
    have Xx := Lib.hid (FBox.new (w := w2) (b := w2.heap.size) e (.slice ox A.length cx) (by first | rfl | simp))
    have Sx := Lib.hid (S_x.out.mono hba)
    replace Xf := Lib.hid (Xf.out.below hba Xf.out.lt)
    replace Sf := Lib.hid (Sf.out.mono hba)
    replace Xg := Lib.hid (Xg.out.below hba Xg.out.lt)
    replace Sg := Lib.hid (Sg.out.mono hba)
    replace HB := Lib.hid (HB.out.trans (hba.mono HB.out.size))
    clear hba
    go_wp2_with fail
    refine (copied_any d _ B _ Sg.out).mono ?_
    clear x2a x2b x2c
    rintro e w3 ⟨o, rfl, ho, hb, _⟩
    obtain ⟨oy, cy, rfl⟩ := ho.shape
    have S_y := Lib.hid ho
    clear ho
    replace Xf := Lib.hid (Xf.out.below hb Xf.out.lt)
    replace Sf := Lib.hid (Sf.out.mono hb)
    replace Xg := Lib.hid (Xg.out.below hb Xg.out.lt)
    replace Sg := Lib.hid (Sg.out.mono hb)
    replace Xx := Lib.hid (Xx.out.below hb Xx.out.lt)
    replace Sx := Lib.hid (Sx.out.mono hb)
    replace HB := Lib.hid (HB.out.trans (hb.mono HB.out.size))
    clear hb
    obtain ⟨x3a, x3b, _, _⟩ := Xx.out.facts
    have x3c := Xx.out.lt
    have hba : Below w3.heap.size w3 (w3.alloc (.cells #[.bool d, (.slice oy B.length cy)] 24)) := (Below.refl _ _).alloc (Nat.le_refl _) _
    have Xy := Lib.hid (FBox.new (w := w3) (b := w3.heap.size) d (.slice oy B.length cy) (by first | rfl | simp))
    have Sy := Lib.hid (S_y.out.mono hba)
    replace Xf := Lib.hid (Xf.out.below hba Xf.out.lt)
    replace Sf := Lib.hid (Sf.out.mono hba)
    replace Xg := Lib.hid (Xg.out.below hba Xg.out.lt)
    replace Sg := Lib.hid (Sg.out.mono hba)
    replace Xx := Lib.hid (Xx.out.below hba Xx.out.lt)
    replace Sx := Lib.hid (Sx.out.mono hba)
    replace HB := Lib.hid (HB.out.trans (hba.mono HB.out.size))
    clear hba
    go_wp2_with fail
    refine (HD.out _ _ _ Sx.out Sy.out).mono ?_
    clear x3a x3b x3c
    rintro e w4 ⟨o, rfl, ho, hb⟩
    obtain ⟨ol, cl, rfl⟩ := ho.shape
    replace Xf := Lib.hid (Xf.out.below hb Xf.out.lt)
    replace Sf := Lib.hid (Sf.out.mono hb)
    replace Xg := Lib.hid (Xg.out.below hb Xg.out.lt)
    replace Sg := Lib.hid (Sg.out.mono hb)
    replace Xx := Lib.hid (Xx.out.below hb Xx.out.lt)
    replace Sx := Lib.hid (Sx.out.mono hb)
    replace Xy := Lib.hid (Xy.out.below hb Xy.out.lt)
    replace Sy := Lib.hid (Sy.out.mono hb)
    replace HB := Lib.hid (HB.out.trans (hb.mono HB.out.size))
    have Ql := Lib.hid ho
    clear hb ho
    obtain ⟨x4a, x4b, _, _⟩ := Xx.out.facts
    obtain ⟨x5a, x5b, _, _⟩ := Xf.out.facts
    go_wp2_with fail
    refine (same_yes e _ _ A A _ Sx.out Sf.out rfl).mono ?_
    clear x4a x4b x5a x5b
    rintro e w5 ⟨rfl, hb⟩
    replace Xf := Lib.hid (Xf.out.below hb Xf.out.lt)
    replace Sf := Lib.hid (Sf.out.mono hb)
    replace Xg := Lib.hid (Xg.out.below hb Xg.out.lt)
    replace Sg := Lib.hid (Sg.out.mono hb)
    replace Xx := Lib.hid (Xx.out.below hb Xx.out.lt)
    replace Sx := Lib.hid (Sx.out.mono hb)
    replace Xy := Lib.hid (Xy.out.below hb Xy.out.lt)
    replace Sy := Lib.hid (Sy.out.mono hb)
    replace Ql := Lib.hid (Ql.out.mono hb)
    replace HB := Lib.hid (HB.out.trans (hb.mono HB.out.size))
    clear hb
    obtain ⟨x6a, x6b, _, _⟩ := Xy.out.facts
    obtain ⟨x7a, x7b, _, _⟩ := Xg.out.facts
    go_wp2_with fail
    refine (same_yes d _ _ B B _ Sy.out Sg.out rfl).mono ?_
    clear x6a x6b x7a x7b
    rintro e w6 ⟨rfl, hb⟩
    replace Xf := Lib.hid (Xf.out.below hb Xf.out.lt)
    replace Sf := Lib.hid (Sf.out.mono hb)
    replace Xg := Lib.hid (Xg.out.below hb Xg.out.lt)
    replace Sg := Lib.hid (Sg.out.mono hb)
    replace Xx := Lib.hid (Xx.out.below hb Xx.out.lt)
    replace Sx := Lib.hid (Sx.out.mono hb)
    replace Xy := Lib.hid (Xy.out.below hb Xy.out.lt)
    replace Sy := Lib.hid (Sy.out.mono hb)
    replace Ql := Lib.hid (Ql.out.mono hb)
    replace HB := Lib.hid (HB.out.trans (hb.mono HB.out.size))
    clear hb
    obtain ⟨x8a, x8b, _, _⟩ := Xf.out.facts
    obtain ⟨x9a, x9b, _, _⟩ := Xg.out.facts
    go_wp2_with fail
    refine (JD.out _ _ _ Sf.out Sg.out).mono ?_
    clear x8a x8b x9a x9b
    rintro e w7 ⟨o, rfl, ho, hb⟩
    obtain ⟨om, cm, rfl⟩ := ho.shape
    replace Xf := Lib.hid (Xf.out.below hb Xf.out.lt)
    replace Sf := Lib.hid (Sf.out.mono hb)
    replace Xg := Lib.hid (Xg.out.below hb Xg.out.lt)
    replace Sg := Lib.hid (Sg.out.mono hb)
    replace Xx := Lib.hid (Xx.out.below hb Xx.out.lt)
    replace Sx := Lib.hid (Sx.out.mono hb)
    replace Xy := Lib.hid (Xy.out.below hb Xy.out.lt)
    replace Sy := Lib.hid (Sy.out.mono hb)
    replace Ql := Lib.hid (Ql.out.mono hb)
    replace HB := Lib.hid (HB.out.trans (hb.mono HB.out.size))
    have Qm := Lib.hid ho
    clear hb ho
    go_wp2_with fail
    refine (samerecs_yes _ _ R R _ Ql.out Qm.out rfl).mono ?_
    rintro e w8 ⟨rfl, hb⟩
    replace Xf := Lib.hid (Xf.out.below hb Xf.out.lt)
    replace Sf := Lib.hid (Sf.out.mono hb)
    replace Xg := Lib.hid (Xg.out.below hb Xg.out.lt)
    replace Sg := Lib.hid (Sg.out.mono hb)
    replace Xx := Lib.hid (Xx.out.below hb Xx.out.lt)
    replace Sx := Lib.hid (Sx.out.mono hb)
    replace Xy := Lib.hid (Xy.out.below hb Xy.out.lt)
    replace Sy := Lib.hid (Sy.out.mono hb)
    replace Ql := Lib.hid (Ql.out.mono hb)
    replace Qm := Lib.hid (Qm.out.mono hb)
    replace HB := Lib.hid (HB.out.trans (hb.mono HB.out.size))
    clear hb
    go_wp2_with fail
    refine (live_yes _).mono ?_
    rintro e w9 ⟨rfl, hb⟩
    replace Xf := Lib.hid (Xf.out.below hb Xf.out.lt)
    replace Sf := Lib.hid (Sf.out.mono hb)
    replace Xg := Lib.hid (Xg.out.below hb Xg.out.lt)
    replace Sg := Lib.hid (Sg.out.mono hb)
    replace Xx := Lib.hid (Xx.out.below hb Xx.out.lt)
    replace Sx := Lib.hid (Sx.out.mono hb)
    replace Xy := Lib.hid (Xy.out.below hb Xy.out.lt)
    replace Sy := Lib.hid (Sy.out.mono hb)
    replace Ql := Lib.hid (Ql.out.mono hb)
    replace Qm := Lib.hid (Qm.out.mono hb)
    replace HB := Lib.hid (HB.out.trans (hb.mono HB.out.size))
    clear hb
    go_wp2
    go_ret
    exact ⟨rfl, HB.out⟩
  · go_enter Try.func4, Try.ntmps4
    go_wp2_with fail
    refine (few_no e d _ _ A B _ Sf.out Sg.out hf).mono ?_
    rintro e w1 ⟨rfl, hb⟩
    replace Xf := Lib.hid (Xf.out.below hb Xf.out.lt)
    replace Sf := Lib.hid (Sf.out.mono hb)
    replace Xg := Lib.hid (Xg.out.below hb Xg.out.lt)
    replace Sg := Lib.hid (Sg.out.mono hb)
    replace HB := Lib.hid (HB.out.trans (hb.mono HB.out.size))
    clear hb
    go_wp2_with fail
    refine (live_yes _).mono ?_
    rintro e w2 ⟨rfl, hb⟩
    replace Xf := Lib.hid (Xf.out.below hb Xf.out.lt)
    replace Sf := Lib.hid (Sf.out.mono hb)
    replace Xg := Lib.hid (Xg.out.below hb Xg.out.lt)
    replace Sg := Lib.hid (Sg.out.mono hb)
    replace HB := Lib.hid (HB.out.trans (hb.mono HB.out.size))
    clear hb
    go_wp2
    go_ret
    exact ⟨rfl, HB.out⟩
end Go.Proofs.Ytjhaedhjbnhiaaa
