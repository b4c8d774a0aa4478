/- Texts joined into one file: Fil10, FilLaws, GMap. -/
import Derived.Test.YtfloipdkhmgibaaS07
import Derived.Test.YtfloipdkhmgibaaS04
import Derived.Maps.OwnSet
import Derived.Maps.OwnOps
import Derived.Maps.RangeWalk
import Derived.Sort.KeysCollected

/- siphonref11.Diff: the document's records are the same. -/
namespace Go.Proofs.Ytfloipdkhmgibaa
open Go.RowKit Go.Lib Go.Sort
set_option maxRecDepth 20000

def lessL (A B : List Str) : List Str := (sasc A).filter fun x => !B.contains x

theorem lessL_eq {A B C : List Str} (p : Str → Bool) (h : ∀ x, (x ∈ A ∧ x ∉ B) ↔ (x ∈ C ∧ p x = true)) : lessL A B = sasc (C.filter p) := by
  refine srising_ext ((sasc_rising A).filter _) (sasc_rising _) (fun x => ?_)
  rw [lessL, List.mem_filter, sasc_mem, sasc_mem, List.mem_filter]
  simpa using h x

theorem adm_iff (e : Bool) (L : List Str) (x : Str) : adm e L x = true ↔ (x ∈ L ↔ e = false) := by
  unfold adm
  cases e <;> simp

def rdiff (g : Str) (e1 : Bool) (A : List Str) (e2 : Bool) (B : List Str) : List Rec :=
  if e1 = e2 then (if e1 then rec1 5 g (lessL A B) ++ rec1 6 g (lessL B A) else rec1 5 g (lessL B A) ++ rec1 6 g (lessL A B)) else [(if e2 then 4 else 3, g, sasc B)]

theorem rdiff_eq (g : Str) (e1 : Bool) (A : List Str) (e2 : Bool) (B : List Str) : rdiff g e1 A e2 B = pdiff g e1 A e2 B := by
  unfold rdiff pdiff
  by_cases he : e1 = e2
  · subst he
    rw [if_pos rfl, if_pos rfl]
    cases e1
    · have h1 : lessL B A = sasc ((A ++ B).filter (pDif false B false A)) := lessL_eq _ (fun x => by simp [pDif, adm]; exact fun h _ => .inr h)
      have h2 : lessL A B = sasc ((A ++ B).filter (pDif false A false B)) := lessL_eq _ (fun x => by simp [pDif, adm]; exact fun h _ => .inl h)
      rw [← h1, ← h2]; rfl
    · have h1 : lessL A B = sasc ((A ++ B).filter (pDif true B true A)) := lessL_eq _ (fun x => by simp [pDif, adm]; exact ⟨fun h => ⟨.inl h.1, h.2, h.1⟩, fun h => ⟨h.2.2, h.2.1⟩⟩)
      have h2 : lessL B A = sasc ((A ++ B).filter (pDif true A true B)) := lessL_eq _ (fun x => by simp [pDif, adm]; exact ⟨fun h => ⟨.inr h.1, h.2, h.1⟩, fun h => ⟨h.2.2, h.2.1⟩⟩)
      rw [← h1, ← h2]; rfl
  · rw [if_neg he, if_neg he]

theorem RowQ.push_new {w w' : World} {base : Nat} {v v' s : Value} {Q : List QRec} {k : Int} {g : Str} {L : List Str} {o : Obj} (h : RowQ w base v Q) (hs : Strs w s L) (hl : Lies base s) (hm : g.length ≤ maxLen) (hB : base ≤ w.heap.size) (hne : L ≠ [] → s.ownBlock ≠ v.ownBlock)
    (hown : w'.ownsRow base 54 3 v' (Q.length + 1) (Q.flatMap qcells ++ [.int .i64 k, .string (bstr g), s])) (hg : (w.alloc o).grownBy w' v.ownBlock) (hv : v'.ownBlock = v.ownBlock ∨ v'.ownBlock = some (w.alloc o).heap.size) :
    RowQ w' base v' (Q ++ [(k, g, s, L)]) ∧ Below base w w' := by
  have hb : Below w.heap.size w (w.alloc o) := (Below.refl _ _).alloc (Nat.le_refl _) _
  exact ⟨(h.below hb).push (q := (k, g, s, L)) (hs.mono hb) hl hm hne hown hg hv, below_own (hb.mono hB) (h.1.alloc o) (Nat.le_refl _) (by simp; omega) hg⟩

set_option maxHeartbeats 8000000 in
theorem rdiff_any (g : Str) (e1 e2 : Bool) (v u : Value) (A B : List Str) (w : World) (hg : g.length ≤ maxLen) (hv : Strs w v A) (hu : Strs w u B) :
    Calls Try.prog 41 #[.string (bstr g), .agg #[.bool e1, v], .agg #[.bool e2, u]] w (RetRecs w (pdiff g e1 A e2 B)) := by
  rw [← rdiff_eq]
  obtain ⟨ao, cap, rfl⟩ := hv.shape
  obtain ⟨bo, bcap, rfl⟩ := hu.shape
  obtain ⟨i0, hi, hz0, hz1, hz2⟩ := info_parts infoRec
  obtain ⟨W0, hW0⟩ : ∃ W0, W0 = (w.alloc (.cells #[.bool e1, .slice ao A.length cap] 28)).alloc (.cells #[.bool e2, .slice bo B.length bcap] 28) := ⟨_, rfl⟩
  have hb0 : Below w.heap.size w W0 := by rw [hW0]; exact ((Below.refl _ _).alloc (Nat.le_refl _) _).alloc (by simp) _
  have hs0 : W0.heap.size = w.heap.size + 2 := by rw [hW0]; simp
  have f1 : FBox W0 w.heap.size e1 (.slice ao A.length cap) := by rw [hW0]; exact (FBox.new _ _ rfl).old _
  have f2 : FBox W0 (w.heap.size + 1) e2 (.slice bo B.length bcap) := by rw [hW0]; exact FBox.new _ _ (by simp)
  by_cases he : e1 = e2
  · have HE := Lib.hid (show rdiff g e1 A e2 B = (if e1 then rec1 5 g (lessL A B) ++ rec1 6 g (lessL B A) else rec1 5 g (lessL B A) ++ rec1 6 g (lessL A B)) from if_pos he)
    rw [HE.out]
    subst he
    have HM := Lib.hid (less_any _ _ B A W0 (hu.mono hb0) (hv.mono hb0))
    have HL := Lib.hid (fun W1 (hb : Below W0.heap.size W0 W1) => less_any _ _ A B W1 ((hv.mono hb0).mono hb) ((hu.mono hb0).mono hb))
    have HF := Lib.hid (And.intro f1 f2)
    have HB0 := Lib.hid hb0
    have hlm : (lessL B A).length ≤ B.length := Nat.le_trans (List.length_filter_le _ _) (sasc_length B)
    have hll : (lessL A B).length ≤ A.length := Nat.le_trans (List.length_filter_le _ _) (sasc_length A)
    change Hid (Calls _ _ _ _ (RetStrs _ (lessL B A))) at HM
    change Hid (∀ W1, Below W0.heap.size W0 W1 → Calls _ _ _ _ (RetStrs _ (lessL A B))) at HL
    have HS0 := Lib.hid hs0
    rw [hW0] at HM HL HF HB0 HS0
    generalize lessL B A = M at *
    generalize lessL A B = L at *
    clear hv hu hb0 hs0 f1 f2 hW0 W0 HE hlm hll
    cases e1
    · by_cases hM : M = [] <;> by_cases hL : L = []
      · subst hM
        subst hL
        have HNE := Lib.hid (And.intro True.intro True.intro)
        go_enter Try.func41, Try.ntmps41
        go_wp2_with (first | ((with_reducible refine (HL.out w1 HM1.out.2.1).mono ?_); rintro e w2 ⟨ol, rfl, hl2, hb2, hll2⟩; obtain ⟨lo, lc, rfl⟩ := hl2.shape; obtain ⟨x0, x1, _, _⟩ := (HF.out.1.below (HM1.out.2.1.trans (hb2.mono HM1.out.2.1.size)) (by simp <;> omega)).facts; have HB2 := Lib.hid (HM1.out.2.1.trans (hb2.mono HM1.out.2.1.size)); have HSM := Lib.hid (HM1.out.1.mono hb2); have HSL := Lib.hid hl2; have HLM := Lib.hid (HM1.out.2.2.mono (lo' := w.heap.size + 2) (by rw [HS0.out]; omega)); have HLL := Lib.hid (hll2.mono (lo' := w.heap.size + 2) (by have := HM1.out.2.1.size; rw [HS0.out] at this; omega)); have HQ0 := Lib.hid (RowQ.nil w2 (w.heap.size + 2)); have hz2s : w.heap.size + 2 ≤ w2.heap.size := (by have := HB2.out.size; rw [HS0.out] at this; omega); clear hl2 hb2 hll2) | ((with_reducible refine HM.out.mono ?_); rintro e w1 ⟨om, rfl, hm1, hb1, hlm1⟩; obtain ⟨mo, mc, rfl⟩ := hm1.shape; obtain ⟨x0, x1, _, _⟩ := (HF.out.1.below hb1 (by simp <;> omega)).facts; obtain ⟨y0, y1, _, _⟩ := (HF.out.2.below hb1 (by simp <;> omega)).facts; have HM1 := Lib.hid (And.intro hm1 (And.intro hb1 hlm1)); clear hm1 hb1 hlm1))
        go_ret
        exact ⟨_, rfl, by simpa [rec1] using Recs.nil _, HB0.out.trans (HB2.out.mono HB0.out.size)⟩
      · subst hM
        have hL1 : (0 : Int) < L.length := by have := List.length_pos_iff.2 hL; omega
        have dL : decide ((0 : Int) < (L.length : Int)) = true := decide_eq_true hL1
        have HNE := Lib.hid (And.intro True.intro True.intro)
        have HNL := Lib.hid hL; clear hL
        go_enter Try.func41, Try.ntmps41
        go_wp2_with (first | (at_builtin; refine wpList_append_vals _ rfl _ _ 47 rfl (w.heap.size + 2) 54 i0 _ 3 48 Try.underlying47 hi hz0 hz1 hz2 rfl (by decide) (.slice none 0 0) 0 [] rfl (HQ0.out.1.alloc _) _ 1 [.int .i64 6, .string (bstr g), (.slice lo L.length lc)] rfl (sliceOf_block (heap_new _ _ _ rfl) rfl (by simp [Value.oneCell'])) (by unfold maxLen; simp) (by simp) (by simp; omega) ?_; intro v3 w3 ho hgr hv; obtain ⟨vo, vc, rfl⟩ := own_form ho; have HP3 := Lib.hid (HQ0.out.push_new (L := L) HSL.out HLL.out hg hz2s (fun hne => (by obtain ⟨b, hb, _⟩ := HSL.out.block hne; rw [hb]; simp [Value.ownBlock])) ho hgr hv); clear ho hgr hv) | ((with_reducible refine (HL.out w1 HM1.out.2.1).mono ?_); rintro e w2 ⟨ol, rfl, hl2, hb2, hll2⟩; obtain ⟨lo, lc, rfl⟩ := hl2.shape; obtain ⟨x0, x1, _, _⟩ := (HF.out.1.below (HM1.out.2.1.trans (hb2.mono HM1.out.2.1.size)) (by simp <;> omega)).facts; have HB2 := Lib.hid (HM1.out.2.1.trans (hb2.mono HM1.out.2.1.size)); have HSM := Lib.hid (HM1.out.1.mono hb2); have HSL := Lib.hid hl2; have HLM := Lib.hid (HM1.out.2.2.mono (lo' := w.heap.size + 2) (by rw [HS0.out]; omega)); have HLL := Lib.hid (hll2.mono (lo' := w.heap.size + 2) (by have := HM1.out.2.1.size; rw [HS0.out] at this; omega)); have HQ0 := Lib.hid (RowQ.nil w2 (w.heap.size + 2)); have hz2s : w.heap.size + 2 ≤ w2.heap.size := (by have := HB2.out.size; rw [HS0.out] at this; omega); clear hl2 hb2 hll2) | ((with_reducible refine HM.out.mono ?_); rintro e w1 ⟨om, rfl, hm1, hb1, hlm1⟩; obtain ⟨mo, mc, rfl⟩ := hm1.shape; obtain ⟨x0, x1, _, _⟩ := (HF.out.1.below hb1 (by simp <;> omega)).facts; obtain ⟨y0, y1, _, _⟩ := (HF.out.2.below hb1 (by simp <;> omega)).facts; have HM1 := Lib.hid (And.intro hm1 (And.intro hb1 hlm1)); clear hm1 hb1 hlm1))
        go_ret
        refine ⟨_, rfl, ?_, HB0.out.trans ((HB2.out.mono HB0.out.size).trans (HP3.out.2.mono (by omega)))⟩
        have := HP3.out.1.recs (by simp)
        simpa [rec1, qrec, HNL.out] using this
      · have hM1 : (0 : Int) < M.length := by have := List.length_pos_iff.2 hM; omega
        subst hL
        have dM : decide ((0 : Int) < (M.length : Int)) = true := decide_eq_true hM1
        have HNE := Lib.hid (And.intro True.intro True.intro)
        have HNM := Lib.hid hM; clear hM
        go_enter Try.func41, Try.ntmps41
        go_wp2_with (first | (at_builtin; refine wpList_append_vals _ rfl _ _ 47 rfl (w.heap.size + 2) 54 i0 _ 3 48 Try.underlying47 hi hz0 hz1 hz2 rfl (by decide) (.slice none 0 0) 0 [] rfl (HQ0.out.1.alloc _) _ 1 [.int .i64 5, .string (bstr g), (.slice mo M.length mc)] rfl (sliceOf_block (heap_new _ _ _ rfl) rfl (by simp [Value.oneCell'])) (by unfold maxLen; simp) (by simp) (by simp; omega) ?_; intro v3 w3 ho hgr hv; obtain ⟨vo, vc, rfl⟩ := own_form ho; have HP3 := Lib.hid (HQ0.out.push_new (L := M) HSM.out HLM.out hg hz2s (fun hne => (by obtain ⟨b, hb, _⟩ := HSM.out.block hne; rw [hb]; simp [Value.ownBlock])) ho hgr hv); clear ho hgr hv) | ((with_reducible refine (HL.out w1 HM1.out.2.1).mono ?_); rintro e w2 ⟨ol, rfl, hl2, hb2, hll2⟩; obtain ⟨lo, lc, rfl⟩ := hl2.shape; obtain ⟨x0, x1, _, _⟩ := (HF.out.1.below (HM1.out.2.1.trans (hb2.mono HM1.out.2.1.size)) (by simp <;> omega)).facts; have HB2 := Lib.hid (HM1.out.2.1.trans (hb2.mono HM1.out.2.1.size)); have HSM := Lib.hid (HM1.out.1.mono hb2); have HSL := Lib.hid hl2; have HLM := Lib.hid (HM1.out.2.2.mono (lo' := w.heap.size + 2) (by rw [HS0.out]; omega)); have HLL := Lib.hid (hll2.mono (lo' := w.heap.size + 2) (by have := HM1.out.2.1.size; rw [HS0.out] at this; omega)); have HQ0 := Lib.hid (RowQ.nil w2 (w.heap.size + 2)); have hz2s : w.heap.size + 2 ≤ w2.heap.size := (by have := HB2.out.size; rw [HS0.out] at this; omega); clear hl2 hb2 hll2) | ((with_reducible refine HM.out.mono ?_); rintro e w1 ⟨om, rfl, hm1, hb1, hlm1⟩; obtain ⟨mo, mc, rfl⟩ := hm1.shape; obtain ⟨x0, x1, _, _⟩ := (HF.out.1.below hb1 (by simp <;> omega)).facts; obtain ⟨y0, y1, _, _⟩ := (HF.out.2.below hb1 (by simp <;> omega)).facts; have HM1 := Lib.hid (And.intro hm1 (And.intro hb1 hlm1)); clear hm1 hb1 hlm1))
        go_ret
        refine ⟨_, rfl, ?_, HB0.out.trans ((HB2.out.mono HB0.out.size).trans (HP3.out.2.mono (by omega)))⟩
        have := HP3.out.1.recs (by simp)
        simpa [rec1, qrec, HNM.out] using this
      · have hM1 : (0 : Int) < M.length := by have := List.length_pos_iff.2 hM; omega
        have hL1 : (0 : Int) < L.length := by have := List.length_pos_iff.2 hL; omega
        have dM : decide ((0 : Int) < (M.length : Int)) = true := decide_eq_true hM1
        have dL : decide ((0 : Int) < (L.length : Int)) = true := decide_eq_true hL1
        have HNE := Lib.hid (And.intro True.intro True.intro)
        have HNM := Lib.hid hM; clear hM
        have HNL := Lib.hid hL; clear hL
        go_enter Try.func41, Try.ntmps41
        go_upto_region 16 with (first | (at_builtin; refine wpList_append_vals _ rfl _ _ 47 rfl (w.heap.size + 2) 54 i0 _ 3 48 Try.underlying47 hi hz0 hz1 hz2 rfl (by decide) (.slice none 0 0) 0 [] rfl (HQ0.out.1.alloc _) _ 1 [.int .i64 5, .string (bstr g), (.slice mo M.length mc)] rfl (sliceOf_block (heap_new _ _ _ rfl) rfl (by simp [Value.oneCell'])) (by unfold maxLen; simp) (by simp) (by simp; omega) ?_; intro v3 w3 ho hgr hv; obtain ⟨vo, vc, rfl⟩ := own_form ho; have HP3 := Lib.hid (HQ0.out.push_new (L := M) HSM.out HLM.out hg hz2s (fun hne => (by obtain ⟨b, hb, _⟩ := HSM.out.block hne; rw [hb]; simp [Value.ownBlock])) ho hgr hv); have HV3 := Lib.hid (And.intro hgr hv); clear ho hgr hv) | ((with_reducible refine (HL.out w1 HM1.out.2.1).mono ?_); rintro e w2 ⟨ol, rfl, hl2, hb2, hll2⟩; obtain ⟨lo, lc, rfl⟩ := hl2.shape; obtain ⟨x0, x1, _, _⟩ := (HF.out.1.below (HM1.out.2.1.trans (hb2.mono HM1.out.2.1.size)) (by simp <;> omega)).facts; have HB2 := Lib.hid (HM1.out.2.1.trans (hb2.mono HM1.out.2.1.size)); have HSM := Lib.hid (HM1.out.1.mono hb2); have HSL := Lib.hid hl2; have HLM := Lib.hid (HM1.out.2.2.mono (lo' := w.heap.size + 2) (by rw [HS0.out]; omega)); have HLL := Lib.hid (hll2.mono (lo' := w.heap.size + 2) (by have := HM1.out.2.1.size; rw [HS0.out] at this; omega)); have HQ0 := Lib.hid (RowQ.nil w2 (w.heap.size + 2)); have hz2s : w.heap.size + 2 ≤ w2.heap.size := (by have := HB2.out.size; rw [HS0.out] at this; omega); clear hl2 hb2 hll2) | ((with_reducible refine HM.out.mono ?_); rintro e w1 ⟨om, rfl, hm1, hb1, hlm1⟩; obtain ⟨mo, mc, rfl⟩ := hm1.shape; obtain ⟨x0, x1, _, _⟩ := (HF.out.1.below hb1 (by simp <;> omega)).facts; obtain ⟨y0, y1, _, _⟩ := (HF.out.2.below hb1 (by simp <;> omega)).facts; have HM1 := Lib.hid (And.intro hm1 (And.intro hb1 hlm1)); clear hm1 hb1 hlm1))
        have HD3 := Lib.hid (show L ≠ [] → (Value.slice lo L.length lc).ownBlock ≠ (Value.slice vo (0 + 1) vc).ownBlock from fun hne => by
          obtain ⟨b, hb, hlt⟩ := HSL.out.block hne
          rw [hb]
          rcases HV3.out.2 with e | e <;> rw [e] <;> simp [Value.ownBlock] <;> omega)
        have HS3 := Lib.hid (HSL.out.grown' (w' := w3) (row := none) ⟨HV3.out.1.os, HV3.out.1.tape, HV3.out.1.output, Nat.le_trans (by simp) HV3.out.1.size, fun k hk _ => (HV3.out.1.block k (by simp; omega) (by simp [Value.ownBlock])).trans (Below.heap_alloc _ _ k hk)⟩ (by intro hne; obtain ⟨b, hb, _⟩ := HSL.out.block hne; rw [hb]; simp))
        have hz3s := HP3.out.2.size
        go_wp2_with ((at_builtin; refine wpList_append_vals _ rfl _ _ 47 rfl (w.heap.size + 2) 54 i0 _ 3 48 Try.underlying47 hi hz0 hz1 hz2 rfl (by decide) _ _ _ rfl (HP3.out.1.1.alloc _) _ 1 [.int .i64 6, .string (bstr g), (.slice lo L.length lc)] rfl (sliceOf_block (heap_new _ _ _ rfl) rfl (by simp [Value.oneCell'])) (by unfold maxLen; simp) (by simp) (by simp; omega) ?_; intro v4 w4 ho hgr hv; obtain ⟨vo', vc', rfl⟩ := own_form ho; have HP4 := Lib.hid (HP3.out.1.push_new (L := L) HS3.out HLL.out hg (Nat.le_trans hz2s hz3s) HD3.out ho hgr hv); clear ho hgr hv))
        go_ret
        refine ⟨_, rfl, ?_, HB0.out.trans ((HB2.out.mono HB0.out.size).trans ((HP3.out.2.trans HP4.out.2).mono (by omega)))⟩
        have := HP4.out.1.recs (by simp)
        simpa [rec1, qrec, HNM.out, HNL.out] using this
    · by_cases hM : M = [] <;> by_cases hL : L = []
      · subst hL
        subst hM
        have HNE := Lib.hid (And.intro True.intro True.intro)
        go_enter Try.func41, Try.ntmps41
        go_wp2_with (first | ((with_reducible refine (HL.out w1 HM1.out.2.1).mono ?_); rintro e w2 ⟨ol, rfl, hl2, hb2, hll2⟩; obtain ⟨lo, lc, rfl⟩ := hl2.shape; obtain ⟨x0, x1, _, _⟩ := (HF.out.1.below (HM1.out.2.1.trans (hb2.mono HM1.out.2.1.size)) (by simp <;> omega)).facts; have HB2 := Lib.hid (HM1.out.2.1.trans (hb2.mono HM1.out.2.1.size)); have HSM := Lib.hid (HM1.out.1.mono hb2); have HSL := Lib.hid hl2; have HLM := Lib.hid (HM1.out.2.2.mono (lo' := w.heap.size + 2) (by rw [HS0.out]; omega)); have HLL := Lib.hid (hll2.mono (lo' := w.heap.size + 2) (by have := HM1.out.2.1.size; rw [HS0.out] at this; omega)); have HQ0 := Lib.hid (RowQ.nil w2 (w.heap.size + 2)); have hz2s : w.heap.size + 2 ≤ w2.heap.size := (by have := HB2.out.size; rw [HS0.out] at this; omega); clear hl2 hb2 hll2) | ((with_reducible refine HM.out.mono ?_); rintro e w1 ⟨om, rfl, hm1, hb1, hlm1⟩; obtain ⟨mo, mc, rfl⟩ := hm1.shape; obtain ⟨x0, x1, _, _⟩ := (HF.out.1.below hb1 (by simp <;> omega)).facts; obtain ⟨y0, y1, _, _⟩ := (HF.out.2.below hb1 (by simp <;> omega)).facts; have HM1 := Lib.hid (And.intro hm1 (And.intro hb1 hlm1)); clear hm1 hb1 hlm1))
        go_ret
        exact ⟨_, rfl, by simpa [rec1] using Recs.nil _, HB0.out.trans (HB2.out.mono HB0.out.size)⟩
      · have hL1 : (0 : Int) < L.length := by have := List.length_pos_iff.2 hL; omega
        subst hM
        have dL : decide ((0 : Int) < (L.length : Int)) = true := decide_eq_true hL1
        have HNE := Lib.hid (And.intro True.intro True.intro)
        have HNL := Lib.hid hL; clear hL
        go_enter Try.func41, Try.ntmps41
        go_wp2_with (first | (at_builtin; refine wpList_append_vals _ rfl _ _ 47 rfl (w.heap.size + 2) 54 i0 _ 3 48 Try.underlying47 hi hz0 hz1 hz2 rfl (by decide) (.slice none 0 0) 0 [] rfl (HQ0.out.1.alloc _) _ 1 [.int .i64 5, .string (bstr g), (.slice lo L.length lc)] rfl (sliceOf_block (heap_new _ _ _ rfl) rfl (by simp [Value.oneCell'])) (by unfold maxLen; simp) (by simp) (by simp; omega) ?_; intro v3 w3 ho hgr hv; obtain ⟨vo, vc, rfl⟩ := own_form ho; have HP3 := Lib.hid (HQ0.out.push_new (L := L) HSL.out HLL.out hg hz2s (fun hne => (by obtain ⟨b, hb, _⟩ := HSL.out.block hne; rw [hb]; simp [Value.ownBlock])) ho hgr hv); clear ho hgr hv) | ((with_reducible refine (HL.out w1 HM1.out.2.1).mono ?_); rintro e w2 ⟨ol, rfl, hl2, hb2, hll2⟩; obtain ⟨lo, lc, rfl⟩ := hl2.shape; obtain ⟨x0, x1, _, _⟩ := (HF.out.1.below (HM1.out.2.1.trans (hb2.mono HM1.out.2.1.size)) (by simp <;> omega)).facts; have HB2 := Lib.hid (HM1.out.2.1.trans (hb2.mono HM1.out.2.1.size)); have HSM := Lib.hid (HM1.out.1.mono hb2); have HSL := Lib.hid hl2; have HLM := Lib.hid (HM1.out.2.2.mono (lo' := w.heap.size + 2) (by rw [HS0.out]; omega)); have HLL := Lib.hid (hll2.mono (lo' := w.heap.size + 2) (by have := HM1.out.2.1.size; rw [HS0.out] at this; omega)); have HQ0 := Lib.hid (RowQ.nil w2 (w.heap.size + 2)); have hz2s : w.heap.size + 2 ≤ w2.heap.size := (by have := HB2.out.size; rw [HS0.out] at this; omega); clear hl2 hb2 hll2) | ((with_reducible refine HM.out.mono ?_); rintro e w1 ⟨om, rfl, hm1, hb1, hlm1⟩; obtain ⟨mo, mc, rfl⟩ := hm1.shape; obtain ⟨x0, x1, _, _⟩ := (HF.out.1.below hb1 (by simp <;> omega)).facts; obtain ⟨y0, y1, _, _⟩ := (HF.out.2.below hb1 (by simp <;> omega)).facts; have HM1 := Lib.hid (And.intro hm1 (And.intro hb1 hlm1)); clear hm1 hb1 hlm1))
        go_ret
        refine ⟨_, rfl, ?_, HB0.out.trans ((HB2.out.mono HB0.out.size).trans (HP3.out.2.mono (by omega)))⟩
        have := HP3.out.1.recs (by simp)
        simpa [rec1, qrec, HNL.out] using this
      · subst hL
        have hM1 : (0 : Int) < M.length := by have := List.length_pos_iff.2 hM; omega
        have dM : decide ((0 : Int) < (M.length : Int)) = true := decide_eq_true hM1
        have HNE := Lib.hid (And.intro True.intro True.intro)
        have HNM := Lib.hid hM; clear hM
        go_enter Try.func41, Try.ntmps41
        go_wp2_with (first | (at_builtin; refine wpList_append_vals _ rfl _ _ 47 rfl (w.heap.size + 2) 54 i0 _ 3 48 Try.underlying47 hi hz0 hz1 hz2 rfl (by decide) (.slice none 0 0) 0 [] rfl (HQ0.out.1.alloc _) _ 1 [.int .i64 6, .string (bstr g), (.slice mo M.length mc)] rfl (sliceOf_block (heap_new _ _ _ rfl) rfl (by simp [Value.oneCell'])) (by unfold maxLen; simp) (by simp) (by simp; omega) ?_; intro v3 w3 ho hgr hv; obtain ⟨vo, vc, rfl⟩ := own_form ho; have HP3 := Lib.hid (HQ0.out.push_new (L := M) HSM.out HLM.out hg hz2s (fun hne => (by obtain ⟨b, hb, _⟩ := HSM.out.block hne; rw [hb]; simp [Value.ownBlock])) ho hgr hv); clear ho hgr hv) | ((with_reducible refine (HL.out w1 HM1.out.2.1).mono ?_); rintro e w2 ⟨ol, rfl, hl2, hb2, hll2⟩; obtain ⟨lo, lc, rfl⟩ := hl2.shape; obtain ⟨x0, x1, _, _⟩ := (HF.out.1.below (HM1.out.2.1.trans (hb2.mono HM1.out.2.1.size)) (by simp <;> omega)).facts; have HB2 := Lib.hid (HM1.out.2.1.trans (hb2.mono HM1.out.2.1.size)); have HSM := Lib.hid (HM1.out.1.mono hb2); have HSL := Lib.hid hl2; have HLM := Lib.hid (HM1.out.2.2.mono (lo' := w.heap.size + 2) (by rw [HS0.out]; omega)); have HLL := Lib.hid (hll2.mono (lo' := w.heap.size + 2) (by have := HM1.out.2.1.size; rw [HS0.out] at this; omega)); have HQ0 := Lib.hid (RowQ.nil w2 (w.heap.size + 2)); have hz2s : w.heap.size + 2 ≤ w2.heap.size := (by have := HB2.out.size; rw [HS0.out] at this; omega); clear hl2 hb2 hll2) | ((with_reducible refine HM.out.mono ?_); rintro e w1 ⟨om, rfl, hm1, hb1, hlm1⟩; obtain ⟨mo, mc, rfl⟩ := hm1.shape; obtain ⟨x0, x1, _, _⟩ := (HF.out.1.below hb1 (by simp <;> omega)).facts; obtain ⟨y0, y1, _, _⟩ := (HF.out.2.below hb1 (by simp <;> omega)).facts; have HM1 := Lib.hid (And.intro hm1 (And.intro hb1 hlm1)); clear hm1 hb1 hlm1))
        go_ret
        refine ⟨_, rfl, ?_, HB0.out.trans ((HB2.out.mono HB0.out.size).trans (HP3.out.2.mono (by omega)))⟩
        have := HP3.out.1.recs (by simp)
        simpa [rec1, qrec, HNM.out] using this
      · have hL1 : (0 : Int) < L.length := by have := List.length_pos_iff.2 hL; omega
        have hM1 : (0 : Int) < M.length := by have := List.length_pos_iff.2 hM; omega
        have dL : decide ((0 : Int) < (L.length : Int)) = true := decide_eq_true hL1
        have dM : decide ((0 : Int) < (M.length : Int)) = true := decide_eq_true hM1
        have HNE := Lib.hid (And.intro True.intro True.intro)
        have HNL := Lib.hid hL; clear hL
        have HNM := Lib.hid hM; clear hM
        go_enter Try.func41, Try.ntmps41
        go_upto_region 16 with (first | (at_builtin; refine wpList_append_vals _ rfl _ _ 47 rfl (w.heap.size + 2) 54 i0 _ 3 48 Try.underlying47 hi hz0 hz1 hz2 rfl (by decide) (.slice none 0 0) 0 [] rfl (HQ0.out.1.alloc _) _ 1 [.int .i64 5, .string (bstr g), (.slice lo L.length lc)] rfl (sliceOf_block (heap_new _ _ _ rfl) rfl (by simp [Value.oneCell'])) (by unfold maxLen; simp) (by simp) (by simp; omega) ?_; intro v3 w3 ho hgr hv; obtain ⟨vo, vc, rfl⟩ := own_form ho; have HP3 := Lib.hid (HQ0.out.push_new (L := L) HSL.out HLL.out hg hz2s (fun hne => (by obtain ⟨b, hb, _⟩ := HSL.out.block hne; rw [hb]; simp [Value.ownBlock])) ho hgr hv); have HV3 := Lib.hid (And.intro hgr hv); clear ho hgr hv) | ((with_reducible refine (HL.out w1 HM1.out.2.1).mono ?_); rintro e w2 ⟨ol, rfl, hl2, hb2, hll2⟩; obtain ⟨lo, lc, rfl⟩ := hl2.shape; obtain ⟨x0, x1, _, _⟩ := (HF.out.1.below (HM1.out.2.1.trans (hb2.mono HM1.out.2.1.size)) (by simp <;> omega)).facts; have HB2 := Lib.hid (HM1.out.2.1.trans (hb2.mono HM1.out.2.1.size)); have HSM := Lib.hid (HM1.out.1.mono hb2); have HSL := Lib.hid hl2; have HLM := Lib.hid (HM1.out.2.2.mono (lo' := w.heap.size + 2) (by rw [HS0.out]; omega)); have HLL := Lib.hid (hll2.mono (lo' := w.heap.size + 2) (by have := HM1.out.2.1.size; rw [HS0.out] at this; omega)); have HQ0 := Lib.hid (RowQ.nil w2 (w.heap.size + 2)); have hz2s : w.heap.size + 2 ≤ w2.heap.size := (by have := HB2.out.size; rw [HS0.out] at this; omega); clear hl2 hb2 hll2) | ((with_reducible refine HM.out.mono ?_); rintro e w1 ⟨om, rfl, hm1, hb1, hlm1⟩; obtain ⟨mo, mc, rfl⟩ := hm1.shape; obtain ⟨x0, x1, _, _⟩ := (HF.out.1.below hb1 (by simp <;> omega)).facts; obtain ⟨y0, y1, _, _⟩ := (HF.out.2.below hb1 (by simp <;> omega)).facts; have HM1 := Lib.hid (And.intro hm1 (And.intro hb1 hlm1)); clear hm1 hb1 hlm1))
        have HD3 := Lib.hid (show M ≠ [] → (Value.slice mo M.length mc).ownBlock ≠ (Value.slice vo (0 + 1) vc).ownBlock from fun hne => by
          obtain ⟨b, hb, hlt⟩ := HSM.out.block hne
          rw [hb]
          rcases HV3.out.2 with e | e <;> rw [e] <;> simp [Value.ownBlock] <;> omega)
        have HS3 := Lib.hid (HSM.out.grown' (w' := w3) (row := none) ⟨HV3.out.1.os, HV3.out.1.tape, HV3.out.1.output, Nat.le_trans (by simp) HV3.out.1.size, fun k hk _ => (HV3.out.1.block k (by simp; omega) (by simp [Value.ownBlock])).trans (Below.heap_alloc _ _ k hk)⟩ (by intro hne; obtain ⟨b, hb, _⟩ := HSM.out.block hne; rw [hb]; simp))
        have hz3s := HP3.out.2.size
        go_wp2_with ((at_builtin; refine wpList_append_vals _ rfl _ _ 47 rfl (w.heap.size + 2) 54 i0 _ 3 48 Try.underlying47 hi hz0 hz1 hz2 rfl (by decide) _ _ _ rfl (HP3.out.1.1.alloc _) _ 1 [.int .i64 6, .string (bstr g), (.slice mo M.length mc)] rfl (sliceOf_block (heap_new _ _ _ rfl) rfl (by simp [Value.oneCell'])) (by unfold maxLen; simp) (by simp) (by simp; omega) ?_; intro v4 w4 ho hgr hv; obtain ⟨vo', vc', rfl⟩ := own_form ho; have HP4 := Lib.hid (HP3.out.1.push_new (L := M) HS3.out HLM.out hg (Nat.le_trans hz2s hz3s) HD3.out ho hgr hv); clear ho hgr hv))
        go_ret
        refine ⟨_, rfl, ?_, HB0.out.trans ((HB2.out.mono HB0.out.size).trans ((HP3.out.2.trans HP4.out.2).mono (by omega)))⟩
        have := HP4.out.1.recs (by simp)
        simpa [rec1, qrec, HNL.out, HNM.out] using this
  · have HE := Lib.hid (show rdiff g e1 A e2 B = [(if e2 then 4 else 3, g, sasc B)] from if_neg he)
    rw [HE.out]
    have hne : (e1 != e2) = true := by simpa using he
    have HC := Lib.hid (srising_any _ B W0 (hu.mono hb0))
    have HB0 := Lib.hid hb0
    rw [hW0] at HC HB0
    generalize sasc B = R at HC ⊢
    clear hv hu hb0 hs0 f1 f2 hW0 W0 HE
    cases e1 <;> cases e2 <;> simp at he
    all_goals
      clear hne
      go_enter Try.func41, Try.ntmps41
      go_wp2_with ((with_reducible refine HC.out.mono ?_); rintro e w' ⟨o, rfl, ho, hb, _⟩; obtain ⟨oo, oc, rfl⟩ := ho.shape; have HB1 := Lib.hid hb; have HO := Lib.hid ho; clear hb ho)
      go_ret
      exact ⟨_, rfl, recs_one (heap_new _ _ _ rfl) (HO.out.mono ((Below.refl _ _).alloc (Nat.le_refl _) _)) hg _, (HB0.out.trans (HB1.out.mono HB0.out.size)).alloc (HB0.out.trans (HB1.out.mono HB0.out.size)).size _⟩
end Go.Proofs.Ytfloipdkhmgibaa

/- Plain laws of filters; the small contracts as the statements want them. -/
namespace Go.Proofs.Ytfloipdkhmgibaa
open Go.RowKit Go.Lib Go.Sort
set_option maxRecDepth 20000

theorem adm_mem {e : Bool} {L : List Str} {x : Str} (h : x ∈ L) : adm e L x = !e := by unfold adm; simp [h]
theorem adm_not {e : Bool} {L : List Str} {x : Str} (h : x ∉ L) : adm e L x = e := by unfold adm; simp [h]
theorem adm_sasc (e : Bool) (L : List Str) (x : Str) : adm e (sasc L) x = adm e L x := by
  by_cases h : x ∈ L
  · rw [adm_mem h, adm_mem ((sasc_mem L x).2 h)]
  · rw [adm_not h, adm_not (fun k => h ((sasc_mem L x).1 k))]

/-- what is made admits just what the rule says -/
theorem made_adm {L : List Str} {p : Str → Bool} {ex : Bool} (h : ∀ x, x ∉ L → p x = ex) (x : Str) : adm ex (sasc (L.filter (pMade p ex))) x = p x := by
  rw [adm_sasc]
  by_cases hm : x ∈ L
  · by_cases hp : pMade p ex x = true
    · rw [adm_mem (List.mem_filter.2 ⟨hm, hp⟩)]
      unfold pMade at hp
      cases h1 : p x <;> cases ex <;> simp_all
    · rw [adm_not (fun k => hp (List.mem_filter.1 k).2)]
      unfold pMade at hp
      cases h1 : p x <;> cases ex <;> simp_all
  · rw [adm_not (fun k => hm (List.mem_filter.1 k).1), h x hm]

theorem or_adm (e1 : Bool) (A : List Str) (e2 : Bool) (B : List Str) (x : Str) : adm (e1 || e2) (sasc ((A ++ B).filter (pMade (pOr e1 A e2 B) (e1 || e2)))) x = (adm e1 A x || adm e2 B x) :=
  made_adm (p := pOr e1 A e2 B) (fun x hx => by rw [List.mem_append] at hx; unfold pOr; rw [adm_not (fun k => hx (.inl k)), adm_not (fun k => hx (.inr k))]) x
theorem and_adm (e1 : Bool) (A : List Str) (e2 : Bool) (B : List Str) (x : Str) : adm (e1 && e2) (sasc ((A ++ B).filter (pMade (pAnd e1 A e2 B) (e1 && e2)))) x = (adm e1 A x && adm e2 B x) :=
  made_adm (p := pAnd e1 A e2 B) (fun x hx => by rw [List.mem_append] at hx; unfold pAnd; rw [adm_not (fun k => hx (.inl k)), adm_not (fun k => hx (.inr k))]) x
theorem not_adm (e1 : Bool) (A : List Str) (x : Str) : adm (!e1) (sasc (A.filter (pMade (pNot e1 A) (!e1)))) x = !adm e1 A x :=
  made_adm (p := pNot e1 A) (fun x hx => by unfold pNot; rw [adm_not hx]) x

theorem sasc_filter (L : List Str) (p : Str → Bool) : (sasc L).filter p = sasc (L.filter p) :=
  srising_ext ((sasc_rising L).filter _) (sasc_rising _) (fun x => by rw [List.mem_filter, sasc_mem, sasc_mem, List.mem_filter])

theorem not_all (e1 : Bool) (A : List Str) : sasc (A.filter (pMade (pNot e1 A) (!e1))) = sasc A :=
  sasc_eq (fun x => by
    rw [List.mem_filter]
    exact ⟨fun h => h.1, fun h => ⟨h, by unfold pMade pNot; rw [adm_mem h]; cases e1 <;> rfl⟩⟩)

/-- filters in their form that admit the same are one -/
theorem fil_ext {e : Bool} {A B : List Str} (ha : A.Pairwise (· < ·)) (hb : B.Pairwise (· < ·)) (h : ∀ x, adm e A x = adm e B x) : A = B :=
  srising_ext ha hb (fun x => by
    have := h x
    by_cases h1 : x ∈ A
    · by_cases h2 : x ∈ B
      · exact ⟨fun _ => h2, fun _ => h1⟩
      · rw [adm_mem h1, adm_not h2] at this; cases e <;> simp at this
    · by_cases h2 : x ∈ B
      · rw [adm_not h1, adm_mem h2] at this; cases e <;> simp at this
      · exact ⟨fun h => absurd h h1, fun h => absurd h h2⟩)

theorem sasc_flen (L : List Str) (p : Str → Bool) : (sasc (L.filter p)).length ≤ L.length := Nat.le_trans (sasc_length _) (List.length_filter_le _ _)
theorem fil_same {E1 E2 : Bool} {L1 L2 : List Str} (hE : E1 = E2) (p1 : L1.Pairwise (· < ·)) (p2 : L2.Pairwise (· < ·)) (h : ∀ x, adm E1 L1 x = adm E2 L2 x) : E1 = E2 ∧ L1 = L2 :=
  ⟨hE, by subst hE; exact fil_ext p1 p2 h⟩
theorem samerecs_yes (v u : Value) (A B : List Rec) (w : World) (h : Recs w v A) (h' : Recs w u B) (he : A = B) :
    Calls Try.prog 19 #[v, u] w fun e w' => e = .returned (.bool true) ∧ Below w.heap.size w w' :=
  (samerecs_any v u A B w h h').mono fun _ _ h => ⟨h.1.trans (ret_bool (decide_eq_true he)), by obtain ⟨n, hn⟩ := h.2; rw [hn]; exact below_draws _ (Below.refl _ _) n⟩
end Go.Proofs.Ytfloipdkhmgibaa

/- A map by addresses with times in memory ('Mp'). -/
namespace Go.Proofs.Ytfloipdkhmgibaa
open Go.RowKit Go.Maps Go.Lib Go.Sort
set_option maxRecDepth 20000

noncomputable abbrev mpT : Value → Option (DataW Unit × List MemPlace) := plainElem Try.prog 3
theorem lawS : Keyed Try.prog 44 := string_keyed Try.underlying44

/-- what is known of an address -/
def look (D : DataW Unit) (a : Str) : Option Int :=
  if has D (.string a) then (match D.atKey (.string a) (.lit (.int .i64 0)) with | .lit (.int .i64 z) => some z | _ => none) else none

/-- block b is a map of at most n addresses that tells F -/
def Mp (w : World) (b n : Nat) (F : Str → Option Int) : Prop :=
  ∃ D : DataW Unit, w.ownsMap Try.prog 44 mpT b n D ∧ ∀ a, look D a = F a

def upd (F : Str → Option Int) (a : Str) (z : Int) : Str → Option Int := fun x => if x = a then some z else F x
def del (F : Str → Option Int) (a : Str) : Str → Option Int := fun x => if x = a then none else F x

theorem keyOf_bstr {a : Str} (h : a.length ≤ maxLen) : keyOf Try.prog 44 (.string (bstr a)) = some (.string a) := by
  simp [keyOf, Try.underlying44, mapKey, bstr_size, h]
  exact bstr_data a

theorem isKey_str (a : Str) : WideAt.IsKeyLit (.string a) := trivial

theorem look_put {D : DataW Unit} (hD : IsMap D) (a : Str) (z : Int) (x : Str) : look (D.put (.string a) (.lit (.int .i64 z))) x = upd (look D) a z x := by
  unfold look upd
  by_cases e : x = a
  · subst e
    rw [has_put_same hD (isKey_str x), atKey_put_same hD (isKey_str x)]
    simp
  · have hne : Lit.string x ≠ Lit.string a := fun h => e (by injection h)
    rw [has_put_other hne, atKey_put_other hne, if_neg e]

theorem look_del {D : DataW Unit} (a : Str) (x : Str) : look (D.del (.string a)) x = del (look D) a x := by
  unfold look del
  by_cases e : x = a
  · subst e
    rw [has_del_same]
    simp
  · have hne : Lit.string x ≠ Lit.string a := fun h => e (by injection h)
    rw [if_neg e]
    simp only [has_del_other hne, atKey_del_other hne]

theorem Mp.lt {w : World} {b n : Nat} {F : Str → Option Int} (h : Mp w b n F) : b < w.heap.size := by
  obtain ⟨D, h, _⟩ := h
  exact h.lt
theorem Mp.kept {w w' : World} {b n : Nat} {F : Str → Option Int} {row : Option Nat} (h : Mp w b n F) (hg : w.grownBy w' row) (hne : some b ≠ row) : Mp w' b n F := by
  obtain ⟨D, h, e⟩ := h
  exact ⟨D, h.kept hg hne, e⟩
theorem Mp.below {w w' : World} {b n B : Nat} {F : Str → Option Int} (h : Mp w b n F) (hb : Below B w w') (hlt : b < B) : Mp w' b n F := by
  obtain ⟨D, ⟨es, clock, h1, h2⟩, e⟩ := h
  exact ⟨D, ⟨es, clock, (hb.block b hlt).trans h1, h2⟩, e⟩
theorem Mp.set {w : World} {b n : Nat} {F : Str → Option Int} (h : Mp w b n F) {p : Addr} (hp : b ≠ p.block) (u : Value) : Mp (w.setCell p u) b n F := by
  obtain ⟨D, h, e⟩ := h
  exact ⟨D, h.setCell hp u, e⟩
theorem Mp.made (w : World) : Mp (w.alloc (.map #[] 0)) w.heap.size 0 (fun _ => none) :=
  ⟨.map [], World.ownsMap_made w _ _ _, fun a => by simp [look, has]⟩
theorem Mp.up {w : World} {b n m : Nat} {F : Str → Option Int} (h : Mp w b n F) (hm : n ≤ m) : Mp w b m F := by
  obtain ⟨D, h, e⟩ := h
  exact ⟨D, h.mono hm, e⟩
theorem Mp.wf {w : World} {b n : Nat} {F : Str → Option Int} (h : Mp w b n F) (a : Str) (ha : a.length ≤ maxLen) (z : Int) (hz : F a = some z) : (Lit.int .i64 z).wf = true := by
  obtain ⟨D, h, e⟩ := h
  obtain ⟨c, _, hat, hw⟩ := h.lookup_int lawS Try.underlying90 Try.underlying3 (Try.zeroValue3 w) (keyOf_bstr ha)
  rw [← e a] at hz
  unfold look at hz
  rw [hat] at hz
  split at hz
  · simp at hz; subst hz; exact hw
  · cases hz

/-- what a look-up hands back -/
theorem Mp.get {w : World} {b n : Nat} {F : Str → Option Int} (h : Mp w b n F) (a : Str) (ha : a.length ≤ maxLen) :
    (Instr.lookup 90 (.map (some b)) (.string (bstr a)) false).run Try.prog w = .ok (.int .i64 ((F a).getD 0)) w := by
  obtain ⟨D, h, e⟩ := h
  obtain ⟨c, hr, hat, hw⟩ := h.lookup_int lawS Try.underlying90 Try.underlying3 (Try.zeroValue3 w) (keyOf_bstr ha)
  rw [hr, ← e a]
  unfold look
  rw [hat]
  by_cases hh : has D (.string a) = true
  · simp [hh]
  · have := atKey_of_not_has (by simpa using hh) (.lit (.int .i64 0) : DataW Unit) (D := D) (k := .string a)
    rw [hat] at this
    simp only [DataW.lit.injEq, Lit.int.injEq, true_and] at this
    simp [hh, this]

theorem Mp.getOk {w : World} {b n : Nat} {F : Str → Option Int} (h : Mp w b n F) (a : Str) (ha : a.length ≤ maxLen) :
    (Instr.lookup 90 (.map (some b)) (.string (bstr a)) true).run Try.prog w = .ok (.tuple #[.int .i64 ((F a).getD 0), .bool (F a).isSome]) w := by
  have hg := h.get a ha
  obtain ⟨D, h, e⟩ := h
  obtain ⟨v, ps, hr, hv⟩ := h.look_ok lawS Try.underlying90 (Try.zeroValue3 w) (plainElem_int Try.underlying3 (by decide)) (keyOf_bstr ha)
  obtain ⟨c, rfl, hc, hw⟩ := plainElem_int_inv Try.underlying3 hv
  simp only [Prod.mk.injEq] at hc
  rw [hr, ← e a]
  unfold look
  rw [hc.1]
  by_cases hh : has D (.string a) = true
  · simp [hh]
  · have := atKey_of_not_has (by simpa using hh) (.lit (.int .i64 0) : DataW Unit) (D := D) (k := .string a)
    rw [hc.1] at this
    simp only [DataW.lit.injEq, Lit.int.injEq, true_and] at this
    simp [hh, this]

/-- .. and a store -/
theorem Mp.put {w : World} {b n : Nat} {F : Str → Option Int} (h : Mp w b n F) (a : Str) (ha : a.length ≤ maxLen) (z : Int) (hz : (Lit.int .i64 z).wf = true) (hn : n < maxLen) :
    ∃ w', (Instr.mapUpdate 90 (.map (some b)) (.string (bstr a)) (.int .i64 z)).run Try.prog w = .ok () w' ∧ Mp w' b (n + 1) (upd F a z) ∧ w.grownBy w' (some b) := by
  obtain ⟨D, h, e⟩ := h
  obtain ⟨w', hr, h', hg⟩ := h.update lawS Try.underlying90 hn (keyOf_bstr ha) (plainElem_int Try.underlying3 hz)
  exact ⟨w', hr, ⟨_, h', fun x => by rw [look_put h.isMap]; unfold upd; rw [e x]⟩, hg⟩
end Go.Proofs.Ytfloipdkhmgibaa
