/- siphonref11.Diff: the document's records are the same. -/
import Derived.Test.YtjhaedhjbnhiaaaFil9
namespace Go.Proofs.Ytjhaedhjbnhiaaa
open Go.RowKit Go.Lib Go.Sort

def lessL (A B : List Str) : List Str := (sasc A).filter fun x => !B.contains x

theorem lessL_eq {A B C : List Str} (p : Str → Bool) (h : ∀ x, (x ∈ A ∧ x ∉ B) ↔ (x ∈ C ∧ p x = true)) : lessL A B = sasc (C.filter p) := by
  refine srising_ext ((sasc_rising A).filter _) (sasc_rising _) (fun x => ?_)
  rw [lessL, List.mem_filter, sasc_mem, sasc_mem, List.mem_filter]
  simpa using h x

theorem adm_iff (e : Bool) (L : List Str) (x : Str) : adm e L x = true ↔ (x ∈ L ↔ e = false) := by
  unfold adm
  cases e <;> simp

def rdiff (g : Str) (e1 : Bool) (A : List Str) (e2 : Bool) (B : List Str) : List Rec :=
  if e1 = e2 then (if e1 then rec1 5 g (lessL A B) ++ rec1 6 g (lessL B A) else rec1 5 g (lessL B A) ++ rec1 6 g (lessL A B)) else [(if e2 then 4 else 3, g, sasc B)]

theorem rdiff_eq (g : Str) (e1 : Bool) (A : List Str) (e2 : Bool) (B : List Str) : rdiff g e1 A e2 B = pdiff g e1 A e2 B := by
  unfold rdiff pdiff
  by_cases he : e1 = e2
  · subst he
    rw [if_pos rfl, if_pos rfl]
    cases e1
    · have h1 : lessL B A = sasc ((A ++ B).filter (pDif false B false A)) := lessL_eq _ (fun x => by simp [pDif, adm]; exact fun h _ => .inr h)
      have h2 : lessL A B = sasc ((A ++ B).filter (pDif false A false B)) := lessL_eq _ (fun x => by simp [pDif, adm]; exact fun h _ => .inl h)
      rw [← h1, ← h2]; rfl
    · have h1 : lessL A B = sasc ((A ++ B).filter (pDif true B true A)) := lessL_eq _ (fun x => by simp [pDif, adm]; exact ⟨fun h => ⟨.inl h.1, h.2, h.1⟩, fun h => ⟨h.2.2, h.2.1⟩⟩)
      have h2 : lessL B A = sasc ((A ++ B).filter (pDif true A true B)) := lessL_eq _ (fun x => by simp [pDif, adm]; exact ⟨fun h => ⟨.inr h.1, h.2, h.1⟩, fun h => ⟨h.2.2, h.2.1⟩⟩)
      rw [← h1, ← h2]; rfl
  · rw [if_neg he, if_neg he]

theorem RowQ.push_new {w w' : World} {base : Nat} {v v' s : Value} {Q : List QRec} {k : Int} {g : Str} {L : List Str} {o : Obj} (h : RowQ w base v Q) (hs : Strs w s L) (hl : Lies base s) (hm : g.length ≤ maxLen) (hB : base ≤ w.heap.size) (hne : L ≠ [] → s.ownBlock ≠ v.ownBlock)
    (hown : w'.ownsRow base 41 3 v' (Q.length + 1) (Q.flatMap qcells ++ [.int .i64 k, .string (bstr g), s])) (hg : (w.alloc o).grownBy w' v.ownBlock) (hv : v'.ownBlock = v.ownBlock ∨ v'.ownBlock = some (w.alloc o).heap.size) :
    RowQ w' base v' (Q ++ [(k, g, s, L)]) ∧ Below base w w' := by
  have hb : Below w.heap.size w (w.alloc o) := (Below.refl _ _).alloc (Nat.le_refl _) _
  exact ⟨(h.below hb).push (q := (k, g, s, L)) (hs.mono hb) hl hm hne hown hg hv, below_own (hb.mono hB) (h.1.alloc o) (Nat.le_refl _) (by simp; omega) hg⟩

set_option maxHeartbeats 8000000 in
theorem rdiff_any (g : Str) (e1 e2 : Bool) (v u : Value) (A B : List Str) (w : World) (hg : g.length ≤ maxLen) (hv : Strs w v A) (hu : Strs w u B) :
    Calls Try.prog 21 #[.string (bstr g), .agg #[.bool e1, v], .agg #[.bool e2, u]] w (RetRecs w (pdiff g e1 A e2 B)) := by
  rw [← rdiff_eq]
  obtain ⟨ao, cap, rfl⟩ := hv.shape
  obtain ⟨bo, bcap, rfl⟩ := hu.shape
  obtain ⟨i0, hi, hz0, hz1, hz2⟩ := info_parts infoRec
  obtain ⟨W0, hW0⟩ : ∃ W0, W0 = (w.alloc (.cells #[.bool e1, .slice ao A.length cap] 24)).alloc (.cells #[.bool e2, .slice bo B.length bcap] 24) := ⟨_, rfl⟩
  have hb0 : Below w.heap.size w W0 := by rw [hW0]; exact ((Below.refl _ _).alloc (Nat.le_refl _) _).alloc (by simp) _
  have hs0 : W0.heap.size = w.heap.size + 2 := by rw [hW0]; simp
  have f1 : FBox W0 w.heap.size e1 (.slice ao A.length cap) := by rw [hW0]; exact (FBox.new _ _ rfl).old _
  have f2 : FBox W0 (w.heap.size + 1) e2 (.slice bo B.length bcap) := by rw [hW0]; exact FBox.new _ _ (by simp)
  by_cases he : e1 = e2
  · have HE := Lib.hid (show rdiff g e1 A e2 B = (if e1 then rec1 5 g (lessL A B) ++ rec1 6 g (lessL B A) else rec1 5 g (lessL B A) ++ rec1 6 g (lessL A B)) from if_pos he)
    rw [HE.out]
    subst he
    have HM := Lib.hid (less_any _ _ B A W0 (hu.mono hb0) (hv.mono hb0))
    have HL := Lib.hid (fun W1 (hb : Below W0.heap.size W0 W1) => less_any _ _ A B W1 ((hv.mono hb0).mono hb) ((hu.mono hb0).mono hb))
    have HF := Lib.hid (And.intro f1 f2)
    have HB0 := Lib.hid hb0
    have hlm : (lessL B A).length ≤ B.length := Nat.le_trans (List.length_filter_le _ _) (sasc_length B)
    have hll : (lessL A B).length ≤ A.length := Nat.le_trans (List.length_filter_le _ _) (sasc_length A)
    change Hid (Calls _ _ _ _ (RetStrs _ (lessL B A))) at HM
    change Hid (∀ W1, Below W0.heap.size W0 W1 → Calls _ _ _ _ (RetStrs _ (lessL A B))) at HL
    have HS0 := Lib.hid hs0
    rw [hW0] at HM HL HF HB0 HS0
    generalize lessL B A = M at *
    generalize lessL A B = L at *
    clear hv hu hb0 hs0 f1 f2 hW0 W0 HE hlm hll
    cases e1
    · by_cases hM : M = [] <;> by_cases hL : L = []
      · subst hM
        subst hL
        have HNE := Lib.hid (And.intro True.intro True.intro)
        go_enter Try.func21, Try.ntmps21
        go_wp2_with (first | ((with_reducible refine (HL.out w1 HM1.out.2.1).mono ?_); rintro e w2 ⟨ol, rfl, hl2, hb2, hll2⟩; obtain ⟨lo, lc, rfl⟩ := hl2.shape; obtain ⟨x0, x1, _, _⟩ := (HF.out.1.below (HM1.out.2.1.trans (hb2.mono HM1.out.2.1.size)) (by simp <;> omega)).facts; have HB2 := Lib.hid (HM1.out.2.1.trans (hb2.mono HM1.out.2.1.size)); have HSM := Lib.hid (HM1.out.1.mono hb2); have HSL := Lib.hid hl2; have HLM := Lib.hid (HM1.out.2.2.mono (lo' := w.heap.size + 2) (by rw [HS0.out]; omega)); have HLL := Lib.hid (hll2.mono (lo' := w.heap.size + 2) (by have := HM1.out.2.1.size; rw [HS0.out] at this; omega)); have HQ0 := Lib.hid (RowQ.nil w2 (w.heap.size + 2)); have hz2s : w.heap.size + 2 ≤ w2.heap.size := (by have := HB2.out.size; rw [HS0.out] at this; omega); clear hl2 hb2 hll2) | ((with_reducible refine HM.out.mono ?_); rintro e w1 ⟨om, rfl, hm1, hb1, hlm1⟩; obtain ⟨mo, mc, rfl⟩ := hm1.shape; obtain ⟨x0, x1, _, _⟩ := (HF.out.1.below hb1 (by simp <;> omega)).facts; obtain ⟨y0, y1, _, _⟩ := (HF.out.2.below hb1 (by simp <;> omega)).facts; have HM1 := Lib.hid (And.intro hm1 (And.intro hb1 hlm1)); clear hm1 hb1 hlm1))
        go_ret
        exact ⟨_, rfl, by simpa [rec1] using Recs.nil _, HB0.out.trans (HB2.out.mono HB0.out.size)⟩
      · subst hM
        have hL1 : (0 : Int) < L.length := by have := List.length_pos_iff.2 hL; omega
        have dL : decide ((0 : Int) < (L.length : Int)) = true := decide_eq_true hL1
        have HNE := Lib.hid (And.intro True.intro True.intro)
        have HNL := Lib.hid hL; clear hL
        go_enter Try.func21, Try.ntmps21
        go_wp2_with (first | (at_builtin; refine wpList_append_vals _ rfl _ _ 32 rfl (w.heap.size + 2) 41 i0 _ 3 48 Try.underlying32 hi hz0 hz1 hz2 rfl (by decide) (.slice none 0 0) 0 [] rfl (HQ0.out.1.alloc _) _ 1 [.int .i64 6, .string (bstr g), (.slice lo L.length lc)] rfl (sliceOf_block (heap_new _ _ _ rfl) rfl (by simp [Value.oneCell'])) (by unfold maxLen; simp) (by simp) (by simp; omega) ?_; intro v3 w3 ho hgr hv; obtain ⟨vo, vc, rfl⟩ := own_form ho; have HP3 := Lib.hid (HQ0.out.push_new (L := L) HSL.out HLL.out hg hz2s (fun hne => (by obtain ⟨b, hb, _⟩ := HSL.out.block hne; rw [hb]; simp [Value.ownBlock])) ho hgr hv); clear ho hgr hv) | ((with_reducible refine (HL.out w1 HM1.out.2.1).mono ?_); rintro e w2 ⟨ol, rfl, hl2, hb2, hll2⟩; obtain ⟨lo, lc, rfl⟩ := hl2.shape; obtain ⟨x0, x1, _, _⟩ := (HF.out.1.below (HM1.out.2.1.trans (hb2.mono HM1.out.2.1.size)) (by simp <;> omega)).facts; have HB2 := Lib.hid (HM1.out.2.1.trans (hb2.mono HM1.out.2.1.size)); have HSM := Lib.hid (HM1.out.1.mono hb2); have HSL := Lib.hid hl2; have HLM := Lib.hid (HM1.out.2.2.mono (lo' := w.heap.size + 2) (by rw [HS0.out]; omega)); have HLL := Lib.hid (hll2.mono (lo' := w.heap.size + 2) (by have := HM1.out.2.1.size; rw [HS0.out] at this; omega)); have HQ0 := Lib.hid (RowQ.nil w2 (w.heap.size + 2)); have hz2s : w.heap.size + 2 ≤ w2.heap.size := (by have := HB2.out.size; rw [HS0.out] at this; omega); clear hl2 hb2 hll2) | ((with_reducible refine HM.out.mono ?_); rintro e w1 ⟨om, rfl, hm1, hb1, hlm1⟩; obtain ⟨mo, mc, rfl⟩ := hm1.shape; obtain ⟨x0, x1, _, _⟩ := (HF.out.1.below hb1 (by simp <;> omega)).facts; obtain ⟨y0, y1, _, _⟩ := (HF.out.2.below hb1 (by simp <;> omega)).facts; have HM1 := Lib.hid (And.intro hm1 (And.intro hb1 hlm1)); clear hm1 hb1 hlm1))
        go_ret
        refine ⟨_, rfl, ?_, HB0.out.trans ((HB2.out.mono HB0.out.size).trans (HP3.out.2.mono (by omega)))⟩
        have := HP3.out.1.recs (by simp)
        simpa [rec1, qrec, HNL.out] using this
      · have hM1 : (0 : Int) < M.length := by have := List.length_pos_iff.2 hM; omega
        subst hL
        have dM : decide ((0 : Int) < (M.length : Int)) = true := decide_eq_true hM1
        have HNE := Lib.hid (And.intro True.intro True.intro)
        have HNM := Lib.hid hM; clear hM
        go_enter Try.func21, Try.ntmps21
        go_wp2_with (first | (at_builtin; refine wpList_append_vals _ rfl _ _ 32 rfl (w.heap.size + 2) 41 i0 _ 3 48 Try.underlying32 hi hz0 hz1 hz2 rfl (by decide) (.slice none 0 0) 0 [] rfl (HQ0.out.1.alloc _) _ 1 [.int .i64 5, .string (bstr g), (.slice mo M.length mc)] rfl (sliceOf_block (heap_new _ _ _ rfl) rfl (by simp [Value.oneCell'])) (by unfold maxLen; simp) (by simp) (by simp; omega) ?_; intro v3 w3 ho hgr hv; obtain ⟨vo, vc, rfl⟩ := own_form ho; have HP3 := Lib.hid (HQ0.out.push_new (L := M) HSM.out HLM.out hg hz2s (fun hne => (by obtain ⟨b, hb, _⟩ := HSM.out.block hne; rw [hb]; simp [Value.ownBlock])) ho hgr hv); clear ho hgr hv) | ((with_reducible refine (HL.out w1 HM1.out.2.1).mono ?_); rintro e w2 ⟨ol, rfl, hl2, hb2, hll2⟩; obtain ⟨lo, lc, rfl⟩ := hl2.shape; obtain ⟨x0, x1, _, _⟩ := (HF.out.1.below (HM1.out.2.1.trans (hb2.mono HM1.out.2.1.size)) (by simp <;> omega)).facts; have HB2 := Lib.hid (HM1.out.2.1.trans (hb2.mono HM1.out.2.1.size)); have HSM := Lib.hid (HM1.out.1.mono hb2); have HSL := Lib.hid hl2; have HLM := Lib.hid (HM1.out.2.2.mono (lo' := w.heap.size + 2) (by rw [HS0.out]; omega)); have HLL := Lib.hid (hll2.mono (lo' := w.heap.size + 2) (by have := HM1.out.2.1.size; rw [HS0.out] at this; omega)); have HQ0 := Lib.hid (RowQ.nil w2 (w.heap.size + 2)); have hz2s : w.heap.size + 2 ≤ w2.heap.size := (by have := HB2.out.size; rw [HS0.out] at this; omega); clear hl2 hb2 hll2) | ((with_reducible refine HM.out.mono ?_); rintro e w1 ⟨om, rfl, hm1, hb1, hlm1⟩; obtain ⟨mo, mc, rfl⟩ := hm1.shape; obtain ⟨x0, x1, _, _⟩ := (HF.out.1.below hb1 (by simp <;> omega)).facts; obtain ⟨y0, y1, _, _⟩ := (HF.out.2.below hb1 (by simp <;> omega)).facts; have HM1 := Lib.hid (And.intro hm1 (And.intro hb1 hlm1)); clear hm1 hb1 hlm1))
        go_ret
        refine ⟨_, rfl, ?_, HB0.out.trans ((HB2.out.mono HB0.out.size).trans (HP3.out.2.mono (by omega)))⟩
        have := HP3.out.1.recs (by simp)
        simpa [rec1, qrec, HNM.out] using this
      · have hM1 : (0 : Int) < M.length := by have := List.length_pos_iff.2 hM; omega
        have hL1 : (0 : Int) < L.length := by have := List.length_pos_iff.2 hL; omega
        have dM : decide ((0 : Int) < (M.length : Int)) = true := decide_eq_true hM1
        have dL : decide ((0 : Int) < (L.length : Int)) = true := decide_eq_true hL1
        have HNE := Lib.hid (And.intro True.intro True.intro)
        have HNM := Lib.hid hM; clear hM
        have HNL := Lib.hid hL; clear hL
        go_enter Try.func21, Try.ntmps21
        go_upto_region 16 with (first | (at_builtin; refine wpList_append_vals _ rfl _ _ 32 rfl (w.heap.size + 2) 41 i0 _ 3 48 Try.underlying32 hi hz0 hz1 hz2 rfl (by decide) (.slice none 0 0) 0 [] rfl (HQ0.out.1.alloc _) _ 1 [.int .i64 5, .string (bstr g), (.slice mo M.length mc)] rfl (sliceOf_block (heap_new _ _ _ rfl) rfl (by simp [Value.oneCell'])) (by unfold maxLen; simp) (by simp) (by simp; omega) ?_; intro v3 w3 ho hgr hv; obtain ⟨vo, vc, rfl⟩ := own_form ho; have HP3 := Lib.hid (HQ0.out.push_new (L := M) HSM.out HLM.out hg hz2s (fun hne => (by obtain ⟨b, hb, _⟩ := HSM.out.block hne; rw [hb]; simp [Value.ownBlock])) ho hgr hv); have HV3 := Lib.hid (And.intro hgr hv); clear ho hgr hv) | ((with_reducible refine (HL.out w1 HM1.out.2.1).mono ?_); rintro e w2 ⟨ol, rfl, hl2, hb2, hll2⟩; obtain ⟨lo, lc, rfl⟩ := hl2.shape; obtain ⟨x0, x1, _, _⟩ := (HF.out.1.below (HM1.out.2.1.trans (hb2.mono HM1.out.2.1.size)) (by simp <;> omega)).facts; have HB2 := Lib.hid (HM1.out.2.1.trans (hb2.mono HM1.out.2.1.size)); have HSM := Lib.hid (HM1.out.1.mono hb2); have HSL := Lib.hid hl2; have HLM := Lib.hid (HM1.out.2.2.mono (lo' := w.heap.size + 2) (by rw [HS0.out]; omega)); have HLL := Lib.hid (hll2.mono (lo' := w.heap.size + 2) (by have := HM1.out.2.1.size; rw [HS0.out] at this; omega)); have HQ0 := Lib.hid (RowQ.nil w2 (w.heap.size + 2)); have hz2s : w.heap.size + 2 ≤ w2.heap.size := (by have := HB2.out.size; rw [HS0.out] at this; omega); clear hl2 hb2 hll2) | ((with_reducible refine HM.out.mono ?_); rintro e w1 ⟨om, rfl, hm1, hb1, hlm1⟩; obtain ⟨mo, mc, rfl⟩ := hm1.shape; obtain ⟨x0, x1, _, _⟩ := (HF.out.1.below hb1 (by simp <;> omega)).facts; obtain ⟨y0, y1, _, _⟩ := (HF.out.2.below hb1 (by simp <;> omega)).facts; have HM1 := Lib.hid (And.intro hm1 (And.intro hb1 hlm1)); clear hm1 hb1 hlm1))
        have HD3 := Lib.hid (show L ≠ [] → (Value.slice lo L.length lc).ownBlock ≠ (Value.slice vo (0 + 1) vc).ownBlock from fun hne => by
          obtain ⟨b, hb, hlt⟩ := HSL.out.block hne
          rw [hb]
          rcases HV3.out.2 with e | e <;> rw [e] <;> simp [Value.ownBlock] <;> omega)
        have HS3 := Lib.hid (HSL.out.grown' (w' := w3) (row := none) ⟨HV3.out.1.os, HV3.out.1.tape, HV3.out.1.output, Nat.le_trans (by simp) HV3.out.1.size, fun k hk _ => (HV3.out.1.block k (by simp; omega) (by simp [Value.ownBlock])).trans (Below.heap_alloc _ _ k hk)⟩ (by intro hne; obtain ⟨b, hb, _⟩ := HSL.out.block hne; rw [hb]; simp))
        have hz3s := HP3.out.2.size
        go_wp2_with ((at_builtin; refine wpList_append_vals _ rfl _ _ 32 rfl (w.heap.size + 2) 41 i0 _ 3 48 Try.underlying32 hi hz0 hz1 hz2 rfl (by decide) _ _ _ rfl (HP3.out.1.1.alloc _) _ 1 [.int .i64 6, .string (bstr g), (.slice lo L.length lc)] rfl (sliceOf_block (heap_new _ _ _ rfl) rfl (by simp [Value.oneCell'])) (by unfold maxLen; simp) (by simp) (by simp; omega) ?_; intro v4 w4 ho hgr hv; obtain ⟨vo', vc', rfl⟩ := own_form ho; have HP4 := Lib.hid (HP3.out.1.push_new (L := L) HS3.out HLL.out hg (Nat.le_trans hz2s hz3s) HD3.out ho hgr hv); clear ho hgr hv))
        go_ret
        refine ⟨_, rfl, ?_, HB0.out.trans ((HB2.out.mono HB0.out.size).trans ((HP3.out.2.trans HP4.out.2).mono (by omega)))⟩
        have := HP4.out.1.recs (by simp)
        simpa [rec1, qrec, HNM.out, HNL.out] using this
    · by_cases hM : M = [] <;> by_cases hL : L = []
      · subst hL
        subst hM
        have HNE := Lib.hid (And.intro True.intro True.intro)
        go_enter Try.func21, Try.ntmps21
        go_wp2_with (first | ((with_reducible refine (HL.out w1 HM1.out.2.1).mono ?_); rintro e w2 ⟨ol, rfl, hl2, hb2, hll2⟩; obtain ⟨lo, lc, rfl⟩ := hl2.shape; obtain ⟨x0, x1, _, _⟩ := (HF.out.1.below (HM1.out.2.1.trans (hb2.mono HM1.out.2.1.size)) (by simp <;> omega)).facts; have HB2 := Lib.hid (HM1.out.2.1.trans (hb2.mono HM1.out.2.1.size)); have HSM := Lib.hid (HM1.out.1.mono hb2); have HSL := Lib.hid hl2; have HLM := Lib.hid (HM1.out.2.2.mono (lo' := w.heap.size + 2) (by rw [HS0.out]; omega)); have HLL := Lib.hid (hll2.mono (lo' := w.heap.size + 2) (by have := HM1.out.2.1.size; rw [HS0.out] at this; omega)); have HQ0 := Lib.hid (RowQ.nil w2 (w.heap.size + 2)); have hz2s : w.heap.size + 2 ≤ w2.heap.size := (by have := HB2.out.size; rw [HS0.out] at this; omega); clear hl2 hb2 hll2) | ((with_reducible refine HM.out.mono ?_); rintro e w1 ⟨om, rfl, hm1, hb1, hlm1⟩; obtain ⟨mo, mc, rfl⟩ := hm1.shape; obtain ⟨x0, x1, _, _⟩ := (HF.out.1.below hb1 (by simp <;> omega)).facts; obtain ⟨y0, y1, _, _⟩ := (HF.out.2.below hb1 (by simp <;> omega)).facts; have HM1 := Lib.hid (And.intro hm1 (And.intro hb1 hlm1)); clear hm1 hb1 hlm1))
        go_ret
        exact ⟨_, rfl, by simpa [rec1] using Recs.nil _, HB0.out.trans (HB2.out.mono HB0.out.size)⟩
      · have hL1 : (0 : Int) < L.length := by have := List.length_pos_iff.2 hL; omega
        subst hM
        have dL : decide ((0 : Int) < (L.length : Int)) = true := decide_eq_true hL1
        have HNE := Lib.hid (And.intro True.intro True.intro)
        have HNL := Lib.hid hL; clear hL
        go_enter Try.func21, Try.ntmps21
        go_wp2_with (first | (at_builtin; refine wpList_append_vals _ rfl _ _ 32 rfl (w.heap.size + 2) 41 i0 _ 3 48 Try.underlying32 hi hz0 hz1 hz2 rfl (by decide) (.slice none 0 0) 0 [] rfl (HQ0.out.1.alloc _) _ 1 [.int .i64 5, .string (bstr g), (.slice lo L.length lc)] rfl (sliceOf_block (heap_new _ _ _ rfl) rfl (by simp [Value.oneCell'])) (by unfold maxLen; simp) (by simp) (by simp; omega) ?_; intro v3 w3 ho hgr hv; obtain ⟨vo, vc, rfl⟩ := own_form ho; have HP3 := Lib.hid (HQ0.out.push_new (L := L) HSL.out HLL.out hg hz2s (fun hne => (by obtain ⟨b, hb, _⟩ := HSL.out.block hne; rw [hb]; simp [Value.ownBlock])) ho hgr hv); clear ho hgr hv) | ((with_reducible refine (HL.out w1 HM1.out.2.1).mono ?_); rintro e w2 ⟨ol, rfl, hl2, hb2, hll2⟩; obtain ⟨lo, lc, rfl⟩ := hl2.shape; obtain ⟨x0, x1, _, _⟩ := (HF.out.1.below (HM1.out.2.1.trans (hb2.mono HM1.out.2.1.size)) (by simp <;> omega)).facts; have HB2 := Lib.hid (HM1.out.2.1.trans (hb2.mono HM1.out.2.1.size)); have HSM := Lib.hid (HM1.out.1.mono hb2); have HSL := Lib.hid hl2; have HLM := Lib.hid (HM1.out.2.2.mono (lo' := w.heap.size + 2) (by rw [HS0.out]; omega)); have HLL := Lib.hid (hll2.mono (lo' := w.heap.size + 2) (by have := HM1.out.2.1.size; rw [HS0.out] at this; omega)); have HQ0 := Lib.hid (RowQ.nil w2 (w.heap.size + 2)); have hz2s : w.heap.size + 2 ≤ w2.heap.size := (by have := HB2.out.size; rw [HS0.out] at this; omega); clear hl2 hb2 hll2) | ((with_reducible refine HM.out.mono ?_); rintro e w1 ⟨om, rfl, hm1, hb1, hlm1⟩; obtain ⟨mo, mc, rfl⟩ := hm1.shape; obtain ⟨x0, x1, _, _⟩ := (HF.out.1.below hb1 (by simp <;> omega)).facts; obtain ⟨y0, y1, _, _⟩ := (HF.out.2.below hb1 (by simp <;> omega)).facts; have HM1 := Lib.hid (And.intro hm1 (And.intro hb1 hlm1)); clear hm1 hb1 hlm1))
        go_ret
        refine ⟨_, rfl, ?_, HB0.out.trans ((HB2.out.mono HB0.out.size).trans (HP3.out.2.mono (by omega)))⟩
        have := HP3.out.1.recs (by simp)
        simpa [rec1, qrec, HNL.out] using this
      · subst hL
        have hM1 : (0 : Int) < M.length := by have := List.length_pos_iff.2 hM; omega
        have dM : decide ((0 : Int) < (M.length : Int)) = true := decide_eq_true hM1
        have HNE := Lib.hid (And.intro True.intro True.intro)
        have HNM := Lib.hid hM; clear hM
        go_enter Try.func21, Try.ntmps21
        go_wp2_with (first | (at_builtin; refine wpList_append_vals _ rfl _ _ 32 rfl (w.heap.size + 2) 41 i0 _ 3 48 Try.underlying32 hi hz0 hz1 hz2 rfl (by decide) (.slice none 0 0) 0 [] rfl (HQ0.out.1.alloc _) _ 1 [.int .i64 6, .string (bstr g), (.slice mo M.length mc)] rfl (sliceOf_block (heap_new _ _ _ rfl) rfl (by simp [Value.oneCell'])) (by unfold maxLen; simp) (by simp) (by simp; omega) ?_; intro v3 w3 ho hgr hv; obtain ⟨vo, vc, rfl⟩ := own_form ho; have HP3 := Lib.hid (HQ0.out.push_new (L := M) HSM.out HLM.out hg hz2s (fun hne => (by obtain ⟨b, hb, _⟩ := HSM.out.block hne; rw [hb]; simp [Value.ownBlock])) ho hgr hv); clear ho hgr hv) | ((with_reducible refine (HL.out w1 HM1.out.2.1).mono ?_); rintro e w2 ⟨ol, rfl, hl2, hb2, hll2⟩; obtain ⟨lo, lc, rfl⟩ := hl2.shape; obtain ⟨x0, x1, _, _⟩ := (HF.out.1.below (HM1.out.2.1.trans (hb2.mono HM1.out.2.1.size)) (by simp <;> omega)).facts; have HB2 := Lib.hid (HM1.out.2.1.trans (hb2.mono HM1.out.2.1.size)); have HSM := Lib.hid (HM1.out.1.mono hb2); have HSL := Lib.hid hl2; have HLM := Lib.hid (HM1.out.2.2.mono (lo' := w.heap.size + 2) (by rw [HS0.out]; omega)); have HLL := Lib.hid (hll2.mono (lo' := w.heap.size + 2) (by have := HM1.out.2.1.size; rw [HS0.out] at this; omega)); have HQ0 := Lib.hid (RowQ.nil w2 (w.heap.size + 2)); have hz2s : w.heap.size + 2 ≤ w2.heap.size := (by have := HB2.out.size; rw [HS0.out] at this; omega); clear hl2 hb2 hll2) | ((with_reducible refine HM.out.mono ?_); rintro e w1 ⟨om, rfl, hm1, hb1, hlm1⟩; obtain ⟨mo, mc, rfl⟩ := hm1.shape; obtain ⟨x0, x1, _, _⟩ := (HF.out.1.below hb1 (by simp <;> omega)).facts; obtain ⟨y0, y1, _, _⟩ := (HF.out.2.below hb1 (by simp <;> omega)).facts; have HM1 := Lib.hid (And.intro hm1 (And.intro hb1 hlm1)); clear hm1 hb1 hlm1))
        go_ret
        refine ⟨_, rfl, ?_, HB0.out.trans ((HB2.out.mono HB0.out.size).trans (HP3.out.2.mono (by omega)))⟩
        have := HP3.out.1.recs (by simp)
        simpa [rec1, qrec, HNM.out] using this
      · have hL1 : (0 : Int) < L.length := by have := List.length_pos_iff.2 hL; omega
        have hM1 : (0 : Int) < M.length := by have := List.length_pos_iff.2 hM; omega
        have dL : decide ((0 : Int) < (L.length : Int)) = true := decide_eq_true hL1
        have dM : decide ((0 : Int) < (M.length : Int)) = true := decide_eq_true hM1
        have HNE := Lib.hid (And.intro True.intro True.intro)
        have HNL := Lib.hid hL; clear hL
        have HNM := Lib.hid hM; clear hM
        go_enter Try.func21, Try.ntmps21
        go_upto_region 16 with (first | (at_builtin; refine wpList_append_vals _ rfl _ _ 32 rfl (w.heap.size + 2) 41 i0 _ 3 48 Try.underlying32 hi hz0 hz1 hz2 rfl (by decide) (.slice none 0 0) 0 [] rfl (HQ0.out.1.alloc _) _ 1 [.int .i64 5, .string (bstr g), (.slice lo L.length lc)] rfl (sliceOf_block (heap_new _ _ _ rfl) rfl (by simp [Value.oneCell'])) (by unfold maxLen; simp) (by simp) (by simp; omega) ?_; intro v3 w3 ho hgr hv; obtain ⟨vo, vc, rfl⟩ := own_form ho; have HP3 := Lib.hid (HQ0.out.push_new (L := L) HSL.out HLL.out hg hz2s (fun hne => (by obtain ⟨b, hb, _⟩ := HSL.out.block hne; rw [hb]; simp [Value.ownBlock])) ho hgr hv); have HV3 := Lib.hid (And.intro hgr hv); clear ho hgr hv) | ((with_reducible refine (HL.out w1 HM1.out.2.1).mono ?_); rintro e w2 ⟨ol, rfl, hl2, hb2, hll2⟩; obtain ⟨lo, lc, rfl⟩ := hl2.shape; obtain ⟨x0, x1, _, _⟩ := (HF.out.1.below (HM1.out.2.1.trans (hb2.mono HM1.out.2.1.size)) (by simp <;> omega)).facts; have HB2 := Lib.hid (HM1.out.2.1.trans (hb2.mono HM1.out.2.1.size)); have HSM := Lib.hid (HM1.out.1.mono hb2); have HSL := Lib.hid hl2; have HLM := Lib.hid (HM1.out.2.2.mono (lo' := w.heap.size + 2) (by rw [HS0.out]; omega)); have HLL := Lib.hid (hll2.mono (lo' := w.heap.size + 2) (by have := HM1.out.2.1.size; rw [HS0.out] at this; omega)); have HQ0 := Lib.hid (RowQ.nil w2 (w.heap.size + 2)); have hz2s : w.heap.size + 2 ≤ w2.heap.size := (by have := HB2.out.size; rw [HS0.out] at this; omega); clear hl2 hb2 hll2) | ((with_reducible refine HM.out.mono ?_); rintro e w1 ⟨om, rfl, hm1, hb1, hlm1⟩; obtain ⟨mo, mc, rfl⟩ := hm1.shape; obtain ⟨x0, x1, _, _⟩ := (HF.out.1.below hb1 (by simp <;> omega)).facts; obtain ⟨y0, y1, _, _⟩ := (HF.out.2.below hb1 (by simp <;> omega)).facts; have HM1 := Lib.hid (And.intro hm1 (And.intro hb1 hlm1)); clear hm1 hb1 hlm1))
        have HD3 := Lib.hid (show M ≠ [] → (Value.slice mo M.length mc).ownBlock ≠ (Value.slice vo (0 + 1) vc).ownBlock from fun hne => by
          obtain ⟨b, hb, hlt⟩ := HSM.out.block hne
          rw [hb]
          rcases HV3.out.2 with e | e <;> rw [e] <;> simp [Value.ownBlock] <;> omega)
        have HS3 := Lib.hid (HSM.out.grown' (w' := w3) (row := none) ⟨HV3.out.1.os, HV3.out.1.tape, HV3.out.1.output, Nat.le_trans (by simp) HV3.out.1.size, fun k hk _ => (HV3.out.1.block k (by simp; omega) (by simp [Value.ownBlock])).trans (Below.heap_alloc _ _ k hk)⟩ (by intro hne; obtain ⟨b, hb, _⟩ := HSM.out.block hne; rw [hb]; simp))
        have hz3s := HP3.out.2.size
        go_wp2_with ((at_builtin; refine wpList_append_vals _ rfl _ _ 32 rfl (w.heap.size + 2) 41 i0 _ 3 48 Try.underlying32 hi hz0 hz1 hz2 rfl (by decide) _ _ _ rfl (HP3.out.1.1.alloc _) _ 1 [.int .i64 6, .string (bstr g), (.slice mo M.length mc)] rfl (sliceOf_block (heap_new _ _ _ rfl) rfl (by simp [Value.oneCell'])) (by unfold maxLen; simp) (by simp) (by simp; omega) ?_; intro v4 w4 ho hgr hv; obtain ⟨vo', vc', rfl⟩ := own_form ho; have HP4 := Lib.hid (HP3.out.1.push_new (L := M) HS3.out HLM.out hg (Nat.le_trans hz2s hz3s) HD3.out ho hgr hv); clear ho hgr hv))
        go_ret
        refine ⟨_, rfl, ?_, HB0.out.trans ((HB2.out.mono HB0.out.size).trans ((HP3.out.2.trans HP4.out.2).mono (by omega)))⟩
        have := HP4.out.1.recs (by simp)
        simpa [rec1, qrec, HNL.out, HNM.out] using this
  · have HE := Lib.hid (show rdiff g e1 A e2 B = [(if e2 then 4 else 3, g, sasc B)] from if_neg he)
    rw [HE.out]
    have hne : (e1 != e2) = true := by simpa using he
    have HC := Lib.hid (srising_any _ B W0 (hu.mono hb0))
    have HB0 := Lib.hid hb0
    rw [hW0] at HC HB0
    generalize sasc B = R at HC ⊢
    clear hv hu hb0 hs0 f1 f2 hW0 W0 HE
    cases e1 <;> cases e2 <;> simp at he
    all_goals
      clear hne
      go_enter Try.func21, Try.ntmps21
      go_wp2_with ((with_reducible refine HC.out.mono ?_); rintro e w' ⟨o, rfl, ho, hb, _⟩; obtain ⟨oo, oc, rfl⟩ := ho.shape; have HB1 := Lib.hid hb; have HO := Lib.hid ho; clear hb ho)
      go_ret
      exact ⟨_, rfl, recs_one (heap_new _ _ _ rfl) (HO.out.mono ((Below.refl _ _).alloc (Nat.le_refl _) _)) hg _, (HB0.out.trans (HB1.out.mono HB0.out.size)).alloc (HB0.out.trans (HB1.out.mono HB0.out.size)).size _⟩
end Go.Proofs.Ytjhaedhjbnhiaaa
