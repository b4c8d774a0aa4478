/- filter.Diff: the records that turn one filter into another one. -/
import Derived.Test.YtjhaedhjbnhiaaaFil8
namespace Go.Proofs.Ytjhaedhjbnhiaaa
open Go.RowKit Go.Lib Go.Sort
attribute [local go_sem ↓] Go.wp_at_zero Go.wp_at_succ

/-- a call that hands back records, and writes nothing that was there -/
def RetRecs (w : World) (R : List Rec) (e : Ending) (w' : World) : Prop := ∃ v, e = .returned v ∧ Recs w' v R ∧ Below w.heap.size w w'

def rec1 (kind : Int) (g : Str) (now : List Str) : List Rec := if now = [] then [] else [(kind, g, now)]

theorem rec1_len (k : Int) (g : Str) (L : List Str) : (rec1 k g L).length ≤ 1 := by unfold rec1; split <;> simp

def pdiff (g : Str) (e1 : Bool) (A : List Str) (e2 : Bool) (B : List Str) : List Rec :=
  if e1 = e2 then rec1 5 g (sasc ((A ++ B).filter (pDif e2 B e1 A))) ++ rec1 6 g (sasc ((A ++ B).filter (pDif e1 A e2 B))) else [(if e2 then 4 else 3, g, sasc B)]

theorem run_fieldF (b : Bool) (ao : Option Addr) (n c : Nat) (w : World) : (Instr.field 24 (.agg #[.bool b, .slice ao n c]) 1).run Try.prog w = .ok (.slice ao n c) w := by kernel_rfl

theorem recs_one {w : World} {b : Nat} {kind : Int} {g : Str} {s : Value} {L : List Str} {T : TypeId} (h : w.heap[b]? = some (.cells #[.int .i64 kind, .string (bstr g), s] T (0, 0))) (hs : Strs w s L) (hg : g.length ≤ maxLen) (c : Nat) : Recs w (.slice (some ⟨b, 0, none⟩) 1 c) [(kind, g, L)] := by
  refine ⟨_, c, b, 0, fun _ => s, rfl, .inr rfl, by simp, fun k hk => ?_⟩
  obtain rfl : k = 0 := by simp at hk; omega
  exact ⟨(Array.getElem?_eq_some_iff.1 h).1, by simp [World.cell?, h], by simp [World.cell?, h], by simp [World.cell?, h], hs, hg⟩

set_option maxHeartbeats 4000000 in
theorem diff_any (g : Str) (e1 e2 : Bool) (v u : Value) (A B : List Str) (w : World) (hg : g.length ≤ maxLen) (hv : Strs w v A) (hu : Strs w u B) (hl : A.length + B.length ≤ 8796093022200) :
    Calls Try.prog 19 #[.string (bstr g), .agg #[.bool e1, v], .agg #[.bool e2, u]] w (RetRecs w (pdiff g e1 A e2 B)) := by
  obtain ⟨ao, cap, rfl⟩ := hv.shape
  obtain ⟨bo, bcap, rfl⟩ := hu.shape
  obtain ⟨W0, hW0⟩ : ∃ W0, W0 = ((w.alloc (.cells #[.string (bstr g)] 25)).alloc (.cells #[.bool e1, .slice ao A.length cap] 24)).alloc (.cells #[.bool e2, .slice bo B.length bcap] 24) := ⟨_, rfl⟩
  have hb0 : Below w.heap.size w W0 := by rw [hW0]; exact (((Below.refl _ _).alloc (Nat.le_refl _) _).alloc (by simp) _).alloc (by simp <;> omega) _
  have hs0 : W0.heap.size = w.heap.size + 3 := by rw [hW0]; simp
  have c0 : W0.cell? ⟨w.heap.size, 0, none⟩ = some (.string (bstr g)) := by rw [hW0]; exact cell_alloc_old (by simp <;> omega) (cell_alloc_old (by simp) (cell_alloc_new rfl rfl))
  have f1 : FBox W0 (w.heap.size + 1) e1 (.slice ao A.length cap) := by rw [hW0]; exact (FBox.new _ _ (by simp)).old _
  have f2 : FBox W0 (w.heap.size + 2) e2 (.slice bo B.length bcap) := by rw [hW0]; exact FBox.new _ _ (by simp)
  by_cases he : e1 = e2
  · have HE := Lib.hid (show pdiff g e1 A e2 B = rec1 5 g (sasc ((A ++ B).filter (pDif e2 B e1 A))) ++ rec1 6 g (sasc ((A ++ B).filter (pDif e1 A e2 B))) from if_pos he)
    rw [HE.out]
    obtain ⟨W1, hW1⟩ : ∃ W1, W1 = W0.alloc (.cells #[.slice none 0 0] 32) := ⟨_, rfl⟩
    have hb1 : Below w.heap.size w W1 := by rw [hW1]; exact hb0.alloc (by omega) _
    have hs1 : W1.heap.size = w.heap.size + 4 := by rw [hW1]; simp [hs0]
    have d0 : W1.cell? ⟨w.heap.size, 0, none⟩ = some (.string (bstr g)) := by rw [hW1]; exact cell_alloc_old (by omega) c0
    have g1 : FBox W1 (w.heap.size + 1) e1 (.slice ao A.length cap) := by rw [hW1]; exact f1.old _
    have g2 : FBox W1 (w.heap.size + 1 + 1) e2 (.slice bo B.length bcap) := by rw [hW1]; exact f2.old _
    have gl : LBox W1 (w.heap.size + 1 + 1 + 1) (.slice none 0 0) := by rw [hW1]; exact heap_new _ _ _ (by omega)
    have HC := Lib.hid (changes_any 5 e1 e2 _ _ A B e1 e2 _ _ A B (w.heap.size + 1) (w.heap.size + 1 + 1) w.heap.size (w.heap.size + 1 + 1 + 1) g _ [] W1 (hv.mono hb1) (hu.mono hb1) g1 g2 (hv.mono hb1) (hu.mono hb1) d0 hg gl (RowQ.nil _ _) (by omega) (by omega) (by omega) hl (by simp))
    have HB1 := Lib.hid hb1
    have HD := Lib.hid (fun v' Q (W2 : World) (hb : Below (w.heap.size + 1 + 1 + 1) W1 W2) (gl : LBox W2 (w.heap.size + 1 + 1 + 1) v') (hq : RowQ W2 (w.heap.size + 1 + 1 + 1 + 1) v' Q) (hQ : Q.length ≤ 1000) =>
      have hb2 : Below w.heap.size w W2 := hb1.trans (hb.mono (by omega))
      changes_any 6 e2 e1 _ _ B A e1 e2 _ _ A B (w.heap.size + 1) (w.heap.size + 1 + 1) w.heap.size (w.heap.size + 1 + 1 + 1) g v' Q W2 (hu.mono hb2) (hv.mono hb2) (g1.below hb (by omega)) (g2.below hb (by omega)) (hv.mono hb2) (hu.mono hb2) ((hb.cell (p := ⟨w.heap.size, 0, none⟩) (by simp <;> omega)).trans d0) hg gl hq (by omega) (by omega) (by omega) hl hQ)
    have HG := Lib.hid (And.intro g1 g2)
    have x1 := g1.facts
    have x2 := g2.facts
    rw [hW1, hW0] at HC HB1 HD HG
    clear hv hu hb0 hb1 hs0 hs1 c0 d0 f1 f2 g1 g2 gl x1 x2 hW1 hW0 W0 W1
    generalize sasc ((A ++ B).filter (pDif e2 B e1 A)) = R5 at HC ⊢
    have hmm : (A ++ B).filter (pDif e1 A e2 B) = (A ++ B).filter (pDif e1 A e2 B) := rfl
    generalize sasc ((A ++ B).filter (pDif e1 A e2 B)) = R6 at HD ⊢
    clear hmm HE
    subst he
    go_enter Try.func19, Try.ntmps19
    go_wp2_with fail
    refine HC.out.mono ?_
    rintro e w2 ⟨rfl, hb2, v2, Q2, hl2, hq2, hQ2⟩
    obtain ⟨x0, x1, _, _⟩ := (HG.out.1.below hb2 (by omega)).facts
    obtain ⟨y0, y1, _, _⟩ := (HG.out.2.below hb2 (by omega)).facts
    have hq2l : Q2.length ≤ 1000 := by
      have := congrArg List.length hQ2
      have h1 : (if R5 = [] then [] else [((5 : Int), g, R5)] : List Rec).length ≤ 1 := by split <;> simp
      rw [List.length_map, List.length_append] at this
      simp only [List.map_nil, List.length_nil] at this
      omega
    have HD2 := Lib.hid (HD.out v2 Q2 w2 hb2 hl2 hq2 hq2l)
    have HQ2 := Lib.hid hQ2
    have HB2 := Lib.hid hb2
    clear hb2 hl2 hq2 hQ2 hq2l
    go_wp2_with fail
    refine HD2.out.mono ?_
    rintro e w3 ⟨rfl, hb3, v3, Q3, hl3, hq3, hQ3⟩
    obtain ⟨z0, _⟩ := hl3.facts
    have HQ3 := Lib.hid hQ3
    have HB3 := Lib.hid hb3
    have HR3 := Lib.hid hq3
    clear hb3 hl3 hq3 hQ3
    go_wp2
    go_ret
    refine ⟨_, rfl, ?_, HB1.out.trans ((HB2.out.trans HB3.out).mono (by omega))⟩
    have e : Q3.map qrec = rec1 5 g R5 ++ rec1 6 g R6 := by
      rw [HQ3.out, HQ2.out]; simp [rec1]
    rw [← e]
    refine HR3.out.recs ?_
    have := congrArg List.length e
    rw [List.length_map, List.length_append] at this
    have h1 := rec1_len 5 g R5
    have h2 := rec1_len 6 g R6
    omega
  · have HE := Lib.hid (show pdiff g e1 A e2 B = [(if e2 then 4 else 3, g, sasc B)] from if_neg he)
    rw [HE.out]
    have hne : (e1 != e2) = true := by simpa using he
    have HC := Lib.hid (norm_any e2 _ B W0.drew ((hu.mono hb0).draws 1) (by omega))
    have HK := Lib.hid (show ∀ W', Below (w.heap.size + 3) W0 W' → W'.cell? ⟨w.heap.size, 0, none⟩ = some (.string (bstr g)) ∧ W'.cell? ⟨w.heap.size + 2, 0, none⟩ = some (.bool e2) ∧ W'.cell? ⟨w.heap.size + 2, 1, none⟩ = some (.slice bo B.length bcap) from fun W' hb =>
      ⟨(hb.cell (p := ⟨w.heap.size, 0, none⟩) (by simp)).trans c0, (f2.below hb (by omega)).facts.1, (f2.below hb (by omega)).facts.2.1⟩)
    have HB0 := Lib.hid hb0
    rw [hW0] at HC HK HB0
    generalize sasc B = R at HC ⊢
    clear hv hu hb0 hs0 c0 f1 f2 hW0 W0 HE
    cases e1 <;> cases e2 <;> simp at he
    · clear hne
      have hfld := run_fieldF
      go_enter Try.func19, Try.ntmps19
      go_wp2
      go_region_held3 (fun w' => w'.cell? ⟨w.heap.size, 0, none⟩ = some (.string (bstr g)) ∧ w'.cell? ⟨w.heap.size + 2, 0, none⟩ = some (.bool true) ∧ w'.cell? ⟨w.heap.size + 2, 1, none⟩ = some (.slice bo B.length bcap)) (first | exact HK.out _ (Below.drew (Below.refl _ _)) | exact HK.out _ HB1.out | exact HK.out _ (HB1.out.alloc (by have := HB1.out.size; simp at this; omega) _)) (((with_reducible refine HC.out.mono ?_); rintro e w' ⟨o, rfl, ho, hb, _⟩; obtain ⟨oo, oc, rfl⟩ := ho.shape; have HB1 := Lib.hid ((Below.drew (Below.refl (w.heap.size + 3) _)).trans (hb.mono (B' := w.heap.size + 3) (by simp))); have HO := Lib.hid ho; clear hb ho))
      go_wp2
      go_ret
      have hb2 : Below w'.heap.size w' (w'.alloc (.cells #[.int .i64 4, .string (bstr g), .slice oo R.length oc] 41)) := (Below.refl _ _).alloc (Nat.le_refl _) _
      have hs := HB1.out.size
      exact ⟨_, rfl, recs_one (heap_new _ _ _ rfl) (HO.out.mono hb2) hg _, (HB0.out.trans (HB1.out.mono (by omega))).trans (hb2.mono (by simp at hs; omega))⟩
    · clear hne
      have hfld := run_fieldF
      go_enter Try.func19, Try.ntmps19
      go_wp2
      go_region_held3 (fun w' => w'.cell? ⟨w.heap.size, 0, none⟩ = some (.string (bstr g)) ∧ w'.cell? ⟨w.heap.size + 2, 0, none⟩ = some (.bool false) ∧ w'.cell? ⟨w.heap.size + 2, 1, none⟩ = some (.slice bo B.length bcap)) (first | exact HK.out _ (Below.drew (Below.refl _ _)) | exact HK.out _ HB1.out | exact HK.out _ (HB1.out.alloc (by have := HB1.out.size; simp at this; omega) _)) (((with_reducible refine HC.out.mono ?_); rintro e w' ⟨o, rfl, ho, hb, _⟩; obtain ⟨oo, oc, rfl⟩ := ho.shape; have HB1 := Lib.hid ((Below.drew (Below.refl (w.heap.size + 3) _)).trans (hb.mono (B' := w.heap.size + 3) (by simp))); have HO := Lib.hid ho; clear hb ho))
      go_wp2
      go_ret
      have hb2 : Below w'.heap.size w' (w'.alloc (.cells #[.int .i64 3, .string (bstr g), .slice oo R.length oc] 41)) := (Below.refl _ _).alloc (Nat.le_refl _) _
      have hs := HB1.out.size
      exact ⟨_, rfl, recs_one (heap_new _ _ _ rfl) (HO.out.mono hb2) hg _, (HB0.out.trans (HB1.out.mono (by omega))).trans (hb2.mono (by simp at hs; omega))⟩
end Go.Proofs.Ytjhaedhjbnhiaaa
