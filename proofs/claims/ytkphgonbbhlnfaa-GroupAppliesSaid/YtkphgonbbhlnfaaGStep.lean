/- siphonref17.some and but, for whichever kind; what siphonref17.Apply hands back. -/
import Derived.Test.YtkphgonbbhlnfaaGAsk
import Derived.Test.YtkphgonbbhlnfaaGPlain3
import Derived.Test.YtkphgonbbhlnfaaGSome
import Derived.Test.YtkphgonbbhlnfaaGBut
namespace Go.Proofs.Ytkphgonbbhlnfaa
open Go.RowKit Go.Lib Go.Maps Go.Sort

/-- what some and but hand back, of whichever kind -/
def RetStep (w : World) (ex : Bool) (at' : Int) (F : Str → Option Int) (g : Bool) (q : Str → Bool) (e : Ending) (w' : World) : Prop :=
  ∃ v L u R, e = .returned (.tuple #[.agg #[.bool ex, .int .i64 at', v], .agg #[.bool g, u]]) ∧ Tms w' v L ∧ Asc F L ∧ Strs w' u R ∧ Rises q R ∧ R.length ≤ 60 ∧ Below w.heap.size w w'
theorem RetSA.step {w : World} {ex : Bool} {at' : Int} {F : Str → Option Int} {g : Bool} {R : List Str} {q : Str → Bool} {e : Ending} {w' : World} (h : RetSA w ex at' F g R e w') (hR : Rises q R) (hl : R.length ≤ 60) : RetStep w ex at' F g q e w' := by
  obtain ⟨v, L, u, h1, h2, h3, h4, h5⟩ := h
  exact ⟨v, L, u, R, h1, h2, h3, h4, hR, hl, h5⟩

theorem rsome_in (v : Value) (L : List Tmd) {F : Str → Option Int} (kind : Int) (rv : Value) (C : List Str) (m : Int) (w : World) (hk1 : 1 ≤ kind) (hk2 : kind ≤ 6) (h : Tms w v L) (hA : Asc F L) (hg : GoodF false F) (hr : Strs w rv C) (hL : L.length ≤ 60) (hC : C.length ≤ 60) (hm : (Lit.int .i64 m).wf = true) :
    Calls Try.prog 39 #[.agg #[.bool false, .int .i64 0, v], .int .i64 kind, rv, .int .i64 m] w (RetStep w (inEx kind false) (inAt kind 0 m) (inF kind false 0 F C m) (inG kind false) (fun a => inQ kind false 0 F C m a)) := by
  have n1 := nmL_len L false
  rcases kind_six hk1 hk2 with rfl | rfl | rfl | rfl | rfl | rfl
  · exact (some_1 false 0 v L rv C m w h hA hr hL hC hm).mono fun e w' hs => by rw [plain_some_in hA hg] at hs; simpa [inEx, inAt, inF, inG, inQ] using hs.step (q := fun _ => false) ⟨List.Pairwise.nil, by simp⟩ (by simp)
  · exact (some_2 false 0 v L rv C m w h hA hr hL hC hm).mono fun e w' hs => by rw [plain_some_ex hA hg] at hs; simpa [inEx, inAt, inF, inG, inQ, freshOf] using hs.step (q := fun _ => false) ⟨List.Pairwise.nil, by simp⟩ (by simp)
  · exact (some_3 false 0 v L rv C m w h hA hr hL hC hm).mono fun e w' hs => by rw [plain_some_in hA hg] at hs; simpa [inEx, inAt, inF, inG, inQ] using hs.step (ask_in hA) (Nat.le_trans (lessF_len _ _) (by omega))
  · exact (some_4 false 0 v L rv C m w h hA hr hL hC hm).mono fun e w' hs => by rw [plain_some_ex hA hg] at hs; simpa [inEx, inAt, inF, inG, inQ, freshOf] using hs.step (ask_ex hA) (Nat.le_trans (bothL_len _ _) (by omega))
  · exact (some_5 false 0 v L rv C m w h hA hr hL hC hm).mono fun e w' hs => by rw [plain_some_in hA hg] at hs; simpa [inEx, inAt, inF, inG, inQ] using hs.step (q := fun _ => false) ⟨List.Pairwise.nil, by simp⟩ (by simp)
  · exact (some_6 false 0 v L rv C m w h hA hr hL hC hm).mono fun e w' hs => by rw [plain_keep hA hg] at hs; simpa [inEx, inAt, inF, inG, inQ] using hs.step (ask_block hA) (Nat.le_trans (bothL_len _ _) (by omega))

theorem rsome_any (ex : Bool) (at' : Int) (v : Value) (L : List Tmd) {F : Str → Option Int} (kind : Int) (rv : Value) (C : List Str) (m : Int) (w : World) (hk1 : 1 ≤ kind) (hk2 : kind ≤ 6) (h : Tms w v L) (hA : Asc F L) (hr : Strs w rv C) (hL : L.length ≤ 60) (hC : C.length ≤ 60) (hm : (Lit.int .i64 m).wf = true) :
    Calls Try.prog 39 #[.agg #[.bool ex, .int .i64 at', v], .int .i64 kind, rv, .int .i64 m] w (fun e w' => ∃ x a F' g R v L u, e = .returned (.tuple #[.agg #[.bool x, .int .i64 a, v], .agg #[.bool g, u]]) ∧ Tms w' v L ∧ Asc F' L ∧ Strs w' u R ∧ Below w.heap.size w w') := by
  rcases kind_six hk1 hk2 with rfl | rfl | rfl | rfl | rfl | rfl
  · exact (some_1 ex at' v L rv C m w h hA hr hL hC hm).mono fun e w' hs => ⟨_, _, _, _, _, hs⟩
  · exact (some_2 ex at' v L rv C m w h hA hr hL hC hm).mono fun e w' hs => ⟨_, _, _, _, _, hs⟩
  · exact (some_3 ex at' v L rv C m w h hA hr hL hC hm).mono fun e w' hs => ⟨_, _, _, _, _, hs⟩
  · exact (some_4 ex at' v L rv C m w h hA hr hL hC hm).mono fun e w' hs => ⟨_, _, _, _, _, hs⟩
  · exact (some_5 ex at' v L rv C m w h hA hr hL hC hm).mono fun e w' hs => ⟨_, _, _, _, _, hs⟩
  · exact (some_6 ex at' v L rv C m w h hA hr hL hC hm).mono fun e w' hs => ⟨_, _, _, _, _, hs⟩

theorem rbut_in (at' : Int) (v : Value) (L : List Tmd) {F : Str → Option Int} (kind : Int) (rv : Value) (C : List Str) (m : Int) (w : World) (hk1 : 1 ≤ kind) (hk2 : kind ≤ 6) (h : Tms w v L) (hA : Asc F L) (h1 : 1 ≤ at') (hr : Strs w rv C) (hL : L.length ≤ 60) (hC : C.length ≤ 60) (hm : (Lit.int .i64 m).wf = true) (ha : (Lit.int .i64 at').wf = true) :
    Calls Try.prog 40 #[.agg #[.bool true, .int .i64 at', v], .int .i64 kind, rv, .int .i64 m] w (RetStep w (inEx kind true) (inAt kind at' m) (inF kind true at' F C m) (inG kind true) (fun a => inQ kind true at' F C m a)) := by
  have n1 := nmL_len L false
  have n2 := nmL_len L true
  rcases kind_six hk1 hk2 with rfl | rfl | rfl | rfl | rfl | rfl
  · exact (but_1 true at' v L rv C m w h hA hr hL hC hm ha).mono fun e w' hs => by rw [plain_but_in hA] at hs; simpa [inEx, inAt, inF, inG, inQ] using hs.step (q := fun _ => false) ⟨List.Pairwise.nil, by simp⟩ (by simp)
  · exact (but_2 true at' v L rv C m w h hA hr hL hC hm ha).mono fun e w' hs => by rw [plain_but_ex hA] at hs; simpa [inEx, inAt, inF, inG, inQ, freshOf] using hs.step (q := fun _ => false) ⟨List.Pairwise.nil, by simp⟩ (by simp)
  · exact (but_3 true at' v L rv C m w h hA hr hL hC hm ha).mono fun e w' hs => by rw [plain_but_in hA] at hs; simpa [inEx, inAt, inF, inG, inQ] using hs.step (ask_in hA) (Nat.le_trans (lessF_len _ _) (by omega))
  · exact (but_4 true at' v L rv C m w h hA hr hL hC hm ha).mono fun e w' hs => by rw [plain_but_to hA] at hs; simpa [inEx, inAt, inF, inG, inQ, freshOf] using hs.step (ask_to hA h1) (Nat.le_trans (lessF_len _ _) (by omega))
  · exact (but_5 true at' v L rv C m w h hA hr hL hC hm ha).mono fun e w' hs => by rw [plain_but_in hA] at hs; simpa [inEx, inAt, inF, inG, inQ] using hs.step (q := fun _ => false) ⟨List.Pairwise.nil, by simp⟩ (by simp)
  · exact (but_6 true at' v L rv C m w h hA hr hL hC hm ha).mono fun e w' hs => by rw [plain_but_block hA] at hs; simpa [inEx, inAt, inF, inG, inQ] using hs.step (ask_blk hA) (Nat.le_trans (lessF_len _ _) (by omega))

/-- what siphonref17.Apply hands back -/
def RetRapp (w : World) (ex : Bool) (at' : Int) (L : List Tmd) (kind : Int) (S : List Str) (n : Nat) (now mem last : Int) (e : Ending) (w' : World) : Prop :=
  Below w.heap.size w w' ∧
  ((verdict (pcheck ex at' L) kind n now mem last ≠ 0 ∧ e = .returned (.tuple #[noState, .bool false, noAsk, .int .i64 (verdict (pcheck ex at' L) kind n now mem last)])) ∨
   (verdict (pcheck ex at' L) kind n now mem last = 0 ∧ ∃ M : List Tmd, Asc (inF kind ex at' (rd L) S (now + mem)) M ∧
     ((60 < M.length ∧ e = .returned (.tuple #[noState, .bool false, noAsk, .int .i64 1])) ∨
      (M.length ≤ 60 ∧ (inEx kind ex = false ∧ M = []) ∧ e = .returned (.tuple #[noState, .bool false, noAsk, .int .i64 0])) ∨
      (M.length ≤ 60 ∧ ¬ (inEx kind ex = false ∧ M = []) ∧ ∃ v L' u R, e = .returned (.tuple #[.agg #[.bool (inEx kind ex), .int .i64 (if inG kind ex then min (inAt kind at' (now + mem)) (now + last) else inAt kind at' (now + mem)), v], .bool true, .agg #[.bool (inG kind ex), u], .int .i64 0]) ∧
        Tms w' v L' ∧ Strs w' u R ∧ Rises (fun a => inQ kind ex at' (rd L) S (now + mem) a) R ∧ Asc (soonF (inF kind ex at' (rd L) S (now + mem)) R (now + last)) L'))))
end Go.Proofs.Ytkphgonbbhlnfaa
