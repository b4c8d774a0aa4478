/- What the laws of layer 17 ask of few, Apply and Expire. -/
import Derived.Test.YtkphgonbbhlnfaaGLiveW
import Derived.Test.YtkphgonbbhlnfaaGPlain
namespace Go.Proofs.Ytkphgonbbhlnfaa
open Go.RowKit Go.Lib Go.Maps Go.Sort

theorem few_yes (ex : Bool) (at' : Int) (v : Value) (L : List Tmd) (kind : Int) (g : ByteArray) (rv : Value) (C : List Str) (w : World) (h : Tms w v L) (hr : Strs w rv C) (hf : L.length ≤ 100 ∧ C.length ≤ 100) :
    Calls Try.prog 19 #[.agg #[.bool ex, .int .i64 at', v], .agg #[.int .i64 kind, .string g, rv]] w fun e w' => e = .returned (.bool true) ∧ Below w.heap.size w w' := by
  have := few_any ex at' v L kind g rv C w h hr
  simpa [hf.1, hf.2] using this
theorem few_no (ex : Bool) (at' : Int) (v : Value) (L : List Tmd) (kind : Int) (g : ByteArray) (rv : Value) (C : List Str) (w : World) (h : Tms w v L) (hr : Strs w rv C) (hf : ¬ (L.length ≤ 100 ∧ C.length ≤ 100)) :
    Calls Try.prog 19 #[.agg #[.bool ex, .int .i64 at', v], .agg #[.int .i64 kind, .string g, rv]] w fun e w' => e = .returned (.bool false) ∧ Below w.heap.size w w' := by
  have := few_any ex at' v L kind g rv C w h hr
  have e : (decide (L.length ≤ 100) && decide (C.length ≤ 100)) = false := by rw [Bool.and_eq_false_iff, decide_eq_false_iff_not, decide_eq_false_iff_not]; omega
  rwa [e] at this

theorem check_ok (ex : Bool) (at' : Int) (v : Value) (L : List Tmd) (w : World) (h : Tms w v L) (hp : pcheck ex at' L = true) :
    Calls Try.prog 12 #[.agg #[.bool ex, .int .i64 at', v]] w fun e w' => e = .returned (.int .i64 0) ∧ Below w.heap.size w w' := by
  have := check_any ex at' v L w h
  rwa [hp] at this

theorem tsame_yes (e : Bool) (a : Int) (v u : Value) (A : List Tmd) (w : World) (h : Tms w v A) (h' : Tms w u A) :
    Calls Try.prog 16 #[.agg #[.bool e, .int .i64 a, v], .agg #[.bool e, .int .i64 a, u]] w fun e w' => e = .returned (.bool true) ∧ Below w.heap.size w w' :=
  (tsame_any e e a a v u A A w h h').mono (fun _ _ ⟨h1, h2⟩ => ⟨by rw [h1]; simp, h2⟩)

/-- Expire of a state that may be -/
theorem expire_ok (ex : Bool) (at' : Int) (v : Value) (L : List Tmd) (now : Int) (w : World) (h : Tms w v L) (hp : pcheck ex at' L = true) (e2 : Bool) (he : (ex && decide (now < at')) = e2) :
    Calls Try.prog 13 #[.agg #[.bool ex, .int .i64 at', v], .int .i64 now] w fun e w' => Below w.heap.size w w' ∧ ∃ v' L' a2, e = .returned (.tuple #[.agg #[.bool e2, .int .i64 a2, v'], .bool (e2 || !L'.isEmpty)]) ∧ Tms w' v' L' ∧ Asc (exF e2 now (rd L)) L' ∧ pcheck e2 a2 L' = true ∧ a2 = (if e2 then at' else 0) := by
  refine (expire_any ex at' v L now w h).mono ?_
  rintro e w' (⟨hf, _⟩ | ⟨_, v', L', rfl, hT, hA, hl, _, hb⟩)
  · rw [hp] at hf; cases hf
  · have hc := exp_check hp hA hl
    rw [he] at hA hc ⊢
    exact ⟨hb, v', L', _, rfl, hT, hA, hc, rfl⟩

theorem admits_ok (ex : Bool) (at' : Int) (v : Value) (L : List Tmd) (now : Int) (a : Str) (ha : a.length ≤ maxLen) (w : World) (h : Tms w v L) (hp : padm ex at' L now a = true) :
    Calls Try.prog 14 #[.agg #[.bool ex, .int .i64 at', v], .string (bstr a), .int .i64 now] w fun e w' => e = .returned (.bool true) ∧ Below w.heap.size w w' := by
  have := admits_any ex at' v L now a ha w h
  rwa [hp] at this
end Go.Proofs.Ytkphgonbbhlnfaa
