/- Opening a row of IgmpRecords. -/
import Derived.Test.YthkogdgfkhhleaaJOpen
namespace Go.Proofs.Ythkogdgfkhhleaa
open Go.ChangeShapes Go.WideShapes Go.ChangeAt Go.RowKit Go.Joins Go.Deep
set_option maxRecDepth 20000
set_option maxRecDepth 100000
theorem open_rowC {H : Type} {enc : TypeId × Value → H} {w : World} {base : Nat} {spare : Nat → Bool} {held : Bool} {fuel : Nat} {cs : List Value} {x : DataW H × List MemPlace}
    (h : DataW.trod enc Try.prog w base spare held fuel 38 cs = some x) (hsz : (DataW.weights Try.prog 38 x.1).all (· ≤ reachBytes) = true) :
    ∃ (S : Str) (N Z : Int) (vr : Value) (R : List Rec), cs = [.string (bstr S), .int .i64 N, .int .i64 Z, vr] ∧ RecsW w vr R := by
  obtain ⟨xs, n, _, rfl, hcl, hlen, hf⟩ := DataW.trod_struct Try.underlying38 h
  match xs, hlen with
  | [y0, y1, y2, y3], _ =>
    have hc4 : cs.length = 4 := hcl.trans (by kernel_rfl)
    match cs, hc4 with
    | [c0, c1, c2, c3], _ =>
      have g0 := hf 0 _ rfl
      have g1 := hf 1 _ rfl
      have g2 := hf 2 _ rfl
      have g3 := hf 3 _ rfl
      have ks : Try.prog.cellsOf 9 = 1 := by kernel_rfl
      have k8 : Try.prog.cellsOf 25 = 1 := by kernel_rfl
      simp [cellsIt, ks, k8] at g0 g1 g2 g3
      obtain ⟨s, e0, _, _⟩ := DataW.trod_string Try.underlying9 g0
      obtain ⟨N, e1, _, _⟩ := DataW.trod_int Try.underlying3 g1
      obtain ⟨Z, e2, _, _⟩ := DataW.trod_int Try.underlying3 g2
      obtain ⟨vr, R, e3, hR⟩ := open_RecsC g3 (weights_part Try.underlying38 hsz 3 _ _ rfl rfl)
      obtain ⟨S, rfl⟩ : ∃ g, s = bstr g := ⟨_, bstr_of _⟩
      simp only [List.cons.injEq, and_true] at e0 e1 e2 e3
      subst e0 e1 e2 e3
      exact ⟨S, N, Z, _, R, rfl, hR⟩
theorem open_row {H : Type} {enc : TypeId × Value → H} {w : World} {base : Nat} {spare : Nat → Bool} {held : Bool} {r : Reach} {b0 : Nat} {v : Value} {d : DataW H} {p : List MemPlace}
    (hv : Value.okWide Try.prog w r b0 38 v) (h : DataW.Trod enc Try.prog w base spare held 38 v d p) (hsz : (DataW.weights Try.prog 38 d).all (· ≤ reachBytes) = true) :
    ∃ (S : Str) (N Z : Int) (ro : Option Addr) (R : List Rec) (rc : Nat), v = .agg #[.string (bstr S), .int .i64 N, .int .i64 Z, .slice ro R.length rc] ∧ RecsW w (.slice ro R.length rc) R := by
  obtain ⟨cs, rfl, _⟩ := okWide_struct Try.underlying38 hv
  obtain ⟨fuel, hf⟩ := h
  obtain ⟨S, N, Z, vr, R, e, hR⟩ := open_rowC hf hsz
  obtain ⟨ro, rc, rfl⟩ := hR.shape
  refine ⟨S, N, Z, ro, R, rc, ?_, hR⟩
  congr 1
  exact Array.toList_inj.1 e
theorem open_RecsW {H : Type} {enc : TypeId × Value → H} {w : World} {base : Nat} {spare : Nat → Bool} {held : Bool} {r : Reach} {b0 : Nat} {v : Value} {d : DataW H} {p : List MemPlace}
    (hv : Value.okWide Try.prog w r b0 25 v) (h : DataW.Trod enc Try.prog w base spare held 25 v d p) (hsz : (DataW.weights Try.prog 25 d).all (· ≤ reachBytes) = true) :
    ∃ (ro : Option Addr) (R : List Rec) (rc : Nat), v = .slice ro R.length rc ∧ RecsW w (.slice ro R.length rc) R := by
  obtain ⟨fuel, hf⟩ := trod_cell Try.underlying25 hv h
  obtain ⟨vr, R, e, hR⟩ := open_RecsC hf hsz
  simp only [List.cons.injEq, and_true] at e
  subst e
  obtain ⟨ro, rc, rfl⟩ := hR.shape
  exact ⟨ro, R, rc, rfl, hR⟩
end Go.Proofs.Ythkogdgfkhhleaa
