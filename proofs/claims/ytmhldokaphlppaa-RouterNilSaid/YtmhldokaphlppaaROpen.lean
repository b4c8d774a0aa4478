/- Opening what came in: a call. -/
import Derived.Test.YtmhldokaphlppaaRStays
import Derived.ProofKit
import Derived.OpenShut
import Derived.SizedLaws
import Derived.Lib.SmallJoins
import Derived.Deep.SlicePairs
namespace Go.Proofs.Ytmhldokaphlppaa
open Go.ChangeShapes Go.WideShapes Go.ChangeAt Go.RowKit Go.Joins Go.Deep

section
variable {H : Type} {enc : TypeId × Value → H} {P : Program} {w : World} {base : Nat} {spare : Nat → Bool} {held : Bool}
theorem open_agg4 {r : Reach} {b0 : Nat} {t : TypeId} {f0 f1 f2 f3 : Field} {v : Value} {d : DataW H} {p : List MemPlace} (hs : P.underlying t = some (.struct #[f0, f1, f2, f3])) (hone : oneCellFields P #[f0, f1, f2, f3] = true) (hC : P.cellsOf t = 4)
    (hv : Value.okWide P w r b0 t v) (h : DataW.Trod enc P w base spare held t v d p) :
    ∃ (v0 v1 v2 v3 : Value) (y0 y1 y2 y3 : DataW H × List MemPlace) (n : Nat), v = .agg #[v0, v1, v2, v3] ∧ d = .agg [y0.1, y1.1, y2.1, y3.1] ∧ p = y0.2 ++ (y1.2 ++ (y2.2 ++ y3.2)) ∧
      DataW.trod enc P w base spare held n f0.type [v0] = some y0 ∧ DataW.trod enc P w base spare held n f1.type [v1] = some y1 ∧ DataW.trod enc P w base spare held n f2.type [v2] = some y2 ∧ DataW.trod enc P w base spare held n f3.type [v3] = some y3 := by
  obtain ⟨cs, rfl, hsz⟩ := okWide_struct hs hv
  obtain ⟨l⟩ := cs
  match l, hsz.trans hC with
  | [c0, c1, c2, c3], _ =>
    obtain ⟨fuel, hf⟩ := h
    obtain ⟨xs, n, _, hx, _, hlen, hg⟩ := DataW.trod_struct hs hf
    obtain ⟨o0, k0⟩ := hone_of hone 0 f0 rfl
    obtain ⟨o1, k1⟩ := hone_of hone 1 f1 rfl
    obtain ⟨o2, k2⟩ := hone_of hone 2 f2 rfl
    obtain ⟨o3, k3⟩ := hone_of hone 3 f3 rfl
    match xs, hlen with
    | [y0, y1, y2, y3], _ =>
      simp only [Prod.mk.injEq] at hx
      exact ⟨c0, c1, c2, c3, y0, y1, y2, y3, n, rfl, by simpa using hx.1, by simpa using hx.2, by simpa [Value.cells, o0, k0] using hg 0 f0 rfl, by simpa [Value.cells, o1, k1] using hg 1 f1 rfl, by simpa [Value.cells, o2, k2] using hg 2 f2 rfl, by simpa [Value.cells, o3, k3] using hg 3 f3 rfl⟩
end

/-- a call that came in -/
theorem open_op {H : Type} {enc : TypeId × Value → H} {w : World} {base : Nat} {spare : Nat → Bool} {held : Bool} {r : Reach} {b0 : Nat} {v : Value} {d : DataW H} {p : List MemPlace}
    (hv : Value.okWide Try.prog w r b0 23 v) (h : DataW.Trod enc Try.prog w base spare held 23 v d p) :
    ∃ a b c e : Int, v = .agg #[.int .i64 a, .int .i64 b, .int .i64 c, .int .i64 e] := by
  obtain ⟨v0, v1, v2, v3, y0, y1, y2, y3, n, rfl, rfl, rfl, t0, t1, t2, t3⟩ := open_agg4 Try.underlying23 (by kernel_rfl) (by kernel_rfl) hv h
  obtain ⟨a, e0, _, _⟩ := DataW.trod_int Try.underlying3 t0
  obtain ⟨b, e1, _, _⟩ := DataW.trod_int Try.underlying3 t1
  obtain ⟨c, e2, _, _⟩ := DataW.trod_int Try.underlying3 t2
  obtain ⟨e, e3, _, _⟩ := DataW.trod_int Try.underlying3 t3
  simp only [List.cons.injEq, and_true] at e0 e1 e2 e3
  subst e0 e1 e2 e3
  exact ⟨a, b, c, e, rfl⟩

theorem cellsOp : Try.prog.cellsOf 23 = 4 := by kernel_rfl
theorem cellsInt : Try.prog.cellsOf 3 = 1 := by kernel_rfl

/-- a script that came in -/
theorem open_Ops {H : Type} {enc : TypeId × Value → H} {w : World} {base : Nat} {spare : Nat → Bool} {held : Bool} {fuel : Nat} {cs : List Value} {x : DataW H × List MemPlace}
    (h : DataW.trod enc Try.prog w base spare held fuel 35 cs = some x) : ∃ vs L, cs = [vs] ∧ Ops w vs L := by
  rcases open_slice Try.underlying35 h with ⟨rfl, _⟩ | ⟨a, len, cap, m, n, D, Pl, rfl, hb, hl, hm, hmm, rfl, hx⟩
  · exact ⟨_, [], rfl, none, 0, 0, 0, rfl, .inl rfl, fun k hk => by simp at hk⟩
  · have hlm : len ≤ m := by rw [hmm]; split <;> omega
    have each : ∀ i, i < len → ∃ q : Int × Int × Int × Int, w.cell? (a.add (i * 4)) = some (.int .i64 q.1) ∧ w.cell? (a.add (i * 4 + 1)) = some (.int .i64 q.2.1) ∧ w.cell? (a.add (i * 4 + 2)) = some (.int .i64 q.2.2.1) ∧ w.cell? (a.add (i * 4 + 3)) = some (.int .i64 q.2.2.2) := by
      intro i hi
      obtain ⟨cs', h1, h2⟩ := hx i (by omega)
      rw [cellsOp] at h1
      obtain ⟨_, hlen, hcell⟩ := World.cells?_some h1
      obtain ⟨xs, k, hk, hxy, _, hxl, hf⟩ := DataW.trod_struct Try.underlying23 h2
      match xs, hxl, cs', hlen with
      | [y0, y1, y2, y3], _, [v0, v1, v2, v3], _ =>
        have g0 := hf 0 _ rfl
        have g1 := hf 1 _ rfl
        have g2 := hf 2 _ rfl
        have g3 := hf 3 _ rfl
        simp [cellsInt] at g0 g1 g2 g3
        obtain ⟨a0, e0, _, _⟩ := DataW.trod_int Try.underlying3 g0
        obtain ⟨a1, e1, _, _⟩ := DataW.trod_int Try.underlying3 g1
        obtain ⟨a2, e2, _, _⟩ := DataW.trod_int Try.underlying3 g2
        obtain ⟨a3, e3, _, _⟩ := DataW.trod_int Try.underlying3 g3
        simp only [List.cons.injEq, and_true] at e0 e1 e2 e3
        subst e0 e1 e2 e3
        have k0 := hcell 0 (by omega)
        have k1 := hcell 1 (by omega)
        have k2 := hcell 2 (by omega)
        have k3 := hcell 3 (by omega)
        rw [add_add] at k0 k1 k2 k3
        exact ⟨(a0, a1, a2, a3), by simpa using k0, by simpa using k1, by simpa using k2, by simpa using k3⟩
    obtain ⟨q, hq⟩ := choose_lt each
    obtain ⟨b, off, spot⟩ := a
    by_cases h0 : len = 0
    · subst h0
      exact ⟨_, [], rfl, some ⟨b, off, spot⟩, cap, b, off, rfl, .inl rfl, fun k hk => by simp at hk⟩
    · cases spot with
      | some s =>
        have := (hq 0 (by omega)).1
        simp [Addr.add, World.cell?] at this
        try (split at this <;> simp at this)
        try omega
      | none =>
        refine ⟨_, (List.range len).map q, rfl, some ⟨b, off, none⟩, cap, b, off, by simp, .inr rfl, fun k hk => ?_⟩
        have hk' : k < len := by simpa using hk
        have h4 := hq k hk'
        rw [add_plain, add_plain, add_plain, add_plain, ← Nat.add_assoc, ← Nat.add_assoc, ← Nat.add_assoc] at h4
        have eg : ((List.range len).map q).getD k (0, 0, 0, 0) = q k := by simp [List.getD_eq_getElem?_getD, hk']
        rw [eg]
        exact ⟨World.block_lt_of_cell? w ⟨b, off + k * 4, none⟩ h4.1, h4⟩

/-- what RouterStays takes -/
theorem open_kept {H : Type} {enc : TypeId × Value → H} {w : World} {base : Nat} {spare : Nat → Bool} {held : Bool} {r : Reach} {b0 : Nat} {v : Value} {d : DataW H} {p : List MemPlace}
    (hv : Value.okWide Try.prog w r b0 37 v) (h : DataW.Trod enc Try.prog w base spare held 37 v d p) :
    ∃ (a b c : Int) (vs : Value) (L : List (Int × Int × Int × Int)), v = .agg #[.int .i64 a, .int .i64 b, .int .i64 c, vs] ∧ (Lit.int .i64 b).wf = true ∧ (Lit.int .i64 c).wf = true ∧ Ops w vs L := by
  obtain ⟨v0, v1, v2, v3, y0, y1, y2, y3, n, rfl, rfl, rfl, t0, t1, t2, t3⟩ := open_agg4 Try.underlying37 (by kernel_rfl) (by kernel_rfl) hv h
  obtain ⟨a, e0, _, _⟩ := DataW.trod_int Try.underlying3 t0
  obtain ⟨b, e1, _, wb⟩ := DataW.trod_int Try.underlying3 t1
  obtain ⟨c, e2, _, wc⟩ := DataW.trod_int Try.underlying3 t2
  obtain ⟨vs, L, e3, hO⟩ := open_Ops t3
  simp only [List.cons.injEq, and_true] at e0 e1 e2 e3
  subst e0 e1 e2 e3
  exact ⟨a, b, c, _, L, rfl, wb, wc, hO⟩
end Go.Proofs.Ytmhldokaphlppaa
