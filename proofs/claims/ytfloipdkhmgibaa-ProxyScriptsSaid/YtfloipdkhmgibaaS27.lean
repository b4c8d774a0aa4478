/- Texts joined into one file: POpen3. -/
import Derived.Test.YtfloipdkhmgibaaS23
import Derived.Test.YtfloipdkhmgibaaS26

/- Opening what came in: scripts. -/
namespace Go.Proofs.Ytfloipdkhmgibaa
open Go.ChangeShapes Go.WideShapes Go.ChangeAt Go.RowKit Go.Joins Go.Deep

set_option maxRecDepth 100000

theorem bytesOp : Try.prog.bytesOf 46 = 64 := by kernel_rfl
theorem cellsOp : Try.prog.cellsOf 46 = 5 := by kernel_rfl

theorem open_opC {H : Type} {enc : TypeId × Value → H} {w : World} {base : Nat} {spare : Nat → Bool} {held : Bool} {fuel : Nat} {cs : List Value} {x : DataW H × List MemPlace}
    (h : DataW.trod enc Try.prog w base spare held fuel 46 cs = some x) (hsz : (DataW.weights Try.prog 46 x.1).all (· ≤ reachBytes) = true) :
    ∃ d vl s e v L, cs = [.int .i64 d, .int .i64 vl, .string s, .bool e, v] ∧ Strs w v L ∧ s.size ≤ maxLen := by
  obtain ⟨xs, n, _, rfl, hcl, hlen, hf⟩ := DataW.trod_struct Try.underlying46 h
  match xs, hlen with
  | [y0, y1, y2, y3], _ =>
    have hc5 : cs.length = 5 := hcl.trans (by kernel_rfl)
    match cs, hc5 with
    | [c0, c1, c2, c3, c4], _ =>
      have g0 := hf 0 _ rfl
      have g1 := hf 1 _ rfl
      have g2 := hf 2 _ rfl
      have g3 := hf 3 _ rfl
      have k3 : Try.prog.cellsOf 28 = 2 := by kernel_rfl
      simp [cellsIt, cellsAd, k3] at g0 g1 g2 g3
      obtain ⟨d, e0, _, _⟩ := DataW.trod_int Try.underlying3 g0
      obtain ⟨vl, e1, _, _⟩ := DataW.trod_int Try.underlying3 g1
      obtain ⟨s, e2, _, hs⟩ := DataW.trod_string Try.underlying44 g2
      obtain ⟨e, v, L, e3, hT⟩ := open_filterC g3 (weights_part Try.underlying46 hsz 3 _ _ rfl rfl)
      simp only [List.cons.injEq, and_true] at e0 e1 e2 e3
      obtain ⟨e3, e4⟩ := e3
      subst e0 e1 e2 e3 e4
      exact ⟨d, vl, s, e, _, L, rfl, hT, hs⟩

theorem open_OpsC {H : Type} {enc : TypeId × Value → H} {w : World} {base : Nat} {spare : Nat → Bool} {held : Bool} {fuel : Nat} {cs : List Value} {x : DataW H × List MemPlace}
    (h : DataW.trod enc Try.prog w base spare held fuel 35 cs = some x) (hsz : (DataW.weights Try.prog 35 x.1).all (· ≤ reachBytes) = true) : ∃ v R, cs = [v] ∧ OpsS w v R := by
  obtain ⟨ao, cap, b, off, L, rfl, h0, h1, _, h2⟩ := open_elems (α := POp × Value) (sz := 5) Try.underlying35 cellsOp (by decide)
    (fun cs' q => cs' = [.int .i64 q.1.1, .int .i64 q.1.2.1, .string (bstr q.1.2.2.1), .bool q.1.2.2.2.1, q.2] ∧ Strs w q.2 q.1.2.2.2.2 ∧ q.1.2.2.1.length ≤ maxLen)
    (fun n cs' y hy hw => by
      obtain ⟨d, vl, s, e, v, L, he, hT, hs⟩ := open_opC hy hw
      obtain ⟨g, rfl⟩ : ∃ g, s = bstr g := ⟨_, bstr_of _⟩
      rw [bstr_size] at hs
      exact ⟨((d, vl, g, e, L), v), he, hT, hs⟩) h hsz
  have hl : (L.map Prod.fst).length = L.length := by simp
  refine ⟨_, L.map Prod.fst, rfl, ao, cap, b, off, fun k => (L.getD k default).2, by rw [hl], ?_, ?_, fun k hk => ?_⟩
  · rcases h0 with rfl | h0
    · exact .inl rfl
    · exact .inr h0
  · rw [bytesOp] at h1
    rw [hl]
    unfold reachBytes at h1
    omega
  · rw [hl] at hk
    obtain ⟨cs', e1, e2, e3, rfl, hT, hs⟩ := h2 k hk
    have g : (L.map Prod.fst).getD k default = L[k].1 := by simp [List.getD_eq_getElem?_getD, hk]
    have g' : L.getD k default = L[k] := by simp [List.getD_eq_getElem?_getD, hk]
    dsimp only
    rw [g, g']
    exact ⟨e3, e2 0 (by decide), e2 1 (by decide), e2 2 (by decide), e2 3 (by decide), e2 4 (by decide), hT, hs⟩
theorem open_Ops {H : Type} {enc : TypeId × Value → H} {w : World} {base : Nat} {spare : Nat → Bool} {held : Bool} {r : Reach} {b0 : Nat} {v : Value} {d : DataW H} {p : List MemPlace}
    (hv : Value.okWide Try.prog w r b0 35 v) (h : DataW.Trod enc Try.prog w base spare held 35 v d p) (hsz : (DataW.weights Try.prog 35 d).all (· ≤ reachBytes) = true) :
    ∃ R, OpsS w v R := by
  obtain ⟨fuel, hf⟩ := trod_cell Try.underlying35 hv h
  obtain ⟨u, R, e, hR⟩ := open_OpsC hf hsz
  simp only [List.cons.injEq, and_true] at e
  subst e
  exact ⟨R, hR⟩
end Go.Proofs.Ytfloipdkhmgibaa
