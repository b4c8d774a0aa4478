/- Opening what came in: slices of ints, and the struct of a case. -/
import Derived.Test.YtmjpjpdgejpeeaaLaws
import Derived.ProofKit
import Derived.OpenShut
import Derived.SizedLaws
import Derived.Lib.SmallJoins
namespace Go.Proofs.Ytmjpjpdgejpeeaa
open Go.ChangeShapes Go.WideShapes Go.ChangeAt Go.RowKit Go.Joins Go.Deep

section
variable {H : Type} {enc : TypeId × Value → H} {P : Program} {w : World} {base : Nat} {spare : Nat → Bool} {held : Bool}
theorem open_agg10 {r : Reach} {b0 : Nat} {t : TypeId} {f0 f1 f2 f3 f4 f5 f6 f7 f8 f9 : Field} {v : Value} {d : DataW H} {p : List MemPlace} (hs : P.underlying t = some (.struct #[f0, f1, f2, f3, f4, f5, f6, f7, f8, f9])) (hone : oneCellFields P #[f0, f1, f2, f3, f4, f5, f6, f7, f8, f9] = true) (hC : P.cellsOf t = 10)
    (hv : Value.okWide P w r b0 t v) (h : DataW.Trod enc P w base spare held t v d p) :
    ∃ (v0 v1 v2 v3 v4 v5 v6 v7 v8 v9 : Value) (y0 y1 y2 y3 y4 y5 y6 y7 y8 y9 : DataW H × List MemPlace) (n : Nat), v = .agg #[v0, v1, v2, v3, v4, v5, v6, v7, v8, v9] ∧ d = .agg [y0.1, y1.1, y2.1, y3.1, y4.1, y5.1, y6.1, y7.1, y8.1, y9.1] ∧ p = y0.2 ++ (y1.2 ++ (y2.2 ++ (y3.2 ++ (y4.2 ++ (y5.2 ++ (y6.2 ++ (y7.2 ++ (y8.2 ++ y9.2)))))))) ∧
      DataW.trod enc P w base spare held n f0.type [v0] = some y0 ∧ DataW.trod enc P w base spare held n f1.type [v1] = some y1 ∧ DataW.trod enc P w base spare held n f2.type [v2] = some y2 ∧ DataW.trod enc P w base spare held n f3.type [v3] = some y3 ∧ DataW.trod enc P w base spare held n f4.type [v4] = some y4 ∧ DataW.trod enc P w base spare held n f5.type [v5] = some y5 ∧ DataW.trod enc P w base spare held n f6.type [v6] = some y6 ∧ DataW.trod enc P w base spare held n f7.type [v7] = some y7 ∧ DataW.trod enc P w base spare held n f8.type [v8] = some y8 ∧ DataW.trod enc P w base spare held n f9.type [v9] = some y9 := by
  obtain ⟨cs, rfl, hsz⟩ := okWide_struct hs hv
  obtain ⟨l⟩ := cs
  match l, hsz.trans hC with
  | [c0, c1, c2, c3, c4, c5, c6, c7, c8, c9], _ =>
    obtain ⟨fuel, hf⟩ := h
    obtain ⟨xs, n, _, hx, _, hlen, hg⟩ := DataW.trod_struct hs hf
    obtain ⟨o0, k0⟩ := hone_of hone 0 f0 rfl
    obtain ⟨o1, k1⟩ := hone_of hone 1 f1 rfl
    obtain ⟨o2, k2⟩ := hone_of hone 2 f2 rfl
    obtain ⟨o3, k3⟩ := hone_of hone 3 f3 rfl
    obtain ⟨o4, k4⟩ := hone_of hone 4 f4 rfl
    obtain ⟨o5, k5⟩ := hone_of hone 5 f5 rfl
    obtain ⟨o6, k6⟩ := hone_of hone 6 f6 rfl
    obtain ⟨o7, k7⟩ := hone_of hone 7 f7 rfl
    obtain ⟨o8, k8⟩ := hone_of hone 8 f8 rfl
    obtain ⟨o9, k9⟩ := hone_of hone 9 f9 rfl
    match xs, hlen with
    | [y0, y1, y2, y3, y4, y5, y6, y7, y8, y9], _ =>
      simp only [Prod.mk.injEq] at hx
      exact ⟨c0, c1, c2, c3, c4, c5, c6, c7, c8, c9, y0, y1, y2, y3, y4, y5, y6, y7, y8, y9, n, rfl, by simpa using hx.1, by simpa using hx.2, by simpa [Value.cells, o0, k0] using hg 0 f0 rfl, by simpa [Value.cells, o1, k1] using hg 1 f1 rfl, by simpa [Value.cells, o2, k2] using hg 2 f2 rfl, by simpa [Value.cells, o3, k3] using hg 3 f3 rfl, by simpa [Value.cells, o4, k4] using hg 4 f4 rfl, by simpa [Value.cells, o5, k5] using hg 5 f5 rfl, by simpa [Value.cells, o6, k6] using hg 6 f6 rfl, by simpa [Value.cells, o7, k7] using hg 7 f7 rfl, by simpa [Value.cells, o8, k8] using hg 8 f8 rfl, by simpa [Value.cells, o9, k9] using hg 9 f9 rfl⟩
end

theorem bytesI : Try.prog.bytesOf 3 = 8 := by kernel_rfl
theorem cellsI : Try.prog.cellsOf 3 = 1 := by kernel_rfl

/-- a slice of ints that came in -/
theorem open_Ints {H : Type} {enc : TypeId × Value → H} {w : World} {base : Nat} {spare : Nat → Bool} {held : Bool} {fuel : Nat} {cs : List Value} {x : DataW H × List MemPlace}
    (h : DataW.trod enc Try.prog w base spare held fuel 22 cs = some x) (hsz : (DataW.weights Try.prog 22 x.1).all (· ≤ reachBytes) = true) : ∃ v L, cs = [v] ∧ Ints w v L := by
  rcases open_ints Try.underlying22 Try.underlying3 cellsI h with ⟨rfl, _⟩ | ⟨a, len, cap, zs, rfl, _, hl, hm, hz, rfl, hc, hwf⟩
  · exact ⟨_, [], rfl, Ints.nil w⟩
  · have hle : len ≤ zs.length := by rw [hz]; split <;> omega
    have hb : len ≤ 17592186044416 := by
      simp only [DataW.weights, Try.underlying22, List.all_cons, Bool.and_eq_true, decide_eq_true_eq, bytesI, reachBytes] at hsz
      have := hsz.1
      simp [lits] at this
      omega
    refine ⟨_, zs.take len, rfl, some a, cap, a.block, a.off, by rw [List.length_take, Nat.min_eq_left hle], ?_, by rw [List.length_take]; omega, fun y hy => hwf y (List.mem_of_mem_take hy), fun k hk => ?_⟩
    · by_cases h0 : zs.take len = []
      · exact .inl h0
      · refine .inr ?_
        have h1 : 0 < zs.length := by
          cases zs with
          | nil => simp at h0
          | cons _ _ => simp
        have := hc 0 h1
        obtain ⟨b, off, spot⟩ := a
        cases spot with
        | none => rfl
        | some s => simp [Addr.add, World.cell?] at this; split at this <;> simp at this
    · rw [List.length_take] at hk
      have hk' := hc k (by omega)
      have e : (a.add k) = ⟨a.block, a.off + k, none⟩ := by
        obtain ⟨b, off, spot⟩ := a
        unfold Addr.add
        split
        · subst_vars
          cases spot with
          | none => rfl
          | some s => simp [Addr.add, World.cell?] at hk'; split at hk' <;> simp at hk'
        · rfl
      rw [e] at hk'
      refine ⟨World.block_lt_of_cell? w ⟨a.block, a.off + k, none⟩ hk', ?_⟩
      rw [hk', List.getD_eq_getElem?_getD, List.getD_eq_getElem?_getD, List.getElem?_take_of_lt (by omega)]

theorem weights_part {H : Type} {P : Program} {t : TypeId} {fs : Array Field} {parts : List (DataW H)} (hs : P.underlying t = some (.struct fs)) (h : (DataW.weights P t (.agg parts)).all (· ≤ reachBytes) = true)
    (j : Nat) (f : Field) (d : DataW H) (hf : fs[j]? = some f) (hd : parts[j]? = some d) : (DataW.weights P f.type d).all (· ≤ reachBytes) = true := by
  simp only [DataW.weights, hs] at h
  exact List.all_eq_true.2 (fun n hn => List.all_eq_true.1 h n (DataW.weights_mem_each (j := j) (t := f.type) (by simp; exact ⟨f, by simpa using hf, rfl⟩) hd n hn))

theorem weights_arg {H : Type} {P : Program} {ts : List TypeId} {ds : List (DataW H)} (h : (DataW.weightsEach P ts ds).all (· ≤ reachBytes) = true) (j : Nat) (t : TypeId) (d : DataW H) (ht : ts[j]? = some t) (hd : ds[j]? = some d) :
    (DataW.weights P t d).all (· ≤ reachBytes) = true :=
  List.all_eq_true.2 (fun n hn => List.all_eq_true.1 h n (DataW.weights_mem_each ht hd n hn))

/-- a case that came in -/
theorem open_case {H : Type} {enc : TypeId × Value → H} {w : World} {base : Nat} {spare : Nat → Bool} {held : Bool} {r : Reach} {b0 : Nat} {v : Value} {d : DataW H} {p : List MemPlace}
    (hv : Value.okWide Try.prog w r b0 24 v) (h : DataW.Trod enc Try.prog w base spare held 24 v d p) (hsz : (DataW.weights Try.prog 24 d).all (· ≤ reachBytes) = true) :
    ∃ port vm vo vr vw lo ov re kn fl M O R W, v = .agg #[.int .i64 port, vm, vo, vr, vw, .bool lo, .bool ov, .bool re, .bool kn, .bool fl] ∧ CaseIn w vm vo vr vw M O R W := by
  obtain ⟨v0, v1, v2, v3, v4, v5, v6, v7, v8, v9, y0, y1, y2, y3, y4, y5, y6, y7, y8, y9, n, rfl, rfl, rfl, t0, t1, t2, t3, t4, t5, t6, t7, t8, t9⟩ := open_agg10 Try.underlying24 (by kernel_rfl) (by kernel_rfl) hv h
  obtain ⟨port, e0, _, _⟩ := DataW.trod_int Try.underlying3 t0
  obtain ⟨_, M, e1, hM⟩ := open_Ints t1 (weights_part Try.underlying24 hsz 1 _ _ rfl rfl)
  obtain ⟨_, O, e2, hO⟩ := open_Ints t2 (weights_part Try.underlying24 hsz 2 _ _ rfl rfl)
  obtain ⟨_, R, e3, hR⟩ := open_Ints t3 (weights_part Try.underlying24 hsz 3 _ _ rfl rfl)
  obtain ⟨_, W, e4, hW⟩ := open_Ints t4 (weights_part Try.underlying24 hsz 4 _ _ rfl rfl)
  obtain ⟨lo, e5, _⟩ := DataW.trod_bool Try.underlying4 t5
  obtain ⟨ov, e6, _⟩ := DataW.trod_bool Try.underlying4 t6
  obtain ⟨re, e7, _⟩ := DataW.trod_bool Try.underlying4 t7
  obtain ⟨kn, e8, _⟩ := DataW.trod_bool Try.underlying4 t8
  obtain ⟨fl, e9, _⟩ := DataW.trod_bool Try.underlying4 t9
  simp only [List.cons.injEq, and_true] at e0 e1 e2 e3 e4 e5 e6 e7 e8 e9
  subst e0 e1 e2 e3 e4 e5 e6 e7 e8 e9
  exact ⟨port, _, _, _, _, lo, ov, re, kn, fl, M, O, R, W, rfl, ⟨hM, hO, hR, hW⟩⟩

end Go.Proofs.Ytmjpjpdgejpeeaa
