/- Opening what came in: states, records, cases. -/
import Derived.Test.YtkphgonbbhlnfaaGCop
import Derived.ProofKit
import Derived.OpenShut
import Derived.SizedLaws
import Derived.Lib.SmallJoins
import Derived.Deep.SlicePairs
namespace Go.Proofs.Ytkphgonbbhlnfaa
open Go.ChangeShapes Go.WideShapes Go.ChangeAt Go.RowKit Go.Joins Go.Deep

set_option maxRecDepth 100000

theorem bytesAd : Try.prog.bytesOf 25 = 16 := by kernel_rfl
theorem cellsAd : Try.prog.cellsOf 25 = 1 := by kernel_rfl

/-- a slice of strings that came in -/
theorem open_Strs {H : Type} {enc : TypeId × Value → H} {w : World} {base : Nat} {spare : Nat → Bool} {held : Bool} {fuel : Nat} {cs : List Value} {x : DataW H × List MemPlace}
    (h : DataW.trod enc Try.prog w base spare held fuel 35 cs = some x) (hsz : (DataW.weights Try.prog 35 x.1).all (· ≤ reachBytes) = true) : ∃ v L, cs = [v] ∧ Strs w v L := by
  rcases open_strings Try.underlying35 Try.underlying25 cellsAd h with ⟨rfl, _⟩ | ⟨a, len, cap, ss, rfl, _, hl, hm, hz, rfl, hc, hwf⟩
  · exact ⟨_, [], rfl, Strs.nil w⟩
  · have hle : len ≤ ss.length := by rw [hz]; split <;> omega
    have hb : len ≤ 8796093022208 := by
      simp only [DataW.weights, Try.underlying35, List.all_cons, Bool.and_eq_true, bytesAd, reachBytes] at hsz
      have := hsz.1
      simp [strs] at this
      omega
    have hlen : ((ss.take len).map fun s => s.data.toList).length = len := by simp; omega
    refine ⟨_, (ss.take len).map (fun s => s.data.toList), rfl, some a, cap, a.block, a.off, by rw [hlen], ?_, by rw [hlen]; omega, ?_, fun k hk => ?_⟩
    · by_cases h0 : (ss.take len).map (fun s => s.data.toList) = []
      · exact .inl h0
      · refine .inr ?_
        have h1 : 0 < ss.length := by
          cases ss with
          | nil => simp at h0
          | cons _ _ => simp
        have := hc 0 h1
        obtain ⟨b, off, spot⟩ := a
        cases spot with
        | none => rfl
        | some s => simp [Addr.add, World.cell?] at this; split at this <;> simp at this
    · intro x hx
      obtain ⟨s, hs, rfl⟩ := List.mem_map.1 hx
      exact hwf s (List.mem_of_mem_take hs)
    · rw [hlen] at hk
      have hk' := hc k (by omega)
      have e : (a.add k) = ⟨a.block, a.off + k, none⟩ := by
        obtain ⟨b, off, spot⟩ := a
        unfold Addr.add
        split
        · subst_vars
          cases spot with
          | none => rfl
          | some s => simp [Addr.add, World.cell?] at hk'; split at hk' <;> simp at hk'
        · rfl
      rw [e] at hk'
      refine ⟨World.block_lt_of_cell? w ⟨a.block, a.off + k, none⟩ hk', ?_⟩
      rw [hk']
      have hks : k < ss.length := by omega
      simp [List.getD_eq_getElem?_getD, hks, hk, encStr]

theorem weights_part {H : Type} {P : Program} {t : TypeId} {fs : Array Field} {parts : List (DataW H)} (hs : P.underlying t = some (.struct fs)) (h : (DataW.weights P t (.agg parts)).all (· ≤ reachBytes) = true)
    (j : Nat) (f : Field) (d : DataW H) (hf : fs[j]? = some f) (hd : parts[j]? = some d) : (DataW.weights P f.type d).all (· ≤ reachBytes) = true := by
  simp only [DataW.weights, hs] at h
  exact List.all_eq_true.2 (fun n hn => List.all_eq_true.1 h n (DataW.weights_mem_each (j := j) (t := f.type) (by simp; exact ⟨f, by simpa using hf, rfl⟩) hd n hn))

theorem weights_arg {H : Type} {P : Program} {ts : List TypeId} {ds : List (DataW H)} (h : (DataW.weightsEach P ts ds).all (· ≤ reachBytes) = true) (j : Nat) (t : TypeId) (d : DataW H) (ht : ts[j]? = some t) (hd : ds[j]? = some d) :
    (DataW.weights P t d).all (· ≤ reachBytes) = true :=
  List.all_eq_true.2 (fun n hn => List.all_eq_true.1 h n (DataW.weights_mem_each ht hd n hn))

theorem bytesTm : Try.prog.bytesOf 56 = 24 := by kernel_rfl
theorem cellsTm : Try.prog.cellsOf 56 = 2 := by kernel_rfl
theorem cellsIt : Try.prog.cellsOf 3 = 1 := by kernel_rfl

section
variable {H : Type} {enc : TypeId × Value → H} {w : World} {base : Nat} {spare : Nat → Bool} {held : Bool} {fuel : Nat} {cs : List Value} {x : DataW H × List MemPlace}

/-- a slice of sources with times that came in -/
theorem open_Tms (h : DataW.trod enc Try.prog w base spare held fuel 22 cs = some x) (hsz : (DataW.weights Try.prog 22 x.1).all (· ≤ reachBytes) = true) : ∃ v L, cs = [v] ∧ Tms w v L := by
  rcases open_slice_pairs Try.underlying22 Try.underlying56 cellsTm rfl rfl cellsAd cellsIt h with ⟨rfl, _⟩ | ⟨a, len, cap, m, n, V0, V1, D0, D1, P0, P1, rfl, hb, hl, hm, hmm, rfl, hx⟩
  · exact ⟨_, [], rfl, Tms.nil w⟩
  · have hlm : len ≤ m := by rw [hmm]; split <;> omega
    have hbd : len ≤ 5864062014634 := by
      simp only [DataW.weights, Try.underlying22, List.all_cons, Bool.and_eq_true, bytesTm, reachBytes] at hsz
      have := hsz.1
      simp at this
      omega
    have each : ∀ i, i < len → ∃ q : Str × Int, w.cell? (a.add (i * 2)) = some (.string (bstr q.1)) ∧ w.cell? (a.add (i * 2 + 1)) = some (.int .i64 q.2) ∧ q.1.length ≤ maxLen ∧ (Lit.int .i64 q.2).wf = true := by
      intro i hi
      obtain ⟨c0, c1, t0, t1⟩ := hx i (by omega)
      obtain ⟨s, e0, _, hs⟩ := DataW.trod_string Try.underlying25 t0
      obtain ⟨z, e1, _, hz⟩ := DataW.trod_int Try.underlying3 t1
      simp only [List.cons.injEq, and_true] at e0 e1
      refine ⟨(s.data.toList, z), ?_, ?_, hs, hz⟩
      · rw [c0, e0, ← bstr_of]
      · rw [c1, e1]
    obtain ⟨q, hq⟩ := choose_lt each
    obtain ⟨b, off, spot⟩ := a
    have hll : ((List.range len).map q).length = len := by simp
    by_cases h0 : len = 0
    · subst h0
      exact ⟨_, [], rfl, some ⟨b, off, spot⟩, cap, b, off, rfl, .inl rfl, by simp, by simp, fun k hk => by simp at hk⟩
    · have hsp : spot = none := by
        cases spot with
        | none => rfl
        | some s =>
          exfalso
          have := (hq 0 (by omega)).1
          simp [Addr.add, World.cell?] at this
          try (split at this <;> simp at this)
          try omega
      subst hsp
      refine ⟨_, (List.range len).map q, rfl, some ⟨b, off, none⟩, cap, b, off, by rw [hll], .inr rfl, by rw [hll]; exact hbd, fun t ht => ?_, fun k hk => ?_⟩
      · obtain ⟨i, hi, rfl⟩ := List.mem_map.1 ht
        exact (hq i (List.mem_range.1 hi)).2.2
      · rw [hll] at hk
        obtain ⟨h1, h2, _⟩ := hq k hk
        rw [add_lit] at h1 h2
        have eg : ((List.range len).map q).getD k default = q k := by simp [List.getD_eq_getElem?_getD, hk]
        rw [eg]
        exact ⟨World.block_lt_of_cell? w ⟨b, off + k * 2, none⟩ h1, h1, by rw [show off + k * 2 + 1 = off + (k * 2 + 1) from by omega]; exact h2⟩

theorem open_stateC (h : DataW.trod enc Try.prog w base spare held fuel 24 cs = some x) (hsz : (DataW.weights Try.prog 24 x.1).all (· ≤ reachBytes) = true) :
    ∃ ex at' v L, cs = [.bool ex, .int .i64 at', v] ∧ Tms w v L ∧ (Lit.int .i64 at').wf = true := by
  obtain ⟨xs, n, _, rfl, hcl, hlen, hf⟩ := DataW.trod_struct Try.underlying24 h
  match xs, hlen with
  | [y0, y1, y2], _ =>
    have hc3 : cs.length = 3 := hcl.trans (by kernel_rfl)
    match cs, hc3 with
    | [c0, c1, c2], _ =>
      have g0 := hf 0 _ rfl
      have g1 := hf 1 _ rfl
      have g2 := hf 2 _ rfl
      have k0 : Try.prog.cellsOf 4 = 1 := by kernel_rfl
      have k2 : Try.prog.cellsOf 22 = 1 := by kernel_rfl
      simp [cellsIt, k0, k2] at g0 g1 g2
      obtain ⟨e, e0, _⟩ := DataW.trod_bool Try.underlying4 g0
      obtain ⟨a, e1, _, wa⟩ := DataW.trod_int Try.underlying3 g1
      obtain ⟨v, L, e2, hT⟩ := open_Tms g2 (weights_part Try.underlying24 hsz 2 _ _ rfl rfl)
      simp only [List.cons.injEq, and_true] at e0 e1 e2
      subst e0 e1 e2
      exact ⟨e, a, _, L, rfl, hT, wa⟩

theorem open_recC (h : DataW.trod enc Try.prog w base spare held fuel 37 cs = some x) (hsz : (DataW.weights Try.prog 37 x.1).all (· ≤ reachBytes) = true) :
    ∃ kind g v L, cs = [.int .i64 kind, .string g, v] ∧ Strs w v L := by
  obtain ⟨xs, n, _, rfl, hcl, hlen, hf⟩ := DataW.trod_struct Try.underlying37 h
  match xs, hlen with
  | [y0, y1, y2], _ =>
    have hc3 : cs.length = 3 := hcl.trans (by kernel_rfl)
    match cs, hc3 with
    | [c0, c1, c2], _ =>
      have g0 := hf 0 _ rfl
      have g1 := hf 1 _ rfl
      have g2 := hf 2 _ rfl
      have k2 : Try.prog.cellsOf 35 = 1 := by kernel_rfl
      simp [cellsIt, cellsAd, k2] at g0 g1 g2
      obtain ⟨k, e0, _, _⟩ := DataW.trod_int Try.underlying3 g0
      obtain ⟨s, e1, _, _⟩ := DataW.trod_string Try.underlying25 g1
      obtain ⟨v, L, e2, hT⟩ := open_Strs g2 (weights_part Try.underlying37 hsz 2 _ _ rfl rfl)
      simp only [List.cons.injEq, and_true] at e0 e1 e2
      subst e0 e1 e2
      exact ⟨k, s, _, L, rfl, hT⟩

theorem open_timesC (h : DataW.trod enc Try.prog w base spare held fuel 39 cs = some x) :
    ∃ mem last, cs = [.int .i64 mem, .int .i64 last] := by
  obtain ⟨xs, n, _, rfl, hcl, hlen, hf⟩ := DataW.trod_struct Try.underlying39 h
  match xs, hlen with
  | [y0, y1], _ =>
    have hc3 : cs.length = 2 := hcl.trans (by kernel_rfl)
    match cs, hc3 with
    | [c0, c1], _ =>
      have g0 := hf 0 _ rfl
      have g1 := hf 1 _ rfl
      simp [cellsIt] at g0 g1
      obtain ⟨k, e0, _, _⟩ := DataW.trod_int Try.underlying3 g0
      obtain ⟨l, e1, _, _⟩ := DataW.trod_int Try.underlying3 g1
      simp only [List.cons.injEq, and_true] at e0 e1
      subst e0 e1
      exact ⟨k, l, rfl⟩

theorem open_caseC (h : DataW.trod enc Try.prog w base spare held fuel 41 cs = some x) (hsz : (DataW.weights Try.prog 41 x.1).all (· ≤ reachBytes) = true) :
    ∃ ex at' v L is kind g rv C mem last, cs = [.bool ex, .int .i64 at', v, .bool is, .int .i64 kind, .string g, rv, .int .i64 mem, .int .i64 last] ∧ Tms w v L ∧ (Lit.int .i64 at').wf = true ∧ Strs w rv C := by
  obtain ⟨xs, n, _, rfl, hcl, hlen, hf⟩ := DataW.trod_struct Try.underlying41 h
  match xs, hlen with
  | [y0, y1, y2, y3], _ =>
    have hc9 : cs.length = 9 := hcl.trans (by kernel_rfl)
    match cs, hc9 with
    | [c0, c1, c2, c3, c4, c5, c6, c7, c8], _ =>
      have g0 := hf 0 _ rfl
      have g1 := hf 1 _ rfl
      have g2 := hf 2 _ rfl
      have g3 := hf 3 _ rfl
      have k0 : Try.prog.cellsOf 4 = 1 := by kernel_rfl
      have k1 : Try.prog.cellsOf 24 = 3 := by kernel_rfl
      have k2 : Try.prog.cellsOf 37 = 3 := by kernel_rfl
      have k3 : Try.prog.cellsOf 39 = 2 := by kernel_rfl
      simp [k0, k1, k2, k3] at g0 g1 g2 g3
      obtain ⟨ex, at', v, L, e0, hT, wa⟩ := open_stateC g0 (weights_part Try.underlying41 hsz 0 _ _ rfl rfl)
      obtain ⟨is, e1, _⟩ := DataW.trod_bool Try.underlying4 g1
      obtain ⟨kind, g, rv, C, e2, hC⟩ := open_recC g2 (weights_part Try.underlying41 hsz 2 _ _ rfl rfl)
      obtain ⟨mem, last, e3⟩ := open_timesC g3
      simp only [List.cons.injEq, and_true] at e0 e1 e2 e3
      obtain ⟨rfl, rfl, rfl⟩ := e0
      subst e1
      obtain ⟨rfl, rfl, rfl⟩ := e2
      obtain ⟨rfl, rfl⟩ := e3
      exact ⟨ex, at', _, L, is, kind, g, _, C, mem, last, rfl, hT, wa, hC⟩
end

theorem open_state {H : Type} {enc : TypeId × Value → H} {w : World} {base : Nat} {spare : Nat → Bool} {held : Bool} {r : Reach} {b0 : Nat} {v : Value} {d : DataW H} {p : List MemPlace}
    (hv : Value.okWide Try.prog w r b0 24 v) (h : DataW.Trod enc Try.prog w base spare held 24 v d p) (hsz : (DataW.weights Try.prog 24 d).all (· ≤ reachBytes) = true) :
    ∃ ex at' u L, v = .agg #[.bool ex, .int .i64 at', u] ∧ Tms w u L ∧ (Lit.int .i64 at').wf = true := by
  obtain ⟨cs, rfl, _⟩ := okWide_struct Try.underlying24 hv
  obtain ⟨fuel, hf⟩ := h
  obtain ⟨ex, at', u, L, e, hT, wa⟩ := open_stateC hf hsz
  refine ⟨ex, at', u, L, ?_, hT, wa⟩
  have : cs.toList = [.bool ex, .int .i64 at', u] := e
  congr 1
  exact Array.toList_inj.1 this

theorem open_case {H : Type} {enc : TypeId × Value → H} {w : World} {base : Nat} {spare : Nat → Bool} {held : Bool} {r : Reach} {b0 : Nat} {v : Value} {d : DataW H} {p : List MemPlace}
    (hv : Value.okWide Try.prog w r b0 41 v) (h : DataW.Trod enc Try.prog w base spare held 41 v d p) (hsz : (DataW.weights Try.prog 41 d).all (· ≤ reachBytes) = true) :
    ∃ ex at' u L is kind g rv C mem last, v = .agg #[.bool ex, .int .i64 at', u, .bool is, .int .i64 kind, .string g, rv, .int .i64 mem, .int .i64 last] ∧ Tms w u L ∧ (Lit.int .i64 at').wf = true ∧ Strs w rv C := by
  obtain ⟨cs, rfl, _⟩ := okWide_struct Try.underlying41 hv
  obtain ⟨fuel, hf⟩ := h
  obtain ⟨ex, at', u, L, is, kind, g, rv, C, mem, last, e, hT, wa, hC⟩ := open_caseC hf hsz
  refine ⟨ex, at', u, L, is, kind, g, rv, C, mem, last, ?_, hT, wa, hC⟩
  have : cs.toList = [.bool ex, .int .i64 at', u, .bool is, .int .i64 kind, .string g, rv, .int .i64 mem, .int .i64 last] := e
  congr 1
  exact Array.toList_inj.1 this
end Go.Proofs.Ytkphgonbbhlnfaa
