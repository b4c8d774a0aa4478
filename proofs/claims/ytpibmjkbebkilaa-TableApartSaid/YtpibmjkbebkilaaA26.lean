/- Texts joined into one file: TOpen, TInv, TLawDrops. -/
import Derived.Test.YtpibmjkbebkilaaA16
import Derived.Test.YtpibmjkbebkilaaA06
import Derived.Test.YtpibmjkbebkilaaA24
import Derived.Test.YtpibmjkbebkilaaA22
import Derived.Test.YtpibmjkbebkilaaA25

/- Opening what came in: calls of a table, scripts. -/
namespace Go.Proofs.Ytpibmjkbebkilaa
open Go.ChangeShapes Go.WideShapes Go.ChangeAt Go.RowKit Go.Joins Go.Deep
set_option maxRecDepth 20000

set_option maxRecDepth 100000

theorem weights_all {H : Type} {P : Program} {e : TypeId} {d : DataW H} : ∀ {l : List (DataW H)}, d ∈ l → ∀ n ∈ DataW.weights P e d, n ∈ DataW.weightsAll P e l
  | x :: l, hd, n, hn => by
    rw [DataW.weightsAll, List.mem_append]
    rcases List.mem_cons.1 hd with rfl | hd
    · exact .inl hn
    · exact .inr (weights_all hd n hn)
theorem weights_elem {H : Type} {P : Program} {t e : TypeId} {elems rest : List (DataW H)} (ht : P.underlying t = some (.slice e)) (h : (DataW.weights P t (.slice elems rest)).all (· ≤ reachBytes) = true) :
    elems.length * P.bytesOf e ≤ reachBytes ∧ ∀ d ∈ elems, (DataW.weights P e d).all (· ≤ reachBytes) = true := by
  simp only [DataW.weights, ht, List.all_cons, Bool.and_eq_true, decide_eq_true_eq, List.all_append] at h
  refine ⟨Nat.le_trans (Nat.mul_le_mul_right _ (Nat.le_add_right _ _)) h.1, fun d hd => List.all_eq_true.2 fun n hn => List.all_eq_true.1 h.2.1 n (weights_all hd n hn)⟩

section
variable {H : Type} {enc : TypeId × Value → H} {w : World} {base : Nat} {spare : Nat → Bool} {held : Bool} {fuel : Nat} {cs : List Value} {x : DataW H × List MemPlace}

/-- a slice of elements of sz cells that came in: Q tells an element from its cells -/
theorem open_elems {α : Type} [Inhabited α] {P : Program} {t e : TypeId} {sz : Nat} (ht : P.underlying t = some (.slice e)) (hs : P.cellsOf e = sz) (h0 : 0 < sz) (Q : List Value → α → Prop)
    (hQ : ∀ n cs' y, DataW.trod enc P w base spare held n e cs' = some y → (DataW.weights P e y.1).all (· ≤ reachBytes) = true → ∃ q, Q cs' q)
    (h : DataW.trod enc P w base spare held fuel t cs = some x) (hsz : (DataW.weights P t x.1).all (· ≤ reachBytes) = true) :
    ∃ ao cap b off, ∃ L : List α, cs = [.slice ao L.length cap] ∧ (L = [] ∨ ao = some ⟨b, off, none⟩) ∧ L.length * P.bytesOf e ≤ reachBytes ∧ L.length ≤ cap ∧
      ∀ k, (hk : k < L.length) → ∃ cs', cs'.length = sz ∧ (∀ i, i < sz → w.cell? ⟨b, off + (k * sz + i), none⟩ = cs'[i]?) ∧ b < w.heap.size ∧ Q cs' L[k] := by
  rcases open_slice ht h with ⟨rfl, rfl⟩ | ⟨a, len, cap, m, n, D, Pl, rfl, hb, hl, hm, hmm, rfl, hx⟩
  · exact ⟨none, 0, 0, 0, [], rfl, .inl rfl, by simp, by simp, fun k hk => by simp at hk⟩
  · have hlm : len ≤ m := by rw [hmm]; split <;> omega
    obtain ⟨hw1, hw2⟩ := weights_elem ht hsz
    rw [List.length_map, List.length_range] at hw1
    have each : ∀ k, k < len → ∃ p : α × List Value, p.2.length = sz ∧ (∀ i, i < sz → w.cell? (a.add (k * sz + i)) = p.2[i]?) ∧ Q p.2 p.1 := by
      intro k hk
      obtain ⟨cs', h1, h2⟩ := hx k (by omega)
      rw [hs] at h1
      obtain ⟨_, hlen, hcell⟩ := World.cells?_some h1
      obtain ⟨q, hq⟩ := hQ _ _ _ h2 (hw2 _ (List.mem_map.2 ⟨k, List.mem_range.2 hk, rfl⟩))
      exact ⟨(q, cs'), hlen, fun i hi => by rw [← hcell i hi, add_add], hq⟩
    obtain ⟨q, hq⟩ := choose_lt each
    have hll : ((List.range len).map fun k => (q k).1).length = len := by simp
    obtain ⟨b, off, spot⟩ := a
    by_cases hl0 : len = 0
    · subst hl0
      exact ⟨some ⟨b, off, spot⟩, cap, b, off, [], rfl, .inl rfl, by simp, by simp, fun k hk => by simp at hk⟩
    · have hsome : ∀ k, k < len → ∀ i, i < sz → ∃ u, (q k).2[i]? = some u := fun k hk i hi => ⟨_, List.getElem?_eq_getElem (by rw [(hq k hk).1]; exact hi)⟩
      have hsp : spot = none := by
        cases spot with
        | none => rfl
        | some s =>
          exfalso
          obtain ⟨u, hu⟩ := hsome 0 (by omega) 0 h0
          have := (hq 0 (by omega)).2.1 0 h0
          rw [hu] at this
          simp [Addr.add, World.cell?] at this
          try (split at this <;> simp at this)
          try omega
      subst hsp
      refine ⟨some ⟨b, off, none⟩, cap, b, off, (List.range len).map fun k => (q k).1, by rw [hll], .inr rfl, by rw [hll]; exact hw1, by rw [hll]; exact hl, fun k hk => ?_⟩
      rw [hll] at hk
      obtain ⟨h1, h2, h3⟩ := hq k hk
      refine ⟨(q k).2, h1, fun i hi => by rw [← h2 i hi, add_lit], ?_, by simpa using h3⟩
      obtain ⟨u, hu⟩ := hsome k hk 0 h0
      have h4 := h2 0 h0
      rw [hu, add_lit] at h4
      exact World.block_lt_of_cell? w ⟨b, off + (k * sz + 0), none⟩ h4

end

/-- a value of one cell reads as its cell -/
theorem trod_cell {H : Type} {enc : TypeId × Value → H} {w : World} {base : Nat} {spare : Nat → Bool} {held : Bool} {T : TypeId} {e : TypeId} {r : Reach} {b0 : Nat} {v : Value} {d : DataW H} {p : List MemPlace} (ht : Try.prog.underlying T = some (.slice e))
    (hv : Value.okWide Try.prog w r b0 T v) (h : DataW.Trod enc Try.prog w base spare held T v d p) : ∃ fuel, DataW.trod enc Try.prog w base spare held fuel T [v] = some (d, p) := by
  obtain ⟨a, n, c, rfl⟩ := okWide_slice ht hv
  obtain ⟨fuel, hf⟩ := h
  exact ⟨fuel, hf⟩

/-- a call: what to do, VLAN, port, the record's kind, group and sources, the source asked for, time -/
structure TOp where
  d : Int
  vl : Int
  pt : Int
  kind : Int
  g : Str
  S : List Str
  src : Str
  now : Int
instance : Inhabited TOp := ⟨⟨0, 0, 0, 0, [], [], [], 0⟩⟩
def TOp.cells (o : TOp) (v : Value) : List Value := [.int .i64 o.d, .int .i64 o.vl, .int .i64 o.pt, .int .i64 o.kind, .string (bstr o.g), v, .string (bstr o.src), .int .i64 o.now]
/-- sources and lengths and widths are right -/
structure TOp.Ok (o : TOp) (w : World) (v : Value) : Prop where
  strs : Strs w v o.S
  gl : o.g.length ≤ maxLen
  sl : o.src.length ≤ maxLen
  wd : (Lit.int .i64 o.d).wf = true
  wvl : (Lit.int .i64 o.vl).wf = true
  wpt : (Lit.int .i64 o.pt).wf = true
  wkind : (Lit.int .i64 o.kind).wf = true
  wnow : (Lit.int .i64 o.now).wf = true

section
variable {H : Type} {enc : TypeId × Value → H} {w : World} {base : Nat} {spare : Nat → Bool} {held : Bool} {fuel : Nat} {cs : List Value} {x : DataW H × List MemPlace}

theorem open_recT (h : DataW.trod enc Try.prog w base spare held fuel 35 cs = some x) (hsz : (DataW.weights Try.prog 35 x.1).all (· ≤ reachBytes) = true) :
    ∃ kind g v L, cs = [.int .i64 kind, .string (bstr g), v] ∧ Strs w v L ∧ g.length ≤ maxLen ∧ (Lit.int .i64 kind).wf = true := by
  obtain ⟨xs, n, _, rfl, hcl, hlen, hf⟩ := DataW.trod_struct Try.underlying35 h
  match xs, hlen with
  | [y0, y1, y2], _ =>
    have hc3 : cs.length = 3 := hcl.trans (by kernel_rfl)
    match cs, hc3 with
    | [c0, c1, c2], _ =>
      have g0 := hf 0 _ rfl
      have g1 := hf 1 _ rfl
      have g2 := hf 2 _ rfl
      have k2 : Try.prog.cellsOf 33 = 1 := by kernel_rfl
      simp [cellsIt, cellsAd, k2] at g0 g1 g2
      obtain ⟨k, e0, _, wk⟩ := DataW.trod_int Try.underlying3 g0
      obtain ⟨s, e1, _, hs⟩ := DataW.trod_string Try.underlying32 g1
      obtain ⟨v, L, e2, hT⟩ := open_Strs g2 (weights_part Try.underlying35 hsz 2 _ _ rfl rfl)
      obtain ⟨g, rfl⟩ : ∃ g, s = bstr g := ⟨_, bstr_of _⟩
      rw [bstr_size] at hs
      simp only [List.cons.injEq, and_true] at e0 e1 e2
      subst e0 e1 e2
      exact ⟨k, g, _, L, rfl, hT, hs, wk⟩

theorem open_timesT (h : DataW.trod enc Try.prog w base spare held fuel 23 cs = some x) :
    ∃ mem last, cs = [.int .i64 mem, .int .i64 last] ∧ (Lit.int .i64 mem).wf = true ∧ (Lit.int .i64 last).wf = true := by
  obtain ⟨xs, n, _, rfl, hcl, hlen, hf⟩ := DataW.trod_struct Try.underlying23 h
  match xs, hlen with
  | [y0, y1], _ =>
    have hc3 : cs.length = 2 := hcl.trans (by kernel_rfl)
    match cs, hc3 with
    | [c0, c1], _ =>
      have g0 := hf 0 _ rfl
      have g1 := hf 1 _ rfl
      simp [cellsIt] at g0 g1
      obtain ⟨k, e0, _, w0⟩ := DataW.trod_int Try.underlying3 g0
      obtain ⟨l, e1, _, w1⟩ := DataW.trod_int Try.underlying3 g1
      simp only [List.cons.injEq, and_true] at e0 e1
      subst e0 e1
      exact ⟨k, l, rfl, w0, w1⟩

theorem open_top (h : DataW.trod enc Try.prog w base spare held fuel 37 cs = some x) (hsz : (DataW.weights Try.prog 37 x.1).all (· ≤ reachBytes) = true) :
    ∃ (o : TOp) (v : Value), cs = o.cells v ∧ o.Ok w v := by
  obtain ⟨xs, n, _, rfl, hcl, hlen, hf⟩ := DataW.trod_struct Try.underlying37 h
  match xs, hlen with
  | [y0, y1, y2, y3, y4, y5], _ =>
    have hc8 : cs.length = 8 := hcl.trans (by kernel_rfl)
    match cs, hc8 with
    | [c0, c1, c2, c3, c4, c5, c6, c7], _ =>
      have g0 := hf 0 _ rfl
      have g1 := hf 1 _ rfl
      have g2 := hf 2 _ rfl
      have g3 := hf 3 _ rfl
      have g4 := hf 4 _ rfl
      have g5 := hf 5 _ rfl
      have k3 : Try.prog.cellsOf 35 = 3 := by kernel_rfl
      simp [cellsIt, cellsAd, k3] at g0 g1 g2 g3 g4 g5
      obtain ⟨d, e0, _, w0⟩ := DataW.trod_int Try.underlying3 g0
      obtain ⟨vl, e1, _, w1⟩ := DataW.trod_int Try.underlying3 g1
      obtain ⟨pt, e2, _, w2⟩ := DataW.trod_int Try.underlying3 g2
      obtain ⟨kind, g, v, L, e3, hT, hg, wk⟩ := open_recT g3 (weights_part Try.underlying37 hsz 3 _ _ rfl rfl)
      obtain ⟨s, e4, _, hs⟩ := DataW.trod_string Try.underlying32 g4
      obtain ⟨now, e5, _, w5⟩ := DataW.trod_int Try.underlying3 g5
      obtain ⟨sr, rfl⟩ : ∃ g, s = bstr g := ⟨_, bstr_of _⟩
      rw [bstr_size] at hs
      simp only [List.cons.injEq, and_true] at e0 e1 e2 e3 e4 e5
      obtain ⟨rfl, rfl, rfl⟩ := e3
      subst e0 e1 e2 e4 e5
      exact ⟨⟨d, vl, pt, kind, g, L, sr, now⟩, _, rfl, hT, hg, hs, w0, w1, w2, wk, w5⟩
end

theorem open_Op {H : Type} {enc : TypeId × Value → H} {w : World} {base : Nat} {spare : Nat → Bool} {held : Bool} {r : Reach} {b0 : Nat} {v : Value} {d : DataW H} {p : List MemPlace}
    (hv : Value.okWide Try.prog w r b0 37 v) (h : DataW.Trod enc Try.prog w base spare held 37 v d p) (hsz : (DataW.weights Try.prog 37 d).all (· ≤ reachBytes) = true) :
    ∃ (o : TOp) (ro : Option Addr) (rn rc : Nat), v = .agg #[.int .i64 o.d, .int .i64 o.vl, .int .i64 o.pt, .int .i64 o.kind, .string (bstr o.g), .slice ro rn rc, .string (bstr o.src), .int .i64 o.now] ∧ o.Ok w (.slice ro rn rc) := by
  obtain ⟨cs, rfl, _⟩ := okWide_struct Try.underlying37 hv
  obtain ⟨fuel, hf⟩ := h
  obtain ⟨o, u, e, hT⟩ := open_top hf hsz
  obtain ⟨ro, rc, rfl⟩ := hT.strs.shape
  refine ⟨o, ro, _, rc, ?_, hT⟩
  have : cs.toList = o.cells _ := e
  congr 1
  exact Array.toList_inj.1 this


theorem bytesOpT : Try.prog.bytesOf 37 = 96 := by kernel_rfl
theorem cellsOpT : Try.prog.cellsOf 37 = 8 := by kernel_rfl

/-- a script in memory -/
def OpsT (w : World) (v : Value) (R : List TOp) : Prop :=
  ∃ ao cap b off, ∃ src : Nat → Value, v = .slice ao R.length cap ∧ (R = [] ∨ ao = some ⟨b, off, none⟩) ∧ R.length ≤ 2932031007402 ∧
    (∀ k, k < R.length → b < w.heap.size ∧ (∀ i, i < 8 → w.cell? ⟨b, off + (k * 8 + i), none⟩ = ((R.getD k default).cells (src k))[i]?) ∧ (R.getD k default).Ok w (src k))
theorem OpsT.shape {w : World} {v : Value} {R : List TOp} (h : OpsT w v R) : ∃ ao cap, v = .slice ao R.length cap := by
  obtain ⟨ao, cap, _, _, _, h, _⟩ := h
  exact ⟨ao, cap, h⟩
theorem OpsT.facts {w : World} {v : Value} {R : List TOp} (h : OpsT w v R) :
    ∃ b off, ∃ src : Nat → Value, R.length ≤ 2932031007402 ∧ (∀ ty w', (Builtin.len_ #[24] ty #[v]).run Try.prog w' = .ok (.int .i64 R.length) w') ∧
      (∀ k, k < R.length → ∀ w', (Instr.indexAt 24 v (.int .i64 k)).run Try.prog w' = .ok (.pointer (some ⟨b, off + k * 8, none⟩)) w') ∧
      (∀ k, k < R.length → b < w.heap.size ∧ (∀ i, i < 8 → w.cell? ⟨b, off + (k * 8 + i), none⟩ = ((R.getD k default).cells (src k))[i]?) ∧ (R.getD k default).Ok w (src k)) := by
  obtain ⟨ao, cap, b, off, src, rfl, h0, h1, h2⟩ := h
  refine ⟨b, off, src, h1, fun ty w' => run_len_any Try.underlying24 ao R.length cap ty w', fun k hk w' => ?_, h2⟩
  rcases h0 with h0 | rfl
  · subst h0; exact absurd hk (by simp)
  · exact run_index_any (P := Try.prog) (s := 8) Try.underlying24 (fun w => by kernel_rfl) b off R.length cap k hk w'

theorem TOp.row {q : TOp} {w wr : World} {bs off k B : Nat} {v : Value} (hbr : Below B w wr) (hlb : bs < B) (h : ∀ i, i < 8 → w.cell? ⟨bs, off + (k * 8 + i), none⟩ = (q.cells v)[i]?) :
    wr.cell? ⟨bs, off + k * 8, none⟩ = some (.int .i64 q.d) ∧ wr.cell? ⟨bs, off + k * 8 + 1, none⟩ = some (.int .i64 q.vl) ∧ wr.cell? ⟨bs, off + k * 8 + 2, none⟩ = some (.int .i64 q.pt) ∧ wr.cell? ⟨bs, off + k * 8 + 3, none⟩ = some (.int .i64 q.kind) ∧
    wr.cell? ⟨bs, off + k * 8 + 4, none⟩ = some (.string (bstr q.g)) ∧ wr.cell? ⟨bs, off + k * 8 + 5, none⟩ = some v ∧ wr.cell? ⟨bs, off + k * 8 + 6, none⟩ = some (.string (bstr q.src)) ∧ wr.cell? ⟨bs, off + k * 8 + 7, none⟩ = some (.int .i64 q.now) := by
  have e : ∀ i, i < 8 → wr.cell? ⟨bs, off + k * 8 + i, none⟩ = (q.cells v)[i]? := fun i hi => by rw [Nat.add_assoc]; exact (hbr.cell (p := ⟨bs, off + (k * 8 + i), none⟩) hlb).trans (h i hi)
  exact ⟨e 0 (by decide), e 1 (by decide), e 2 (by decide), e 3 (by decide), e 4 (by decide), e 5 (by decide), e 6 (by decide), e 7 (by decide)⟩

section
variable {H : Type} {enc : TypeId × Value → H} {w : World} {base : Nat} {spare : Nat → Bool} {held : Bool} {fuel : Nat} {cs : List Value} {x : DataW H × List MemPlace}
theorem open_topsC (h : DataW.trod enc Try.prog w base spare held fuel 24 cs = some x) (hsz : (DataW.weights Try.prog 24 x.1).all (· ≤ reachBytes) = true) : ∃ v R, cs = [v] ∧ OpsT w v R := by
  obtain ⟨ao, cap, b, off, L, rfl, h0, h1, _, h2⟩ := open_elems (α := TOp × Value) (sz := 8) Try.underlying24 cellsOpT (by decide)
    (fun cs' q => cs' = q.1.cells q.2 ∧ q.1.Ok w q.2)
    (fun n cs' y hy hw => by
      obtain ⟨o, v, he, ho⟩ := open_top hy hw
      exact ⟨(o, v), he, ho⟩) h hsz
  have hl : (L.map Prod.fst).length = L.length := by simp
  refine ⟨_, L.map Prod.fst, rfl, ao, cap, b, off, fun k => (L.getD k default).2, by rw [hl], ?_, ?_, fun k hk => ?_⟩
  · rcases h0 with rfl | h0
    · exact .inl rfl
    · exact .inr h0
  · rw [bytesOpT] at h1
    rw [hl]
    unfold reachBytes at h1
    omega
  · rw [hl] at hk
    obtain ⟨cs', e1, e2, e3, rfl, hT⟩ := h2 k hk
    have g : (L.map Prod.fst).getD k default = L[k].1 := by simp [List.getD_eq_getElem?_getD, hk]
    have g' : L.getD k default = L[k] := by simp [List.getD_eq_getElem?_getD, hk]
    dsimp only
    rw [g, g']
    exact ⟨e3, e2, hT⟩
end
theorem open_Tops {H : Type} {enc : TypeId × Value → H} {w : World} {base : Nat} {spare : Nat → Bool} {held : Bool} {r : Reach} {b0 : Nat} {v : Value} {d : DataW H} {p : List MemPlace}
    (hv : Value.okWide Try.prog w r b0 24 v) (h : DataW.Trod enc Try.prog w base spare held 24 v d p) (hsz : (DataW.weights Try.prog 24 d).all (· ≤ reachBytes) = true) :
    ∃ R, OpsT w v R := by
  obtain ⟨fuel, hf⟩ := trod_cell Try.underlying24 hv h
  obtain ⟨u, R, e, hR⟩ := open_topsC hf hsz
  simp only [List.cons.injEq, and_true] at e
  subst e
  exact ⟨R, hR⟩
theorem open_times {H : Type} {enc : TypeId × Value → H} {w : World} {base : Nat} {spare : Nat → Bool} {held : Bool} {r : Reach} {b0 : Nat} {v : Value} {d : DataW H} {p : List MemPlace}
    (hv : Value.okWide Try.prog w r b0 23 v) (h : DataW.Trod enc Try.prog w base spare held 23 v d p) :
    ∃ mem last, v = .agg #[.int .i64 mem, .int .i64 last] ∧ (Lit.int .i64 mem).wf = true ∧ (Lit.int .i64 last).wf = true := by
  obtain ⟨cs, rfl, _⟩ := okWide_struct Try.underlying23 hv
  obtain ⟨fuel, hf⟩ := h
  obtain ⟨m, l, e, h1, h2⟩ := open_timesT hf
  refine ⟨m, l, ?_, h1, h2⟩
  have : cs.toList = [.int .i64 m, .int .i64 l] := e
  congr 1
  exact Array.toList_inj.1 this
end Go.Proofs.Ytpibmjkbebkilaa

/- What a Report leaves: a table of at most room states, each checked; only its own key's state turned. -/
namespace Go.Proofs.Ytpibmjkbebkilaa
open Go.RowKit Go.Lib Go.Maps Go.Sort
set_option maxRecDepth 20000

theorem tnodup_len {α : Type} [BEq α] [LawfulBEq α] : ∀ {A B : List α}, A.Nodup → (∀ x ∈ A, x ∈ B) → A.length ≤ B.length
  | [], _, _, _ => by simp
  | a :: A, B, h, hs => by
    have ha : a ∈ B := hs a (by simp)
    have h1 := tnodup_len (A := A) (B := B.erase a) (List.nodup_cons.1 h).2 fun x hx => by
      refine (List.mem_erase_of_ne (fun e => ?_)).2 (hs x (by simp [hx]))
      subst e
      exact (List.nodup_cons.1 h).1 hx
    rw [List.length_erase_of_mem ha] at h1
    have := List.length_pos_of_mem ha
    simp only [List.length_cons]
    omega

/-- every state may be -/
def ChkT (F : Tst) : Prop := ∀ x, ChkO (F x)
/-- the keys, each state checked, no more than room -/
structure TInv (room : Int) (F : Tst) (K : List TK) : Prop where
  keys : KeysS F K
  chk : ChkT F
  few : (K.length : Int) ≤ room
theorem TInv.empty {room : Int} (h : 1 ≤ room) : TInv room (fun _ => none) [] := ⟨⟨List.Pairwise.nil, fun x => by simp⟩, (fun x s h => by cases h), (by simp; omega)⟩

theorem prep_inv {room M L : Int} {F : Tst} {O : Int → Option Int} {K : List TK} {k : TK} {kind now : Int} {C : List Str} (h : TInv room F K)
    (hc : ChkO (papp (pexp (oldS F k) now).1 kind (sasc C) C.length now M L).2.1) {K' : List TK} (hK : KeysS (prep room M L K.length F O k kind C now).2.2.1 K') :
    TInv room (prep room M L K.length F O k kind C now).2.2.1 K' ∧ ∀ y, y ≠ k → (prep room M L K.length F O k kind C now).2.2.1 y = F y := by
  unfold prep at hK ⊢
  split at hK
  · rename_i h1
    rw [if_pos h1]
    have := hK.unique h.keys
    subst this
    exact ⟨h, fun _ _ => rfl⟩
  · rename_i h1
    rw [if_neg h1]
    cases ha : (papp (pexp (oldS F k) now).1 kind (sasc C) C.length now M L).2.1 with
    | none =>
      rw [ha] at hK
      dsimp only at hK ⊢
      refine ⟨⟨hK, fun x s hs => ?_, ?_⟩, fun y hy => by unfold delS; rw [if_neg hy]⟩
      · unfold delS at hs
        split at hs
        · cases hs
        · exact h.chk x s hs
      · have := tnodup_len hK.nodup (B := K) fun x hx => by
          have := (hK.2 x).1 hx
          unfold delS at this
          split at this
          · exact absurd rfl this
          · exact (h.keys.2 x).2 this
        have := h.few
        omega
    | some s =>
      rw [ha] at hK
      dsimp only at hK ⊢
      split at hK
      · rename_i h2
        rw [if_pos h2]
        have := hK.unique h.keys
        subst this
        exact ⟨h, fun _ _ => rfl⟩
      · rename_i h2
        rw [if_neg h2]
        refine ⟨⟨hK, fun x t hs => ?_, ?_⟩, fun y hy => by dsimp only; unfold updS; rw [if_neg hy]⟩
        · dsimp only at hs
          unfold updS at hs
          split at hs
          · exact (ha ▸ hc) t hs
          · exact h.chk x t hs
        · have hmem : ∀ x ∈ K', x = k ∨ x ∈ K := fun x hx => by
            have := (hK.2 x).1 hx
            dsimp only at this
            unfold updS at this
            split at this
            · rename_i e; exact .inl e
            · exact .inr ((h.keys.2 x).2 this)
          have hf := h.few
          by_cases hs : F k = none
          · have h3 := tnodup_len hK.nodup (B := k :: K) fun x hx => by simpa using hmem x hx
            simp only [List.length_cons] at h3
            have : ¬ room ≤ (K.length : Int) := fun e => h2 ⟨by rw [hs]; rfl, e⟩
            omega
          · have h3 := tnodup_len hK.nodup (B := K) fun x hx => by
              rcases hmem x hx with rfl | e
              · exact (h.keys.2 x).2 hs
              · exact e
            omega

/-- what a Report hands back, and the table behind it -/
def RetAll (w : World) (p b o n m : Nat) (room M L : Int) (F : Tst) (k : TK) (e : Ending) (w' : World) : Prop :=
  ∃ u f R err F' O' K', e = .returned (.tuple #[.agg #[.bool f, u], .int .i64 err]) ∧ Strs w' u R ∧ Tb w' p b o (n + 1) (m + 1) room M L F' O' ∧ MTurn b o w w' ∧ TInv room F' K' ∧ ∀ y, y ≠ k → F' y = F y

theorem report_all (p b o n m : Nat) (room M L v port kind now : Int) (g : Str) (rv : Value) (C : List Str) (F : Tst) (O : Int → Option Int) (K : List TK) (w : World) (h : Tb w p b o n m room M L F O) (hK : TInv room F K) (hr : Strs w rv C) (hn : n < 1000000) (hmm : m < 1000000) :
    Calls Try.prog 9 #[.pointer (some ⟨p, 0, none⟩), .int .i64 v, .int .i64 port, .agg #[.int .i64 kind, .string (bstr g), rv], .int .i64 now] w (RetAll w p b o n m room M L F (v, g, port)) := by
  by_cases hm : mayT v port now ∧ isGrp g = true
  · refine (report_go p b o n m room M L v port kind now g rv C F O K w h hK.keys hm.1 hm.2 hr hn hmm).mono fun e w' ⟨⟨u, he, hu, hT, ht⟩, hc⟩ => ?_
    obtain ⟨K', hK', _⟩ := hT.keys
    obtain ⟨h1, h2⟩ := prep_inv hK hc hK'
    exact ⟨u, _, _, _, _, _, K', he, hu, hT, ht, h1, h2⟩
  · obtain ⟨ro, rc, rfl⟩ := hr.shape
    refine (report_bad ⟨p, 0, none⟩ v port kind now g ro _ rc w hm).mono fun e w' ⟨he, hb⟩ => ?_
    exact ⟨_, _, [], _, F, O, K, he, Strs.nil _, (h.mono hb).up (by omega) (by omega), .of_below hb, hK, fun _ _ => rfl⟩
end Go.Proofs.Ytpibmjkbebkilaa

/- The walk of TableDrops. -/
namespace Go.Proofs.Ytpibmjkbebkilaa
open Go.RowKit Go.Lib Go.Maps Go.Sort
set_option maxRecDepth 20000
set_option maxRecDepth 20000
attribute [local go_sem ↓] Go.wp_at_zero Go.wp_at_succ

/-- behind so many calls of a script -/
def Scr (w : World) (p b o : Nat) (room M L : Int) (k : Nat) (wr : World) : Prop :=
  ∃ F O K, Tb wr p b o k k room M L F O ∧ TInv room F K ∧ Below w.heap.size w wr

theorem key_neq (x : TK) (w : World) : (binOp .neq 46 (encT x) (encT x)).run Try.prog w = .ok (.bool false) w := by
  obtain ⟨v, g, p⟩ := x
  unfold encT
  go_simp

theorem noPort_keys {F : Tst} {K : List TK} (h : KeysS F K) (port : Int) : KeysS (noPort F port) (K.filter fun x => !(x.2.2 == port)) := by
  refine ⟨h.1.sublist List.filter_sublist, fun x => ?_⟩
  rw [List.mem_filter, h.2 x]
  unfold noPort
  by_cases e : x.2.2 = port
  · simp [e]
  · simp [e]

theorem drop_len (port : Int) (K : List TK) : dropN port K + (K.filter fun x => !(x.2.2 == port)).length = K.length := by
  unfold dropN
  induction K with
  | nil => rfl
  | cons x K ih =>
    simp only [List.filter_cons]
    cases x.2.2 == port <;> simp <;> omega

/-- the rest, as it is passed over -/
theorem rest_step {port : Int} {K : List TK} {i : Nat} (hi : i < K.length) : 
    (dropN port (K.drop i) = dropN port (K.drop (i + 1)) + if K[i].2.2 = port then 1 else 0) ∧
    (((K.take (i + 1)).filter fun x => !(x.2.2 == port)).length = ((K.take i).filter fun x => !(x.2.2 == port)).length + if K[i].2.2 = port then 0 else 1) := by
  constructor
  · unfold dropN
    rw [List.drop_eq_getElem_cons hi, List.filter_cons]
    by_cases e : K[i].2.2 = port
    · simp [e]
    · simp [e]
  · rw [List.take_succ_eq_append_getElem hi, List.filter_append]
    by_cases e : K[i].2.2 = port
    · simp [e]
    · simp [e]
theorem rest_at {port : Int} {K : List TK} {i : Nat} (hi : i < K.length) (hne : K[i].2.2 ≠ port) (q : ((K.take i).filter fun x => !(x.2.2 == port)).length < (K.filter fun x => !(x.2.2 == port)).length) :
    (K.filter fun x => !(x.2.2 == port))[((K.take i).filter fun x => !(x.2.2 == port)).length] = K[i] := by
  have e : K.filter (fun x => !(x.2.2 == port)) = (K.take i).filter (fun x => !(x.2.2 == port)) ++ (K[i] :: (K.drop (i + 1)).filter fun x => !(x.2.2 == port)) := by
    conv => lhs; rw [← List.take_append_drop i K, List.filter_append, List.drop_eq_getElem_cons hi, List.filter_cons]
    simp [hne]
  simp only [e]
  simp
theorem rest_lt {port : Int} {K : List TK} {i : Nat} (hi : i < K.length) (hne : K[i].2.2 ≠ port) : ((K.take i).filter fun x => !(x.2.2 == port)).length < (K.filter fun x => !(x.2.2 == port)).length := by
  have e : K.filter (fun x => !(x.2.2 == port)) = (K.take i).filter (fun x => !(x.2.2 == port)) ++ (K[i] :: (K.drop (i + 1)).filter fun x => !(x.2.2 == port)) := by
    conv => lhs; rw [← List.take_append_drop i K, List.filter_append, List.drop_eq_getElem_cons hi, List.filter_cons]
    simp [hne]
  rw [e]
  simp

set_option maxHeartbeats 8000000 in
theorem tdrops_no (room M L port : Int) (so : Option Addr) (sn sc : Nat) (w : World) (hf : ¬ fitsT room M L) :
    Calls Try.prog 3 #[.agg #[.int .i64 room, .int .i64 M, .int .i64 L, .slice so sn sc, .int .i64 port]] w fun e w' => e = .returned (.bool true) ∧ Below w.heap.size w w' := by
  obtain ⟨W0, hW0⟩ : ∃ W0, W0 = w.alloc (.cells #[.int .i64 room, .int .i64 M, .int .i64 L, .slice so sn sc, .int .i64 port] 26) := ⟨_, rfl⟩
  have hb0 : Below w.heap.size w W0 := by rw [hW0]; exact (Below.refl _ _).alloc (Nat.le_refl _) _
  have b0 : CBox W0 w.heap.size 26 #[.int .i64 room, .int .i64 M, .int .i64 L, .slice so sn sc, .int .i64 port] := by rw [hW0]; exact CBox.new _ rfl
  have HF := Lib.hid (show ∀ wq, Below W0.heap.size W0 wq → wq.cell? ⟨w.heap.size, 0, none⟩ = some (.int .i64 room) ∧ wq.cell? ⟨w.heap.size, 1, none⟩ = some (.int .i64 M) ∧ wq.cell? ⟨w.heap.size, 2, none⟩ = some (.int .i64 L) ∧ wq.cell? ⟨w.heap.size, 3, none⟩ = some (.slice so sn sc) ∧ wq.cell? ⟨w.heap.size, 4, none⟩ = some (.int .i64 port) from fun wq hb =>
    have c := b0.below hb b0.lt
    ⟨(c.at_ 0 _ rfl).1, (c.at_ 1 _ rfl).1, (c.at_ 2 _ rfl).1, (c.at_ 3 _ rfl).1, (c.at_ 4 _ rfl).1⟩)
  have hd : Below W0.heap.size W0 W0.drew := Below.drew (Below.refl _ _)
  have HB := Lib.hid hb0; have B := Lib.hid b0; have HW := Lib.hid hW0
  clear hb0 b0 hW0
  go_enter Try.func3, Try.ntmps3
  go_upto_region 1 with fail
  rw [← HW.out]
  refine wp_region_held_drew (S := fun W' => Below W0.heap.size W0 W') (by kernel_rfl) hd (fun hHeld => ?_)
  refine takeL 0 (v := ?_) rfl (by kernel_rfl) (by kernel_rfl) (by kernel_rfl) (fun _ _ _ h => h) (Or.inl ⟨by rfl, ?_⟩) (by assumption) ?_
  rotate_left
  focus (intro wq hSq; obtain ⟨f0, f1, f2, f3, f4⟩ := HF.out wq hSq; go_simp <;> with_reducible rfl)
  simp only [Act.put, List.setIfInBounds_toArray, List.set_cons_zero, List.set_cons_succ]
  refine takeL 1 (v := ?_) rfl (by kernel_rfl) (by kernel_rfl) (by kernel_rfl) (fun _ _ _ h => h) (Or.inl ⟨by rfl, ?_⟩) (by assumption) ?_
  rotate_left
  focus (intro wq hSq; obtain ⟨f0, f1, f2, f3, f4⟩ := HF.out wq hSq; go_simp <;> with_reducible rfl)
  simp only [Act.put, List.setIfInBounds_toArray, List.set_cons_zero, List.set_cons_succ]
  refine takeL 2 (v := ?_) rfl (by kernel_rfl) (by kernel_rfl) (by kernel_rfl) (fun _ _ _ h => h) (Or.inl ⟨by rfl, ?_⟩) (by assumption) ?_
  rotate_left
  focus (intro wq hSq; obtain ⟨f0, f1, f2, f3, f4⟩ := HF.out wq hSq; go_simp <;> with_reducible rfl)
  simp only [Act.put, List.setIfInBounds_toArray, List.set_cons_zero, List.set_cons_succ]
  refine takeL 3 (v := ?_) rfl (by kernel_rfl) (by kernel_rfl) (by kernel_rfl) (fun _ _ _ h => h) (Or.inl ⟨by rfl, ?_⟩) (by assumption) ?_
  rotate_left
  focus (intro wq hSq; obtain ⟨f0, f1, f2, f3, f4⟩ := HF.out wq hSq; go_simp <;> with_reducible rfl)
  simp only [Act.put, List.setIfInBounds_toArray, List.set_cons_zero, List.set_cons_succ]
  refine takeL 4 (v := ?_) rfl (by kernel_rfl) (by kernel_rfl) (by kernel_rfl) (fun _ _ _ h => h) (Or.inl ⟨by rfl, ?_⟩) (by assumption) ?_
  rotate_left
  focus (intro wq hSq; obtain ⟨f0, f1, f2, f3, f4⟩ := HF.out wq hSq; go_simp <;> with_reducible rfl)
  simp only [Act.put, List.setIfInBounds_toArray, List.set_cons_zero, List.set_cons_succ]
  refine takeL 5 (v := ?_) rfl (by kernel_rfl) (by kernel_rfl) (by kernel_rfl) (fun _ _ _ h => h) (Or.inl ⟨by rfl, ?_⟩) (by assumption) ?_
  rotate_left
  focus (intro wq hSq; obtain ⟨f0, f1, f2, f3, f4⟩ := HF.out wq hSq; go_simp <;> with_reducible rfl)
  simp only [Act.put, List.setIfInBounds_toArray, List.set_cons_zero, List.set_cons_succ]
  refine takeL 6 (v := ?_) rfl (by kernel_rfl) (by kernel_rfl) (by kernel_rfl) (fun _ _ _ h => h) (Or.inl ⟨by rfl, ?_⟩) (by assumption) ?_
  rotate_left
  focus (intro wq hSq; obtain ⟨f0, f1, f2, f3, f4⟩ := HF.out wq hSq; go_simp <;> with_reducible rfl)
  simp only [Act.put, List.setIfInBounds_toArray, List.set_cons_zero, List.set_cons_succ]
  refine takeL 7 (v := ?_) rfl (by kernel_rfl) (by kernel_rfl) (by kernel_rfl) (fun _ _ _ h => h) (Or.inl ⟨by rfl, ?_⟩) (by assumption) ?_
  rotate_left
  focus (intro wq hSq; obtain ⟨f0, f1, f2, f3, f4⟩ := HF.out wq hSq; go_simp <;> with_reducible rfl)
  simp only [Act.put, List.setIfInBounds_toArray, List.set_cons_zero, List.set_cons_succ]
  refine wpAnyH_ready (rs := [8]) (by kernel_rfl) (by simp) (nextL 8 rfl (fun Kr hKr => ?_) AllReadyH.nil)
  go_simp
  refine hKr.out _ _ (hd.alloc hd.size _) (fun hHeld2 => ?_)
  clear hKr hHeld
  refine takeL 9 (v := ?_) rfl (by kernel_rfl) (by kernel_rfl) (by kernel_rfl) (fun _ _ _ h => h) (Or.inl ⟨by rfl, ?_⟩) (by assumption) ?_
  rotate_left
  focus (intro wq hSq; obtain ⟨f0, f1, f2, f3, f4⟩ := HF.out wq hSq; go_simp <;> with_reducible rfl)
  simp only [Act.put, List.setIfInBounds_toArray, List.set_cons_zero, List.set_cons_succ]
  refine wpAnyH_ready (rs := [10]) (by kernel_rfl) (by simp) (nextL 10 rfl (fun Kr hKr => ?_) AllReadyH.nil)
  go_simp
  refine hKr.out _ _ (hd.alloc hd.size _) (fun hEnd => ?_)
  clear hKr hHeld2
  refine takeL 11 (v := ?_) rfl (by kernel_rfl) (by kernel_rfl) (by kernel_rfl) (fun _ _ _ h => h) (Or.inl ⟨by rfl, ?_⟩) (by assumption) ?_
  rotate_left
  focus (intro wq hSq; obtain ⟨f0, f1, f2, f3, f4⟩ := HF.out wq hSq; go_simp <;> with_reducible rfl)
  simp only [Act.put, List.setIfInBounds_toArray, List.set_cons_zero, List.set_cons_succ]
  refine takeL 12 (v := ?_) rfl (by kernel_rfl) (by kernel_rfl) (by kernel_rfl) (fun _ _ _ h => h) (Or.inl ⟨by rfl, ?_⟩) (by assumption) ?_
  rotate_left
  focus (intro wq hSq; obtain ⟨f0, f1, f2, f3, f4⟩ := HF.out wq hSq; go_simp <;> with_reducible rfl)
  simp only [Act.put, List.setIfInBounds_toArray, List.set_cons_zero, List.set_cons_succ]
  refine wpAnyH_done (by kernel_rfl) ?_ _
  obtain ⟨W1, hW1⟩ : ∃ W1, W1 = (W0.alloc (.cells #[.int .i64 M, .int .i64 L] 23)).drew := ⟨_, rfl⟩
  have b1 : CBox W1 W0.heap.size 23 #[.int .i64 M, .int .i64 L] := by rw [hW1]; exact (show CBox (W0.alloc _) _ _ _ from CBox.new _ rfl)
  rw [← hW1] at hEnd ⊢
  have HB1 := Lib.hid (HB.out.trans (hEnd.mono HB.out.size))
  have HN := Lib.hid (tnew_no room M L W1 hf)
  obtain ⟨x0, _⟩ := b1.at_ 0 _ rfl
  obtain ⟨x1, _⟩ := b1.at_ 1 _ rfl
  clear hEnd b1 hd hW1 HF B HW
  go_wp2_with fail
  refine HN.out.mono ?_
  rintro e w2 ⟨rfl, hb⟩
  have HB2 := Lib.hid (HB1.out.trans (hb.mono HB1.out.size))
  clear hb HN HB1 x0 x1
  have HL := Lib.hid (tlive_any w2)
  go_wp2_with ((with_reducible refine HL.out.mono ?_); rintro e w3 ⟨rfl, hb3⟩; have HB3 := Lib.hid hb3; clear hb3)
  go_ret
  exact ⟨rfl, HB2.out.trans (HB3.out.mono HB2.out.size)⟩
set_option maxHeartbeats 16000000 in
theorem law_tdrops (room M L port : Int) (so : Option Addr) (sc : Nat) (R : List TOp) (w : World) (h : OpsT w (.slice so R.length sc) R) :
    Calls Try.prog 3 #[.agg #[.int .i64 room, .int .i64 M, .int .i64 L, .slice so R.length sc, .int .i64 port]] w fun e w' => e = .returned (.bool true) ∧ Below w.heap.size w w' := by
  by_cases hf : ¬ fitsT room M L
  · exact tdrops_no room M L port so _ sc w hf
  replace hf : fitsT room M L := Classical.not_not.1 hf
  obtain ⟨bs, off, src, hm, hlen, hidx, hc⟩ := h.facts
  clear h
  obtain ⟨W0, hW0⟩ : ∃ W0, W0 = w.alloc (.cells #[.int .i64 room, .int .i64 M, .int .i64 L, .slice so R.length sc, .int .i64 port] 26) := ⟨_, rfl⟩
  have hb0 : Below w.heap.size w W0 := by rw [hW0]; exact (Below.refl _ _).alloc (Nat.le_refl _) _
  have b0 : CBox W0 w.heap.size 26 #[.int .i64 room, .int .i64 M, .int .i64 L, .slice so R.length sc, .int .i64 port] := by rw [hW0]; exact CBox.new _ rfl
  have HF := Lib.hid (show ∀ wq, Below W0.heap.size W0 wq → wq.cell? ⟨w.heap.size, 0, none⟩ = some (.int .i64 room) ∧ wq.cell? ⟨w.heap.size, 1, none⟩ = some (.int .i64 M) ∧ wq.cell? ⟨w.heap.size, 2, none⟩ = some (.int .i64 L) ∧ wq.cell? ⟨w.heap.size, 3, none⟩ = some (.slice so R.length sc) ∧ wq.cell? ⟨w.heap.size, 4, none⟩ = some (.int .i64 port) from fun wq hb =>
    have c := b0.below hb b0.lt
    ⟨(c.at_ 0 _ rfl).1, (c.at_ 1 _ rfl).1, (c.at_ 2 _ rfl).1, (c.at_ 3 _ rfl).1, (c.at_ 4 _ rfl).1⟩)
  have hd : Below W0.heap.size W0 W0.drew := Below.drew (Below.refl _ _)
  have HB := Lib.hid hb0; have B := Lib.hid b0; have HW := Lib.hid hW0
  clear hb0 b0 hW0
  go_enter Try.func3, Try.ntmps3
  go_upto_region 1 with fail
  rw [← HW.out]
  refine wp_region_held_drew (S := fun W' => Below W0.heap.size W0 W') (by kernel_rfl) hd (fun hHeld => ?_)
  refine takeL 0 (v := ?_) rfl (by kernel_rfl) (by kernel_rfl) (by kernel_rfl) (fun _ _ _ h => h) (Or.inl ⟨by rfl, ?_⟩) (by assumption) ?_
  rotate_left
  focus (intro wq hSq; obtain ⟨f0, f1, f2, f3, f4⟩ := HF.out wq hSq; go_simp <;> with_reducible rfl)
  simp only [Act.put, List.setIfInBounds_toArray, List.set_cons_zero, List.set_cons_succ]
  refine takeL 1 (v := ?_) rfl (by kernel_rfl) (by kernel_rfl) (by kernel_rfl) (fun _ _ _ h => h) (Or.inl ⟨by rfl, ?_⟩) (by assumption) ?_
  rotate_left
  focus (intro wq hSq; obtain ⟨f0, f1, f2, f3, f4⟩ := HF.out wq hSq; go_simp <;> with_reducible rfl)
  simp only [Act.put, List.setIfInBounds_toArray, List.set_cons_zero, List.set_cons_succ]
  refine takeL 2 (v := ?_) rfl (by kernel_rfl) (by kernel_rfl) (by kernel_rfl) (fun _ _ _ h => h) (Or.inl ⟨by rfl, ?_⟩) (by assumption) ?_
  rotate_left
  focus (intro wq hSq; obtain ⟨f0, f1, f2, f3, f4⟩ := HF.out wq hSq; go_simp <;> with_reducible rfl)
  simp only [Act.put, List.setIfInBounds_toArray, List.set_cons_zero, List.set_cons_succ]
  refine takeL 3 (v := ?_) rfl (by kernel_rfl) (by kernel_rfl) (by kernel_rfl) (fun _ _ _ h => h) (Or.inl ⟨by rfl, ?_⟩) (by assumption) ?_
  rotate_left
  focus (intro wq hSq; obtain ⟨f0, f1, f2, f3, f4⟩ := HF.out wq hSq; go_simp <;> with_reducible rfl)
  simp only [Act.put, List.setIfInBounds_toArray, List.set_cons_zero, List.set_cons_succ]
  refine takeL 4 (v := ?_) rfl (by kernel_rfl) (by kernel_rfl) (by kernel_rfl) (fun _ _ _ h => h) (Or.inl ⟨by rfl, ?_⟩) (by assumption) ?_
  rotate_left
  focus (intro wq hSq; obtain ⟨f0, f1, f2, f3, f4⟩ := HF.out wq hSq; go_simp <;> with_reducible rfl)
  simp only [Act.put, List.setIfInBounds_toArray, List.set_cons_zero, List.set_cons_succ]
  refine takeL 5 (v := ?_) rfl (by kernel_rfl) (by kernel_rfl) (by kernel_rfl) (fun _ _ _ h => h) (Or.inl ⟨by rfl, ?_⟩) (by assumption) ?_
  rotate_left
  focus (intro wq hSq; obtain ⟨f0, f1, f2, f3, f4⟩ := HF.out wq hSq; go_simp <;> with_reducible rfl)
  simp only [Act.put, List.setIfInBounds_toArray, List.set_cons_zero, List.set_cons_succ]
  refine takeL 6 (v := ?_) rfl (by kernel_rfl) (by kernel_rfl) (by kernel_rfl) (fun _ _ _ h => h) (Or.inl ⟨by rfl, ?_⟩) (by assumption) ?_
  rotate_left
  focus (intro wq hSq; obtain ⟨f0, f1, f2, f3, f4⟩ := HF.out wq hSq; go_simp <;> with_reducible rfl)
  simp only [Act.put, List.setIfInBounds_toArray, List.set_cons_zero, List.set_cons_succ]
  refine takeL 7 (v := ?_) rfl (by kernel_rfl) (by kernel_rfl) (by kernel_rfl) (fun _ _ _ h => h) (Or.inl ⟨by rfl, ?_⟩) (by assumption) ?_
  rotate_left
  focus (intro wq hSq; obtain ⟨f0, f1, f2, f3, f4⟩ := HF.out wq hSq; go_simp <;> with_reducible rfl)
  simp only [Act.put, List.setIfInBounds_toArray, List.set_cons_zero, List.set_cons_succ]
  refine wpAnyH_ready (rs := [8]) (by kernel_rfl) (by simp) (nextL 8 rfl (fun Kr hKr => ?_) AllReadyH.nil)
  go_simp
  refine hKr.out _ _ (hd.alloc hd.size _) (fun hHeld2 => ?_)
  clear hKr hHeld
  refine takeL 9 (v := ?_) rfl (by kernel_rfl) (by kernel_rfl) (by kernel_rfl) (fun _ _ _ h => h) (Or.inl ⟨by rfl, ?_⟩) (by assumption) ?_
  rotate_left
  focus (intro wq hSq; obtain ⟨f0, f1, f2, f3, f4⟩ := HF.out wq hSq; go_simp <;> with_reducible rfl)
  simp only [Act.put, List.setIfInBounds_toArray, List.set_cons_zero, List.set_cons_succ]
  refine wpAnyH_ready (rs := [10]) (by kernel_rfl) (by simp) (nextL 10 rfl (fun Kr hKr => ?_) AllReadyH.nil)
  go_simp
  refine hKr.out _ _ (hd.alloc hd.size _) (fun hEnd => ?_)
  clear hKr hHeld2
  refine takeL 11 (v := ?_) rfl (by kernel_rfl) (by kernel_rfl) (by kernel_rfl) (fun _ _ _ h => h) (Or.inl ⟨by rfl, ?_⟩) (by assumption) ?_
  rotate_left
  focus (intro wq hSq; obtain ⟨f0, f1, f2, f3, f4⟩ := HF.out wq hSq; go_simp <;> with_reducible rfl)
  simp only [Act.put, List.setIfInBounds_toArray, List.set_cons_zero, List.set_cons_succ]
  refine takeL 12 (v := ?_) rfl (by kernel_rfl) (by kernel_rfl) (by kernel_rfl) (fun _ _ _ h => h) (Or.inl ⟨by rfl, ?_⟩) (by assumption) ?_
  rotate_left
  focus (intro wq hSq; obtain ⟨f0, f1, f2, f3, f4⟩ := HF.out wq hSq; go_simp <;> with_reducible rfl)
  simp only [Act.put, List.setIfInBounds_toArray, List.set_cons_zero, List.set_cons_succ]
  refine wpAnyH_done (by kernel_rfl) ?_ _
  obtain ⟨W1, hW1⟩ : ∃ W1, W1 = (W0.alloc (.cells #[.int .i64 M, .int .i64 L] 23)).drew := ⟨_, rfl⟩
  have b1 : CBox W1 W0.heap.size 23 #[.int .i64 M, .int .i64 L] := by rw [hW1]; exact (show CBox (W0.alloc _) _ _ _ from CBox.new _ rfl)
  rw [← hW1] at hEnd ⊢
  have HB1 := Lib.hid (HB.out.trans (hEnd.mono HB.out.size))
  have HN := Lib.hid (tnew_yes room M L W1 hf)
  obtain ⟨x0, _⟩ := b1.at_ 0 _ rfl
  obtain ⟨x1, _⟩ := b1.at_ 1 _ rfl
  clear hEnd b1 hd hW1 HF B HW
  go_wp2_with fail
  refine HN.out.mono ?_
  rintro e w2 ⟨p, b, o, rfl, hT, hpb, hpo, hb⟩
  have HNE := Lib.hid (show w.heap.size ≤ b ∧ w.heap.size ≤ o from by have := HB1.out.size; omega)
  have HS0 := Lib.hid (show Scr w p b o room M L 0 w2 from ⟨_, _, [], hT, TInv.empty hf.1.1, HB1.out.trans (hb.mono HB1.out.size)⟩)
  have HR := Lib.hid hf
  clear hb hT hpb hpo HN HB1 HB hf x0 x1
  go_wp2_with fail
  go_loopw [9] (fun i wr => ∃ k, k ≤ R.length ∧ k ≤ 40 ∧ i = .int .i64 (k : Nat) ∧ Scr w p b o room M L k wr) (fun i _ => R.length - (intOf i).toNat)
  case atStart => exact ⟨0, Nat.zero_le _, Nat.zero_le _, rfl, HS0.out⟩
  case round =>
    obtain ⟨k, hk, hk40, rfl, hsc⟩ := hrel
    have HSC := Lib.hid hsc
    clear hsc HS0
    by_cases hlt : k < R.length
    · by_cases h40 : k < 40
      · obtain ⟨hlb, hcs, hok⟩ := hc k hlt
        have hp := hidx k hlt
        obtain ⟨q, hq⟩ : ∃ q, q = R.getD k default := ⟨_, rfl⟩
        rw [← hq] at hcs hok
        obtain ⟨F, O, K, hT, hI, hbr⟩ := HSC.out
        obtain ⟨ro, rc, hrs⟩ := hok.strs.shape
        obtain ⟨c0, c1, c2, c3, c4, c5, c6, c7⟩ := TOp.row hbr hlb hcs
        rw [hrs] at c5
        have HT := Lib.hid hT; have HI := Lib.hid hI; have HBR := Lib.hid hbr
        have HST := Lib.hid (show Strs wr (.slice ro q.S.length rc) q.S from hrs ▸ hok.strs.mono hbr)
        clear hidx hc hlb hcs hok hq hrs hT hI hbr HSC
        go_upto_region 11 with fail
        obtain ⟨W3, hW3⟩ : ∃ W3, W3 = wr.alloc (.cells #[.int .i64 q.d, .int .i64 q.vl, .int .i64 q.pt, .int .i64 q.kind, .string (bstr q.g), .slice ro q.S.length rc, .string (bstr q.src), .int .i64 q.now] 37) := ⟨_, rfl⟩
        have hb3 : Below wr.heap.size wr W3 := by rw [hW3]; exact (Below.refl _ _).alloc (Nat.le_refl _) _
        have HX := Lib.hid (show CBox W3 wr.heap.size 37 #[.int .i64 q.d, .int .i64 q.vl, .int .i64 q.pt, .int .i64 q.kind, .string (bstr q.g), .slice ro q.S.length rc, .string (bstr q.src), .int .i64 q.now] from by rw [hW3]; exact CBox.new _ rfl)
        have HT3 := Lib.hid (HT.out.mono hb3)
        have HRP := Lib.hid (report_all p b o k k room M L q.vl q.pt q.kind q.now q.g _ q.S F O K W3 HT3.out HI.out (HST.out.mono hb3) (by omega) (by omega))
        have HB3 := Lib.hid (HBR.out.trans (hb3.mono HBR.out.size))
        have HW3 := Lib.hid hW3
        clear hb3 hW3 HT HST HBR c0 c1 c2 c3 c4 c5 c6 c7 hp
        rw [← HW3.out]
        clear HW3
        obtain ⟨x1, _⟩ := HX.out.at_ 1 _ rfl
        obtain ⟨x2, _⟩ := HX.out.at_ 2 _ rfl
        obtain ⟨x3, _⟩ := HX.out.at_ 3 _ rfl
        obtain ⟨x4, _⟩ := HX.out.at_ 4 _ rfl
        obtain ⟨x5, _⟩ := HX.out.at_ 5 _ rfl
        obtain ⟨x7, _⟩ := HX.out.at_ 7 _ rfl
        have xl := HX.out.lt
        cases d60 : decide ((60 : Int) < (q.S.length : Int))
        · go_wp2_with fail
          refine HRP.out.mono ?_
          rintro e w4 ⟨u, f, rs, err, F', O', K', rfl, hu, hT4, hM4, hI4, _⟩
          have HNX := Lib.hid (show Scr w p b o room M L (k + 1) w4 from ⟨F', O', K', hT4, hI4, HB3.out.trans (hM4.below HB3.out.size HNE.out.1 HNE.out.2)⟩)
          clear hu hT4 hM4 hI4 HRP HX HT3 HB3 HI x1 x2 x3 x4 x5 x7 xl
          go_wp2_with fail
          go_roundw
          case rel => exact ⟨k + 1, by omega, by omega, by go_num, HNX.out⟩
          case measure => simp [intOf]; omega
        · clear HRP
          go_wp2_with fail
          refine (tlive_any _).mono ?_
          rintro e w4 ⟨rfl, hb⟩
          have HB := Lib.hid (HB3.out.trans (hb.mono HB3.out.size))
          clear hb
          go_wp2_with fail
          go_ret
          exact ⟨rfl, HB.out⟩
      · obtain rfl : k = 40 := by omega
        clear hidx hc
        go_upto_region 14 with fail
        obtain ⟨F, O, K, hT, hI, hbr⟩ := HSC.out
        have HK1 := Lib.hid (keys_fn (some ⟨p, 0, none⟩) _ F K wr ⟨hI.keys, .inr ⟨p, b, o, _, _, _, _, _, rfl, hT⟩⟩ (by omega))
        have HT := Lib.hid hT; have HI := Lib.hid hI; have HBR := Lib.hid hbr
        clear hT hI hbr HSC
        go_wp2_with fail
        refine HK1.out.mono ?_
        rintro e w4 ⟨u, rfl, hk4, _, hb4⟩
        obtain ⟨uo, uc, rfl⟩ := hk4.shape
        have hT4 := HT.out.mono hb4
        have HD := Lib.hid (drop_any p b o _ _ room M L port F O K w4 hT4 HI.out.keys (by omega))
        have HT4 := Lib.hid hT4; have HK4 := Lib.hid hk4; have HB4 := Lib.hid (HBR.out.trans (hb4.mono HBR.out.size))
        clear hT4 hk4 hb4 HK1 HT HBR
        go_wp2_with fail
        refine HD.out.mono ?_
        rintro e w5 ⟨rfl, hT5, hM5⟩
        have HK5 := Lib.hid (HK4.out.keep (HT4.out.ckeep hM5))
        have HB5 := Lib.hid (HB4.out.trans (hM5.below HB4.out.size HNE.out.1 HNE.out.2))
        have HK2 := Lib.hid (keys_fn (some ⟨p, 0, none⟩) _ (noPort F port) (K.filter fun x => !(x.2.2 == port)) w5 ⟨noPort_keys HI.out.keys port, .inr ⟨p, b, o, _, _, _, _, _, rfl, hT5⟩⟩ (by omega))
        clear hT5 hM5 HD HT4 HK4 HB4
        go_wp2_with fail
        refine HK2.out.mono ?_
        rintro e w6 ⟨u', rfl, hk6, _, hb6⟩
        obtain ⟨vo, vc, rfl⟩ := hk6.shape
        have HB6 := Lib.hid (HB5.out.trans (hb6.mono HB5.out.size))
        obtain ⟨ba, offa, hlena, hidxa, hca⟩ := (HK5.out.mono hb6).facts
        obtain ⟨bi, offi, hleni, hidxi, hci⟩ := hk6.facts
        have hKl : K.length ≤ 4096 := by have h1 := HI.out.few; have h2 := HR.out.1.2; omega
        have hDl := dropN_le port K
        clear hk6 hb6 HK2 HK5 HB5
        go_wp2_with fail
        go_loopw [12, 14, 15] (fun n q i wq => ∃ j, j ≤ K.length ∧ i = .int .i64 (j : Nat) ∧ n = .int .i64 (dropN port (K.drop j) : Nat) ∧ q = .int .i64 ((K.take j).filter fun x => !(x.2.2 == port)).length ∧ Below w6.heap.size w6 wq) (fun _ _ i _ => K.length - (intOf i).toNat)
        case atStart => exact ⟨0, Nat.zero_le _, rfl, by simp, by simp, Below.refl _ _⟩
        case round =>
          rename_i wq
          obtain ⟨j, hj, rfl, rfl, rfl, hbq⟩ := hrel
          obtain ⟨n0, hn0⟩ : ∃ n, n = dropN port (K.drop j) := ⟨_, rfl⟩
          obtain ⟨q0, hq0⟩ : ∃ q, q = ((K.take j).filter fun x => !(x.2.2 == port)).length := ⟨_, rfl⟩
          have hnl : n0 ≤ 4096 := by rw [hn0]; have := dropN_le port (K.drop j); rw [List.length_drop] at this; omega
          have hql : q0 ≤ 4096 := by rw [hq0]; have := List.length_filter_le (fun x : TK => !(x.2.2 == port)) (K.take j); rw [List.length_take] at this; omega
          rw [← hn0, ← hq0]
          by_cases hj' : j < K.length
          · obtain ⟨h1, a0, a1, a2⟩ := hca j hj'
            have hgx : K.getD j default = K[j] := by simp [List.getD_eq_getElem?_getD, hj']
            rw [hgx] at a0 a1 a2
            have a0 := (hbq.cell (p := ⟨ba, offa + j * 3, none⟩) h1).trans a0
            have a1 := (hbq.cell (p := ⟨ba, offa + j * 3 + 1, none⟩) h1).trans a1
            have a2 := (hbq.cell (p := ⟨ba, offa + j * 3 + 2, none⟩) h1).trans a2
            have hpa := hidxa j hj'
            obtain ⟨r1, r2⟩ := rest_step (port := port) hj'
            rw [← hn0] at r1
            rw [← hq0] at r2
            have HBQ := Lib.hid hbq
            by_cases he : K[j].2.2 = port
            · rw [if_pos he] at r1 r2
              have he' : decide (K[j].2.2 = port) = true := decide_eq_true he
              clear hca hidxa hci hidxi hbq hgx h1 hq0 hn0
              go_wp2_with fail
              go_roundw
              case rel => exact ⟨j + 1, by omega, by go_num, by go_num, by rw [r2]; rfl, HBQ.out⟩
              case measure => simp [intOf]; omega
            · rw [if_neg he] at r1 r2
              have he' : decide (K[j].2.2 = port) = false := decide_eq_false he
              have hlt : q0 < (K.filter fun x => !(x.2.2 == port)).length := by rw [hq0]; exact rest_lt hj' he
              obtain ⟨h2, b0, b1, b2⟩ := hci q0 hlt
              have hgy : (K.filter fun x => !(x.2.2 == port)).getD q0 default = K[j] := by
                have := rest_at (port := port) hj' he (by rw [← hq0]; exact hlt)
                simp only [← hq0] at this
                simp [List.getD_eq_getElem?_getD, hlt, this]
              rw [hgy] at b0 b1 b2
              have b0 := (hbq.cell (p := ⟨bi, offi + q0 * 3, none⟩) h2).trans b0
              have b1 := (hbq.cell (p := ⟨bi, offi + q0 * 3 + 1, none⟩) h2).trans b1
              have b2 := (hbq.cell (p := ⟨bi, offi + q0 * 3 + 2, none⟩) h2).trans b2
              have hpb := hidxi q0 hlt
              have hge : decide ((K.filter fun x => !(x.2.2 == port)).length ≤ q0) = false := decide_eq_false (by omega)
              have HKN := key_neq K[j]
              unfold encT at HKN
              have hd : Below wr.heap.size wr wr.drew := Below.drew (Below.refl _ _)
              have HF := Lib.hid (show ∀ wq, Below wr.heap.size wr wq → wq.cell? ⟨ba, offa + j * 3, none⟩ = some (.int .i64 K[j].1) ∧ wq.cell? ⟨ba, offa + j * 3 + 1, none⟩ = some (.string (bstr K[j].2.1)) ∧ wq.cell? ⟨ba, offa + j * 3 + 2, none⟩ = some (.int .i64 K[j].2.2) ∧ wq.cell? ⟨bi, offi + q0 * 3, none⟩ = some (.int .i64 K[j].1) ∧ wq.cell? ⟨bi, offi + q0 * 3 + 1, none⟩ = some (.string (bstr K[j].2.1)) ∧ wq.cell? ⟨bi, offi + q0 * 3 + 2, none⟩ = some (.int .i64 K[j].2.2) from fun wq hb =>
                have la := Nat.lt_of_lt_of_le h1 hbq.size
                have li := Nat.lt_of_lt_of_le h2 hbq.size
                ⟨(hb.cell (p := ⟨ba, offa + j * 3, none⟩) la).trans a0, (hb.cell (p := ⟨ba, offa + j * 3 + 1, none⟩) la).trans a1, (hb.cell (p := ⟨ba, offa + j * 3 + 2, none⟩) la).trans a2, (hb.cell (p := ⟨bi, offi + q0 * 3, none⟩) li).trans b0, (hb.cell (p := ⟨bi, offi + q0 * 3 + 1, none⟩) li).trans b1, (hb.cell (p := ⟨bi, offi + q0 * 3 + 2, none⟩) li).trans b2⟩)
              have HBD := Lib.hid (hbq.trans (hd.mono hbq.size))
              clear hca hidxa hci hidxi hbq hgx hgy h1 h2 hq0 hn0
              go_upto_region 23 with fail
              refine wp_region_held_drew (S := fun W' => Below wr.heap.size wr W') (by kernel_rfl) hd (fun hHeld => ?_)
              refine takeL 0 (v := ?_) rfl (by kernel_rfl) (by kernel_rfl) (by kernel_rfl) (fun _ _ _ h => h) (Or.inl ⟨by rfl, ?_⟩) (by assumption) ?_
              rotate_left
              focus (intro wq hSq; obtain ⟨f0, f1, f2, f3, f4, f5⟩ := HF.out wq hSq; go_simp <;> with_reducible rfl)
              simp only [Act.put, List.setIfInBounds_toArray, List.set_cons_zero, List.set_cons_succ]
              refine takeL 1 (v := ?_) rfl (by kernel_rfl) (by kernel_rfl) (by kernel_rfl) (fun _ _ _ h => h) (Or.inl ⟨by rfl, ?_⟩) (by assumption) ?_
              rotate_left
              focus (intro wq hSq; obtain ⟨f0, f1, f2, f3, f4, f5⟩ := HF.out wq hSq; go_simp <;> with_reducible rfl)
              simp only [Act.put, List.setIfInBounds_toArray, List.set_cons_zero, List.set_cons_succ]
              refine takeL 2 (v := ?_) rfl (by kernel_rfl) (by kernel_rfl) (by kernel_rfl) (fun _ _ _ h => h) (Or.inl ⟨by rfl, ?_⟩) (by assumption) ?_
              rotate_left
              focus (intro wq hSq; obtain ⟨f0, f1, f2, f3, f4, f5⟩ := HF.out wq hSq; go_simp <;> with_reducible rfl)
              simp only [Act.put, List.setIfInBounds_toArray, List.set_cons_zero, List.set_cons_succ]
              refine takeL 3 (v := ?_) rfl (by kernel_rfl) (by kernel_rfl) (by kernel_rfl) (fun _ _ _ h => h) (Or.inl ⟨by rfl, ?_⟩) (by assumption) ?_
              rotate_left
              focus (intro wq hSq; obtain ⟨f0, f1, f2, f3, f4, f5⟩ := HF.out wq hSq; go_simp <;> with_reducible rfl)
              simp only [Act.put, List.setIfInBounds_toArray, List.set_cons_zero, List.set_cons_succ]
              refine takeL 4 (v := ?_) rfl (by kernel_rfl) (by kernel_rfl) (by kernel_rfl) (fun _ _ _ h => h) (Or.inl ⟨by rfl, ?_⟩) (by assumption) ?_
              rotate_left
              focus (intro wq hSq; obtain ⟨f0, f1, f2, f3, f4, f5⟩ := HF.out wq hSq; go_simp <;> with_reducible rfl)
              simp only [Act.put, List.setIfInBounds_toArray, List.set_cons_zero, List.set_cons_succ]
              refine takeL 5 (v := ?_) rfl (by kernel_rfl) (by kernel_rfl) (by kernel_rfl) (fun _ _ _ h => h) (Or.inl ⟨by rfl, ?_⟩) (by assumption) ?_
              rotate_left
              focus (intro wq hSq; obtain ⟨f0, f1, f2, f3, f4, f5⟩ := HF.out wq hSq; go_simp <;> with_reducible rfl)
              simp only [Act.put, List.setIfInBounds_toArray, List.set_cons_zero, List.set_cons_succ]
              refine takeL 6 (v := ?_) rfl (by kernel_rfl) (by kernel_rfl) (by kernel_rfl) (fun _ _ _ h => h) (Or.inl ⟨by rfl, ?_⟩) (by assumption) ?_
              rotate_left
              focus (intro wq hSq; obtain ⟨f0, f1, f2, f3, f4, f5⟩ := HF.out wq hSq; go_simp <;> with_reducible rfl)
              simp only [Act.put, List.setIfInBounds_toArray, List.set_cons_zero, List.set_cons_succ]
              refine takeL 7 (v := ?_) rfl (by kernel_rfl) (by kernel_rfl) (by kernel_rfl) (fun _ _ _ h => h) (Or.inl ⟨by rfl, ?_⟩) (by assumption) ?_
              rotate_left
              focus (intro wq hSq; obtain ⟨f0, f1, f2, f3, f4, f5⟩ := HF.out wq hSq; go_simp <;> with_reducible rfl)
              simp only [Act.put, List.setIfInBounds_toArray, List.set_cons_zero, List.set_cons_succ]
              refine takeL 8 (v := ?_) rfl (by kernel_rfl) (by kernel_rfl) (by kernel_rfl) (fun _ _ _ h => h) (Or.inl ⟨by rfl, ?_⟩) (by assumption) ?_
              rotate_left
              focus (intro wq hSq; obtain ⟨f0, f1, f2, f3, f4, f5⟩ := HF.out wq hSq; go_simp <;> with_reducible rfl)
              simp only [Act.put, List.setIfInBounds_toArray, List.set_cons_zero, List.set_cons_succ]
              refine takeL 9 (v := ?_) rfl (by kernel_rfl) (by kernel_rfl) (by kernel_rfl) (fun _ _ _ h => h) (Or.inl ⟨by rfl, ?_⟩) (by assumption) ?_
              rotate_left
              focus (intro wq hSq; obtain ⟨f0, f1, f2, f3, f4, f5⟩ := HF.out wq hSq; go_simp <;> with_reducible rfl)
              simp only [Act.put, List.setIfInBounds_toArray, List.set_cons_zero, List.set_cons_succ]
              refine takeL 10 (v := ?_) rfl (by kernel_rfl) (by kernel_rfl) (by kernel_rfl) (fun _ _ _ h => h) (Or.inl ⟨by rfl, ?_⟩) (by assumption) ?_
              rotate_left
              focus (intro wq hSq; obtain ⟨f0, f1, f2, f3, f4, f5⟩ := HF.out wq hSq; go_simp <;> with_reducible rfl)
              simp only [Act.put, List.setIfInBounds_toArray, List.set_cons_zero, List.set_cons_succ]
              refine takeL 11 (v := ?_) rfl (by kernel_rfl) (by kernel_rfl) (by kernel_rfl) (fun _ _ _ h => h) (Or.inl ⟨by rfl, ?_⟩) (by assumption) ?_
              rotate_left
              focus (intro wq hSq; obtain ⟨f0, f1, f2, f3, f4, f5⟩ := HF.out wq hSq; go_simp <;> with_reducible rfl)
              simp only [Act.put, List.setIfInBounds_toArray, List.set_cons_zero, List.set_cons_succ]
              refine takeL 12 (v := ?_) rfl (by kernel_rfl) (by kernel_rfl) (by kernel_rfl) (fun _ _ _ h => h) (Or.inl ⟨by rfl, ?_⟩) (by assumption) ?_
              rotate_left
              focus (intro wq hSq; obtain ⟨f0, f1, f2, f3, f4, f5⟩ := HF.out wq hSq; go_simp <;> with_reducible rfl)
              simp only [Act.put, List.setIfInBounds_toArray, List.set_cons_zero, List.set_cons_succ]
              refine takeL 13 (v := ?_) rfl (by kernel_rfl) (by kernel_rfl) (by kernel_rfl) (fun _ _ _ h => h) (Or.inl ⟨by rfl, ?_⟩) (by assumption) ?_
              rotate_left
              focus (intro wq hSq; obtain ⟨f0, f1, f2, f3, f4, f5⟩ := HF.out wq hSq; go_simp <;> with_reducible rfl)
              simp only [Act.put, List.setIfInBounds_toArray, List.set_cons_zero, List.set_cons_succ]
              refine takeL 14 (v := ?_) rfl (by kernel_rfl) (by kernel_rfl) (by kernel_rfl) (fun _ _ _ h => h) (Or.inl ⟨by rfl, ?_⟩) (by assumption) ?_
              rotate_left
              focus (intro wq hSq; obtain ⟨f0, f1, f2, f3, f4, f5⟩ := HF.out wq hSq; go_simp <;> with_reducible rfl)
              simp only [Act.put, List.setIfInBounds_toArray, List.set_cons_zero, List.set_cons_succ]
              refine wpAnyH_done (by kernel_rfl) ?_ _
              go_wp2_with fail
              go_roundw
              case rel => exact ⟨j + 1, by omega, by go_num, by rw [show dropN port (K.drop (j + 1)) = n0 from by omega], by rw [r2]; go_num, HBD.out⟩
              case measure => simp [intOf]; omega
          · obtain rfl : j = K.length := by omega
            rw [List.drop_length] at hn0
            rw [List.take_length] at hq0
            replace hn0 : n0 = 0 := hn0
            subst hn0
            subst hq0
            have HL := Lib.hid (tlive_any wr)
            have HBX := Lib.hid (HB6.out.trans (hbq.mono HB6.out.size))
            clear hca hidxa hci hidxi hbq
            go_wp2_with ((with_reducible refine HL.out.mono ?_); rintro e w7 ⟨rfl, hb⟩; have HB7 := Lib.hid hb; clear hb)
            go_ret
            exact ⟨rfl, HBX.out.trans (HB7.out.mono HBX.out.size)⟩
    · clear hidx hc
      go_upto_region 14 with fail
      obtain ⟨F, O, K, hT, hI, hbr⟩ := HSC.out
      have HK1 := Lib.hid (keys_fn (some ⟨p, 0, none⟩) _ F K wr ⟨hI.keys, .inr ⟨p, b, o, _, _, _, _, _, rfl, hT⟩⟩ (by omega))
      have HT := Lib.hid hT; have HI := Lib.hid hI; have HBR := Lib.hid hbr
      clear hT hI hbr HSC
      go_wp2_with fail
      refine HK1.out.mono ?_
      rintro e w4 ⟨u, rfl, hk4, _, hb4⟩
      obtain ⟨uo, uc, rfl⟩ := hk4.shape
      have hT4 := HT.out.mono hb4
      have HD := Lib.hid (drop_any p b o _ _ room M L port F O K w4 hT4 HI.out.keys (by omega))
      have HT4 := Lib.hid hT4; have HK4 := Lib.hid hk4; have HB4 := Lib.hid (HBR.out.trans (hb4.mono HBR.out.size))
      clear hT4 hk4 hb4 HK1 HT HBR
      go_wp2_with fail
      refine HD.out.mono ?_
      rintro e w5 ⟨rfl, hT5, hM5⟩
      have HK5 := Lib.hid (HK4.out.keep (HT4.out.ckeep hM5))
      have HB5 := Lib.hid (HB4.out.trans (hM5.below HB4.out.size HNE.out.1 HNE.out.2))
      have HK2 := Lib.hid (keys_fn (some ⟨p, 0, none⟩) _ (noPort F port) (K.filter fun x => !(x.2.2 == port)) w5 ⟨noPort_keys HI.out.keys port, .inr ⟨p, b, o, _, _, _, _, _, rfl, hT5⟩⟩ (by omega))
      clear hT5 hM5 HD HT4 HK4 HB4
      go_wp2_with fail
      refine HK2.out.mono ?_
      rintro e w6 ⟨u', rfl, hk6, _, hb6⟩
      obtain ⟨vo, vc, rfl⟩ := hk6.shape
      have HB6 := Lib.hid (HB5.out.trans (hb6.mono HB5.out.size))
      obtain ⟨ba, offa, hlena, hidxa, hca⟩ := (HK5.out.mono hb6).facts
      obtain ⟨bi, offi, hleni, hidxi, hci⟩ := hk6.facts
      have hKl : K.length ≤ 4096 := by have h1 := HI.out.few; have h2 := HR.out.1.2; omega
      have hDl := dropN_le port K
      clear hk6 hb6 HK2 HK5 HB5
      go_wp2_with fail
      go_loopw [12, 14, 15] (fun n q i wq => ∃ j, j ≤ K.length ∧ i = .int .i64 (j : Nat) ∧ n = .int .i64 (dropN port (K.drop j) : Nat) ∧ q = .int .i64 ((K.take j).filter fun x => !(x.2.2 == port)).length ∧ Below w6.heap.size w6 wq) (fun _ _ i _ => K.length - (intOf i).toNat)
      case atStart => exact ⟨0, Nat.zero_le _, rfl, by simp, by simp, Below.refl _ _⟩
      case round =>
        rename_i wq
        obtain ⟨j, hj, rfl, rfl, rfl, hbq⟩ := hrel
        obtain ⟨n0, hn0⟩ : ∃ n, n = dropN port (K.drop j) := ⟨_, rfl⟩
        obtain ⟨q0, hq0⟩ : ∃ q, q = ((K.take j).filter fun x => !(x.2.2 == port)).length := ⟨_, rfl⟩
        have hnl : n0 ≤ 4096 := by rw [hn0]; have := dropN_le port (K.drop j); rw [List.length_drop] at this; omega
        have hql : q0 ≤ 4096 := by rw [hq0]; have := List.length_filter_le (fun x : TK => !(x.2.2 == port)) (K.take j); rw [List.length_take] at this; omega
        rw [← hn0, ← hq0]
        by_cases hj' : j < K.length
        · obtain ⟨h1, a0, a1, a2⟩ := hca j hj'
          have hgx : K.getD j default = K[j] := by simp [List.getD_eq_getElem?_getD, hj']
          rw [hgx] at a0 a1 a2
          have a0 := (hbq.cell (p := ⟨ba, offa + j * 3, none⟩) h1).trans a0
          have a1 := (hbq.cell (p := ⟨ba, offa + j * 3 + 1, none⟩) h1).trans a1
          have a2 := (hbq.cell (p := ⟨ba, offa + j * 3 + 2, none⟩) h1).trans a2
          have hpa := hidxa j hj'
          obtain ⟨r1, r2⟩ := rest_step (port := port) hj'
          rw [← hn0] at r1
          rw [← hq0] at r2
          have HBQ := Lib.hid hbq
          by_cases he : K[j].2.2 = port
          · rw [if_pos he] at r1 r2
            have he' : decide (K[j].2.2 = port) = true := decide_eq_true he
            clear hca hidxa hci hidxi hbq hgx h1 hq0 hn0
            go_wp2_with fail
            go_roundw
            case rel => exact ⟨j + 1, by omega, by go_num, by go_num, by rw [r2]; rfl, HBQ.out⟩
            case measure => simp [intOf]; omega
          · rw [if_neg he] at r1 r2
            have he' : decide (K[j].2.2 = port) = false := decide_eq_false he
            have hlt : q0 < (K.filter fun x => !(x.2.2 == port)).length := by rw [hq0]; exact rest_lt hj' he
            obtain ⟨h2, b0, b1, b2⟩ := hci q0 hlt
            have hgy : (K.filter fun x => !(x.2.2 == port)).getD q0 default = K[j] := by
              have := rest_at (port := port) hj' he (by rw [← hq0]; exact hlt)
              simp only [← hq0] at this
              simp [List.getD_eq_getElem?_getD, hlt, this]
            rw [hgy] at b0 b1 b2
            have b0 := (hbq.cell (p := ⟨bi, offi + q0 * 3, none⟩) h2).trans b0
            have b1 := (hbq.cell (p := ⟨bi, offi + q0 * 3 + 1, none⟩) h2).trans b1
            have b2 := (hbq.cell (p := ⟨bi, offi + q0 * 3 + 2, none⟩) h2).trans b2
            have hpb := hidxi q0 hlt
            have hge : decide ((K.filter fun x => !(x.2.2 == port)).length ≤ q0) = false := decide_eq_false (by omega)
            have HKN := key_neq K[j]
            unfold encT at HKN
            have hd : Below wr.heap.size wr wr.drew := Below.drew (Below.refl _ _)
            have HF := Lib.hid (show ∀ wq, Below wr.heap.size wr wq → wq.cell? ⟨ba, offa + j * 3, none⟩ = some (.int .i64 K[j].1) ∧ wq.cell? ⟨ba, offa + j * 3 + 1, none⟩ = some (.string (bstr K[j].2.1)) ∧ wq.cell? ⟨ba, offa + j * 3 + 2, none⟩ = some (.int .i64 K[j].2.2) ∧ wq.cell? ⟨bi, offi + q0 * 3, none⟩ = some (.int .i64 K[j].1) ∧ wq.cell? ⟨bi, offi + q0 * 3 + 1, none⟩ = some (.string (bstr K[j].2.1)) ∧ wq.cell? ⟨bi, offi + q0 * 3 + 2, none⟩ = some (.int .i64 K[j].2.2) from fun wq hb =>
              have la := Nat.lt_of_lt_of_le h1 hbq.size
              have li := Nat.lt_of_lt_of_le h2 hbq.size
              ⟨(hb.cell (p := ⟨ba, offa + j * 3, none⟩) la).trans a0, (hb.cell (p := ⟨ba, offa + j * 3 + 1, none⟩) la).trans a1, (hb.cell (p := ⟨ba, offa + j * 3 + 2, none⟩) la).trans a2, (hb.cell (p := ⟨bi, offi + q0 * 3, none⟩) li).trans b0, (hb.cell (p := ⟨bi, offi + q0 * 3 + 1, none⟩) li).trans b1, (hb.cell (p := ⟨bi, offi + q0 * 3 + 2, none⟩) li).trans b2⟩)
            have HBD := Lib.hid (hbq.trans (hd.mono hbq.size))
            clear hca hidxa hci hidxi hbq hgx hgy h1 h2 hq0 hn0
            go_upto_region 23 with fail
            refine wp_region_held_drew (S := fun W' => Below wr.heap.size wr W') (by kernel_rfl) hd (fun hHeld => ?_)
            refine takeL 0 (v := ?_) rfl (by kernel_rfl) (by kernel_rfl) (by kernel_rfl) (fun _ _ _ h => h) (Or.inl ⟨by rfl, ?_⟩) (by assumption) ?_
            rotate_left
            focus (intro wq hSq; obtain ⟨f0, f1, f2, f3, f4, f5⟩ := HF.out wq hSq; go_simp <;> with_reducible rfl)
            simp only [Act.put, List.setIfInBounds_toArray, List.set_cons_zero, List.set_cons_succ]
            refine takeL 1 (v := ?_) rfl (by kernel_rfl) (by kernel_rfl) (by kernel_rfl) (fun _ _ _ h => h) (Or.inl ⟨by rfl, ?_⟩) (by assumption) ?_
            rotate_left
            focus (intro wq hSq; obtain ⟨f0, f1, f2, f3, f4, f5⟩ := HF.out wq hSq; go_simp <;> with_reducible rfl)
            simp only [Act.put, List.setIfInBounds_toArray, List.set_cons_zero, List.set_cons_succ]
            refine takeL 2 (v := ?_) rfl (by kernel_rfl) (by kernel_rfl) (by kernel_rfl) (fun _ _ _ h => h) (Or.inl ⟨by rfl, ?_⟩) (by assumption) ?_
            rotate_left
            focus (intro wq hSq; obtain ⟨f0, f1, f2, f3, f4, f5⟩ := HF.out wq hSq; go_simp <;> with_reducible rfl)
            simp only [Act.put, List.setIfInBounds_toArray, List.set_cons_zero, List.set_cons_succ]
            refine takeL 3 (v := ?_) rfl (by kernel_rfl) (by kernel_rfl) (by kernel_rfl) (fun _ _ _ h => h) (Or.inl ⟨by rfl, ?_⟩) (by assumption) ?_
            rotate_left
            focus (intro wq hSq; obtain ⟨f0, f1, f2, f3, f4, f5⟩ := HF.out wq hSq; go_simp <;> with_reducible rfl)
            simp only [Act.put, List.setIfInBounds_toArray, List.set_cons_zero, List.set_cons_succ]
            refine takeL 4 (v := ?_) rfl (by kernel_rfl) (by kernel_rfl) (by kernel_rfl) (fun _ _ _ h => h) (Or.inl ⟨by rfl, ?_⟩) (by assumption) ?_
            rotate_left
            focus (intro wq hSq; obtain ⟨f0, f1, f2, f3, f4, f5⟩ := HF.out wq hSq; go_simp <;> with_reducible rfl)
            simp only [Act.put, List.setIfInBounds_toArray, List.set_cons_zero, List.set_cons_succ]
            refine takeL 5 (v := ?_) rfl (by kernel_rfl) (by kernel_rfl) (by kernel_rfl) (fun _ _ _ h => h) (Or.inl ⟨by rfl, ?_⟩) (by assumption) ?_
            rotate_left
            focus (intro wq hSq; obtain ⟨f0, f1, f2, f3, f4, f5⟩ := HF.out wq hSq; go_simp <;> with_reducible rfl)
            simp only [Act.put, List.setIfInBounds_toArray, List.set_cons_zero, List.set_cons_succ]
            refine takeL 6 (v := ?_) rfl (by kernel_rfl) (by kernel_rfl) (by kernel_rfl) (fun _ _ _ h => h) (Or.inl ⟨by rfl, ?_⟩) (by assumption) ?_
            rotate_left
            focus (intro wq hSq; obtain ⟨f0, f1, f2, f3, f4, f5⟩ := HF.out wq hSq; go_simp <;> with_reducible rfl)
            simp only [Act.put, List.setIfInBounds_toArray, List.set_cons_zero, List.set_cons_succ]
            refine takeL 7 (v := ?_) rfl (by kernel_rfl) (by kernel_rfl) (by kernel_rfl) (fun _ _ _ h => h) (Or.inl ⟨by rfl, ?_⟩) (by assumption) ?_
            rotate_left
            focus (intro wq hSq; obtain ⟨f0, f1, f2, f3, f4, f5⟩ := HF.out wq hSq; go_simp <;> with_reducible rfl)
            simp only [Act.put, List.setIfInBounds_toArray, List.set_cons_zero, List.set_cons_succ]
            refine takeL 8 (v := ?_) rfl (by kernel_rfl) (by kernel_rfl) (by kernel_rfl) (fun _ _ _ h => h) (Or.inl ⟨by rfl, ?_⟩) (by assumption) ?_
            rotate_left
            focus (intro wq hSq; obtain ⟨f0, f1, f2, f3, f4, f5⟩ := HF.out wq hSq; go_simp <;> with_reducible rfl)
            simp only [Act.put, List.setIfInBounds_toArray, List.set_cons_zero, List.set_cons_succ]
            refine takeL 9 (v := ?_) rfl (by kernel_rfl) (by kernel_rfl) (by kernel_rfl) (fun _ _ _ h => h) (Or.inl ⟨by rfl, ?_⟩) (by assumption) ?_
            rotate_left
            focus (intro wq hSq; obtain ⟨f0, f1, f2, f3, f4, f5⟩ := HF.out wq hSq; go_simp <;> with_reducible rfl)
            simp only [Act.put, List.setIfInBounds_toArray, List.set_cons_zero, List.set_cons_succ]
            refine takeL 10 (v := ?_) rfl (by kernel_rfl) (by kernel_rfl) (by kernel_rfl) (fun _ _ _ h => h) (Or.inl ⟨by rfl, ?_⟩) (by assumption) ?_
            rotate_left
            focus (intro wq hSq; obtain ⟨f0, f1, f2, f3, f4, f5⟩ := HF.out wq hSq; go_simp <;> with_reducible rfl)
            simp only [Act.put, List.setIfInBounds_toArray, List.set_cons_zero, List.set_cons_succ]
            refine takeL 11 (v := ?_) rfl (by kernel_rfl) (by kernel_rfl) (by kernel_rfl) (fun _ _ _ h => h) (Or.inl ⟨by rfl, ?_⟩) (by assumption) ?_
            rotate_left
            focus (intro wq hSq; obtain ⟨f0, f1, f2, f3, f4, f5⟩ := HF.out wq hSq; go_simp <;> with_reducible rfl)
            simp only [Act.put, List.setIfInBounds_toArray, List.set_cons_zero, List.set_cons_succ]
            refine takeL 12 (v := ?_) rfl (by kernel_rfl) (by kernel_rfl) (by kernel_rfl) (fun _ _ _ h => h) (Or.inl ⟨by rfl, ?_⟩) (by assumption) ?_
            rotate_left
            focus (intro wq hSq; obtain ⟨f0, f1, f2, f3, f4, f5⟩ := HF.out wq hSq; go_simp <;> with_reducible rfl)
            simp only [Act.put, List.setIfInBounds_toArray, List.set_cons_zero, List.set_cons_succ]
            refine takeL 13 (v := ?_) rfl (by kernel_rfl) (by kernel_rfl) (by kernel_rfl) (fun _ _ _ h => h) (Or.inl ⟨by rfl, ?_⟩) (by assumption) ?_
            rotate_left
            focus (intro wq hSq; obtain ⟨f0, f1, f2, f3, f4, f5⟩ := HF.out wq hSq; go_simp <;> with_reducible rfl)
            simp only [Act.put, List.setIfInBounds_toArray, List.set_cons_zero, List.set_cons_succ]
            refine takeL 14 (v := ?_) rfl (by kernel_rfl) (by kernel_rfl) (by kernel_rfl) (fun _ _ _ h => h) (Or.inl ⟨by rfl, ?_⟩) (by assumption) ?_
            rotate_left
            focus (intro wq hSq; obtain ⟨f0, f1, f2, f3, f4, f5⟩ := HF.out wq hSq; go_simp <;> with_reducible rfl)
            simp only [Act.put, List.setIfInBounds_toArray, List.set_cons_zero, List.set_cons_succ]
            refine wpAnyH_done (by kernel_rfl) ?_ _
            go_wp2_with fail
            go_roundw
            case rel => exact ⟨j + 1, by omega, by go_num, by rw [show dropN port (K.drop (j + 1)) = n0 from by omega], by rw [r2]; go_num, HBD.out⟩
            case measure => simp [intOf]; omega
        · obtain rfl : j = K.length := by omega
          rw [List.drop_length] at hn0
          rw [List.take_length] at hq0
          replace hn0 : n0 = 0 := hn0
          subst hn0
          subst hq0
          have HL := Lib.hid (tlive_any wr)
          have HBX := Lib.hid (HB6.out.trans (hbq.mono HB6.out.size))
          clear hca hidxa hci hidxi hbq
          go_wp2_with ((with_reducible refine HL.out.mono ?_); rintro e w7 ⟨rfl, hb⟩; have HB7 := Lib.hid hb; clear hb)
          go_ret
          exact ⟨rfl, HBX.out.trans (HB7.out.mono HBX.out.size)⟩
end Go.Proofs.Ytpibmjkbebkilaa
