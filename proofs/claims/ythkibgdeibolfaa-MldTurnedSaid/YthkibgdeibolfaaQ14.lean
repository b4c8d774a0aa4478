/- Texts joined into one file: JOpen, JFew, JCopy, JLawDec. -/
import Derived.Test.YthkibgdeibolfaaQ02
import Derived.Test.YthkibgdeibolfaaQ03
import Derived.Test.YthkibgdeibolfaaRows
import Derived.Deep.CondSized
import Derived.Deep.Slices
import Derived.Test.YthkibgdeibolfaaQ13
import Derived.Test.YthkibgdeibolfaaQ12
import Derived.Test.YthkibgdeibolfaaQ11

/- Opening what came in: messages, records, rows; and what their bulk bounds. -/
namespace Go.Proofs.Ythkibgdeibolfaa
open Go.ChangeShapes Go.WideShapes Go.ChangeAt Go.RowKit Go.Joins Go.Deep
set_option maxRecDepth 20000

set_option maxRecDepth 100000

theorem bulk_one {H : Type} (d : DataW H) : 1 ≤ Rows.uptoBulk d := by
  cases d with
  | lit l => cases l <;> simp [Rows.uptoBulk]
  | nil => simp [Rows.uptoBulk]
  | ptr d => simp [Rows.uptoBulk]
  | slice elems spare => simp [Rows.uptoBulk]
  | agg parts => simp [Rows.uptoBulk]
  | iface t d => simp [Rows.uptoBulk]
  | map entries => simp [Rows.uptoBulk]
  | held h => simp [Rows.uptoBulk]
theorem bulk_part {H : Type} {d : DataW H} {l : List (DataW H)} (h : d ∈ l) : Rows.uptoBulk d ≤ Rows.uptoBulkAll l := by
  induction l with
  | nil => cases h
  | cons x r ih =>
    simp only [Rows.uptoBulkAll]
    cases List.mem_cons.1 h with
    | inl e => subst e; omega
    | inr e => have := ih e; omega
theorem bulk_strs {H : Type} (ss : List ByteArray) : Rows.uptoBulkAll (strs (H := H) ss) = (ss.map fun s => s.data.toList).flatten.length + ss.length := by
  induction ss with
  | nil => simp [strs, Rows.uptoBulkAll]
  | cons s r ih =>
    have e : strs (H := H) (s :: r) = .lit (.string s.data.toList) :: strs r := rfl
    rw [e]
    simp only [Rows.uptoBulkAll, Rows.uptoBulk, ih, List.map_cons, List.flatten_cons, List.length_append, List.length_cons]
    omega
theorem bulk_bound {H : Type} {l : List (DataW H)} (hk : Rows.uptoSmall H l = true) : Rows.uptoBulkAll l ≤ 1048576 := of_decide_eq_true hk

theorem bytesAd : Try.prog.bytesOf 22 = 16 := by kernel_rfl
theorem cellsAd : Try.prog.cellsOf 22 = 1 := by kernel_rfl

/-- a slice of strings that came in -/
theorem open_StrsB {H : Type} {enc : TypeId × Value → H} {w : World} {base : Nat} {spare : Nat → Bool} {held : Bool} {fuel : Nat} {cs : List Value} {x : DataW H × List MemPlace}
    (h : DataW.trod enc Try.prog w base spare held fuel 26 cs = some x) (hsz : (DataW.weights Try.prog 26 x.1).all (· ≤ reachBytes) = true) : ∃ v L, cs = [v] ∧ Strs w v L ∧ L.flatten.length + L.length ≤ Rows.uptoBulk x.1 := by
  rcases open_strings Try.underlying26 Try.underlying22 cellsAd h with ⟨rfl, _⟩ | ⟨a, len, cap, ss, rfl, _, hl, hm, hz, rfl, hc, hwf⟩
  · exact ⟨_, [], rfl, Strs.nil w, Nat.zero_le _⟩
  · have hle : len ≤ ss.length := by rw [hz]; split <;> omega
    have hb : len ≤ 8796093022208 := by
      simp only [DataW.weights, Try.underlying26, List.all_cons, Bool.and_eq_true, bytesAd, reachBytes] at hsz
      have := hsz.1
      simp [strs] at this
      omega
    have hlen : ((ss.take len).map fun s => s.data.toList).length = len := by simp; omega
    refine ⟨_, (ss.take len).map (fun s => s.data.toList), rfl, ?_, ?_⟩
    rotate_left
    · simp only [Rows.uptoBulk, bulk_strs, List.length_map]; omega
    refine ⟨some a, cap, a.block, a.off, by rw [hlen], ?_, by rw [hlen]; omega, ?_, fun k hk => ?_⟩
    · by_cases h0 : (ss.take len).map (fun s => s.data.toList) = []
      · exact .inl h0
      · refine .inr ?_
        have h1 : 0 < ss.length := by
          cases ss with
          | nil => simp at h0
          | cons _ _ => simp
        have := hc 0 h1
        obtain ⟨b, off, spot⟩ := a
        cases spot with
        | none => rfl
        | some s => simp [Addr.add, World.cell?] at this; split at this <;> simp at this
    · intro x hx
      obtain ⟨s, hs, rfl⟩ := List.mem_map.1 hx
      exact hwf s (List.mem_of_mem_take hs)
    · rw [hlen] at hk
      have hk' := hc k (by omega)
      have e : (a.add k) = ⟨a.block, a.off + k, none⟩ := by
        obtain ⟨b, off, spot⟩ := a
        unfold Addr.add
        split
        · subst_vars
          cases spot with
          | none => rfl
          | some s => simp [Addr.add, World.cell?] at hk'; split at hk' <;> simp at hk'
        · rfl
      rw [e] at hk'
      refine ⟨World.block_lt_of_cell? w ⟨a.block, a.off + k, none⟩ hk', ?_⟩
      rw [hk']
      have hks : k < ss.length := by omega
      simp [List.getD_eq_getElem?_getD, hks, hk, encStr]

theorem open_Strs {H : Type} {enc : TypeId × Value → H} {w : World} {base : Nat} {spare : Nat → Bool} {held : Bool} {fuel : Nat} {cs : List Value} {x : DataW H × List MemPlace}
    (h : DataW.trod enc Try.prog w base spare held fuel 26 cs = some x) (hsz : (DataW.weights Try.prog 26 x.1).all (· ≤ reachBytes) = true) : ∃ v L, cs = [v] ∧ Strs w v L := by
  obtain ⟨v, L, h1, h2, _⟩ := open_StrsB h hsz
  exact ⟨v, L, h1, h2⟩
theorem cellsIt : Try.prog.cellsOf 3 = 1 := by kernel_rfl
theorem weights_part {H : Type} {P : Program} {t : TypeId} {fs : Array Field} {parts : List (DataW H)} (hs : P.underlying t = some (.struct fs)) (h : (DataW.weights P t (.agg parts)).all (· ≤ reachBytes) = true)
    (j : Nat) (f : Field) (d : DataW H) (hf : fs[j]? = some f) (hd : parts[j]? = some d) : (DataW.weights P f.type d).all (· ≤ reachBytes) = true := by
  simp only [DataW.weights, hs] at h
  exact List.all_eq_true.2 (fun n hn => List.all_eq_true.1 h n (DataW.weights_mem_each (j := j) (t := f.type) (by simp; exact ⟨f, by simpa using hf, rfl⟩) hd n hn))

theorem weights_arg {H : Type} {P : Program} {ts : List TypeId} {ds : List (DataW H)} (h : (DataW.weightsEach P ts ds).all (· ≤ reachBytes) = true) (j : Nat) (t : TypeId) (d : DataW H) (ht : ts[j]? = some t) (hd : ds[j]? = some d) :
    (DataW.weights P t d).all (· ≤ reachBytes) = true :=
  List.all_eq_true.2 (fun n hn => List.all_eq_true.1 h n (DataW.weights_mem_each ht hd n hn))

theorem weights_all {H : Type} {P : Program} {e : TypeId} {d : DataW H} : ∀ {l : List (DataW H)}, d ∈ l → ∀ n ∈ DataW.weights P e d, n ∈ DataW.weightsAll P e l
  | x :: l, hd, n, hn => by
    rw [DataW.weightsAll, List.mem_append]
    rcases List.mem_cons.1 hd with rfl | hd
    · exact .inl hn
    · exact .inr (weights_all hd n hn)
theorem weights_elem {H : Type} {P : Program} {t e : TypeId} {elems rest : List (DataW H)} (ht : P.underlying t = some (.slice e)) (h : (DataW.weights P t (.slice elems rest)).all (· ≤ reachBytes) = true) :
    elems.length * P.bytesOf e ≤ reachBytes ∧ ∀ d ∈ elems, (DataW.weights P e d).all (· ≤ reachBytes) = true := by
  simp only [DataW.weights, ht, List.all_cons, Bool.and_eq_true, decide_eq_true_eq, List.all_append] at h
  refine ⟨Nat.le_trans (Nat.mul_le_mul_right _ (Nat.le_add_right _ _)) h.1, fun d hd => List.all_eq_true.2 fun n hn => List.all_eq_true.1 h.2.1 n (weights_all hd n hn)⟩

section
variable {H : Type} {enc : TypeId × Value → H} {w : World} {base : Nat} {spare : Nat → Bool} {held : Bool} {fuel : Nat} {cs : List Value} {x : DataW H × List MemPlace}

/-- a slice of elements of sz cells that came in: Q tells an element from its cells -/
theorem open_elems {α : Type} [Inhabited α] {P : Program} {t e : TypeId} {sz : Nat} (ht : P.underlying t = some (.slice e)) (hs : P.cellsOf e = sz) (h0 : 0 < sz) (Q : List Value → α → Prop)
    (hQ : ∀ n cs' y, DataW.trod enc P w base spare held n e cs' = some y → (DataW.weights P e y.1).all (· ≤ reachBytes) = true → ∃ q, Q cs' q)
    (h : DataW.trod enc P w base spare held fuel t cs = some x) (hsz : (DataW.weights P t x.1).all (· ≤ reachBytes) = true) :
    ∃ ao cap b off, ∃ L : List α, cs = [.slice ao L.length cap] ∧ (L = [] ∨ ao = some ⟨b, off, none⟩) ∧ L.length * P.bytesOf e ≤ reachBytes ∧ L.length ≤ cap ∧
      ∀ k, (hk : k < L.length) → ∃ cs', cs'.length = sz ∧ (∀ i, i < sz → w.cell? ⟨b, off + (k * sz + i), none⟩ = cs'[i]?) ∧ b < w.heap.size ∧ Q cs' L[k] := by
  rcases open_slice ht h with ⟨rfl, rfl⟩ | ⟨a, len, cap, m, n, D, Pl, rfl, hb, hl, hm, hmm, rfl, hx⟩
  · exact ⟨none, 0, 0, 0, [], rfl, .inl rfl, by simp, by simp, fun k hk => by simp at hk⟩
  · have hlm : len ≤ m := by rw [hmm]; split <;> omega
    obtain ⟨hw1, hw2⟩ := weights_elem ht hsz
    rw [List.length_map, List.length_range] at hw1
    have each : ∀ k, k < len → ∃ p : α × List Value, p.2.length = sz ∧ (∀ i, i < sz → w.cell? (a.add (k * sz + i)) = p.2[i]?) ∧ Q p.2 p.1 := by
      intro k hk
      obtain ⟨cs', h1, h2⟩ := hx k (by omega)
      rw [hs] at h1
      obtain ⟨_, hlen, hcell⟩ := World.cells?_some h1
      obtain ⟨q, hq⟩ := hQ _ _ _ h2 (hw2 _ (List.mem_map.2 ⟨k, List.mem_range.2 hk, rfl⟩))
      exact ⟨(q, cs'), hlen, fun i hi => by rw [← hcell i hi, add_add], hq⟩
    obtain ⟨q, hq⟩ := choose_lt each
    have hll : ((List.range len).map fun k => (q k).1).length = len := by simp
    obtain ⟨b, off, spot⟩ := a
    by_cases hl0 : len = 0
    · subst hl0
      exact ⟨some ⟨b, off, spot⟩, cap, b, off, [], rfl, .inl rfl, by simp, by simp, fun k hk => by simp at hk⟩
    · have hsome : ∀ k, k < len → ∀ i, i < sz → ∃ u, (q k).2[i]? = some u := fun k hk i hi => ⟨_, List.getElem?_eq_getElem (by rw [(hq k hk).1]; exact hi)⟩
      have hsp : spot = none := by
        cases spot with
        | none => rfl
        | some s =>
          exfalso
          obtain ⟨u, hu⟩ := hsome 0 (by omega) 0 h0
          have := (hq 0 (by omega)).2.1 0 h0
          rw [hu] at this
          simp [Addr.add, World.cell?] at this
          try (split at this <;> simp at this)
          try omega
      subst hsp
      refine ⟨some ⟨b, off, none⟩, cap, b, off, (List.range len).map fun k => (q k).1, by rw [hll], .inr rfl, by rw [hll]; exact hw1, by rw [hll]; exact hl, fun k hk => ?_⟩
      rw [hll] at hk
      obtain ⟨h1, h2, h3⟩ := hq k hk
      refine ⟨(q k).2, h1, fun i hi => by rw [← h2 i hi, add_lit], ?_, by simpa using h3⟩
      obtain ⟨u, hu⟩ := hsome k hk 0 h0
      have h4 := h2 0 h0
      rw [hu, add_lit] at h4
      exact World.block_lt_of_cell? w ⟨b, off + (k * sz + 0), none⟩ h4

end

/-- a value of one cell reads as its cell -/
theorem trod_cell {H : Type} {enc : TypeId × Value → H} {w : World} {base : Nat} {spare : Nat → Bool} {held : Bool} {T : TypeId} {e : TypeId} {r : Reach} {b0 : Nat} {v : Value} {d : DataW H} {p : List MemPlace} (ht : Try.prog.underlying T = some (.slice e))
    (hv : Value.okWide Try.prog w r b0 T v) (h : DataW.Trod enc Try.prog w base spare held T v d p) : ∃ fuel, DataW.trod enc Try.prog w base spare held fuel T [v] = some (d, p) := by
  obtain ⟨a, n, c, rfl⟩ := okWide_slice ht hv
  obtain ⟨fuel, hf⟩ := h
  exact ⟨fuel, hf⟩


section
variable {H : Type} {enc : TypeId × Value → H} {w : World} {base : Nat} {spare : Nat → Bool} {held : Bool} {fuel : Nat} {cs : List Value} {x : DataW H × List MemPlace}
theorem open_recJ (h : DataW.trod enc Try.prog w base spare held fuel 56 cs = some x) (hsz : (DataW.weights Try.prog 56 x.1).all (· ≤ reachBytes) = true) :
    ∃ kind g v L, cs = [.int .i64 kind, .string (bstr g), v] ∧ Strs w v L ∧ g.length ≤ maxLen ∧ (Lit.int .i64 kind).wf = true := by
  obtain ⟨xs, n, _, rfl, hcl, hlen, hf⟩ := DataW.trod_struct Try.underlying56 h
  match xs, hlen with
  | [y0, y1, y2], _ =>
    have hc3 : cs.length = 3 := hcl.trans (by kernel_rfl)
    match cs, hc3 with
    | [c0, c1, c2], _ =>
      have g0 := hf 0 _ rfl
      have g1 := hf 1 _ rfl
      have g2 := hf 2 _ rfl
      have k2 : Try.prog.cellsOf 26 = 1 := by kernel_rfl
      simp [cellsIt, cellsAd, k2] at g0 g1 g2
      obtain ⟨k, e0, _, wk⟩ := DataW.trod_int Try.underlying3 g0
      obtain ⟨s, e1, _, hs⟩ := DataW.trod_string Try.underlying22 g1
      obtain ⟨v, L, e2, hT⟩ := open_Strs g2 (weights_part Try.underlying56 hsz 2 _ _ rfl rfl)
      obtain ⟨g, rfl⟩ : ∃ g, s = bstr g := ⟨_, bstr_of _⟩
      rw [bstr_size] at hs
      simp only [List.cons.injEq, and_true] at e0 e1 e2
      subst e0 e1 e2
      exact ⟨k, g, _, L, rfl, hT, hs, wk⟩

/-- a slice of records, however long -/
def RecsW (w : World) (v : Value) (R : List Rec) : Prop :=
  ∃ ao cap b off, ∃ src : Nat → Value, v = .slice ao R.length cap ∧ (R = [] ∨ ao = some ⟨b, off, none⟩) ∧
    (∀ k, k < R.length → b < w.heap.size ∧ w.cell? ⟨b, off + k * 3, none⟩ = some (.int .i64 (R.getD k default).1) ∧ w.cell? ⟨b, off + k * 3 + 1, none⟩ = some (.string (bstr (R.getD k default).2.1)) ∧ w.cell? ⟨b, off + k * 3 + 2, none⟩ = some (src k) ∧
      Strs w (src k) (R.getD k default).2.2 ∧ (R.getD k default).2.1.length ≤ maxLen)
theorem RecsW.recs {w : World} {v : Value} {R : List Rec} (h : RecsW w v R) (hl : R.length ≤ 1000) : Recs w v R := by
  obtain ⟨ao, cap, b, off, src, h1, h2, h3⟩ := h
  exact ⟨ao, cap, b, off, src, h1, h2, by omega, h3⟩
theorem RecsW.shape {w : World} {v : Value} {R : List Rec} (h : RecsW w v R) : ∃ ao cap, v = .slice ao R.length cap := by
  obtain ⟨ao, cap, _, _, _, h, _⟩ := h
  exact ⟨ao, cap, h⟩
theorem bytesRc : Try.prog.bytesOf 56 = 48 := by kernel_rfl
theorem cellsRc : Try.prog.cellsOf 56 = 3 := by kernel_rfl
theorem open_RecsC (h : DataW.trod enc Try.prog w base spare held fuel 27 cs = some x) (hsz : (DataW.weights Try.prog 27 x.1).all (· ≤ reachBytes) = true) : ∃ v R, cs = [v] ∧ RecsW w v R := by
  obtain ⟨ao, cap, b, off, L, rfl, h0, h1, _, h2⟩ := open_elems (α := Rec × Value) (sz := 3) Try.underlying27 cellsRc (by decide)
    (fun cs' q => cs' = [.int .i64 q.1.1, .string (bstr q.1.2.1), q.2] ∧ Strs w q.2 q.1.2.2 ∧ q.1.2.1.length ≤ maxLen)
    (fun n cs' y hy hw => by
      obtain ⟨k, g, v, L, he, hT, hg, _⟩ := open_recJ hy hw
      exact ⟨((k, g, L), v), he, hT, hg⟩) h hsz
  have hl : (L.map Prod.fst).length = L.length := by simp
  refine ⟨_, L.map Prod.fst, rfl, ao, cap, b, off, fun k => (L.getD k default).2, by rw [hl], ?_, fun k hk => ?_⟩
  · rcases h0 with rfl | h0
    · exact .inl rfl
    · exact .inr h0
  · rw [hl] at hk
    obtain ⟨cs', e1, e2, e3, rfl, hT, hg⟩ := h2 k hk
    have g : (L.map Prod.fst).getD k default = L[k].1 := by simp [List.getD_eq_getElem?_getD, hk]
    have g' : L.getD k default = L[k] := by simp [List.getD_eq_getElem?_getD, hk]
    dsimp only
    rw [g, g']
    have c0 := e2 0 (by decide)
    have c1 := e2 1 (by decide)
    have c2 := e2 2 (by decide)
    exact ⟨e3, c0, by rw [show off + k * 3 + 1 = off + (k * 3 + 1) from by omega]; exact c1, by rw [show off + k * 3 + 2 = off + (k * 3 + 2) from by omega]; exact c2, hT, hg⟩
theorem wf_lt {n : Int} (h : (Lit.int .i64 n).wf = true) : n < 2 ^ 63 := by
  simp [Lit.wf, IntKind.min, IntKind.max, IntKind.bits, IntKind.signed] at h
  omega
theorem open_msgC (h : DataW.trod enc Try.prog w base spare held fuel 29 cs = some x) (hsz : (DataW.weights Try.prog 29 x.1).all (· ≤ reachBytes) = true) :
    ∃ (k v : Int) (g : Str) (mx : Int) (q : Bool) (r ev : Int) (vs : Value) (L : List Str) (vr : Value) (R : List Rec), cs = [.int .i64 k, .int .i64 v, .string (bstr g), .int .i64 mx, .bool q, .int .i64 r, .int .i64 ev, vs, vr] ∧
      Strs w vs L ∧ RecsW w vr R ∧ g.length ≤ 140737488351232 ∧ mx < 2 ^ 63 ∧ ev < 2 ^ 63 ∧ g.length ≤ Rows.uptoBulk x.1 ∧ L.flatten.length + L.length ≤ Rows.uptoBulk x.1 := by
  obtain ⟨xs, n, _, rfl, hcl, hlen, hf⟩ := DataW.trod_struct Try.underlying29 h
  match xs, hlen with
  | [y0, y1, y2, y3, y4, y5, y6, y7, y8], _ =>
    have hc9 : cs.length = 9 := hcl.trans (by kernel_rfl)
    match cs, hc9 with
    | [c0, c1, c2, c3, c4, c5, c6, c7, c8], _ =>
      have g0 := hf 0 _ rfl
      have g1 := hf 1 _ rfl
      have g2 := hf 2 _ rfl
      have g3 := hf 3 _ rfl
      have g4 := hf 4 _ rfl
      have g5 := hf 5 _ rfl
      have g6 := hf 6 _ rfl
      have g7 := hf 7 _ rfl
      have g8 := hf 8 _ rfl
      have kb : Try.prog.cellsOf 4 = 1 := by kernel_rfl
      have k7 : Try.prog.cellsOf 26 = 1 := by kernel_rfl
      have k8 : Try.prog.cellsOf 27 = 1 := by kernel_rfl
      simp [cellsIt, cellsAd, kb, k7, k8] at g0 g1 g2 g3 g4 g5 g6 g7 g8
      obtain ⟨k, e0, _, _⟩ := DataW.trod_int Try.underlying3 g0
      obtain ⟨v, e1, _, _⟩ := DataW.trod_int Try.underlying3 g1
      obtain ⟨s, e2, z2, hs⟩ := DataW.trod_string Try.underlying22 g2
      obtain ⟨mx, e3, _, w3⟩ := DataW.trod_int Try.underlying3 g3
      obtain ⟨q, e4, _⟩ := DataW.trod_bool Try.underlying4 g4
      obtain ⟨r, e5, _, _⟩ := DataW.trod_int Try.underlying3 g5
      obtain ⟨ev, e6, _, w6⟩ := DataW.trod_int Try.underlying3 g6
      obtain ⟨vs, L, e7, hT, hbl⟩ := open_StrsB g7 (weights_part Try.underlying29 hsz 7 _ _ rfl rfl)
      obtain ⟨vr, R, e8, hR⟩ := open_RecsC g8 (weights_part Try.underlying29 hsz 8 _ _ rfl rfl)
      obtain ⟨g, rfl⟩ : ∃ g, s = bstr g := ⟨_, bstr_of _⟩
      rw [bstr_size] at hs
      simp only [List.cons.injEq, and_true] at e0 e1 e2 e3 e4 e5 e6 e7 e8
      subst e0 e1 e2 e3 e4 e5 e6 e7 e8
      have hw := weights_part Try.underlying29 hsz 2 _ _ rfl rfl
      rw [z2] at hw
      have hgl : (bstr g).data.toList = g := by have := bstr_toList g; rwa [Lib.toList_data] at this
      rw [hgl] at hw
      have hgb : g.length ≤ 140737488351232 := by
        simp only [DataW.weights, List.all_cons, List.all_nil, Bool.and_true, decide_eq_true_eq] at hw
        exact hw
      refine ⟨k, v, g, mx, q, r, ev, _, L, _, R, rfl, hT, hR, hgb, wf_lt w3, wf_lt w6, ?_, ?_⟩
      · have h2 : Rows.uptoBulk y2.1 = g.length + 1 := by rw [z2]; simp only [Rows.uptoBulk]; exact congrArg (· + 1) (by rw [show (bstr g).data.toList = g from by have := bstr_toList g; rwa [Lib.toList_data] at this])
        simp only [Rows.uptoBulk, List.map_cons, List.map_nil, Rows.uptoBulkAll, h2]
        omega
      · simp only [Rows.uptoBulk, List.map_cons, List.map_nil, Rows.uptoBulkAll]
        omega
end
theorem open_msg {H : Type} {enc : TypeId × Value → H} {w : World} {base : Nat} {spare : Nat → Bool} {held : Bool} {r : Reach} {b0 : Nat} {v : Value} {d : DataW H} {p : List MemPlace}
    (hv : Value.okWide Try.prog w r b0 29 v) (h : DataW.Trod enc Try.prog w base spare held 29 v d p) (hsz : (DataW.weights Try.prog 29 d).all (· ≤ reachBytes) = true) :
    ∃ (k vn : Int) (g : Str) (mx : Int) (q : Bool) (rb ev : Int) (so : Option Addr) (L : List Str) (sc : Nat) (ro : Option Addr) (R : List Rec) (rc : Nat),
      v = .agg #[.int .i64 k, .int .i64 vn, .string (bstr g), .int .i64 mx, .bool q, .int .i64 rb, .int .i64 ev, .slice so L.length sc, .slice ro R.length rc] ∧
      Strs w (.slice so L.length sc) L ∧ RecsW w (.slice ro R.length rc) R ∧ g.length ≤ 140737488351232 ∧ mx < 2 ^ 63 ∧ ev < 2 ^ 63 ∧ g.length ≤ Rows.uptoBulk d ∧ L.flatten.length + L.length ≤ Rows.uptoBulk d := by
  obtain ⟨cs, rfl, _⟩ := okWide_struct Try.underlying29 hv
  obtain ⟨fuel, hf⟩ := h
  obtain ⟨k, vn, g, mx, q, rb, ev, vs, L, vr, R, e, h1, h2, h3, h4, h5, h6, h7⟩ := open_msgC hf hsz
  obtain ⟨so, sc, rfl⟩ := h1.shape
  obtain ⟨ro, rc, rfl⟩ := h2.shape
  refine ⟨k, vn, g, mx, q, rb, ev, so, L, sc, ro, R, rc, ?_, h1, h2, h3, h4, h5, h6, h7⟩
  congr 1
  exact Array.toList_inj.1 e
end Go.Proofs.Ythkibgdeibolfaa

/- siphonlaw08.few. -/
namespace Go.Proofs.Ythkibgdeibolfaa
open Go.RowKit Go.Sort
set_option maxRecDepth 20000
set_option maxRecDepth 20000
attribute [local go_sem] bstr_size bstr_extract bstr_toList bstr_get

def fewB (L : List Str) (R : List Rec) : Bool := decide (L.length ≤ 100) && decide (R.length ≤ 40) && R.all (fun r => decide (r.2.2.length ≤ 100))
def RetF (w : World) (c : Bool) (e : Ending) (w' : World) : Prop := e = .returned (.bool c) ∧ Below w.heap.size w w'
end Go.Proofs.Ythkibgdeibolfaa

/- siphonlaw08.copied. -/
namespace Go.Proofs.Ythkibgdeibolfaa
open Go.RowKit Go.Sort
set_option maxRecDepth 20000
set_option maxRecDepth 20000
attribute [local go_sem] bstr_size bstr_extract bstr_toList bstr_get

theorem strs_slice8 {w : World} {v : Value} {L : List Str} (h : Strs w v L) (n : Nat) (hn : L.length = n) : SliceOf w 1 v n (L.map encStr) := by
  subst hn
  obtain ⟨ao, cap, b, off, rfl, h0, h1, h2, h3⟩ := h
  refine ⟨ao, cap, rfl, by simp, fun x hx => by obtain ⟨s, _, rfl⟩ := List.mem_map.1 hx; rfl, ?_⟩
  rcases h0 with rfl | rfl
  · exact .inl rfl
  · refine .inr ⟨_, rfl, fun j x hj => ?_⟩
    have hj' : j < L.length := by simpa using (List.getElem?_eq_some_iff.1 hj).1
    rw [add_lit, (h3 j hj').2]
    simpa [List.getD_eq_getElem?_getD, hj'] using hj
theorem cp_after {W w8 : World} {o : Obj} {vs vr v' : Value} {L : List Str} (hst : Strs W vs L) (hne : L ≠ [] → vs.ownBlock ≠ vr.ownBlock) (hg : (W.alloc o).grownBy w8 vr.ownBlock) (hv : v'.ownBlock = vr.ownBlock ∨ v'.ownBlock = some (W.alloc o).heap.size) :
    Strs w8 vs L ∧ (L ≠ [] → vs.ownBlock ≠ v'.ownBlock) := by
  refine ⟨(hst.mono ((Below.refl _ _).alloc (Nat.le_refl _) o)).grown' hg hne, fun hL => ?_⟩
  rcases hv with e | e
  · rw [e]; exact hne hL
  · obtain ⟨b, hb, hlt⟩ := hst.block hL
    rw [e, hb, World.size_alloc]
    intro e'
    injection e' with e'
    omega
theorem rowq9 {w : World} {v : Value} {Q : List QRec} {lo b : Nat} (h : RowQ w lo v Q) (hb : b < lo) (v0 v1 v2 v3 v4 v5 v6 v7 v8 : Value) :
    RowQ (((((((((w.setCell ⟨b, 0, none⟩ v0).setCell ⟨b, 1, none⟩ v1).setCell ⟨b, 2, none⟩ v2).setCell ⟨b, 3, none⟩ v3).setCell ⟨b, 4, none⟩ v4).setCell ⟨b, 5, none⟩ v5).setCell ⟨b, 6, none⟩ v6).setCell ⟨b, 7, none⟩ v7).setCell ⟨b, 8, none⟩ v8) lo v Q :=
  ((((((((h.far (p := ⟨b, 0, none⟩) hb v0).far (p := ⟨b, 1, none⟩) hb v1).far (p := ⟨b, 2, none⟩) hb v2).far (p := ⟨b, 3, none⟩) hb v3).far (p := ⟨b, 4, none⟩) hb v4).far (p := ⟨b, 5, none⟩) hb v5).far (p := ⟨b, 6, none⟩) hb v6).far (p := ⟨b, 7, none⟩) hb v7).far (p := ⟨b, 8, none⟩) hb v8
def RetCopy (w : World) (k v : Int) (g : Str) (mx : Int) (q : Bool) (r ev : Int) (L : List Str) (R : List Rec) (e : Ending) (w' : World) : Prop :=
  ∃ so sc ro rc, e = .returned (.agg (msgCells k v g mx q r ev so L.length sc ro R.length rc)) ∧ Strs w' (.slice so L.length sc) L ∧ Recs w' (.slice ro R.length rc) R ∧ Below w.heap.size w w'
theorem row_nat (n : Nat) (h : n ≤ 100) : n ≤ maxLen ∧ 0 + n ≤ maxLen ∧ (0 + n) * 16 ≤ 140737488355328 ∧ n + 1 ≤ maxLen ∧ (n + 1) * 48 ≤ 140737488355328 := by
  refine ⟨Nat.le_trans h (by decide), ?_, ?_, ?_, ?_⟩
  · rw [Nat.zero_add]; exact Nat.le_trans h (by decide)
  · rw [Nat.zero_add]; exact Nat.le_trans (Nat.mul_le_mul_right 16 h) (by decide)
  · exact Nat.le_trans (Nat.succ_le_succ h) (by decide)
  · exact Nat.le_trans (Nat.mul_le_mul_right 48 (Nat.succ_le_succ h)) (by decide)

end Go.Proofs.Ythkibgdeibolfaa

/- The walk of IgmpDecodes. -/
namespace Go.Proofs.Ythkibgdeibolfaa
open Go.RowKit Go.Sort
set_option maxRecDepth 20000
set_option maxRecDepth 20000
attribute [local go_sem] bstr_size bstr_extract bstr_toList bstr_get

def YesB (w : World) (e : Ending) (w' : World) : Prop := e = .returned (.bool true) ∧ Below w.heap.size w w'
/-- what Decode hands back, its slices in their form -/
def RetDecM (w : World) (m : Msg) (er : Int) (e : Ending) (w' : World) : Prop :=
  ∃ so sc ro rc, e = .returned (.tuple #[.agg (msgCells m.kind m.version m.group m.max m.quiet m.robust m.every so m.sources.length sc ro m.records.length rc), .int .i64 er]) ∧
    Strs w' (.slice so m.sources.length sc) m.sources ∧ Recs w' (.slice ro m.records.length rc) m.records ∧ Below w.heap.size w w'
theorem ret_decM {w w' : World} {e : Ending} {m : Msg} {er : Int} (h : RetMsg w er m e w') : RetDecM w m er e w' := by
  obtain ⟨vs, vr, he, hs, _, hr, hb⟩ := h
  obtain ⟨so, sc, rfl⟩ := hs.shape
  obtain ⟨ro, rc, rfl⟩ := hr.shape
  exact ⟨so, sc, ro, rc, he, hs, hr.recs, hb⟩
end Go.Proofs.Ythkibgdeibolfaa
