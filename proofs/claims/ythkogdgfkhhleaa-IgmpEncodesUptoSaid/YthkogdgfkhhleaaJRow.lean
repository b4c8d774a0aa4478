/- Rows of records of the call's own ('RowQ'). -/
import Derived.Test.YthkogdgfkhhleaaRecs
import Derived.Test.YthkogdgfkhhleaaBoxes
import Derived.Test.YthkogdgfkhhleaaApp
namespace Go.Proofs.Ythkogdgfkhhleaa
open Go.RowKit Go.Sort
set_option maxRecDepth 20000
set_option maxRecDepth 20000

theorem add_lit (b off k : Nat) : (⟨b, off, none⟩ : Addr).add k = ⟨b, off + k, none⟩ := by unfold Addr.add; split <;> simp_all
theorem own_below {w w' : World} {base : Nat} {e : TypeId} {size : Nat} {v : Value} {n : Nat} {xs : List Value} (h : w.ownsRow base e size v n xs) (hb : Below w.heap.size w w') : w'.ownsRow base e size v n xs :=
  h.kept (row := none) ⟨hb.os, hb.tape, hb.output, hb.size, fun k hk _ => hb.block k hk⟩ (by cases v.ownBlock <;> simp)
abbrev QRec := Int × Str × Value × List Str
def qcells (q : QRec) : List Value := [.int .i64 q.1, .string (bstr q.2.1), q.2.2.1]
def qrec (q : QRec) : Rec := (q.1, q.2.1, q.2.2.2)
def RowQ (w : World) (base : Nat) (v : Value) (Q : List QRec) : Prop :=
  w.ownsRow base 57 3 v Q.length (Q.flatMap qcells) ∧ ∀ q ∈ Q, Strs w q.2.2.1 q.2.2.2 ∧ Lies base q.2.2.1 ∧ q.2.1.length ≤ maxLen ∧ (q.2.2.2 ≠ [] → q.2.2.1.ownBlock ≠ v.ownBlock)
theorem RowQ.nil (w : World) (base : Nat) : RowQ w base (.slice none 0 0) [] := ⟨World.ownsRow_nil _ _ _ _, by simp⟩
theorem RowQ.below {w w' : World} {base : Nat} {v : Value} {Q : List QRec} (h : RowQ w base v Q) (hb : Below w.heap.size w w') : RowQ w' base v Q :=
  ⟨own_below h.1 hb, fun q hq => ⟨(h.2 q hq).1.mono hb, (h.2 q hq).2⟩⟩
theorem RowQ.far {w : World} {base : Nat} {v : Value} {Q : List QRec} (h : RowQ w base v Q) {p : Addr} (hp : p.block < base) (u : Value) : RowQ (w.setCell p u) base v Q :=
  ⟨ownsRow_setCell_below h.1 hp u, fun q hq => ⟨(h.2 q hq).1.far (h.2 q hq).2.1 hp u, (h.2 q hq).2⟩⟩
theorem Strs.block {w : World} {v : Value} {L : List Str} (h : Strs w v L) (hL : L ≠ []) : ∃ b, v.ownBlock = some b ∧ b < w.heap.size := by
  obtain ⟨ao, cap, b, off, rfl, h0, h1, h2, h3⟩ := h
  rcases h0 with h0 | rfl
  · exact absurd h0 hL
  · exact ⟨b, rfl, (h3 0 (List.length_pos_iff.2 hL)).1⟩
theorem Strs.grown' {w w' : World} {v : Value} {L : List Str} {row : Option Nat} (h : Strs w v L) (hg : w.grownBy w' row) (hne : L ≠ [] → v.ownBlock ≠ row) : Strs w' v L := by
  obtain ⟨ao, cap, b, off, rfl, h0, h1, h2, h3⟩ := h
  refine ⟨ao, cap, b, off, rfl, h0, h1, h2, fun k hk => ?_⟩
  obtain ⟨hlt, hc⟩ := h3 k hk
  have hL : L ≠ [] := by intro e; subst e; simp at hk
  rcases h0 with h0 | rfl
  · exact absurd h0 hL
  · refine ⟨Nat.lt_of_lt_of_le hlt hg.size, ?_⟩
    rw [World.cell?_of_block (w := w) (hg.block b hlt (hne hL))]
    exact hc
theorem RowQ.push {w w' : World} {base : Nat} {v v' : Value} {Q : List QRec} {q : QRec} (h : RowQ w base v Q) (hs : Strs w q.2.2.1 q.2.2.2) (hl : Lies base q.2.2.1) (hm : q.2.1.length ≤ maxLen) (hne : q.2.2.2 ≠ [] → q.2.2.1.ownBlock ≠ v.ownBlock)
    (hown : w'.ownsRow base 57 3 v' (Q.length + 1) (Q.flatMap qcells ++ qcells q)) (hg : w.grownBy w' v.ownBlock) (hv : v'.ownBlock = v.ownBlock ∨ v'.ownBlock = some w.heap.size) : RowQ w' base v' (Q ++ [q]) := by
  refine ⟨by simpa using hown, fun r hr => ?_⟩
  have key : Strs w r.2.2.1 r.2.2.2 ∧ Lies base r.2.2.1 ∧ r.2.1.length ≤ maxLen ∧ (r.2.2.2 ≠ [] → r.2.2.1.ownBlock ≠ v.ownBlock) := by
    rcases List.mem_append.1 hr with hr | hr
    · exact h.2 r hr
    · rw [List.mem_singleton] at hr; subst hr; exact ⟨hs, hl, hm, hne⟩
  obtain ⟨k1, k2, k3, k4⟩ := key
  refine ⟨k1.grown' hg k4, k2, k3, fun hL => ?_⟩
  rcases hv with e | e
  · rw [e]; exact k4 hL
  · obtain ⟨b, hb, hlt⟩ := k1.block hL
    rw [e, hb]
    intro e'
    injection e' with e'
    omega
theorem flat_get (Q : List QRec) (k : Nat) (hk : k < Q.length) (d : QRec) : (Q.flatMap qcells)[k * 3]? = some (.int .i64 (Q.getD k d).1) ∧ (Q.flatMap qcells)[k * 3 + 1]? = some (.string (bstr (Q.getD k d).2.1)) ∧ (Q.flatMap qcells)[k * 3 + 2]? = some (Q.getD k d).2.2.1 := by
  induction Q generalizing k with
  | nil => simp at hk
  | cons q Q ih =>
    cases k with
    | zero => simp [qcells]
    | succ k =>
      have := ih k (by simpa using hk)
      have e : ∀ j, (k + 1) * 3 + j = (k * 3 + j) + 3 := fun j => by omega
      have e0 : (k + 1) * 3 = (k * 3) + 3 := by omega
      rw [e, e, e0]
      simpa [qcells] using this
theorem RowQ.recs {w : World} {base : Nat} {v : Value} {Q : List QRec} (h : RowQ w base v Q) (hl : Q.length ≤ 1099511627776) : Recs w v (Q.map qrec) := by
  rcases h.1.2 with ⟨rfl, h0⟩ | ⟨g, cap, cur, rfl, hb, hg, hn, hm, hs, ht⟩
  · rw [List.length_eq_zero_iff] at h0
    subst h0
    exact Recs.nil w
  · refine ⟨_, cap, g, 0, fun k => (Q.getD k default).2.2.1, by simp, .inr rfl, by simpa using hl, fun k hk => ?_⟩
    have hk' : k < Q.length := by simpa using hk
    obtain ⟨x0, x1, x2⟩ := flat_get Q k hk' default
    have hc := h.1.cells (g := g) rfl
    have c0 := hc _ _ x0
    have c1 := hc _ _ x1
    have c2 := hc _ _ x2
    rw [add_lit] at c0 c1 c2
    have hq := h.2 (Q.getD k default) (by simp [List.getD_eq_getElem?_getD, hk'])
    have e : (Q.map qrec).getD k default = qrec (Q.getD k default) := by simp [List.getD_eq_getElem?_getD, hk']
    rw [e]
    refine ⟨(Array.getElem?_eq_some_iff.1 hg).1, c0, ?_, ?_, hq.1, hq.2.2.1⟩
    · rw [show 0 + k * 3 + 1 = 0 + (k * 3 + 1) from by omega]; exact c1
    · rw [show 0 + k * 3 + 2 = 0 + (k * 3 + 2) from by omega]; exact c2
theorem infoRec : (Try.prog.info? 57).map (fun i => (i.zero, i.size, i.bytes)) = some (some (.agg #[.int .i64 0, .string ⟨#[]⟩, .slice none 0 0]), 3, 48) := by kernel_rfl
theorem sliceOf_block {w : World} {b : Nat} {cs : List Value} {T : TypeId} {fr : Nat × Nat} {size m c : Nat} (h : w.heap[b]? = some (.cells cs.toArray T fr)) (hl : cs.length = m * size) (h1 : ∀ x ∈ cs, x.oneCell' = true) :
    SliceOf w size (.slice (some ⟨b, 0, none⟩) m c) m cs := by
  refine ⟨_, _, rfl, hl, h1, .inr ⟨_, rfl, fun j x hj => ?_⟩⟩
  rw [add_lit, Nat.zero_add]
  simp [World.cell?, h, hj]
theorem RowQ.push_new {w w' : World} {base : Nat} {v v' s : Value} {Q : List QRec} {k : Int} {g : Str} {L : List Str} {o : Obj} (h : RowQ w base v Q) (hs : Strs w s L) (hl : Lies base s) (hm : g.length ≤ maxLen) (hB : base ≤ w.heap.size) (hne : L ≠ [] → s.ownBlock ≠ v.ownBlock)
    (hown : w'.ownsRow base 57 3 v' (Q.length + 1) (Q.flatMap qcells ++ [.int .i64 k, .string (bstr g), s])) (hg : (w.alloc o).grownBy w' v.ownBlock) (hv : v'.ownBlock = v.ownBlock ∨ v'.ownBlock = some (w.alloc o).heap.size) :
    RowQ w' base v' (Q ++ [(k, g, s, L)]) ∧ Below base w w' := by
  have hb : Below w.heap.size w (w.alloc o) := (Below.refl _ _).alloc (Nat.le_refl _) _
  exact ⟨(h.below hb).push (q := (k, g, s, L)) (hs.mono hb) hl hm hne hown hg hv, below_own (hb.mono hB) (h.1.alloc o) (Nat.le_refl _) (by simp; omega) hg⟩
/-- a row of records of the call's own, from block 'base' on -/
def Row (w : World) (base : Nat) (v : Value) (R : List Rec) : Prop := ∃ Q, RowQ w base v Q ∧ Q.map qrec = R ∧ Q.length ≤ 1099511627776
theorem Row.nil (w : World) (base : Nat) : Row w base (.slice none 0 0) [] := ⟨[], RowQ.nil _ _, rfl, Nat.zero_le _⟩
theorem Row.recs {w : World} {base : Nat} {v : Value} {R : List Rec} (h : Row w base v R) : Recs w v R := by
  obtain ⟨Q, h1, rfl, h3⟩ := h
  exact h1.recs h3
theorem Row.below {w w' : World} {base : Nat} {v : Value} {R : List Rec} (h : Row w base v R) (hb : Below w.heap.size w w') : Row w' base v R := by
  obtain ⟨Q, h1, h2, h3⟩ := h
  exact ⟨Q, h1.below hb, h2, h3⟩
theorem Row.far {w : World} {base : Nat} {v : Value} {R : List Rec} (h : Row w base v R) {p : Addr} (hp : p.block < base) (u : Value) : Row (w.setCell p u) base v R := by
  obtain ⟨Q, h1, h2, h3⟩ := h
  exact ⟨Q, h1.far hp u, h2, h3⟩
theorem Row.mono {w : World} {base base' : Nat} {v : Value} {R : List Rec} (h : Row w base v R) (hb : base' ≤ base) : Row w base' v R := by
  obtain ⟨Q, ⟨⟨h0, h1⟩, h2⟩, h3, h4⟩ := h
  refine ⟨Q, ⟨⟨h0, ?_⟩, fun q hq => ⟨(h2 q hq).1, (h2 q hq).2.1.mono hb, (h2 q hq).2.2⟩⟩, h3, h4⟩
  rcases h1 with h1 | ⟨g, cap, cur, h1, h5, h6⟩
  · exact .inl h1
  · exact .inr ⟨g, cap, cur, h1, Nat.le_trans hb h5, h6⟩
theorem Row.shape {w : World} {base : Nat} {v : Value} {R : List Rec} (h : Row w base v R) : ∃ ao cap, v = .slice ao R.length cap := h.recs.shape
end Go.Proofs.Ythkogdgfkhhleaa
