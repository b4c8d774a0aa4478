/- Words for ForwardMore and ForwardAll: a case that the call itself holds in a box and changes; appends to its lists. -/
import Derived.Test.YtmjpjpdgejpeeaaWithin
import Derived.Test.YtmjpjpdgejpeeaaApp
import Derived.ArgAppend
namespace Go.Proofs.Ytmjpjpdgejpeeaa
open Go.RowKit Go.Sort

theorem add_lit (b off k : Nat) : (⟨b, off, none⟩ : Addr).add k = ⟨b, off + k, none⟩ := by unfold Addr.add; split <;> simp_all

theorem Ints.sliceOf {w : World} {v : Value} {L : List Int} (h : Ints w v L) : SliceOf w 1 v L.length (L.map (Value.int .i64)) := by
  obtain ⟨ao, cap, b, off, rfl, h0, h1, h2, h3⟩ := h
  refine ⟨ao, cap, rfl, by simp, ints_oneCell .i64 L, ?_⟩
  by_cases hz : L.length = 0
  · exact .inl hz
  · refine .inr ⟨⟨b, off, none⟩, ?_, fun j x hj => ?_⟩
    · rcases h0 with rfl | h0
      · simp at hz
      · exact h0
    · obtain ⟨hlt, e⟩ := List.getElem?_eq_some_iff.1 hj
      rw [add_lit, (h3 j (by simpa using hlt)).2, ← e]
      simp [List.getD_eq_getElem?_getD, show j < L.length by simpa using hlt]

/-- the box of a case that the call holds -/
def DBox (w : World) (b : Nat) (cs : Array Value) : Prop := w.heap[b]? = some (.cells cs 28 (0, 0))
theorem DBox.lt {w : World} {b : Nat} {cs : Array Value} (h : DBox w b cs) : b < w.heap.size := (Array.getElem?_eq_some_iff.1 h).1
theorem DBox.at_ {w : World} {b : Nat} {cs : Array Value} (h : DBox w b cs) (i : Nat) (v : Value) (hi : cs[i]? = some v) : w.cell? ⟨b, i, none⟩ = some v ∧ w.frozen? ⟨b, i, none⟩ = false := by
  have h' : w.heap[b]? = some (.cells cs 28 (0, 0)) := h
  exact ⟨by simp [World.cell?, h', hi], by simp [World.frozen?, h']⟩
theorem DBox.below {w w' : World} {b B : Nat} {cs : Array Value} (h : DBox w b cs) (hb : Below B w w') (hB : b < B) : DBox w' b cs := (hb.block b hB).trans h
theorem DBox.grown {w w' : World} {b : Nat} {cs : Array Value} {row : Option Nat} (h : DBox w b cs) (hg : w.grownBy w' row) (hne : some b ≠ row) : DBox w' b cs := (hg.block b h.lt hne).trans h
theorem DBox.set {w : World} {b : Nat} {cs : Array Value} (h : DBox w b cs) (i : Nat) (u : Value) : DBox (w.setCell ⟨b, i, none⟩ u) b (cs.setIfInBounds i u) := by
  have h' : w.heap[b]? = some (.cells cs 28 (0, 0)) := h
  unfold DBox
  simp [World.setCell, Array.getElem?_modify, h']
theorem DBox.far {w : World} {b : Nat} {cs : Array Value} (h : DBox w b cs) {p : Addr} (hp : b ≠ p.block) (u : Value) : DBox (w.setCell p u) b cs := (Below.heap_setCell w p u b hp).trans h
theorem DBox.new {w : World} {b : Nat} (cs : Array Value) (hb : b = w.heap.size) : DBox (w.alloc (.cells cs 28)) b cs := by subst hb; exact heap_alloc_new w _
theorem DBox.old {w : World} {b : Nat} {cs : Array Value} (h : DBox w b cs) (o : Obj) : DBox (w.alloc o) b cs := h.below ((Below.refl _ w).alloc (Nat.le_refl _) o) h.lt

theorem own_below {w w' : World} {base : Nat} {e : TypeId} {size : Nat} {v : Value} {n : Nat} {xs : List Value} (h : w.ownsRow base e size v n xs) (hb : Below w.heap.size w w') : w'.ownsRow base e size v n xs :=
  h.kept (row := none) ⟨hb.os, hb.tape, hb.output, hb.size, fun k hk _ => hb.block k hk⟩ (by cases v.ownBlock <;> simp)
theorem own_form {w : World} {base : Nat} {e : TypeId} {size : Nat} {v : Value} {n : Nat} {xs : List Value} (h : w.ownsRow base e size v n xs) : ∃ ao c, v = .slice ao n c := by
  rcases h.2 with ⟨rfl, rfl⟩ | ⟨g, cap, cur, rfl, _⟩
  · exact ⟨_, _, rfl⟩
  · exact ⟨_, _, rfl⟩

theorem sliceOf_one {w : World} {b : Nat} {u : Value} (h : w.cell? ⟨b, 0, none⟩ = some u) (h1 : u.oneCell' = true) (c : Nat) : SliceOf w 1 (.slice (some ⟨b, 0, none⟩) 1 c) 1 [u] := by
  refine ⟨_, _, rfl, rfl, by simpa using h1, .inr ⟨_, rfl, fun j x hj => ?_⟩⟩
  match j, hj with
  | 0, hj =>
    simp at hj; subst hj
    rw [add_lit]; simpa using h

/-- one more is appended to a slice of the call's own: what the slice held before, it holds still -/
theorem run_append_keep {P : Program} (w : World) (base : Nat) (t ty e : TypeId) (i : TypeInfo) (z : Value) (bytes : Nat) (ht : P.underlying t = some (.slice e)) (hi : P.info? e = some i) (hz : i.zero = some z)
    (hsize : i.size = 1) (hby : i.bytes = bytes) (hzs : z.cells.size = 1) (v : Value) (L : List Int) (x : Int) (hown : w.ownsRow base e 1 v L.length (L.map (Value.int .i64)))
    (b c : Nat) (hb : w.cell? ⟨b, 0, none⟩ = some (.int .i64 x)) (hl : L.length + 1 ≤ 17592186044416) (hbytes : (L.length + 1) * bytes ≤ 140737488355328) (hbase : base ≤ w.heap.size) (hw : ∀ y ∈ L, (Lit.int .i64 y).wf = true) (hx : (Lit.int .i64 x).wf = true) :
    ∃ v' w', (Builtin.append_ #[t, t] ty #[v, .slice (some ⟨b, 0, none⟩) 1 c]).run P w = .ok v' w' ∧ Ints w' v L ∧ Ints w' v' (L ++ [x]) ∧ w.grownBy w' v.ownBlock ∧ w'.ownsRow base e 1 v' (L ++ [x]).length ((L ++ [x]).map (Value.int .i64)) := by
  have h63 : L.length + 1 ≤ maxLen := by unfold maxLen; omega
  obtain ⟨v', w', hrun, hown', hg, hat⟩ := run_append_vals (P := P) w base t ty e i z 1 bytes ht hi hz hsize hby hzs (by decide) v L.length _ hown _ 1 [.int .i64 x] (sliceOf_one hb rfl c) h63 hbytes hbase
  have hown2 : w'.ownsRow base e 1 v' (L ++ [x]).length ((L ++ [x]).map (Value.int .i64)) := by simpa using hown'
  have hwx : ∀ y ∈ L ++ [x], (Lit.int .i64 y).wf = true := fun y hy => by
    rcases List.mem_append.1 hy with hy | hy
    · exact hw y hy
    · rw [List.mem_singleton] at hy; subst hy; exact hx
  refine ⟨v', w', hrun, ?_, Ints.own hown2 (by simpa using hl) hwx, hg, hown2⟩
  rcases hown.2 with ⟨rfl, h0⟩ | ⟨g, cap, cur, rfl, hbg, hgb, hn, hm, hs, htk⟩
  · rw [List.length_eq_zero_iff] at h0; subst h0; exact Ints.nil _
  · by_cases hr : L.length + 1 ≤ cap
    · have hfree : ∀ j, j < ([Value.int .i64 x]).length → (w.cell? ⟨g, 0 + L.length * i.size + j, none⟩).isSome = true ∧ w.frozen? ⟨g, 0 + L.length * i.size + j, none⟩ = false := by
        intro j hj
        have : j = 0 := by simpa using hj
        subst this
        refine ⟨?_, by simp [World.frozen?, hgb]⟩
        simp [World.cell?, hgb, hsize]; omega
      have hrun2 := run_append_room_cells (P := P) w t ty e i ht hi g 0 L.length cap ⟨b, 0, none⟩ 1 c [.int .i64 x] (by simp [hsize]) (fun j u hj => by
        match j, hj with
        | 0, hj => simp at hj; subst hj; rw [add_lit]; simpa using hb) (by simp [Value.oneCell']) hr (fun j hj => (hfree j hj).1) (fun j hj => (hfree j hj).2)
      rw [hrun] at hrun2
      injection hrun2 with e1 e2
      subst e1
      refine ⟨_, cap, g, 0, rfl, .inr rfl, by omega, hw, fun k hk => ?_⟩
      have hc := hown2.cells (g := g) rfl k (.int .i64 (L.getD k 0)) (by simp [List.getD_eq_getElem?_getD, hk, List.getElem?_append])
      rw [add_lit] at hc
      exact ⟨World.block_lt_of_cell? w' ⟨g, 0 + k, none⟩ hc, hc⟩
    · obtain ⟨v2, w2, hrun2, _, hg2⟩ := run_append_arg_grows (P := P) w t ty e i z 1 bytes ht hi hz hsize hby hzs (by decide) ⟨g, 0, none⟩ L.length cap (L.map (Value.int .i64)) (by simp) (fun j u hj => hown.cells (g := g) rfl j u hj) ⟨b, 0, none⟩ 1 c [.int .i64 x] (by simp) (fun j u hj => by
        match j, hj with
        | 0, hj => simp at hj; subst hj; rw [add_lit]; simpa using hb) (by omega) h63 hbytes
      rw [hrun] at hrun2
      injection hrun2 with e1 e2
      subst e1 e2
      exact (Ints.own hown (by omega) hw).mono ⟨hg2.os, hg2.tape, hg2.output, hg2.size, fun k hk => hg2.block k hk (by simp)⟩

theorem wpList_append_keep {P : Program} (w : World) {ops : Array Oper} {rest : List Oper} {o : Oper} {a : Act} {Q : Exit → Act → World → Prop} (hgd : o.guard = none) (s x : Operand) (t : TypeId)
    (ho : o.op = .call { callee := .builtin .append, args := #[s, x], argTypes := #[t, t] })
    (base : Nat) (e : TypeId) (i : TypeInfo) (z : Value) (bytes : Nat) (ht : P.underlying t = some (.slice e)) (hi : P.info? e = some i) (hz : i.zero = some z)
    (hsize : i.size = 1) (hby : i.bytes = bytes) (hzs : z.cells.size = 1) (v : Value) (L : List Int) (y : Int) (hs : a.eval s = v) (hown : w.ownsRow base e 1 v L.length (L.map (Value.int .i64)))
    (b c : Nat) (hx : a.eval x = .slice (some ⟨b, 0, none⟩) 1 c) (hb : w.cell? ⟨b, 0, none⟩ = some (.int .i64 y)) (hl : L.length + 1 ≤ 17592186044416) (hbytes : (L.length + 1) * bytes ≤ 140737488355328) (hbase : base ≤ w.heap.size) (hw : ∀ y ∈ L, (Lit.int .i64 y).wf = true) (hy : (Lit.int .i64 y).wf = true)
    (h : ∀ v' w', Ints w' v L → Ints w' v' (L ++ [y]) → w.grownBy w' v.ownBlock → w'.ownsRow base e 1 v' (L ++ [y]).length ((L ++ [y]).map (Value.int .i64)) → wpList P ops Q rest (a.put o.dst v') w') : wpList P ops Q (o :: rest) a w := by
  refine wpList_plain hgd fun _ hK => ?_
  obtain ⟨v', w', hrun, h1, h2, h3, h4⟩ := run_append_keep (P := P) w base t o.type e i z bytes ht hi hz hsize hby hzs v L y hown b c hb hl hbytes hbase hw hy
  unfold Oper.wp execOp
  simp only [ho, resolve, invoke, builtin, Sem.run_bind, Sem.run_pure, Result.andThen_ok, List.map_toArray, List.map_cons, List.map_nil, hs, hx, hrun]
  exact hK _ _ (h v' w' h1 h2 h3 h4)

theorem infoD : (Try.prog.info? 28).map (·.size) = some 10 := by kernel_rfl
end Go.Proofs.Ytmjpjpdgejpeeaa
