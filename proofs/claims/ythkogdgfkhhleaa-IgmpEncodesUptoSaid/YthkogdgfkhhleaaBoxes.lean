/- Blocks of cells, whole ('CBox'): what keeps them, what turns them. -/
import Derived.Test.YthkogdgfkhhleaaBase
namespace Go.Proofs.Ythkogdgfkhhleaa
open Go.RowKit
set_option maxRecDepth 20000

/-- block b is cells of type T that read as cs -/
def CBox (w : World) (b : Nat) (T : TypeId) (cs : Array Value) : Prop := w.heap[b]? = some (.cells cs T (0, 0))
section
variable {w w' : World} {b B : Nat} {T : TypeId} {cs : Array Value}
theorem CBox.lt (h : CBox w b T cs) : b < w.heap.size := (Array.getElem?_eq_some_iff.1 h).1
theorem CBox.at_ (h : CBox w b T cs) (i : Nat) (v : Value) (hi : cs[i]? = some v) : w.cell? ⟨b, i, none⟩ = some v ∧ w.frozen? ⟨b, i, none⟩ = false := by
  have h' : w.heap[b]? = some (.cells cs T (0, 0)) := h
  exact ⟨by simp [World.cell?, h', hi], by simp [World.frozen?, h']⟩
theorem CBox.below (h : CBox w b T cs) (hb : Below B w w') (hB : b < B) : CBox w' b T cs := (hb.block b hB).trans h
theorem CBox.grown {row : Option Nat} (h : CBox w b T cs) (hg : w.grownBy w' row) (hne : some b ≠ row) : CBox w' b T cs := (hg.block b h.lt hne).trans h
theorem CBox.set (h : CBox w b T cs) (i : Nat) (u : Value) : CBox (w.setCell ⟨b, i, none⟩ u) b T (cs.setIfInBounds i u) := by
  have h' : w.heap[b]? = some (.cells cs T (0, 0)) := h
  unfold CBox
  simp [World.setCell, Array.getElem?_modify, h']
theorem CBox.far (h : CBox w b T cs) {p : Addr} (hp : b ≠ p.block) (u : Value) : CBox (w.setCell p u) b T cs := (Below.heap_setCell w p u b hp).trans h
theorem CBox.new (cs : Array Value) (hb : b = w.heap.size) : CBox (w.alloc (.cells cs T)) b T cs := by subst hb; exact heap_alloc_new w _
theorem CBox.old (h : CBox w b T cs) (o : Obj) : CBox (w.alloc o) b T cs := h.below ((Below.refl _ w).alloc (Nat.le_refl _) o) h.lt
theorem CBox.draws (h : CBox w b T cs) (n : Nat) : CBox (w.drewN n) b T cs := h.below (below_draws _ (Below.refl _ _) n) h.lt
end

theorem own_form {w : World} {base : Nat} {e : TypeId} {size : Nat} {v : Value} {n : Nat} {xs : List Value} (h : w.ownsRow base e size v n xs) : ∃ ao c, v = .slice ao n c := by
  rcases h.2 with ⟨rfl, rfl⟩ | ⟨g, cap, cur, rfl, _⟩
  · exact ⟨_, _, rfl⟩
  · exact ⟨_, _, rfl⟩

theorem grown_below {w1 wr w2 : World} {row : Option Nat} (hg : w1.grownBy wr row) (hb : Below wr.heap.size wr w2) : w1.grownBy w2 row :=
  ⟨hb.os.trans hg.os, hb.tape.trans hg.tape, hb.output.trans hg.output, Nat.le_trans hg.size hb.size, fun k hk hne => (hb.block k (Nat.lt_of_lt_of_le hk hg.size)).trans (hg.block k hk hne)⟩

theorem heap_new (w : World) (o : Obj) (b : Nat) (h : b = w.heap.size) : (w.alloc o).heap[b]? = some o := by subst h; exact heap_alloc_new w o

/-- a row of the call's own is no block of another type -/
theorem own_box {w : World} {base : Nat} {e : TypeId} {size : Nat} {v : Value} {n : Nat} {xs : List Value} {b : Nat} {T : TypeId} {cs : Array Value} (h : w.ownsRow base e size v n xs) (hd : CBox w b T cs) (hne : e ≠ T) : v.ownBlock ≠ some b := by
  rcases h.2 with ⟨rfl, _⟩ | ⟨g, cap, cur, rfl, _, hg, _⟩
  · simp [Value.ownBlock]
  · intro e'
    have : g = b := by simpa [Value.ownBlock] using e'
    subst this
    have hd' : w.heap[g]? = some (.cells cs T (0, 0)) := hd
    rw [hg] at hd'
    simp at hd'
    exact hne hd'.2
end Go.Proofs.Ythkogdgfkhhleaa
