/- General words on memory that all texts of this seat share: a slice of integers in memory ('Ints'), and how it stays what it is while new memory is laid. -/
import Derived.Test.YthkogdgfkhhleaaProg
import Derived.WalkKit
import Derived.WalkSpells
import Derived.WalkLawsBesides
import Derived.Lib.Hide
import Derived.Deep.QuietTactic
import Derived.BigQuiet
namespace Go.Proofs.Ythkogdgfkhhleaa
open Go.RowKit
set_option maxRecDepth 20000

/-- what a walk asks of a slice's value, nil or not: its length, and where its elements lie -/
theorem run_len_any {P : Program} {T e : TypeId} (hT : P.underlying T = some (.slice e)) (ao : Option Addr) (n cap : Nat) (ty : TypeId) (w : World) :
    (Builtin.len_ #[T] ty #[.slice ao n cap]).run P w = .ok (.int .i64 n) w := by
  have h : P.underlying T = some (.slice (P.elem T)) := by simp [Program.elem, hT]
  rw [run_len_slice w T ty ao n cap h]; rfl

theorem run_index_any {P : Program} {T e : TypeId} {s : Nat} (hT : P.underlying T = some (.slice e)) (hs : ∀ w, (sizeOf e).run P w = .ok s w) (b off n cap k : Nat) (hk : k < n) (w : World) :
    (Instr.indexAt T (.slice (some ⟨b, off, none⟩) n cap) (.int .i64 k)).run P w = .ok (.pointer (some ⟨b, off + k * s, none⟩)) w := by
  have h : P.underlying T = some (.slice (P.elem T)) := by simp [Program.elem, hT]
  have he : P.elem T = e := by simp [Program.elem, hT]
  have hadd : (⟨b, off, none⟩ : Addr).add (k * s) = ⟨b, off + k * s, none⟩ := by unfold Addr.add; split <;> simp_all
  rw [run_indexAt_slice w T _ n cap _ _ h, if_pos ⟨by omega, by omega⟩, he, hs]
  simp [Result.andThen, hadd]

/-- v is a slice of ints whose elements are L. -/
def Ints (w : World) (v : Value) (L : List Int) : Prop :=
  ∃ ao cap b off, v = .slice ao L.length cap ∧ (L = [] ∨ ao = some ⟨b, off, none⟩) ∧ L.length ≤ 17592186044416 ∧ (∀ x ∈ L, (Lit.int .i64 x).wf = true) ∧
    (∀ k, k < L.length → b < w.heap.size ∧ w.cell? ⟨b, off + k, none⟩ = some (.int .i64 (L.getD k 0)))

theorem Ints.mono {w w' : World} {v : Value} {L : List Int} (h : Ints w v L) (hb : Below w.heap.size w w') : Ints w' v L := by
  obtain ⟨ao, cap, b, off, rfl, h0, h1, h2, h3⟩ := h
  refine ⟨ao, cap, b, off, rfl, h0, h1, h2, fun k hk => ?_⟩
  obtain ⟨hlt, hc⟩ := h3 k hk
  exact ⟨Nat.lt_of_lt_of_le hlt hb.size, by rw [hb.cell (p := ⟨b, off + k, none⟩) hlt]; exact hc⟩

theorem below_draws (B : Nat) {a w : World} (h : Below B a w) (n : Nat) : Below B a (w.drewN n) := ⟨h.os, h.tape, h.output, h.size, h.block⟩

theorem Ints.draws {w : World} {v : Value} {L : List Int} (h : Ints w v L) (n : Nat) : Ints (w.drewN n) v L := h.mono (below_draws _ (Below.refl _ _) n)

theorem Ints.nil (w : World) : Ints w (.slice none 0 0) [] := ⟨none, 0, 0, 0, rfl, .inl rfl, by simp, by simp, by simp⟩

/-- What the call has built is such a slice. -/
theorem Ints.own {w : World} {base : Nat} {e : TypeId} {v : Value} {L : List Int} (h : w.ownsRow base e 1 v L.length (L.map (Value.int .i64))) (hl : L.length ≤ 17592186044416) (hw : ∀ x ∈ L, (Lit.int .i64 x).wf = true) : Ints w v L := by
  rcases h.2 with ⟨rfl, h0⟩ | ⟨g, cap, cur, rfl, hb, hg, hn, hm, hs, ht⟩
  · rw [List.length_eq_zero_iff] at h0
    subst h0
    exact Ints.nil w
  · refine ⟨_, cap, g, 0, rfl, .inr rfl, hl, hw, fun k hk => ⟨(Array.getElem?_eq_some_iff.1 hg).1, ?_⟩⟩
    have := h.cells (g := g) rfl k (.int .i64 (L.getD k 0)) (by simp [List.getD_eq_getElem?_getD, hk])
    have hadd : (⟨g, 0, none⟩ : Addr).add k = ⟨g, 0 + k, none⟩ := by unfold Addr.add; split <;> simp_all
    rw [hadd] at this
    exact this

theorem Ints.wf {w : World} {v : Value} {L : List Int} (h : Ints w v L) : ∀ x ∈ L, (Lit.int .i64 x).wf = true := by
  obtain ⟨_, _, _, _, _, _, _, h, _⟩ := h
  exact h


/-- such a value takes one cell -/
theorem Ints.one {w : World} {v : Value} {L : List Int} (h : Ints w v L) : v.cells = #[v] ∧ ∀ (a : Addr) (m : Mode) (w' : World), (store a v m).run Try.prog w' = stored Try.prog w' a v m := by
  obtain ⟨ao, cap, b, off, rfl, _⟩ := h
  exact ⟨rfl, fun a m w' => run_store_slice _ _ _ _ _ _ _⟩

theorem ret_bool {a b : Bool} (h : a = b) : Ending.returned (.bool a) = .returned (.bool b) := by rw [h]

/-- a callee that leaves the world alone, inside a region that draws -/
theorem quietS {P : Program} {f : FuncId} {args : Array Value} {w : World} {n : Nat} {v : Value}
    (h : Calls P f args (w.drewN n) fun e w' => e = .returned v ∧ w.drewN n = w') : Calls P f args (w.drewN n) fun e w'' => e = .returned v ∧ ∃ m, w'' = w.drewN m :=
  Calls.quiet_of_same (h.mono fun _ _ h => ⟨h.1, h.2.symm⟩)

/-- a row of the call's own from 'base' on lies in no block below -/
theorem own_ne {w : World} {base : Nat} {e : TypeId} {size : Nat} {v : Value} {n : Nat} {xs : List Value} (h : w.ownsRow base e size v n xs) {b : Nat} (hb : b < base) : v.ownBlock = none ∨ v.ownBlock ≠ some b :=
  .inr (fun e => by have := h.lt b e; omega)

/-- a row of the call's own that is appended to: what lay below 'base' stays -/
theorem below_own {B base : Nat} {a w w' : World} {e : TypeId} {size : Nat} {v : Value} {n : Nat} {xs : List Value} (h : Below B a w) (ho : w.ownsRow base e size v n xs) (hB : B ≤ base) (hs : B ≤ w.heap.size) (hg : w.grownBy w' v.ownBlock) : Below B a w' :=
  h.grown hg hs (fun k hk => Nat.le_trans hB (ho.lt k hk).1)

theorem take_snoc {α : Type} (L : List α) (k : Nat) (h : k < L.length) : L.take (k + 1) = L.take k ++ [L[k]] :=
  List.take_succ_eq_append_getElem h

end Go.Proofs.Ythkogdgfkhhleaa
