/- Texts joined into one file: GWhich, GRun, GWork, GSoon. -/
import Derived.Test.YthcdppppppgckaaGreatDoorC14
import Derived.Deep.RegionHeld3
import Derived.Deep.DeepCutAuto

namespace Go.Proofs.YthcdppppppgckaaGreatDoor
open Go.RowKit Go.Lib Go.Sort
set_option maxRecDepth 20000

end Go.Proofs.YthcdppppppgckaaGreatDoor

namespace Go.Proofs.YthcdppppppgckaaGreatDoor
open Go.RowKit Go.Lib Go.Maps Go.Sort
set_option maxRecDepth 20000

def Rises (p : Str → Bool) (R : List Str) : Prop := R.Pairwise (· < ·) ∧ ∀ a, a ∈ R ↔ p a = true

def runF (F : Str → Option Int) (a : Str) : Bool := (F a).getD 0 != 0

theorem runF_some {F : Str → Option Int} {a : Str} (h : runF F a = true) : F a ≠ none := by
 intro e
 simp [runF, e] at h


def setF (F : Str → Option Int) (S : List Str) (z : Int) : Str → Option Int := fun a => if S.contains a then some z else F a
def But (w w' : World) (B b : Nat) : Prop := Below 0 w w' ∧ ∀ j, j < w.heap.size → j ≠ B → j ≠ b → w'.heap[j]? = w.heap[j]?

theorem But.of_below {w w' : World} (h : Below w.heap.size w w') (B b : Nat) : But w w' B b := ⟨h.mono (Nat.zero_le _), fun j hj _ _ => h.block j hj⟩
theorem But.trans {w w' w'' : World} {B b : Nat} (h : But w w' B b) (k : But w' w'' B b) : But w w'' B b :=
 ⟨h.1.trans k.1, fun j hj h1 h2 => (k.2 j (Nat.lt_of_lt_of_le hj h.1.size) h1 h2).trans (h.2 j hj h1 h2)⟩
theorem But.grown {w w' w'' : World} {B b : Nat} {row : Option Nat} (h : But w w' B b) (hg : w'.grownBy w'' row) (hr : ∀ j, row = some j → j = B ∨ j = b ∨ w.heap.size ≤ j) : But w w'' B b :=
 ⟨h.1.grown hg (Nat.zero_le _) (fun _ _ => Nat.zero_le _), fun j hj h1 h2 => (hg.block j (Nat.lt_of_lt_of_le hj h.1.size) (fun e => by rcases hr j e.symm with e | e | e <;> omega)).trans (h.2 j hj h1 h2)⟩
theorem But.set {w w' : World} {B b : Nat} (h : But w w' B b) {p : Addr} (hp : p.block = B ∨ w.heap.size ≤ p.block) (u : Value) : But w (w'.setCell p u) B b :=
 ⟨h.1.setCell (Nat.zero_le _) u, fun j hj h1 h2 => (Below.heap_setCell _ _ _ j (by omega)).trans (h.2 j hj h1 h2)⟩
theorem But.alloc {w w' : World} {B b : Nat} (h : But w w' B b) (o : Obj) : But w (w'.alloc o) B b := h.trans (But.of_below ((Below.refl _ _).alloc (Nat.le_refl _) o) _ _)
theorem But.draws {w w' : World} {B b : Nat} (h : But w w' B b) (n : Nat) : But w (w'.drewN n) B b := h.trans (But.of_below (below_draws _ (Below.refl _ _) n) _ _)
theorem But.box {w w' : World} {B b j : Nat} {T : TypeId} {cs : Array Value} (h : But w w' B b) (hc : CBox w j T cs) (h1 : j ≠ B) (h2 : j ≠ b) : CBox w' j T cs := (h.2 j hc.lt h1 h2).trans hc
theorem But.below {w w' : World} {B b lo : Nat} (h : But w w' B b) (hw : lo ≤ w.heap.size) (h1 : lo ≤ B) (h2 : lo ≤ b) : Below lo w w' := ⟨h.1.os, h.1.tape, h.1.output, h.1.size, fun k hk => h.2 k (by omega) (by omega) (by omega)⟩
theorem But.strs {w w' : World} {B b lo : Nat} {v : Value} {L : List Str} (h : But w w' B b) (hs : Strs w v L) (hl : Lies lo v) (h1 : B < lo) (h2 : b < lo) : Strs w' v L := by
 obtain ⟨ao, cap, c, off, rfl, h0, h1', h2', h3⟩ := hs
 refine ⟨ao, cap, c, off, rfl, h0, h1', h2', fun k hk => ?_⟩
 obtain ⟨hlt, hc⟩ := h3 k hk
 have hb : lo ≤ c := by
  rcases h0 with rfl | rfl
  · simp at hk
  · exact hl c rfl
 refine ⟨Nat.lt_of_lt_of_le hlt h.1.size, ?_⟩
 rw [World.cell?_of_block (w := w) (h.2 c hlt (by omega) (by omega))]
 exact hc

theorem CBox.thaw {w : World} {b : Nat} {T : TypeId} {cs : Array Value} (h : CBox w b T cs) (i : Nat) : w.frozen? ⟨b, i, none⟩ = false := by
 have h' : w.heap[b]? = some (.cells cs T (0, 0)) := h
 simp [World.frozen?, h']

theorem Strs.grown' {w w' : World} {v : Value} {L : List Str} {row : Option Nat} (h : Strs w v L) (hg : w.grownBy w' row) (hne : L ≠ [] → v.ownBlock ≠ row) : Strs w' v L := by
 obtain ⟨ao, cap, b, off, rfl, h0, h1, h2, h3⟩ := h
 refine ⟨ao, cap, b, off, rfl, h0, h1, h2, fun k hk => ?_⟩
 obtain ⟨hlt, hc⟩ := h3 k hk
 have hL : L ≠ [] := by intro e; subst e; simp at hk
 rcases h0 with h0 | rfl
 · exact absurd h0 hL
 · refine ⟨Nat.lt_of_lt_of_le hlt hg.size, ?_⟩
   rw [World.cell?_of_block (w := w) (hg.block b hlt (hne hL))]
   exact hc


def soonF (F : Str → Option Int) (Q : List Str) (z : Int) : Str → Option Int := fun a => if Q.contains a && runF F a then some (min ((F a).getD 0) z) else F a
end Go.Proofs.YthcdppppppgckaaGreatDoor
