/- Texts joined into one file: GRef2, GRef3, GSA, GSome. -/
import Derived.Test.YthcdppppppgckaaGreatDoorC17
import Derived.Test.YthcdppppppgckaaGreatDoorC16

namespace Go.Proofs.YthcdppppppgckaaGreatDoor
open Go.RowKit Go.Lib Go.Maps Go.Sort
set_option maxRecDepth 20000

def StBox (w : World) (S : Nat) (ok : Nat → Prop) (ex : Bool) (at' : Int) (n : Nat) (F : Str → Option Int) : Prop :=
 ∃ v L, CBox w S 181 #[.bool ex, .int .i64 at', v] ∧ Tms w v L ∧ Asc F L ∧ L.length ≤ n ∧ (L ≠ [] → ∀ b, v.ownBlock = some b → ok b)
theorem StBox.lt {w : World} {S n : Nat} {ok : Nat → Prop} {ex : Bool} {at' : Int} {F : Str → Option Int} (h : StBox w S ok ex at' n F) : S < w.heap.size := by
 obtain ⟨v, L, h1, _⟩ := h; exact h1.lt
theorem StBox.mono {w w' : World} {S n : Nat} {ok : Nat → Prop} {ex : Bool} {at' : Int} {F : Str → Option Int} (h : StBox w S ok ex at' n F) (hb : Below w.heap.size w w') : StBox w' S ok ex at' n F := by
 obtain ⟨v, L, h1, h2, h3, h4⟩ := h
 exact ⟨v, L, h1.below hb h1.lt, h2.mono hb, h3, h4⟩
theorem StBox.up {w : World} {S n m : Nat} {ok : Nat → Prop} {ex : Bool} {at' : Int} {F : Str → Option Int} (h : StBox w S ok ex at' n F) (hm : n ≤ m) : StBox w S ok ex at' m F := by
 obtain ⟨v, L, h1, h2, h3, h4, h5⟩ := h
 exact ⟨v, L, h1, h2, h3, by omega, h5⟩
end Go.Proofs.YthcdppppppgckaaGreatDoor

namespace Go.Proofs.YthcdppppppgckaaGreatDoor
open Go.RowKit Go.Lib Go.Sort
set_option maxRecDepth 20000

end Go.Proofs.YthcdppppppgckaaGreatDoor

namespace Go.Proofs.YthcdppppppgckaaGreatDoor
open Go.RowKit Go.Lib Go.Maps Go.Sort
set_option maxRecDepth 20000

theorem Strs.ne_ge {w : World} {v : Value} {L : List Str} (h : Strs w v L) {b : Nat} (hb : w.heap.size ≤ b) : L ≠ [] → v.ownBlock ≠ some b := by
 intro hL e
 obtain ⟨ao, cap, c, off, rfl, h0, h1, h2, h3⟩ := h
 rcases h0 with h0 | rfl
 · exact hL h0
 · have := (h3 0 (List.length_pos_iff.2 hL)).1
   simp [Value.ownBlock] at e
   omega
theorem Tms.ne_ge {w : World} {v : Value} {L : List Tmd} (h : Tms w v L) {b : Nat} (hb : w.heap.size ≤ b) : L ≠ [] → ∀ c, v.ownBlock = some c → c ≠ b := by
 intro hL c e
 obtain ⟨ao, cap, d, off, rfl, h0, h1, h2, h3⟩ := h
 rcases h0 with h0 | rfl
 · exact absurd h0 hL
 · have := (h3 0 (List.length_pos_iff.2 hL)).1
   simp [Value.ownBlock] at e
   omega
theorem Tms.grown' {w w' : World} {v : Value} {L : List Tmd} {S : Nat} (h : Tms w v L) (hg : w.grownBy w' (some S)) (hne : L ≠ [] → ∀ c, v.ownBlock = some c → c ≠ S) : Tms w' v L := by
 obtain ⟨ao, cap, b, off, rfl, h0, h1, h2, h3⟩ := h
 refine ⟨ao, cap, b, off, rfl, h0, h1, h2, fun j hj => ?_⟩
 obtain ⟨q1, q2, q3⟩ := h3 j hj
 have hL : L ≠ [] := by intro e; rw [e] at hj; simp at hj
 have hb' : b ≠ S := by
  rcases h0 with h0 | rfl
  · exact absurd h0 hL
  · exact hne hL b rfl
 exact ⟨Nat.lt_of_lt_of_le q1 hg.size, hg.cell q2 (fun e => hb' (by injection e)), hg.cell q3 (fun e => hb' (by injection e))⟩
theorem Tms.apart {w : World} {v : Value} {L : List Tmd} (h : Tms w v L) {p : Addr} (hne : L ≠ [] → ∀ b, v.ownBlock = some b → b ≠ p.block) (u : Value) : Tms (w.setCell p u) v L := by
 refine h.grown' (S := p.block) ⟨rfl, rfl, rfl, by simp [World.setCell], fun i hi hne => Below.heap_setCell _ _ _ i (fun e => hne (by rw [e]))⟩ hne
theorem Strs.apart' {w : World} {v : Value} {L : List Str} (h : Strs w v L) {p : Addr} (hne : L ≠ [] → ∀ b, v.ownBlock = some b → b ≠ p.block) (u : Value) : Strs (w.setCell p u) v L := by
 refine h.grown' (row := some p.block) ⟨rfl, rfl, rfl, by simp [World.setCell], fun i hi hne => Below.heap_setCell _ _ _ i (fun e => hne (by rw [e]))⟩ (fun hL e => hne hL _ e rfl)
theorem Tms.drew {w : World} {v : Value} {L : List Tmd} (h : Tms w v L) : Tms w.drew v L := h.mono (Below.drew (Below.refl _ _))
theorem Strs.drew {w : World} {v : Value} {L : List Str} (h : Strs w v L) : Strs w.drew v L := h.mono (Below.drew (Below.refl _ _))
theorem Lies.ne {lo : Nat} {v : Value} (h : Lies lo v) {b : Nat} (hb : b < lo) : v.ownBlock ≠ some b := fun e => by have := h b e; omega
theorem Tms.end5' {w : World} {v : Value} {L : List Tmd} {lo : Nat} (h : Tms w v L) (hl : L ≠ [] → ∀ b, v.ownBlock = some b → b ≠ lo ∧ b ≠ lo + 1) (u0 u1 u2 u3 u4 : Value) : Tms (((((w.setCell ⟨lo, 0, none⟩ u0).setCell ⟨lo, 1, none⟩ u1).setCell ⟨lo, 2, none⟩ u2).setCell ⟨lo + 1, 0, none⟩ u3).setCell ⟨lo + 1, 1, none⟩ u4) v L :=
 ((((h.apart (p := ⟨lo, 0, none⟩) (fun hL b hb => (hl hL b hb).1) u0).apart (p := ⟨lo, 1, none⟩) (fun hL b hb => (hl hL b hb).1) u1).apart (p := ⟨lo, 2, none⟩) (fun hL b hb => (hl hL b hb).1) u2).apart (p := ⟨lo + 1, 0, none⟩) (fun hL b hb => (hl hL b hb).2) u3).apart (p := ⟨lo + 1, 1, none⟩) (fun hL b hb => (hl hL b hb).2) u4
theorem Strs.end5' {w : World} {v : Value} {L : List Str} {lo : Nat} (h : Strs w v L) (hl : L ≠ [] → ∀ b, v.ownBlock = some b → b ≠ lo ∧ b ≠ lo + 1) (u0 u1 u2 u3 u4 : Value) : Strs (((((w.setCell ⟨lo, 0, none⟩ u0).setCell ⟨lo, 1, none⟩ u1).setCell ⟨lo, 2, none⟩ u2).setCell ⟨lo + 1, 0, none⟩ u3).setCell ⟨lo + 1, 1, none⟩ u4) v L :=
 ((((h.apart' (p := ⟨lo, 0, none⟩) (fun hL b hb => (hl hL b hb).1) u0).apart' (p := ⟨lo, 1, none⟩) (fun hL b hb => (hl hL b hb).1) u1).apart' (p := ⟨lo, 2, none⟩) (fun hL b hb => (hl hL b hb).1) u2).apart' (p := ⟨lo + 1, 0, none⟩) (fun hL b hb => (hl hL b hb).2) u3).apart' (p := ⟨lo + 1, 1, none⟩) (fun hL b hb => (hl hL b hb).2) u4

theorem StBox.far {w : World} {S n : Nat} {ok : Nat → Prop} {ex : Bool} {at' : Int} {F : Str → Option Int} (h : StBox w S ok ex at' n F) {p : Addr} (hp : S ≠ p.block) (hk : ∀ b, ok b → b ≠ p.block) (u : Value) : StBox (w.setCell p u) S ok ex at' n F := by
 obtain ⟨v, L, h1, h2, h3, h4, h5⟩ := h
 exact ⟨v, L, h1.far hp u, h2.apart (fun hL b hb => hk b (h5 hL b hb)) u, h3, h4, h5⟩
def RetSA (w : World) (ex : Bool) (at' : Int) (F : Str → Option Int) (g : Bool) (R : List Str) (e : Ending) (w' : World) : Prop :=
 ∃ v L u, e = .returned (.tuple #[.agg #[.bool ex, .int .i64 at', v], .agg #[.bool g, u]]) ∧ Tms w' v L ∧ Asc F L ∧ Strs w' u R ∧ Below w.heap.size w w'


end Go.Proofs.YthcdppppppgckaaGreatDoor
