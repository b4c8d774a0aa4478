/- Texts joined into one file: GAsk, GStep, GRapp. -/
import Derived.Test.YthcdppppppgckaaGreatDoorA22
import Derived.Test.YthcdppppppgckaaGreatDoorA18
import Derived.Test.YthcdppppppgckaaGreatDoorA20
import Derived.Test.YthcdppppppgckaaGreatDoorA23

namespace Go.Proofs.YthcdppppppgckaaGreatDoor
open Go.RowKit Go.Lib Go.Maps Go.Sort
set_option maxRecDepth 20000


def RetStep (w : World) (ex : Bool) (at' : Int) (F : Str → Option Int) (g : Bool) (q : Str → Bool) (e : Ending) (w' : World) : Prop :=
 ∃ v L u R, e = .returned (.tuple #[.agg #[.bool ex, .int .i64 at', v], .agg #[.bool g, u]]) ∧ Tms w' v L ∧ Asc F L ∧ Strs w' u R ∧ Rises q R ∧ R.length ≤ 60 ∧ Below w.heap.size w w'
theorem RetSA.step {w : World} {ex : Bool} {at' : Int} {F : Str → Option Int} {g : Bool} {R : List Str} {q : Str → Bool} {e : Ending} {w' : World} (h : RetSA w ex at' F g R e w') (hR : Rises q R) (hl : R.length ≤ 60) : RetStep w ex at' F g q e w' := by
 obtain ⟨v, L, u, h1, h2, h3, h4, h5⟩ := h
 exact ⟨v, L, u, R, h1, h2, h3, h4, hR, hl, h5⟩


theorem CBox.inv {w : World} {b : Nat} {T : TypeId} {cs : Array Value} (h : CBox w b T cs) {i : Nat} {u : Value} (hc : w.cell? ⟨b, i, none⟩ = some u) : cs[i]? = some u := by
 have h' : w.heap[b]? = some (.cells cs T (0, 0)) := h
 simpa [World.cell?, h'] using hc
theorem Tms.ne_box {w : World} {v : Value} {L : List Tmd} {b : Nat} {T : TypeId} {cs : Array Value} (h : Tms w v L) (hb : CBox w b T cs) (hs : ∀ (i : Nat) (s : ByteArray), cs[i]? ≠ some (Value.string s)) : L ≠ [] → ∀ c, v.ownBlock = some c → c ≠ b := by
 intro hL c e he
 subst he
 obtain ⟨ao, cap, d, off, rfl, h0, h1, h2, h3⟩ := h
 rcases h0 with h0 | rfl
 · exact absurd h0 hL
 · obtain ⟨_, q, _⟩ := h3 0 (List.length_pos_iff.2 hL)
   simp [Value.ownBlock] at e
   subst e
   exact hs _ _ (hb.inv q)
theorem Strs.ne_box {w : World} {v : Value} {L : List Str} {b : Nat} {T : TypeId} {cs : Array Value} (h : Strs w v L) (hb : CBox w b T cs) (hs : ∀ (i : Nat) (s : ByteArray), cs[i]? ≠ some (Value.string s)) : L ≠ [] → ∀ c, v.ownBlock = some c → c ≠ b := by
 intro hL c e he
 subst he
 obtain ⟨ao, cap, d, off, rfl, h0, h1, h2, h3⟩ := h
 rcases h0 with h0 | rfl
 · exact absurd h0 hL
 · obtain ⟨_, q⟩ := h3 0 (List.length_pos_iff.2 hL)
   simp [Value.ownBlock] at e
   subst e
   exact hs _ _ (hb.inv q)
theorem ns3 (a : Bool) (z : Int) (o : Option Addr) (n c : Nat) : ∀ (i : Nat) (s : ByteArray), (#[.bool a, .int .i64 z, .slice o n c] : Array Value)[i]? ≠ some (Value.string s) := by
 intro i s
 match i with
 | 0 => simp
 | 1 => simp
 | 2 => simp
 | _ + 3 => simp
end Go.Proofs.YthcdppppppgckaaGreatDoor
