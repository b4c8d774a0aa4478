/- Texts joined into one file: GPut, GPutW, GRef2. -/
import Derived.Test.YthcdppppppgckaaGreatDoorA20
import Derived.Test.YthcdppppppgckaaGreatDoorA05
import Derived.Test.YthcdppppppgckaaGreatDoorA19

namespace Go.Proofs.YthcdppppppgckaaGreatDoor
open Go.RowKit Go.Lib Go.Maps Go.Sort
set_option maxRecDepth 20000



def StBox (w : World) (S : Nat) (ok : Nat → Prop) (ex : Bool) (at' : Int) (n : Nat) (F : Str → Option Int) : Prop :=
 ∃ v L, CBox w S 181 #[.bool ex, .int .i64 at', v] ∧ Tms w v L ∧ Asc F L ∧ L.length ≤ n ∧ (L ≠ [] → ∀ b, v.ownBlock = some b → ok b)
theorem StBox.lt {w : World} {S n : Nat} {ok : Nat → Prop} {ex : Bool} {at' : Int} {F : Str → Option Int} (h : StBox w S ok ex at' n F) : S < w.heap.size := by
 obtain ⟨v, L, h1, _⟩ := h; exact h1.lt
theorem StBox.mono {w w' : World} {S n : Nat} {ok : Nat → Prop} {ex : Bool} {at' : Int} {F : Str → Option Int} (h : StBox w S ok ex at' n F) (hb : Below w.heap.size w w') : StBox w' S ok ex at' n F := by
 obtain ⟨v, L, h1, h2, h3, h4⟩ := h
 exact ⟨v, L, h1.below hb h1.lt, h2.mono hb, h3, h4⟩
theorem StBox.up {w : World} {S n m : Nat} {ok : Nat → Prop} {ex : Bool} {at' : Int} {F : Str → Option Int} (h : StBox w S ok ex at' n F) (hm : n ≤ m) : StBox w S ok ex at' m F := by
 obtain ⟨v, L, h1, h2, h3, h4, h5⟩ := h
 exact ⟨v, L, h1, h2, h3, by omega, h5⟩
end Go.Proofs.YthcdppppppgckaaGreatDoor
