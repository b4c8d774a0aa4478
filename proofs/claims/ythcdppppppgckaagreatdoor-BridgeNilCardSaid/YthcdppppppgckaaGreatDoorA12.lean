/- Texts joined into one file: StrFound, StrRising, Values. -/
import Derived.Test.YthcdppppppgckaaGreatDoorA11
import Derived.Sort.Walk0
import Derived.Test.YthcdppppppgckaaGreatDoorA01
import Derived.RangeFuncBox
import Derived.RangeFuncLeaves
import Derived.Shelf.Abstract
import Derived.WalkKit
import Derived.OwnWalkIn
import Derived.TacticsInMore
import Derived.LoopNIn
import Derived.LoopIn
import Derived.Maps.AppendAt

namespace Go.Proofs.YthcdppppppgckaaGreatDoor
open Go.RowKit
set_option maxRecDepth 20000

end Go.Proofs.YthcdppppppgckaaGreatDoor

namespace Go.Proofs.YthcdppppppgckaaGreatDoor
open Go.RowKit Go.Sort
set_option maxRecDepth 20000

def lenOf : Value → Nat
 | .slice _ n _ => n
 | _ => 0

end Go.Proofs.YthcdppppppgckaaGreatDoor

namespace Go.Proofs.YthcdppppppgckaaGreatDoor
open Go.RowKit Go.Shelf Go.Maps Go.Sort
set_option maxRecDepth 20000
attribute [local go_sem] Oper.semAt_some

theorem box_cell {w w' : World} {c : Array Value} {t : TypeId} (hb : Below (w.alloc (.cells c t)).heap.size (w.alloc (.cells c t)) w') (j : Nat) (v : Value) (hj : c[j]? = some v) : w'.cell? ⟨w.heap.size, j, none⟩ = some v := by
 rw [hb.cell (p := ⟨w.heap.size, j, none⟩) (by simp)]
 rw [cell_of_row _ w.heap.size j c t (0, 0) (heap_alloc_new w _)]
 exact hj

theorem box_below {w w' : World} {o : Obj} (hb : Below (w.alloc o).heap.size (w.alloc o) w') : Below w.heap.size w w' :=
 ((Below.refl _ _).alloc (Nat.le_refl _) o).trans (hb.mono (by simp))

end Go.Proofs.YthcdppppppgckaaGreatDoor
