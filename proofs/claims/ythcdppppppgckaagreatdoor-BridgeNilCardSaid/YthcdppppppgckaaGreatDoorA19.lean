/- Texts joined into one file: GRefu, GRefy, GExc. -/
import Derived.Test.YthcdppppppgckaaGreatDoorA18

namespace Go.Proofs.YthcdppppppgckaaGreatDoor
open Go.RowKit Go.Lib Go.Maps Go.Sort
set_option maxRecDepth 20000

def fillF (F : Str → Option Int) (Q : List Str) (z : Int) : Str → Option Int := fun a => if Q.contains a && !runF F a then some z else F a

def notBlk (F : Str → Option Int) (a : Str) : Bool := !(F a == some 0)


def excF (F : Str → Option Int) (S : List Str) (fr : Int) : Str → Option Int := fun a => if S.contains a then some ((F a).getD fr) else none
theorem CBox.drew {w : World} {b : Nat} {T : TypeId} {cs : Array Value} (h : CBox w b T cs) : CBox w.drew b T cs := h.below (Below.drew (Below.refl _ _)) h.lt
theorem Mp.drew {w : World} {b n : Nat} {F : Str → Option Int} (h : Mp w b n F) : Mp w.drew b n F := h.below (Below.drew (Below.refl _ _)) h.lt
theorem But.drew {w w' : World} {B b : Nat} (h : But w w' B b) : But w w'.drew B b := h.trans (But.of_below (Below.drew (Below.refl _ _)) B b)

def freshOf (ex t : Bool) (at' z : Int) : Int := if ex then (if t then at' else z) else 0

end Go.Proofs.YthcdppppppgckaaGreatDoor
