/-
  DERIVED: THE SHELF's CONTRACTS AT THIS DUMP, IN PLAIN WORDS (tools/lay-plain.mjs out of 'TryIter.lean', which tools/lay-shelf.mjs wrote): THE SAME DECLARATIONS UNDER THE SAME NAMES: 'import', 'namespace', 'open', 'def', 'theorem' AND NOTHING ELSE: no command of the shelf's: FOR A HAND-IN. Each laying: the table of numbers ('.._ren') and one theorem, a field a fact of the dump's own or the kernel's comparison; each contract: ONE APPLICATION.
-/
import Derived.Shelf.SlGeneric
import Derived.Shelf.SlIter.Nil
import Derived.Shelf.SlIter.Sorted
import Derived.Ground.GgzProg
import Derived.Test.YtfloipdkhmgibaaProg
namespace Go.Proofs
open Go.Shelf
def Try.addrKeys_ren : Go.Shelf.Ren := ⟨fun | 7 => 73 | 10 => 83 | n => n, fun | 23 => 90 | 26 => 44 | 3 => 3 | 28 => 114 | 0 => 0 | 27 => 113 | 33 => 82 | 4 => 4 | n => n, fun | n => n⟩
theorem Try.addrKeys : Go.Proofs.SlLaysZ.n7 Try.prog Try.addrKeys_ren := {
  mixed := by kernel_rfl
  f7 := ⟨Try.f73.name, by decide, Try.func73.trans (congrArg some (by kernel_rfl))⟩
  f10 := ⟨Try.f83.name, by decide, Try.func83.trans (congrArg some (by kernel_rfl))⟩
  t0 := Try.underlying0
  a0 := Try.isAgg0
  z0 := Try.sizeOf0
  v0 := Try.zeroValue0
  t4 := Try.underlying4
  a4 := Try.isAgg4
  z4 := Try.sizeOf4
  v4 := Try.zeroValue4
  t23 := Try.underlying90
  a23 := Try.isAgg90
  z23 := Try.sizeOf90
  v23 := Try.zeroValue90
  t26 := Try.underlying44
  a26 := Try.isAgg44
  z26 := Try.sizeOf44
  v26 := Try.zeroValue44
  t27 := Try.underlying113
  a27 := Try.isAgg113
  z27 := Try.sizeOf113
  v27 := Try.zeroValue113
  t28 := Try.underlying114
  a28 := Try.isAgg114
  z28 := Try.sizeOf114
  v28 := Try.zeroValue114
  t33 := Try.underlying82
  a33 := Try.isAgg82
  z33 := Try.sizeOf82
  v33 := Try.zeroValue82 }
def Try.addrSorted_ren : Go.Shelf.Ren := ⟨fun | 6 => 72 | 8 => 82 | 9 => 69 | 11 => 104 | 13 => 78 | 12 => 81 | 23 => 92 | 24 => 93 | 14 => 95 | 15 => 96 | 16 => 97 | 17 => 98 | 18 => 99 | 19 => 100 | 20 => 101 | 21 => 102 | 22 => 103 | 25 => 110 | 26 => 106 | 27 => 107 | 28 => 111 | 29 => 112 | 30 => 94 | 31 => 114 | n => n, fun | 26 => 44 | 28 => 114 | 24 => 26 | 0 => 0 | 3 => 3 | 37 => 99 | 48 => 131 | 50 => 133 | 4 => 4 | 40 => 125 | 39 => 124 | 45 => 110 | 5 => 5 | 9 => 9 | 51 => 141 | 55 => 145 | 57 => 149 | 58 => 150 | 33 => 82 | n => n, fun | n => n⟩
theorem Try.addrSorted : Go.Proofs.SlLaysZ.n6 Try.prog Try.addrSorted_ren := {
  mixed := by kernel_rfl
  f6 := ⟨Try.f72.name, by decide, Try.func72.trans (congrArg some (by kernel_rfl))⟩
  f8 := ⟨Try.f82.name, by decide, Try.func82.trans (congrArg some (by kernel_rfl))⟩
  f11 := ⟨Try.f104.name, by decide, Try.func104.trans (congrArg some (by kernel_rfl))⟩
  t0 := Try.underlying0
  a0 := Try.isAgg0
  z0 := Try.sizeOf0
  v0 := Try.zeroValue0
  t24 := Try.underlying26
  a24 := Try.isAgg26
  z24 := Try.sizeOf26
  v24 := Try.zeroValue26
  t26 := Try.underlying44
  a26 := Try.isAgg44
  z26 := Try.sizeOf44
  v26 := Try.zeroValue44
  t28 := Try.underlying114
  a28 := Try.isAgg114
  z28 := Try.sizeOf114
  v28 := Try.zeroValue114
  i26 := by kernel_rfl }
end Go.Proofs
