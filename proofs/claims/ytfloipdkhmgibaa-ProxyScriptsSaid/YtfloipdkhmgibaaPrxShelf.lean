/-
  DERIVED: THE SHELF's CONTRACTS AT THIS DUMP, IN PLAIN WORDS (tools/lay-plain.mjs out of 'TryPrx.lean', which tools/lay-shelf.mjs wrote): THE SAME DECLARATIONS UNDER THE SAME NAMES: 'import', 'namespace', 'open', 'def', 'theorem' AND NOTHING ELSE: no command of the shelf's: FOR A HAND-IN. Each laying: the table of numbers ('.._ren') and one theorem, a field a fact of the dump's own or the kernel's comparison; each contract: ONE APPLICATION.
-/
import Derived.Shelf.SlGeneric
import Derived.Shelf.SlSortCmp.WholeK
import Derived.Shelf.SlSortCmp.NoneTotal
import Derived.Shelf.SlicesG.Clone
import Derived.Ground.SlsfProg
import Derived.Ground.SlgnProg
import Derived.Test.YtfloipdkhmgibaaProg
namespace Go.Proofs
open Go.Shelf
def Try.keySort_ren : Go.Shelf.Ren := ⟨fun | 6 => 64 | 15 => 78 | 14 => 77 | 28 => 92 | 29 => 93 | 20 => 84 | 21 => 85 | 22 => 86 | 23 => 87 | 24 => 88 | 25 => 89 | 26 => 90 | 27 => 91 | 46 => 105 | 47 => 106 | 48 => 107 | 49 => 108 | 50 => 109 | 57 => 113 | n => n, fun | 22 => 86 | 24 => 78 | 25 => 107 | 3 => 3 | 39 => 99 | 0 => 0 | 53 => 131 | 55 => 133 | 4 => 4 | 46 => 125 | 45 => 124 | 50 => 110 | 5 => 5 | 9 => 9 | 66 => 141 | 70 => 145 | 76 => 149 | 77 => 150 | n => n, fun | n => n⟩
theorem Try.keySort : Go.Proofs.SlLaysF0.n6 Try.prog Try.keySort_ren := {
  mixed := by kernel_rfl
  f6 := ⟨Try.f64.name, by decide, Try.func64.trans (congrArg some (by kernel_rfl))⟩
  f14 := ⟨Try.f77.name, by decide, Try.func77.trans (congrArg some (by kernel_rfl))⟩
  f15 := Try.func78.trans (congrArg some (by kernel_rfl))
  f20 := ⟨Try.f84.name, by decide, Try.func84.trans (congrArg some (by kernel_rfl))⟩
  f21 := ⟨Try.f85.name, by decide, Try.func85.trans (congrArg some (by kernel_rfl))⟩
  f22 := ⟨Try.f86.name, by decide, Try.func86.trans (congrArg some (by kernel_rfl))⟩
  f23 := ⟨Try.f87.name, by decide, Try.func87.trans (congrArg some (by kernel_rfl))⟩
  f24 := ⟨Try.f88.name, by decide, Try.func88.trans (congrArg some (by kernel_rfl))⟩
  f25 := ⟨Try.f89.name, by decide, Try.func89.trans (congrArg some (by kernel_rfl))⟩
  f26 := ⟨Try.f90.name, by decide, Try.func90.trans (congrArg some (by kernel_rfl))⟩
  f27 := ⟨Try.f91.name, by decide, Try.func91.trans (congrArg some (by kernel_rfl))⟩
  f28 := Try.func92.trans (congrArg some (by kernel_rfl))
  f29 := Try.func93.trans (congrArg some (by kernel_rfl))
  f46 := ⟨Try.f105.name, by decide, Try.func105.trans (congrArg some (by kernel_rfl))⟩
  f47 := Try.func106.trans (congrArg some (by kernel_rfl))
  f48 := Try.func107.trans (congrArg some (by kernel_rfl))
  f49 := ⟨Try.f108.name, by decide, Try.func108.trans (congrArg some (by kernel_rfl))⟩
  f50 := ⟨Try.f109.name, by decide, Try.func109.trans (congrArg some (by kernel_rfl))⟩
  f57 := ⟨Try.f113.name, by decide, Try.func113.trans (congrArg some (by kernel_rfl))⟩
  t0 := Try.underlying0
  a0 := Try.isAgg0
  z0 := Try.sizeOf0
  v0 := Try.zeroValue0
  t3 := Try.underlying3
  a3 := Try.isAgg3
  z3 := Try.sizeOf3
  v3 := Try.zeroValue3
  t4 := Try.underlying4
  a4 := Try.isAgg4
  z4 := Try.sizeOf4
  v4 := Try.zeroValue4
  t5 := Try.underlying5
  a5 := Try.isAgg5
  z5 := Try.sizeOf5
  v5 := Try.zeroValue5
  t9 := Try.underlying9
  a9 := Try.isAgg9
  z9 := Try.sizeOf9
  v9 := Try.zeroValue9
  t22 := Try.underlying86
  a22 := Try.isAgg86
  z22 := Try.sizeOf86
  v22 := Try.zeroValue86
  t25 := Try.underlying107
  a25 := Try.isAgg107
  z25 := Try.sizeOf107
  v25 := Try.zeroValue107
  t39 := Try.underlying99
  a39 := Try.isAgg99
  z39 := Try.sizeOf99
  v39 := Try.zeroValue99
  t45 := Try.underlying124
  a45 := Try.isAgg124
  z45 := Try.sizeOf124
  v45 := Try.zeroValue124
  t46 := Try.underlying125
  a46 := Try.isAgg125
  z46 := Try.sizeOf125
  v46 := Try.zeroValue125
  t50 := Try.underlying110
  a50 := Try.isAgg110
  z50 := Try.sizeOf110
  v50 := Try.zeroValue110
  t53 := Try.underlying131
  a53 := Try.isAgg131
  z53 := Try.sizeOf131
  v53 := Try.zeroValue131
  t55 := Try.underlying133
  a55 := Try.isAgg133
  z55 := Try.sizeOf133
  v55 := Try.zeroValue133
  t66 := Try.underlying141
  a66 := Try.isAgg141
  z66 := Try.sizeOf141
  v66 := Try.zeroValue141
  t70 := Try.underlying145
  a70 := Try.isAgg145
  z70 := Try.sizeOf145
  v70 := Try.zeroValue145
  t76 := Try.underlying149
  a76 := Try.isAgg149
  z76 := Try.sizeOf149
  v76 := Try.zeroValue149
  t77 := Try.underlying150
  a77 := Try.isAgg150
  z77 := Try.sizeOf150
  v77 := Try.zeroValue150 }
def Try.addrClone_ren : Go.Shelf.Ren := ⟨fun | 42 => 43 | n => n, fun | 25 => 26 | 26 => 44 | 4 => 4 | n => n, fun | n => n⟩
theorem Try.addrClone : Go.Proofs.SlLaysN.n42 Try.prog Try.addrClone_ren := {
  mixed := by kernel_rfl
  f42 := ⟨Try.f43.name, by decide, Try.func43.trans (congrArg some (by kernel_rfl))⟩
  t4 := Try.underlying4
  a4 := Try.isAgg4
  z4 := Try.sizeOf4
  v4 := Try.zeroValue4
  t25 := Try.underlying26
  a25 := Try.isAgg26
  z25 := Try.sizeOf26
  v25 := Try.zeroValue26
  t26 := Try.underlying44
  a26 := Try.isAgg44
  z26 := Try.sizeOf44
  v26 := Try.zeroValue44
  i26 := by kernel_rfl }
end Go.Proofs
