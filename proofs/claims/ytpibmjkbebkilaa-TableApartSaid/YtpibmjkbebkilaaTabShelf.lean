/-
  DERIVED: THE SHELF's CONTRACTS AT THIS DUMP, IN PLAIN WORDS (tools/lay-plain.mjs out of 'TryTab.lean', which tools/lay-shelf.mjs wrote): THE SAME DECLARATIONS UNDER THE SAME NAMES: 'import', 'namespace', 'open', 'def', 'theorem' AND NOTHING ELSE: no command of the shelf's: FOR A HAND-IN. Each laying: the table of numbers ('.._ren') and one theorem, a field a fact of the dump's own or the kernel's comparison; each contract: ONE APPLICATION.
-/
import Derived.Shelf.SlGeneric
import Derived.Shelf.SlSortCmp.WholeK
import Derived.Shelf.SlSortCmp.NoneTotal
import Derived.Ground.SlsfProg
import Derived.Test.YtpibmjkbebkilaaProg
namespace Go.Proofs
open Go.Shelf
def Try.keySort_ren : Go.Shelf.Ren := ⟨fun | 6 => 58 | 15 => 66 | 14 => 68 | 28 => 80 | 29 => 81 | 20 => 83 | 21 => 84 | 22 => 85 | 23 => 86 | 24 => 87 | 25 => 88 | 26 => 89 | 27 => 90 | 46 => 97 | 47 => 92 | 48 => 93 | 49 => 98 | 50 => 99 | 57 => 101 | n => n, fun | 22 => 42 | 24 => 46 | 25 => 106 | 3 => 3 | 39 => 90 | 0 => 0 | 53 => 131 | 55 => 133 | 4 => 4 | 46 => 124 | 45 => 123 | 50 => 89 | 5 => 5 | 9 => 9 | 66 => 140 | 70 => 144 | 76 => 149 | 77 => 150 | n => n, fun | n => n⟩
theorem Try.keySort : Go.Proofs.SlLaysF0.n6 Try.prog Try.keySort_ren := {
  mixed := by kernel_rfl
  f6 := ⟨Try.f58.name, by decide, Try.func58.trans (congrArg some (by kernel_rfl))⟩
  f14 := ⟨Try.f68.name, by decide, Try.func68.trans (congrArg some (by kernel_rfl))⟩
  f15 := Try.func66.trans (congrArg some (by kernel_rfl))
  f20 := ⟨Try.f83.name, by decide, Try.func83.trans (congrArg some (by kernel_rfl))⟩
  f21 := ⟨Try.f84.name, by decide, Try.func84.trans (congrArg some (by kernel_rfl))⟩
  f22 := ⟨Try.f85.name, by decide, Try.func85.trans (congrArg some (by kernel_rfl))⟩
  f23 := ⟨Try.f86.name, by decide, Try.func86.trans (congrArg some (by kernel_rfl))⟩
  f24 := ⟨Try.f87.name, by decide, Try.func87.trans (congrArg some (by kernel_rfl))⟩
  f25 := ⟨Try.f88.name, by decide, Try.func88.trans (congrArg some (by kernel_rfl))⟩
  f26 := ⟨Try.f89.name, by decide, Try.func89.trans (congrArg some (by kernel_rfl))⟩
  f27 := ⟨Try.f90.name, by decide, Try.func90.trans (congrArg some (by kernel_rfl))⟩
  f28 := Try.func80.trans (congrArg some (by kernel_rfl))
  f29 := Try.func81.trans (congrArg some (by kernel_rfl))
  f46 := ⟨Try.f97.name, by decide, Try.func97.trans (congrArg some (by kernel_rfl))⟩
  f47 := Try.func92.trans (congrArg some (by kernel_rfl))
  f48 := Try.func93.trans (congrArg some (by kernel_rfl))
  f49 := ⟨Try.f98.name, by decide, Try.func98.trans (congrArg some (by kernel_rfl))⟩
  f50 := ⟨Try.f99.name, by decide, Try.func99.trans (congrArg some (by kernel_rfl))⟩
  f57 := ⟨Try.f101.name, by decide, Try.func101.trans (congrArg some (by kernel_rfl))⟩
  t0 := Try.underlying0
  a0 := Try.isAgg0
  z0 := Try.sizeOf0
  v0 := Try.zeroValue0
  t3 := Try.underlying3
  a3 := Try.isAgg3
  z3 := Try.sizeOf3
  v3 := Try.zeroValue3
  t4 := Try.underlying4
  a4 := Try.isAgg4
  z4 := Try.sizeOf4
  v4 := Try.zeroValue4
  t5 := Try.underlying5
  a5 := Try.isAgg5
  z5 := Try.sizeOf5
  v5 := Try.zeroValue5
  t9 := Try.underlying9
  a9 := Try.isAgg9
  z9 := Try.sizeOf9
  v9 := Try.zeroValue9
  t22 := Try.underlying42
  a22 := Try.isAgg42
  z22 := Try.sizeOf42
  v22 := Try.zeroValue42
  t25 := Try.underlying106
  a25 := Try.isAgg106
  z25 := Try.sizeOf106
  v25 := Try.zeroValue106
  t39 := Try.underlying90
  a39 := Try.isAgg90
  z39 := Try.sizeOf90
  v39 := Try.zeroValue90
  t45 := Try.underlying123
  a45 := Try.isAgg123
  z45 := Try.sizeOf123
  v45 := Try.zeroValue123
  t46 := Try.underlying124
  a46 := Try.isAgg124
  z46 := Try.sizeOf124
  v46 := Try.zeroValue124
  t50 := Try.underlying89
  a50 := Try.isAgg89
  z50 := Try.sizeOf89
  v50 := Try.zeroValue89
  t53 := Try.underlying131
  a53 := Try.isAgg131
  z53 := Try.sizeOf131
  v53 := Try.zeroValue131
  t55 := Try.underlying133
  a55 := Try.isAgg133
  z55 := Try.sizeOf133
  v55 := Try.zeroValue133
  t66 := Try.underlying140
  a66 := Try.isAgg140
  z66 := Try.sizeOf140
  v66 := Try.zeroValue140
  t70 := Try.underlying144
  a70 := Try.isAgg144
  z70 := Try.sizeOf144
  v70 := Try.zeroValue144
  t76 := Try.underlying149
  a76 := Try.isAgg149
  z76 := Try.sizeOf149
  v76 := Try.zeroValue149
  t77 := Try.underlying150
  a77 := Try.isAgg150
  z77 := Try.sizeOf150
  v77 := Try.zeroValue150 }
end Go.Proofs
