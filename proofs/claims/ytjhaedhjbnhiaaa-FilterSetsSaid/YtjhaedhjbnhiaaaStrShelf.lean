/-
  DERIVED: THE SHELF's CONTRACTS AT THIS DUMP, IN PLAIN WORDS (tools/lay-plain.mjs out of 'TryShelf.lean', which tools/lay-shelf.mjs wrote): THE SAME DECLARATIONS UNDER THE SAME NAMES: 'import', 'namespace', 'open', 'def', 'theorem' AND NOTHING ELSE: no command of the shelf's: FOR A HAND-IN. Each laying: the table of numbers ('.._ren') and one theorem, a field a fact of the dump's own or the kernel's comparison; each contract: ONE APPLICATION.
-/
import Derived.Shelf.SlGeneric
import Derived.Shelf.SlicesG.Turned
import Derived.Shelf.SlicesG.CompactS
import Derived.Shelf.SortM.Plain
import Derived.Shelf.SortM.SortNone
import Derived.Shelf.Spec.SlicesGrow
import Derived.Ground.SlgnProg
import Derived.Ground.SlgmProg
import Derived.Test.YtjhaedhjbnhiaaaProg
namespace Go.Proofs
open Go.Shelf
def Try.addrContains_ren : Go.Shelf.Ren := ⟨fun | 32 => 31 | 30 => 46 | n => n, fun | 25 => 22 | 26 => 25 | 4 => 4 | 3 => 3 | 0 => 0 | n => n, fun | n => n⟩
theorem Try.addrContains : Go.Proofs.SlLaysN.n32 Try.prog Try.addrContains_ren := {
  mixed := by kernel_rfl
  f30 := ⟨Try.f46.name, by decide, Try.func46.trans (congrArg some (by kernel_rfl))⟩
  f32 := ⟨Try.f31.name, by decide, Try.func31.trans (congrArg some (by kernel_rfl))⟩
  t0 := Try.underlying0
  a0 := Try.isAgg0
  z0 := Try.sizeOf0
  v0 := Try.zeroValue0
  t3 := Try.underlying3
  a3 := Try.isAgg3
  z3 := Try.sizeOf3
  v3 := Try.zeroValue3
  t4 := Try.underlying4
  a4 := Try.isAgg4
  z4 := Try.sizeOf4
  v4 := Try.zeroValue4
  t25 := Try.underlying22
  a25 := Try.isAgg22
  z25 := Try.sizeOf22
  v25 := Try.zeroValue22
  t26 := Try.underlying25
  a26 := Try.isAgg25
  z26 := Try.sizeOf25
  v26 := Try.zeroValue25 }
open Go.RowKit Go.Lib in
/-- slices.Contains at []api.Addr. -/
theorem Try.slices_Contains_addr (b off n c : Nat) (zs : List ByteArray) (x : ByteArray) (w : World) (hz : n ≤ zs.length) (hbig : n ≤ 9223372036854775807) (hc : ∀ j, j < zs.length → w.cell? ⟨b, off + j, none⟩ = some (.string (zs.getD j ByteArray.empty))) :
    Calls Try.prog 31 #[.slice (some ⟨b, off, none⟩) n c, .string x] w fun e w' => e = .returned (.bool (Lib.containsS (zs.take n) x)) ∧ w' = w := AnyG.slices_Contains_string Try.addrContains b off n c zs x w hz hbig hc
open Go.RowKit Go.Lib in
/-- .. and at no element. -/
theorem Try.slices_Contains_addr_empty (a : Option Addr) (c : Nat) (x : ByteArray) (w : World) :
    Calls Try.prog 31 #[.slice a 0 c, .string x] w fun e w' => e = .returned (.bool false) ∧ w' = w := AnyG.slices_Contains_string_empty Try.addrContains a c x w
def Try.addrCompact_ren : Go.Shelf.Ren := ⟨fun | 44 => 45 | n => n, fun | 25 => 22 | 26 => 25 | 3 => 3 | 4 => 4 | 0 => 0 | n => n, fun | n => n⟩
theorem Try.addrCompact : Go.Proofs.SlLaysN.n44 Try.prog Try.addrCompact_ren := {
  mixed := by kernel_rfl
  f44 := ⟨Try.f45.name, by decide, Try.func45.trans (congrArg some (by kernel_rfl))⟩
  t0 := Try.underlying0
  a0 := Try.isAgg0
  z0 := Try.sizeOf0
  v0 := Try.zeroValue0
  t3 := Try.underlying3
  a3 := Try.isAgg3
  z3 := Try.sizeOf3
  v3 := Try.zeroValue3
  t4 := Try.underlying4
  a4 := Try.isAgg4
  z4 := Try.sizeOf4
  v4 := Try.zeroValue4
  t25 := Try.underlying22
  a25 := Try.isAgg22
  z25 := Try.sizeOf22
  v25 := Try.zeroValue22
  t26 := Try.underlying25
  a26 := Try.isAgg25
  z26 := Try.sizeOf25
  v26 := Try.zeroValue25
  i26 := by kernel_rfl }
open Go.RowKit Go.Lib Go.Sort in
/-- slices.Compact at []api.Addr. -/
theorem Try.slices_Compact_addr (blk off cap : Nat) (zs : List (List UInt8)) (w : World) (hH : Holds encStr w blk off zs.toArray) (hsz : zs.length ≤ 9223372036854775807) (hcap : zs.length ≤ cap) :
    Calls Try.prog 45 #[.slice (some ⟨blk, off, none⟩) zs.length cap] w fun e w' => e = .returned (.slice (some ⟨blk, off, none⟩) (Lib.compact zs).length cap) ∧ ∃ q, w' = putRow encStr (Sort.ahead w q) blk off (Lib.compact zs ++ List.replicate (zs.length - (Lib.compact zs).length) []).toArray := AnyG.slices_Compact_string Try.addrCompact blk off cap zs w hH hsz hcap
open Go.RowKit Go.Lib Go.Sort in
/-- .. and at no element. -/
theorem Try.slices_Compact_addr_empty (a : Option Addr) (cap : Nat) (w : World) :
    Calls Try.prog 45 #[.slice a 0 cap] w fun e w' => e = .returned (.slice a 0 cap) ∧ w' = w := AnyG.slices_Compact_string_empty Try.addrCompact a cap w
def Try.addrSort_ren : Go.Shelf.Ren := ⟨fun | 6 => 44 | 8 => 50 | 9 => 49 | 19 => 60 | 20 => 61 | 21 => 51 | 22 => 52 | 23 => 53 | 24 => 54 | 25 => 55 | 26 => 56 | 27 => 57 | 28 => 58 | 29 => 59 | 36 => 62 | 31 => 63 | 32 => 64 | 37 => 65 | 38 => 66 | 39 => 67 | 41 => 68 | n => n, fun | 27 => 22 | 29 => 25 | 3 => 3 | 32 => 58 | 26 => 22 | 0 => 0 | 44 => 69 | 46 => 71 | 4 => 4 | 36 => 61 | 35 => 60 | 41 => 66 | 5 => 5 | 9 => 9 | 53 => 72 | 57 => 76 | 63 => 78 | 64 => 79 | n => n, fun | n => n⟩
theorem Try.addrSort : Go.Proofs.SlLaysM.n6 Try.prog Try.addrSort_ren := {
  mixed := by kernel_rfl
  f6 := ⟨Try.f44.name, by decide, Try.func44.trans (congrArg some (by kernel_rfl))⟩
  f8 := Try.func50.trans (congrArg some (by kernel_rfl))
  f9 := ⟨Try.f49.name, by decide, Try.func49.trans (congrArg some (by kernel_rfl))⟩
  f19 := Try.func60.trans (congrArg some (by kernel_rfl))
  f20 := Try.func61.trans (congrArg some (by kernel_rfl))
  f21 := ⟨Try.f51.name, by decide, Try.func51.trans (congrArg some (by kernel_rfl))⟩
  f22 := ⟨Try.f52.name, by decide, Try.func52.trans (congrArg some (by kernel_rfl))⟩
  f23 := ⟨Try.f53.name, by decide, Try.func53.trans (congrArg some (by kernel_rfl))⟩
  f24 := ⟨Try.f54.name, by decide, Try.func54.trans (congrArg some (by kernel_rfl))⟩
  f25 := ⟨Try.f55.name, by decide, Try.func55.trans (congrArg some (by kernel_rfl))⟩
  f26 := ⟨Try.f56.name, by decide, Try.func56.trans (congrArg some (by kernel_rfl))⟩
  f27 := ⟨Try.f57.name, by decide, Try.func57.trans (congrArg some (by kernel_rfl))⟩
  f28 := ⟨Try.f58.name, by decide, Try.func58.trans (congrArg some (by kernel_rfl))⟩
  f29 := ⟨Try.f59.name, by decide, Try.func59.trans (congrArg some (by kernel_rfl))⟩
  f31 := Try.func63.trans (congrArg some (by kernel_rfl))
  f32 := Try.func64.trans (congrArg some (by kernel_rfl))
  f36 := ⟨Try.f62.name, by decide, Try.func62.trans (congrArg some (by kernel_rfl))⟩
  f37 := ⟨Try.f65.name, by decide, Try.func65.trans (congrArg some (by kernel_rfl))⟩
  f38 := ⟨Try.f66.name, by decide, Try.func66.trans (congrArg some (by kernel_rfl))⟩
  f39 := ⟨Try.f67.name, by decide, Try.func67.trans (congrArg some (by kernel_rfl))⟩
  f41 := ⟨Try.f68.name, by decide, Try.func68.trans (congrArg some (by kernel_rfl))⟩
  t0 := Try.underlying0
  a0 := Try.isAgg0
  z0 := Try.sizeOf0
  v0 := Try.zeroValue0
  t3 := Try.underlying3
  a3 := Try.isAgg3
  z3 := Try.sizeOf3
  v3 := Try.zeroValue3
  t4 := Try.underlying4
  a4 := Try.isAgg4
  z4 := Try.sizeOf4
  v4 := Try.zeroValue4
  t5 := Try.underlying5
  a5 := Try.isAgg5
  z5 := Try.sizeOf5
  v5 := Try.zeroValue5
  t9 := Try.underlying9
  a9 := Try.isAgg9
  z9 := Try.sizeOf9
  v9 := Try.zeroValue9
  t26 := Try.underlying22
  a26 := Try.isAgg22
  z26 := Try.sizeOf22
  v26 := Try.zeroValue22
  t27 := Try.underlying22
  a27 := Try.isAgg22
  z27 := Try.sizeOf22
  v27 := Try.zeroValue22
  t29 := Try.underlying25
  a29 := Try.isAgg25
  z29 := Try.sizeOf25
  v29 := Try.zeroValue25
  t32 := Try.underlying58
  a32 := Try.isAgg58
  z32 := Try.sizeOf58
  v32 := Try.zeroValue58
  t35 := Try.underlying60
  a35 := Try.isAgg60
  z35 := Try.sizeOf60
  v35 := Try.zeroValue60
  t36 := Try.underlying61
  a36 := Try.isAgg61
  z36 := Try.sizeOf61
  v36 := Try.zeroValue61
  t41 := Try.underlying66
  a41 := Try.isAgg66
  z41 := Try.sizeOf66
  v41 := Try.zeroValue66
  t44 := Try.underlying69
  a44 := Try.isAgg69
  z44 := Try.sizeOf69
  v44 := Try.zeroValue69
  t46 := Try.underlying71
  a46 := Try.isAgg71
  z46 := Try.sizeOf71
  v46 := Try.zeroValue71
  t53 := Try.underlying72
  a53 := Try.isAgg72
  z53 := Try.sizeOf72
  v53 := Try.zeroValue72
  t57 := Try.underlying76
  a57 := Try.isAgg76
  z57 := Try.sizeOf76
  v57 := Try.zeroValue76
  t63 := Try.underlying78
  a63 := Try.isAgg78
  z63 := Try.sizeOf78
  v63 := Try.zeroValue78
  t64 := Try.underlying79
  a64 := Try.isAgg79
  z64 := Try.sizeOf79
  v64 := Try.zeroValue79 }
open Go.RowKit Go.Lib Go.Sort in
/-- slices.Sort at []api.Addr. -/
theorem Try.slices_Sort_addr (blk off cap : Nat) (ss : List (List UInt8)) (w : World) (hH : Holds encStr w blk off ss.toArray) (hblk : blk < w.heap.size) (hsz : ss.length < 4611686018427387904) :
    Calls Try.prog 44 #[.slice (some ⟨blk, off, none⟩) ss.length cap] w fun e w' =>
      e = .returned (.tuple #[]) ∧ ∃ n os, w' = grow (putRow encStr (Sort.ahead w n) blk off (ss.mergeSort fun x y => decide (x ≤ y)).toArray) os := AnyM.slices_Sort_string Try.addrSort blk off cap ss w hH hblk hsz
open Go.RowKit Go.Lib Go.Sort in
/-- .. and at no element. -/
theorem Try.slices_Sort_addr_none (p : Option Addr) (cap : Nat) (w : World) :
    Calls Try.prog 44 #[.slice p 0 cap] w fun e w' => e = .returned (.tuple #[]) ∧ w' = w := AnyM.slices_Sort_string_none Try.addrSort p cap w
def Try.addrGrow_ren : Go.Shelf.Ren := ⟨fun | 4 => 48 | n => n, fun | 22 => 22 | 25 => 25 | 3 => 3 | 4 => 4 | 9 => 9 | 20 => 20 | 0 => 0 | n => n, fun | n => n⟩
theorem Try.addrGrow : Go.Proofs.Lays8.n4 Try.prog Try.addrGrow_ren := {
  mixed := by kernel_rfl
  f4 := ⟨Try.f48.name, by decide, Try.func48.trans (congrArg some (by kernel_rfl))⟩
  t0 := Try.underlying0
  a0 := Try.isAgg0
  z0 := Try.sizeOf0
  v0 := Try.zeroValue0
  t3 := Try.underlying3
  a3 := Try.isAgg3
  z3 := Try.sizeOf3
  v3 := Try.zeroValue3
  t4 := Try.underlying4
  a4 := Try.isAgg4
  z4 := Try.sizeOf4
  v4 := Try.zeroValue4
  t9 := Try.underlying9
  a9 := Try.isAgg9
  z9 := Try.sizeOf9
  v9 := Try.zeroValue9
  t20 := Try.underlying20
  a20 := Try.isAgg20
  z20 := Try.sizeOf20
  v20 := Try.zeroValue20
  t22 := Try.underlying22
  a22 := Try.isAgg22
  z22 := Try.sizeOf22
  v22 := Try.zeroValue22 }
open Go.RowKit Go.Lib Go.Sort in
/-- slices.Grow at []api.Addr: the nil slice. -/
theorem Try.slices_Grow_addr (i0 : TypeInfo) (z : Value) (hi0 : Try.prog.info? 25 = some i0) (hz0 : i0.zero = some z) (hs0 : 0 < i0.size)
    (n : Nat) (w : World) (hn : 0 < n) (hbig : n * i0.bytes ≤ 140737488355328) (h63 : n ≤ 4611686018427387904) :
    Calls Try.prog 48 #[.slice none 0 0, .int .i64 n] w fun e w' =>
      e = .returned (.slice (some ⟨w.heap.size, 0, none⟩) 0 (grownCap w (0 + n) 0 25)) ∧
      w' = w.drew.alloc (.cells (([] : List Value).toArray ++ Builtin.zeroCells z.cells (0 + n - 0) ++ Builtin.zeroCells z.cells (grownCap w (0 + n) 0 25 - (0 + n))) 25) :=
  Any8.slices_Grow_grow Try.addrGrow i0 z hi0 hz0 hs0 none 0 0 n [] w (Nat.le_refl _) (by omega) (by simpa using hbig) (by omega) (by simp) (fun _ => rfl) (fun a h => by cases h)
open Go.RowKit Go.Lib Go.Sort in
/-- .. of nothing. -/
theorem Try.slices_Grow_addr_none (w : World) :
    Calls Try.prog 48 #[.slice none 0 0, .int .i64 (0 : Nat)] w fun e w' => e = .returned (.slice none 0 0) ∧ w' = w :=
  Any8.slices_Grow_room Try.addrGrow none 0 0 0 w (Nat.le_refl _) (by omega) (by omega) (by omega)
end Go.Proofs
