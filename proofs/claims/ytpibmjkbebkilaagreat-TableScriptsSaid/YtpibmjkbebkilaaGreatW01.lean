/- Texts joined into one file: StrShelf, IterShelf, TabShelf. -/
import Derived.Shelf.SlGeneric
import Derived.Shelf.SlicesG.Turned
import Derived.Shelf.SlicesG.CompactS
import Derived.Shelf.SortM.Plain
import Derived.Shelf.SortM.SortNone
import Derived.Ground.SlgnProg
import Derived.Ground.SlgmProg
import Derived.Test.YtpibmjkbebkilaaGreatProg
import Derived.Shelf.SlIter.Nil
import Derived.Shelf.SlIter.Sorted
import Derived.Ground.GgzProg
import Derived.Shelf.SlSortCmp.WholeK
import Derived.Shelf.SlSortCmp.NoneTotal
import Derived.Ground.SlsfProg

namespace Go.Proofs
open Go.Shelf
def Tryz.addrContains_ren : Go.Shelf.Ren := ⟨fun | 32 => 115 | 30 => 129 | n => n, fun | 25 => 37 | 26 => 36 | 4 => 4 | 3 => 3 | 0 => 0 | n => n, fun | n => n⟩
theorem Tryz.addrContains : Go.Proofs.SlLaysN.n32 Tryz.prog Tryz.addrContains_ren := {
 mixed := by kernel_rfl
 f30 := ⟨Tryz.f129.name, by decide, Tryz.func129.trans (congrArg some (by kernel_rfl))⟩
 f32 := ⟨Tryz.f115.name, by decide, Tryz.func115.trans (congrArg some (by kernel_rfl))⟩
 t0 := Tryz.underlying0
 a0 := Tryz.isAgg0
 z0 := Tryz.sizeOf0
 v0 := Tryz.zeroValue0
 t3 := Tryz.underlying3
 a3 := Tryz.isAgg3
 z3 := Tryz.sizeOf3
 v3 := Tryz.zeroValue3
 t4 := Tryz.underlying4
 a4 := Tryz.isAgg4
 z4 := Tryz.sizeOf4
 v4 := Tryz.zeroValue4
 t25 := Tryz.underlying37
 a25 := Tryz.isAgg37
 z25 := Tryz.sizeOf37
 v25 := Tryz.zeroValue37
 t26 := Tryz.underlying36
 a26 := Tryz.isAgg36
 z26 := Tryz.sizeOf36
 v26 := Tryz.zeroValue36 }
open Go.RowKit Go.Lib in
theorem Tryz.slices_Contains_addr (b off n c : Nat) (zs : List ByteArray) (x : ByteArray) (w : World) (hz : n ≤ zs.length) (hbig : n ≤ 9223372036854775807) (hc : ∀ j, j < zs.length → w.cell? ⟨b, off + j, none⟩ = some (.string (zs.getD j ByteArray.empty))) :
 Calls Tryz.prog 115 #[.slice (some ⟨b, off, none⟩) n c, .string x] w fun e w' => e = .returned (.bool (Lib.containsS (zs.take n) x)) ∧ w' = w := AnyG.slices_Contains_string Tryz.addrContains b off n c zs x w hz hbig hc
open Go.RowKit Go.Lib in
theorem Tryz.slices_Contains_addr_empty (a : Option Addr) (c : Nat) (x : ByteArray) (w : World) :
 Calls Tryz.prog 115 #[.slice a 0 c, .string x] w fun e w' => e = .returned (.bool false) ∧ w' = w := AnyG.slices_Contains_string_empty Tryz.addrContains a c x w
def Tryz.addrCompact_ren : Go.Shelf.Ren := ⟨fun | 44 => 51 | n => n, fun | 25 => 37 | 26 => 36 | 3 => 3 | 4 => 4 | 0 => 0 | n => n, fun | n => n⟩
theorem Tryz.addrCompact : Go.Proofs.SlLaysN.n44 Tryz.prog Tryz.addrCompact_ren := {
 mixed := by kernel_rfl
 f44 := ⟨Tryz.f51.name, by decide, Tryz.func51.trans (congrArg some (by kernel_rfl))⟩
 t0 := Tryz.underlying0
 a0 := Tryz.isAgg0
 z0 := Tryz.sizeOf0
 v0 := Tryz.zeroValue0
 t3 := Tryz.underlying3
 a3 := Tryz.isAgg3
 z3 := Tryz.sizeOf3
 v3 := Tryz.zeroValue3
 t4 := Tryz.underlying4
 a4 := Tryz.isAgg4
 z4 := Tryz.sizeOf4
 v4 := Tryz.zeroValue4
 t25 := Tryz.underlying37
 a25 := Tryz.isAgg37
 z25 := Tryz.sizeOf37
 v25 := Tryz.zeroValue37
 t26 := Tryz.underlying36
 a26 := Tryz.isAgg36
 z26 := Tryz.sizeOf36
 v26 := Tryz.zeroValue36
 i26 := by kernel_rfl }
open Go.RowKit Go.Lib Go.Sort in
theorem Tryz.slices_Compact_addr (blk off cap : Nat) (zs : List (List UInt8)) (w : World) (hH : Holds encStr w blk off zs.toArray) (hsz : zs.length ≤ 9223372036854775807) (hcap : zs.length ≤ cap) :
 Calls Tryz.prog 51 #[.slice (some ⟨blk, off, none⟩) zs.length cap] w fun e w' => e = .returned (.slice (some ⟨blk, off, none⟩) (Lib.compact zs).length cap) ∧ ∃ q, w' = putRow encStr (Sort.ahead w q) blk off (Lib.compact zs ++ List.replicate (zs.length - (Lib.compact zs).length) []).toArray := AnyG.slices_Compact_string Tryz.addrCompact blk off cap zs w hH hsz hcap
open Go.RowKit Go.Lib Go.Sort in
theorem Tryz.slices_Compact_addr_empty (a : Option Addr) (cap : Nat) (w : World) :
 Calls Tryz.prog 51 #[.slice a 0 cap] w fun e w' => e = .returned (.slice a 0 cap) ∧ w' = w := AnyG.slices_Compact_string_empty Tryz.addrCompact a cap w
def Tryz.addrSort_ren : Go.Shelf.Ren := ⟨fun | 6 => 78 | 8 => 99 | 9 => 98 | 19 => 113 | 20 => 114 | 21 => 104 | 22 => 105 | 23 => 106 | 24 => 107 | 25 => 108 | 26 => 109 | 27 => 110 | 28 => 111 | 29 => 112 | 36 => 124 | 31 => 125 | 32 => 126 | 37 => 127 | 38 => 128 | 39 => 103 | 41 => 133 | n => n, fun | 27 => 37 | 29 => 36 | 3 => 3 | 32 => 104 | 26 => 37 | 0 => 0 | 44 => 160 | 46 => 162 | 4 => 4 | 36 => 153 | 35 => 152 | 41 => 87 | 5 => 5 | 9 => 9 | 53 => 168 | 57 => 172 | 63 => 177 | 64 => 178 | n => n, fun | n => n⟩
theorem Tryz.addrSort : Go.Proofs.SlLaysM.n6 Tryz.prog Tryz.addrSort_ren := {
 mixed := by kernel_rfl
 f6 := ⟨Tryz.f78.name, by decide, Tryz.func78.trans (congrArg some (by kernel_rfl))⟩
 f8 := Tryz.func99.trans (congrArg some (by kernel_rfl))
 f9 := ⟨Tryz.f98.name, by decide, Tryz.func98.trans (congrArg some (by kernel_rfl))⟩
 f19 := Tryz.func113.trans (congrArg some (by kernel_rfl))
 f20 := Tryz.func114.trans (congrArg some (by kernel_rfl))
 f21 := ⟨Tryz.f104.name, by decide, Tryz.func104.trans (congrArg some (by kernel_rfl))⟩
 f22 := ⟨Tryz.f105.name, by decide, Tryz.func105.trans (congrArg some (by kernel_rfl))⟩
 f23 := ⟨Tryz.f106.name, by decide, Tryz.func106.trans (congrArg some (by kernel_rfl))⟩
 f24 := ⟨Tryz.f107.name, by decide, Tryz.func107.trans (congrArg some (by kernel_rfl))⟩
 f25 := ⟨Tryz.f108.name, by decide, Tryz.func108.trans (congrArg some (by kernel_rfl))⟩
 f26 := ⟨Tryz.f109.name, by decide, Tryz.func109.trans (congrArg some (by kernel_rfl))⟩
 f27 := ⟨Tryz.f110.name, by decide, Tryz.func110.trans (congrArg some (by kernel_rfl))⟩
 f28 := ⟨Tryz.f111.name, by decide, Tryz.func111.trans (congrArg some (by kernel_rfl))⟩
 f29 := ⟨Tryz.f112.name, by decide, Tryz.func112.trans (congrArg some (by kernel_rfl))⟩
 f31 := Tryz.func125.trans (congrArg some (by kernel_rfl))
 f32 := Tryz.func126.trans (congrArg some (by kernel_rfl))
 f36 := ⟨Tryz.f124.name, by decide, Tryz.func124.trans (congrArg some (by kernel_rfl))⟩
 f37 := ⟨Tryz.f127.name, by decide, Tryz.func127.trans (congrArg some (by kernel_rfl))⟩
 f38 := ⟨Tryz.f128.name, by decide, Tryz.func128.trans (congrArg some (by kernel_rfl))⟩
 f39 := ⟨Tryz.f103.name, by decide, Tryz.func103.trans (congrArg some (by kernel_rfl))⟩
 f41 := ⟨Tryz.f133.name, by decide, Tryz.func133.trans (congrArg some (by kernel_rfl))⟩
 t0 := Tryz.underlying0
 a0 := Tryz.isAgg0
 z0 := Tryz.sizeOf0
 v0 := Tryz.zeroValue0
 t3 := Tryz.underlying3
 a3 := Tryz.isAgg3
 z3 := Tryz.sizeOf3
 v3 := Tryz.zeroValue3
 t4 := Tryz.underlying4
 a4 := Tryz.isAgg4
 z4 := Tryz.sizeOf4
 v4 := Tryz.zeroValue4
 t5 := Tryz.underlying5
 a5 := Tryz.isAgg5
 z5 := Tryz.sizeOf5
 v5 := Tryz.zeroValue5
 t9 := Tryz.underlying9
 a9 := Tryz.isAgg9
 z9 := Tryz.sizeOf9
 v9 := Tryz.zeroValue9
 t26 := Tryz.underlying37
 a26 := Tryz.isAgg37
 z26 := Tryz.sizeOf37
 v26 := Tryz.zeroValue37
 t27 := Tryz.underlying37
 a27 := Tryz.isAgg37
 z27 := Tryz.sizeOf37
 v27 := Tryz.zeroValue37
 t29 := Tryz.underlying36
 a29 := Tryz.isAgg36
 z29 := Tryz.sizeOf36
 v29 := Tryz.zeroValue36
 t32 := Tryz.underlying104
 a32 := Tryz.isAgg104
 z32 := Tryz.sizeOf104
 v32 := Tryz.zeroValue104
 t35 := Tryz.underlying152
 a35 := Tryz.isAgg152
 z35 := Tryz.sizeOf152
 v35 := Tryz.zeroValue152
 t36 := Tryz.underlying153
 a36 := Tryz.isAgg153
 z36 := Tryz.sizeOf153
 v36 := Tryz.zeroValue153
 t41 := Tryz.underlying87
 a41 := Tryz.isAgg87
 z41 := Tryz.sizeOf87
 v41 := Tryz.zeroValue87
 t44 := Tryz.underlying160
 a44 := Tryz.isAgg160
 z44 := Tryz.sizeOf160
 v44 := Tryz.zeroValue160
 t46 := Tryz.underlying162
 a46 := Tryz.isAgg162
 z46 := Tryz.sizeOf162
 v46 := Tryz.zeroValue162
 t53 := Tryz.underlying168
 a53 := Tryz.isAgg168
 z53 := Tryz.sizeOf168
 v53 := Tryz.zeroValue168
 t57 := Tryz.underlying172
 a57 := Tryz.isAgg172
 z57 := Tryz.sizeOf172
 v57 := Tryz.zeroValue172
 t63 := Tryz.underlying177
 a63 := Tryz.isAgg177
 z63 := Tryz.sizeOf177
 v63 := Tryz.zeroValue177
 t64 := Tryz.underlying178
 a64 := Tryz.isAgg178
 z64 := Tryz.sizeOf178
 v64 := Tryz.zeroValue178 }
open Go.RowKit Go.Lib Go.Sort in
theorem Tryz.slices_Sort_addr (blk off cap : Nat) (ss : List (List UInt8)) (w : World) (hH : Holds encStr w blk off ss.toArray) (hblk : blk < w.heap.size) (hsz : ss.length < 4611686018427387904) :
 Calls Tryz.prog 78 #[.slice (some ⟨blk, off, none⟩) ss.length cap] w fun e w' =>
  e = .returned (.tuple #[]) ∧ ∃ n os, w' = grow (putRow encStr (Sort.ahead w n) blk off (ss.mergeSort fun x y => decide (x ≤ y)).toArray) os := AnyM.slices_Sort_string Tryz.addrSort blk off cap ss w hH hblk hsz
open Go.RowKit Go.Lib Go.Sort in
theorem Tryz.slices_Sort_addr_none (p : Option Addr) (cap : Nat) (w : World) :
 Calls Tryz.prog 78 #[.slice p 0 cap] w fun e w' => e = .returned (.tuple #[]) ∧ w' = w := AnyM.slices_Sort_string_none Tryz.addrSort p cap w

def Tryz.addrKeys_ren : Go.Shelf.Ren := ⟨fun | 7 => 76 | 10 => 96 | n => n, fun | 23 => 107 | 26 => 36 | 3 => 3 | 28 => 115 | 0 => 0 | 27 => 114 | 33 => 89 | 4 => 4 | n => n, fun | n => n⟩
theorem Tryz.addrKeys : Go.Proofs.SlLaysZ.n7 Tryz.prog Tryz.addrKeys_ren := {
 mixed := by kernel_rfl
 f7 := ⟨Tryz.f76.name, by decide, Tryz.func76.trans (congrArg some (by kernel_rfl))⟩
 f10 := ⟨Tryz.f96.name, by decide, Tryz.func96.trans (congrArg some (by kernel_rfl))⟩
 t0 := Tryz.underlying0
 a0 := Tryz.isAgg0
 z0 := Tryz.sizeOf0
 v0 := Tryz.zeroValue0
 t4 := Tryz.underlying4
 a4 := Tryz.isAgg4
 z4 := Tryz.sizeOf4
 v4 := Tryz.zeroValue4
 t23 := Tryz.underlying107
 a23 := Tryz.isAgg107
 z23 := Tryz.sizeOf107
 v23 := Tryz.zeroValue107
 t26 := Tryz.underlying36
 a26 := Tryz.isAgg36
 z26 := Tryz.sizeOf36
 v26 := Tryz.zeroValue36
 t27 := Tryz.underlying114
 a27 := Tryz.isAgg114
 z27 := Tryz.sizeOf114
 v27 := Tryz.zeroValue114
 t28 := Tryz.underlying115
 a28 := Tryz.isAgg115
 z28 := Tryz.sizeOf115
 v28 := Tryz.zeroValue115
 t33 := Tryz.underlying89
 a33 := Tryz.isAgg89
 z33 := Tryz.sizeOf89
 v33 := Tryz.zeroValue89 }
def Tryz.addrSorted_ren : Go.Shelf.Ren := ⟨fun | 6 => 52 | 8 => 77 | 9 => 78 | 11 => 97 | 13 => 99 | 12 => 98 | 23 => 113 | 24 => 114 | 14 => 104 | 15 => 105 | 16 => 106 | 17 => 107 | 18 => 108 | 19 => 109 | 20 => 110 | 21 => 111 | 22 => 112 | 25 => 124 | 26 => 125 | 27 => 126 | 28 => 127 | 29 => 128 | 30 => 103 | 31 => 133 | n => n, fun | 26 => 36 | 28 => 115 | 24 => 37 | 0 => 0 | 3 => 3 | 37 => 104 | 48 => 160 | 50 => 162 | 4 => 4 | 40 => 153 | 39 => 152 | 45 => 87 | 5 => 5 | 9 => 9 | 51 => 168 | 55 => 172 | 57 => 177 | 58 => 178 | 33 => 89 | n => n, fun | n => n⟩
theorem Tryz.addrSorted : Go.Proofs.SlLaysZ.n6 Tryz.prog Tryz.addrSorted_ren := {
 mixed := by kernel_rfl
 f6 := ⟨Tryz.f52.name, by decide, Tryz.func52.trans (congrArg some (by kernel_rfl))⟩
 f8 := ⟨Tryz.f77.name, by decide, Tryz.func77.trans (congrArg some (by kernel_rfl))⟩
 f11 := ⟨Tryz.f97.name, by decide, Tryz.func97.trans (congrArg some (by kernel_rfl))⟩
 t0 := Tryz.underlying0
 a0 := Tryz.isAgg0
 z0 := Tryz.sizeOf0
 v0 := Tryz.zeroValue0
 t24 := Tryz.underlying37
 a24 := Tryz.isAgg37
 z24 := Tryz.sizeOf37
 v24 := Tryz.zeroValue37
 t26 := Tryz.underlying36
 a26 := Tryz.isAgg36
 z26 := Tryz.sizeOf36
 v26 := Tryz.zeroValue36
 t28 := Tryz.underlying115
 a28 := Tryz.isAgg115
 z28 := Tryz.sizeOf115
 v28 := Tryz.zeroValue115
 i26 := by kernel_rfl }

def Tryz.keySort_ren : Go.Shelf.Ren := ⟨fun | 6 => 91 | 15 => 99 | 14 => 101 | 28 => 113 | 29 => 114 | 20 => 116 | 21 => 117 | 22 => 118 | 23 => 119 | 24 => 120 | 25 => 121 | 26 => 122 | 27 => 123 | 46 => 130 | 47 => 125 | 48 => 126 | 49 => 131 | 50 => 132 | 57 => 134 | n => n, fun | 22 => 67 | 24 => 65 | 25 => 129 | 3 => 3 | 39 => 104 | 0 => 0 | 53 => 160 | 55 => 162 | 4 => 4 | 46 => 153 | 45 => 152 | 50 => 87 | 5 => 5 | 9 => 9 | 66 => 168 | 70 => 172 | 76 => 177 | 77 => 178 | n => n, fun | n => n⟩
theorem Tryz.keySort : Go.Proofs.SlLaysF0.n6 Tryz.prog Tryz.keySort_ren := {
 mixed := by kernel_rfl
 f6 := ⟨Tryz.f91.name, by decide, Tryz.func91.trans (congrArg some (by kernel_rfl))⟩
 f14 := ⟨Tryz.f101.name, by decide, Tryz.func101.trans (congrArg some (by kernel_rfl))⟩
 f15 := Tryz.func99.trans (congrArg some (by kernel_rfl))
 f20 := ⟨Tryz.f116.name, by decide, Tryz.func116.trans (congrArg some (by kernel_rfl))⟩
 f21 := ⟨Tryz.f117.name, by decide, Tryz.func117.trans (congrArg some (by kernel_rfl))⟩
 f22 := ⟨Tryz.f118.name, by decide, Tryz.func118.trans (congrArg some (by kernel_rfl))⟩
 f23 := ⟨Tryz.f119.name, by decide, Tryz.func119.trans (congrArg some (by kernel_rfl))⟩
 f24 := ⟨Tryz.f120.name, by decide, Tryz.func120.trans (congrArg some (by kernel_rfl))⟩
 f25 := ⟨Tryz.f121.name, by decide, Tryz.func121.trans (congrArg some (by kernel_rfl))⟩
 f26 := ⟨Tryz.f122.name, by decide, Tryz.func122.trans (congrArg some (by kernel_rfl))⟩
 f27 := ⟨Tryz.f123.name, by decide, Tryz.func123.trans (congrArg some (by kernel_rfl))⟩
 f28 := Tryz.func113.trans (congrArg some (by kernel_rfl))
 f29 := Tryz.func114.trans (congrArg some (by kernel_rfl))
 f46 := ⟨Tryz.f130.name, by decide, Tryz.func130.trans (congrArg some (by kernel_rfl))⟩
 f47 := Tryz.func125.trans (congrArg some (by kernel_rfl))
 f48 := Tryz.func126.trans (congrArg some (by kernel_rfl))
 f49 := ⟨Tryz.f131.name, by decide, Tryz.func131.trans (congrArg some (by kernel_rfl))⟩
 f50 := ⟨Tryz.f132.name, by decide, Tryz.func132.trans (congrArg some (by kernel_rfl))⟩
 f57 := ⟨Tryz.f134.name, by decide, Tryz.func134.trans (congrArg some (by kernel_rfl))⟩
 t0 := Tryz.underlying0
 a0 := Tryz.isAgg0
 z0 := Tryz.sizeOf0
 v0 := Tryz.zeroValue0
 t3 := Tryz.underlying3
 a3 := Tryz.isAgg3
 z3 := Tryz.sizeOf3
 v3 := Tryz.zeroValue3
 t4 := Tryz.underlying4
 a4 := Tryz.isAgg4
 z4 := Tryz.sizeOf4
 v4 := Tryz.zeroValue4
 t5 := Tryz.underlying5
 a5 := Tryz.isAgg5
 z5 := Tryz.sizeOf5
 v5 := Tryz.zeroValue5
 t9 := Tryz.underlying9
 a9 := Tryz.isAgg9
 z9 := Tryz.sizeOf9
 v9 := Tryz.zeroValue9
 t22 := Tryz.underlying67
 a22 := Tryz.isAgg67
 z22 := Tryz.sizeOf67
 v22 := Tryz.zeroValue67
 t25 := Tryz.underlying129
 a25 := Tryz.isAgg129
 z25 := Tryz.sizeOf129
 v25 := Tryz.zeroValue129
 t39 := Tryz.underlying104
 a39 := Tryz.isAgg104
 z39 := Tryz.sizeOf104
 v39 := Tryz.zeroValue104
 t45 := Tryz.underlying152
 a45 := Tryz.isAgg152
 z45 := Tryz.sizeOf152
 v45 := Tryz.zeroValue152
 t46 := Tryz.underlying153
 a46 := Tryz.isAgg153
 z46 := Tryz.sizeOf153
 v46 := Tryz.zeroValue153
 t50 := Tryz.underlying87
 a50 := Tryz.isAgg87
 z50 := Tryz.sizeOf87
 v50 := Tryz.zeroValue87
 t53 := Tryz.underlying160
 a53 := Tryz.isAgg160
 z53 := Tryz.sizeOf160
 v53 := Tryz.zeroValue160
 t55 := Tryz.underlying162
 a55 := Tryz.isAgg162
 z55 := Tryz.sizeOf162
 v55 := Tryz.zeroValue162
 t66 := Tryz.underlying168
 a66 := Tryz.isAgg168
 z66 := Tryz.sizeOf168
 v66 := Tryz.zeroValue168
 t70 := Tryz.underlying172
 a70 := Tryz.isAgg172
 z70 := Tryz.sizeOf172
 v70 := Tryz.zeroValue172
 t76 := Tryz.underlying177
 a76 := Tryz.isAgg177
 z76 := Tryz.sizeOf177
 v76 := Tryz.zeroValue177
 t77 := Tryz.underlying178
 a77 := Tryz.isAgg178
 z77 := Tryz.sizeOf178
 v77 := Tryz.zeroValue178 }
end Go.Proofs
