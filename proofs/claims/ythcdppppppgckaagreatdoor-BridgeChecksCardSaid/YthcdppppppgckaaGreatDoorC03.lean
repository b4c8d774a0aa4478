/- Texts joined into one file: TrimShelf. -/
import Derived.Shelf.Strings.Trim
import Derived.Shelf.Small.Utf8
import Derived.Shelf.Small.Bits
import Derived.Shelf.Small.Strs
import Derived.Shelf.Small.Wraps
import Derived.Shelf.Strconv.Itoa0
import Derived.Shelf.Strings.Search1
import Derived.Shelf.Sort.Plain
import Derived.Shelf.Strings.Prefix
import Derived.Shelf.Strings.Runes
import Derived.Shelf.Strings.AsciiSet
import Derived.Shelf.Unicode.DecodeSlow
import Derived.Shelf.Unicode.DecodeAny
import Derived.Shelf.Unicode.DecodeLast
import Derived.Shelf.Slices.Turned
import Derived.Ground.Names2Prog
import Derived.Shelf.Slices.Clone
import Derived.Shelf.Slices.CompactI
import Derived.Shelf.Slices.SearchI
import Derived.Shelf.Slices.Cells
import Derived.Shelf.Slices.In.SortNone
import Derived.Ground.SlgnProg
import Derived.Shelf.SlicesE.Clone
import Derived.Ground.SlsfProg
import Derived.Shelf.SlSortCmp.Insertion
import Derived.Shelf.SlSortCmp.SiftDown1
import Derived.Shelf.SlSortCmp.HeapSort1
import Derived.Shelf.SlSortCmp.Insertion1
import Derived.Shelf.SlSortCmp.Median1
import Derived.Shelf.SlSortCmp.Pivot1
import Derived.Shelf.SlSortCmp.ReverseRange1
import Derived.Shelf.SlSortCmp.PartialInsertion1
import Derived.Shelf.SlSortCmp.PartitionEqual1
import Derived.Shelf.SlSortCmp.Partition1
import Derived.Shelf.SlSortCmp.Pdq1
import Derived.Shelf.SlSortCmp.Whole1
import Derived.Shelf.SlSortCmp.NoneTotal
import Derived.Test.YthcdppppppgckaaGreatDoorProg

namespace Go.Proofs
open Go.Shelf
def Tryz.lays160_ren : Go.Shelf.Ren := ⟨fun | 160 => 150 | 232 => 222 | 231 => 221 | 227 => 223 | 234 => 225 | 233 => 224 | 236 => 227 | 235 => 226 | 228 => 267 | 271 => 270 | 151 => 269 | 197 => 268 | 120 => 316 | 152 => 315 | 260 => 314 | 137 => 348 | 119 => 349 | 224 => 350 | 225 => 351 | 217 => 371 | 266 => 378 | n => n, fun | 9 => 9 | 4 => 4 | 3 => 3 | 5 => 5 | 117 => 328 | 116 => 327 | 0 => 0 | 124 => 331 | 21 => 21 | 105 => 386 | 46 => 193 | 119 => 441 | 139 => 444 | 138 => 443 | n => n, fun | 3 => 0 | 4 => 1 | n => n⟩
theorem Tryz.lays160 : Go.Proofs.Lays.n160 Tryz.prog Tryz.lays160_ren := {
 mixed := by kernel_rfl
 f119 := Tryz.func349.trans (congrArg some (by kernel_rfl))
 f120 := Tryz.func316.trans (congrArg some (by kernel_rfl))
 f137 := Tryz.func348.trans (congrArg some (by kernel_rfl))
 f151 := Tryz.func269.trans (congrArg some (by kernel_rfl))
 f152 := Tryz.func315.trans (congrArg some (by kernel_rfl))
 f160 := Tryz.func150.trans (congrArg some (by kernel_rfl))
 f197 := Tryz.func268.trans (congrArg some (by kernel_rfl))
 f217 := Tryz.func371.trans (congrArg some (by kernel_rfl))
 f224 := Tryz.func350.trans (congrArg some (by kernel_rfl))
 f225 := Tryz.func351.trans (congrArg some (by kernel_rfl))
 f227 := Tryz.func223.trans (congrArg some (by kernel_rfl))
 f228 := Tryz.func267.trans (congrArg some (by kernel_rfl))
 f231 := Tryz.func221.trans (congrArg some (by kernel_rfl))
 f232 := Tryz.func222.trans (congrArg some (by kernel_rfl))
 f233 := Tryz.func224.trans (congrArg some (by kernel_rfl))
 f234 := Tryz.func225.trans (congrArg some (by kernel_rfl))
 f235 := Tryz.func226.trans (congrArg some (by kernel_rfl))
 f236 := Tryz.func227.trans (congrArg some (by kernel_rfl))
 f260 := Tryz.func314.trans (congrArg some (by kernel_rfl))
 f266 := Tryz.func378.trans (congrArg some (by kernel_rfl))
 f271 := Tryz.func270.trans (congrArg some (by kernel_rfl))
 t0 := Tryz.underlying0
 a0 := Tryz.isAgg0
 z0 := Tryz.sizeOf0
 v0 := Tryz.zeroValue0
 t3 := Tryz.underlying3
 a3 := Tryz.isAgg3
 z3 := Tryz.sizeOf3
 v3 := Tryz.zeroValue3
 t4 := Tryz.underlying4
 a4 := Tryz.isAgg4
 z4 := Tryz.sizeOf4
 v4 := Tryz.zeroValue4
 t5 := Tryz.underlying5
 a5 := Tryz.isAgg5
 z5 := Tryz.sizeOf5
 v5 := Tryz.zeroValue5
 t9 := Tryz.underlying9
 a9 := Tryz.isAgg9
 z9 := Tryz.sizeOf9
 v9 := Tryz.zeroValue9
 t21 := Tryz.underlying21
 a21 := Tryz.isAgg21
 z21 := Tryz.sizeOf21
 v21 := Tryz.zeroValue21
 t46 := Tryz.underlying193
 a46 := Tryz.isAgg193
 z46 := Tryz.sizeOf193
 v46 := Tryz.zeroValue193
 t105 := Tryz.underlying386
 a105 := Tryz.isAgg386
 z105 := Tryz.sizeOf386
 v105 := Tryz.zeroValue386
 t116 := Tryz.underlying327
 a116 := Tryz.isAgg327
 z116 := Tryz.sizeOf327
 t117 := Tryz.underlying328
 a117 := Tryz.isAgg328
 z117 := Tryz.sizeOf328
 v117 := Tryz.zeroValue328
 t119 := Tryz.underlying441
 a119 := Tryz.isAgg441
 z119 := Tryz.sizeOf441
 t124 := Tryz.underlying331
 a124 := Tryz.isAgg331
 z124 := Tryz.sizeOf331
 v124 := Tryz.zeroValue331
 t138 := Tryz.underlying443
 a138 := Tryz.isAgg443
 z138 := Tryz.sizeOf443
 v138 := Tryz.zeroValue443
 t139 := Tryz.underlying444
 a139 := Tryz.isAgg444
 z139 := Tryz.sizeOf444
 v139 := Tryz.zeroValue444
 g3 := by kernel_rfl
 g4 := by kernel_rfl }
open Go.RowKit in
theorem Tryz.strings_Trim_one (s : ByteArray) (c : UInt8) (hc : c.toNat < 128) (w : World) (hs : s.size ≤ 9223372036854775807) :
 Calls Tryz.prog 150 #[.string s, .string ⟨#[c]⟩] w fun e w' => e = .returned (.string ⟨(Lib.trimB s.data.toList c).toArray⟩) ∧ (w' = w ∨ w' = w.drew) := Any.strings_Trim_one Tryz.lays160 s c hc w hs
end Go.Proofs
