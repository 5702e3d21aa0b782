import Derived.Shelf.SlIter.Nil
import Derived.Shelf.SortM.Plain
import Derived.Shelf.SortM.SortNone
import Derived.KernelRfl
import Derived.Test.YthbkkpahoolhbaaGreatDoorProg
set_option linter.unusedSimpArgs false
set_option linter.unusedVariables false
set_option linter.unusedSectionVars false
namespace Go.Proofs
open Go.RowKit Go.Maps Go.Sort Go.Shelf
def Tryz.keys26_ren : Go.Shelf.Ren := ⟨fun | 7 => 26 | 10 => 69 | n => n, fun | 23 => 39 | 26 => 9 | 3 => 67 | 28 => 89 | 0 => 0 | 27 => 88 | 33 => 76 | 4 => 4 | n => n, fun | n => n⟩
theorem Tryz.keys26 : Go.Proofs.SlLaysZ.n7 Tryz.prog Tryz.keys26_ren where
  mixed := by kernel_rfl
  f7 := ⟨ "maps.Keys[map[string]obelus/formula.Node,string,obelus/formula.Node]", by decide, Tryz.func26.trans (congrArg some (by kernel_rfl))⟩
  f10 := ⟨ "maps.Keys[map[string]obelus/formula.Node,string,obelus/formula.Node]$1", by decide, Tryz.func69.trans (congrArg some (by kernel_rfl))⟩
  t0 := Tryz.underlying0
  a0 := Tryz.isAgg0
  z0 := Tryz.sizeOf0
  v0 := Tryz.zeroValue0
  t4 := Tryz.underlying4
  a4 := Tryz.isAgg4
  z4 := Tryz.sizeOf4
  v4 := Tryz.zeroValue4
  t23 := Tryz.underlying39
  a23 := Tryz.isAgg39
  z23 := Tryz.sizeOf39
  v23 := Tryz.zeroValue39
  t26 := Tryz.underlying9
  a26 := Tryz.isAgg9
  z26 := Tryz.sizeOf9
  v26 := Tryz.zeroValue9
  t27 := Tryz.underlying88
  a27 := Tryz.isAgg88
  z27 := Tryz.sizeOf88
  v27 := Tryz.zeroValue88
  t28 := Tryz.underlying89
  a28 := Tryz.isAgg89
  z28 := Tryz.sizeOf89
  v28 := Tryz.zeroValue89
  t33 := Tryz.underlying76
  a33 := Tryz.isAgg76
  z33 := Tryz.sizeOf76
  v33 := Tryz.zeroValue76
def Tryz.sorted25_ren : Go.Shelf.Ren := ⟨fun | 6 => 25 | 8 => 67 | 9 => 68 | 11 => 110 | 13 => 112 | 12 => 111 | 23 => 160 | 24 => 161 | 14 => 151 | 15 => 152 | 16 => 153 | 17 => 154 | 18 => 155 | 19 => 156 | 20 => 157 | 21 => 158 | 22 => 159 | 25 => 208 | 26 => 209 | 27 => 210 | 28 => 211 | 29 => 212 | 30 => 213 | 31 => 271 | n => n, fun | 26 => 9 | 28 => 89 | 24 => 32 | 0 => 0 | 3 => 3 | 37 => 198 | 48 => 253 | 50 => 255 | 4 => 4 | 40 => 247 | 39 => 246 | 45 => 233 | 5 => 5 | 9 => 9 | 51 => 307 | 55 => 311 | 57 => 383 | 58 => 384 | 33 => 76 | n => n, fun | n => n⟩
theorem Tryz.sorted25 : Go.Proofs.SlLaysZ.n6 Tryz.prog Tryz.sorted25_ren where
  mixed := by kernel_rfl
  f6 := ⟨ "slices.Sorted[string]", by decide, Tryz.func25.trans (congrArg some (by kernel_rfl))⟩
  f8 := ⟨ "slices.Collect[string]", by decide, Tryz.func67.trans (congrArg some (by kernel_rfl))⟩
  f11 := ⟨ "slices.AppendSeq[[]string,string]", by decide, Tryz.func110.trans (congrArg some (by kernel_rfl))⟩
  t0 := Tryz.underlying0
  a0 := Tryz.isAgg0
  z0 := Tryz.sizeOf0
  v0 := Tryz.zeroValue0
  t24 := Tryz.underlying32
  a24 := Tryz.isAgg32
  z24 := Tryz.sizeOf32
  v24 := Tryz.zeroValue32
  t26 := Tryz.underlying9
  a26 := Tryz.isAgg9
  z26 := Tryz.sizeOf9
  v26 := Tryz.zeroValue9
  t28 := Tryz.underlying89
  a28 := Tryz.isAgg89
  z28 := Tryz.sizeOf89
  v28 := Tryz.zeroValue89
  i26 := by kernel_rfl
def Tryz.sort68_ren : Go.Shelf.Ren := ⟨fun | 6 => 68 | 8 => 112 | 9 => 111 | 19 => 160 | 20 => 161 | 21 => 151 | 22 => 152 | 23 => 153 | 24 => 154 | 25 => 155 | 26 => 156 | 27 => 157 | 28 => 158 | 29 => 159 | 36 => 208 | 31 => 209 | 32 => 210 | 37 => 211 | 38 => 212 | 39 => 213 | 41 => 271 | n => n, fun | 27 => 32 | 29 => 9 | 3 => 3 | 32 => 198 | 26 => 32 | 0 => 0 | 44 => 253 | 46 => 255 | 4 => 4 | 36 => 247 | 35 => 246 | 41 => 233 | 5 => 5 | 9 => 9 | 53 => 307 | 57 => 311 | 63 => 383 | 64 => 384 | n => n, fun | n => n⟩
theorem Tryz.sort68 : Go.Proofs.SlLaysM.n6 Tryz.prog Tryz.sort68_ren where
  mixed := by kernel_rfl
  f6 := ⟨ "slices.Sort[[]string,string]", by decide, Tryz.func68.trans (congrArg some (by kernel_rfl))⟩
  f8 := Tryz.func112.trans (congrArg some (by kernel_rfl))
  f9 := ⟨ "slices.pdqsortOrdered[string]", by decide, Tryz.func111.trans (congrArg some (by kernel_rfl))⟩
  f19 := Tryz.func160.trans (congrArg some (by kernel_rfl))
  f20 := Tryz.func161.trans (congrArg some (by kernel_rfl))
  f21 := ⟨ "slices.insertionSortOrdered[string]", by decide, Tryz.func151.trans (congrArg some (by kernel_rfl))⟩
  f22 := ⟨ "slices.heapSortOrdered[string]", by decide, Tryz.func152.trans (congrArg some (by kernel_rfl))⟩
  f23 := ⟨ "slices.breakPatternsOrdered[string]", by decide, Tryz.func153.trans (congrArg some (by kernel_rfl))⟩
  f24 := ⟨ "slices.choosePivotOrdered[string]", by decide, Tryz.func154.trans (congrArg some (by kernel_rfl))⟩
  f25 := ⟨ "slices.reverseRangeOrdered[string]", by decide, Tryz.func155.trans (congrArg some (by kernel_rfl))⟩
  f26 := ⟨ "slices.partialInsertionSortOrdered[string]", by decide, Tryz.func156.trans (congrArg some (by kernel_rfl))⟩
  f27 := ⟨ "cmp.Less[string]", by decide, Tryz.func157.trans (congrArg some (by kernel_rfl))⟩
  f28 := ⟨ "slices.partitionEqualOrdered[string]", by decide, Tryz.func158.trans (congrArg some (by kernel_rfl))⟩
  f29 := ⟨ "slices.partitionOrdered[string]", by decide, Tryz.func159.trans (congrArg some (by kernel_rfl))⟩
  f31 := Tryz.func209.trans (congrArg some (by kernel_rfl))
  f32 := Tryz.func210.trans (congrArg some (by kernel_rfl))
  f36 := ⟨ "slices.siftDownOrdered[string]", by decide, Tryz.func208.trans (congrArg some (by kernel_rfl))⟩
  f37 := ⟨ "slices.medianAdjacentOrdered[string]", by decide, Tryz.func211.trans (congrArg some (by kernel_rfl))⟩
  f38 := ⟨ "slices.medianOrdered[string]", by decide, Tryz.func212.trans (congrArg some (by kernel_rfl))⟩
  f39 := ⟨ "cmp.isNaN[string]", by decide, Tryz.func213.trans (congrArg some (by kernel_rfl))⟩
  f41 := ⟨ "slices.order2Ordered[string]", by decide, Tryz.func271.trans (congrArg some (by kernel_rfl))⟩
  t0 := Tryz.underlying0
  a0 := Tryz.isAgg0
  z0 := Tryz.sizeOf0
  v0 := Tryz.zeroValue0
  t3 := Tryz.underlying3
  a3 := Tryz.isAgg3
  z3 := Tryz.sizeOf3
  v3 := Tryz.zeroValue3
  t4 := Tryz.underlying4
  a4 := Tryz.isAgg4
  z4 := Tryz.sizeOf4
  v4 := Tryz.zeroValue4
  t5 := Tryz.underlying5
  a5 := Tryz.isAgg5
  z5 := Tryz.sizeOf5
  v5 := Tryz.zeroValue5
  t9 := Tryz.underlying9
  a9 := Tryz.isAgg9
  z9 := Tryz.sizeOf9
  v9 := Tryz.zeroValue9
  t26 := Tryz.underlying32
  a26 := Tryz.isAgg32
  z26 := Tryz.sizeOf32
  v26 := Tryz.zeroValue32
  t27 := Tryz.underlying32
  a27 := Tryz.isAgg32
  z27 := Tryz.sizeOf32
  v27 := Tryz.zeroValue32
  t29 := Tryz.underlying9
  a29 := Tryz.isAgg9
  z29 := Tryz.sizeOf9
  v29 := Tryz.zeroValue9
  t32 := Tryz.underlying198
  a32 := Tryz.isAgg198
  z32 := Tryz.sizeOf198
  v32 := Tryz.zeroValue198
  t35 := Tryz.underlying246
  a35 := Tryz.isAgg246
  z35 := Tryz.sizeOf246
  v35 := Tryz.zeroValue246
  t36 := Tryz.underlying247
  a36 := Tryz.isAgg247
  z36 := Tryz.sizeOf247
  v36 := Tryz.zeroValue247
  t41 := Tryz.underlying233
  a41 := Tryz.isAgg233
  z41 := Tryz.sizeOf233
  v41 := Tryz.zeroValue233
  t44 := Tryz.underlying253
  a44 := Tryz.isAgg253
  z44 := Tryz.sizeOf253
  v44 := Tryz.zeroValue253
  t46 := Tryz.underlying255
  a46 := Tryz.isAgg255
  z46 := Tryz.sizeOf255
  v46 := Tryz.zeroValue255
  t53 := Tryz.underlying307
  a53 := Tryz.isAgg307
  z53 := Tryz.sizeOf307
  v53 := Tryz.zeroValue307
  t57 := Tryz.underlying311
  a57 := Tryz.isAgg311
  z57 := Tryz.sizeOf311
  v57 := Tryz.zeroValue311
  t63 := Tryz.underlying383
  a63 := Tryz.isAgg383
  z63 := Tryz.sizeOf383
  v63 := Tryz.zeroValue383
  t64 := Tryz.underlying384
  a64 := Tryz.isAgg384
  z64 := Tryz.sizeOf384
  v64 := Tryz.zeroValue384
def Tryz.keys64_ren : Go.Shelf.Ren := ⟨fun | 7 => 64 | 10 => 108 | n => n, fun | 23 => 92 | 26 => 9 | 3 => 4 | 28 => 89 | 0 => 0 | 27 => 88 | 33 => 76 | 4 => 4 | n => n, fun | n => n⟩
theorem Tryz.keys64 : Go.Proofs.SlLaysZ.n7 Tryz.prog Tryz.keys64_ren where
  mixed := by kernel_rfl
  f7 := ⟨ "maps.Keys[map[string]bool,string,bool]", by decide, Tryz.func64.trans (congrArg some (by kernel_rfl))⟩
  f10 := ⟨ "maps.Keys[map[string]bool,string,bool]$1", by decide, Tryz.func108.trans (congrArg some (by kernel_rfl))⟩
  t0 := Tryz.underlying0
  a0 := Tryz.isAgg0
  z0 := Tryz.sizeOf0
  v0 := Tryz.zeroValue0
  t4 := Tryz.underlying4
  a4 := Tryz.isAgg4
  z4 := Tryz.sizeOf4
  v4 := Tryz.zeroValue4
  t23 := Tryz.underlying92
  a23 := Tryz.isAgg92
  z23 := Tryz.sizeOf92
  v23 := Tryz.zeroValue92
  t26 := Tryz.underlying9
  a26 := Tryz.isAgg9
  z26 := Tryz.sizeOf9
  v26 := Tryz.zeroValue9
  t27 := Tryz.underlying88
  a27 := Tryz.isAgg88
  z27 := Tryz.sizeOf88
  v27 := Tryz.zeroValue88
  t28 := Tryz.underlying89
  a28 := Tryz.isAgg89
  z28 := Tryz.sizeOf89
  v28 := Tryz.zeroValue89
  t33 := Tryz.underlying76
  a33 := Tryz.isAgg76
  z33 := Tryz.sizeOf76
  v33 := Tryz.zeroValue76

theorem Tryz.sorts25 (m : Nat) : AnyZ.SortsIn Tryz.prog Tryz.sorted25_ren Fence.wide m :=
  ⟨fun blk off cap ss W hH hblk hsz => callsIn_wide.2 (AnyM.slices_Sort_string Tryz.sort68 blk off cap ss W hH hblk hsz),
   fun p cap W => callsIn_wide.2 (AnyM.slices_Sort_string_none Tryz.sort68 p cap W)⟩
end Go.Proofs

