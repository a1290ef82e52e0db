/-
  The library's slices.Sort at this program: what it leaves (laid by the shelf's program, in plain words).
-/
import Derived.Shelf.SlGeneric
import Derived.Ground.SlgnProg
import Derived.Shelf.SortG.Plain
import Derived.Shelf.SortG.SortNone
import Derived.Test.YtkdlhpddcpjpaaaProg
namespace Go.Proofs.Ytkdlhpddcpjpaaa
open Go.Shelf
def Try.laysSort_int64_ren : Go.Shelf.Ren := ⟨fun | 53 => 18 | 64 => 20 | 63 => 19 | 78 => 30 | 79 => 31 | 70 => 21 | 71 => 22 | 72 => 23 | 73 => 24 | 74 => 25 | 75 => 26 | 59 => 27 | 76 => 28 | 77 => 29 | 88 => 32 | 89 => 33 | 90 => 34 | 91 => 35 | 92 => 36 | 68 => 37 | 96 => 38 | n => n, fun | 22 => 33 | 23 => 2 | 3 => 3 | 51 => 56 | 0 => 0 | 67 => 66 | 69 => 68 | 4 => 4 | 61 => 59 | 60 => 58 | 44 => 63 | 5 => 5 | 9 => 9 | 75 => 69 | 79 => 73 | 83 => 76 | 84 => 44 | n => n, fun | n => n⟩
theorem Try.laysSort_int64 : Go.Proofs.SlLaysN.n53 Try.prog Try.laysSort_int64_ren := {
  mixed := by kernel_rfl
  f53 := ⟨Try.f18.name, by decide, Try.func18.trans (congrArg some (by kernel_rfl))⟩
  f59 := ⟨Try.f27.name, by decide, Try.func27.trans (congrArg some (by kernel_rfl))⟩
  f63 := ⟨Try.f19.name, by decide, Try.func19.trans (congrArg some (by kernel_rfl))⟩
  f64 := Try.func20.trans (congrArg some (by kernel_rfl))
  f68 := ⟨Try.f37.name, by decide, Try.func37.trans (congrArg some (by kernel_rfl))⟩
  f70 := ⟨Try.f21.name, by decide, Try.func21.trans (congrArg some (by kernel_rfl))⟩
  f71 := ⟨Try.f22.name, by decide, Try.func22.trans (congrArg some (by kernel_rfl))⟩
  f72 := ⟨Try.f23.name, by decide, Try.func23.trans (congrArg some (by kernel_rfl))⟩
  f73 := ⟨Try.f24.name, by decide, Try.func24.trans (congrArg some (by kernel_rfl))⟩
  f74 := ⟨Try.f25.name, by decide, Try.func25.trans (congrArg some (by kernel_rfl))⟩
  f75 := ⟨Try.f26.name, by decide, Try.func26.trans (congrArg some (by kernel_rfl))⟩
  f76 := ⟨Try.f28.name, by decide, Try.func28.trans (congrArg some (by kernel_rfl))⟩
  f77 := ⟨Try.f29.name, by decide, Try.func29.trans (congrArg some (by kernel_rfl))⟩
  f78 := Try.func30.trans (congrArg some (by kernel_rfl))
  f79 := Try.func31.trans (congrArg some (by kernel_rfl))
  f88 := ⟨Try.f32.name, by decide, Try.func32.trans (congrArg some (by kernel_rfl))⟩
  f89 := Try.func33.trans (congrArg some (by kernel_rfl))
  f90 := Try.func34.trans (congrArg some (by kernel_rfl))
  f91 := ⟨Try.f35.name, by decide, Try.func35.trans (congrArg some (by kernel_rfl))⟩
  f92 := ⟨Try.f36.name, by decide, Try.func36.trans (congrArg some (by kernel_rfl))⟩
  f96 := ⟨Try.f38.name, by decide, Try.func38.trans (congrArg some (by kernel_rfl))⟩
  t0 := Try.underlying0
  a0 := Try.isAgg0
  z0 := Try.sizeOf0
  v0 := Try.zeroValue0
  t3 := Try.underlying3
  a3 := Try.isAgg3
  z3 := Try.sizeOf3
  v3 := Try.zeroValue3
  t4 := Try.underlying4
  a4 := Try.isAgg4
  z4 := Try.sizeOf4
  v4 := Try.zeroValue4
  t5 := Try.underlying5
  a5 := Try.isAgg5
  z5 := Try.sizeOf5
  v5 := Try.zeroValue5
  t9 := Try.underlying9
  a9 := Try.isAgg9
  z9 := Try.sizeOf9
  v9 := Try.zeroValue9
  t22 := Try.underlying33
  a22 := Try.isAgg33
  z22 := Try.sizeOf33
  v22 := Try.zeroValue33
  t23 := Try.underlying2
  a23 := Try.isAgg2
  z23 := Try.sizeOf2
  v23 := Try.zeroValue2
  t44 := Try.underlying63
  a44 := Try.isAgg63
  z44 := Try.sizeOf63
  v44 := Try.zeroValue63
  t51 := Try.underlying56
  a51 := Try.isAgg56
  z51 := Try.sizeOf56
  v51 := Try.zeroValue56
  t60 := Try.underlying58
  a60 := Try.isAgg58
  z60 := Try.sizeOf58
  v60 := Try.zeroValue58
  t61 := Try.underlying59
  a61 := Try.isAgg59
  z61 := Try.sizeOf59
  v61 := Try.zeroValue59
  t67 := Try.underlying66
  a67 := Try.isAgg66
  z67 := Try.sizeOf66
  v67 := Try.zeroValue66
  t69 := Try.underlying68
  a69 := Try.isAgg68
  z69 := Try.sizeOf68
  v69 := Try.zeroValue68
  t75 := Try.underlying69
  a75 := Try.isAgg69
  z75 := Try.sizeOf69
  v75 := Try.zeroValue69
  t79 := Try.underlying73
  a79 := Try.isAgg73
  z79 := Try.sizeOf73
  v79 := Try.zeroValue73
  t83 := Try.underlying76
  a83 := Try.isAgg76
  z83 := Try.sizeOf76
  v83 := Try.zeroValue76
  t84 := Try.underlying44
  a84 := Try.isAgg44
  z84 := Try.sizeOf44
  v84 := Try.zeroValue44 }
open Go.Sort Go.RowKit in
/-- the library's sort -/
theorem Try.sort_int64 (blk off cap : Nat) (zs : List Int) (w : World) (hH : Holds (Value.int .i64) w blk off zs.toArray) (hblk : blk < w.heap.size) (hsz : zs.length < 4611686018427387904) :
    Calls Try.prog 18 #[.slice (some ⟨blk, off, none⟩) zs.length cap] w fun e w' => e = .returned (.tuple #[]) ∧ ∃ n os, w' = grow (putRow (Value.int .i64) (Sort.ahead w n) blk off (zs.mergeSort fun x y => decide (x ≤ y)).toArray) os := AnyG.slices_Sort_int Try.laysSort_int64 blk off cap zs w hH hblk hsz
/-- .. of no element -/
theorem Try.sort_int64_none (p : Option Addr) (cap : Nat) (w : World) : Calls Try.prog 18 #[.slice p 0 cap] w fun e w' => e = .returned (.tuple #[]) ∧ w' = w := AnyG.slices_Sort_int_none Try.laysSort_int64 p cap w
end Go.Proofs.Ytkdlhpddcpjpaaa
