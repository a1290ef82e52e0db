/-
  The library's slices.Sort at this program: what it leaves (laid by the shelf's program, in plain words).
-/
import Derived.Shelf.SlGeneric
import Derived.Ground.SlgnProg
import Derived.Shelf.SortG.Plain
import Derived.Shelf.SortG.SortNone
import Derived.Test.YtacedeaopgbdhaaProg
namespace Go.Proofs.Ytacedeaopgbdhaa
open Go.Shelf
def Try.laysSort_int_ren : Go.Shelf.Ren := ⟨fun | 53 => 30 | 64 => 44 | 63 => 43 | 78 => 61 | 79 => 62 | 70 => 52 | 71 => 53 | 72 => 54 | 73 => 55 | 74 => 56 | 75 => 57 | 59 => 58 | 76 => 59 | 77 => 60 | 88 => 63 | 89 => 64 | 90 => 65 | 91 => 66 | 92 => 67 | 68 => 68 | 96 => 69 | n => n, fun | 22 => 40 | 23 => 3 | 3 => 3 | 51 => 23 | 0 => 0 | 67 => 111 | 69 => 41 | 4 => 4 | 61 => 104 | 60 => 103 | 44 => 108 | 5 => 5 | 9 => 9 | 75 => 115 | 79 => 119 | 83 => 122 | 84 => 123 | n => n, fun | n => n⟩
theorem Try.laysSort_int : Go.Proofs.SlLaysN.n53 Try.prog Try.laysSort_int_ren := {
  mixed := by kernel_rfl
  f53 := ⟨Try.f30.name, by decide, Try.func30.trans (congrArg some (by kernel_rfl))⟩
  f59 := ⟨Try.f58.name, by decide, Try.func58.trans (congrArg some (by kernel_rfl))⟩
  f63 := ⟨Try.f43.name, by decide, Try.func43.trans (congrArg some (by kernel_rfl))⟩
  f64 := Try.func44.trans (congrArg some (by kernel_rfl))
  f68 := ⟨Try.f68.name, by decide, Try.func68.trans (congrArg some (by kernel_rfl))⟩
  f70 := ⟨Try.f52.name, by decide, Try.func52.trans (congrArg some (by kernel_rfl))⟩
  f71 := ⟨Try.f53.name, by decide, Try.func53.trans (congrArg some (by kernel_rfl))⟩
  f72 := ⟨Try.f54.name, by decide, Try.func54.trans (congrArg some (by kernel_rfl))⟩
  f73 := ⟨Try.f55.name, by decide, Try.func55.trans (congrArg some (by kernel_rfl))⟩
  f74 := ⟨Try.f56.name, by decide, Try.func56.trans (congrArg some (by kernel_rfl))⟩
  f75 := ⟨Try.f57.name, by decide, Try.func57.trans (congrArg some (by kernel_rfl))⟩
  f76 := ⟨Try.f59.name, by decide, Try.func59.trans (congrArg some (by kernel_rfl))⟩
  f77 := ⟨Try.f60.name, by decide, Try.func60.trans (congrArg some (by kernel_rfl))⟩
  f78 := Try.func61.trans (congrArg some (by kernel_rfl))
  f79 := Try.func62.trans (congrArg some (by kernel_rfl))
  f88 := ⟨Try.f63.name, by decide, Try.func63.trans (congrArg some (by kernel_rfl))⟩
  f89 := Try.func64.trans (congrArg some (by kernel_rfl))
  f90 := Try.func65.trans (congrArg some (by kernel_rfl))
  f91 := ⟨Try.f66.name, by decide, Try.func66.trans (congrArg some (by kernel_rfl))⟩
  f92 := ⟨Try.f67.name, by decide, Try.func67.trans (congrArg some (by kernel_rfl))⟩
  f96 := ⟨Try.f69.name, by decide, Try.func69.trans (congrArg some (by kernel_rfl))⟩
  t0 := Try.underlying0
  a0 := Try.isAgg0
  z0 := Try.sizeOf0
  v0 := Try.zeroValue0
  t3 := Try.underlying3
  a3 := Try.isAgg3
  z3 := Try.sizeOf3
  v3 := Try.zeroValue3
  t4 := Try.underlying4
  a4 := Try.isAgg4
  z4 := Try.sizeOf4
  v4 := Try.zeroValue4
  t5 := Try.underlying5
  a5 := Try.isAgg5
  z5 := Try.sizeOf5
  v5 := Try.zeroValue5
  t9 := Try.underlying9
  a9 := Try.isAgg9
  z9 := Try.sizeOf9
  v9 := Try.zeroValue9
  t22 := Try.underlying40
  a22 := Try.isAgg40
  z22 := Try.sizeOf40
  v22 := Try.zeroValue40
  t23 := Try.underlying3
  a23 := Try.isAgg3
  z23 := Try.sizeOf3
  v23 := Try.zeroValue3
  t44 := Try.underlying108
  a44 := Try.isAgg108
  z44 := Try.sizeOf108
  v44 := Try.zeroValue108
  t51 := Try.underlying23
  a51 := Try.isAgg23
  z51 := Try.sizeOf23
  v51 := Try.zeroValue23
  t60 := Try.underlying103
  a60 := Try.isAgg103
  z60 := Try.sizeOf103
  v60 := Try.zeroValue103
  t61 := Try.underlying104
  a61 := Try.isAgg104
  z61 := Try.sizeOf104
  v61 := Try.zeroValue104
  t67 := Try.underlying111
  a67 := Try.isAgg111
  z67 := Try.sizeOf111
  v67 := Try.zeroValue111
  t69 := Try.underlying41
  a69 := Try.isAgg41
  z69 := Try.sizeOf41
  v69 := Try.zeroValue41
  t75 := Try.underlying115
  a75 := Try.isAgg115
  z75 := Try.sizeOf115
  v75 := Try.zeroValue115
  t79 := Try.underlying119
  a79 := Try.isAgg119
  z79 := Try.sizeOf119
  v79 := Try.zeroValue119
  t83 := Try.underlying122
  a83 := Try.isAgg122
  z83 := Try.sizeOf122
  v83 := Try.zeroValue122
  t84 := Try.underlying123
  a84 := Try.isAgg123
  z84 := Try.sizeOf123
  v84 := Try.zeroValue123 }
open Go.Sort Go.RowKit in
/-- the library's sort -/
theorem Try.sort_int (blk off cap : Nat) (zs : List Int) (w : World) (hH : Holds (Value.int .i64) w blk off zs.toArray) (hblk : blk < w.heap.size) (hsz : zs.length < 4611686018427387904) :
    Calls Try.prog 30 #[.slice (some ⟨blk, off, none⟩) zs.length cap] w fun e w' => e = .returned (.tuple #[]) ∧ ∃ n os, w' = grow (putRow (Value.int .i64) (Sort.ahead w n) blk off (zs.mergeSort fun x y => decide (x ≤ y)).toArray) os := AnyG.slices_Sort_int Try.laysSort_int blk off cap zs w hH hblk hsz
/-- .. of no element -/
theorem Try.sort_int_none (p : Option Addr) (cap : Nat) (w : World) : Calls Try.prog 30 #[.slice p 0 cap] w fun e w' => e = .returned (.tuple #[]) ∧ w' = w := AnyG.slices_Sort_int_none Try.laysSort_int p cap w
end Go.Proofs.Ytacedeaopgbdhaa
