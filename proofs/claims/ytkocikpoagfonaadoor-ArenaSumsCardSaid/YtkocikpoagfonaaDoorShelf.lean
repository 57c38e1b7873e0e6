/-
  DERIVED: THE SHELF's CONTRACTS AT THIS DUMP, IN PLAIN WORDS (tools/lay-plain.mjs out of 'TrydShelf.lean', which tools/lay-shelf.mjs wrote): THE SAME DECLARATIONS UNDER THE SAME NAMES: 'import', 'namespace', 'open', 'def', 'theorem' AND NOTHING ELSE: no command of the shelf's: FOR A HAND-IN. Each laying: the table of numbers ('.._ren') and one theorem, a field a fact of the dump's own or the kernel's comparison; each contract: ONE APPLICATION.
-/
import Derived.Ground.SlgmProg
import Derived.Ground.GgzProg
import Derived.Shelf.SlIterI.Nil
import Derived.Shelf.SortM.Plain
import Derived.Shelf.SortM.SortNone
import Derived.Test.YtkocikpoagfonaaDoorProg
namespace Go.Proofs
open Go.Shelf
def Tryd.laysKeys_ren : Go.Shelf.Ren := ⟨fun | 7 => 44 | 10 => 69 | n => n, fun | 23 => 52 | 26 => 3 | 3 => 32 | 28 => 66 | 0 => 0 | 27 => 65 | 33 => 30 | 4 => 4 | n => n, fun | n => n⟩
theorem Tryd.laysKeys : Go.Proofs.SlLaysZI.n7 Tryd.prog Tryd.laysKeys_ren := {
  mixed := by kernel_rfl
  f7 := ⟨Tryd.f44.name, by decide, Tryd.func44.trans (congrArg some (by kernel_rfl))⟩
  f10 := ⟨Tryd.f69.name, by decide, Tryd.func69.trans (congrArg some (by kernel_rfl))⟩
  t0 := Tryd.underlying0
  a0 := Tryd.isAgg0
  z0 := Tryd.sizeOf0
  v0 := Tryd.zeroValue0
  t4 := Tryd.underlying4
  a4 := Tryd.isAgg4
  z4 := Tryd.sizeOf4
  v4 := Tryd.zeroValue4
  t23 := Tryd.underlying52
  a23 := Tryd.isAgg52
  z23 := Tryd.sizeOf52
  v23 := Tryd.zeroValue52
  t26 := Tryd.underlying3
  a26 := Tryd.isAgg3
  z26 := Tryd.sizeOf3
  v26 := Tryd.zeroValue3
  t27 := Tryd.underlying65
  a27 := Tryd.isAgg65
  z27 := Tryd.sizeOf65
  v27 := Tryd.zeroValue65
  t28 := Tryd.underlying66
  a28 := Tryd.isAgg66
  z28 := Tryd.sizeOf66
  v28 := Tryd.zeroValue66
  t33 := Tryd.underlying30
  a33 := Tryd.isAgg30
  z33 := Tryd.sizeOf30
  v33 := Tryd.zeroValue30 }
def Tryd.laysSorted_ren : Go.Shelf.Ren := ⟨fun | 6 => 43 | 8 => 67 | 9 => 68 | 11 => 79 | 13 => 81 | 12 => 80 | 23 => 93 | 24 => 94 | 14 => 84 | 15 => 85 | 16 => 86 | 17 => 87 | 18 => 88 | 19 => 89 | 20 => 90 | 21 => 91 | 22 => 92 | 25 => 96 | 26 => 97 | 27 => 98 | 28 => 99 | 29 => 100 | 30 => 101 | 31 => 102 | n => n, fun | 26 => 3 | 28 => 66 | 24 => 32 | 0 => 0 | 3 => 3 | 37 => 22 | 48 => 119 | 50 => 100 | 4 => 4 | 40 => 113 | 39 => 112 | 45 => 58 | 5 => 5 | 9 => 9 | 51 => 121 | 55 => 60 | 57 => 126 | 58 => 26 | 33 => 30 | n => n, fun | n => n⟩
theorem Tryd.laysSorted : Go.Proofs.SlLaysZI.n6 Tryd.prog Tryd.laysSorted_ren := {
  mixed := by kernel_rfl
  f6 := ⟨Tryd.f43.name, by decide, Tryd.func43.trans (congrArg some (by kernel_rfl))⟩
  f8 := ⟨Tryd.f67.name, by decide, Tryd.func67.trans (congrArg some (by kernel_rfl))⟩
  f11 := ⟨Tryd.f79.name, by decide, Tryd.func79.trans (congrArg some (by kernel_rfl))⟩
  t0 := Tryd.underlying0
  a0 := Tryd.isAgg0
  z0 := Tryd.sizeOf0
  v0 := Tryd.zeroValue0
  t24 := Tryd.underlying32
  a24 := Tryd.isAgg32
  z24 := Tryd.sizeOf32
  v24 := Tryd.zeroValue32
  t26 := Tryd.underlying3
  a26 := Tryd.isAgg3
  z26 := Tryd.sizeOf3
  v26 := Tryd.zeroValue3
  t28 := Tryd.underlying66
  a28 := Tryd.isAgg66
  z28 := Tryd.sizeOf66
  v28 := Tryd.zeroValue66
  i26 := by kernel_rfl }
def Tryd.laysSlM5_f68_ren : Go.Shelf.Ren := ⟨fun | 5 => 68 | 8 => 81 | 7 => 80 | 19 => 93 | 20 => 94 | 10 => 84 | 11 => 85 | 12 => 86 | 13 => 87 | 14 => 88 | 15 => 89 | 16 => 90 | 17 => 91 | 18 => 92 | 30 => 96 | 31 => 97 | 32 => 98 | 33 => 99 | 34 => 100 | 35 => 101 | 40 => 102 | n => n, fun | 23 => 32 | 25 => 3 | 3 => 3 | 32 => 22 | 22 => 32 | 0 => 0 | 44 => 119 | 46 => 100 | 4 => 4 | 36 => 113 | 35 => 112 | 41 => 58 | 5 => 5 | 9 => 9 | 53 => 121 | 57 => 60 | 63 => 126 | 64 => 26 | n => n, fun | n => n⟩
theorem Tryd.laysSlM5_f68 : Go.Proofs.SlLaysM.n5 Tryd.prog Tryd.laysSlM5_f68_ren := {
  mixed := by kernel_rfl
  f5 := ⟨Tryd.f68.name, by decide, Tryd.func68.trans (congrArg some (by kernel_rfl))⟩
  f7 := ⟨Tryd.f80.name, by decide, Tryd.func80.trans (congrArg some (by kernel_rfl))⟩
  f8 := Tryd.func81.trans (congrArg some (by kernel_rfl))
  f10 := ⟨Tryd.f84.name, by decide, Tryd.func84.trans (congrArg some (by kernel_rfl))⟩
  f11 := ⟨Tryd.f85.name, by decide, Tryd.func85.trans (congrArg some (by kernel_rfl))⟩
  f12 := ⟨Tryd.f86.name, by decide, Tryd.func86.trans (congrArg some (by kernel_rfl))⟩
  f13 := ⟨Tryd.f87.name, by decide, Tryd.func87.trans (congrArg some (by kernel_rfl))⟩
  f14 := ⟨Tryd.f88.name, by decide, Tryd.func88.trans (congrArg some (by kernel_rfl))⟩
  f15 := ⟨Tryd.f89.name, by decide, Tryd.func89.trans (congrArg some (by kernel_rfl))⟩
  f16 := ⟨Tryd.f90.name, by decide, Tryd.func90.trans (congrArg some (by kernel_rfl))⟩
  f17 := ⟨Tryd.f91.name, by decide, Tryd.func91.trans (congrArg some (by kernel_rfl))⟩
  f18 := ⟨Tryd.f92.name, by decide, Tryd.func92.trans (congrArg some (by kernel_rfl))⟩
  f19 := Tryd.func93.trans (congrArg some (by kernel_rfl))
  f20 := Tryd.func94.trans (congrArg some (by kernel_rfl))
  f30 := ⟨Tryd.f96.name, by decide, Tryd.func96.trans (congrArg some (by kernel_rfl))⟩
  f31 := Tryd.func97.trans (congrArg some (by kernel_rfl))
  f32 := Tryd.func98.trans (congrArg some (by kernel_rfl))
  f33 := ⟨Tryd.f99.name, by decide, Tryd.func99.trans (congrArg some (by kernel_rfl))⟩
  f34 := ⟨Tryd.f100.name, by decide, Tryd.func100.trans (congrArg some (by kernel_rfl))⟩
  f35 := ⟨Tryd.f101.name, by decide, Tryd.func101.trans (congrArg some (by kernel_rfl))⟩
  f40 := ⟨Tryd.f102.name, by decide, Tryd.func102.trans (congrArg some (by kernel_rfl))⟩
  t0 := Tryd.underlying0
  a0 := Tryd.isAgg0
  z0 := Tryd.sizeOf0
  v0 := Tryd.zeroValue0
  t3 := Tryd.underlying3
  a3 := Tryd.isAgg3
  z3 := Tryd.sizeOf3
  v3 := Tryd.zeroValue3
  t4 := Tryd.underlying4
  a4 := Tryd.isAgg4
  z4 := Tryd.sizeOf4
  v4 := Tryd.zeroValue4
  t5 := Tryd.underlying5
  a5 := Tryd.isAgg5
  z5 := Tryd.sizeOf5
  v5 := Tryd.zeroValue5
  t9 := Tryd.underlying9
  a9 := Tryd.isAgg9
  z9 := Tryd.sizeOf9
  v9 := Tryd.zeroValue9
  t22 := Tryd.underlying32
  a22 := Tryd.isAgg32
  z22 := Tryd.sizeOf32
  v22 := Tryd.zeroValue32
  t23 := Tryd.underlying32
  a23 := Tryd.isAgg32
  z23 := Tryd.sizeOf32
  v23 := Tryd.zeroValue32
  t25 := Tryd.underlying3
  a25 := Tryd.isAgg3
  z25 := Tryd.sizeOf3
  v25 := Tryd.zeroValue3
  t32 := Tryd.underlying22
  a32 := Tryd.isAgg22
  z32 := Tryd.sizeOf22
  v32 := Tryd.zeroValue22
  t35 := Tryd.underlying112
  a35 := Tryd.isAgg112
  z35 := Tryd.sizeOf112
  v35 := Tryd.zeroValue112
  t36 := Tryd.underlying113
  a36 := Tryd.isAgg113
  z36 := Tryd.sizeOf113
  v36 := Tryd.zeroValue113
  t41 := Tryd.underlying58
  a41 := Tryd.isAgg58
  z41 := Tryd.sizeOf58
  v41 := Tryd.zeroValue58
  t44 := Tryd.underlying119
  a44 := Tryd.isAgg119
  z44 := Tryd.sizeOf119
  v44 := Tryd.zeroValue119
  t46 := Tryd.underlying100
  a46 := Tryd.isAgg100
  z46 := Tryd.sizeOf100
  v46 := Tryd.zeroValue100
  t53 := Tryd.underlying121
  a53 := Tryd.isAgg121
  z53 := Tryd.sizeOf121
  v53 := Tryd.zeroValue121
  t57 := Tryd.underlying60
  a57 := Tryd.isAgg60
  z57 := Tryd.sizeOf60
  v57 := Tryd.zeroValue60
  t63 := Tryd.underlying126
  a63 := Tryd.isAgg126
  z63 := Tryd.sizeOf126
  v63 := Tryd.zeroValue126
  t64 := Tryd.underlying26
  a64 := Tryd.isAgg26
  z64 := Tryd.sizeOf26
  v64 := Tryd.zeroValue26 }
open Go.Sort Go.RowKit in
theorem Tryd.slices_Sort_int (blk off cap : Nat) (zs : List Int) (w : World) (hH : Holds (Value.int .i64) w blk off zs.toArray) (hblk : blk < w.heap.size) (hsz : zs.length < 4611686018427387904) :
    Calls Tryd.prog 68 #[.slice (some ⟨blk, off, none⟩) zs.length cap] w fun e w' =>
      e = .returned (.tuple #[]) ∧ ∃ n os, w' = grow (putRow (Value.int .i64) (Sort.ahead w n) blk off (zs.mergeSort fun x y => decide (x ≤ y)).toArray) os := AnyM.slices_Sort_int Tryd.laysSlM5_f68 blk off cap zs w hH hblk hsz
open Go.RowKit Go.Sort in
/-- .. and plain. (LAID AT THE INSTANCE 'slices.Sort[[]int,int]': no walk: one application.) -/
theorem Tryd.slices_Sort_int_none (p : Option Addr) (cap : Nat) (w : World) :
    Calls Tryd.prog 68 #[.slice p 0 cap] w fun e w' => e = .returned (.tuple #[]) ∧ w' = w := AnyM.slices_Sort_int_none Tryd.laysSlM5_f68 p cap w
end Go.Proofs
