/-
  DERIVED: THE SHELF's CONTRACTS AT THIS DUMP, IN PLAIN WORDS (tools/lay-plain.mjs out of 'TryzShelf.lean', which tools/lay-shelf.mjs wrote): THE SAME DECLARATIONS UNDER THE SAME NAMES: 'import', 'namespace', 'open', 'def', 'theorem' AND NOTHING ELSE: no command of the shelf's: FOR A HAND-IN. Each laying: the table of numbers ('.._ren') and one theorem, a field a fact of the dump's own or the kernel's comparison; each contract: ONE APPLICATION.
-/
import Derived.Ground.SlgmProg
import Derived.Ground.GgzProg
import Derived.Shelf.SlIterI.Nil
import Derived.Shelf.SortM.Plain
import Derived.Shelf.SortM.SortNone
import Derived.Test.YtcnchgbngcnijaaGreatDoorProg
namespace Go.Proofs
open Go.Shelf
def Tryz.laysKeys_ren : Go.Shelf.Ren := ⟨fun | 7 => 67 | 10 => 116 | n => n, fun | 23 => 77 | 26 => 3 | 3 => 33 | 28 => 90 | 0 => 0 | 27 => 89 | 33 => 50 | 4 => 4 | n => n, fun | n => n⟩
theorem Tryz.laysKeys : Go.Proofs.SlLaysZI.n7 Tryz.prog Tryz.laysKeys_ren := {
  mixed := by kernel_rfl
  f7 := ⟨Tryz.f67.name, by decide, Tryz.func67.trans (congrArg some (by kernel_rfl))⟩
  f10 := ⟨Tryz.f116.name, by decide, Tryz.func116.trans (congrArg some (by kernel_rfl))⟩
  t0 := Tryz.underlying0
  a0 := Tryz.isAgg0
  z0 := Tryz.sizeOf0
  v0 := Tryz.zeroValue0
  t4 := Tryz.underlying4
  a4 := Tryz.isAgg4
  z4 := Tryz.sizeOf4
  v4 := Tryz.zeroValue4
  t23 := Tryz.underlying77
  a23 := Tryz.isAgg77
  z23 := Tryz.sizeOf77
  v23 := Tryz.zeroValue77
  t26 := Tryz.underlying3
  a26 := Tryz.isAgg3
  z26 := Tryz.sizeOf3
  v26 := Tryz.zeroValue3
  t27 := Tryz.underlying89
  a27 := Tryz.isAgg89
  z27 := Tryz.sizeOf89
  v27 := Tryz.zeroValue89
  t28 := Tryz.underlying90
  a28 := Tryz.isAgg90
  z28 := Tryz.sizeOf90
  v28 := Tryz.zeroValue90
  t33 := Tryz.underlying50
  a33 := Tryz.isAgg50
  z33 := Tryz.sizeOf50
  v33 := Tryz.zeroValue50 }
def Tryz.laysKeysS_ren : Go.Shelf.Ren := ⟨fun | 7 => 66 | 10 => 115 | n => n, fun | 23 => 76 | 26 => 3 | 3 => 92 | 28 => 90 | 0 => 0 | 27 => 89 | 33 => 50 | 4 => 4 | n => n, fun | n => n⟩
theorem Tryz.laysKeysS : Go.Proofs.SlLaysZI.n7 Tryz.prog Tryz.laysKeysS_ren := {
  mixed := by kernel_rfl
  f7 := ⟨Tryz.f66.name, by decide, Tryz.func66.trans (congrArg some (by kernel_rfl))⟩
  f10 := ⟨Tryz.f115.name, by decide, Tryz.func115.trans (congrArg some (by kernel_rfl))⟩
  t0 := Tryz.underlying0
  a0 := Tryz.isAgg0
  z0 := Tryz.sizeOf0
  v0 := Tryz.zeroValue0
  t4 := Tryz.underlying4
  a4 := Tryz.isAgg4
  z4 := Tryz.sizeOf4
  v4 := Tryz.zeroValue4
  t23 := Tryz.underlying76
  a23 := Tryz.isAgg76
  z23 := Tryz.sizeOf76
  v23 := Tryz.zeroValue76
  t26 := Tryz.underlying3
  a26 := Tryz.isAgg3
  z26 := Tryz.sizeOf3
  v26 := Tryz.zeroValue3
  t27 := Tryz.underlying89
  a27 := Tryz.isAgg89
  z27 := Tryz.sizeOf89
  v27 := Tryz.zeroValue89
  t28 := Tryz.underlying90
  a28 := Tryz.isAgg90
  z28 := Tryz.sizeOf90
  v28 := Tryz.zeroValue90
  t33 := Tryz.underlying50
  a33 := Tryz.isAgg50
  z33 := Tryz.sizeOf50
  v33 := Tryz.zeroValue50 }
def Tryz.laysSorted_ren : Go.Shelf.Ren := ⟨fun | 6 => 65 | 8 => 113 | 9 => 114 | 11 => 154 | 13 => 156 | 12 => 155 | 23 => 180 | 24 => 181 | 14 => 171 | 15 => 172 | 16 => 173 | 17 => 174 | 18 => 175 | 19 => 176 | 20 => 177 | 21 => 178 | 22 => 179 | 25 => 184 | 26 => 185 | 27 => 186 | 28 => 187 | 29 => 188 | 30 => 189 | 31 => 191 | n => n, fun | 26 => 3 | 28 => 90 | 24 => 33 | 0 => 0 | 3 => 3 | 37 => 47 | 48 => 187 | 50 => 167 | 4 => 4 | 40 => 180 | 39 => 179 | 45 => 107 | 5 => 5 | 9 => 9 | 51 => 190 | 55 => 123 | 57 => 196 | 58 => 81 | 33 => 50 | n => n, fun | n => n⟩
theorem Tryz.laysSorted : Go.Proofs.SlLaysZI.n6 Tryz.prog Tryz.laysSorted_ren := {
  mixed := by kernel_rfl
  f6 := ⟨Tryz.f65.name, by decide, Tryz.func65.trans (congrArg some (by kernel_rfl))⟩
  f8 := ⟨Tryz.f113.name, by decide, Tryz.func113.trans (congrArg some (by kernel_rfl))⟩
  f11 := ⟨Tryz.f154.name, by decide, Tryz.func154.trans (congrArg some (by kernel_rfl))⟩
  t0 := Tryz.underlying0
  a0 := Tryz.isAgg0
  z0 := Tryz.sizeOf0
  v0 := Tryz.zeroValue0
  t24 := Tryz.underlying33
  a24 := Tryz.isAgg33
  z24 := Tryz.sizeOf33
  v24 := Tryz.zeroValue33
  t26 := Tryz.underlying3
  a26 := Tryz.isAgg3
  z26 := Tryz.sizeOf3
  v26 := Tryz.zeroValue3
  t28 := Tryz.underlying90
  a28 := Tryz.isAgg90
  z28 := Tryz.sizeOf90
  v28 := Tryz.zeroValue90
  i26 := by kernel_rfl }
def Tryz.laysSlM5_f114_ren : Go.Shelf.Ren := ⟨fun | 5 => 114 | 8 => 156 | 7 => 155 | 19 => 180 | 20 => 181 | 10 => 171 | 11 => 172 | 12 => 173 | 13 => 174 | 14 => 175 | 15 => 176 | 16 => 177 | 17 => 178 | 18 => 179 | 30 => 184 | 31 => 185 | 32 => 186 | 33 => 187 | 34 => 188 | 35 => 189 | 40 => 191 | n => n, fun | 23 => 33 | 25 => 3 | 3 => 3 | 32 => 47 | 22 => 33 | 0 => 0 | 44 => 187 | 46 => 167 | 4 => 4 | 36 => 180 | 35 => 179 | 41 => 107 | 5 => 5 | 9 => 9 | 53 => 190 | 57 => 123 | 63 => 196 | 64 => 81 | n => n, fun | n => n⟩
theorem Tryz.laysSlM5_f114 : Go.Proofs.SlLaysM.n5 Tryz.prog Tryz.laysSlM5_f114_ren := {
  mixed := by kernel_rfl
  f5 := ⟨Tryz.f114.name, by decide, Tryz.func114.trans (congrArg some (by kernel_rfl))⟩
  f7 := ⟨Tryz.f155.name, by decide, Tryz.func155.trans (congrArg some (by kernel_rfl))⟩
  f8 := Tryz.func156.trans (congrArg some (by kernel_rfl))
  f10 := ⟨Tryz.f171.name, by decide, Tryz.func171.trans (congrArg some (by kernel_rfl))⟩
  f11 := ⟨Tryz.f172.name, by decide, Tryz.func172.trans (congrArg some (by kernel_rfl))⟩
  f12 := ⟨Tryz.f173.name, by decide, Tryz.func173.trans (congrArg some (by kernel_rfl))⟩
  f13 := ⟨Tryz.f174.name, by decide, Tryz.func174.trans (congrArg some (by kernel_rfl))⟩
  f14 := ⟨Tryz.f175.name, by decide, Tryz.func175.trans (congrArg some (by kernel_rfl))⟩
  f15 := ⟨Tryz.f176.name, by decide, Tryz.func176.trans (congrArg some (by kernel_rfl))⟩
  f16 := ⟨Tryz.f177.name, by decide, Tryz.func177.trans (congrArg some (by kernel_rfl))⟩
  f17 := ⟨Tryz.f178.name, by decide, Tryz.func178.trans (congrArg some (by kernel_rfl))⟩
  f18 := ⟨Tryz.f179.name, by decide, Tryz.func179.trans (congrArg some (by kernel_rfl))⟩
  f19 := Tryz.func180.trans (congrArg some (by kernel_rfl))
  f20 := Tryz.func181.trans (congrArg some (by kernel_rfl))
  f30 := ⟨Tryz.f184.name, by decide, Tryz.func184.trans (congrArg some (by kernel_rfl))⟩
  f31 := Tryz.func185.trans (congrArg some (by kernel_rfl))
  f32 := Tryz.func186.trans (congrArg some (by kernel_rfl))
  f33 := ⟨Tryz.f187.name, by decide, Tryz.func187.trans (congrArg some (by kernel_rfl))⟩
  f34 := ⟨Tryz.f188.name, by decide, Tryz.func188.trans (congrArg some (by kernel_rfl))⟩
  f35 := ⟨Tryz.f189.name, by decide, Tryz.func189.trans (congrArg some (by kernel_rfl))⟩
  f40 := ⟨Tryz.f191.name, by decide, Tryz.func191.trans (congrArg some (by kernel_rfl))⟩
  t0 := Tryz.underlying0
  a0 := Tryz.isAgg0
  z0 := Tryz.sizeOf0
  v0 := Tryz.zeroValue0
  t3 := Tryz.underlying3
  a3 := Tryz.isAgg3
  z3 := Tryz.sizeOf3
  v3 := Tryz.zeroValue3
  t4 := Tryz.underlying4
  a4 := Tryz.isAgg4
  z4 := Tryz.sizeOf4
  v4 := Tryz.zeroValue4
  t5 := Tryz.underlying5
  a5 := Tryz.isAgg5
  z5 := Tryz.sizeOf5
  v5 := Tryz.zeroValue5
  t9 := Tryz.underlying9
  a9 := Tryz.isAgg9
  z9 := Tryz.sizeOf9
  v9 := Tryz.zeroValue9
  t22 := Tryz.underlying33
  a22 := Tryz.isAgg33
  z22 := Tryz.sizeOf33
  v22 := Tryz.zeroValue33
  t23 := Tryz.underlying33
  a23 := Tryz.isAgg33
  z23 := Tryz.sizeOf33
  v23 := Tryz.zeroValue33
  t25 := Tryz.underlying3
  a25 := Tryz.isAgg3
  z25 := Tryz.sizeOf3
  v25 := Tryz.zeroValue3
  t32 := Tryz.underlying47
  a32 := Tryz.isAgg47
  z32 := Tryz.sizeOf47
  v32 := Tryz.zeroValue47
  t35 := Tryz.underlying179
  a35 := Tryz.isAgg179
  z35 := Tryz.sizeOf179
  v35 := Tryz.zeroValue179
  t36 := Tryz.underlying180
  a36 := Tryz.isAgg180
  z36 := Tryz.sizeOf180
  v36 := Tryz.zeroValue180
  t41 := Tryz.underlying107
  a41 := Tryz.isAgg107
  z41 := Tryz.sizeOf107
  v41 := Tryz.zeroValue107
  t44 := Tryz.underlying187
  a44 := Tryz.isAgg187
  z44 := Tryz.sizeOf187
  v44 := Tryz.zeroValue187
  t46 := Tryz.underlying167
  a46 := Tryz.isAgg167
  z46 := Tryz.sizeOf167
  v46 := Tryz.zeroValue167
  t53 := Tryz.underlying190
  a53 := Tryz.isAgg190
  z53 := Tryz.sizeOf190
  v53 := Tryz.zeroValue190
  t57 := Tryz.underlying123
  a57 := Tryz.isAgg123
  z57 := Tryz.sizeOf123
  v57 := Tryz.zeroValue123
  t63 := Tryz.underlying196
  a63 := Tryz.isAgg196
  z63 := Tryz.sizeOf196
  v63 := Tryz.zeroValue196
  t64 := Tryz.underlying81
  a64 := Tryz.isAgg81
  z64 := Tryz.sizeOf81
  v64 := Tryz.zeroValue81 }
open Go.Sort Go.RowKit in
theorem Tryz.slices_Sort_int (blk off cap : Nat) (zs : List Int) (w : World) (hH : Holds (Value.int .i64) w blk off zs.toArray) (hblk : blk < w.heap.size) (hsz : zs.length < 4611686018427387904) :
    Calls Tryz.prog 114 #[.slice (some ⟨blk, off, none⟩) zs.length cap] w fun e w' =>
      e = .returned (.tuple #[]) ∧ ∃ n os, w' = grow (putRow (Value.int .i64) (Sort.ahead w n) blk off (zs.mergeSort fun x y => decide (x ≤ y)).toArray) os := AnyM.slices_Sort_int Tryz.laysSlM5_f114 blk off cap zs w hH hblk hsz
open Go.RowKit Go.Sort in
/-- .. and plain. (LAID AT THE INSTANCE 'slices.Sort[[]int,int]': no walk: one application.) -/
theorem Tryz.slices_Sort_int_none (p : Option Addr) (cap : Nat) (w : World) :
    Calls Tryz.prog 114 #[.slice p 0 cap] w fun e w' => e = .returned (.tuple #[]) ∧ w' = w := AnyM.slices_Sort_int_none Tryz.laysSlM5_f114 p cap w
end Go.Proofs
