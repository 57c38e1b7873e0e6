/-
  DERIVED: THE SHELF's CONTRACTS AT THIS DUMP, IN PLAIN WORDS (tools/lay-plain.mjs out of 'TryzShelf.lean', which tools/lay-shelf.mjs wrote): THE SAME DECLARATIONS UNDER THE SAME NAMES: 'import', 'namespace', 'open', 'def', 'theorem' AND NOTHING ELSE: no command of the shelf's: FOR A HAND-IN. Each laying: the table of numbers ('.._ren') and one theorem, a field a fact of the dump's own or the kernel's comparison; each contract: ONE APPLICATION.
-/
import Derived.Ground.SlgmProg
import Derived.Ground.GgzProg
import Derived.Shelf.SlIterI.Nil
import Derived.Shelf.SortM.Plain
import Derived.Shelf.SortM.SortNone
import Derived.Test.YtmafiagakoglkaaGreatDoorProg
namespace Go.Proofs
open Go.Shelf
def Tryz.laysKeys_ren : Go.Shelf.Ren := ⟨fun | 7 => 55 | 10 => 110 | n => n, fun | 23 => 86 | 26 => 3 | 3 => 22 | 28 => 93 | 0 => 0 | 27 => 92 | 33 => 32 | 4 => 4 | n => n, fun | n => n⟩
theorem Tryz.laysKeys : Go.Proofs.SlLaysZI.n7 Tryz.prog Tryz.laysKeys_ren := {
  mixed := by kernel_rfl
  f7 := ⟨Tryz.f55.name, by decide, Tryz.func55.trans (congrArg some (by kernel_rfl))⟩
  f10 := ⟨Tryz.f110.name, by decide, Tryz.func110.trans (congrArg some (by kernel_rfl))⟩
  t0 := Tryz.underlying0
  a0 := Tryz.isAgg0
  z0 := Tryz.sizeOf0
  v0 := Tryz.zeroValue0
  t4 := Tryz.underlying4
  a4 := Tryz.isAgg4
  z4 := Tryz.sizeOf4
  v4 := Tryz.zeroValue4
  t23 := Tryz.underlying86
  a23 := Tryz.isAgg86
  z23 := Tryz.sizeOf86
  v23 := Tryz.zeroValue86
  t26 := Tryz.underlying3
  a26 := Tryz.isAgg3
  z26 := Tryz.sizeOf3
  v26 := Tryz.zeroValue3
  t27 := Tryz.underlying92
  a27 := Tryz.isAgg92
  z27 := Tryz.sizeOf92
  v27 := Tryz.zeroValue92
  t28 := Tryz.underlying93
  a28 := Tryz.isAgg93
  z28 := Tryz.sizeOf93
  v28 := Tryz.zeroValue93
  t33 := Tryz.underlying32
  a33 := Tryz.isAgg32
  z33 := Tryz.sizeOf32
  v33 := Tryz.zeroValue32 }
def Tryz.laysKeysS_ren : Go.Shelf.Ren := ⟨fun | 7 => 60 | 10 => 116 | n => n, fun | 23 => 85 | 26 => 3 | 3 => 83 | 28 => 93 | 0 => 0 | 27 => 92 | 33 => 32 | 4 => 4 | n => n, fun | n => n⟩
theorem Tryz.laysKeysS : Go.Proofs.SlLaysZI.n7 Tryz.prog Tryz.laysKeysS_ren := {
  mixed := by kernel_rfl
  f7 := ⟨Tryz.f60.name, by decide, Tryz.func60.trans (congrArg some (by kernel_rfl))⟩
  f10 := ⟨Tryz.f116.name, by decide, Tryz.func116.trans (congrArg some (by kernel_rfl))⟩
  t0 := Tryz.underlying0
  a0 := Tryz.isAgg0
  z0 := Tryz.sizeOf0
  v0 := Tryz.zeroValue0
  t4 := Tryz.underlying4
  a4 := Tryz.isAgg4
  z4 := Tryz.sizeOf4
  v4 := Tryz.zeroValue4
  t23 := Tryz.underlying85
  a23 := Tryz.isAgg85
  z23 := Tryz.sizeOf85
  v23 := Tryz.zeroValue85
  t26 := Tryz.underlying3
  a26 := Tryz.isAgg3
  z26 := Tryz.sizeOf3
  v26 := Tryz.zeroValue3
  t27 := Tryz.underlying92
  a27 := Tryz.isAgg92
  z27 := Tryz.sizeOf92
  v27 := Tryz.zeroValue92
  t28 := Tryz.underlying93
  a28 := Tryz.isAgg93
  z28 := Tryz.sizeOf93
  v28 := Tryz.zeroValue93
  t33 := Tryz.underlying32
  a33 := Tryz.isAgg32
  z33 := Tryz.sizeOf32
  v33 := Tryz.zeroValue32 }
def Tryz.laysSorted_ren : Go.Shelf.Ren := ⟨fun | 6 => 54 | 8 => 108 | 9 => 109 | 11 => 146 | 13 => 148 | 12 => 147 | 23 => 176 | 24 => 177 | 14 => 167 | 15 => 168 | 16 => 169 | 17 => 170 | 18 => 171 | 19 => 172 | 20 => 173 | 21 => 174 | 22 => 175 | 25 => 183 | 26 => 184 | 27 => 185 | 28 => 186 | 29 => 187 | 30 => 188 | 31 => 190 | n => n, fun | 26 => 3 | 28 => 93 | 24 => 22 | 0 => 0 | 3 => 3 | 37 => 29 | 48 => 180 | 50 => 155 | 4 => 4 | 40 => 173 | 39 => 172 | 45 => 89 | 5 => 5 | 9 => 9 | 51 => 190 | 55 => 147 | 57 => 195 | 58 => 81 | 33 => 32 | n => n, fun | n => n⟩
theorem Tryz.laysSorted : Go.Proofs.SlLaysZI.n6 Tryz.prog Tryz.laysSorted_ren := {
  mixed := by kernel_rfl
  f6 := ⟨Tryz.f54.name, by decide, Tryz.func54.trans (congrArg some (by kernel_rfl))⟩
  f8 := ⟨Tryz.f108.name, by decide, Tryz.func108.trans (congrArg some (by kernel_rfl))⟩
  f11 := ⟨Tryz.f146.name, by decide, Tryz.func146.trans (congrArg some (by kernel_rfl))⟩
  t0 := Tryz.underlying0
  a0 := Tryz.isAgg0
  z0 := Tryz.sizeOf0
  v0 := Tryz.zeroValue0
  t24 := Tryz.underlying22
  a24 := Tryz.isAgg22
  z24 := Tryz.sizeOf22
  v24 := Tryz.zeroValue22
  t26 := Tryz.underlying3
  a26 := Tryz.isAgg3
  z26 := Tryz.sizeOf3
  v26 := Tryz.zeroValue3
  t28 := Tryz.underlying93
  a28 := Tryz.isAgg93
  z28 := Tryz.sizeOf93
  v28 := Tryz.zeroValue93
  i26 := by kernel_rfl }
def Tryz.laysSlM5_f109_ren : Go.Shelf.Ren := ⟨fun | 5 => 109 | 8 => 148 | 7 => 147 | 19 => 176 | 20 => 177 | 10 => 167 | 11 => 168 | 12 => 169 | 13 => 170 | 14 => 171 | 15 => 172 | 16 => 173 | 17 => 174 | 18 => 175 | 30 => 183 | 31 => 184 | 32 => 185 | 33 => 186 | 34 => 187 | 35 => 188 | 40 => 190 | n => n, fun | 23 => 22 | 25 => 3 | 3 => 3 | 32 => 29 | 22 => 22 | 0 => 0 | 44 => 180 | 46 => 155 | 4 => 4 | 36 => 173 | 35 => 172 | 41 => 89 | 5 => 5 | 9 => 9 | 53 => 190 | 57 => 147 | 63 => 195 | 64 => 81 | n => n, fun | n => n⟩
theorem Tryz.laysSlM5_f109 : Go.Proofs.SlLaysM.n5 Tryz.prog Tryz.laysSlM5_f109_ren := {
  mixed := by kernel_rfl
  f5 := ⟨Tryz.f109.name, by decide, Tryz.func109.trans (congrArg some (by kernel_rfl))⟩
  f7 := ⟨Tryz.f147.name, by decide, Tryz.func147.trans (congrArg some (by kernel_rfl))⟩
  f8 := Tryz.func148.trans (congrArg some (by kernel_rfl))
  f10 := ⟨Tryz.f167.name, by decide, Tryz.func167.trans (congrArg some (by kernel_rfl))⟩
  f11 := ⟨Tryz.f168.name, by decide, Tryz.func168.trans (congrArg some (by kernel_rfl))⟩
  f12 := ⟨Tryz.f169.name, by decide, Tryz.func169.trans (congrArg some (by kernel_rfl))⟩
  f13 := ⟨Tryz.f170.name, by decide, Tryz.func170.trans (congrArg some (by kernel_rfl))⟩
  f14 := ⟨Tryz.f171.name, by decide, Tryz.func171.trans (congrArg some (by kernel_rfl))⟩
  f15 := ⟨Tryz.f172.name, by decide, Tryz.func172.trans (congrArg some (by kernel_rfl))⟩
  f16 := ⟨Tryz.f173.name, by decide, Tryz.func173.trans (congrArg some (by kernel_rfl))⟩
  f17 := ⟨Tryz.f174.name, by decide, Tryz.func174.trans (congrArg some (by kernel_rfl))⟩
  f18 := ⟨Tryz.f175.name, by decide, Tryz.func175.trans (congrArg some (by kernel_rfl))⟩
  f19 := Tryz.func176.trans (congrArg some (by kernel_rfl))
  f20 := Tryz.func177.trans (congrArg some (by kernel_rfl))
  f30 := ⟨Tryz.f183.name, by decide, Tryz.func183.trans (congrArg some (by kernel_rfl))⟩
  f31 := Tryz.func184.trans (congrArg some (by kernel_rfl))
  f32 := Tryz.func185.trans (congrArg some (by kernel_rfl))
  f33 := ⟨Tryz.f186.name, by decide, Tryz.func186.trans (congrArg some (by kernel_rfl))⟩
  f34 := ⟨Tryz.f187.name, by decide, Tryz.func187.trans (congrArg some (by kernel_rfl))⟩
  f35 := ⟨Tryz.f188.name, by decide, Tryz.func188.trans (congrArg some (by kernel_rfl))⟩
  f40 := ⟨Tryz.f190.name, by decide, Tryz.func190.trans (congrArg some (by kernel_rfl))⟩
  t0 := Tryz.underlying0
  a0 := Tryz.isAgg0
  z0 := Tryz.sizeOf0
  v0 := Tryz.zeroValue0
  t3 := Tryz.underlying3
  a3 := Tryz.isAgg3
  z3 := Tryz.sizeOf3
  v3 := Tryz.zeroValue3
  t4 := Tryz.underlying4
  a4 := Tryz.isAgg4
  z4 := Tryz.sizeOf4
  v4 := Tryz.zeroValue4
  t5 := Tryz.underlying5
  a5 := Tryz.isAgg5
  z5 := Tryz.sizeOf5
  v5 := Tryz.zeroValue5
  t9 := Tryz.underlying9
  a9 := Tryz.isAgg9
  z9 := Tryz.sizeOf9
  v9 := Tryz.zeroValue9
  t22 := Tryz.underlying22
  a22 := Tryz.isAgg22
  z22 := Tryz.sizeOf22
  v22 := Tryz.zeroValue22
  t23 := Tryz.underlying22
  a23 := Tryz.isAgg22
  z23 := Tryz.sizeOf22
  v23 := Tryz.zeroValue22
  t25 := Tryz.underlying3
  a25 := Tryz.isAgg3
  z25 := Tryz.sizeOf3
  v25 := Tryz.zeroValue3
  t32 := Tryz.underlying29
  a32 := Tryz.isAgg29
  z32 := Tryz.sizeOf29
  v32 := Tryz.zeroValue29
  t35 := Tryz.underlying172
  a35 := Tryz.isAgg172
  z35 := Tryz.sizeOf172
  v35 := Tryz.zeroValue172
  t36 := Tryz.underlying173
  a36 := Tryz.isAgg173
  z36 := Tryz.sizeOf173
  v36 := Tryz.zeroValue173
  t41 := Tryz.underlying89
  a41 := Tryz.isAgg89
  z41 := Tryz.sizeOf89
  v41 := Tryz.zeroValue89
  t44 := Tryz.underlying180
  a44 := Tryz.isAgg180
  z44 := Tryz.sizeOf180
  v44 := Tryz.zeroValue180
  t46 := Tryz.underlying155
  a46 := Tryz.isAgg155
  z46 := Tryz.sizeOf155
  v46 := Tryz.zeroValue155
  t53 := Tryz.underlying190
  a53 := Tryz.isAgg190
  z53 := Tryz.sizeOf190
  v53 := Tryz.zeroValue190
  t57 := Tryz.underlying147
  a57 := Tryz.isAgg147
  z57 := Tryz.sizeOf147
  v57 := Tryz.zeroValue147
  t63 := Tryz.underlying195
  a63 := Tryz.isAgg195
  z63 := Tryz.sizeOf195
  v63 := Tryz.zeroValue195
  t64 := Tryz.underlying81
  a64 := Tryz.isAgg81
  z64 := Tryz.sizeOf81
  v64 := Tryz.zeroValue81 }
open Go.Sort Go.RowKit in
theorem Tryz.slices_Sort_int (blk off cap : Nat) (zs : List Int) (w : World) (hH : Holds (Value.int .i64) w blk off zs.toArray) (hblk : blk < w.heap.size) (hsz : zs.length < 4611686018427387904) :
    Calls Tryz.prog 109 #[.slice (some ⟨blk, off, none⟩) zs.length cap] w fun e w' =>
      e = .returned (.tuple #[]) ∧ ∃ n os, w' = grow (putRow (Value.int .i64) (Sort.ahead w n) blk off (zs.mergeSort fun x y => decide (x ≤ y)).toArray) os := AnyM.slices_Sort_int Tryz.laysSlM5_f109 blk off cap zs w hH hblk hsz
open Go.RowKit Go.Sort in
/-- .. and plain. (LAID AT THE INSTANCE 'slices.Sort[[]int,int]': no walk: one application.) -/
theorem Tryz.slices_Sort_int_none (p : Option Addr) (cap : Nat) (w : World) :
    Calls Tryz.prog 109 #[.slice p 0 cap] w fun e w' => e = .returned (.tuple #[]) ∧ w' = w := AnyM.slices_Sort_int_none Tryz.laysSlM5_f109 p cap w
end Go.Proofs
