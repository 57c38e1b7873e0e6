/-
  DERIVED: THE SHELF's CONTRACTS AT THIS DUMP, IN PLAIN WORDS (tools/lay-plain.mjs out of 'TryzShelf.lean', which tools/lay-shelf.mjs wrote): THE SAME DECLARATIONS UNDER THE SAME NAMES: 'import', 'namespace', 'open', 'def', 'theorem' AND NOTHING ELSE: no command of the shelf's: FOR A HAND-IN. Each laying: the table of numbers ('.._ren') and one theorem, a field a fact of the dump's own or the kernel's comparison; each contract: ONE APPLICATION.
-/
import Derived.Shelf.Bits.Mul64
import Derived.Ground.SlgmProg
import Derived.Ground.GgzProg
import Derived.Shelf.SlIterI.Nil
import Derived.Shelf.SortM.Plain
import Derived.Shelf.SortM.SortNone
import Derived.Test.YtcpljjacamibeaaGreatDoorProg
namespace Go.Proofs
open Go.Shelf
def Tryz.lays264_ren : Go.Shelf.Ren := ⟨fun | 264 => 270 | n => n, fun | 53 => 290 | 46 => 25 | n => n, fun | n => n⟩
theorem Tryz.lays264 : Go.Proofs.Lays.n264 Tryz.prog Tryz.lays264_ren := {
  mixed := by kernel_rfl
  f264 := Tryz.func270.trans (congrArg some (by kernel_rfl))
  t46 := Tryz.underlying25
  a46 := Tryz.isAgg25
  z46 := Tryz.sizeOf25
  v46 := Tryz.zeroValue25
  t53 := Tryz.underlying290
  a53 := Tryz.isAgg290
  z53 := Tryz.sizeOf290
  v53 := Tryz.zeroValue290 }
open Go.RowKit Go.Lib in
theorem Tryz.bits_Mul64 (x y : Nat) (hx : x < 18446744073709551616) (hy : y < 18446744073709551616) (w : World) :
    Calls Tryz.prog 270 #[.int .u64 x, .int .u64 y] w fun e w' => e = .returned (.tuple #[.int .u64 ((x * y / 18446744073709551616 : Nat) : Int), .int .u64 ((x * y % 18446744073709551616 : Nat) : Int)]) ∧ w' = w := Any.bits_Mul64 Tryz.lays264 x y hx hy w
def Tryz.laysKeys_ren : Go.Shelf.Ren := ⟨fun | 7 => 96 | 10 => 159 | n => n, fun | 23 => 182 | 26 => 3 | 3 => 37 | 28 => 180 | 0 => 0 | 27 => 179 | 33 => 55 | 4 => 4 | n => n, fun | n => n⟩
theorem Tryz.laysKeys : Go.Proofs.SlLaysZI.n7 Tryz.prog Tryz.laysKeys_ren := {
  mixed := by kernel_rfl
  f7 := ⟨Tryz.f96.name, by decide, Tryz.func96.trans (congrArg some (by kernel_rfl))⟩
  f10 := ⟨Tryz.f159.name, by decide, Tryz.func159.trans (congrArg some (by kernel_rfl))⟩
  t0 := Tryz.underlying0
  a0 := Tryz.isAgg0
  z0 := Tryz.sizeOf0
  v0 := Tryz.zeroValue0
  t4 := Tryz.underlying4
  a4 := Tryz.isAgg4
  z4 := Tryz.sizeOf4
  v4 := Tryz.zeroValue4
  t23 := Tryz.underlying182
  a23 := Tryz.isAgg182
  z23 := Tryz.sizeOf182
  v23 := Tryz.zeroValue182
  t26 := Tryz.underlying3
  a26 := Tryz.isAgg3
  z26 := Tryz.sizeOf3
  v26 := Tryz.zeroValue3
  t27 := Tryz.underlying179
  a27 := Tryz.isAgg179
  z27 := Tryz.sizeOf179
  v27 := Tryz.zeroValue179
  t28 := Tryz.underlying180
  a28 := Tryz.isAgg180
  z28 := Tryz.sizeOf180
  v28 := Tryz.zeroValue180
  t33 := Tryz.underlying55
  a33 := Tryz.isAgg55
  z33 := Tryz.sizeOf55
  v33 := Tryz.zeroValue55 }
def Tryz.laysKeysS_ren : Go.Shelf.Ren := ⟨fun | 7 => 359 | 10 => 367 | n => n, fun | 23 => 184 | 26 => 3 | 3 => 192 | 28 => 180 | 0 => 0 | 27 => 179 | 33 => 55 | 4 => 4 | n => n, fun | n => n⟩
theorem Tryz.laysKeysS : Go.Proofs.SlLaysZI.n7 Tryz.prog Tryz.laysKeysS_ren := {
  mixed := by kernel_rfl
  f7 := ⟨Tryz.f359.name, by decide, Tryz.func359.trans (congrArg some (by kernel_rfl))⟩
  f10 := ⟨Tryz.f367.name, by decide, Tryz.func367.trans (congrArg some (by kernel_rfl))⟩
  t0 := Tryz.underlying0
  a0 := Tryz.isAgg0
  z0 := Tryz.sizeOf0
  v0 := Tryz.zeroValue0
  t4 := Tryz.underlying4
  a4 := Tryz.isAgg4
  z4 := Tryz.sizeOf4
  v4 := Tryz.zeroValue4
  t23 := Tryz.underlying184
  a23 := Tryz.isAgg184
  z23 := Tryz.sizeOf184
  v23 := Tryz.zeroValue184
  t26 := Tryz.underlying3
  a26 := Tryz.isAgg3
  z26 := Tryz.sizeOf3
  v26 := Tryz.zeroValue3
  t27 := Tryz.underlying179
  a27 := Tryz.isAgg179
  z27 := Tryz.sizeOf179
  v27 := Tryz.zeroValue179
  t28 := Tryz.underlying180
  a28 := Tryz.isAgg180
  z28 := Tryz.sizeOf180
  v28 := Tryz.zeroValue180
  t33 := Tryz.underlying55
  a33 := Tryz.isAgg55
  z33 := Tryz.sizeOf55
  v33 := Tryz.zeroValue55 }
def Tryz.laysSorted_ren : Go.Shelf.Ren := ⟨fun | 6 => 95 | 8 => 158 | 9 => 149 | 11 => 251 | 13 => 246 | 12 => 245 | 23 => 312 | 24 => 313 | 14 => 303 | 15 => 304 | 16 => 305 | 17 => 306 | 18 => 307 | 19 => 308 | 20 => 309 | 21 => 310 | 22 => 311 | 25 => 336 | 26 => 337 | 27 => 338 | 28 => 339 | 29 => 340 | 30 => 341 | 31 => 355 | n => n, fun | 26 => 3 | 28 => 180 | 24 => 37 | 0 => 0 | 3 => 3 | 37 => 25 | 48 => 393 | 50 => 290 | 4 => 4 | 40 => 387 | 39 => 386 | 45 => 80 | 5 => 5 | 9 => 9 | 51 => 404 | 55 => 264 | 57 => 411 | 58 => 224 | 33 => 55 | n => n, fun | n => n⟩
theorem Tryz.laysSorted : Go.Proofs.SlLaysZI.n6 Tryz.prog Tryz.laysSorted_ren := {
  mixed := by kernel_rfl
  f6 := ⟨Tryz.f95.name, by decide, Tryz.func95.trans (congrArg some (by kernel_rfl))⟩
  f8 := ⟨Tryz.f158.name, by decide, Tryz.func158.trans (congrArg some (by kernel_rfl))⟩
  f11 := ⟨Tryz.f251.name, by decide, Tryz.func251.trans (congrArg some (by kernel_rfl))⟩
  t0 := Tryz.underlying0
  a0 := Tryz.isAgg0
  z0 := Tryz.sizeOf0
  v0 := Tryz.zeroValue0
  t24 := Tryz.underlying37
  a24 := Tryz.isAgg37
  z24 := Tryz.sizeOf37
  v24 := Tryz.zeroValue37
  t26 := Tryz.underlying3
  a26 := Tryz.isAgg3
  z26 := Tryz.sizeOf3
  v26 := Tryz.zeroValue3
  t28 := Tryz.underlying180
  a28 := Tryz.isAgg180
  z28 := Tryz.sizeOf180
  v28 := Tryz.zeroValue180
  i26 := by kernel_rfl }
def Tryz.laysSlM5_f149_ren : Go.Shelf.Ren := ⟨fun | 5 => 149 | 8 => 246 | 7 => 245 | 19 => 312 | 20 => 313 | 10 => 303 | 11 => 304 | 12 => 305 | 13 => 306 | 14 => 307 | 15 => 308 | 16 => 309 | 17 => 310 | 18 => 311 | 30 => 336 | 31 => 337 | 32 => 338 | 33 => 339 | 34 => 340 | 35 => 341 | 40 => 355 | n => n, fun | 23 => 37 | 25 => 3 | 3 => 3 | 32 => 25 | 22 => 37 | 0 => 0 | 44 => 393 | 46 => 290 | 4 => 4 | 36 => 387 | 35 => 386 | 41 => 80 | 5 => 5 | 9 => 9 | 53 => 404 | 57 => 264 | 63 => 411 | 64 => 224 | n => n, fun | n => n⟩
theorem Tryz.laysSlM5_f149 : Go.Proofs.SlLaysM.n5 Tryz.prog Tryz.laysSlM5_f149_ren := {
  mixed := by kernel_rfl
  f5 := ⟨Tryz.f149.name, by decide, Tryz.func149.trans (congrArg some (by kernel_rfl))⟩
  f7 := ⟨Tryz.f245.name, by decide, Tryz.func245.trans (congrArg some (by kernel_rfl))⟩
  f8 := Tryz.func246.trans (congrArg some (by kernel_rfl))
  f10 := ⟨Tryz.f303.name, by decide, Tryz.func303.trans (congrArg some (by kernel_rfl))⟩
  f11 := ⟨Tryz.f304.name, by decide, Tryz.func304.trans (congrArg some (by kernel_rfl))⟩
  f12 := ⟨Tryz.f305.name, by decide, Tryz.func305.trans (congrArg some (by kernel_rfl))⟩
  f13 := ⟨Tryz.f306.name, by decide, Tryz.func306.trans (congrArg some (by kernel_rfl))⟩
  f14 := ⟨Tryz.f307.name, by decide, Tryz.func307.trans (congrArg some (by kernel_rfl))⟩
  f15 := ⟨Tryz.f308.name, by decide, Tryz.func308.trans (congrArg some (by kernel_rfl))⟩
  f16 := ⟨Tryz.f309.name, by decide, Tryz.func309.trans (congrArg some (by kernel_rfl))⟩
  f17 := ⟨Tryz.f310.name, by decide, Tryz.func310.trans (congrArg some (by kernel_rfl))⟩
  f18 := ⟨Tryz.f311.name, by decide, Tryz.func311.trans (congrArg some (by kernel_rfl))⟩
  f19 := Tryz.func312.trans (congrArg some (by kernel_rfl))
  f20 := Tryz.func313.trans (congrArg some (by kernel_rfl))
  f30 := ⟨Tryz.f336.name, by decide, Tryz.func336.trans (congrArg some (by kernel_rfl))⟩
  f31 := Tryz.func337.trans (congrArg some (by kernel_rfl))
  f32 := Tryz.func338.trans (congrArg some (by kernel_rfl))
  f33 := ⟨Tryz.f339.name, by decide, Tryz.func339.trans (congrArg some (by kernel_rfl))⟩
  f34 := ⟨Tryz.f340.name, by decide, Tryz.func340.trans (congrArg some (by kernel_rfl))⟩
  f35 := ⟨Tryz.f341.name, by decide, Tryz.func341.trans (congrArg some (by kernel_rfl))⟩
  f40 := ⟨Tryz.f355.name, by decide, Tryz.func355.trans (congrArg some (by kernel_rfl))⟩
  t0 := Tryz.underlying0
  a0 := Tryz.isAgg0
  z0 := Tryz.sizeOf0
  v0 := Tryz.zeroValue0
  t3 := Tryz.underlying3
  a3 := Tryz.isAgg3
  z3 := Tryz.sizeOf3
  v3 := Tryz.zeroValue3
  t4 := Tryz.underlying4
  a4 := Tryz.isAgg4
  z4 := Tryz.sizeOf4
  v4 := Tryz.zeroValue4
  t5 := Tryz.underlying5
  a5 := Tryz.isAgg5
  z5 := Tryz.sizeOf5
  v5 := Tryz.zeroValue5
  t9 := Tryz.underlying9
  a9 := Tryz.isAgg9
  z9 := Tryz.sizeOf9
  v9 := Tryz.zeroValue9
  t22 := Tryz.underlying37
  a22 := Tryz.isAgg37
  z22 := Tryz.sizeOf37
  v22 := Tryz.zeroValue37
  t23 := Tryz.underlying37
  a23 := Tryz.isAgg37
  z23 := Tryz.sizeOf37
  v23 := Tryz.zeroValue37
  t25 := Tryz.underlying3
  a25 := Tryz.isAgg3
  z25 := Tryz.sizeOf3
  v25 := Tryz.zeroValue3
  t32 := Tryz.underlying25
  a32 := Tryz.isAgg25
  z32 := Tryz.sizeOf25
  v32 := Tryz.zeroValue25
  t35 := Tryz.underlying386
  a35 := Tryz.isAgg386
  z35 := Tryz.sizeOf386
  v35 := Tryz.zeroValue386
  t36 := Tryz.underlying387
  a36 := Tryz.isAgg387
  z36 := Tryz.sizeOf387
  v36 := Tryz.zeroValue387
  t41 := Tryz.underlying80
  a41 := Tryz.isAgg80
  z41 := Tryz.sizeOf80
  v41 := Tryz.zeroValue80
  t44 := Tryz.underlying393
  a44 := Tryz.isAgg393
  z44 := Tryz.sizeOf393
  v44 := Tryz.zeroValue393
  t46 := Tryz.underlying290
  a46 := Tryz.isAgg290
  z46 := Tryz.sizeOf290
  v46 := Tryz.zeroValue290
  t53 := Tryz.underlying404
  a53 := Tryz.isAgg404
  z53 := Tryz.sizeOf404
  v53 := Tryz.zeroValue404
  t57 := Tryz.underlying264
  a57 := Tryz.isAgg264
  z57 := Tryz.sizeOf264
  v57 := Tryz.zeroValue264
  t63 := Tryz.underlying411
  a63 := Tryz.isAgg411
  z63 := Tryz.sizeOf411
  v63 := Tryz.zeroValue411
  t64 := Tryz.underlying224
  a64 := Tryz.isAgg224
  z64 := Tryz.sizeOf224
  v64 := Tryz.zeroValue224 }
open Go.Sort Go.RowKit in
theorem Tryz.slices_Sort_int (blk off cap : Nat) (zs : List Int) (w : World) (hH : Holds (Value.int .i64) w blk off zs.toArray) (hblk : blk < w.heap.size) (hsz : zs.length < 4611686018427387904) :
    Calls Tryz.prog 149 #[.slice (some ⟨blk, off, none⟩) zs.length cap] w fun e w' =>
      e = .returned (.tuple #[]) ∧ ∃ n os, w' = grow (putRow (Value.int .i64) (Sort.ahead w n) blk off (zs.mergeSort fun x y => decide (x ≤ y)).toArray) os := AnyM.slices_Sort_int Tryz.laysSlM5_f149 blk off cap zs w hH hblk hsz
open Go.RowKit Go.Sort in
/-- .. and plain. (LAID AT THE INSTANCE 'slices.Sort[[]int,int]': no walk: one application.) -/
theorem Tryz.slices_Sort_int_none (p : Option Addr) (cap : Nat) (w : World) :
    Calls Tryz.prog 149 #[.slice p 0 cap] w fun e w' => e = .returned (.tuple #[]) ∧ w' = w := AnyM.slices_Sort_int_none Tryz.laysSlM5_f149 p cap w
end Go.Proofs
