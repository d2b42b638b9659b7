/-
  The contracts of the library that this claim uses, laid at this program by the kit (lay-plain.mjs).
-/
import Derived.Shelf.SlGeneric
import Derived.Shelf.SlIterI.Nil
import Derived.Ground.GgzProg
import Derived.Test.YtenaklgkbchbdaaProg
namespace Go.Proofs
open Go.Shelf
def Try.keysB_ren : Go.Shelf.Ren := ⟨fun | 7 => 28 | 10 => 33 | n => n, fun | 23 => 59 | 26 => 3 | 3 => 4 | 28 => 51 | 0 => 0 | 27 => 50 | 33 => 45 | 4 => 4 | n => n, fun | n => n⟩
theorem Try.keysB : Go.Proofs.SlLaysZI.n7 Try.prog Try.keysB_ren := {
  mixed := by kernel_rfl
  f7 := ⟨Try.f28.name, by decide, Try.func28.trans (congrArg some (by kernel_rfl))⟩
  f10 := ⟨Try.f33.name, by decide, Try.func33.trans (congrArg some (by kernel_rfl))⟩
  t0 := Try.underlying0
  a0 := Try.isAgg0
  z0 := Try.sizeOf0
  v0 := Try.zeroValue0
  t4 := Try.underlying4
  a4 := Try.isAgg4
  z4 := Try.sizeOf4
  v4 := Try.zeroValue4
  t23 := Try.underlying59
  a23 := Try.isAgg59
  z23 := Try.sizeOf59
  v23 := Try.zeroValue59
  t26 := Try.underlying3
  a26 := Try.isAgg3
  z26 := Try.sizeOf3
  v26 := Try.zeroValue3
  t27 := Try.underlying50
  a27 := Try.isAgg50
  z27 := Try.sizeOf50
  v27 := Try.zeroValue50
  t28 := Try.underlying51
  a28 := Try.isAgg51
  z28 := Try.sizeOf51
  v28 := Try.zeroValue51
  t33 := Try.underlying45
  a33 := Try.isAgg45
  z33 := Try.sizeOf45
  v33 := Try.zeroValue45 }
def Try.keysS_ren : Go.Shelf.Ren := ⟨fun | 7 => 29 | 10 => 34 | n => n, fun | 23 => 24 | 26 => 3 | 3 => 35 | 28 => 51 | 0 => 0 | 27 => 50 | 33 => 45 | 4 => 4 | n => n, fun | n => n⟩
theorem Try.keysS : Go.Proofs.SlLaysZI.n7 Try.prog Try.keysS_ren := {
  mixed := by kernel_rfl
  f7 := ⟨Try.f29.name, by decide, Try.func29.trans (congrArg some (by kernel_rfl))⟩
  f10 := ⟨Try.f34.name, by decide, Try.func34.trans (congrArg some (by kernel_rfl))⟩
  t0 := Try.underlying0
  a0 := Try.isAgg0
  z0 := Try.sizeOf0
  v0 := Try.zeroValue0
  t4 := Try.underlying4
  a4 := Try.isAgg4
  z4 := Try.sizeOf4
  v4 := Try.zeroValue4
  t23 := Try.underlying24
  a23 := Try.isAgg24
  z23 := Try.sizeOf24
  v23 := Try.zeroValue24
  t26 := Try.underlying3
  a26 := Try.isAgg3
  z26 := Try.sizeOf3
  v26 := Try.zeroValue3
  t27 := Try.underlying50
  a27 := Try.isAgg50
  z27 := Try.sizeOf50
  v27 := Try.zeroValue50
  t28 := Try.underlying51
  a28 := Try.isAgg51
  z28 := Try.sizeOf51
  v28 := Try.zeroValue51
  t33 := Try.underlying45
  a33 := Try.isAgg45
  z33 := Try.sizeOf45
  v33 := Try.zeroValue45 }
def Try.sorted_ren : Go.Shelf.Ren := ⟨fun | 6 => 16 | 8 => 24 | 9 => 25 | 11 => 30 | 13 => 32 | 12 => 31 | 23 => 44 | 24 => 45 | 14 => 35 | 15 => 36 | 16 => 37 | 17 => 38 | 18 => 39 | 19 => 40 | 20 => 41 | 21 => 42 | 22 => 43 | 25 => 46 | 26 => 47 | 27 => 48 | 28 => 49 | 29 => 50 | 30 => 51 | 31 => 52 | n => n, fun | 26 => 3 | 28 => 51 | 24 => 35 | 0 => 0 | 3 => 3 | 37 => 65 | 48 => 76 | 50 => 78 | 4 => 4 | 40 => 68 | 39 => 67 | 45 => 73 | 5 => 5 | 9 => 9 | 51 => 79 | 55 => 83 | 57 => 85 | 58 => 86 | 33 => 45 | n => n, fun | n => n⟩
theorem Try.sorted : Go.Proofs.SlLaysZI.n6 Try.prog Try.sorted_ren := {
  mixed := by kernel_rfl
  f6 := ⟨Try.f16.name, by decide, Try.func16.trans (congrArg some (by kernel_rfl))⟩
  f8 := ⟨Try.f24.name, by decide, Try.func24.trans (congrArg some (by kernel_rfl))⟩
  f11 := ⟨Try.f30.name, by decide, Try.func30.trans (congrArg some (by kernel_rfl))⟩
  t0 := Try.underlying0
  a0 := Try.isAgg0
  z0 := Try.sizeOf0
  v0 := Try.zeroValue0
  t24 := Try.underlying35
  a24 := Try.isAgg35
  z24 := Try.sizeOf35
  v24 := Try.zeroValue35
  t26 := Try.underlying3
  a26 := Try.isAgg3
  z26 := Try.sizeOf3
  v26 := Try.zeroValue3
  t28 := Try.underlying51
  a28 := Try.isAgg51
  z28 := Try.sizeOf51
  v28 := Try.zeroValue51
  i26 := by kernel_rfl }
end Go.Proofs
