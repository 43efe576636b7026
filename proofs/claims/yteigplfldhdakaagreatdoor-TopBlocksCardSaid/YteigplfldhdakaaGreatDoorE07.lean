/-
  DERIVED: THE SHELF's CONTRACTS AT THIS DUMP, IN PLAIN WORDS (tools/lay-plain.mjs out of a module that tools/lay-shelf.mjs's words wrote): Reverse, ContainsFunc, IndexFunc, Clone at structs.
-/
import Derived.Shelf.SlicesQ.Reverse
import Derived.Shelf.SlicesQ.IndexFunc
import Derived.Shelf.SlicesE.Clone
import Derived.Test.YteigplfldhdakaaGreatDoorProg
set_option linter.unusedVariables false
set_option linter.unusedSimpArgs false
namespace Go.Proofs
open Go.Shelf
def Tryz.revStep_ren : Go.Shelf.Ren := ⟨fun | 35 => 88 | n => n, fun | 22 => 129 | 23 => 189 | 3 => 3 | 4 => 4 | 0 => 0 | n => n, fun | n => n⟩
theorem Tryz.revStep : Go.Proofs.SlLaysE0.n35 Tryz.prog Tryz.revStep_ren := {
  mixed := by kernel_rfl
  f35 := ⟨Tryz.f88.name, by decide, Tryz.func88.trans (congrArg some (by kernel_rfl))⟩
  t0 := Tryz.underlying0
  a0 := Tryz.isAgg0
  z0 := Tryz.sizeOf0
  v0 := Tryz.zeroValue0
  t3 := Tryz.underlying3
  a3 := Tryz.isAgg3
  z3 := Tryz.sizeOf3
  v3 := Tryz.zeroValue3
  t4 := Tryz.underlying4
  a4 := Tryz.isAgg4
  z4 := Tryz.sizeOf4
  v4 := Tryz.zeroValue4
  t22 := Tryz.underlying129
  a22 := Tryz.isAgg129
  z22 := Tryz.sizeOf129
  v22 := Tryz.zeroValue129 }
def Tryz.hasStep_ren : Go.Shelf.Ren := ⟨fun | 8 => 133 | 6 => 180 | n => n, fun | 22 => 129 | 23 => 189 | 25 => 249 | 4 => 4 | 3 => 3 | 0 => 0 | n => n, fun | n => n⟩
theorem Tryz.hasStep : Go.Proofs.SlLaysH0.n8 Tryz.prog Tryz.hasStep_ren := {
  mixed := by kernel_rfl
  f6 := ⟨Tryz.f180.name, by decide, Tryz.func180.trans (congrArg some (by kernel_rfl))⟩
  f8 := ⟨Tryz.f133.name, by decide, Tryz.func133.trans (congrArg some (by kernel_rfl))⟩
  t0 := Tryz.underlying0
  a0 := Tryz.isAgg0
  z0 := Tryz.sizeOf0
  v0 := Tryz.zeroValue0
  t3 := Tryz.underlying3
  a3 := Tryz.isAgg3
  z3 := Tryz.sizeOf3
  v3 := Tryz.zeroValue3
  t4 := Tryz.underlying4
  a4 := Tryz.isAgg4
  z4 := Tryz.sizeOf4
  v4 := Tryz.zeroValue4
  t22 := Tryz.underlying129
  a22 := Tryz.isAgg129
  z22 := Tryz.sizeOf129
  v22 := Tryz.zeroValue129
  t25 := Tryz.underlying249
  a25 := Tryz.isAgg249
  z25 := Tryz.sizeOf249
  v25 := Tryz.zeroValue249 }
def Tryz.idxStep_ren : Go.Shelf.Ren := ⟨fun | 6 => 180 | n => n, fun | 22 => 129 | 23 => 189 | 25 => 249 | 3 => 3 | 0 => 0 | 4 => 4 | n => n, fun | n => n⟩
theorem Tryz.idxStep : Go.Proofs.SlLaysH0.n6 Tryz.prog Tryz.idxStep_ren := {
  mixed := by kernel_rfl
  f6 := ⟨Tryz.f180.name, by decide, Tryz.func180.trans (congrArg some (by kernel_rfl))⟩
  t0 := Tryz.underlying0
  a0 := Tryz.isAgg0
  z0 := Tryz.sizeOf0
  v0 := Tryz.zeroValue0
  t3 := Tryz.underlying3
  a3 := Tryz.isAgg3
  z3 := Tryz.sizeOf3
  v3 := Tryz.zeroValue3
  t4 := Tryz.underlying4
  a4 := Tryz.isAgg4
  z4 := Tryz.sizeOf4
  v4 := Tryz.zeroValue4
  t22 := Tryz.underlying129
  a22 := Tryz.isAgg129
  z22 := Tryz.sizeOf129
  v22 := Tryz.zeroValue129
  t25 := Tryz.underlying249
  a25 := Tryz.isAgg249
  z25 := Tryz.sizeOf249
  v25 := Tryz.zeroValue249 }
def Tryz.idxWord_ren : Go.Shelf.Ren := ⟨fun | 6 => 151 | n => n, fun | 22 => 44 | 23 => 81 | 25 => 268 | 3 => 3 | 0 => 0 | 4 => 4 | n => n, fun | n => n⟩
theorem Tryz.idxWord : Go.Proofs.SlLaysH0.n6 Tryz.prog Tryz.idxWord_ren := {
  mixed := by kernel_rfl
  f6 := ⟨Tryz.f151.name, by decide, Tryz.func151.trans (congrArg some (by kernel_rfl))⟩
  t0 := Tryz.underlying0
  a0 := Tryz.isAgg0
  z0 := Tryz.sizeOf0
  v0 := Tryz.zeroValue0
  t3 := Tryz.underlying3
  a3 := Tryz.isAgg3
  z3 := Tryz.sizeOf3
  v3 := Tryz.zeroValue3
  t4 := Tryz.underlying4
  a4 := Tryz.isAgg4
  z4 := Tryz.sizeOf4
  v4 := Tryz.zeroValue4
  t22 := Tryz.underlying44
  a22 := Tryz.isAgg44
  z22 := Tryz.sizeOf44
  v22 := Tryz.zeroValue44
  t25 := Tryz.underlying268
  a25 := Tryz.isAgg268
  z25 := Tryz.sizeOf268
  v25 := Tryz.zeroValue268 }
def Tryz.cloneRule_ren : Go.Shelf.Ren := ⟨fun | 41 => 72 | n => n, fun | 22 => 29 | 23 => 35 | 4 => 4 | n => n, fun | n => n⟩
theorem Tryz.cloneRule : Go.Proofs.SlLaysE0.n41 Tryz.prog Tryz.cloneRule_ren := {
  mixed := by kernel_rfl
  f41 := ⟨Tryz.f72.name, by decide, Tryz.func72.trans (congrArg some (by kernel_rfl))⟩
  t4 := Tryz.underlying4
  a4 := Tryz.isAgg4
  z4 := Tryz.sizeOf4
  v4 := Tryz.zeroValue4
  t22 := Tryz.underlying29
  a22 := Tryz.isAgg29
  z22 := Tryz.sizeOf29
  v22 := Tryz.zeroValue29 }
def Tryz.cloneWord_ren : Go.Shelf.Ren := ⟨fun | 41 => 73 | n => n, fun | 22 => 44 | 23 => 81 | 4 => 4 | n => n, fun | n => n⟩
theorem Tryz.cloneWord : Go.Proofs.SlLaysE0.n41 Tryz.prog Tryz.cloneWord_ren := {
  mixed := by kernel_rfl
  f41 := ⟨Tryz.f73.name, by decide, Tryz.func73.trans (congrArg some (by kernel_rfl))⟩
  t4 := Tryz.underlying4
  a4 := Tryz.isAgg4
  z4 := Tryz.sizeOf4
  v4 := Tryz.zeroValue4
  t22 := Tryz.underlying44
  a22 := Tryz.isAgg44
  z22 := Tryz.sizeOf44
  v22 := Tryz.zeroValue44 }
def Tryz.cloneEdge_ren : Go.Shelf.Ren := ⟨fun | 41 => 252 | n => n, fun | 22 => 158 | 23 => 220 | 4 => 4 | n => n, fun | n => n⟩
theorem Tryz.cloneEdge : Go.Proofs.SlLaysE0.n41 Tryz.prog Tryz.cloneEdge_ren := {
  mixed := by kernel_rfl
  f41 := ⟨Tryz.f252.name, by decide, Tryz.func252.trans (congrArg some (by kernel_rfl))⟩
  t4 := Tryz.underlying4
  a4 := Tryz.isAgg4
  z4 := Tryz.sizeOf4
  v4 := Tryz.zeroValue4
  t22 := Tryz.underlying158
  a22 := Tryz.isAgg158
  z22 := Tryz.sizeOf158
  v22 := Tryz.zeroValue158 }
end Go.Proofs
