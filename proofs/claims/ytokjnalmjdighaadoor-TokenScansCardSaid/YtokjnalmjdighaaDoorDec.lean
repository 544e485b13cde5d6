/-
  The contract of the library's decoder at this translation: its table of numbers and the closed facts, as the shelf's plain mode prints them.
-/
import Derived.Shelf.Spec.DecodeRune
import Derived.Test.YtokjnalmjdighaaDoorProg
namespace Go.Proofs
open Go.Shelf
def Tryd.laysDec_ren : Go.Shelf.Ren := ⟨fun | 32 => 35 | 49 => 45 | n => n, fun | 30 => 22 | 21 => 21 | 3 => 3 | 0 => 0 | 5 => 5 | 4 => 4 | 33 => 60 | 66 => 71 | 25 => 72 | 69 => 75 | 68 => 74 | n => n, fun | 2 => 0 | 3 => 1 | n => n⟩
theorem Tryd.laysDec : Go.Proofs.Lays7.n32 Tryd.prog Tryd.laysDec_ren := {
  mixed := by kernel_rfl
  f32 := Tryd.func35.trans (congrArg some (by kernel_rfl))
  f49 := Tryd.func45.trans (congrArg some (by kernel_rfl))
  t0 := Tryd.underlying0
  a0 := Tryd.isAgg0
  z0 := Tryd.sizeOf0
  v0 := Tryd.zeroValue0
  i0 := by kernel_rfl
  t3 := Tryd.underlying3
  a3 := Tryd.isAgg3
  z3 := Tryd.sizeOf3
  v3 := Tryd.zeroValue3
  i3 := by kernel_rfl
  t4 := Tryd.underlying4
  a4 := Tryd.isAgg4
  z4 := Tryd.sizeOf4
  v4 := Tryd.zeroValue4
  i4 := by kernel_rfl
  t5 := Tryd.underlying5
  a5 := Tryd.isAgg5
  z5 := Tryd.sizeOf5
  v5 := Tryd.zeroValue5
  i5 := by kernel_rfl
  t21 := Tryd.underlying21
  a21 := Tryd.isAgg21
  z21 := Tryd.sizeOf21
  v21 := Tryd.zeroValue21
  i21 := by kernel_rfl
  t25 := Tryd.underlying72
  a25 := Tryd.isAgg72
  z25 := Tryd.sizeOf72
  v25 := Tryd.zeroValue72
  i25 := by kernel_rfl
  t30 := Tryd.underlying22
  a30 := Tryd.isAgg22
  z30 := Tryd.sizeOf22
  v30 := Tryd.zeroValue22
  i30 := by kernel_rfl
  t33 := Tryd.underlying60
  a33 := Tryd.isAgg60
  z33 := Tryd.sizeOf60
  v33 := Tryd.zeroValue60
  i33 := by kernel_rfl
  t66 := Tryd.underlying71
  a66 := Tryd.isAgg71
  z66 := Tryd.sizeOf71
  t68 := Tryd.underlying74
  a68 := Tryd.isAgg74
  z68 := Tryd.sizeOf74
  v68 := Tryd.zeroValue74
  i68 := by kernel_rfl
  t69 := Tryd.underlying75
  a69 := Tryd.isAgg75
  z69 := Tryd.sizeOf75
  v69 := Tryd.zeroValue75
  i69 := by kernel_rfl
  g2 := by kernel_rfl
  g3 := by kernel_rfl }
end Go.Proofs
