/- The shelf's contracts at this program, in plain words. -/
import Derived.Shelf.Bytes.SlEqualAll
import Derived.Ground.NamesProg
import Derived.Test.YtkpdcieoiciapaaDoorProg
namespace Go.Proofs
open Go.Shelf
def Tryd.lays115_ren : Go.Shelf.Ren := ⟨fun | 115 => 34 | n => n, fun | 37 => 45 | 4 => 4 | 9 => 9 | 5 => 5 | n => n, fun | n => n⟩
theorem Tryd.lays115 : Go.Proofs.Lays.nb115 Tryd.prog Tryd.lays115_ren := {
  mixed := by kernel_rfl
  f115 := Tryd.func34.trans (congrArg some (by kernel_rfl))
  t4 := Tryd.underlying4
  a4 := Tryd.isAgg4
  z4 := Tryd.sizeOf4
  v4 := Tryd.zeroValue4
  t9 := Tryd.underlying9
  a9 := Tryd.isAgg9
  z9 := Tryd.sizeOf9
  v9 := Tryd.zeroValue9
  t37 := Tryd.underlying45
  a37 := Tryd.isAgg45
  z37 := Tryd.sizeOf45
  v37 := Tryd.zeroValue45
  t5 := Tryd.underlying5
  a5 := Tryd.isAgg5
  z5 := Tryd.sizeOf5
  v5 := Tryd.zeroValue5 }
end Go.Proofs
