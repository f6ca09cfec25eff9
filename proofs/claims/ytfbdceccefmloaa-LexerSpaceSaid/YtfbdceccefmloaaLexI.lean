import Derived.Test.YtfbdceccefmloaaLexG
namespace Go.Proofs.Ytfbdceccefmloaa
open Go Go.Vi Go.IntWalk
set_option maxRecDepth 100000
set_option linter.unusedVariables false
theorem e10 : VS 1 o8 10 [] = some (bv true, []) := by kernel_rfl
def o10 : Orc := over o8 10 (F0 (.ok (bv true, [])))
theorem c10 : CallOK EL Try.prog o10 := ok_0 T c8 fun x hx => ⟨noLo, 1, loops_no, e10.trans hx⟩
theorem q4 (c : Int) : VS 1 o10 4 [uv c] = some (Sv.one (At.v (Value.bool (bif true then spaceB c == spaceB c else false))), []) := by kernel_rfl
theorem e4 (c : Int) : VS 1 o10 4 [uv c] = some (bv true, []) := by
  rw [q4, beq_self_eq_true]; rfl
end Go.Proofs.Ytfbdceccefmloaa
