import Derived.Test.YtfbdceccefmloabVi24
import Derived.Test.YtfbdceccefmloabEnv
namespace Go.Proofs.Ytfbdceccefmloab
open Go Go.Vi
set_option maxRecDepth 100000
set_option linter.unusedVariables false
def lexLive : Nat → Nat → Option (List Nat)
  | 3, 5 => some [6, 5, 0, 1] | 3, 100005 => some [4, 5, 0, 1] | 3, 9 => some [7, 5, 0, 1] | 3, 100009 => some [4, 0, 1, 5]
  | 5, 4 => some [0, 5] | 5, 100004 => some [2, 3, 4] | 7, 2 => some [0, 5, 1] | 7, 100002 => some [4, 0, 5]
  | 12, 2 => some [4, 0] | 12, 100002 => some [2, 3] | 14, 5 => some [21, 0, 4, 20] | 14, 100005 => some [2, 3, 4]
  | _, _ => none
def EL : Env := { T := viT, G := fun _ => [], adopt := fun _ => false, live := lexLive, mat := fun f => match f with | 5 => [(14, 2, 29, true, 4)] | _ => [] }
theorem tok : TOK Try.prog EL.T := TOK.of_all (by kernel_rfl)
theorem mo : Try.prog.follows .mixedOrders = true := by kernel_rfl
theorem ng : ∀ (g : Nat) fn, Try.prog.funcs[g]? = some fn → fn.name ≠ "runtime.NumGoroutine" := by
  have h : Try.prog.funcs.all (fun fn => fn.name != "runtime.NumGoroutine") = true := by kernel_rfl
  intro g fn hf
  have := Array.all_eq_true_iff_forall_mem.1 h fn (Array.mem_of_getElem? hf)
  simpa using this
theorem T : Known EL Try.prog := ⟨tok, mo, ng⟩
end Go.Proofs.Ytfbdceccefmloab
