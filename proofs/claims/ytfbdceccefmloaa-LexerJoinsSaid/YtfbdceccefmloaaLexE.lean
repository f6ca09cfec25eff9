import Derived.Test.YtfbdceccefmloaaVi24
import Derived.Test.YtfbdceccefmloaaEnv
namespace Go.Proofs.Ytfbdceccefmloaa
open Go Go.Vi
set_option maxRecDepth 100000
set_option linter.unusedVariables false
def lexLive : Nat → Nat → Option (List Nat)
  | 5, 9 => some [10, 3, 0, 9] | 5, 100009 => some [2, 3, 9] | 5, 18 => some [14, 3, 11] | 5, 100018 => some [2] | 6, 5 => some [6, 5, 1, 0] | 6, 100005 => some [4, 1, 5, 0] | 6, 13 => some [13, 10, 1, 7] | 6, 100013 => some [4]
  | 7, 8 => some [9, 3, 0] | 7, 100008 => some [2, 0, 3] | 8, 4 => some [0, 5] | 8, 100004 => some [2, 3, 4] | 9, 5 => some [6, 0, 5] | 9, 100005 => some [2, 3, 4, 0, 5]
  | 9, 11 => some [6, 8, 0, 5] | 9, 100011 => some [2, 3, 4, 8, 6, 0, 5] | 9, 17 => some [6, 8, 0, 5] | 9, 100017 => some [2, 3, 4, 8, 6, 0, 5] | 9, 25 => some [6, 0, 11, 8, 5, 7] | 9, 100025 => some [2, 3, 4, 8, 6, 0, 11, 5, 7]
  | 11, 4 => some [5, 1, 0] | 11, 100004 => some [4] | 14, 2 => some [7, 2, 1, 0] | 14, 100002 => some [6, 7, 2, 1, 0] | 15, 2 => some [0, 5, 1] | 15, 100002 => some [4, 0, 5]
  | 19, 2 => some [4, 0] | 19, 100002 => some [2, 3] | 23, 2 => some [4, 0] | 23, 100002 => some [2, 3] | 25, 5 => some [21, 0, 4, 20] | 25, 100005 => some [2, 3, 4]
  | _, _ => none
def EL : Env := { T := viT, G := fun _ => [], adopt := fun _ => false, live := lexLive, mat := fun f => match f with | 8 => [(14, 2, 32, true, 4)] | 9 => [(5, 0, 32, true, 4)] | _ => [] }
theorem tok : TOK Try.prog EL.T := TOK.of_all (by kernel_rfl)
theorem mo : Try.prog.follows .mixedOrders = true := by kernel_rfl
theorem ng : ∀ (g : Nat) fn, Try.prog.funcs[g]? = some fn → fn.name ≠ "runtime.NumGoroutine" := by
  have h : Try.prog.funcs.all (fun fn => fn.name != "runtime.NumGoroutine") = true := by kernel_rfl
  intro g fn hf
  have := Array.all_eq_true_iff_forall_mem.1 h fn (Array.mem_of_getElem? hf)
  simpa using this
theorem T : Known EL Try.prog := ⟨tok, mo, ng⟩
end Go.Proofs.Ytfbdceccefmloaa
