import Derived.Test.YtfbdceccefmloaaDoorVi24
import Derived.Test.YtfbdceccefmloaaDoorEnv
namespace Go.Proofs.YtfbdceccefmloaaDoor
open Go Go.Vi
set_option maxRecDepth 100000
def tbl : List Bool := [false,false,false,false,false,false, false,true,true,true,true,false, false,true,true,false,false,false, false,true,false,true,false,false, false,true,false,false,false,false, false,false,false,false,false,false]
def modeLive : Nat → Nat → Option (List Nat)
  | 9, 8 => some [7, 0, 1, 6, 5] | 9, 100008 => some [4, 5, 1, 6] | 24, 5 => some [14, 3, 12, 13] | 24, 100005 => some [2, 3]
  | 25, 3 => some [4, 0, 3] | 25, 100003 => some [2, 3] | _, _ => none
def EM : Env := { T := viT, G := fun g => match g with | 0 => tbl.map fun b => .v (.bool b) | _ => [], adopt := fun _ => false, live := modeLive, mat := fun f => match f with | 19 => [(3, 0, 3, true, 1)] | _ => [] }
theorem tok : TOK Tryd.prog EM.T := TOK.of_all (by kernel_rfl)
theorem mo : Tryd.prog.follows .mixedOrders = true := by kernel_rfl
theorem ng : ∀ (g : Nat) fn, Tryd.prog.funcs[g]? = some fn → fn.name ≠ "runtime.NumGoroutine" := by
  have h : Tryd.prog.funcs.all (fun fn => fn.name != "runtime.NumGoroutine") = true := by kernel_rfl
  intro g fn hf
  have := Array.all_eq_true_iff_forall_mem.1 h fn (Array.mem_of_getElem? hf)
  simpa using this
end Go.Proofs.YtfbdceccefmloaaDoor
