/- The interpreter's tables of this program, held against it. -/
import Derived.Test.YtkpdcieoiciapaaDoorVi26
import Derived.Test.YtkpdcieoiciapaaDoorEnv
namespace Go.Proofs.YtkpdcieoiciapaaDoor
open Go Go.Vi
set_option maxRecDepth 100000
set_option linter.unusedVariables false
def elLive : Nat → Nat → Option (List Nat)
  | 13, 5 => some [6, 5, 0, 3] | 13, 100005 => some [4, 0, 5, 3] | 13, 10 => some [7, 0, 5, 3] | 13, 100010 => some [4, 3, 0, 5] | 21, 6 => some [2, 24, 5, 22, 0, 23] | 21, 100006 => some [2, 3, 0, 5] | 31, 4 => some [2, 13, 5, 6, 0, 7] | 31, 100004 => some [2, 3, 4, 6, 7, 5] | 32, 4 => some [2, 7, 6, 5, 0] | 32, 100004 => some [2, 3, 4, 6, 5] | 33, 5 => some [17, 5, 16] | 33, 100005 => some [4, 5] | 37, 2 => some [5, 3, 0] | 37, 100002 => some [4] | 39, 2 => some [6, 3, 2] | 39, 100002 => some [4] | 45, 3 => some [6, 5, 0, 1] | 45, 100003 => some [4, 5] | 46, 5 => some [5, 0, 4] | 46, 100005 => some [2, 3, 4] | 48, 3 => some [6, 5, 0] | 48, 100003 => some [2, 3, 4] | 49, 3 => some [6, 5, 0] | 49, 100003 => some [2, 3, 4] | 50, 2 => some [1, 5, 0] | 50, 100002 => some [4, 1, 5, 0] | 51, 2 => some [1, 5] | 51, 100002 => some [4, 1, 5] | 54, 4 => some [3, 0] | 54, 100004 => some [2, 0] | 54, 9 => some [5, 3, 4, 0] | 54, 100009 => some [2, 3, 0] | 57, 11 => some [10, 9, 0, 1, 2, 3] | 57, 100011 => some [8, 10, 9, 0] | 58, 10 => some [49, 6, 47, 5, 48] | 58, 100010 => some [2, 3, 6, 5] | 61, 2 => some [4, 2, 1, 0, 11, 10, 3] | 61, 100002 => some [] | 63, 2 => some [8, 0, 3, 7] | 63, 100002 => some [4] | 65, 6 => some [7, 0, 6, 1] | 65, 100006 => some [4, 6, 0, 1] | 66, 6 => some [5, 1, 0] | 66, 100006 => some [4] | 73, 1 => some [0, 8, 3, 1, 2] | 73, 100001 => some [] | 73, 4 => some [9, 0, 3, 1, 2, 8] | 73, 100004 => some [0, 3, 1, 2, 8] | 74, 4 => some [11, 3, 8, 10, 0, 9] | 74, 100004 => some [3, 8, 9, 0, 10] | 74, 8 => some [12, 3, 8, 9, 0] | 74, 100008 => some [] | 75, 5 => some [11, 0, 1, 8, 10, 9] | 75, 100005 => some [] | 77, 2 => some [9, 8, 0] | 77, 100002 => some [] | 78, 3 => some [9, 10, 0, 3, 2, 1] | 78, 100003 => some [8] | 78, 5 => some [9, 0, 3, 2, 1, 10] | 78, 100005 => some [8, 9, 0, 3, 2, 1, 10] | 78, 14 => some [9, 0, 3, 2, 1, 10, 11] | 78, 100014 => some [8, 9, 0, 3, 2, 1, 10] | 78, 20 => some [9, 0, 3, 2, 1, 10, 12] | 78, 100020 => some [8, 9, 0, 3, 2, 1, 10] | 79, 3 => some [11, 12, 0, 1, 4] | 79, 100003 => some [10, 11, 12, 0, 1, 4] | 79, 5 => some [12, 11, 0, 1, 4] | 79, 100005 => some [10, 11, 0, 1, 4, 12] | 80, 3 => some [12, 13, 0, 1, 4] | 80, 100003 => some [10, 11, 13, 0, 1, 4, 12] | 80, 5 => some [13, 0, 1, 4, 12] | 80, 100005 => some [10, 11, 13, 0, 1, 4, 12] | 80, 13 => some [12, 13, 0, 1, 4] | 80, 100013 => some [10, 11, 13, 0, 1, 4, 12] | 80, 15 => some [13, 0, 1, 4, 12] | 80, 100015 => some [10, 11, 13, 0, 1, 4, 12] | 85, 1 => some [4, 0, 1] | 85, 100001 => some [0, 4, 1] | 86, 11 => some [14, 1, 12, 16, 13, 11, 0, 10, 4, 3, 15] | 86, 100011 => some [10, 11, 12, 0, 4, 3, 1, 13] | 86, 18 => some [12, 17, 1, 13, 11, 0, 10, 4, 3] | 86, 100018 => some [10, 11, 12, 0, 4, 3, 1, 13] | 87, 2 => some [2, 4] | 87, 100002 => some [2] | 90, 15 => some [1, 0, 9, 5, 10, 7, 8, 6] | 90, 100015 => some [4] | 91, 36 => some [101, 11, 1, 13, 10, 8, 99, 9, 12, 100] | 91, 100036 => some [6, 7, 13, 9, 12] | 94, 1 => some [10, 3, 0, 4, 2] | 94, 100001 => some [] | 107, 5 => some [9, 0, 8, 7, 1, 5, 6] | 107, 100005 => some [4, 7, 1, 0, 5, 6, 8] | 107, 11 => some [7, 1, 0, 5, 10, 6, 8] | 107, 100011 => some [4] | 109, 10 => some [4, 3, 0, 5] | 109, 100010 => some [2, 3] | 114, 3 => some [5, 0, 4] | 114, 100003 => some [2, 3, 4, 0] | 114, 8 => some [8, 7, 6, 4] | 114, 100008 => some [2, 3, 6, 4]
  | _, _ => none
def elMat : Nat → List (Nat × Nat × Nat × Bool × Nat)
  | 50 => [(5, 0, 5, true, 1)] 
  | _ => []
def elCut : Nat → List Nat
  | 60 => [10]
  | _ => []
def elG : Nat → List At
  | 0 => [.err] | 3 => [.unk .i64]
  | _ => []
def elX : Nat → Option (Array Value)
  | 2 => some (((List.range 20).map fun i => Value.int .u64 ((10 ^ i : Nat) : Int)).toArray)
  | _ => none
def EL : Env := { T := viT, G := elG, X := elX, adopt := fun f => [].contains f, move := fun f => [].contains f, cut := elCut, live := elLive, mat := elMat }
theorem tok : TOK Tryd.prog EL.T := TOK.of_all (by kernel_rfl)
theorem mo : Tryd.prog.follows .mixedOrders = true := by kernel_rfl
theorem ng : ∀ (g : Nat) fn, Tryd.prog.funcs[g]? = some fn → fn.name ≠ "runtime.NumGoroutine" := by
  have h : Tryd.prog.funcs.all (fun fn => fn.name != "runtime.NumGoroutine") = true := by kernel_rfl
  intro g fn hf
  have := Array.all_eq_true_iff_forall_mem.1 h fn (Array.mem_of_getElem? hf)
  simpa using this
theorem T : Known EL Tryd.prog := ⟨tok, mo, ng⟩
end Go.Proofs.YtkpdcieoiciapaaDoor
