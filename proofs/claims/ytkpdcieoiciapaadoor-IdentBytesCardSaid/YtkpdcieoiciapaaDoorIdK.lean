/- What the rows' condition gives: the cells of the listed variables. -/
import Derived.Test.YtkpdcieoiciapaaDoorTie
import Derived.Test.YtkpdcieoiciapaaDoorE
import Derived.Test.YtkpdcieoiciapaaDoorVi27
import Derived.ProofKit
import Derived.LaidMore
import Derived.OpenShut
import Derived.Stop.Joined
import Derived.Shelf.Vars
import Derived.Lay
namespace Go.Proofs.YtkpdcieoiciapaaDoor
open Go Go.Vi Go.ChangeShapes Go.WideShapes Go.ChangeAt Go.WideMaps Go.WideElems Go.RowKit
set_option maxRecDepth 100000
set_option linter.unusedVariables false
set_option linter.unusedSimpArgs false
abbrev laidL : List (String × DataW Unit) := Rows.identValidRow.laid
theorem laidPlain : (laidL.all fun x => x.2.handleName?.isNone) = true := by kernel_rfl
/-- A heap that meets the condition. -/
theorem met0 (os : Os) (args : Array Value) : laidMetH Tryd.prog laidL ((World.laidAll Tryd.prog os laidL).forCall (fun _ _ => 0) ⟨#[], args, []⟩).memory := by
  rw [MakeChecks.laidMetH_plain _ _ _ laidPlain]
  exact laidMet_laidAll _ (by kernel_rfl) (by kernel_rfl)
theorem shape0 (os : Os) (args : Array Value) : ((World.laidAll Tryd.prog os laidL).forCall (fun _ _ => 0) ⟨#[], args, []⟩).Shaped Tryd.prog := World.shaped_of_ZipB (by kernel_rfl) (by kernel_rfl)
/-- What the condition gives. -/
theorem of_laid {W : World} (h : laidMetH Tryd.prog laidL W) (hs : W.ShapedOpen Tryd.prog) : GOK EL (allOf W) W := by
  obtain ⟨c1, f1, p1, hv1, ht1⟩ := laid_at laidPlain h 2 (n := "internal/strconv.uint64pow10") (d := Rows.laid_internal_strconv_uint64pow10) (g := 2) (t := 122) rfl (by kernel_rfl) (by kernel_rfl)
  obtain ⟨c2, f2, p2, hv2, ht2⟩ := laid_at laidPlain h 5 (n := "strconv.ErrSyntax") (d := Rows.laid_strconv_ErrSyntax) (g := 0) (t := 62) rfl (by kernel_rfl) (by kernel_rfl)
  obtain ⟨m, hm⟩ := cell_of_shapedOpen_int (P := Tryd.prog) (g := 3) (t := 3) (zero := #[.int .i64 0]) (k := .i64) hs (of_decide_eq_true (by kernel_rfl)) (by kernel_rfl) rfl (by kernel_rfl) (by kernel_rfl) Tryd.underlying3
  have e1 : c1 = ((List.range 20).map fun i => Value.int .u64 ((10 ^ i : Nat) : Int)).toArray := by
    have := ints_of (n := 20) (e := 69) (k := .u64) (bs := (List.range 20).map fun i => ((10 ^ i : Nat) : Int)) Tryd.underlying122 Tryd.underlying69 (by kernel_rfl) (by kernel_rfl) ht1 (by kernel_rfl)
    rw [List.map_map] at this
    exact (Array.toArray_toList (xs := c1)).symm.trans (congrArg List.toArray this)
  obtain ⟨_, u2, v2, e2, _, _⟩ := iface_of_trod Tryd.underlying62 ht2
  have b1 := var_block (by kernel_rfl : Tryd.prog.globalNamed "internal/strconv.uint64pow10" = some 2) hv1
  have b2 := var_block (by kernel_rfl : Tryd.prog.globalNamed "strconv.ErrSyntax" = some 0) hv2
  have k2 := World.var?_cell (by kernel_rfl : Tryd.prog.globalNamed "strconv.ErrSyntax" = some 0) hv2 0
  have k2' : W.cell? ⟨0, 0, none⟩ = some (.iface u2 v2) := by rw [k2, ← Array.getElem?_toList, e2]; rfl
  have hin : ∀ {g : Nat} {u : Value}, W.cell? ⟨g, 0, none⟩ = some u → g < W.heap.size := by
    intro g u hu
    unfold World.cell? at hu
    split at hu
    · rename_i hq; exact (Array.getElem?_eq_some_iff.1 hq).1
    · cases hu
  refine ⟨fun g hg => ?_, fun g cs hg => ?_⟩
  · by_cases h1 : g = 0
    · subst h1
      refine ⟨hin k2', fun j x hj => ?_⟩
      match j, hj with
      | 0, hj => obtain rfl := Option.some.inj hj; exact ⟨_, k2', .err⟩
    · by_cases h2 : g = 3
      · subst h2
        refine ⟨hin hm, fun j x hj => ?_⟩
        match j, hj with
        | 0, hj => obtain rfl := Option.some.inj hj; exact ⟨_, hm, .unk⟩
      · exact absurd (show elG g = [] by unfold elG; split <;> first | rfl | (exfalso; simp_all; done)) hg
  · by_cases h1 : g = 2
    · subst h1
      obtain rfl := Option.some.inj (show some _ = some cs from hg)
      rw [← e1]
      exact b1
    · have hx : elX g = none := by unfold elX; split <;> first | rfl | (exfalso; simp_all; done)
      exact absurd (hx.symm.trans hg) (by simp)
noncomputable section
end
end Go.Proofs.YtkpdcieoiciapaaDoor
