import Derived.Test.YtfbdceccefmloaaDoorModeH
import Derived.Test.YtfbdceccefmloaaDoorTie
import Derived.ProofKit
import Derived.LaidMore
import Derived.OpenShut
import Derived.Stop.Joined
namespace Go.Proofs.YtfbdceccefmloaaDoor
open Go Go.Vi Go.ChangeShapes Go.WideShapes Go.ChangeAt Go.WideMaps Go.WideElems Go.RowKit
set_option maxRecDepth 100000
set_option linter.unusedVariables false
abbrev laidL : List (String × DataW Unit) := [("clusterlocks/mode.together", Rows.laid_clusterlocks_mode_together)]
theorem gTog : Tryd.prog.globalNamed "clusterlocks/mode.together" = some 0 := by kernel_rfl
theorem tTog : (Tryd.prog.globals[0]?).map (·.type) = some 36 := by kernel_rfl
/-- The door's own heap meets the condition. -/
theorem door_met (os : Os) (args : Array Value) : laidMetH Tryd.prog laidL ((World.doorLaid Tryd.prog 400 os).forCall (fun _ _ => 0) ⟨#[], args, []⟩).memory :=
  laidMetH_of_parts3 (fuel := 8) (laidMet_of_run' 8 (by kernel_rfl) (by kernel_rfl)) (by kernel_rfl) (by kernel_rfl)
def rowB (i : Nat) : List Bool := (tbl.drop (i * 6)).take 6
/-- What the condition gives: the table's cells. -/
theorem of_laid {W : World} (h : laidMetH Tryd.prog laidL W) : GOK EM (allOf W) W := by
  rw [MakeChecks.laidMetH_plain _ _ _ (by kernel_rfl)] at h
  obtain ⟨ps, ⟨g0, t0, cs0, f0, p0, q0, hg0, ht0, hv0, hd0, _, _⟩, _, _⟩ := h
  obtain rfl := Option.some.inj (gTog.symm.trans hg0)
  obtain rfl := Option.some.inj (tTog.symm.trans ht0)
  obtain ⟨xs, m1, rfl, hx1, hlen, hn, hel⟩ := DataW.trod_array Tryd.underlying36 hd0
  have c36 : Tryd.prog.cellsOf 36 = 36 := by kernel_rfl
  have c35 : Tryd.prog.cellsOf 35 = 6 := by kernel_rfl
  have c4 : Tryd.prog.cellsOf 4 = 1 := by kernel_rfl
  rw [c36] at hlen
  simp only [Prod.mk.injEq] at hx1
  have hx2 : (xs.map fun x => x.1) = (List.range 6).map fun i => DataW.agg ((rowB i).map fun b => DataW.lit (.bool b)) := DataW.agg.inj (hx1.1.symm.trans rfl)
  have hcs : cs0.toList = tbl.map .bool := by
    apply List.ext_getElem?
    intro j
    rcases Nat.lt_or_ge j 36 with hj | hj
    · have hi : j / 6 < 6 := by omega
      have h1 := hel (j / 6) hi
      have hxi : xs[j / 6]? = some xs[j / 6] := List.getElem?_eq_getElem (by omega)
      rw [hxi, c35] at h1
      have hd : (xs[j / 6]).1 = .agg ((rowB (j / 6)).map fun b => .lit (.bool b)) := by
        have h2 : (xs.map fun x => x.1)[j / 6]? = some (xs[j / 6]).1 := by rw [List.getElem?_map, hxi]; rfl
        rw [hx2, List.getElem?_map, List.getElem?_range hi] at h2
        exact (Option.some.inj h2).symm
      have h3 := bools_of Tryd.underlying35 Tryd.underlying4 c4 c35 h1 hd
      have h4 : (List.take 6 (List.drop (j / 6 * 6) cs0.toList))[j % 6]? = cs0.toList[j]? := by
        rw [List.getElem?_take_of_lt (by omega), List.getElem?_drop]; congr 1; omega
      rw [← h4, h3]
      have h5 : ((rowB (j / 6)).map Value.bool)[j % 6]? = (tbl.map Value.bool)[j]? := by
        unfold rowB
        rw [List.getElem?_map, List.getElem?_take_of_lt (by omega), List.getElem?_drop, List.getElem?_map]; congr 2; omega
      exact h5
    · rw [List.getElem?_eq_none (by omega), List.getElem?_eq_none (by simpa [tbl] using hj)]
  refine ⟨fun g hg => ?_⟩
  have g0 : g = 0 := by
    rcases g with _ | g
    · rfl
    · exact absurd rfl hg
  subst g0
  have cell : ∀ (j : Nat) b, tbl[j]? = some b → W.cell? ⟨0, j, none⟩ = some (.bool b) := by
    intro j b hb
    rw [World.var?_cell hg0 hv0 j, ← Array.getElem?_toList, hcs, List.getElem?_map, hb]; rfl
  constructor
  · have := cell 0 false rfl
    unfold World.cell? at this
    split at this
    · rename_i hq; exact (Array.getElem?_eq_some_iff.1 hq).1
    · cases this
  · intro j x hj
    have hj' : (tbl.map fun b => At.v (.bool b))[j]? = some x := hj
    rw [List.getElem?_map, Option.map_eq_some_iff] at hj'
    obtain ⟨b, hb, rfl⟩ := hj'
    exact ⟨_, cell j b hb, .v rfl⟩
end Go.Proofs.YtfbdceccefmloaaDoor
