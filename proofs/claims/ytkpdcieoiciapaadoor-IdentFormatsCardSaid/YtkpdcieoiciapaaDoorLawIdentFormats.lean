/- The law 'IdentFormats': it returns true for every input, and leaves its arguments as they were. Condition: the listed package-level variables read as their text lays them (the card ties it). Proved over the value interpreter; this text is the row and the card. -/
import Derived.Test.YtkpdcieoiciapaaDoorIdP
import Derived.Test.YtkpdcieoiciapaaDoorIdK
import Derived.Test.YtkpdcieoiciapaaDoorCards
import Derived.WalkKit
import Derived.ProofKit
import Derived.OpenShut
import Derived.ShutString
import Derived.ChangeOld
import Derived.Below
import Derived.SizedLaws
import Derived.Carry
import Derived.LaidMore
import Derived.Stop.Joined
import Derived.SevenTiedAt
namespace Go.Proofs.YtkpdcieoiciapaaDoor.IdentFormats
open Go Go.Vi Go.ChangeShapes Go.WideShapes Go.ChangeAt Go.RowKit
open Go.ChangeMaps (open_string shut_string)
set_option linter.unusedVariables false
set_option maxRecDepth 100000
theorem own : ownKnob Tryd.prog.godebug = none := by kernel_rfl
theorem laidOut : laidOutB Tryd.prog = true := by kernel_rfl
theorem lifted (os : Os) (started : os.Started) (H : Type) (enc : TypeId × Value → H) :
    ReturnsInHanded {} Tryd.checked os 5 .any (fun w args => (Rows.identFormatsSpec.pre enc Tryd.prog Tryd.f5 [] false w args ∧ laidMetH Tryd.prog laidL w) ∧ sizedMet enc Tryd.prog Tryd.f5 (OpenSpec.ofChange Rows.identFormatsSpec) false w args) (Rows.identFormatsSpec.post enc Tryd.prog Tryd.f5 false true false false) := by
  refine returnsIn_both (C := Tryd.checked) (X := fun w _ => laidMetH Tryd.prog laidL w) (fun _ _ _ hh h => h.of_heap hh) own started (by kernel_rfl) Tryd.func5
    (ChangeSpec.witness_shaped (enc := enc) (C := Tryd.checked) (os := os) (X := fun w _ => laidMetH Tryd.prog laidL w) false (World.laidAll Tryd.prog os laidL) #[.agg #[.int .i64 0, .int .i64 0, .int .i64 0]] 8 (World.laidAll_os _ _ _) (shape0 os _) (by kernel_rfl) (by kernel_rfl) (by kernel_rfl) (met0 os _)) ?_
  intro W base args ds gs before hval0 hW hcnd hsz0 hL hS
  have hsz : (DataW.weightsEach Tryd.prog (Tryd.f5.params.toList ++ Rows.identFormatsSpec.plain.varTypes Tryd.prog) (ds ++ gs)).all (· ≤ reachBytes) = true := hsz0
  have hval : ∀ (j : Nat) t v, Tryd.f5.params[j]? = some t → args[j]? = some v → Value.okWide Tryd.prog W .any base t v := hval0
  have hW' := hW
  obtain ⟨p, q, hA0, hV, rfl, hfz, hnd⟩ := hW
  have hA : DataW.TrodAll enc Tryd.prog W 0 (fun _ => true) true Tryd.f5.params.toList args.toList ds p := hA0
  rw [Tryd.params5] at hA hval hsz
  obtain ⟨v0, vs0, d0, ds0, p0, q0, hargs, rfl, rfl, h0, r0⟩ := trodAll_cons hA
  obtain ⟨rfl, rfl, rfl⟩ := trodAll_nil r0
  obtain rfl : args = #[v0] := by cases args; simp_all
  obtain ⟨rfl, rfl⟩ := trodVars_none hV
  obtain ⟨a0, e0, k0⟩ := open_flat (n := 4) (ks := [.i .i64, .i .i64, .i .i64]) Tryd.underlying23 (by kernel_rfl) (hval 0 23 v0 rfl rfl) h0
  obtain ⟨b0⟩ := a0
  have k0 : CKs _ b0 := k0
  have w0 := k0
  obtain ⟨z0_0, _, rfl, _, k0⟩ := k0.c_i
  obtain ⟨z0_1, _, rfl, _, k0⟩ := k0.c_i
  obtain ⟨z0_2, _, rfl, _, k0⟩ := k0.c_i
  obtain rfl := k0.c_n
  subst e0
  have t0 := h0
  have lt0 : ∀ x ∈ p0, x.block < W.heap.size := by obtain ⟨m, hm⟩ := t0; exact DataW.trod_lt m _ _ _ hm
  clear hA0 hval0 hsz0 hsz
  refine (law_walk (call_at T c22 loops_no (e5 z0_0 z0_1 z0_2)) rfl (rel_cons (rs_agg w0.one) rel_nil) (of_laid hL hS)).mono fun e W' ⟨he, bel⟩ => ?_
  subst he
  exact ⟨_, rfl, _, _, _, [], _, [], hW', trodAll_mk1 (shut_bool Tryd.underlying4 _), (trodAll_cons_mk (Below.trod laidOut (by kernel_rfl) (of_decide_eq_true (by kernel_rfl)) t0 bel lt0) trodAll_mk0), rfl, bel.frame _, fun h => by cases h⟩
theorem over : Rows.identFormatsRow.holds Tryd.pinned (OpenSpec.ofChange Rows.identFormatsSpec) :=
  OpenClaim.holds_of_wide 5 Tryd.f5 rfl rfl rfl rfl rfl rfl rfl ⟨rfl, rfl, rfl, rfl, rfl⟩ rfl rfl rfl rfl rfl (by kernel_rfl) Tryd.func5 (by kernel_rfl)
    (of_decide_eq_true (by kernel_rfl)) (by unfold Func.isWrapper; first | (rw [if_pos (by decide +kernel)]; kernel_rfl) | (rw [if_neg (by decide +kernel)]; exact ⟨rfl, rfl⟩))
    (fun os started H enc _ => lifted os started H enc)
theorem proved : Claim7.holds Tryd.pinned (.plain (OpenSpec.ofChange Rows.identFormatsSpec)) Rows.identFormatsCard :=
  Claim7.holds_tied_plain_at .later [] [.data, .data, .data, .data, .sentinel, .sentinel, .pinned] true (true, "d8cea11b42323dbf1d3ca4392cde3b0a25057e10c8a5977fcf214ffd5c596a77") true
    over (fun _ h => by cases h) (by kernel_rfl) (fun _ h => by cases h) identFormats_row_tie rfl ⟨rfl, rfl⟩ (by kernel_rfl) rfl
    (fun f fn hf hfn => by
      obtain rfl : f = 5 := (Option.some.inj ((show Tryd.prog.funcNamed Rows.identFormatsRow.func = some 5 by kernel_rfl).symm.trans hf)).symm
      obtain rfl : fn = Tryd.f5 := (Option.some.inj (Tryd.func5.symm.trans hfn)).symm
      exact ⟨by kernel_rfl, fun j t ht => by
        rw [Tryd.params5] at ht
        have hm : t ∈ [23] := by simpa using Array.mem_of_getElem? ht
        have hall : ([23].all fun u => !Tryd.prog.wantsStandIn u) = true := by kernel_rfl
        exact (show Tryd.prog.wantsStandIn t = false by simpa using List.all_eq_true.1 hall t hm)⟩)
    (by kernel_rfl)
end Go.Proofs.YtkpdcieoiciapaaDoor.IdentFormats
namespace Go.Proofs.YtkpdcieoiciapaaDoor
/-- The card. -/
theorem identFormats_card : Rows.IdentFormatsCardSaid := IdentFormats.proved
end Go.Proofs.YtkpdcieoiciapaaDoor
