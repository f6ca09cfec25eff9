/- The law 'IdentNames': it returns true for every input, and leaves its arguments as they were. Condition: the listed package-level variables read as their text lays them (the card ties it). Proved over the value interpreter; this text is the row and the card. -/
import Derived.Test.YtkpdcieoiciapaaDoorIdP
import Derived.Test.YtkpdcieoiciapaaDoorIdK
import Derived.Test.YtkpdcieoiciapaaDoorCards
import Derived.WalkKit
import Derived.ProofKit
import Derived.OpenShut
import Derived.ShutString
import Derived.ChangeOld
import Derived.Below
import Derived.SizedLaws
import Derived.Carry
import Derived.LaidMore
import Derived.Stop.Joined
import Derived.SevenTiedAt
namespace Go.Proofs.YtkpdcieoiciapaaDoor.IdentNames
open Go Go.Vi Go.ChangeShapes Go.WideShapes Go.ChangeAt Go.RowKit
open Go.ChangeMaps (open_string shut_string)
set_option linter.unusedVariables false
set_option maxRecDepth 100000
theorem own : ownKnob Tryd.prog.godebug = none := by kernel_rfl
theorem laidOut : laidOutB Tryd.prog = true := by kernel_rfl
theorem lifted (os : Os) (started : os.Started) (H : Type) (enc : TypeId × Value → H) :
    ReturnsInHanded {} Tryd.checked os 8 .any (fun w args => (Rows.identNamesSpec.pre enc Tryd.prog Tryd.f8 [] false w args ∧ laidMetH Tryd.prog laidL w) ∧ sizedMet enc Tryd.prog Tryd.f8 (OpenSpec.ofChange Rows.identNamesSpec) false w args) (Rows.identNamesSpec.post enc Tryd.prog Tryd.f8 false true false false) := by
  refine returnsIn_both (C := Tryd.checked) (X := fun w _ => laidMetH Tryd.prog laidL w) (fun _ _ _ hh h => h.of_heap hh) own started (by kernel_rfl) Tryd.func8
    (ChangeSpec.witness_shaped (enc := enc) (C := Tryd.checked) (os := os) (X := fun w _ => laidMetH Tryd.prog laidL w) false (World.laidAll Tryd.prog os laidL) #[.agg #[.int .i64 0, .int .i64 0, .int .i64 0], .agg #[.int .i64 0, .int .i64 0, .int .i64 0]] 8 (World.laidAll_os _ _ _) (shape0 os _) (by kernel_rfl) (by kernel_rfl) (by kernel_rfl) (met0 os _)) ?_
  intro W base args ds gs before hval0 hW hcnd hsz0 hL hS
  have hsz : (DataW.weightsEach Tryd.prog (Tryd.f8.params.toList ++ Rows.identNamesSpec.plain.varTypes Tryd.prog) (ds ++ gs)).all (· ≤ reachBytes) = true := hsz0
  have hval : ∀ (j : Nat) t v, Tryd.f8.params[j]? = some t → args[j]? = some v → Value.okWide Tryd.prog W .any base t v := hval0
  have hW' := hW
  obtain ⟨p, q, hA0, hV, rfl, hfz, hnd⟩ := hW
  have hA : DataW.TrodAll enc Tryd.prog W 0 (fun _ => true) true Tryd.f8.params.toList args.toList ds p := hA0
  rw [Tryd.params8] at hA hval hsz
  obtain ⟨v0, vs0, d0, ds0, p0, q0, hargs, rfl, rfl, h0, r0⟩ := trodAll_cons hA
  obtain ⟨v1, vs1, d1, ds1, p1, q1, rfl, rfl, rfl, h1, r1⟩ := trodAll_cons r0
  obtain ⟨rfl, rfl, rfl⟩ := trodAll_nil r1
  obtain rfl : args = #[v0, v1] := by cases args; simp_all
  obtain ⟨rfl, rfl⟩ := trodVars_none hV
  obtain ⟨a0, e0, k0⟩ := open_flat (n := 4) (ks := [.i .i64, .i .i64, .i .i64]) Tryd.underlying23 (by kernel_rfl) (hval 0 23 v0 rfl rfl) h0
  obtain ⟨b0⟩ := a0
  have k0 : CKs _ b0 := k0
  have w0 := k0
  obtain ⟨z0_0, _, rfl, _, k0⟩ := k0.c_i
  obtain ⟨z0_1, _, rfl, _, k0⟩ := k0.c_i
  obtain ⟨z0_2, _, rfl, _, k0⟩ := k0.c_i
  obtain rfl := k0.c_n
  subst e0
  have t0 := h0
  have lt0 : ∀ x ∈ p0, x.block < W.heap.size := by obtain ⟨m, hm⟩ := t0; exact DataW.trod_lt m _ _ _ hm
  obtain ⟨a1, e1, k1⟩ := open_flat (n := 4) (ks := [.i .i64, .i .i64, .i .i64]) Tryd.underlying23 (by kernel_rfl) (hval 1 23 v1 rfl rfl) h1
  obtain ⟨b1⟩ := a1
  have k1 : CKs _ b1 := k1
  have w1 := k1
  obtain ⟨z1_0, _, rfl, _, k1⟩ := k1.c_i
  obtain ⟨z1_1, _, rfl, _, k1⟩ := k1.c_i
  obtain ⟨z1_2, _, rfl, _, k1⟩ := k1.c_i
  obtain rfl := k1.c_n
  subst e1
  have t1 := h1
  have lt1 : ∀ x ∈ p1, x.block < W.heap.size := by obtain ⟨m, hm⟩ := t1; exact DataW.trod_lt m _ _ _ hm
  clear hA0 hval0 hsz0 hsz
  refine (law_walk (call_at T c22 loops_no (e8 z0_0 z0_1 z0_2 z1_0 z1_1 z1_2)) rfl (rel_cons (rs_agg w0.one) (rel_cons (rs_agg w1.one) rel_nil)) (of_laid hL hS)).mono fun e W' ⟨he, bel⟩ => ?_
  subst he
  exact ⟨_, rfl, _, _, _, [], _, [], hW', trodAll_mk1 (shut_bool Tryd.underlying4 _), (trodAll_cons_mk (Below.trod laidOut (by kernel_rfl) (of_decide_eq_true (by kernel_rfl)) t0 bel lt0) (trodAll_cons_mk (Below.trod laidOut (by kernel_rfl) (of_decide_eq_true (by kernel_rfl)) t1 bel lt1) trodAll_mk0)), rfl, bel.frame _, fun h => by cases h⟩
theorem over : Rows.identNamesRow.holds Tryd.pinned (OpenSpec.ofChange Rows.identNamesSpec) :=
  OpenClaim.holds_of_wide 8 Tryd.f8 rfl rfl rfl rfl rfl rfl rfl ⟨rfl, rfl, rfl, rfl, rfl⟩ rfl rfl rfl rfl rfl (by kernel_rfl) Tryd.func8 (by kernel_rfl)
    (of_decide_eq_true (by kernel_rfl)) (by unfold Func.isWrapper; first | (rw [if_pos (by decide +kernel)]; kernel_rfl) | (rw [if_neg (by decide +kernel)]; exact ⟨rfl, rfl⟩))
    (fun os started H enc _ => lifted os started H enc)
theorem proved : Claim7.holds Tryd.pinned (.plain (OpenSpec.ofChange Rows.identNamesSpec)) Rows.identNamesCard :=
  Claim7.holds_tied_plain_at .later [] [.data, .data, .data, .data, .sentinel, .sentinel, .pinned] true (true, "d8cea11b42323dbf1d3ca4392cde3b0a25057e10c8a5977fcf214ffd5c596a77") true
    over (fun _ h => by cases h) (by kernel_rfl) (fun _ h => by cases h) identNames_row_tie rfl ⟨rfl, rfl⟩ (by kernel_rfl) rfl
    (fun f fn hf hfn => by
      obtain rfl : f = 8 := (Option.some.inj ((show Tryd.prog.funcNamed Rows.identNamesRow.func = some 8 by kernel_rfl).symm.trans hf)).symm
      obtain rfl : fn = Tryd.f8 := (Option.some.inj (Tryd.func8.symm.trans hfn)).symm
      exact ⟨by kernel_rfl, fun j t ht => by
        rw [Tryd.params8] at ht
        have hm : t ∈ [23, 23] := by simpa using Array.mem_of_getElem? ht
        have hall : ([23, 23].all fun u => !Tryd.prog.wantsStandIn u) = true := by kernel_rfl
        exact (show Tryd.prog.wantsStandIn t = false by simpa using List.all_eq_true.1 hall t hm)⟩)
    (by kernel_rfl)
end Go.Proofs.YtkpdcieoiciapaaDoor.IdentNames
namespace Go.Proofs.YtkpdcieoiciapaaDoor
/-- The card. -/
theorem identNames_card : Rows.IdentNamesCardSaid := IdentNames.proved
end Go.Proofs.YtkpdcieoiciapaaDoor
