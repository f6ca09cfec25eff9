/- THE VALUE INTERPRETER: single operations, the plain ones. No project text. -/
import Derived.Test.YtkpdcieoiciapaaDoorVi2
import Derived.WalkKit
set_option linter.unusedVariables false
set_option linter.unusedSimpArgs false
namespace Go.Vi
open Go.RowKit

/-- What an operation comes to: the world behind it, and the value that it leaves. -/
def Out (E : Env) (w0 : World) (inn : Inn) (S : Nat → Prop) (ρ : Loc) (m : Mem) (w : World) (ef : Eff) (v : Sv) (u : Value) (w' : World) : Prop :=
  ∃ S' ρ', RS S' w' ρ' (upM m ef) v u ∧ Kp S S' w w' ∧ Le ρ m ρ' (upM m ef) ∧ MR E w0 inn S' ρ' (upM m ef) w'
def OpW (E : Env) (P : Program) (w0 : World) (inn : Inn) (S : Nat → Prop) (ρ : Loc) (m : Mem) (o : Oper) (a : Act) (w : World) (ef : Eff) (v : Sv) : Prop :=
  ∀ Q, o.wp P a w (fun a' w' => ∃ u, a' = a.put o.dst u ∧ Out E w0 inn S ρ m w ef v u w') Q

section
variable {E : Env} {P : Program} {w0 : World} {inn : Inn} {S : Nat → Prop} {ρ : Loc} {m : Mem} {o : Oper} {a : Act} {w : World} {ef : Eff} {v : Sv}
theorem OpW.of_value {u : Value} {w' : World} (hr : (execOp a.eval o).run P w = .ok (.value u) w') (h : Out E w0 inn S ρ m w ef v u w') : OpW E P w0 inn S ρ m o a w ef v := by
  intro Q
  unfold Oper.wp
  rw [hr]
  exact ⟨u, rfl, h⟩
theorem OpW.of_skip {w' : World} (hr : (execOp a.eval o).run P w = .ok .skip w') (h : Out E w0 inn S ρ m w ef v undef w') : OpW E P w0 inn S ρ m o a w ef v := by
  intro Q
  unfold Oper.wp
  rw [hr]
  exact ⟨undef, rfl, h⟩
theorem Out.pure {u : Value} (h : RS S w ρ m v u) (hm : MR E w0 inn S ρ m w) : Out E w0 inn S ρ m w [] v u w :=
  ⟨S, ρ, h, Kp.refl _ _, Le.refl _ _, hm⟩
theorem OpW.of_pure {u : Value} (hr : (execOp a.eval o).run P w = .ok (.value u) w) (h : RS S w ρ m v u) (hm : MR E w0 inn S ρ m w) : OpW E P w0 inn S ρ m o a w [] v :=
  .of_value hr (Out.pure h hm)

/-! ### constants -/
theorem cv_const {x : Value} (h : x.oneCell' = true) : ofConst1 x = .bad ∨ CV S w (ofConst1 x) x := by
  cases x with
  | slice p n c =>
    cases p with
    | none => cases n with
      | zero => cases c with
        | zero => exact .inr .nils
        | succ c => exact .inl rfl
      | succ n => exact .inl rfl
    | some p => exact .inl rfl
  | func f p q =>
    cases f with
    | func f =>
      obtain ⟨p⟩ := p
      obtain ⟨q⟩ := q
      cases p with
      | nil => cases q with
        | nil => exact .inr .fn
        | cons => exact .inl rfl
      | cons => exact .inl rfl
    | _ => exact .inl rfl
  | agg cs => cases h
  | tuple cs => cases h
  | _ => exact .inr (.v rfl)
theorem ra_const {x : Value} (h : x.oneCell' = true) : RA S w ρ m (ofConst1 x) x := by
  rcases cv_const (S := S) (w := w) h with h | h
  · rw [h]; trivial
  · exact .ofCV h
theorem rs_const (x : Value) : RS S w ρ m (ofConst x) x := by
  unfold ofConst
  split
  · rename_i cs
    split
    · rename_i h
      refine ⟨cs, rfl, by simp, fun j y hj => ?_⟩
      simp only [List.getElem?_map, Option.map_eq_some_iff] at hj
      obtain ⟨u, hu, rfl⟩ := hj
      have hu' : cs[j]? = some u := by simpa using hu
      have h1 : u.oneCell' = true := List.all_eq_true.1 h u (List.mem_of_getElem? hu)
      exact ⟨u, hu', h1, ra_const h1⟩
    · trivial
  · trivial
  · rename_i h1 h2
    refine ra_const ?_
    cases x <;> first | rfl | (exact absurd rfl (h1 _)) | (exact absurd rfl (h2 _))
theorem RS.one_v {x u : Value} (h : RS S w ρ m (.one (.v x)) u) : u = x ∧ x.oneCell' = true := by
  have h' : CV S w (.v x) u := h
  cases h' with | v h1 => exact ⟨rfl, h1⟩
theorem rs_v {x : Value} (h : x.oneCell' = true) : RS S w ρ m (.one (.v x)) x := CV.v (S := S) (w := w) h

/-! ### move, pick -/
theorem op_move {s : TS} {x : Operand} (ho : o.op = .move x ∨ o.op = .assign x) (hx : RS S w ρ m (opnd s x) (a.eval x)) (hm : MR E w0 inn S ρ m w) :
    OpW E P w0 inn S ρ m o a w [] (opnd s x) := by
  refine .of_pure (u := a.eval x) ?_ hx hm
  rcases ho with ho | ho <;> (unfold execOp; rw [ho]; rfl)
theorem op_pick {x y z : Operand} {t : Bool} (ho : o.op = .pick x y z) (hx : a.eval x = .bool t) (hv : RS S w ρ m v (if t then a.eval y else a.eval z)) (hm : MR E w0 inn S ρ m w) :
    OpW E P w0 inn S ρ m o a w [] v := by
  refine .of_pure (u := if t then a.eval y else a.eval z) ?_ hv hm
  unfold execOp; rw [ho]; dsimp only; rw [hx]; rfl
theorem op_nilCheck {s : TS} {x : Operand} (ho : o.op = .nilCheck x) (hx : RS S w ρ m (opnd s x) (a.eval x)) (hm : MR E w0 inn S ρ m w)
    (hv : (∃ ad, a.eval x = .pointer (some ad)) ∨ ∃ f vs, a.eval x = .func (.func f) #[] vs) : OpW E P w0 inn S ρ m o a w [] (opnd s x) := by
  refine .of_pure (u := a.eval x) ?_ hx hm
  unfold execOp; rw [ho]; dsimp only
  rcases hv with ⟨ad, hv⟩ | ⟨f, vs, hv⟩ <;> (rw [hv]; rfl)
theorem op_extract {x : Operand} {j : Nat} {vs : Array Value} {u : Value} (ho : o.op = .extract x j) (hx : a.eval x = .tuple vs) (hj : vs[j]? = some u) (hv : RS S w ρ m v u) (hm : MR E w0 inn S ρ m w) :
    OpW E P w0 inn S ρ m o a w [] v := by
  refine .of_pure (u := u) ?_ hv hm
  unfold execOp; rw [ho]; dsimp only; rw [hx]
  simp [Instr.extract, hj]
end
end Go.Vi
