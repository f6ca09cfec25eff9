/- THE VALUE INTERPRETER: every operation. No project text. -/
import Derived.Test.YtkpdcieoiciapaaDoorVi18
set_option linter.unusedVariables false
set_option linter.unusedSimpArgs false
namespace Go.Vi
open Go.RowKit
variable {R : Type}
section
variable {E : Env} {P : Program} {o : Oper} {s : TS} {M : List Box} {nx : Nat} {K : Sv → Eff → Option R} {r : R} {f : Nat} {c : Orc}
theorem o_call (hT : TOK P E.T) (hc : CallOK E P c) {q : Call} (ho : o.op = .call q) (h : vop E f c o s M nx K = some r) (hnx : nx = M.length) : ∃ v ef, K v ef = some r ∧ Good E P o s M nx v ef := by
  cases hq : q.callee with
  | builtin b => exact o_builtin hT ho hq h hnx
  | invoke x n => unfold vop at h; rw [ho] at h; dsimp only at h; rw [hq] at h; cases h
  | value x =>
    have key : ∀ g caps, opnd s x = .one (.fn g caps) → callTo E c g q.argTypes.toList (q.args.toList.map (opnd s) ++ caps.map Sv.one) M nx K = some r → ∃ v ef, K v ef = some r ∧ Good E P o s M nx v ef := by
      intro g caps hx h
      refine callTo_good hc h hnx (fun a ha => ?_) (fun S w ρ m a hop => ?_)
      · unfold foot; rw [ho]; dsimp only; rw [hq]; dsimp only; rw [hx]; dsimp only; exact reachE_foot ha
      · have hf : RS S w ρ m (opnd s x) (a.eval x) := hop x (by rw [ho]; simp [Op.operands, Call.operands, hq])
        rw [hx] at hf
        obtain ⟨vs, hv, hsz, hcap⟩ : ∃ vs : Array Value, a.eval x = .func (.func g) #[] vs ∧ vs.size = caps.length ∧ ∀ (j : Nat) x, caps[j]? = some x → ∃ u, vs[j]? = some u ∧ (match x with
          | .ptr a k i off => RP ρ m a k i off u
          | x => CV S w x u) := hf
        refine ⟨q.args.map a.eval ++ vs, by simp [hsz], fun j y hj => ?_, fun ⟨fn, h1, h2, h3⟩ => ?_⟩
        · rw [List.getElem?_append] at hj
          split at hj
          · rename_i hlt
            rw [List.getElem?_map, Option.map_eq_some_iff] at hj
            obtain ⟨z, hz, rfl⟩ := hj
            have hz' : q.args[j]? = some z := by simpa using hz
            have hlt' : j < q.args.size := by simpa using hlt
            refine ⟨a.eval z, ?_, hop z ?_⟩
            · rw [Array.getElem?_append_left (by simpa using hlt')]; simp [hz']
            · rw [ho]; simp [Op.operands, Call.operands, hq]; exact .inr (Array.mem_of_getElem? hz')
          · rename_i hge
            rw [List.getElem?_map, Option.map_eq_some_iff] at hj
            obtain ⟨z, hz, rfl⟩ := hj
            obtain ⟨u, hu, hzr⟩ := hcap _ z hz
            refine ⟨u, ?_, ?_⟩
            · rw [Array.getElem?_append_right (by simpa using hge)]
              simpa using hu
            · show RA S w ρ m z u
              cases z with
              | ptr a k i off => exact hzr
              | _ => exact RA.ofCV hzr
        · unfold execOp
          rw [ho]
          dsimp only
          have hb : fn.body ≠ none := by intro e; rw [e] at h3; cases h3
          simp [resolve, hq, hv, Deferred.ofValue, invoke, callFunc, h1, h2, hb]
    unfold vop at h
    rw [ho] at h
    dsimp only at h
    rw [hq] at h
    cases x with
    | func g => exact key g [] rfl (by simpa using h)
    | tmp t =>
      dsimp only at h
      split at h
      · rename_i g caps hx; exact key g caps hx h
      · cases h
    | const v =>
      dsimp only at h
      split at h
      · rename_i g caps hx; exact key g caps hx h
      · cases h
    | global g =>
      dsimp only at h
      split at h
      · rename_i g caps hx; exact key g caps hx h
      · cases h
theorem vop_sound (hT : TOK P E.T) (hc : CallOK E P c) (h : vop E f c o s M nx K = some r) (hnx : nx = M.length) : ∃ v ef, K v ef = some r ∧ Good E P o s M nx v ef := by
  cases hop : o.op with
  | move x => exact o_move hop h
  | assign x => exact o_assign hop h
  | pick x a b => exact o_pick hop h
  | alloc t => exact op_alloc hT hop h
  | box t x => exact o_box hop h
  | build t ps => exact o_build hT hop h
  | buildSlice t n ps => exact o_buildSlice hT hop h
  | load t x => exact o_load hT hop h
  | store t x y => exact o_store hT hop h hnx
  | nilCheck x => exact o_nilCheck hop h
  | binOp op t x y u => exact o_binOp hT hop h
  | unOp op t x => exact o_unOp hop h
  | convert a b x => exact o_convert hT hop h
  | makeFunc fn first caps =>
    cases fn with
    | func g => exact o_makeFunc hop h
    | _ => unfold vop at h; rw [hop] at h; cases h
  | slice t x lo hi mx =>
    cases mx with
    | none => exact o_slice hT hop h
    | some mx => exact o_slice3 hT hop h
  | makeSlice t x y => exact o_makeSlice hT hop h
  | field t x j => exact o_field hT hop h
  | fieldAddr t x j => exact o_fieldAddr hT hop h
  | indexAddr t x y => exact o_indexAddr hT hop h
  | index t x y => exact o_index hT hop h
  | extract x j => exact o_extract hop h
  | call q => exact o_call hT hc hop h hnx
  | _ => unfold vop at h; rw [hop] at h; cases h
end
end Go.Vi
