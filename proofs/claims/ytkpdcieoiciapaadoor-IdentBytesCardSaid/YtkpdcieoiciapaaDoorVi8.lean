/- THE VALUE INTERPRETER: operations that leave memory as it is. No project text. -/
import Derived.Test.YtkpdcieoiciapaaDoorVi7
import Derived.DataElems
set_option linter.unusedVariables false
set_option linter.unusedSimpArgs false
namespace Go.Vi
open Go.RowKit
variable {R : Type}
section
variable {E : Env} {P : Program} {w0 : World} {inn : Inn} {S : Nat → Prop} {ρ : Loc} {m : Mem} {w : World} {o : Oper} {s : TS} {M : List Box} {nx : Nat} {v : Sv} {ef : Eff} {K : Sv → Eff → Option R} {r : R} {f : Nat} {c : Orc}

theorem o_move {x : Operand} (ho : o.op = .move x) (h : vop E f c o s M nx K = some r) : ∃ v ef, K v ef = some r ∧ Good E P o s M nx v ef := by
  unfold vop at h; rw [ho] at h
  exact ⟨_, _, h, .of_pure fun S w ρ m a w0 inn hx hf hm => ⟨a.eval x, by unfold execOp; rw [ho]; rfl, hx x (by rw [ho]; simp [Op.operands])⟩⟩

theorem o_pick {x y z : Operand} (ho : o.op = .pick x y z) (h : vop E f c o s M nx K = some r) : ∃ v ef, K v ef = some r ∧ Good E P o s M nx v ef := by
  unfold vop at h; rw [ho] at h
  dsimp only at h
  split at h
  · rename_i t ht
    have key : ∀ S w ρ m (a : Act), (∀ x ∈ o.op.operands.toList, RS S w ρ m (opnd s x) (a.eval x)) → (execOp a.eval o).run P w = .ok (.value (if t then a.eval y else a.eval z)) w ∧ RS S w ρ m (opnd s y) (a.eval y) ∧ RS S w ρ m (opnd s z) (a.eval z) := by
      intro S w ρ m a hx
      have h1 := hx x (by rw [ho]; simp [Op.operands])
      rw [ht] at h1
      refine ⟨?_, hx y (by rw [ho]; simp [Op.operands]), hx z (by rw [ho]; simp [Op.operands])⟩
      unfold execOp; rw [ho]; dsimp only; rw [h1.one_v.1]; rfl
    split at h
    · rename_i p q hp hq
      refine ⟨_, _, h, .of_pure fun S w ρ m a w0 inn hx hf hm => ?_⟩
      obtain ⟨h1, h2, h3⟩ := key S w ρ m a hx
      refine ⟨_, h1, ?_⟩
      rw [hp] at h2; rw [hq] at h3
      rw [h2.one_v.1, h3.one_v.1]
      cases t <;> exact rs_v rfl
    · rcases tst_some h with ⟨rfl, h⟩ | ⟨rfl, h⟩
      · refine ⟨_, _, h, .of_pure fun S w ρ m a w0 inn hx hf hm => ?_⟩
        obtain ⟨h1, h2, h3⟩ := key S w ρ m a hx
        exact ⟨_, h1, h2⟩
      · refine ⟨_, _, h, .of_pure fun S w ρ m a w0 inn hx hf hm => ?_⟩
        obtain ⟨h1, h2, h3⟩ := key S w ρ m a hx
        exact ⟨_, h1, h3⟩
  · cases h

theorem RP.ptr {a k i off : Nat} {u : Value} (h : RP ρ m a k i off u) : ∃ ad, u = .pointer (some ad) := by
  unfold RP at h
  split at h
  · obtain ⟨g, h1, h2⟩ := h; exact ⟨_, h2⟩
  · exact h.2.1
  · exact h.elim
theorem o_nilCheck {x : Operand} (ho : o.op = .nilCheck x) (h : vop E f c o s M nx K = some r) : ∃ v ef, K v ef = some r ∧ Good E P o s M nx v ef := by
  unfold vop at h; rw [ho] at h
  dsimp only at h
  have fin : ∀ y, opnd s x = .one y → K (.one y) [] = some r → (∀ (S : Nat → Prop) w ρ m u, RA S w ρ m y u → (∃ ad, u = .pointer (some ad)) ∨ ∃ f vs, u = .func (.func f) #[] vs) → ∃ v ef, K v ef = some r ∧ Good E P o s M nx v ef := by
    intro y hy hk hp
    refine ⟨_, _, hk, .of_pure fun S w ρ m a w0 inn hx hf hm => ?_⟩
    have h1 := hx x (by rw [ho]; simp [Op.operands])
    rw [hy] at h1
    refine ⟨a.eval x, ?_, h1⟩
    unfold execOp; rw [ho]; dsimp only
    rcases hp S w ρ m _ h1 with ⟨ad, hv⟩ | ⟨f, vs, hv⟩ <;> (rw [hv]; rfl)
  split at h
  · rename_i hy; exact fin _ hy h fun S w ρ m u hu => .inl (RP.ptr hu)
  · rename_i hy; exact fin _ hy h fun S w ρ m u hu => .inl (by
      have hu' : CV S w (.roe _ _ _) u := hu
      cases hu'; exact ⟨_, rfl⟩)
  · rename_i hy; exact fin _ hy h fun S w ρ m u hu => .inl (by
      have hu' : CV S w (.gp _ _) u := hu
      cases hu'; exact ⟨_, rfl⟩)
  · rename_i hy; exact fin _ hy h fun S w ρ m u hu => .inr (by obtain ⟨vs, h1, _⟩ := hu; exact ⟨_, vs, h1⟩)
  · cases h

theorem o_extract {x : Operand} {j : Nat} (ho : o.op = .extract x j) (h : vop E f c o s M nx K = some r) : ∃ v ef, K v ef = some r ∧ Good E P o s M nx v ef := by
  unfold vop at h; rw [ho] at h
  dsimp only at h
  split at h
  · rename_i vs hv
    split at h
    · rename_i v1 hj
      refine ⟨_, _, h, .of_pure fun S w ρ m a w0 inn hx hf hm => ?_⟩
      have h1 := hx x (by rw [ho]; simp [Op.operands])
      rw [hv] at h1
      obtain ⟨us, h2, h3, h4⟩ := h1
      obtain ⟨u, hu, hr⟩ := h4 j v1 hj
      refine ⟨u, ?_, ?_⟩
      · unfold execOp; rw [ho]; dsimp only; rw [h2]
        simp [Instr.extract, hu]
      · cases v1 with
        | tup xs => exact hr.elim
        | one x => exact hr
        | agg x => exact hr
    · cases h
  · cases h

/-! ### operators -/
theorem maxDepth_pos : ∃ d, Op.maxDepth = 6 + d := ⟨Op.maxDepth - 6, by decide⟩
theorem eqCells_vs {S : Nat → Prop} {w : World} {ρ : Loc} {m : Mem} : ∀ {cs : List CK} {xs ys : List At} {b : Bool} {us vs : List Value}, eqCells cs xs ys = some b →
    us.length = xs.length → vs.length = ys.length → (∀ (j : Nat) x, xs[j]? = some x → ∃ u, us[j]? = some u ∧ RA S w ρ m x u) → (∀ (j : Nat) x, ys[j]? = some x → ∃ u, vs[j]? = some u ∧ RA S w ρ m x u) → eqVs cs us vs = some b
  | [], [], [], b, us, vs, h, h1, h2, _, _ => by
    obtain rfl := List.length_eq_zero_iff.1 h1
    obtain rfl := List.length_eq_zero_iff.1 h2
    exact h
  | c :: cs, .v x :: xs, .v y :: ys, b, us, vs, h, h1, h2, h3, h4 => by
    simp only [eqCells] at h
    split at h
    · rename_i a d ha hd
      obtain ⟨u, hu, hxu⟩ := h3 0 _ rfl
      obtain ⟨v, hv, hyv⟩ := h4 0 _ rfl
      obtain ⟨rfl, _⟩ := RS.one_v (S := S) (w := w) (ρ := ρ) (m := m) hxu
      obtain ⟨rfl, _⟩ := RS.one_v (S := S) (w := w) (ρ := ρ) (m := m) hyv
      cases us with
      | nil => simp at h1
      | cons u us =>
        cases vs with
        | nil => simp at h2
        | cons v vs =>
          simp only [List.getElem?_cons_zero, Option.some.injEq] at hu hv
          subst hu; subst hv
          have := eqCells_vs hd (by simpa using h1) (by simpa using h2) (fun j x hj => by simpa using h3 (j + 1) x (by simpa using hj)) (fun j x hj => by simpa using h4 (j + 1) x (by simpa using hj))
          simp [eqVs, ha, this, h]
    · cases h
  | [], [], _ :: _, b, us, vs, h, _, _, _, _ => by simp [eqCells] at h
  | [], _ :: _, _, b, us, vs, h, _, _, _, _ => by simp [eqCells] at h
  | c :: cs, [], _, b, us, vs, h, _, _, _, _ => by simp [eqCells] at h
  | c :: cs, x :: xs, [], b, us, vs, h, _, _, _, _ => by simp [eqCells] at h
  | c :: cs, x :: xs, y :: ys, b, us, vs, h, h1, h2, h3, h4 => by
    cases x with
    | v x => cases y with
      | v y =>
        simp only [eqCells] at h
        split at h
        · rename_i a d ha hd
          obtain ⟨u, hu, hxu⟩ := h3 0 _ rfl
          obtain ⟨v, hv, hyv⟩ := h4 0 _ rfl
          obtain ⟨rfl, _⟩ := RS.one_v (S := S) (w := w) (ρ := ρ) (m := m) hxu
          obtain ⟨rfl, _⟩ := RS.one_v (S := S) (w := w) (ρ := ρ) (m := m) hyv
          cases us with
          | nil => simp at h1
          | cons u us =>
            cases vs with
            | nil => simp at h2
            | cons v vs =>
              simp only [List.getElem?_cons_zero, Option.some.injEq] at hu hv
              subst hu; subst hv
              have := eqCells_vs hd (by simpa using h1) (by simpa using h2) (fun j x hj => by simpa using h3 (j + 1) x (by simpa using hj)) (fun j x hj => by simpa using h4 (j + 1) x (by simpa using hj))
              simp [eqVs, ha, this, h]
        · cases h
      | _ => simp [eqCells] at h
    | _ => simp [eqCells] at h

theorem o_binOp (hT : TOK P E.T) {op : BinOp} {t : TypeId} {x y : Operand} {u : TypeId} (ho : o.op = .binOp op t x y u) (h : vop E f c o s M nx K = some r) : ∃ v ef, K v ef = some r ∧ Good E P o s M nx v ef := by
  unfold vop at h; rw [ho] at h
  dsimp only at h
  have run : ∀ (a : Act) w (p q z : Value), a.eval x = p → a.eval y = q → (do eqGuard op t x y p q; binOp op t p q).run P w = .ok z w → (execOp a.eval o).run P w = .ok (.value z) w := by
    intro a w p q z hp hq hr
    unfold execOp; rw [ho]; dsimp only
    rw [hp, hq, Sem.run_bind, hr]; rfl
  have mx : x ∈ o.op.operands.toList := by rw [ho]; simp [Op.operands]
  have my : y ∈ o.op.operands.toList := by rw [ho]; simp [Op.operands]
  split at h
  · rename_i a b hp hq
    obtain ⟨hc, h⟩ := chk_some h
    simp only [Bool.and_eq_true] at hc
    have hu := tok_bool hT hc.1 hc.2
    have fin : ∀ z, (∀ w, (do eqGuard op t x y (.bool a) (.bool b); binOp op t (.bool a) (.bool b)).run P w = .ok z w) → z.oneCell' = true → Good E P o s M nx (.one (.v z)) [] := by
      intro z hz h1
      refine .of_pure fun S w ρ m ac w0 inn hx hf hm => ?_
      have e1 := hx x mx
      have e2 := hx y my
      rw [hp] at e1; rw [hq] at e2
      exact ⟨z, run ac w _ _ z e1.one_v.1 e2.one_v.1 (hz w), rs_v h1⟩
    obtain ⟨d, hd⟩ := maxDepth_pos
    split at h
    · exact ⟨_, _, h, fin _ (fun w => by
        rw [eqGuard_plain (by simp) (by simp)]
        simp [binOp, Op.equal, hd, show 6 + d = (5 + d) + 1 by omega, Op.equalIn, run_underlying hu]) rfl⟩
    · exact ⟨_, _, h, fin _ (fun w => by
        rw [eqGuard_plain (by simp) (by simp)]
        simp [binOp, Op.equal, hd, show 6 + d = (5 + d) + 1 by omega, Op.equalIn, run_underlying hu]) rfl⟩
    · cases h
  · rename_i hp hq
    obtain ⟨hc, h⟩ := chk_some h
    simp only [Bool.and_eq_true] at hc
    obtain ⟨ms, hu⟩ := tok_iface hT hc.1 hc.2
    have fin : ∀ z, (∀ t' v' w, (do eqGuard op t x y (.iface t' v') .nilIface; binOp op t (.iface t' v') .nilIface).run P w = .ok z w) → z.oneCell' = true → Good E P o s M nx (.one (.v z)) [] := by
      intro z hz h1
      refine .of_pure fun S w ρ m ac w0 inn hx hf hm => ?_
      have e1 : RA S w ρ m .err (ac.eval x) := by have := hx x mx; rw [hp] at this; exact this
      have e2 := hx y my
      rw [hq] at e2
      have e1' : CV S w .err (ac.eval x) := e1
      generalize hu1 : ac.eval x = u1 at e1'
      cases e1' with
      | err => exact ⟨z, run ac w _ _ z hu1 e2.one_v.1 (hz _ _ w), rs_v h1⟩
    obtain ⟨d, hd⟩ := maxDepth_pos
    split at h
    · exact ⟨_, _, h, fin _ (fun t' v' w => by
        rw [eqGuard_plain (by simp) (by simp)]
        simp [binOp, Op.equal, hd, show 6 + d = (5 + d) + 1 by omega, Op.equalIn, run_underlying hu]) rfl⟩
    · exact ⟨_, _, h, fin _ (fun t' v' w => by
        rw [eqGuard_plain (by simp) (by simp)]
        simp [binOp, Op.equal, hd, show 6 + d = (5 + d) + 1 by omega, Op.equalIn, run_underlying hu]) rfl⟩
    · cases h
  · rename_i hp hq
    obtain ⟨hc, h⟩ := chk_some h
    simp only [Bool.and_eq_true] at hc
    obtain ⟨ms, hu⟩ := tok_iface hT hc.1.1 hc.1.2
    have hy : ∃ c, y = .const c := by
      have := hc.2
      unfold isConst at this
      split at this
      · exact ⟨_, rfl⟩
      · cases this
    obtain ⟨yc, hy⟩ := hy
    have hg : ∀ op t x, eqGuard op t x y .nilIface .nilIface = pure () := by
      intro op t x
      subst hy
      unfold eqGuard
      cases op <;> simp
    have fin : ∀ z, (∀ w, (binOp op t .nilIface .nilIface).run P w = .ok z w) → z.oneCell' = true → Good E P o s M nx (.one (.v z)) [] := by
      intro z hz h1
      refine .of_pure fun S w ρ m ac w0 inn hx hf hm => ?_
      have e1 := hx x mx
      have e2 := hx y my
      rw [hp] at e1; rw [hq] at e2
      exact ⟨z, run ac w _ _ z e1.one_v.1 e2.one_v.1 (by rw [hg]; simpa using hz w), rs_v h1⟩
    obtain ⟨d, hd⟩ := maxDepth_pos
    split at h
    · exact ⟨_, _, h, fin _ (fun w => by
        simp [binOp, Op.equal, hd, show 6 + d = (5 + d) + 1 by omega, Op.equalIn, run_underlying hu]) rfl⟩
    · exact ⟨_, _, h, fin _ (fun w => by
        simp [binOp, Op.equal, hd, show 6 + d = (5 + d) + 1 by omega, Op.equalIn, run_underlying hu]) rfl⟩
    · cases h
  · rename_i a b _ _ hp hq
    obtain ⟨z, hz, h1, hr⟩ := binV_spec (P := P) h
    refine ⟨_, _, hz, .of_pure fun S w ρ m ac w0 inn hx hf hm => ?_⟩
    have e1 := hx x mx
    have e2 := hx y my
    rw [hp] at e1; rw [hq] at e2
    exact ⟨z, run ac w _ _ z e1.one_v.1 e2.one_v.1 (hr w t x y), rs_v h1⟩
  · rename_i xs ys hp hq
    obtain ⟨hc, h⟩ := chk_some h
    simp only [Bool.and_eq_true, Bool.not_eq_true'] at hc
    obtain ⟨hpl, hg, hag⟩ := tok_eqok hT hc.1 hc.2
    obtain ⟨i, de, hi, hu, _⟩ := tok_info hT hc.1
    have hst : ∃ fs, P.underlying t = some (.struct fs) := by
      rcases eqPl_cases (d := 5) hpl with ⟨k, hk, _⟩ | ⟨hk, _⟩ | ⟨hk, _⟩ | ⟨fs, hk, _⟩
      · obtain ⟨i, d, hi, hd, _, _, _, hr⟩ := tok_info hT hc.1
        rw [hk] at hd; obtain rfl := Option.some.inj hd; rw [hag] at hr; simp [TypeDesc.isRow] at hr
      · obtain ⟨i, d, hi, hd, _, _, _, hr⟩ := tok_info hT hc.1
        rw [hk] at hd; obtain rfl := Option.some.inj hd; rw [hag] at hr; simp [TypeDesc.isRow] at hr
      · obtain ⟨i, d, hi, hd, _, _, _, hr⟩ := tok_info hT hc.1
        rw [hk] at hd; obtain rfl := Option.some.inj hd; rw [hag] at hr; simp [TypeDesc.isRow] at hr
      · exact ⟨fs, hk⟩
    obtain ⟨fs, hst⟩ := hst
    obtain ⟨d, hd⟩ := maxDepth_pos
    have fin : ∀ b z, eqCells (E.T t).eqck xs ys = some b → z.oneCell' = true → (∀ (us vs : Array Value) w, (Op.equal t (.agg us) (.agg vs)).run P w = .ok b w → (do eqGuard op t x y (.agg us) (.agg vs); binOp op t (.agg us) (.agg vs)).run P w = .ok z w) → Good E P o s M nx (.one (.v z)) [] := by
      intro b z hb h1 hz
      refine .of_pure fun S w ρ m ac w0 inn hx hf hm => ?_
      have e1 := hx x mx
      have e2 := hx y my
      rw [hp] at e1; rw [hq] at e2
      obtain ⟨us, hus, hu1, hu2⟩ := e1
      obtain ⟨vs, hvs, hv1, hv2⟩ := e2
      have hv := eqCells_vs (us := us.toList) (vs := vs.toList) hb (by simpa using hu1) (by simpa using hv1) (fun j x hj => let ⟨u, h1, h2, h3⟩ := hu2 j x hj; ⟨u, by simpa using h1, h3⟩) (fun j x hj => let ⟨u, h1, h2, h3⟩ := hv2 j x hj; ⟨u, by simpa using h1, h3⟩)
      have he := equalIn_plain P 6 d t _ us.toList vs.toList b w hpl hv
      simp only [ofCells, hst] at he
      exact ⟨z, run ac w _ _ z hus hvs (hz us vs w (by rw [Op.equal, hd]; simpa using he)), rs_v h1⟩
    have guard : ∀ (us vs : Array Value) w, (eqGuard op t x y (.agg us) (.agg vs)).run P w = .ok () w := by
      intro us vs w
      unfold eqGuard
      cases op <;> simp [hg]
    split at h
    · split at h
      · rename_i b hb
        exact ⟨_, _, h, fin b _ hb rfl (fun us vs w he => by rw [Sem.run_bind, guard]; simp [binOp, he])⟩
      · cases h
    · split at h
      · rename_i b hb
        exact ⟨_, _, h, fin b _ hb rfl (fun us vs w he => by rw [Sem.run_bind, guard]; simp [binOp, he])⟩
      · cases h
    · cases h
  · cases h

theorem o_unOp {op : UnOp} {t : TypeId} {x : Operand} (ho : o.op = .unOp op t x) (h : vop E f c o s M nx K = some r) : ∃ v ef, K v ef = some r ∧ Good E P o s M nx v ef := by
  unfold vop at h; rw [ho] at h
  dsimp only at h
  have mx : x ∈ o.op.operands.toList := by rw [ho]; simp [Op.operands]
  split at h
  · rename_i b hp
    refine ⟨_, _, h, .of_pure fun S w ρ m a w0 inn hx hf hm => ⟨_, ?_, rs_v rfl⟩⟩
    have e1 := hx x mx
    rw [hp] at e1
    unfold execOp; rw [ho]; dsimp only; rw [e1.one_v.1]; rfl
  · rename_i k n hp
    refine ⟨_, _, h, .of_pure fun S w ρ m a w0 inn hx hf hm => ⟨_, ?_, rs_v rfl⟩⟩
    have e1 := hx x mx
    rw [hp] at e1
    unfold execOp; rw [ho]; dsimp only; rw [e1.one_v.1]; rfl
  · cases h
theorem o_makeFunc {g : FuncId} {first caps : Array Operand} (ho : o.op = .makeFunc (.func g) first caps) (h : vop E f c o s M nx K = some r) : ∃ v ef, K v ef = some r ∧ Good E P o s M nx v ef := by
  unfold vop at h; rw [ho] at h
  dsimp only at h
  split at h
  · rename_i hfi
    obtain ⟨hc, h⟩ := chk_some h
    have hfe : first = #[] := Array.toList_eq_nil_iff.1 hfi
    refine ⟨_, _, h, .of_pure fun S w ρ m a w0 inn hx hf hm => ⟨.func (.func g) #[] (caps.map a.eval), ?_, ?_⟩⟩
    · unfold execOp; rw [ho]; dsimp only; rw [hfe]; simp [Instr.makeFunc]
    · refine ⟨_, rfl, by simp, fun j x hj => ?_⟩
      simp only [List.getElem?_map, Option.map_eq_some_iff] at hj
      obtain ⟨y, hy, rfl⟩ := hj
      have hy' : caps[j]? = some y := by simpa using hy
      refine ⟨a.eval y, by simp [hy'], ?_⟩
      have hk := List.all_eq_true.1 hc y (List.mem_of_getElem? hy)
      have e1 := hx y (by rw [ho]; simp [Op.operands]; exact .inr (Array.mem_of_getElem? hy'))
      split at hk
      · rename_i z hz
        rw [hz] at e1
        try rw [hz]
        try dsimp only
        cases z with
        | ptr a k i off => exact e1
        | fn g cs =>
          simp only [capOk, List.isEmpty_iff] at hk
          subst hk
          obtain ⟨vs, h1, h2, h3⟩ := e1
          have : vs = #[] := Array.size_eq_zero_iff.1 h2
          rw [h1, this]
          exact CV.fn
        | own => simp [capOk] at hk
        | part => simp [capOk] at hk
        | fresh => simp [capOk] at hk
        | bad => simp [capOk] at hk
        | _ => exact e1
      · cases hk
  · cases h
end
end Go.Vi
