/- THE VALUE INTERPRETER: control. No project text. -/
import Derived.Test.YtkpdcieoiciapaaDoorVi21
import Derived.LoopN
set_option linter.unusedVariables false
set_option linter.unusedSimpArgs false
namespace Go.Vi
open Go.RowKit
variable {R : Type}
def exOf : Ex → Exit
  | .normal => .normal
  | .exit id => .exit id
  | .ret => .ret
section
variable (E : Env) (P : Program) (w0 : World) (inn : Inn) (S0 : Nat → Prop) (w00 : World) (N : Nat) (ρ0 : Loc) (m0 : Mem) (L : Nat)
def Post (B : Nat) (K : Kont R) (r : R) : Exit → Act → World → Prop := fun e a w => ∃ ex s' M', e = exOf ex ∧ K ex s' M' = some r ∧ B ≤ M'.length ∧ St E w0 inn S0 w00 N ρ0 m0 L (memOf M') (tau s') a w
end
theorem upd_len (M : List Box) (a : Nat) (b : Box) : M.length ≤ (upd M a b).length := by
  unfold upd
  split <;> simp
theorem apply_len : ∀ (ef : Eff) (M : List Box), M.length ≤ (apply M ef).length
  | [], M => Nat.le_refl _
  | (a, b) :: ef, M => Nat.le_trans (upd_len M a b) (apply_len ef _)
theorem chain_len {E : Env} {P : Program} {L : Nat} {ops : List Oper} : ∀ (os : List Oper) (s : TS) (M : List Box) (rs : List Rec) (s' : TS) (M' : List Box), Chain E P L ops os s M rs s' M' → M.length ≤ M'.length
  | [], s, M, [], s', M', h => by obtain ⟨_, rfl⟩ := h; exact Nat.le_refl _
  | o :: os, s, M, r :: rs, s', M', h => by
    obtain ⟨_, _, _, _, h⟩ := h
    exact Nat.le_trans (apply_len _ _) (chain_len os _ _ rs s' M' h)
  | [], _, _, _ :: _, _, _, h => h.elim
  | _ :: _, _, _, [], _, _, h => h.elim
section
variable {E : Env} {P : Program} {w0 : World} {inn : Inn} {S0 : Nat → Prop} {w00 : World} {N : Nat} {ρ0 : Loc} {m0 : Mem} {L : Nat}
/-- Numbered anew at a round's end. -/
theorem look_nrm (r : Nat → Option Nat) (M : List Box) (t : Nat) : ∀ s : TS, lookT (nrmT r M s) t = .one .bad ∨ lookT (nrmT r M s) t = nrmS r M {} (lookT s t)
  | [] => .inl rfl
  | (d, v) :: s => by
    show (match Nat.beq d t with | true => nrmS r M {} v | false => lookT (nrmT r M s) t) = _ ∨ (match Nat.beq d t with | true => nrmS r M {} v | false => lookT (nrmT r M s) t) = nrmS r M {} (match Nat.beq d t with | true => v | false => lookT s t)
    cases Nat.beq d t with
    | true => exact .inr rfl
    | false => exact look_nrm r M t s
theorem St.low {N' : Nat} {s : TS} {M : List Box} {a : Act} {w : World} (hN : N ≤ N') (hM : N' ≤ M.length) (h : St E w0 inn S0 w00 N ρ0 m0 L (memOf M) (tau s) a w) :
    St E w0 inn S0 w00 N ρ0 m0 L (memOf ((M.take N').map (nrmB (lowIds N') M))) (tau (nrmT (lowIds N') M s)) a w := by
  obtain ⟨S, ρ, h1, h2, h3, h4, h5, h6⟩ := h
  let D : Nat → Prop := fun a => lowIds N' a = none
  have low : ∀ a b, lowIds N' a = some b → b = a ∧ a < N' := by
    intro a b hab
    unfold lowIds at hab
    split at hab
    · rename_i hlt; exact ⟨(Option.some.inj hab).symm, by simpa using hlt⟩
    · cases hab
  have get : ∀ a, a < N' → memOf ((M.take N').map (nrmB (lowIds N') M)) a = nrmB (lowIds N') M (memOf M a) := by
    intro a ha
    unfold memOf
    rw [List.getD_eq_getElem?_getD, List.getElem?_map, List.getElem?_take_of_lt ha, List.getD_eq_getElem?_getD]
    rw [List.getElem?_eq_getElem (show a < M.length by omega)]
    rfl
  have hr0 : ∀ a b, lowIds N' a = some b → memOf ((M.take N').map (nrmB (lowIds N') M)) b = nrmB (lowIds N') M (memOf M a) ∧ ρ b = ρ a ∧ (fun _ => True) a := by
    intro a b hab
    obtain ⟨rfl, hlt⟩ := low a b hab
    exact ⟨get b hlt, rfl, trivial⟩
  refine ⟨Shut S ρ (memOf M) D, ρ, h1, h2, fun t => ?_, ?_, h5.trans Kp.shut, fun a ha => ?_⟩
  · have e : tau (nrmT (lowIds N') M s) t = .one .bad ∨ tau (nrmT (lowIds N') M s) t = nrmS (lowIds N') M {} (tau s t) := look_nrm _ _ t s
    rcases e with e | e
    · rw [e]; trivial
    · rw [e]
      exact nrm_rs h4 (A := fun _ => True) (fun _ _ => rfl) hr0 (h3 t) (fun x hx i hi => ⟨trivial, fun h => h⟩) {}
  · refine nrm_mr h4 (A := fun _ => True) (fun _ _ => rfl) hr0 (fun b hb => ?_) (fun a h => h) (fun a b cs hab hma x hx i hi => ⟨trivial, fun h => h⟩)
    have hb' : b < N' := by
      rcases Nat.lt_or_ge b N' with h | h
      · exact h
      · exfalso; apply hb
        unfold memOf
        rw [List.getD_eq_getElem?_getD, List.getElem?_map, List.getElem?_eq_none (by simp; omega)]
        rfl
    exact ⟨b, by unfold lowIds; rw [blt_t hb']⟩
  · have h7 := h6 a ha
    rw [get a (by omega)]
    cases hq : m0 a with
    | gone => trivial
    | var cs =>
      rw [hq] at h7
      obtain ⟨cs', e1, e2⟩ := h7
      rw [e1]; exact ⟨_, rfl, e2⟩
    | row e k f fl sz es =>
      rw [hq] at h7
      obtain ⟨e', k', f', fl', es', e1⟩ := h7
      rw [e1]; exact ⟨_, _, _, _, _, rfl⟩
theorem keepT_tau (s : TS) (t : Nat) : ∀ l : List Nat, lookT (l.map fun i => (i, lookT s i)) t = .one .bad ∨ lookT (l.map fun i => (i, lookT s i)) t = lookT s t
  | [] => .inl rfl
  | i :: l => by
    show (match Nat.beq i t with | true => lookT s i | false => lookT (l.map fun i => (i, lookT s i)) t) = _ ∨ (match Nat.beq i t with | true => lookT s i | false => lookT (l.map fun i => (i, lookT s i)) t) = _
    cases h : Nat.beq i t with
    | true => rw [Nat.eq_of_beq_eq_true h]; exact .inr rfl
    | false => exact keepT_tau s t l
theorem St.keepT {l : List Nat} {m : Mem} {s : TS} {a : Act} {w : World} (h : St E w0 inn S0 w00 N ρ0 m0 L m (tau s) a w) : St E w0 inn S0 w00 N ρ0 m0 L m (tau (keepT l s)) a w := by
  obtain ⟨S, ρ, h1, h2, h3, h4, h5, h6⟩ := h
  refine ⟨S, ρ, h1, h2, fun t => ?_, h4, h5, h6⟩
  rcases keepT_tau s t l with e | e
  · show RS _ _ _ _ (lookT (l.map fun i => (i, lookT s i)) t) _
    rw [e]; trivial
  · show RS _ _ _ _ (lookT (l.map fun i => (i, lookT s i)) t) _
    rw [e]; exact h3 t
theorem St.keepL {l : Option (List Nat)} {m : Mem} {s : TS} {a : Act} {w : World} (h : St E w0 inn S0 w00 N ρ0 m0 L m (tau s) a w) : St E w0 inn S0 w00 N ρ0 m0 L m (tau (keepL l s)) a w := by
  cases l with
  | none => exact h
  | some l => exact h.keepT
/-- A loop is told: whatever the frame. -/
def LoopOK (E : Env) (P : Program) (lo : Lo) (L : Nat) (a : Code) : Prop := ∀ s M e s' M' t, lo a s M = some t → t.eval = some (e, s', M') →
  ∀ (w0 : World) (inn : Inn) (S0 : Nat → Prop) (w00 : World) (N : Nat) (ρ0 : Loc) (m0 : Mem) (ac : Act) (w : World), N ≤ M.length → St E w0 inn S0 w00 N ρ0 m0 L (memOf M) (tau s) ac w →
    (Code.loop a).wp P (fun ex a' w' => ex = exOf e ∧ M.length ≤ M'.length ∧ St E w0 inn S0 w00 N ρ0 m0 L (memOf M') (tau s') a' w') ac w
theorem vx_sound {f : Nat} {c : Orc} {lo : Lo} {n : Nat} (hT : TOK P E.T) (hc : CallOK E P c) (hmo : P.follows .mixedOrders = true) {r : R} : ∀ (cd : Code) (B : Nat) (K : Kont R) (s : TS) (M : List Box), (∀ a ∈ loopsOf cd, LoopOK E P lo L a) → vx E f c lo n L cd K s M = some r → N ≤ B → B ≤ M.length →
    ∀ a w, St E w0 inn S0 w00 N ρ0 m0 L (memOf M) (tau s) a w → cd.wp P (Post E w0 inn S0 w00 N ρ0 m0 L B K r) a w := by
  intro cd
  induction cd with
  | skip =>
    intro B K s M hlo h hB hM a w hst
    exact wp_skip ⟨.normal, s, M, rfl, h, hM, hst⟩
  | label l =>
    intro B K s M hlo h hB hM a w hst
    exact wp_label ⟨.normal, s, M, rfl, h, hM, hst⟩
  | exit id =>
    intro B K s M hlo h hB hM a w hst
    exact wp_exit ⟨.exit id, s, M, rfl, h, hM, hst⟩
  | ret =>
    intro B K s M hlo h hB hM a w hst
    exact wp_ret ⟨.ret, s, M, rfl, h, hM, hst⟩
  | region id ops d =>
    intro B K s M hlo h hB hM a w hst
    obtain ⟨rs, s', M', hch, hK⟩ := vops_chain hT hc ops.toList [] s M _ r h
    obtain ⟨hck, hK⟩ := chk_some hK
    have hML := chain_len _ _ _ _ _ _ hch
    have fin : ∀ a w, St E w0 inn S0 w00 N ρ0 m0 L (memOf M') (tau s') a w → Post E w0 inn S0 w00 N ρ0 m0 L B K r .normal a w :=
      fun a w hst' => ⟨.normal, s', M', rfl, hK, Nat.le_trans hM hML, hst'⟩
    cases d with
    | false => exact region_seq hch fin hst
    | true =>
      simp only [Bool.and_eq_true, List.reverse_nil, List.nil_append] at hck
      exact region_draw hmo hch hck.1 hck.2 fin hst
  | seq x y ihx ihy =>
    intro B K s M hlo h hB hM a w hst
    refine wp_seq (wp_mono (ihx B _ s M (fun a ha => hlo a (List.mem_append_left _ ha)) h hB hM a w hst) ?_)
    rintro e a' w' ⟨ex, s', M', rfl, hK, hM', hst'⟩
    cases ex with
    | normal => exact ihy B K s' M' (fun a ha => hlo a (List.mem_append_right _ ha)) hK hB hM' a' w' hst'
    | exit id => exact ⟨.exit id, s', M', rfl, hK, hM', hst'⟩
    | ret => exact ⟨.ret, s', M', rfl, hK, hM', hst'⟩
  | cond x y z ihy ihz =>
    intro B K s M hlo h hB hM a w hst
    unfold vx at h
    split at h
    · rename_i t ht
      have same : ∀ b, t = b → tau (known s x b) = tau s := by
        intro b hb
        cases x with
        | tmp d => exact tau_same (by have ht : lookT s d = .one (.v (.bool t)) := ht; rw [ht, hb])
        | _ => rfl
      have hv : a.eval x = .bool t := by
        obtain ⟨S, ρ, h1, h2, h3, h4, h5, h6⟩ := hst
        have hx : RS S w ρ (memOf M) (opnd s x) (a.eval x) := opnd_rs fun t _ => h3 t
        rw [ht] at hx
        exact hx.one_v.1
      refine wp_cond hv ?_
      rcases tst_cases h with ⟨hb, h⟩ | ⟨hb, h⟩
      · rw [hb]
        exact ihy B K _ M (fun a ha => hlo a (List.mem_append_left _ ha)) h hB hM a w (by rw [same true hb]; exact hst)
      · rw [hb]
        exact ihz B K _ M (fun a ha => hlo a (List.mem_append_right _ ha)) h hB hM a w (by rw [same false hb]; exact hst)
    · cases h
  | block id x ih =>
    intro B K s M hlo h hB hM a w hst
    refine wp_block (wp_mono (ih B _ s M hlo h hB hM a w hst) ?_)
    rintro e a' w' ⟨ex, s', M', rfl, hK, hM', hst'⟩
    cases ex with
    | normal => exact ⟨.normal, s', M', rfl, hK, hM', hst'⟩
    | exit j =>
      dsimp only at hK
      show if j = id then _ else _
      by_cases hj : j = id
      · rw [if_pos hj]
        rw [show (j == id) = true by simpa using hj] at hK
        exact ⟨.normal, s', M', rfl, hK, hM', hst'⟩
      · rw [if_neg hj]
        rw [show (j == id) = false by simpa using hj] at hK
        exact ⟨.exit j, s', M', rfl, hK, hM', hst'⟩
    | ret => exact ⟨.ret, s', M', rfl, hK, hM', hst'⟩
  | loop x ih =>
    intro B K s M hlo h hB hM a w hst
    unfold vx at h
    have hst0 : St E w0 inn S0 w00 N ρ0 m0 L (memOf (M.map (nrmB (lowIds M.length) M))) (tau (keepL (E.live f (firstId x)) (nrmT (lowIds M.length) M s))) a w := by
      have := hst.low (N' := M.length) (Nat.le_trans hB hM) (Nat.le_refl _)
      rw [List.take_length] at this
      exact this.keepL
    split at h
    · rename_i t hl
      obtain ⟨⟨e, s', M'⟩, hev, h⟩ := Tree.go_some h
      dsimp only at h
      have q3 := hlo x (List.mem_cons_self ..) _ _ _ _ _ t hl hev
      refine wp_mono (q3 w0 inn S0 w00 N ρ0 m0 a w (by simp; omega) hst0) ?_
      rintro e' a' w' ⟨rfl, q2, hst'⟩
      exact ⟨e, s', M', rfl, h, by simp at q2; omega, hst'⟩
    have key : ∀ k s' M', iter (E.live f (firstId x)) (fun K' s' M' => vx E f c lo n L x K' s' M') M.length k K s' M' = some r → M.length ≤ M'.length → ∀ a w, St E w0 inn S0 w00 N ρ0 m0 L (memOf M') (tau s') a w →
        Code.rounds P x (Post E w0 inn S0 w00 N ρ0 m0 L B K r) k a w := by
      intro k
      induction k with
      | zero => intro s' M' h; cases h
      | succ k ihk =>
        intro s' M' h hM' a w hst'
        rw [rounds_succ]
        unfold iter at h
        refine wp_mono (ih M.length _ s' M' (fun a ha => hlo a (List.mem_cons_of_mem _ ha)) h (Nat.le_trans hB hM) hM' a w hst') ?_
        rintro e a' w' ⟨ex, s2, M2, rfl, hK, hM2, hst2⟩
        cases ex with
        | normal =>
          dsimp only at hK
          exact ihk _ _ hK (by simp; omega) a' w' (hst2.low (Nat.le_trans hB hM) hM2).keepL
        | exit id => exact ⟨.exit id, s2, M2, rfl, hK, Nat.le_trans hM hM2, hst2⟩
        | ret => exact ⟨.ret, s2, M2, rfl, hK, Nat.le_trans hM hM2, hst2⟩
    exact wp_loop_rounds n (key n _ _ h (by simp) a w hst0)
  | _ =>
    intro B K s M _ h
    cases h
/-- Out of the loop run by itself. -/
theorem LoopOK.of_run {f : Nat} {c : Orc} {lo lo' : Lo} {x : Code} (hT : TOK P E.T) (hc : CallOK E P c) (hmo : P.follows .mixedOrders = true) (hlo : ∀ a ∈ loopsOf x, LoopOK E P lo L a)
    (h : ∀ s M e s' M' t, lo' x s M = some t → t.eval = some (e, s', M') → ∃ n m l, vloop E f c lo n L x M.length m (keepT l s) M = some (e, s', M')) : LoopOK E P lo' L x := by
  intro s M e s' M' t hl hev
  obtain ⟨n, m, l, hr⟩ := h s M e s' M' t hl hev
  unfold vloop at hr
  have gen : ∀ (w0 : World) (inn : Inn) (S0 : Nat → Prop) (w00 : World) (N : Nat) (ρ0 : Loc) (m0 : Mem), N ≤ M.length →
      ∀ k s1 M1, iter (E.live f (firstId x)) (fun K' s' M' => vx E f c lo n L x K' s' M') M.length k (fun e s M => some (e, keepL (E.live f (100000 + firstId x)) s, M)) s1 M1 = some (e, s', M') → M.length ≤ M1.length → ∀ a w, St E w0 inn S0 w00 N ρ0 m0 L (memOf M1) (tau s1) a w →
        Code.rounds P x (fun ex a' w' => ex = exOf e ∧ M.length ≤ M'.length ∧ St E w0 inn S0 w00 N ρ0 m0 L (memOf M') (tau s') a' w') k a w := by
    intro w0 inn S0 w00 N ρ0 m0 hN k
    induction k with
    | zero => intro s1 M1 h; cases h
    | succ k ihk =>
      intro s1 M1 h hM1 a w hst
      rw [rounds_succ]
      unfold iter at h
      refine wp_mono (vx_sound (L := L) hT hc hmo x M.length _ s1 M1 hlo h hN hM1 a w hst) ?_
      rintro e' a' w' ⟨ex, s2, M2, rfl, hK, hM2, hst2⟩
      have fin : (fun e s M => some (e, keepL (E.live f (100000 + firstId x)) s, M)) ex s2 M2 = some (e, s', M') → exOf ex = exOf e ∧ M.length ≤ M'.length ∧ St E w0 inn S0 w00 N ρ0 m0 L (memOf M') (tau s') a' w' := by
        intro hK
        simp only [Option.some.injEq, Prod.mk.injEq] at hK
        obtain ⟨rfl, rfl, rfl⟩ := hK
        exact ⟨rfl, hM2, hst2.keepL⟩
      cases ex with
      | normal => exact ihk _ _ hK (by simp; omega) a' w' (hst2.low hN hM2).keepL
      | exit id => exact fin hK
      | ret => exact fin hK
  intro w0 inn S0 w00 N ρ0 m0 ac w hN hst
  exact wp_loop_rounds m (gen w0 inn S0 w00 N ρ0 m0 hN m _ M hr (Nat.le_refl _) ac w hst.keepT)
end
end Go.Vi
