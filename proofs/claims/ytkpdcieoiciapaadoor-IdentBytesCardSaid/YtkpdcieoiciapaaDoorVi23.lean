/- THE VALUE INTERPRETER: whole functions. No project text. -/
import Derived.Test.YtkpdcieoiciapaaDoorVi22
set_option linter.unusedVariables false
set_option linter.unusedSimpArgs false
namespace Go.Vi
open Go.RowKit
theorem addNew_nodup : ∀ (xs l : List Nat), l.Nodup → (addNew l xs).Nodup
  | [], l, h => h
  | y :: xs, l, h => by
    unfold addNew
    split
    · exact addNew_nodup xs l h
    · rename_i hy
      refine addNew_nodup xs _ ?_
      rw [List.nodup_append]
      refine ⟨h, by simp, fun a ha b hb => ?_⟩
      simp at hb; subst hb
      rintro rfl
      simp [ha] at hy
theorem rowIds_le {m : Nat} {M : List Box} {x : Nat} : ∀ (as : List Nat), x ∈ rowIds m M as → m ≤ x
  | a :: as, h => by
    unfold rowIds at h
    split at h
    · rename_i h1 _
      cases h with
      | head => exact by simpa using h1
      | tail _ h => exact rowIds_le as h
    · exact rowIds_le as h
/-- What one result comes to. -/
def oneRes (tmps : Array Value) : ResultVar → Sem Value
  | .tmp t => pure (tmps.getD t undef)
  | .cell a t => do loadVar t (← asAddr (tmps.getD a undef))
theorem results_run {P : Program} {fn : Func} {tmps : Array Value} {w : World} {Q : ResultVar → Value → Prop} (h : ∀ x ∈ fn.results.toList, ∃ v, (oneRes tmps x).run P w = .ok v w ∧ Q x v) :
    ∃ vs : Array Value, vs.size = fn.results.size ∧ (∀ (j : Nat) x, fn.results[j]? = some x → ∃ v, vs[j]? = some v ∧ Q x v) ∧ (results fn tmps).run P w = .ok (if h : vs.size = 1 then vs[0] else .tuple vs) w := by
  have gen : ∀ l : List ResultVar, (∀ x ∈ l, ∃ v, (oneRes tmps x).run P w = .ok v w ∧ Q x v) → ∃ vs : List Value, vs.length = l.length ∧ (∀ (j : Nat) x, l[j]? = some x → ∃ v, vs[j]? = some v ∧ Q x v) ∧ (l.mapM (oneRes tmps)).run P w = .ok vs w := by
    intro l
    induction l with
    | nil => intro _; exact ⟨[], rfl, fun j x hj => by simp at hj, rfl⟩
    | cons x l ih =>
      intro hl
      obtain ⟨v, h1, h2⟩ := hl x (List.mem_cons_self ..)
      obtain ⟨vs, h3, h4, h5⟩ := ih fun y hy => hl y (List.mem_cons_of_mem _ hy)
      refine ⟨v :: vs, by simp [h3], fun j y hj => ?_, ?_⟩
      · cases j with
        | zero => simp only [List.getElem?_cons_zero, Option.some.injEq] at hj; subst hj; exact ⟨v, rfl, h2⟩
        | succ j => simpa using h4 j y (by simpa using hj)
      · rw [List.mapM_cons, Sem.run_bind, h1]
        simp only [Result.andThen_ok, Sem.run_bind, h5, Sem.run_pure]
  obtain ⟨vs, h1, h2, h3⟩ := gen _ h
  refine ⟨vs.toArray, by simp [h1], fun j x hj => ?_, ?_⟩
  · obtain ⟨v, hv, hq⟩ := h2 j x (by simpa using hj)
    exact ⟨v, by simpa using hv, hq⟩
  · have e : (results fn tmps) = (do let vs ← fn.results.mapM (oneRes tmps); pure (if h : vs.size = 1 then vs[0] else .tuple vs)) := by
      unfold results
      congr 1
    rw [e, Array.mapM_eq_mapM_toList]
    simp only [bind_pure_comp, map_pure, Sem.run_bind]
    simp [h3]
theorem cell_run {E : Env} {P : Program} {w0 : World} {inn : Inn} {S : Nat → Prop} {ρ : Loc} {w : World} {M : List Box} (hT : TOK P E.T) (hm : MR E w0 inn S ρ (memOf M) w) {s : TS} {t ty : Nat} {v : Sv} {u : Value} (h : cellVal E M s t ty = some v) (hu : RS S w ρ (memOf M) (lookT s t) u) :
    ∃ x, (do loadVar ty (← asAddr u)).run P w = .ok x w ∧ RS S w ρ (memOf M) v x := by
  unfold cellVal at h
  split at h
  · rename_i a k i off hl
    split at h
    · rename_i cs hM
      split at h
      · rename_i hc
        simp only [Bool.and_eq_true, Nat.ble_eq] at hc
        obtain rfl := Option.some.inj h
        rw [hl] at hu
        have e2 : RP ρ (memOf M) a k i off u := hu
        have hma : memOf M a = .var cs := hM
        simp only [RP, hma] at e2
        obtain ⟨g, hg, hv⟩ := e2
        have hb := hm.box a
        rw [hma] at hb
        obtain ⟨g', vs, tt, h1, h2, h3⟩ := hb
        rw [hg] at h1
        simp only [Value.pointer.injEq, Option.some.injEq, Addr.mk.injEq, and_true, true_and] at h1
        subst h1
        obtain ⟨x, hx, hr⟩ := load_fin (w := w) hT hc.1 (ad := ⟨g, off, none⟩) hc.2 (fun j y hj hy => by
          obtain ⟨u, hu, h4, h5⟩ := h3.2 _ _ hy
          refine ⟨u, ?_, h4, h5⟩
          rw [Addr.add_mid, cell_of_row w g _ vs tt (0, 0) h2]; exact hu)
        refine ⟨x, ?_, hr⟩
        rw [hv]
        simp only [Instr.loadAt, Instr.sureAddr, Sem.run_bind, Sem.run_pure, Result.andThen_ok] at hx
        simp only [asAddr, Sem.run_bind, Sem.run_pure, Result.andThen_ok]
        exact hx
      · cases h
    · cases h
  · cases h
section
variable {E : Env} {P : Program}
theorem vstep_ok {lo : Lo} {n : Nat} {c : Orc} (hT : TOK P E.T) (hmo : P.follows .mixedOrders = true) (hng : ∀ (g : Nat) fn, P.funcs[g]? = some fn → fn.name ≠ "runtime.NumGoroutine") (ih : CallOK E P c) {g : Nat} (hlo : ∀ fn b, P.funcs[g]? = some fn → fn.body = some b → ∀ a ∈ loopsOf b, LoopOK E P lo fn.ntmps a) : ∀ args M res M2, vstep E P lo n c g args M = some (res, M2) → CallAt E P g args M res M2 := by
    intro args M res M2 h
    unfold vstep at h
    split at h
    · rename_i fn hfn
      split at h
      · rename_i b hb
        refine ⟨⟨fn, hfn, hng g fn hfn, by rw [hb]; rfl⟩, fun w S ρ us hus hua hmr => ?_⟩
        refine calls_of_wp hfn hb ?_
        obtain ⟨hle, h⟩ := chk_some h
        have hle := Nat.le_of_ble_eq_true hle
        have hst : St E w (InnOf S ρ (memOf M)) S w M.length ρ (memOf M) fn.ntmps (memOf M) (tau (argS 0 args))
            { tmps := us ++ Array.replicate (fn.ntmps - us.size) undef, defers := [] } w := by
          refine ⟨S, ρ, by simp [hus]; omega, rfl, fun t => ?_, hmr, Kp.refl _ _, LeW.refl⟩
          have hl : ∀ (xs : List Sv) (i t : Nat), lookT (argS i xs) t = if i ≤ t ∧ t < i + xs.length then xs.getD (t - i) (Sv.one .bad) else .one .bad := by
            intro xs
            induction xs with
            | nil => intro i t; rw [if_neg (by simp)]; rfl
            | cons x xs ih =>
              intro i t
              show (match Nat.beq i t with | true => x | false => lookT (argS (i + 1) xs) t) = _
              cases hb : Nat.beq i t with
              | true =>
                have := Nat.eq_of_beq_eq_true hb
                subst this
                rw [if_pos ⟨Nat.le_refl _, by simp⟩]; simp
              | false =>
                have hne : i ≠ t := by rintro rfl; rw [Nat.beq_refl] at hb; cases hb
                dsimp only
                rw [ih]
                by_cases hc : i + 1 ≤ t ∧ t < i + 1 + xs.length
                · rw [if_pos hc, if_pos ⟨by omega, by simp; omega⟩, show t - i = (t - (i + 1)) + 1 by omega]; simp
                · rw [if_neg hc, if_neg (by simp; omega)]
          unfold tau
          rw [hl]
          by_cases hc : 0 ≤ t ∧ t < 0 + args.length
          · rw [if_pos hc, Nat.sub_zero]
            have hlt : t < args.length := by omega
            obtain ⟨u, hu, hr⟩ := hua t _ (List.getElem?_eq_getElem hlt)
            rw [List.getD_eq_getElem?_getD, List.getElem?_eq_getElem hlt]
            have : (us ++ Array.replicate (fn.ntmps - us.size) undef).getD t undef = u := by
              have ht : t < us.size := by omega
              rw [Array.getD_eq_getD_getElem?, Array.getElem?_append_left ht, hu]; rfl
            rw [this]; exact hr
          · rw [if_neg hc]; trivial
        refine wp_mono (vx_sound (N := M.length) (n := n) hT ih hmo b M.length _ _ M (hlo fn b hfn hb) h (Nat.le_refl _) (Nat.le_refl _) _ w hst) ?_
        rintro e a' w' ⟨ex, s, M', rfl, hK, hML, S2, ρ2, h1, h2, h3, h4, h5, h6⟩
        have fin : chk (resOk E M' s fn) (some (oneOf (resVals E (outIds M.length (newIds (E.adopt g) M.length M' (fn.results.toList.map (resVal E M' s)))) M' s fn.results.toList fn.resultTypes.toList),
            (M'.take M.length).map (nrmB (outIds M.length (newIds (E.adopt g) M.length M' (fn.results.toList.map (resVal E M' s)))) M') ++ (newIds (E.adopt g) M.length M' (fn.results.toList.map (resVal E M' s))).map fun a => nrmB (outIds M.length (newIds (E.adopt g) M.length M' (fn.results.toList.map (resVal E M' s)))) M' (M'.getD a .gone))) = some (res, M2) →
            a'.defers = [] ∧ ∃ v, (results fn a'.tmps).run P w' = .ok v w' ∧ (∃ u S' ρ', Ending.returned v = .returned u ∧ Kp S S' w w' ∧ RS S' w' ρ' (memOf M2) res u ∧ MR E w (InnOf S ρ (memOf M)) S' ρ' (memOf M2) w' ∧ LeW M.length ρ (memOf M) ρ' (memOf M2) ∧ M.length ≤ M2.length) := by
          intro hK
          obtain ⟨hok, hK⟩ := chk_some hK
          generalize hnew : newIds (E.adopt g) M.length M' (fn.results.toList.map (resVal E M' s)) = new at hK
          simp only [Option.some.injEq, Prod.mk.injEq] at hK
          obtain ⟨rfl, rfl⟩ := hK
          have hnn : new.Nodup ∧ ∀ a ∈ new, M.length ≤ a := by
            subst hnew
            unfold newIds
            split
            · refine ⟨addNew_nodup _ _ List.nodup_nil, fun a ha => ?_⟩
              rcases addNew_mem _ _ ha with h | h
              · cases h
              · exact rowIds_le _ h
            · exact ⟨List.nodup_nil, fun a ha => nomatch ha⟩
          obtain ⟨hnd, hnl⟩ := hnn
          let r : Nat → Option Nat := outIds M.length new
          let D : Nat → Prop := fun a => r a = none
          let ρ3 : Loc := fun b => if b < M.length then ρ2 b else ρ2 (new.getD (b - M.length) 0)
          let M3 : List Box := (M'.take M.length).map (nrmB r M') ++ new.map fun a => nrmB r M' (M'.getD a .gone)
          have hl1 : ((M'.take M.length).map (nrmB r M')).length = M.length := by simp; omega
          have getLow : ∀ a, a < M.length → memOf M3 a = nrmB r M' (memOf M' a) := by
            intro a ha
            show M3.getD a .gone = _
            rw [List.getD_eq_getElem?_getD, List.getElem?_append_left (by omega), List.getElem?_map, List.getElem?_take_of_lt ha, List.getElem?_eq_getElem (show a < M'.length by omega)]
            show nrmB r M' M'[a] = nrmB r M' (M'.getD a .gone)
            rw [List.getD_eq_getElem?_getD, List.getElem?_eq_getElem (show a < M'.length by omega)]; rfl
          have getHigh : ∀ b, M.length ≤ b → memOf M3 b = match new[b - M.length]? with | some a => nrmB r M' (memOf M' a) | none => .gone := by
            intro b hb
            show M3.getD b .gone = _
            rw [List.getD_eq_getElem?_getD, List.getElem?_append_right (by omega), hl1, List.getElem?_map]
            cases new[b - M.length]? <;> rfl
          have hr0 : ∀ a b, r a = some b → memOf M3 b = nrmB r M' (memOf M' a) ∧ ρ3 b = ρ2 a ∧ (fun _ => True) a := by
            intro a b hab
            have hab' : outIds M.length new a = some b := hab
            unfold outIds at hab'
            split at hab'
            · rename_i hlt
              have hlt : a < M.length := by simpa using hlt
              obtain rfl := Option.some.inj hab'
              exact ⟨getLow a hlt, if_pos hlt, trivial⟩
            · obtain ⟨q1, q2⟩ := posOf_some hab'
              refine ⟨by rw [getHigh b q1, q2], ?_, trivial⟩
              show (if b < M.length then ρ2 b else ρ2 (new.getD (b - M.length) 0)) = ρ2 a
              rw [if_neg (by omega), List.getD_eq_getElem?_getD, q2]; rfl
          have hs : ∀ b, memOf M3 b ≠ .gone → ∃ a, r a = some b := by
            intro b hb
            rcases Nat.lt_or_ge b M.length with hlt | hge
            · exact ⟨b, by show outIds M.length new b = some b; unfold outIds; rw [blt_t hlt]⟩
            · rw [getHigh b hge] at hb
              cases hq : new[b - M.length]? with
              | none => rw [hq] at hb; exact absurd rfl hb
              | some a =>
                have hma := hnl a (List.mem_of_getElem? hq)
                refine ⟨a, ?_⟩
                show outIds M.length new a = some b
                unfold outIds
                rw [blt_f (show ¬ a < M.length by omega)]
                dsimp only
                rw [posOf_get hnd hq]; congr 1; omega
          have hmr3 : MR E w (InnOf S ρ (memOf M)) (Shut S2 ρ2 (memOf M') D) ρ3 (memOf M3) w' :=
            nrm_mr h4 (A := fun _ => True) (fun _ _ => rfl) hr0 hs (fun a h => h) (fun a b cs hab hma x hx i hi => ⟨trivial, fun h => h⟩)
          obtain ⟨hall, hlen⟩ := Bool.and_eq_true _ _ ▸ hok
          obtain ⟨vs, hvs, hvj, hrun⟩ := results_run (P := P) (fn := fn) (tmps := a'.tmps) (w := w') (Q := fun x u => RS S2 w' ρ2 (memOf M') (resVal E M' s x) u) (fun x hx => by
            have hx1 := List.all_eq_true.1 hall x hx
            cases x with
            | tmp t => exact ⟨_, rfl, h3 t⟩
            | cell t ty =>
              simp only [resOne] at hx1
              split at hx1
              · rename_i v hv
                obtain ⟨x, h1, h2⟩ := cell_run hT h4 hv (h3 t)
                refine ⟨x, h1, ?_⟩
                simp only [resVal, hv]; exact h2
              · cases hx1)
          have hlen' : fn.results.size = fn.resultTypes.size := by
            have := Nat.eq_of_beq_eq_true hlen; simpa using this
          -- each result
          have hres : ∀ (xs : List ResultVar) (ts : List Nat), xs.length = ts.length → (resVals E r M' s xs ts).length = xs.length ∧ ∀ (j : Nat) y, (resVals E r M' s xs ts)[j]? = some y → ∃ x t, xs[j]? = some x ∧ y = nrmS r M' (E.T t) (resVal E M' s x) := by
            intro xs
            induction xs with
            | nil => intro ts _; exact ⟨rfl, fun j y hj => by simp [resVals] at hj⟩
            | cons x xs ihx =>
              intro ts ht
              cases ts with
              | nil => simp at ht
              | cons t ts =>
                obtain ⟨q1, q2⟩ := ihx ts (by simpa using ht)
                refine ⟨by simp [resVals, q1], fun j y hj => ?_⟩
                cases j with
                | zero => simp only [resVals, List.getElem?_cons_zero, Option.some.injEq] at hj; exact ⟨x, t, rfl, hj.symm⟩
                | succ j => simpa using q2 j y (by simpa [resVals] using hj)
          obtain ⟨hrl, hrg⟩ := hres fn.results.toList fn.resultTypes.toList (by simpa using hlen')
          have one : ∀ (j : Nat) y, (resVals E r M' s fn.results.toList fn.resultTypes.toList)[j]? = some y → ∃ u, vs[j]? = some u ∧ RS1 (Shut S2 ρ2 (memOf M') D) w' ρ3 (memOf M3) y u := by
            intro j y hj
            obtain ⟨x, t, hx, rfl⟩ := hrg j y hj
            have hx' : fn.results[j]? = some x := by simpa using hx
            obtain ⟨v, hv, h3q⟩ := hvj j x hx'
            refine ⟨v, hv, ?_⟩
            have := nrm_rs h4 (A := fun _ => True) (fun _ _ => rfl) hr0 h3q (fun x hx i hi => ⟨trivial, fun h => h⟩) (D := D) (E.T t)
            show RS1 _ _ _ _ (nrmS r M' (E.T t) (resVal E M' s x)) _
            cases hq : resVal E M' s x with
            | one x => rw [hq] at this; exact this
            | agg cs => rw [hq] at this; exact this
            | tup vs => trivial
          refine ⟨h2, _, hrun, _, Shut S2 ρ2 (memOf M') D, ρ3, rfl, h5.trans Kp.shut, ?_, hmr3, fun a ha => ?_, ?_⟩
          · show RS _ _ _ (memOf M3) (oneOf (resVals E r M' s fn.results.toList fn.resultTypes.toList)) _
            have hsz : vs.size = (resVals E r M' s fn.results.toList fn.resultTypes.toList).length := by rw [hvs, hrl]; simp
            generalize resVals E r M' s fn.results.toList fn.resultTypes.toList = ys at one hsz
            match ys, one, hsz with
            | [y], one, hsz =>
              obtain ⟨u, hu, hr⟩ := one 0 y rfl
              have h1 : vs.size = 1 := by simpa using hsz
              rw [dif_pos h1]
              have : vs[0] = u := by
                rw [Array.getElem?_eq_getElem (by omega)] at hu
                exact Option.some.inj hu
              rw [this]
              show RS _ _ _ (memOf M3) y u
              cases y with
              | tup vs => exact hr.elim
              | one x => exact hr
              | agg cs => exact hr
            | [], one, hsz =>
              rw [dif_neg (by simp at hsz; simp [hsz])]
              exact ⟨vs, rfl, by simpa using hsz, fun j x hj => by simp at hj⟩
            | y1 :: y2 :: ys, one, hsz =>
              rw [dif_neg (by rw [hsz]; simp)]
              exact ⟨vs, rfl, hsz, one⟩
          · have h7 := h6 a ha
            show match memOf M a with | .var _ => ∃ cs, memOf M3 a = .var cs ∧ ρ3 a = ρ a | .row _ _ _ _ sz _ => ∃ e k f fl es, memOf M3 a = .row e k f fl sz es | .gone => True
            have hρ : ρ3 a = ρ2 a := if_pos ha
            rw [getLow a ha, hρ]
            cases hq : memOf M a with
            | gone => trivial
            | var cs =>
              rw [hq] at h7
              obtain ⟨cs', e1, e2⟩ := h7
              rw [e1]; exact ⟨_, rfl, e2⟩
            | row e k f fl sz es =>
              rw [hq] at h7
              obtain ⟨e', k', f', fl', es', e1⟩ := h7
              rw [e1]; exact ⟨_, _, _, _, _, rfl⟩
          · show M.length ≤ M3.length
            simp [M3]; omega
        cases ex with
        | exit id => cases hK
        | normal => exact fin hK
        | ret => exact fin hK
      · cases h
    · cases h
theorem noOrc_ok : CallOK E P noOrc := fun g args M res M2 h => by cases h
theorem over_ok {c : Orc} {g : Nat} {F : List Sv → List Box → Tree (Sv × List Box)} (hT : TOK P E.T) (hmo : P.follows .mixedOrders = true) (hng : ∀ (g : Nat) fn, P.funcs[g]? = some fn → fn.name ≠ "runtime.NumGoroutine") (hc : CallOK E P c)
    (h : ∀ args M r, (F args M).eval = some r → ∃ lo n, (∀ fn b, P.funcs[g]? = some fn → fn.body = some b → ∀ a ∈ loopsOf b, LoopOK E P lo fn.ntmps a) ∧ vstep E P lo n c g args M = some r) : CallOK E P (over c g F) := by
  intro g' args M res M2 hr
  unfold over at hr
  split at hr
  · rename_i hg
    obtain rfl := Nat.eq_of_beq_eq_true hg
    obtain ⟨lo, n, hlo, hn⟩ := h args M _ hr
    exact vstep_ok hT hmo hng hc hlo args M res M2 hn
  · exact hc g' args M res M2 hr
end
end Go.Vi
