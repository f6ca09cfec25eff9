/- THE VALUE INTERPRETER: calls. No project text. -/
import Derived.Test.YtkpdcieoiciapaaDoorVi17
set_option linter.unusedVariables false
set_option linter.unusedSimpArgs false
namespace Go.Vi
open Go.RowKit
variable {R : Type}
/-- What a call comes to. -/
def CallAt (E : Env) (P : Program) (g : Nat) (args : List Sv) (M : List Box) (res : Sv) (M2 : List Box) : Prop :=
  (∃ fn, P.funcs[g]? = some fn ∧ fn.name ≠ "runtime.NumGoroutine" ∧ fn.body.isSome = true) ∧
  ∀ (w : World) (S : Nat → Prop) (ρ : Loc) (us : Array Value), us.size = args.length → (∀ (j : Nat) x, args[j]? = some x → ∃ u, us[j]? = some u ∧ RS S w ρ (memOf M) x u) →
    MR E w (InnOf S ρ (memOf M)) S ρ (memOf M) w →
    Calls P g us w (fun e w' => ∃ u S' ρ', e = .returned u ∧ Kp S S' w w' ∧ RS S' w' ρ' (memOf M2) res u ∧ MR E w (InnOf S ρ (memOf M)) S' ρ' (memOf M2) w' ∧ LeW M.length ρ (memOf M) ρ' (memOf M2) ∧ M.length ≤ M2.length)
/-- THE ORACLE IS THE PROGRAM's. -/
def CallOK (E : Env) (P : Program) (c : Orc) : Prop := ∀ g args M res M2, (c g args M).eval = some (res, M2) → CallAt E P g args M res M2
theorem Tree.go_some {α : Type} {r : R} : ∀ {t : Tree α} {K : α → Option R}, t.go K = some r → ∃ x, t.eval = some x ∧ K x = some r
  | .ok x, K, h => ⟨x, rfl, h⟩
  | .br b x y, K, h => by
    cases b with
    | true => exact Tree.go_some (t := x) h
    | false => exact Tree.go_some (t := y) h

theorem posOf_some {a : Nat} : ∀ {l : List Nat} {i b : Nat}, posOf a l i = some b → i ≤ b ∧ l[b - i]? = some a
  | c :: l, i, b, h => by
    unfold posOf at h
    split at h
    · rename_i hc
      obtain rfl := Option.some.inj h
      have : c = a := by simpa using hc
      subst this
      exact ⟨Nat.le_refl _, by simp⟩
    · obtain ⟨h1, h2⟩ := posOf_some h
      refine ⟨by omega, ?_⟩
      rw [show b - i = (b - (i + 1)) + 1 by omega]; simpa using h2
theorem posOf_none {a : Nat} : ∀ {l : List Nat} {i : Nat}, posOf a l i = none → a ∉ l
  | [], i, h => by simp
  | c :: l, i, h => by
    unfold posOf at h
    split at h
    · cases h
    · rename_i hc
      have hc : c ≠ a := by simpa using hc
      have := posOf_none h
      simp [this]
      exact fun e => hc e.symm
theorem posOf_mem {a : Nat} {l : List Nat} {i b : Nat} (h : posOf a l i = some b) : a ∈ l := List.mem_of_getElem? (posOf_some h).2
theorem nodupB_spec : ∀ {l : List Nat}, nodupB l = true → l.Nodup
  | [], _ => List.nodup_nil
  | x :: xs, h => by
    simp only [nodupB, Bool.and_eq_true, Bool.not_eq_true', List.contains_eq_mem] at h
    exact List.nodup_cons.2 ⟨by simpa using h.1, nodupB_spec h.2⟩
theorem nodup_inj {l : List Nat} (hn : l.Nodup) {i j : Nat} (hi : i < l.length) (hj : j < l.length) (h : l[i] = l[j]) : i = j := by
  have hp := List.pairwise_iff_getElem.1 hn
  rcases Nat.lt_trichotomy i j with hlt | rfl | hlt
  · exact absurd h (hp i j hi hj hlt)
  · rfl
  · exact absurd h.symm (hp j i hj hi hlt)
theorem posOf_get {a : Nat} : ∀ {l : List Nat} {i b : Nat}, l.Nodup → l[b]? = some a → posOf a l i = some (i + b)
  | c :: l, i, 0, hn, h => by
    simp only [List.getElem?_cons_zero, Option.some.injEq] at h
    subst h
    simp [posOf]
  | c :: l, i, b + 1, hn, h => by
    obtain ⟨h1, h2⟩ := List.nodup_cons.1 hn
    have h' : l[b]? = some a := by simpa using h
    have hne : (c == a) = false := by
      simp only [beq_eq_false_iff_ne, ne_eq]
      rintro rfl
      exact h1 (List.mem_of_getElem? h')
    rw [posOf, hne]
    dsimp only
    rw [posOf_get h2 h', show i + 1 + b = i + (b + 1) by omega]
theorem argsN_get {E : Env} {r : Nat → Option Nat} {M : List Box} : ∀ (ts : List Nat) (xs : List Sv), (argsN E r M ts xs).length = xs.length ∧ ∀ (j : Nat) y, (argsN E r M ts xs)[j]? = some y → ∃ x t, xs[j]? = some x ∧ y = nrmS r M t x
  | t :: ts, x :: xs => by
    obtain ⟨h1, h2⟩ := argsN_get (E := E) (r := r) (M := M) ts xs
    refine ⟨by simp [argsN, h1], fun j y hj => ?_⟩
    cases j with
    | zero => simp only [argsN, List.getElem?_cons_zero, Option.some.injEq] at hj; exact ⟨x, _, rfl, hj.symm⟩
    | succ j => simpa using h2 j y (by simpa [argsN] using hj)
  | [], x :: xs => by
    obtain ⟨h1, h2⟩ := argsN_get (E := E) (r := r) (M := M) [] xs
    refine ⟨by simp [argsN, h1], fun j y hj => ?_⟩
    cases j with
    | zero => simp only [argsN, List.getElem?_cons_zero, Option.some.injEq] at hj; exact ⟨x, _, rfl, hj.symm⟩
    | succ j => simpa using h2 j y (by simpa [argsN] using hj)
  | ts, [] => by cases ts <;> exact ⟨rfl, fun j y hj => by simp [argsN] at hj⟩
theorem mem_ownIds {i : Nat} : ∀ {xs : List At} {x : At}, x ∈ xs → i ∈ ownId x → i ∈ ownIds xs
  | y :: ys, x, hx, hi => by
    unfold ownIds
    cases hx with
    | head => exact List.mem_append_left _ hi
    | tail _ hx => exact List.mem_append_right _ (mem_ownIds hx hi)
section
variable {ids : List Nat} {M : List Box} {nx : Nat}
theorem shift_lt {j : Nat} (hj : j < ids.length) : (shift ids M nx j).1 = ids[j] := by
  unfold shift; rw [List.getElem?_eq_getElem hj]
theorem shift_ge {j : Nat} (hj : ids.length ≤ j) : shift ids M nx j = (nx + (j - ids.length), 0) := by
  unfold shift; rw [List.getElem?_eq_none hj]
theorem shift_inj (hn : ids.Nodup) (hlt : ∀ a ∈ ids, a < nx) : ∀ i j, (shift ids M nx i).1 = (shift ids M nx j).1 → i = j := by
  intro i j h
  rcases Nat.lt_or_ge i ids.length with hi | hi <;> rcases Nat.lt_or_ge j ids.length with hj | hj
  · rw [shift_lt hi, shift_lt hj] at h
    exact nodup_inj hn hi hj h
  · rw [shift_lt hi, shift_ge hj] at h
    have := hlt _ (List.getElem_mem hi)
    dsimp only at h; omega
  · rw [shift_lt hj, shift_ge hi] at h
    have := hlt _ (List.getElem_mem hj)
    dsimp only at h; omega
  · rw [shift_ge hi, shift_ge hj] at h
    dsimp only at h; omega
end

theorem addNew_mem {x : Nat} : ∀ (xs l : List Nat), x ∈ addNew l xs → x ∈ l ∨ x ∈ xs
  | [], l, h => .inl h
  | y :: xs, l, h => by
    unfold addNew at h
    split at h
    · rcases addNew_mem xs l h with h | h
      · exact .inl h
      · exact .inr (List.mem_cons_of_mem _ h)
    · rcases addNew_mem xs _ h with h | h
      · rcases List.mem_append.1 h with h | h
        · exact .inl h
        · simp at h; subst h; exact .inr (List.mem_cons_self ..)
      · exact .inr (List.mem_cons_of_mem _ h)
theorem mem_addNew {x : Nat} : ∀ (xs l : List Nat), x ∈ l ∨ x ∈ xs → x ∈ addNew l xs
  | [], l, h => by
    rcases h with h | h
    · exact h
    · cases h
  | y :: ys, l, h => by
    unfold addNew
    split
    · rename_i hc
      refine mem_addNew ys l ?_
      rcases h with h | h
      · exact .inl h
      · cases h with
        | head => exact .inl (by simpa using hc)
        | tail _ h => exact .inr h
    · refine mem_addNew ys _ ?_
      rcases h with h | h
      · exact .inl (List.mem_append_left _ h)
      · cases h with
        | head => exact .inl (List.mem_append_right _ (List.mem_singleton.2 rfl))
        | tail _ h => exact .inr h
/-- What a call looks at, with the rows that are handed over. -/
theorem reachE_foot {b : Bool} {M : List Box} {args : List Sv} {a : Nat} (h : a ∈ reachE b M args ∨ a ∈ bvOf M (reachE b M args) args) : a ∈ reach M args ++ bvOf M (reach M args) args := by
  cases b with
  | false => exact List.mem_append.2 h
  | true =>
    have own : a ∈ (args.flatMap fun x => ownIds (svAts x)) → a ∈ reach M args ++ bvOf M (reach M args) args := by
      intro h1
      by_cases h2 : a ∈ reach M args
      · exact List.mem_append_left _ h2
      · exact List.mem_append_right _ (List.mem_filter.2 ⟨List.mem_append_left _ h1, by simpa using h2⟩)
    rcases h with h | h
    · rcases addNew_mem _ _ h with h | h
      · exact List.mem_append_left _ h
      · exact own (List.mem_filter.1 h).1
    · obtain ⟨h1, h2⟩ := List.mem_filter.1 h
      rcases List.mem_append.1 h1 with h1 | h1
      · exact own h1
      · obtain ⟨c, hc, h3⟩ := List.mem_flatMap.1 h1
        rcases addNew_mem _ _ hc with h4 | h4
        · by_cases h5 : a ∈ reach M args
          · exact List.mem_append_left _ h5
          · exact List.mem_append_right _ (List.mem_filter.2 ⟨List.mem_append_right _ (List.mem_flatMap.2 ⟨c, h4, h3⟩), by simpa using h5⟩)
        · have := (List.mem_filter.1 h4).2
          unfold isRw at this
          split at this
          · rename_i hq
            rw [hq] at h3; simp [boxOwn] at h3
          · cases this
section
variable {E : Env} {P : Program} {o : Oper} {s : TS} {M : List Box} {nx : Nat} {K : Sv → Eff → Option R} {r : R} {f : Nat} {c : Orc}
theorem callTo_good (hc : CallOK E P c) {g : Nat} {ts : List Nat} {args : List Sv} (h : callTo E c g ts args M nx K = some r) (hnx : nx = M.length)
    (hfo : ∀ a, a ∈ reachE (E.move g) M args ∨ a ∈ bvOf M (reachE (E.move g) M args) args → a ∈ foot s M o)
    (hrun : ∀ (S : Nat → Prop) w ρ m (a : Act), (∀ x ∈ o.op.operands.toList, RS S w ρ m (opnd s x) (a.eval x)) → ∃ us : Array Value, us.size = args.length ∧ (∀ (j : Nat) x, args[j]? = some x → ∃ u, us[j]? = some u ∧ RS S w ρ m x u) ∧
      ((∃ fn, P.funcs[g]? = some fn ∧ fn.name ≠ "runtime.NumGoroutine" ∧ fn.body.isSome = true) → (execOp a.eval o).run P w = .ok (.enter g us) w)) :
    ∃ v ef, K v ef = some r ∧ Good E P o s M nx v ef := by
  unfold callTo at h
  dsimp only at h
  obtain ⟨hck, h⟩ := chk_some h
  simp only [Bool.and_eq_true, List.all_eq_true, Nat.blt_eq] at hck
  obtain ⟨hlt, hnd⟩ := hck
  have hnd := nodupB_spec hnd
  generalize hids : reachE (E.move g) M args = ids at *
  obtain ⟨⟨res, M2⟩, hcall, h⟩ := Tree.go_some h
  dsimp only at h
  · obtain ⟨hfn, hcal⟩ := hc g _ _ res M2 hcall
    have hinj := shift_inj (M := M) (nx := nx) hnd hlt
    have fin : ∀ fr : List Nat, ((fr = [] ∧ ids = [] ∧ M2.all flatBox = true ∧ plainS M2 res = true) ∨ fr = bvOf M ids args) →
        Good E P o s M nx (shS (shift ids M nx) res) (freezeAll M fr ++ backAll (shift ids M nx) M2 0) := by
      intro fr hfr
      refine ⟨fun p hp hplt => ?_, fun w0 inn S ρ m a w hx hf hnew hm => ?_⟩
      · rcases List.mem_append.1 hp with hp | hp
        · have := (freezeAll_mem hp).1
          rcases hfr with ⟨rfl, _⟩ | rfl
          · cases this
          · exact hfo _ (.inr this)
        · obtain ⟨i, _, _, h3, _⟩ := backAll_mem hp
          rcases Nat.lt_or_ge i ids.length with hi | hi
          · rw [h3, shift_lt hi]; exact hfo _ (.inl (List.getElem_mem hi))
          · rw [h3, shift_ge hi] at hplt; dsimp only at hplt; omega
      · obtain ⟨us, hus, hua, hexec⟩ := hrun S w ρ m a hx
        -- the callee's memory
        let D : Nat → Prop := fun a => a ∈ bvOf M ids args
        let A : Nat → Prop := fun a => a ∈ foot s M o
        let r' : Nat → Option Nat := fun a => posOf a ids 0
        let mi : Mem := memOf (ids.map fun a => nrmB r' M (M.getD a .gone))
        let ρi : Loc := fun j => ρ (ids.getD j 0)
        have hmi : ∀ j (hj : j < ids.length), mi j = nrmB r' M (m ids[j]) := by
          intro j hj
          rw [hf _ (hfo _ (.inl (List.getElem_mem hj)))]
          show ((ids.map fun a => nrmB r' M (M.getD a .gone)).getD j Box.gone) = _
          rw [List.getD_eq_getElem?_getD, List.getElem?_map, List.getElem?_eq_getElem hj]
          rfl
        have hmi' : ∀ j, mi j ≠ .gone → j < ids.length := by
          intro j hj
          rcases Nat.lt_or_ge j ids.length with h | h
          · exact h
          · exfalso; apply hj
            show ((ids.map fun a => nrmB r' M (M.getD a .gone)).getD j Box.gone) = _
            rw [List.getD_eq_getElem?_getD, List.getElem?_eq_none (by simpa using h)]
            rfl
        have hr0 : ∀ a b, r' a = some b → mi b = nrmB r' M (m a) ∧ ρi b = ρ a ∧ A a := by
          intro a b hab
          obtain ⟨_, h2⟩ := posOf_some hab
          rw [Nat.sub_zero] at h2
          obtain ⟨hlt2, h3⟩ := List.getElem?_eq_some_iff.1 h2
          refine ⟨by rw [hmi b hlt2, h3], ?_, hfo _ (.inl (h3 ▸ List.getElem_mem hlt2))⟩
          show ρ (ids.getD b 0) = ρ a
          rw [List.getD_eq_getElem?_getD, h2]; rfl
        have hA : ∀ a, A a → m a = memOf M a := hf
        have hDr : ∀ a, D a → r' a = none := by
          intro a ha
          have ha' := (List.mem_filter.1 ha).2
          cases hq : r' a with
          | none => rfl
          | some b =>
            have := posOf_mem hq
            simp [this] at ha'
        have hClOwn : ∀ i, (i ∈ (args.flatMap fun x => ownIds (svAts x)) ∨ i ∈ ids.flatMap fun a => boxOwn (M.getD a .gone)) → A i ∧ (r' i = none → D i) := by
          intro i hi
          by_cases hmem : i ∈ ids
          · refine ⟨hfo _ (.inl hmem), fun hn => absurd hmem (posOf_none hn)⟩
          · have : i ∈ bvOf M ids args := List.mem_filter.2 ⟨List.mem_append.2 hi, by simp [hmem]⟩
            exact ⟨hfo _ (.inr this), fun _ => this⟩
        have hClA : ∀ x ∈ args, ClS A r' D x := by
          intro x hx y hy i hi
          exact hClOwn i (.inl (List.mem_flatMap.2 ⟨x, hx, mem_ownIds hy hi⟩))
        have hClB : ∀ a b cs, r' a = some b → m a = .var cs → ∀ x ∈ cs, Cl A r' D x := by
          intro a b cs hab hma x hx i hi
          have haid := posOf_mem hab
          refine hClOwn i (.inr (List.mem_flatMap.2 ⟨a, haid, ?_⟩))
          have : M.getD a .gone = .var cs := (hA a (hfo _ (.inl haid))).symm.trans hma
          rw [this]
          exact mem_ownIds hx hi
        have hmr := nrm_mr hm hA hr0 (fun b hb => ⟨ids[b]'(hmi' b hb), by
          have := posOf_get (i := 0) hnd (List.getElem?_eq_getElem (hmi' b hb))
          rwa [Nat.zero_add] at this⟩) hDr hClB
        obtain ⟨hal, hag⟩ := argsN_get (E := E) (r := r') (M := M) ts args
        have hcc := hcal w _ ρi us (by rw [hal]; exact hus) (fun j y hj => by
          obtain ⟨x, t, hx1, rfl⟩ := hag j y hj
          obtain ⟨u, hu, hr⟩ := hua j x hx1
          exact ⟨u, hu, nrm_rs hm hA hr0 hr (hClA x (List.mem_of_getElem? hx1)) t⟩) hmr.rebase
        intro Q
        unfold Oper.wp
        rw [hexec hfn, Oper.upon_enter]
        refine Calls.mono hcc ?_
        rintro e w' ⟨u, S', ρ', rfl, hk, hres, hmr', hle, hlen⟩
        dsimp only
        refine ⟨u, rfl, ?_⟩
        -- the touched boxes
        have hM2lt : ∀ j, memOf M2 j ≠ .gone → j < M2.length := by
          intro j hj
          rcases Nat.lt_or_ge j M2.length with h | h
          · exact h
          · exfalso; apply hj; unfold memOf; rw [List.getD_eq_getElem?_getD, List.getElem?_eq_none h]; rfl
        have hM2get : ∀ j, j < M2.length → M2[j]? = some (memOf M2 j) := by
          intro j hj; unfold memOf; rw [List.getD_eq_getElem?_getD, List.getElem?_eq_getElem hj]; rfl
        have hmiNe : ∀ j, mi j ≠ .gone → memOf M2 j ≠ .gone := by
          intro j hj
          have := hle j (by simpa using hmi' j hj)
          cases hq : mi j with
          | gone => exact absurd hq hj
          | var cs =>
            have hq' : memOf (ids.map fun a => nrmB r' M (M.getD a .gone)) j = .var cs := hq
            rw [hq'] at this; obtain ⟨cs', h1, _⟩ := this; rw [h1]; simp
          | row e k f fl sz es =>
            have hq' : memOf (ids.map fun a => nrmB r' M (M.getD a .gone)) j = .row e k f fl sz es := hq
            rw [hq'] at this; obtain ⟨e', k', f', fl', es', h1⟩ := this; rw [h1]; simp
        have ht : ∀ j, j < M2.length → upM m (freezeAll M fr ++ backAll (shift ids M nx) M2 0) (shift ids M nx j).1 = shB (shift ids M nx) (shift ids M nx j).2 (memOf M2 j) := by
          intro j hj
          rw [upM_append]
          have := backAll_get hinj M2 0 (upM m (freezeAll M fr)) j _ (hM2get j hj)
          rwa [Nat.zero_add] at this
        have hgoneNew : ∀ j, ids.length ≤ j → j < M2.length → m (shift ids M nx j).1 = .gone := by
          intro j h1 h2
          have hmem : ((shift ids M nx j).1, shB (shift ids M nx) (shift ids M nx j).2 (memOf M2 j)) ∈ backAll (shift ids M nx) M2 0 := by
            have gen : ∀ (bs : List Box) (k i : Nat) (b : Box), bs[i]? = some b → ((shift ids M nx (k + i)).1, shB (shift ids M nx) (shift ids M nx (k + i)).2 b) ∈ backAll (shift ids M nx) bs k := by
              intro bs
              induction bs with
              | nil => intro k i b hb; simp at hb
              | cons b' bs ih =>
                intro k i b hb
                cases i with
                | zero =>
                  simp only [List.getElem?_cons_zero, Option.some.injEq] at hb
                  subst hb
                  exact List.mem_cons_self ..
                | succ i =>
                  have := ih (k + 1) i b (by simpa using hb)
                  rw [show k + 1 + i = k + (i + 1) by omega] at this
                  exact List.mem_cons_of_mem _ this
            have := gen M2 0 j _ (hM2get j h2)
            rwa [Nat.zero_add] at this
          exact hnew _ (List.mem_append_right _ hmem) (by rw [shift_ge h1]; dsimp only; omega)
        have hidm : ∀ j (hj : j < ids.length), m (shift ids M nx j).1 = memOf M (shift ids M nx j).1 := by
          intro j hj
          rw [shift_lt hj]; exact hf _ (hfo _ (.inl (List.getElem_mem hj)))
        have hu : ∀ a, (∀ j, memOf M2 j ≠ .gone → (shift ids M nx j).1 ≠ a) → (∀ j, mi j ≠ .gone → (shift ids M nx j).1 ≠ a) ∧
            ((upM m (freezeAll M fr ++ backAll (shift ids M nx) M2 0) a = m a ∧ (a ∈ fr → isRowB (m a) = false)) ∨ ∃ e k f fl sz es, m a = .row e k f fl sz es ∧ upM m (freezeAll M fr ++ backAll (shift ids M nx) M2 0) a = .row e k true fl sz es ∧ a ∈ fr) := by
          intro a ha
          refine ⟨fun j hj => ha j (hmiNe j hj), ?_⟩
          by_cases hex : ∃ j, j < M2.length ∧ (shift ids M nx j).1 = a
          · obtain ⟨j, hj, rfl⟩ := hex
            have hg : memOf M2 j = .gone := by
              cases hq : memOf M2 j with
              | gone => rfl
              | _ => exact absurd rfl (ha j (by rw [hq]; simp))
            have hma : m (shift ids M nx j).1 = .gone := by
              rcases Nat.lt_or_ge j ids.length with hji | hji
              · have : mi j = .gone := by
                  cases hq : mi j with
                  | gone => rfl
                  | _ => exact absurd hg (hmiNe j (by rw [hq]; simp))
                rw [hmi j hji, ← shift_lt (M := M) (nx := nx) hji] at this
                cases hq : m (shift ids M nx j).1 with
                | gone => rfl
                | _ => rw [hq] at this; simp [nrmB] at this
              · exact hgoneNew j hji hj
            refine .inl ⟨?_, fun _ => by rw [hma]; rfl⟩
            rw [ht j hj, hg, hma]; rfl
          · rw [upM_append, upM_out _ _ _ (fun p hp => by
              obtain ⟨i, _, h2, h3, _⟩ := backAll_mem hp
              intro e
              exact hex ⟨i, by omega, by rw [← h3, e]⟩)]
            have hmem : a ∈ fr → m a = memOf M a := by
              intro hafr
              rcases hfr with ⟨rfl, _⟩ | rfl
              · cases hafr
              · exact hf a (hfo a (.inr hafr))
            rcases freezeAll_get (M := M) fr m a with ⟨h1, e, k, f, fl, sz, es, h2, h3⟩ | ⟨h1, h2⟩
            · exact .inr ⟨e, k, f, fl, sz, es, (hmem h1).trans h2, h3, h1⟩
            · exact .inl ⟨h2, fun hafr => by rw [hmem hafr]; exact h1 hafr⟩
        have hfrD : ∀ a, a ∈ fr → D a := by
          intro a ha
          rcases hfr with ⟨rfl, _⟩ | rfl
          · cases ha
          · exact ha
        obtain ⟨ρ3, k1, k2, k3, k4⟩ := merge_mr (S3 := if fr = [] ∧ ids = [] ∧ M2.all flatBox = true ∧ plainS M2 res = true then S else S') (m3 := upM m (freezeAll M fr ++ backAll (shift ids M nx) M2 0)) hm hmr' hk (fun g hg => .inl hg) (fun g hg => hg) (fun g a q1 q2 q3 => .inr ⟨a, q1, q2, q3⟩)
          (fun j hj => by
            have hjl := hmi' j hj
            have e1 := hmi j hjl
            rw [← shift_lt (M := M) (nx := nx) hjl] at e1
            refine ⟨hjl, ?_, ?_, ?_⟩
            · intro e; rw [e] at e1; exact hj e1
            · show frz (mi j) = _
              rw [e1]; cases m (shift ids M nx j).1 <;> rfl
            · show ρ (ids.getD j 0) = _
              rw [shift_lt hjl, List.getD_eq_getElem?_getD, List.getElem?_eq_getElem hjl]; rfl) hinj
          (fun j hj => ht j (hM2lt j hj))
          (fun a ha => ⟨(hu a ha).1, (hu a ha).2.imp (fun h => h.1) (fun ⟨e, k, f, fl, sz, es, h1, h2, h3⟩ => ⟨e, k, f, fl, sz, es, h1, h2, hfrD a h3⟩)⟩)
          (fun j hj => by
            rcases Nat.lt_or_ge j ids.length with hji | hji
            · have hw := hle j (by simpa using hji)
              have e1 : memOf (ids.map fun a => nrmB r' M (M.getD a .gone)) j = nrmB r' M (m (shift ids M nx j).1) := by rw [shift_lt hji]; exact hmi j hji
              rw [e1] at hw
              have e2 := hidm j hji
              cases hq : m (shift ids M nx j).1 with
              | gone => trivial
              | var cs =>
                rw [hq] at hw
                obtain ⟨cs', h1, h2⟩ := hw
                rw [h1]
                refine ⟨_, rfl, h2.trans ?_⟩
                show ρ (ids.getD j 0) = _
                rw [shift_lt hji, List.getD_eq_getElem?_getD, List.getElem?_eq_getElem hji]; rfl
              | row e k f fl sz es =>
                rw [hq] at hw
                obtain ⟨e', k', f', fl', es', h1⟩ := hw
                rw [h1]
                have e3 : (shift ids M nx j).2 = k + 1 := by
                  have e4 : M.getD ids[j] .gone = .row e k f fl sz es := by
                    rw [hq, shift_lt hji] at e2; exact e2.symm
                  unfold shift
                  rw [List.getElem?_eq_getElem hji]
                  dsimp only
                  rw [e4]
                rw [e3]
                exact ⟨_, _, _, _, _, rfl, .inl (by omega)⟩
            · rw [hgoneNew j hji (hM2lt j hj)]; trivial)
          (by
            by_cases hcase : fr = [] ∧ ids = [] ∧ M2.all flatBox = true ∧ plainS M2 res = true
            · refine .inr ⟨if_pos hcase, fun a ha => ?_, fun j hj => List.all_eq_true.1 hcase.2.2.1 _ (List.mem_of_getElem? (hM2get j (hM2lt j hj)))⟩
              rcases (hu a ha).2 with h | ⟨_, _, _, _, _, _, _, _, h⟩
              · exact h.1
              · rw [hcase.1] at h; cases h
            · refine .inl ⟨if_neg hcase, fun a hd hrow ha => ?_⟩
              have hfr' : fr = bvOf M ids args := by
                rcases hfr with h | h
                · exact absurd h hcase
                · exact h
              rcases (hu a ha).2 with h | ⟨_, _, _, _, _, _, _, h2, h⟩
              · rw [h.2 (by rw [hfr']; exact hd)] at hrow; cases hrow
              · rw [h2]; rfl)
        refine ⟨_, ρ3, ?_, k2, k3, k1⟩
        have hsr := sh_rs k4 hres
        by_cases hcase : fr = [] ∧ ids = [] ∧ M2.all flatBox = true ∧ plainS M2 res = true
        · rw [if_pos hcase]
          exact sh_rs k4 (plain_rs hcase.2.2.2 hres)
        · rw [if_neg hcase]; exact hsr
    split at h
    · rename_i hall
      simp only [Bool.and_eq_true, List.isEmpty_iff] at hall
      refine ⟨_, _, h, ?_⟩
      have := fin [] (.inl ⟨rfl, hall.1.1, hall.1.2, hall.2⟩)
      simpa [freezeAll] using this
    · exact ⟨_, _, h, fin _ (.inr rfl)⟩
end
end Go.Vi
