/- THE VALUE INTERPRETER: what a call hands back. No project text. -/
import Derived.Test.YtkpdcieoiciapaaDoorVi15
set_option linter.unusedVariables false
set_option linter.unusedSimpArgs false
namespace Go.Vi
open Go.RowKit
section
variable {E : Env} {w0 : World} {inn : Inn} {S S' : Nat → Prop} {ρ ρ2 : Loc} {m m2 : Mem} {w w' : World} {h : Nat → Nat × Nat}
theorem shCaps_get : ∀ (xs : List At), (shCaps h xs).length = xs.length ∧ ∀ (j : Nat) y, (shCaps h xs)[j]? = some y → ∃ x, xs[j]? = some x ∧
    ((∃ a k i off, x = .ptr a k i off ∧ y = .ptr (h a).1 (k + (h a).2) i off) ∨ (y = x ∧ ∀ a k i off, x ≠ .ptr a k i off))
  | [] => ⟨rfl, fun j y hj => by simp [shCaps] at hj⟩
  | x :: xs => by
    obtain ⟨h1, h2⟩ := shCaps_get xs
    unfold shCaps
    split
    · rename_i h0; cases h0
    · rename_i a k i off xs' h0
      simp only [List.cons.injEq] at h0
      obtain ⟨rfl, rfl⟩ := h0
      refine ⟨by simp [h1], fun j y hj => ?_⟩
      cases j with
      | zero => simp only [List.getElem?_cons_zero, Option.some.injEq] at hj; exact ⟨_, rfl, .inl ⟨a, k, i, off, rfl, hj.symm⟩⟩
      | succ j => simpa using h2 j y (by simpa using hj)
    · rename_i x' xs' hne h0
      simp only [List.cons.injEq] at h0
      obtain ⟨rfl, rfl⟩ := h0
      refine ⟨by simp [h1], fun j y hj => ?_⟩
      cases j with
      | zero => simp only [List.getElem?_cons_zero, Option.some.injEq] at hj; exact ⟨_, rfl, .inr ⟨hj.symm, fun a k i off e => hne a k i off e⟩⟩
      | succ j => simpa using h2 j y (by simpa using hj)
/-- Where box j of the callee's stands now. -/
def Sh (h : Nat → Nat × Nat) (ρ : Loc) (m : Mem) (ρ2 : Loc) (m2 : Mem) : Prop := ∀ j, m j ≠ .gone → m2 (h j).1 = shB h (h j).2 (m j) ∧ ρ2 (h j).1 = ρ j
theorem sh_rp (hs : Sh h ρ m ρ2 m2) {a k i off : Nat} {u : Value} (hx : RP ρ m a k i off u) : RP ρ2 m2 (h a).1 (k + (h a).2) i off u := by
  have hne : m a ≠ .gone := by intro e; simp [RP, e] at hx
  obtain ⟨h1, h2⟩ := hs a hne
  cases hma : m a with
  | gone => exact absurd hma hne
  | var cs =>
    rw [hma] at h1
    simp only [RP, hma] at hx
    simp only [RP, h1, shB, h2]; exact hx
  | row e k' f fl sz es =>
    rw [hma] at h1
    simp only [RP, hma] at hx
    simp only [RP, h1, shB, h2]
    exact ⟨by omega, hx.2.1, fun hk hi => hx.2.2 (by omega) hi⟩
theorem sh_ra (hs : Sh h ρ m ρ2 m2) {x : At} {u : Value} (hx : RA S w ρ m x u) : RA S w ρ2 m2 (shA h x) u := by
  cases x with
  | own a k =>
    have hne : m a ≠ .gone := by intro e; simp [RA, e] at hx
    obtain ⟨h1, h2⟩ := hs a hne
    cases hma : m a with
    | gone => exact absurd hma hne
    | var cs => simp [RA, hma] at hx
    | row e k' f fl sz es =>
      rw [hma] at h1
      simp only [RA, hma] at hx
      simp only [shA, RA, h1, shB, h2]
      exact ⟨by omega, hx.2.1, fun hk => hx.2.2 (by omega)⟩
  | part a k lo hi =>
    have hne : m a ≠ .gone := by intro e; simp [RA, e] at hx
    obtain ⟨h1, h2⟩ := hs a hne
    cases hma : m a with
    | gone => exact absurd hma hne
    | var cs => simp [RA, hma] at hx
    | row e k' f fl sz es =>
      rw [hma] at h1
      simp only [RA, hma] at hx
      simp only [shA, RA, h1, shB, h2]
      exact ⟨by omega, hx.2.1, fun hk => hx.2.2 (by omega)⟩
  | ptr a k i off => exact sh_rp hs hx
  | fn f caps =>
    obtain ⟨vs, hv, hsz, hc⟩ := hx
    obtain ⟨h1, h2⟩ := shCaps_get (h := h) caps
    refine ⟨vs, hv, by rw [hsz, h1], fun j y hj => ?_⟩
    obtain ⟨x, hx, hh⟩ := h2 j y hj
    obtain ⟨u', hu', hr'⟩ := hc j x hx
    refine ⟨u', hu', ?_⟩
    rcases hh with ⟨a, k, i, off, rfl, rfl⟩ | ⟨rfl, hne⟩
    · exact sh_rp hs hr'
    · cases y with
      | ptr a k i off => exact absurd rfl (hne a k i off)
      | _ => exact hr'
  | fresh => exact hx
  | bad => trivial
  | v x => exact hx
  | nils => exact hx
  | fix fl sz es => exact hx
  | err => exact hx
  | unk q => exact hx
  | ro fl sz es => exact hx
  | roe sz cs off => exact hx
  | gp g off => exact hx
theorem sh_rl (hs : Sh h ρ m ρ2 m2) {xs : List At} {vs : Array Value} (hx : RL S w ρ m xs vs) : RL S w ρ2 m2 (xs.map (shA h)) vs := by
  refine ⟨by simp [hx.1], fun j y hj => ?_⟩
  rw [List.getElem?_map, Option.map_eq_some_iff] at hj
  obtain ⟨x, hx', rfl⟩ := hj
  obtain ⟨u, hu, h1, h2⟩ := hx.2 j x hx'
  exact ⟨u, hu, h1, sh_ra hs h2⟩
theorem sh_rs1 (hs : Sh h ρ m ρ2 m2) {x : Sv} {u : Value} (hx : RS1 S w ρ m x u) : RS1 S w ρ2 m2 (shS1 h x) u := by
  cases x with
  | one x => exact sh_ra hs hx
  | agg cs => obtain ⟨vs, hv, hl⟩ := hx; exact ⟨vs, hv, sh_rl hs hl⟩
  | tup vs => exact hx.elim
theorem sh_rs (hs : Sh h ρ m ρ2 m2) {x : Sv} {u : Value} (hx : RS S w ρ m x u) : RS S w ρ2 m2 (shS h x) u := by
  cases x with
  | one x => exact sh_rs1 (x := .one x) hs hx
  | agg cs => exact sh_rs1 (x := .agg cs) hs hx
  | tup vs =>
    obtain ⟨us, hu, hsz, hl⟩ := hx
    refine ⟨us, hu, by simp [hsz], fun j y hj => ?_⟩
    rw [List.getElem?_map, Option.map_eq_some_iff] at hj
    obtain ⟨x, hx', rfl⟩ := hj
    obtain ⟨u, hu, h2⟩ := hl j x hx'
    exact ⟨u, hu, sh_rs1 hs h2⟩

/-! ### plain answers -/
theorem plain_ra {M2 : List Box} {x : At} {u : Value} (hp : plainA M2 x = true) (hx : RA S w ρ m x u) : RA S' w ρ m x u := by
  cases x with
  | v x => have hx' : CV S w (.v x) u := hx; cases hx' with | v h => exact CV.v (S := S') (w := w) h
  | nils => have hx' : CV S w .nils u := hx; cases hx'; exact CV.nils (S := S') (w := w)
  | gp g off => have hx' : CV S w (.gp g off) u := hx; cases hx'; exact CV.gp (S := S') (w := w)
  | fn f caps =>
    simp only [plainA, List.isEmpty_iff] at hp
    subst hp
    obtain ⟨vs, hv, hsz, _⟩ := hx
    exact ⟨vs, hv, hsz, fun j x hj => by simp at hj⟩
  | own a k => exact hx
  | _ => simp [plainA] at hp
theorem plain_rs1 {M2 : List Box} {x : Sv} {u : Value} (hp : plainS1 M2 x = true) (hx : RS1 S w ρ m x u) : RS1 S' w ρ m x u := by
  cases x with
  | one x => exact plain_ra hp hx
  | agg cs =>
    obtain ⟨vs, hv, hl⟩ := hx
    exact ⟨vs, hv, hl.1, fun j x hj => let ⟨u, hu, h1, h2⟩ := hl.2 j x hj; ⟨u, hu, h1, plain_ra (List.all_eq_true.1 hp x (List.mem_of_getElem? hj)) h2⟩⟩
  | tup vs => exact hx.elim
theorem plain_rs {M2 : List Box} {x : Sv} {u : Value} (hp : plainS M2 x = true) (hx : RS S w ρ m x u) : RS S' w ρ m x u := by
  cases x with
  | one x => exact plain_rs1 (x := .one x) hp hx
  | agg cs => exact plain_rs1 (x := .agg cs) hp hx
  | tup vs =>
    obtain ⟨us, hu, hsz, hl⟩ := hx
    exact ⟨us, hu, hsz, fun j x hj => let ⟨u, hu, h2⟩ := hl j x hj; ⟨u, hu, plain_rs1 (List.all_eq_true.1 hp x (List.mem_of_getElem? hj)) h2⟩⟩

/-! ### the effects, box by box -/
theorem backAll_mem {p : Nat × Box} : ∀ {bs : List Box} {j : Nat}, p ∈ backAll h bs j → ∃ i, j ≤ i ∧ i < j + bs.length ∧ p.1 = (h i).1 ∧ ∃ b, bs[i - j]? = some b ∧ p.2 = shB h (h i).2 b
  | b :: bs, j, hp => by
    cases hp with
    | head => exact ⟨j, Nat.le_refl _, by simp, rfl, b, by simp, rfl⟩
    | tail _ hp =>
      obtain ⟨i, h1, h2, h3, b', h4, h5⟩ := backAll_mem hp
      refine ⟨i, by omega, by simp; omega, h3, b', ?_, h5⟩
      rw [show i - j = (i - (j + 1)) + 1 by omega]; simpa using h4
theorem backAll_get (hinj : ∀ i j, (h i).1 = (h j).1 → i = j) : ∀ (bs : List Box) (j : Nat) (m : Mem) (i : Nat) (b : Box), bs[i]? = some b → upM m (backAll h bs j) (h (j + i)).1 = shB h (h (j + i)).2 b
  | b' :: bs, j, m, 0, b, hb => by
    simp only [List.getElem?_cons_zero, Option.some.injEq] at hb
    subst hb
    rw [backAll, upM, upM_out _ _ _ (fun p hp => by
      obtain ⟨i, h1, h2, h3, _⟩ := backAll_mem hp
      rw [h3]
      intro e
      have := hinj _ _ e
      omega)]
    exact if_pos rfl
  | b' :: bs, j, m, i + 1, b, hb => by
    rw [backAll, upM, show j + (i + 1) = (j + 1) + i by omega]
    exact backAll_get hinj bs (j + 1) _ i b (by simpa using hb)
theorem freezeAll_mem {M : List Box} {p : Nat × Box} : ∀ {as : List Nat}, p ∈ freezeAll M as → p.1 ∈ as ∧ ∃ e k f fl sz es, M.getD p.1 .gone = .row e k f fl sz es ∧ p.2 = .row e k true fl sz es
  | a :: as, hp => by
    unfold freezeAll at hp
    split at hp
    · rename_i e k f fl sz es hM
      cases hp with
      | head => exact ⟨List.mem_cons_self .., e, k, f, fl, sz, es, hM, rfl⟩
      | tail _ hp => obtain ⟨h1, h2⟩ := freezeAll_mem hp; exact ⟨List.mem_cons_of_mem _ h1, h2⟩
    · obtain ⟨h1, h2⟩ := freezeAll_mem hp; exact ⟨List.mem_cons_of_mem _ h1, h2⟩
theorem freezeAll_get {M : List Box} : ∀ (as : List Nat) (m : Mem) (a : Nat), (a ∈ as ∧ ∃ e k f fl sz es, M.getD a .gone = .row e k f fl sz es ∧ upM m (freezeAll M as) a = .row e k true fl sz es) ∨ ((a ∈ as → isRowB (M.getD a .gone) = false) ∧ upM m (freezeAll M as) a = m a)
  | [], m, a => .inr ⟨fun h => (nomatch h), rfl⟩
  | b :: as, m, a => by
    unfold freezeAll
    split
    · rename_i e k f fl sz es hM
      rw [upM]
      rcases freezeAll_get as (fun x => if x = b then .row e k true fl sz es else m x) a with ⟨h1, h2⟩ | ⟨h1, h2⟩
      · exact .inl ⟨List.mem_cons_of_mem _ h1, h2⟩
      · by_cases hab : a = b
        · subst hab
          exact .inl ⟨List.mem_cons_self .., e, k, f, fl, sz, es, hM, by rw [h2, if_pos rfl]⟩
        · refine .inr ⟨fun hm => ?_, by rw [h2, if_neg hab]⟩
          cases hm with
          | head => exact absurd rfl hab
          | tail _ hm => exact h1 hm
    · rename_i hne
      rcases freezeAll_get as m a with ⟨h1, h2⟩ | ⟨h1, h2⟩
      · exact .inl ⟨List.mem_cons_of_mem _ h1, h2⟩
      · refine .inr ⟨fun hm => ?_, h2⟩
        cases hm with
        | head =>
          cases hq : M.getD b .gone with
          | row e k f fl sz es => exact absurd hq (hne e k f fl sz es)
          | _ => rfl
        | tail _ hm => exact h1 hm
end
end Go.Vi
