/- THE VALUE INTERPRETER: boxes numbered anew, the rest closed. No project text. -/
import Derived.Test.YtkpdcieoiciapaaDoorVi14
set_option linter.unusedVariables false
set_option linter.unusedSimpArgs false
namespace Go.Vi
open Go.RowKit
section
variable {E : Env} {w0 : World} {inn : Inn} {S S' : Nat → Prop} {ρ ρ2 : Loc} {m m2 : Mem} {w w' : World} {M : List Box} {r : Nat → Option Nat} {D A : Nat → Prop}
def isRowB : Box → Bool | .row _ _ _ _ _ _ => true | _ => false
def Shut (S : Nat → Prop) (ρ : Loc) (m : Mem) (D : Nat → Prop) (g : Nat) : Prop := S g ∨ ∃ a, D a ∧ isRowB (m a) = true ∧ blk (ρ a) = some g
def Cl (A : Nat → Prop) (r : Nat → Option Nat) (D : Nat → Prop) (x : At) : Prop := ∀ i ∈ ownId x, A i ∧ (r i = none → D i)
theorem Kp.shut : Kp S (Shut S ρ m D) w w := ⟨fun _ h => .inl h, fun _ _ => rfl⟩
theorem SlV.keep {B S S' : Nat → Prop} {w w' : World} {fl : Bool} {sz : Nat} {es : List (List At)} {u : Value} (h : SlV B S w fl sz es u) (k : Kp S S' w w') (hb : ∀ g, B g → w'.heap[g]? = w.heap[g]?) : SlV B S' w' fl sz es u := by
  obtain ⟨a, n, c, get, h1, hn, hc, hl, hf, hm, hr⟩ := h
  refine ⟨a, n, c, get, h1, hn, hc, hl, hf, fun hne => ?_, fun i e j x hi hj => (hr i e j x hi hj).keep k⟩
  obtain ⟨ad, ha, hB, hcell⟩ := hm hne
  refine ⟨ad, ha, hB, fun i e j x hi hj => ?_⟩
  rw [World.cell?_of_block (hb _ (by rw [block_add]; exact hB))]
  exact hcell i e j x hi hj

theorem nrmCaps_get : ∀ {xs ys : List At}, nrmCaps r M xs = some ys → ys.length = xs.length ∧ ∀ (j : Nat) y, ys[j]? = some y → ∃ x, xs[j]? = some x ∧
    ((∃ a k i off b cs, x = .ptr a k i off ∧ y = .ptr b 0 i off ∧ r a = some b ∧ M.getD a .gone = .var cs) ∨ (y = x ∧ ∀ a k i off, x ≠ .ptr a k i off))
  | [], ys, h => by
    obtain rfl := Option.some.inj h
    exact ⟨rfl, fun j y hj => by simp at hj⟩
  | x :: xs, ys, h => by
    unfold nrmCaps at h
    split at h
    · rename_i h1; cases h1
    · rename_i a k i off xs' h1
      simp only [List.cons.injEq] at h1
      obtain ⟨rfl, rfl⟩ := h1
      split at h
      · rename_i b cs ys' h1 h2 h3
        obtain rfl := Option.some.inj h
        obtain ⟨h4, h5⟩ := nrmCaps_get h3
        refine ⟨by simp [h4], fun j y hj => ?_⟩
        cases j with
        | zero => simp only [List.getElem?_cons_zero, Option.some.injEq] at hj; exact ⟨_, rfl, .inl ⟨a, k, i, off, b, cs, rfl, hj.symm, h1, h2⟩⟩
        | succ j => simpa using h5 j y (by simpa using hj)
      · cases h
    · rename_i x' xs' hne h1
      simp only [List.cons.injEq] at h1
      obtain ⟨rfl, rfl⟩ := h1
      split at h
      · rename_i ys' h3
        obtain rfl := Option.some.inj h
        obtain ⟨h4, h5⟩ := nrmCaps_get h3
        refine ⟨by simp [h4], fun j y hj => ?_⟩
        cases j with
        | zero => simp only [List.getElem?_cons_zero, Option.some.injEq] at hj; exact ⟨_, rfl, .inr ⟨hj.symm, fun a k i off e => hne a k i off e⟩⟩
        | succ j => simpa using h5 j y (by simpa using hj)
      · cases h

theorem nrm_ra (hm : MR E w0 inn S ρ m w) (hA : ∀ a, A a → m a = memOf M a) (hr0 : ∀ a b, r a = some b → m2 b = nrmB r M (m a) ∧ ρ2 b = ρ a ∧ A a) {x : At} {u : Value} (hx : RA S w ρ m x u) (hc : Cl A r D x) (c : Option (Nat × Bool × Nat)) :
    RA (Shut S ρ m D) w ρ2 m2 (nrmA r M c x) u := by
  have hk : Kp S (Shut S ρ m D) w w := Kp.shut
  have hr : ∀ a b, r a = some b → m2 b = nrmB r M (m a) ∧ ρ2 b = ρ a := fun a b h => ⟨(hr0 a b h).1, (hr0 a b h).2.1⟩
  cases x with
  | own a k =>
    simp only [nrmA]
    split
    · rename_i e fl sz es hrow
      obtain ⟨f, hma0⟩ := rowOf_some hrow
      have hma := (hA a (hc a (by simp [ownId])).1).trans hma0
      simp only [RA, hma] at hx
      have hv := hx.2.2 trivial
      split
      · rename_i b hb
        obtain ⟨h1, h2⟩ := hr a b hb
        rw [hma] at h1
        simp only [RA, h1, nrmB]
        exact ⟨Nat.le_refl _, hx.2.1, fun _ => by rw [h2]; exact hv⟩
      · rename_i hb
        have := ((row_slv hm hma).keep hk (fun _ _ => rfl)).mono (B' := Shut S ρ m D) (fun g hg => .inr ⟨a, (hc a (by simp [ownId])).2 hb, by rw [hma]; rfl, hg⟩)
        rw [hv]
        exact slv_cv.1 this
    · trivial
  | part a k lo hi =>
    simp only [nrmA]
    split
    · rename_i e fl sz es hrow
      obtain ⟨f, hma0⟩ := rowOf_some hrow
      have hma := (hA a (hc a (by simp [ownId])).1).trans hma0
      simp only [RA, hma] at hx
      obtain ⟨h1, h2, ad, n, cc, ad', hp, hv, hadd⟩ := hx.2.2 trivial
      split
      · rename_i b hb
        obtain ⟨h3, h4⟩ := hr a b hb
        rw [hma] at h3
        simp only [RA, h3, nrmB]
        exact ⟨Nat.le_refl _, hx.2.1, fun _ => ⟨h1, h2, ad, n, cc, ad', by rw [h4]; exact hp, hv, hadd⟩⟩
      · rename_i hb
        obtain ⟨a', n', c', h5, hn, hnc, h6⟩ := (((row_slv hm hma).keep hk (fun _ _ => rfl)).mono (B' := Shut S ρ m D) (fun g hg => .inr ⟨a, (hc a (by simp [ownId])).2 hb, by rw [hma]; rfl, hg⟩)).cut h1 h2
        rw [hp] at h5
        simp only [Value.slice.injEq] at h5
        obtain ⟨rfl, rfl, rfl⟩ := h5
        rw [hv]
        refine slv_cv.1 ?_
        rcases Nat.lt_or_ge lo cc with hlt | hge
        · rw [hadd hlt]
          simp only [sliced] at h6
          rw [if_neg (by omega)] at h6
          exact h6
        · have e1 : (es.take hi).drop lo = [] := by simp; omega
          rw [e1, show hi - lo = 0 by omega]
          exact SlV.nil _ _
    · trivial
  | ptr a k i off =>
    simp only [nrmA]
    split
    · rename_i b hb
      obtain ⟨h3, h4⟩ := hr a b hb
      have hx' : RP ρ m a k i off u := hx
      split
      · rename_i cs hma
        have hma' : m a = .var cs := (hA a (hr0 a b hb).2.2).trans hma
        rw [hma'] at h3
        simp only [RP, hma'] at hx'
        simp only [RA, RP, h3, nrmB]
        rw [h4]; exact hx'
      · rename_i e k' f fl sz es hma
        have hma' : m a = .row e k' f fl sz es := (hA a (hr0 a b hb).2.2).trans hma
        rw [hma'] at h3
        simp only [RP, hma'] at hx'
        split
        · rename_i hkk
          have hkk : k = k' := by simpa using hkk
          simp only [RA, RP, h3, nrmB]
          exact ⟨Nat.le_refl _, hx'.2.1, fun _ hi => by rw [h4]; exact hx'.2.2 hkk hi⟩
        · trivial
      · trivial
    · trivial
  | fn f caps =>
    simp only [nrmA]
    split
    · rename_i cs hcs
      obtain ⟨vs, hv, hs, hcap⟩ := hx
      obtain ⟨h1, h2⟩ := nrmCaps_get hcs
      refine ⟨vs, hv, by rw [hs, h1], fun j y hj => ?_⟩
      obtain ⟨x, hx, hh⟩ := h2 j y hj
      obtain ⟨u', hu', hr'⟩ := hcap j x hx
      refine ⟨u', hu', ?_⟩
      rcases hh with ⟨a, k, i, off, b, cs', rfl, rfl, hb, hma⟩ | ⟨rfl, hne⟩
      · obtain ⟨h3, h4⟩ := hr a b hb
        have hma' : m a = .var cs' := (hA a (hr0 a b hb).2.2).trans hma
        rw [hma'] at h3
        dsimp only at hr' ⊢
        simp only [RP, hma'] at hr'
        simp only [RP, h3, nrmB]
        rw [h4]; exact hr'
      · cases y with
        | ptr a k i off => exact absurd rfl (hne a k i off)
        | _ => exact CV.keep hr' hk
    · trivial
  | nils =>
    simp only [nrmA]
    split
    · have hx' : CV S w .nils u := hx
      cases hx'
      exact slv_cv.1 (SlV.nil 0 _)
    · exact CV.keep hx hk
  | fix fl sz es =>
    simp only [nrmA]
    exact CV.keep (slv_cv.1 (fix_slv (show CV S w (.fix fl sz es) u from hx))) hk
  | err => exact CV.keep hx hk
  | unk q => exact CV.keep hx hk
  | fresh => exact hx
  | bad => trivial
  | v x => exact CV.keep hx hk
  | ro fl sz es => exact CV.keep hx hk
  | roe sz cs off => exact CV.keep hx hk
  | gp g off => exact CV.keep hx hk

theorem nrmL_get : ∀ (cs : List (Option (Nat × Bool × Nat))) (xs : List At), (nrmL r M cs xs).length = xs.length ∧ ∀ (j : Nat) y, (nrmL r M cs xs)[j]? = some y → ∃ x c, xs[j]? = some x ∧ y = nrmA r M c x
  | c :: cs, x :: xs => by
    obtain ⟨h1, h2⟩ := nrmL_get cs xs
    refine ⟨by simp [nrmL, h1], fun j y hj => ?_⟩
    cases j with
    | zero => simp only [nrmL, List.getElem?_cons_zero, Option.some.injEq] at hj; exact ⟨x, c, rfl, hj.symm⟩
    | succ j => simpa using h2 j y (by simpa [nrmL] using hj)
  | [], x :: xs => by
    obtain ⟨h1, h2⟩ := nrmL_get [] xs
    refine ⟨by simp [nrmL, h1], fun j y hj => ?_⟩
    cases j with
    | zero => simp only [nrmL, List.getElem?_cons_zero, Option.some.injEq] at hj; exact ⟨x, none, rfl, hj.symm⟩
    | succ j => simpa using h2 j y (by simpa [nrmL] using hj)
  | cs, [] => by cases cs <;> exact ⟨rfl, fun j y hj => by simp [nrmL] at hj⟩
theorem nrm_rl (hm : MR E w0 inn S ρ m w) (hA : ∀ a, A a → m a = memOf M a) (hr0 : ∀ a b, r a = some b → m2 b = nrmB r M (m a) ∧ ρ2 b = ρ a ∧ A a) {xs : List At} {vs : Array Value} (hx : RL S w ρ m xs vs) (hc : ∀ x ∈ xs, Cl A r D x) (cs : List (Option (Nat × Bool × Nat))) :
    RL (Shut S ρ m D) w ρ2 m2 (nrmL r M cs xs) vs := by
  obtain ⟨h1, h2⟩ := nrmL_get (r := r) (M := M) cs xs
  refine ⟨by rw [h1]; exact hx.1, fun j y hj => ?_⟩
  obtain ⟨x, c, hx', rfl⟩ := h2 j y hj
  obtain ⟨u, hu, hone, hra⟩ := hx.2 j x hx'
  exact ⟨u, hu, hone, nrm_ra hm hA hr0 hra (hc x (List.mem_of_getElem? hx')) c⟩
def ClS (A : Nat → Prop) (r : Nat → Option Nat) (D : Nat → Prop) (x : Sv) : Prop := ∀ y ∈ svAts x, Cl A r D y
theorem nrm_rs (hm : MR E w0 inn S ρ m w) (hA : ∀ a, A a → m a = memOf M a) (hr0 : ∀ a b, r a = some b → m2 b = nrmB r M (m a) ∧ ρ2 b = ρ a ∧ A a) {x : Sv} {u : Value} (hx : RS S w ρ m x u) (hc : ClS A r D x) (t : TI) :
    RS (Shut S ρ m D) w ρ2 m2 (nrmS r M t x) u := by
  cases x with
  | one x => exact nrm_ra hm hA hr0 hx (hc x (by simp [svAts])) _
  | agg cs =>
    obtain ⟨vs, hv, h⟩ := hx
    exact ⟨vs, hv, nrm_rl hm hA hr0 h (fun x hx => hc x hx) _⟩
  | tup vs => trivial

theorem nrm_mr (hm : MR E w0 inn S ρ m w) (hA : ∀ a, A a → m a = memOf M a) (hr0 : ∀ a b, r a = some b → m2 b = nrmB r M (m a) ∧ ρ2 b = ρ a ∧ A a) (hs : ∀ b, m2 b ≠ .gone → ∃ a, r a = some b)
    (hD : ∀ a, D a → r a = none) (hc : ∀ a b cs, r a = some b → m a = .var cs → ∀ x ∈ cs, Cl A r D x) : MR E w0 inn (Shut S ρ m D) ρ2 m2 w := by
  have hk : Kp S (Shut S ρ m D) w w := Kp.shut
  have hr : ∀ a b, r a = some b → m2 b = nrmB r M (m a) ∧ ρ2 b = ρ a := fun a b h => ⟨(hr0 a b h).1, (hr0 a b h).2.1⟩
  have hfz : ∀ a b, r a = some b → frz (m2 b) = frz (m a) ∧ (m2 b ≠ .gone → m a ≠ .gone) := by
    intro a b h
    rw [(hr a b h).1]
    cases m a with
    | var cs => exact ⟨rfl, fun _ e => by cases e⟩
    | row e k f fl sz es => exact ⟨rfl, fun _ e => by cases e⟩
    | gone => exact ⟨rfl, fun h => h⟩
  refine ⟨fun b => ?_, fun b1 b2 g h1 h2 hf1 hf2 hg1 hg2 => ?_, fun b g h1 hf hg => ?_, fun b g hf hg => ?_, fun g hg => ?_, fun g hg hlt => ?_, hm.frm, hm.glob.keep hk⟩
  · by_cases hb : m2 b = .gone
    · rw [hb]; trivial
    · obtain ⟨a, ha⟩ := hs b hb
      obtain ⟨h1, h2⟩ := hr a b ha
      have hbx := hm.box a
      cases hma : m a with
      | gone => rw [h1, hma] at hb; exact absurd rfl hb
      | var cs =>
        rw [hma] at hbx
        rw [h1, hma]
        obtain ⟨g, vs, t, q1, q2, q3⟩ := hbx
        exact ⟨g, vs, t, h2.trans q1, q2, nrm_rl hm hA hr0 q3 (hc a b cs ha hma) _⟩
      | row e k f fl sz es =>
        rw [hma] at hbx
        rw [h1, hma]
        obtain ⟨q0, q1, q2, xs, q3, q4⟩ := hbx
        exact ⟨q0, q1, q2, xs, by rw [h2]; exact q3, fun i e' j x hi hj => let ⟨u, hu, hx⟩ := q4 i e' j x hi hj; ⟨u, hu, hx.keep hk⟩⟩
  · obtain ⟨a1, ha1⟩ := hs b1 h1
    obtain ⟨a2, ha2⟩ := hs b2 h2
    rw [(hr a1 b1 ha1).2] at hg1
    rw [(hr a2 b2 ha2).2] at hg2
    have := hm.sep a1 a2 g ((hfz a1 b1 ha1).2 h1) ((hfz a2 b2 ha2).2 h2) ((hfz a1 b1 ha1).1 ▸ hf1) ((hfz a2 b2 ha2).1 ▸ hf2) hg1 hg2
    subst this
    rw [ha1] at ha2
    exact Option.some.inj ha2
  · obtain ⟨a, ha⟩ := hs b h1
    rw [(hr a b ha).2] at hg
    have hf' : frz (m a) = false := (hfz a b ha).1 ▸ hf
    obtain ⟨q1, q2⟩ := hm.apart a g ((hfz a b ha).2 h1) hf' hg
    refine ⟨fun hS => ?_, q2⟩
    rcases hS with hS | ⟨a', hd, hrow, hg'⟩
    · exact q1 hS
    · have hne : m a' ≠ .gone := by intro e; rw [e] at hrow; cases hrow
      cases hfa : frz (m a') with
      | true => exact q1 (hm.froz a' g hfa hg')
      | false =>
        have := hm.sep a a' g ((hfz a b ha).2 h1) hne hf' hfa hg hg'
        subst this
        rw [hD a hd] at ha; cases ha
  · have hne : m2 b ≠ .gone := by intro e; rw [e] at hf; cases hf
    obtain ⟨a, ha⟩ := hs b hne
    rw [(hr a b ha).2] at hg
    exact .inl (hm.froz a g ((hfz a b ha).1 ▸ hf) hg)
  · rcases hg with hg | ⟨a, hd, hrow, hg⟩
    · exact hm.stab g hg
    · exact (hm.box a).lt (by intro e; rw [e] at hrow; cases hrow) hg
  · rcases hg with hg | ⟨a, hd, hrow, hg⟩
    · exact hm.old g hg hlt
    · have hne : m a ≠ .gone := by intro e; rw [e] at hrow; cases hrow
      cases hfa : frz (m a) with
      | true => exact hm.old g (hm.froz a g hfa hg) hlt
      | false =>
        rcases (hm.apart a g hne hfa hg).2 with h | h
        · omega
        · exact .inr h
end
end Go.Vi
