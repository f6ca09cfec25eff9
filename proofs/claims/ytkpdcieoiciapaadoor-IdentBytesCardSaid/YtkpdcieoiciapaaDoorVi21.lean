/- THE VALUE INTERPRETER: regions. No project text. -/
import Derived.Test.YtkpdcieoiciapaaDoorVi20
set_option linter.unusedVariables false
set_option linter.unusedSimpArgs false
namespace Go.Vi
open Go.RowKit
/-- How the temporaries and the memory stand, somewhere inside a function. -/
def St (E : Env) (w0 : World) (inn : Inn) (S0 : Nat → Prop) (w00 : World) (N : Nat) (ρ0 : Loc) (m0 : Mem) (L : Nat) (m : Mem) (τ : Nat → Sv) (a : Act) (w : World) : Prop :=
  ∃ (S : Nat → Prop) (ρ : Loc), a.tmps.size = L ∧ a.defers = [] ∧ (∀ t, RS S w ρ m (τ t) (a.tmps.getD t undef)) ∧ MR E w0 inn S ρ m w ∧ Kp S0 S w00 w ∧ LeW N ρ0 m0 ρ m
theorem LeW.step {N : Nat} {ρ0 ρ ρ' : Loc} {m0 m m' : Mem} (h : LeW N ρ0 m0 ρ m) (l : Le ρ m ρ' m') : LeW N ρ0 m0 ρ' m' := by
  intro a ha
  have h1 := h a ha
  have h2 := l a
  cases h0 : m0 a with
  | gone => trivial
  | var cs =>
    rw [h0] at h1
    obtain ⟨cs', e1, e2⟩ := h1
    rw [e1] at h2
    obtain ⟨cs2, e3, e4⟩ := h2
    exact ⟨cs2, e3, e4.trans e2⟩
  | row e k f fl sz es =>
    rw [h0] at h1
    obtain ⟨e', k', f', fl', es', e1⟩ := h1
    rw [e1] at h2
    obtain ⟨e2, k2, f2, fl2, es2, e3, _⟩ := h2
    exact ⟨_, _, _, _, _, e3⟩
theorem LeW.refl {N : Nat} {ρ : Loc} {m : Mem} : LeW N ρ m ρ m := by
  intro a ha
  cases h : m a with
  | gone => trivial
  | var cs => exact ⟨cs, rfl, rfl⟩
  | row e k f fl sz es => exact ⟨_, _, _, _, _, rfl⟩
theorem mem_tef {L : Nat} {d : Option Nat} {v : Sv} {p : Nat × Sv} (h : p ∈ tef L d v) : d = some p.1 ∧ p.1 < L ∧ p.2 = v := by
  unfold tef at h
  cases d with
  | none => cases h
  | some d =>
    dsimp only at h
    by_cases hd : d < L
    · rw [blt_t hd] at h
      simp at h; subst h; exact ⟨rfl, hd, rfl⟩
    · rw [blt_f hd] at h
      cases h
theorem opnd_rs {S : Nat → Prop} {w : World} {ρ : Loc} {m : Mem} {a : Act} {s : TS} {x : Operand} (h : ∀ t, x = .tmp t → RS S w ρ m (tau s t) (a.tmps.getD t undef)) : RS S w ρ m (opnd s x) (a.eval x) := by
  cases x with
  | tmp t => exact h t rfl
  | const v => exact rs_const v
  | global g => exact CV.gp (S := S) (w := w)
  | func f => exact ⟨#[], rfl, rfl, fun j x hj => by simp at hj⟩
theorem wanted_is {S : Nat → Prop} {w : World} {ρ : Loc} {m : Mem} {a : Act} {s : TS} {ops : Array Oper} {o : Oper} {b : Bool} (hg : guardIs ops.toList o s b)
    (h : ∀ t ∈ o.looksAt ops, RS S w ρ m (tau s t) (a.tmps.getD t undef)) : Region.wanted o (yielded ops a.tmps) = b := by
  unfold guardIs at hg
  unfold Region.wanted
  split at hg
  · rename_i h0; rw [h0]; exact hg.symm
  · rename_i j want h0
    rw [h0]
    obtain ⟨d, h1, hcase⟩ := hg
    dsimp only
    have hj : (ops[j]?).bind (·.dst) = some d := by
      cases hq : ops[j]? with
      | none =>
        rw [List.getD_eq_getElem?_getD, Array.getElem?_toList, hq] at h1
        cases h1
      | some o' =>
        rw [List.getD_eq_getElem?_getD, Array.getElem?_toList, hq] at h1
        exact h1
    have hrs := h d (by unfold Oper.looksAt; rw [h0]; simp [hj])
    unfold yielded
    rw [hj]
    rcases hcase with ⟨t, h2, h3⟩ | ⟨⟨e, fl, sz, es, h2⟩, rfl⟩
    · have h2' : tau s d = .one (.v (.bool t)) := h2
      rw [h2'] at hrs
      have hv := hrs.one_v.1
      have hd : a.tmps[d]? = some (.bool t) := by
        cases hq : a.tmps[d]? with
        | none => simp [hq, undef] at hv
        | some u => simp [hq] at hv; rw [hv]
      simp only [Option.bind_some, hd]
      rw [← h3]
      cases t <;> cases want <;> rfl
    · have h2' : tau s d = .one (.fresh e fl sz es) := h2
      rw [h2'] at hrs
      have hv : a.tmps.getD d undef = undef := hrs
      have hd : a.tmps[d]? = none ∨ a.tmps[d]? = some undef := by
        cases hq : a.tmps[d]? with
        | none => exact .inl rfl
        | some u => simp [hq] at hv; rw [hv]; exact .inr rfl
      simp only [Option.bind_some]
      rcases hd with hd | hd <;> rw [hd] <;> cases want <;> rfl
section
variable {E : Env} {P : Program} {w0 : World} {inn : Inn} {S0 : Nat → Prop} {w00 : World} {N : Nat} {ρ0 : Loc} {m0 : Mem} {ops : Array Oper} {rs : List Rec} {s0 s' : TS} {L : Nat} {M0 M' : List Box} {Q : Exit → Act → World → Prop}
def mD (M0 : List Box) (rs : List Rec) (D : Nat → Bool) : Mem := upG (memOf M0) (effD D (rs.map (·.ef)) 0)
def tD (L : Nat) (s0 : TS) (rs : List Rec) (D : Nat → Bool) : Nat → Sv := upG (tau s0) (effD D (rs.map fun r => tef L r.o.dst r.v) 0)
theorem put_rs {S S' : Nat → Prop} {w w' : World} {ρ ρ' : Loc} {m m' : Mem} {a : Act} {L : Nat} {τ : Nat → Sv} {d : Option Nat} {v : Sv} {u : Value} (hL : a.tmps.size = L) (h : ∀ t, RS S w ρ m (τ t) (a.tmps.getD t undef)) (hk : Kp S S' w w') (hl : Le ρ m ρ' m')
    (hv : RS S' w' ρ' m' v u) (t : Nat) : RS S' w' ρ' m' (upG τ (tef L d v) t) ((a.put d u).tmps.getD t undef) := by
  cases d with
  | none => exact (h t).keep hk hl
  | some d =>
    unfold tef
    dsimp only
    by_cases hd : d < L
    · rw [blt_t hd]
      dsimp only [upG, Act.put]
      by_cases ht : t = d
      · subst ht
        rw [if_pos rfl]
        have : (a.tmps.setIfInBounds t u).getD t undef = u := by simp [hL, hd]
        rw [this]; exact hv
      · rw [if_neg ht]
        have : (a.tmps.setIfInBounds d u).getD t undef = a.tmps.getD t undef := by
          simp [Array.getElem?_setIfInBounds_ne (fun e => ht e.symm : d ≠ t)]
        rw [this]; exact (h t).keep hk hl
    · rw [blt_f hd]
      dsimp only [upG, Act.put]
      rw [Array.setIfInBounds_eq_of_size_le (by omega)]
      exact (h t).keep hk hl
theorem ef_fp {r : Rec} {os : List Oper} (hok : r.ok E P os) {p : Nat × Box} (hp : p ∈ r.ef) : p.1 ∈ r.fp.2 := by
  unfold Rec.ok at hok
  unfold Rec.fp
  cases h : r.on with
  | true => exact List.mem_map.2 ⟨p, hp, rfl⟩
  | false => rw [h] at hok; rw [hok.2.2] at hp; cases hp
theorem step_op (hch : Chain E P L ops.toList ops.toList s0 M0 rs s' M') {D : Nat → Bool} {i : Nat} {r : Rec} (hr : rs[i]? = some r) (hD : D i = false)
    (hlow : ∀ j r', j < i → rs[j]? = some r' → D j = false → (∀ p ∈ r'.ef, p.1 ∉ r.fp.1 ∧ p.1 ∉ r.fp.2) ∧ ∀ d, r'.o.dst = some d → d ∉ r.o.looksAt ops)
    (hhigh : ∀ j r', i < j → rs[j]? = some r' → D j = true → (∀ p ∈ r'.ef, p.1 ∉ r.fp.1 ∧ p.1 ∉ r.fp.2) ∧ ∀ d, r'.o.dst = some d → d ∉ r.o.looksAt ops ∧ r.o.dst ≠ some d)
    {a : Act} {w : World} (hs : St E w0 inn S0 w00 N ρ0 m0 L (mD M0 rs D) (tD L s0 rs D) a w) {K : Act → World → Prop}
    (hK : ∀ a' w', St E w0 inn S0 w00 N ρ0 m0 L (mD M0 rs (fun j => D j || j == i)) (tD L s0 rs (fun j => D j || j == i)) a' w' → K a' w') : wpOp P ops Q i K a w := by
  obtain ⟨_, _, _, hat⟩ := chain_at _ _ _ _ _ _ hch
  obtain ⟨ho, hok, hM, hτ⟩ := hat i r hr
  have split : ∀ j, D (0 + j) ≠ Nat.blt (0 + j) i → (j < i ∧ D j = false) ∨ (i < j ∧ D j = true) := by
    intro j hne
    rw [Nat.zero_add] at hne
    rcases Nat.lt_trichotomy j i with h | h | h
    · left; refine ⟨h, ?_⟩
      rw [blt_t h] at hne; simpa using hne
    · subst h; rw [hD, blt_f (Nat.lt_irrefl j)] at hne; exact absurd rfl hne
    · right; refine ⟨h, ?_⟩
      rw [blt_f (show ¬ j < i by omega)] at hne; simpa using hne
  have agM : ∀ x, x ∈ r.fp.1 ∨ x ∈ r.fp.2 → mD M0 rs D x = memOf r.M x := by
    intro x hx
    rw [hM]
    refine effD_congr _ 0 _ _ rfl (fun j e hj hne p hp => ?_)
    rw [List.getElem?_map, Option.map_eq_some_iff] at hj
    obtain ⟨r', hr', rfl⟩ := hj
    rintro rfl
    rcases split j hne with ⟨h1, h2⟩ | ⟨h1, h2⟩
    · have := (hlow j r' h1 hr' h2).1 p hp
      exact hx.elim this.1 this.2
    · have := (hhigh j r' h1 hr' h2).1 p hp
      exact hx.elim this.1 this.2
  have agT : ∀ t ∈ r.o.looksAt ops, tD L s0 rs D t = tau r.s t := by
    intro t ht
    rw [hτ]
    refine effD_congr _ 0 _ _ rfl (fun j e hj hne p hp => ?_)
    rw [List.getElem?_map, Option.map_eq_some_iff] at hj
    obtain ⟨r', hr', rfl⟩ := hj
    rintro rfl
    have hd := (mem_tef hp).1
    rcases split j hne with ⟨h1, h2⟩ | ⟨h1, h2⟩
    · exact (hlow j r' h1 hr' h2).2 _ hd ht
    · exact ((hhigh j r' h1 hr' h2).2 _ hd).1 ht
  have hoi : ops[i]? = some r.o := by simpa using ho
  have stepT : ∀ v', v' = r.v → tD L s0 rs (fun j => D j || j == i) = upG (tD L s0 rs D) (tef L r.o.dst v') := by
    rintro v' rfl
    refine (effD_step (i := i) (by rw [List.getElem?_map, hr]; rfl) hD (fun j e' hj he hDj p hp q hq => ?_) _).symm
    rw [List.getElem?_map, Option.map_eq_some_iff] at he
    obtain ⟨r', hr', rfl⟩ := he
    intro e
    have h1 := (mem_tef hp).1
    have h2 := (mem_tef hq).1
    exact ((hhigh j r' hj hr' hDj).2 _ h1).2 (e ▸ h2)
  have stepM : mD M0 rs (fun j => D j || j == i) = upG (mD M0 rs D) r.ef := by
    refine (effD_step (i := i) (by rw [List.getElem?_map, hr]; rfl) hD (fun j e' hj he hDj p hp q hq => ?_) _).symm
    rw [List.getElem?_map, Option.map_eq_some_iff] at he
    obtain ⟨r', hr', rfl⟩ := he
    intro e
    exact ((hhigh j r' hj hr' hDj).1 p hp).2 (e ▸ ef_fp hok hq)
  obtain ⟨S, ρ, hsz, hdf, htm, hmr, hkp, hle⟩ := hs
  have hwant : Region.wanted r.o (yielded ops a.tmps) = r.on := wanted_is hok.1 (fun t ht => by rw [← agT t ht]; exact htm t)
  have hput : ∀ d (u : Value), (a.put d u).tmps.size = L ∧ (a.put d u).defers = [] := by
    intro d u
    cases d with
    | none => exact ⟨hsz, hdf⟩
    | some d => exact ⟨by simp [Act.put, hsz], hdf⟩
  unfold wpOp
  rw [hoi]
  dsimp only
  rw [hwant]
  have hok2 := hok.2
  cases hon : r.on with
  | true =>
    rw [hon] at hok2
    simp only [if_true]
    have hfp : r.fp = footE r.s r.M r.o r.ef := by unfold Rec.fp; rw [hon]
    refine .inl (Oper.wp_mono ?_ (hok2.2 w0 inn S ρ (mD M0 rs D) a w (fun x hx => ?_) (fun b hb => agM b (.inl (by rw [hfp]; exact hb))) (fun p hp hn => ?_) hmr Q))
    · rintro a' w' ⟨u, rfl, S', ρ', h1, h2, h3, h4⟩
      apply hK
      rw [stepT _ rfl, stepM]
      rw [upM_eq] at h1 h3 h4
      exact ⟨S', ρ', (hput _ _).1, (hput _ _).2, fun t => put_rs hsz htm h2 h3 h1 t, h4, hkp.trans h2, hle.step h3⟩
    · exact opnd_rs fun t ht => by
        have hl : t ∈ r.o.looksAt ops := List.mem_append_left _ (List.mem_filterMap.2 ⟨x, hx, by rw [ht]⟩)
        rw [← agT t hl]; exact htm t
    · rw [agM p.1 (.inr (by rw [hfp]; exact List.mem_map.2 ⟨p, hp, rfl⟩))]
      unfold memOf
      rw [List.getD_eq_getElem?_getD, List.getElem?_eq_none hn]; rfl
  | false =>
    rw [hon] at hok2
    simp only [Bool.false_eq_true, if_false]
    apply hK
    rw [stepT _ rfl, stepM, hok2.1, hok2.2]
    exact ⟨S, ρ, (hput _ _).1, (hput _ _).2, fun t => put_rs hsz htm (Kp.refl _ _) (Le.refl _ _) (show RS S w ρ (mD M0 rs D) skp undef from rfl) t, hmr, hkp, hle⟩

theorem seq_all (hch : Chain E P L ops.toList ops.toList s0 M0 rs s' M') (hQ : ∀ a w, St E w0 inn S0 w00 N ρ0 m0 L (memOf M') (tau s') a w → Q .normal a w) :
    ∀ k i, i + k = ops.size → ∀ a w, St E w0 inn S0 w00 N ρ0 m0 L (mD M0 rs (fun j => Nat.blt j i)) (tD L s0 rs (fun j => Nat.blt j i)) a w → wpOps P ops Q (List.range' i k) a w
  | 0, i, hi, a, w, hs => by
    obtain ⟨hl, h3, h4, _⟩ := chain_at _ _ _ _ _ _ hch
    have hl' : rs.length = ops.size := by simpa using hl
    have e1 : mD M0 rs (fun j => Nat.blt j i) = memOf M' := by
      rw [h3]; unfold mD; rw [effD_ext (D := fun j => Nat.blt j i) (D' := fun _ => true) _ _ (fun j hj => blt_t (by simp at hj; omega))]
    have e2 : tD L s0 rs (fun j => Nat.blt j i) = tau s' := by
      rw [h4]; unfold tD; rw [effD_ext (D := fun j => Nat.blt j i) (D' := fun _ => true) _ _ (fun j hj => blt_t (by simp at hj; omega))]
    rw [e1, e2] at hs
    exact hQ a w hs
  | k + 1, i, hi, a, w, hs => by
    obtain ⟨hl, _, _, _⟩ := chain_at _ _ _ _ _ _ hch
    have hl' : rs.length = ops.size := by simpa using hl
    rw [List.range'_succ, wpOps_cons]
    have hlt : i < rs.length := by omega
    refine step_op hch (List.getElem?_eq_getElem hlt) (D := fun j => Nat.blt j i) (blt_f (Nat.lt_irrefl i)) (fun j r' hj _ hD => ?_) (fun j r' hj _ hD => ?_) hs (fun a' w' hs' => ?_)
    · rw [blt_t hj] at hD; cases hD
    · rw [blt_f (show ¬ j < i by omega)] at hD; cases hD
    · have e : (fun j => Nat.blt j i || j == i) = fun j => Nat.blt j (i + 1) := by
        funext j
        rcases Nat.lt_trichotomy j i with h | h | h
        · have h1 : j < i + 1 := by omega
          rw [blt_t h, blt_t h1]; rfl
        · subst h; rw [blt_t (show j < j + 1 by omega)]; simp
        · rw [blt_f (show ¬ j < i by omega), blt_f (show ¬ j < i + 1 by omega)]
          have : j ≠ i := by omega
          simp [this]
      rw [e] at hs'
      exact seq_all hch hQ k (i + 1) (by omega) a' w' hs'
theorem region_seq {id : Nat} (hch : Chain E P L ops.toList ops.toList s0 M0 rs s' M') (hQ : ∀ a w, St E w0 inn S0 w00 N ρ0 m0 L (memOf M') (tau s') a w → Q .normal a w) {a : Act} {w : World}
    (hs : St E w0 inn S0 w00 N ρ0 m0 L (memOf M0) (tau s0) a w) : (Code.region id ops false).wp P Q a w := by
  refine wp_region ?_
  rw [List.range_eq_range']
  refine seq_all hch hQ ops.size 0 (by omega) a w ?_
  have e1 : mD M0 rs (fun j => Nat.blt j 0) = memOf M0 := by unfold mD; rw [effD_none (D := fun j => Nat.blt j 0) _ _ (fun j => blt_f (Nat.not_lt_zero _))]; rfl
  have e2 : tD L s0 rs (fun j => Nat.blt j 0) = tau s0 := by unfold tD; rw [effD_none (D := fun j => Nat.blt j 0) _ _ (fun j => blt_f (Nat.not_lt_zero _))]; rfl
  rw [e1, e2]; exact hs

/-! ### drawn -/
def EI (D : Nat → Bool) (o : Oper) : Prop := ∀ e ∈ o.after, Region.binds .any e = true → D e.on = true
def bF (acc : Array Nat) (o : Oper) : Nat := o.after.foldl (fun s e => if Region.binds .any e then s ||| 2 ^ e.on ||| acc.getD e.on 0 else s) 0
theorem bF_go (acc : Array Nat) (i : Nat) : ∀ (l : List Edge) (s : Nat), (l.foldl (fun s e => if Region.binds .any e then s ||| 2 ^ e.on ||| acc.getD e.on 0 else s) s).testBit i = true →
    s.testBit i = true ∨ ∃ e ∈ l, Region.binds .any e = true ∧ (i = e.on ∨ (acc.getD e.on 0).testBit i = true)
  | [], s, h => .inl h
  | e :: l, s, h => by
    rw [List.foldl_cons] at h
    rcases bF_go acc i l _ h with h | ⟨e', h1, h2⟩
    · split at h
      · rename_i hb
        rw [Nat.testBit_or, Nat.testBit_or, Bool.or_eq_true, Bool.or_eq_true] at h
        rcases h with (h | h) | h
        · exact .inl h
        · rw [Nat.testBit_two_pow] at h
          exact .inr ⟨e, List.mem_cons_self .., hb, .inl (by have := of_decide_eq_true h; omega)⟩
        · exact .inr ⟨e, List.mem_cons_self .., hb, .inr h⟩
      · exact .inl h
    · exact .inr ⟨e', List.mem_cons_of_mem _ h1, h2⟩
theorem bF_bits {acc : Array Nat} {o : Oper} {i : Nat} (h : (bF acc o).testBit i = true) : ∃ e ∈ o.after, Region.binds .any e = true ∧ (i = e.on ∨ (acc.getD e.on 0).testBit i = true) := by
  unfold bF at h
  rw [← Array.foldl_toList] at h
  rcases bF_go acc i _ _ h with h | ⟨e, h1, h2⟩
  · simp at h
  · exact ⟨e, by simpa using h1, h2⟩
theorem before_go {D : Nat → Bool} : ∀ (l pre : List Oper) (acc : Array Nat), acc.size = pre.length → (∀ (j : Nat) o, (pre ++ l)[j]? = some o → D j = true → EI D o) →
    (∀ (j : Nat) o, pre[j]? = some o → EI D o → ∀ i, (acc.getD j 0).testBit i = true → D i = true) →
    ∀ (j : Nat) o, (pre ++ l)[j]? = some o → EI D o → ∀ i, ((l.foldl (fun acc o => acc.push (bF acc o)) acc).getD j 0).testBit i = true → D i = true
  | [], pre, acc, hs, hD, hp => by simpa using hp
  | o :: l, pre, acc, hs, hD, hp => by
    have := before_go (D := D) l (pre ++ [o]) (acc.push (bF acc o)) (by simp [hs]) (by simpa using hD) (fun j o' hj he i hb => by
      rcases Nat.lt_or_ge j pre.length with hlt | hge
      · rw [List.getElem?_append_left hlt] at hj
        have e : (acc.push (bF acc o)).getD j 0 = acc.getD j 0 := by
          rw [Array.getD_eq_getD_getElem?, Array.getElem?_push, if_neg (by omega), Array.getD_eq_getD_getElem?]
        rw [e] at hb
        exact hp j o' hj he i hb
      · have hjl : j = pre.length := by
          have := (List.getElem?_eq_some_iff.1 hj).1
          simp at this; omega
        subst hjl
        rw [List.getElem?_append_right (by omega)] at hj
        simp at hj; subst hj
        have e : (acc.push (bF acc o)).getD pre.length 0 = bF acc o := by rw [Array.getD_eq_getD_getElem?, Array.getElem?_push, if_pos hs.symm]; rfl
        rw [e] at hb
        obtain ⟨e, h1, h2, h3⟩ := bF_bits hb
        have hDe := he e h1 h2
        rcases h3 with rfl | h3
        · exact hDe
        · rcases Nat.lt_or_ge e.on pre.length with hlt | hge2
          · have hq := List.getElem?_eq_getElem hlt
            exact hp e.on _ hq (hD e.on _ (by rw [List.getElem?_append_left hlt]; exact hq) hDe) i h3
          · have : acc.getD e.on 0 = 0 := by rw [Array.getD_eq_getD_getElem?, Array.getElem?_eq_none (by omega)]; rfl
            rw [this] at h3; simp at h3)
    intro j o' hj
    have h2 := this j o' (by simpa using hj)
    simpa using h2
theorem before_sound {D : Nat → Bool} (hD : ∀ (j : Nat) o, ops[j]? = some o → D j = true → EI D o) {j : Nat} {o : Oper} (hj : ops[j]? = some o) (he : EI D o) {i : Nat} (hb : ((Region.before ops).getD j 0).testBit i = true) : D i = true := by
  have := before_go (D := D) ops.toList [] #[] rfl (by simpa using hD) (fun j o h => by simp at h) j o (by simpa using hj) he i
  apply this
  unfold Region.before at hb
  rw [← Array.foldl_toList] at hb
  exact hb
theorem disj_spec {a b : List Nat} (h : disj a b = true) {x : Nat} (ha : x ∈ a) (hb : x ∈ b) : False := by
  have := List.all_eq_true.1 h x ha
  simp [hb] at this
theorem draw_spec {os : List Oper} {fs : List (List Nat × List Nat)} (h : drawOk os fs = true) {i j : Nat} {oi oj : Oper} {fi fj : List Nat × List Nat} (hij : i < j) (h1 : os[i]? = some oi) (h2 : os[j]? = some oj) (h3 : fs[i]? = some fi) (h4 : fs[j]? = some fj) :
    ((Region.before os.toArray).getD j 0).testBit i = true ∨ (disj fi.2 fj.1 = true ∧ disj fi.2 fj.2 = true ∧ disj fj.2 fi.1 = true ∧ oi.apart os.toArray oj = true) := by
  unfold drawOk at h
  dsimp only at h
  have hm : ∀ (k : Nat) o f, os[k]? = some o → fs[k]? = some f → ((o, f), k) ∈ (os.zip fs).zipIdx := by
    intro k o f ho hf
    rw [List.mem_zipIdx_iff_getElem?]
    show (os.zip fs)[k]? = some (o, f)
    rw [List.getElem?_zip_eq_some]
    exact ⟨ho, hf⟩
  have := List.all_eq_true.1 (List.all_eq_true.1 h _ (hm j oj fj h2 h4)) _ (hm i oi fi h1 h3)
  simp only [hij, decide_true, Bool.not_true, Bool.false_or, Bool.or_eq_true, Bool.and_eq_true] at this
  rcases this with h | ⟨⟨⟨h1, h2⟩, h3⟩, h4⟩
  · exact .inl h
  · exact .inr ⟨h1, h2, h3, h4⟩
theorem edges_spec {os : List Oper} (h : edgesOk os = true) {j : Nat} {o : Oper} (hj : os[j]? = some o) : ∀ e ∈ o.after, Region.binds .any e = true → e.on < j := by
  intro e he hb
  have := List.all_eq_true.1 h (o, j) (by rw [List.mem_zipIdx_iff_getElem?]; exact hj)
  have := Array.all_eq_true_iff_forall_mem.1 this e he
  rw [hb] at this
  simpa using this
def left (D : Nat → Bool) : Nat → Nat
  | 0 => 0
  | n + 1 => left D n + (match D n with | true => 0 | false => 1)
theorem left_zero {D : Nat → Bool} : ∀ n, left D n ≤ 0 → ∀ j, j < n → D j = true
  | n + 1, h, j, hj => by
    simp only [left] at h
    cases hd : D n with
    | false => rw [hd] at h; simp at h
    | true =>
      rw [hd] at h
      rcases Nat.lt_or_ge j n with h2 | h2
      · exact left_zero n (by simpa using h) j h2
      · rw [show j = n by omega]; exact hd
theorem left_set {D : Nat → Bool} {i : Nat} (hi : D i = false) : ∀ n, (n ≤ i → left (fun j => D j || j == i) n = left D n) ∧ (i < n → left (fun j => D j || j == i) n + 1 = left D n)
  | 0 => ⟨fun _ => rfl, fun h => by omega⟩
  | n + 1 => by
    obtain ⟨h1, h2⟩ := left_set (i := i) hi n
    refine ⟨fun h => ?_, fun h => ?_⟩
    · have hne : (n == i) = false := by simp; omega
      simp only [left, h1 (by omega), hne, Bool.or_false]
    · rcases Nat.lt_or_ge i n with h3 | h3
      · have hne : (n == i) = false := by simp; omega
        have := h2 h3
        simp only [left, hne, Bool.or_false]; omega
      · have he : n = i := by omega
        subst he
        simp only [left, h1 (Nat.le_refl _), hi, beq_self_eq_true, Bool.or_true]
theorem any_all (hch : Chain E P L ops.toList ops.toList s0 M0 rs s' M') (hed : edgesOk ops.toList = true) (hdr : drawOk ops.toList (rs.map Rec.fp) = true)
    (hQ : ∀ a w, St E w0 inn S0 w00 N ρ0 m0 L (memOf M') (tau s') a w → Q .normal a w) :
    ∀ (fuel : Nat) (listed : Array Bool) (a : Act) (w : World), listed.size = ops.size → (∀ (j : Nat) o, ops[j]? = some o → listed.getD j false = true → EI (fun j => listed.getD j false) o) → left (fun j => listed.getD j false) ops.size ≤ fuel →
      St E w0 inn S0 w00 N ρ0 m0 L (mD M0 rs (fun j => listed.getD j false)) (tD L s0 rs (fun j => listed.getD j false)) a w → wpAny P .any ops Q fuel listed a w := by
  obtain ⟨hl, h3, h4, hat⟩ := chain_at _ _ _ _ _ _ hch
  have hl' : rs.length = ops.size := by simpa using hl
  have done : ∀ (listed : Array Bool) a w, (∀ j, j < ops.size → listed.getD j false = true) → St E w0 inn S0 w00 N ρ0 m0 L (mD M0 rs (fun j => listed.getD j false)) (tD L s0 rs (fun j => listed.getD j false)) a w → Q .normal a w := by
    intro listed a w hall hs
    have e1 : mD M0 rs (fun j => listed.getD j false) = memOf M' := by
      rw [h3]; unfold mD; rw [effD_ext (D' := fun _ => true) _ _ (fun j hj => by rw [Nat.zero_add]; exact hall j (by simp at hj; omega))]
    have e2 : tD L s0 rs (fun j => listed.getD j false) = tau s' := by
      rw [h4]; unfold tD; rw [effD_ext (D' := fun _ => true) _ _ (fun j hj => by rw [Nat.zero_add]; exact hall j (by simp at hj; omega))]
    rw [e1, e2] at hs
    exact hQ a w hs
  have getDe : ∀ (listed : Array Bool) j, listed.size = ops.size → j < ops.size → listed.getD j true = listed.getD j false := by
    intro listed j h1 h2
    simp [h1, h2]
  have allOf : ∀ listed : Array Bool, listed.size = ops.size → Region.ready .any ops listed = [] → ∀ j, j < ops.size → listed.getD j false = true := by
    intro listed hsz hr j
    induction j using Nat.strongRecOn with
    | _ j ih =>
      intro hj
      cases hd : listed.getD j false with
      | true => rfl
      | false =>
        exfalso
        have : j ∈ Region.ready .any ops listed := by
          rw [mem_ready]
          refine ⟨by rw [getDe listed j hsz hj]; exact hd, ops[j], Array.getElem?_eq_getElem hj, fun e he hb => ?_⟩
          have hlt := edges_spec hed (j := j) (o := ops[j]) (by simp [hj]) e he hb
          exact ih e.on hlt (by omega)
        rw [hr] at this; cases this
  intro fuel
  induction fuel with
  | zero =>
    intro listed a w hsz hcl hle hs
    have hall := left_zero _ hle
    refine ⟨?_, done listed a w hall hs⟩
    cases hr : Region.ready .any ops listed with
    | nil => rfl
    | cons x xs =>
      have hx : x ∈ Region.ready .any ops listed := by rw [hr]; exact List.mem_cons_self ..
      rw [mem_ready] at hx
      obtain ⟨h1, o, h2, _⟩ := hx
      have hlt := (Array.getElem?_eq_some_iff.1 h2).1
      rw [getDe listed x hsz hlt] at h1
      have h5 : listed.getD x false = true := hall x hlt
      rw [h5] at h1
      cases h1
  | succ fuel ih =>
    intro listed a w hsz hcl hle hs
    refine ⟨fun hr => done listed a w (allOf listed hsz hr) hs, fun i hi => ?_⟩
    rw [mem_ready] at hi
    obtain ⟨h1, o, h2, hei⟩ := hi
    have hlt := (Array.getElem?_eq_some_iff.1 h2).1
    rw [getDe listed i hsz hlt] at h1
    have hri : rs[i]? = some rs[i] := List.getElem?_eq_getElem (by omega)
    have hoi : ops[i]? = some (rs[i]'(by omega)).o := by simpa using (hat i _ hri).1
    have fpof : ∀ (j : Nat) r', rs[j]? = some r' → (rs.map Rec.fp)[j]? = some r'.fp := fun j r' h => by rw [List.getElem?_map, h]; rfl
    have hset : (fun j => (listed.setIfInBounds i true).getD j false) = fun j => listed.getD j false || j == i := by
      funext j
      by_cases hji : j = i
      · subst hji; simp [hsz, hlt]
      · rw [getD_set_ne false (fun e => hji e.symm)]; simp [hji]
    refine step_op hch hri (D := fun j => listed.getD j false) h1 (fun j r' hj hr' hDj => ?_) (fun j r' hj hr' hDj => ?_) hs (fun a' w' hs' => ?_)
    · have hoj : ops[j]? = some r'.o := by simpa using (hat j _ hr').1
      rcases draw_spec hdr hj (by simpa using hoj) (by simpa using hoi) (fpof j r' hr') (fpof i _ hri) with hb | ⟨q1, q2, q3, q4⟩
      · exfalso
        have : listed.getD j false = true := before_sound (D := fun j => listed.getD j false) hcl h2 hei (by simpa using hb)
        rw [this] at hDj; cases hDj
      · refine ⟨fun p hp => ⟨fun h => disj_spec q1 (ef_fp (hat j _ hr').2.1 hp) h, fun h => disj_spec q2 (ef_fp (hat j _ hr').2.1 hp) h⟩, fun d hd => ?_⟩
        have := (Oper.apart_spec q4).1 d hd
        simpa using this
    · have hoj : ops[j]? = some r'.o := by simpa using (hat j _ hr').1
      rcases draw_spec hdr hj (by simpa using hoi) (by simpa using hoj) (fpof i _ hri) (fpof j r' hr') with hb | ⟨q1, q2, q3, q4⟩
      · exfalso
        have : listed.getD i false = true := before_sound (D := fun j => listed.getD j false) hcl hoj (hcl j _ hoj hDj) (by simpa using hb)
        rw [this] at h1; cases h1
      · refine ⟨fun p hp => ⟨fun h => disj_spec q3 (ef_fp (hat j _ hr').2.1 hp) h, fun h => disj_spec q2 h (ef_fp (hat j _ hr').2.1 hp)⟩, fun d hd => ?_⟩
        have hs := Oper.apart_spec q4
        exact ⟨by simpa using hs.2.2 d hd, fun e => hs.2.1 d e hd⟩
    · refine ih _ a' w' (by simp [hsz]) (fun j o' hj hDj e he hb => ?_) ?_ (by rw [hset]; exact hs')
      · rw [congrFun hset j] at hDj
        show (listed.setIfInBounds i true).getD e.on false = true
        rw [congrFun hset e.on]
        rw [Bool.or_eq_true] at hDj ⊢
        rcases hDj with hDj | hDj
        · exact .inl (hcl j o' hj hDj e he hb)
        · have : j = i := by simpa using hDj
          subst this
          rw [h2] at hj
          obtain rfl := Option.some.inj hj
          exact .inl (hei e he hb)
      · rw [hset]
        have := (left_set (D := fun j => listed.getD j false) h1 ops.size).2 hlt
        omega
theorem St.drawn {L : Nat} {m : Mem} {τ : Nat → Sv} {a : Act} {w : World} {n : Nat} (h : St E w0 inn S0 w00 N ρ0 m0 L m τ a w) : St E w0 inn S0 w00 N ρ0 m0 L m τ a { w with drawn := n } := by
  obtain ⟨S, ρ, h1, h2, h3, h4, h5, h6⟩ := h
  have hk : Kp S S w { w with drawn := n } := ⟨fun _ h => h, fun _ _ => rfl⟩
  refine ⟨S, ρ, h1, h2, fun t => (h3 t).keep hk (Le.refl _ _), ⟨fun a => (h4.box a).keep hk (Le.refl _ _) rfl (fun _ _ _ => rfl), h4.sep, h4.apart, h4.froz, h4.stab, h4.old, ⟨h4.frm.os, h4.frm.tape, h4.frm.output, h4.frm.size, h4.frm.block⟩, h4.glob.keep hk⟩, h5.trans hk, h6⟩
theorem region_draw {id : Nat} (hmo : P.follows .mixedOrders = true) (hch : Chain E P L ops.toList ops.toList s0 M0 rs s' M') (hed : edgesOk ops.toList = true) (hdr : drawOk ops.toList (rs.map Rec.fp) = true)
    (hQ : ∀ a w, St E w0 inn S0 w00 N ρ0 m0 L (memOf M') (tau s') a w → Q .normal a w) {a : Act} {w : World} (hs : St E w0 inn S0 w00 N ρ0 m0 L (memOf M0) (tau s0) a w) : (Code.region id ops true).wp P Q a w := by
  refine wp_region_any hmo ?_
  have hz : ∀ j, (Array.replicate ops.size false).getD j false = false := by
    intro j
    rw [Array.getD_eq_getD_getElem?, Array.getElem?_replicate]
    split <;> rfl
  have hz' : (fun j => (Array.replicate ops.size false).getD j false) = fun _ => false := funext hz
  refine any_all hch hed hdr hQ ops.size _ a _ (by simp) (fun j o hj hD => by rw [hz] at hD; cases hD) ?_ ?_
  · rw [hz']
    have : ∀ n, left (fun _ => false) n = n := by
      intro n
      induction n with
      | zero => rfl
      | succ n ih => simp [left, ih]
    rw [this]; exact Nat.le_refl _
  · rw [hz']
    have e1 : mD M0 rs (fun _ => false) = memOf M0 := by unfold mD; rw [effD_none _ _ (fun j => rfl)]; rfl
    have e2 : tD L s0 rs (fun _ => false) = tau s0 := by unfold tD; rw [effD_none _ _ (fun j => rfl)]; rfl
    rw [e1, e2]; exact hs.drawn
end
end Go.Vi
