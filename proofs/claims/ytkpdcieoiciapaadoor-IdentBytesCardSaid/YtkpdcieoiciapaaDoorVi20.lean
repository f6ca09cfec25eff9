/- THE VALUE INTERPRETER: effects in whatever order. No project text. -/
import Derived.Test.YtkpdcieoiciapaaDoorVi19
set_option linter.unusedVariables false
set_option linter.unusedSimpArgs false
namespace Go.Vi
open Go.RowKit
theorem blt_t {a b : Nat} (h : a < b) : Nat.blt a b = true := by simpa using h
theorem blt_f {a b : Nat} (h : ¬ a < b) : Nat.blt a b = false := by
  cases e : Nat.blt a b with
  | false => rfl
  | true => exact absurd (by simpa using e) h
section
variable {β : Type}
def upG (m : Nat → β) : List (Nat × β) → Nat → β
  | [] => m
  | (a, b) :: es => upG (fun x => if x = a then b else m x) es
theorem upM_eq : ∀ (ef : Eff) (m : Mem), upM m ef = upG m ef
  | [], m => rfl
  | (a, b) :: es, m => by rw [upM, upG, upM_eq es]
theorem upG_append : ∀ (e1 e2 : List (Nat × β)) (m : Nat → β), upG m (e1 ++ e2) = upG (upG m e1) e2
  | [], e2, m => rfl
  | (a, b) :: e1, e2, m => by rw [List.cons_append, upG, upG_append e1, upG]
theorem upG_out : ∀ (ef : List (Nat × β)) (m : Nat → β) (x : Nat), (∀ p ∈ ef, p.1 ≠ x) → upG m ef x = m x
  | [], m, x, h => rfl
  | (a, b) :: ef, m, x, h => by
    rw [upG, upG_out ef _ x (fun p hp => h p (List.mem_cons_of_mem _ hp))]
    have := h (a, b) (List.mem_cons_self ..)
    exact if_neg (fun e => this e.symm)
theorem upG_congr {x : Nat} : ∀ (ef : List (Nat × β)) {m1 m2 : Nat → β}, m1 x = m2 x → upG m1 ef x = upG m2 ef x
  | [], m1, m2, h => h
  | (a, b) :: ef, m1, m2, h => by
    rw [upG, upG]
    refine upG_congr ef ?_
    by_cases e : x = a
    · rw [if_pos e, if_pos e]
    · rw [if_neg e, if_neg e]; exact h
def effD (D : Nat → Bool) : List (List (Nat × β)) → Nat → List (Nat × β)
  | [], _ => []
  | e :: es, k => (match D k with | true => e | false => []) ++ effD D es (k + 1)
theorem effD_shift {D : Nat → Bool} : ∀ (es : List (List (Nat × β))) (k : Nat), effD D es (k + 1) = effD (fun j => D (j + 1)) es k
  | [], k => rfl
  | e :: es, k => by rw [effD, effD, effD_shift es]
theorem effD_congr {D D' : Nat → Bool} {x : Nat} : ∀ (es : List (List (Nat × β))) (k : Nat) (m m' : Nat → β), m x = m' x →
    (∀ j e, es[j]? = some e → D (k + j) ≠ D' (k + j) → ∀ p ∈ e, p.1 ≠ x) → upG m (effD D es k) x = upG m' (effD D' es k) x
  | [], k, m, m', h, _ => h
  | e :: es, k, m, m', h, hd => by
    rw [effD, effD, upG_append, upG_append]
    refine effD_congr es (k + 1) _ _ ?_ (fun j e' hj hne => hd (j + 1) e' (by simpa using hj) (by rw [show k + (j + 1) = k + 1 + j by omega]; exact hne))
    by_cases he : D k = D' k
    · rw [he]; exact upG_congr _ h
    · have hout := hd 0 e rfl he
      cases h1 : D k <;> cases h2 : D' k
      · exact h
      · dsimp only; rw [upG_out e m' x hout]; exact h
      · dsimp only; rw [upG_out e m x hout]; exact h
      · rw [h1, h2] at he; exact absurd rfl he
theorem effD_none {D : Nat → Bool} : ∀ (es : List (List (Nat × β))) (k : Nat), (∀ j, D (k + j) = false) → effD D es k = []
  | [], k, _ => rfl
  | e :: es, k, h => by
    rw [effD, effD_none es (k + 1) (fun j => by rw [show k + 1 + j = k + (j + 1) by omega]; exact h _)]
    have := h 0
    rw [Nat.add_zero] at this
    rw [this]; rfl
theorem effD_ext {D D' : Nat → Bool} : ∀ (es : List (List (Nat × β))) (k : Nat), (∀ j, j < es.length → D (k + j) = D' (k + j)) → effD D es k = effD D' es k
  | [], k, _ => rfl
  | e :: es, k, h => by
    have h0 := h 0 (by simp)
    rw [Nat.add_zero] at h0
    rw [effD, effD, h0, effD_ext (D := D) (D' := D') es (k + 1) (fun j hj => by rw [show k + 1 + j = k + (j + 1) by omega]; exact h _ (by simp; omega))]
theorem effD_split {D D' : Nat → Bool} : ∀ (es : List (List (Nat × β))) (k i : Nat) (e : List (Nat × β)), es[i]? = some e → D' (k + i) = true → D (k + i) = false →
    (∀ j, j < i → D (k + j) = D' (k + j)) → (∀ j, i < j → D (k + j) = false ∧ D' (k + j) = false) → effD D' es k = effD D es k ++ e
  | e0 :: es, k, 0, e, he, h1, h2, h3, h4 => by
    simp only [List.getElem?_cons_zero, Option.some.injEq] at he
    subst he
    rw [Nat.add_zero] at h1 h2
    rw [effD, effD, h1, h2, effD_none (D := D) es _ (fun j => by rw [show k + 1 + j = k + (j + 1) by omega]; exact (h4 (j + 1) (by omega)).1),
      effD_none (D := D') es _ (fun j => by rw [show k + 1 + j = k + (j + 1) by omega]; exact (h4 (j + 1) (by omega)).2)]
    simp
  | e0 :: es, k, i + 1, e, he, h1, h2, h3, h4 => by
    have h0 := h3 0 (by omega)
    rw [Nat.add_zero] at h0
    rw [effD, effD, h0, effD_split es (k + 1) i e (by simpa using he) (by rw [show k + 1 + i = k + (i + 1) by omega]; exact h1) (by rw [show k + 1 + i = k + (i + 1) by omega]; exact h2)
      (fun j hj => by rw [show k + 1 + j = k + (j + 1) by omega]; exact h3 _ (by omega)) (fun j hj => by rw [show k + 1 + j = k + (j + 1) by omega]; exact h4 _ (by omega)), List.append_assoc]
theorem effD_step {D : Nat → Bool} {es : List (List (Nat × β))} {i : Nat} {e : List (Nat × β)} (he : es[i]? = some e) (hi : D i = false)
    (hdis : ∀ j e', i < j → es[j]? = some e' → D j = true → ∀ p ∈ e', ∀ q ∈ e, p.1 ≠ q.1) (m : Nat → β) :
    upG (upG m (effD D es 0)) e = upG m (effD (fun j => D j || j == i) es 0) := by
  funext x
  by_cases hx : ∃ q ∈ e, q.1 = x
  · obtain ⟨q, hq, rfl⟩ := hx
    let D1 : Nat → Bool := fun j => D j && Nat.blt j i
    have e1 : upG m (effD D es 0) q.1 = upG m (effD D1 es 0) q.1 := by
      refine effD_congr es 0 m m rfl (fun j e' hj hne p hp => ?_)
      rw [Nat.zero_add] at hne
      have hj2 : D j = true ∧ i ≤ j := by
        by_cases hlt : j < i
        · have hb : Nat.blt j i = true := by simpa using hlt
          simp [D1, hb] at hne
        · cases hd : D j with
          | false => simp [D1, hd] at hne
          | true => exact ⟨rfl, by omega⟩
      have : i ≠ j := by rintro rfl; rw [hi] at hj2; cases hj2.1
      exact hdis j e' (by omega) hj hj2.1 p hp q hq
    have e2 : upG m (effD (fun j => D j || j == i) es 0) q.1 = upG m (effD (fun j => D1 j || j == i) es 0) q.1 := by
      refine effD_congr es 0 m m rfl (fun j e' hj hne p hp => ?_)
      rw [Nat.zero_add] at hne
      have hj2 : D j = true ∧ i < j := by
        by_cases hlt : j < i
        · have hb : Nat.blt j i = true := by simpa using hlt
          simp [D1, hb] at hne
        · by_cases hji : j = i
          · simp [hji] at hne
          · cases hd : D j with
            | false => simp [D1, hd] at hne
            | true => exact ⟨rfl, by omega⟩
      exact hdis j e' hj2.2 hj hj2.1 p hp q hq
    rw [e2, upG_congr e e1, effD_split (D := D1) (D' := fun j => D1 j || j == i) es 0 i e he (by simp) (by show (D (0 + i) && Nat.blt (0 + i) i) = false; rw [Nat.zero_add, hi]; rfl) (fun j hj => by
      have : (j == i) = false := by simp; omega
      show D1 (0 + j) = (D1 (0 + j) || (0 + j == i)); rw [Nat.zero_add, this, Bool.or_false]) (fun j hj => by
      have h1 : (j == i) = false := by simp; omega
      have h2 : Nat.blt j i = false := blt_f (by omega)
      have h3 : D1 j = false := by show (D j && Nat.blt j i) = false; rw [h2, Bool.and_false]
      rw [Nat.zero_add]; exact ⟨h3, by rw [h3, h1]; rfl⟩), upG_append]
  · have hout : ∀ p ∈ e, p.1 ≠ x := fun p hp h => hx ⟨p, hp, h⟩
    rw [upG_out e _ x hout]
    refine effD_congr es 0 m m rfl (fun j e' hj hne p hp => ?_)
    rw [Nat.zero_add] at hne
    by_cases hji : j = i
    · subst hji
      rw [he] at hj
      obtain rfl := Option.some.inj hj
      exact hout p hp
    · simp [hji] at hne
end
/-- What a region's operation leaves among the temporaries. -/
def tef (L : Nat) (d : Option Nat) (v : Sv) : List (Nat × Sv) := match d with
  | some d => match Nat.blt d L with | true => [(d, v)] | false => []
  | none => []
def tau (s : TS) : Nat → Sv := lookT s
theorem tau_cons (s : TS) (d : Nat) (v : Sv) : tau ((d, v) :: s) = fun t => if t = d then v else tau s t := by
  funext t
  show (match Nat.beq d t with | true => v | false => lookT s t) = _
  by_cases h : d = t
  · subst h
    rw [Nat.beq_refl, if_pos rfl]
  · have : Nat.beq d t = false := by
      cases e : Nat.beq d t with
      | false => rfl
      | true => exact absurd (Nat.eq_of_beq_eq_true e) h
    rw [this, if_neg (fun e => h e.symm)]; rfl
theorem tau_same {s : TS} {d : Nat} {v : Sv} (h : lookT s d = v) : tau ((d, v) :: s) = tau s := by
  rw [tau_cons]
  funext t
  by_cases ht : t = d
  · rw [if_pos ht, ht]; exact h.symm
  · rw [if_neg ht]
theorem tau_put (L : Nat) (s : TS) (d : Option Nat) (v : Sv) : tau (put L s d v) = upG (tau s) (tef L d v) := by
  cases d with
  | none => rfl
  | some d =>
    unfold tef put
    dsimp only
    cases h : Nat.blt d L with
    | true => exact tau_cons s d v
    | false => rfl
structure Rec where
  o : Oper
  s : TS
  M : List Box
  v : Sv
  ef : Eff
  on : Bool
def guardIs (ops : List Oper) (o : Oper) (s : TS) (b : Bool) : Prop := match o.guard with
  | none => b = true
  | some (j, want) => ∃ d, (ops.getD j default).dst = some d ∧ ((∃ t, lookT s d = .one (.v (.bool t)) ∧ (t == want) = b) ∨ ((∃ e fl sz es, lookT s d = .one (.fresh e fl sz es)) ∧ b = false))
def Rec.ok (E : Env) (P : Program) (ops : List Oper) (r : Rec) : Prop := guardIs ops r.o r.s r.on ∧ match r.on with
  | true => Good E P r.o r.s r.M r.M.length r.v r.ef
  | false => r.v = skp ∧ r.ef = []
def Rec.fp (r : Rec) : List Nat × List Nat := match r.on with | true => footE r.s r.M r.o r.ef | false => ([], [])
def Chain (E : Env) (P : Program) (L : Nat) (ops : List Oper) : List Oper → TS → List Box → List Rec → TS → List Box → Prop
  | [], s, M, [], s', M' => s = s' ∧ M = M'
  | o :: os, s, M, r :: rs, s', M' => r.o = o ∧ tau r.s = tau s ∧ r.M = M ∧ r.ok E P ops ∧ Chain E P L ops os (put L r.s o.dst r.v) (apply M r.ef) rs s' M'
  | _, _, _, _, _, _ => False
theorem tst_cases {R : Type} {b : Bool} {x y : Option R} {r : R} (h : tst b x y = some r) : (b = true ∧ x = some r) ∨ (b = false ∧ y = some r) := by
  cases b
  · exact .inr ⟨rfl, h⟩
  · exact .inl ⟨rfl, h⟩
theorem vops_chain {R : Type} {E : Env} {P : Program} {f : Nat} {c : Orc} {L : Nat} {ops : List Oper} (hT : TOK P E.T) (hc : CallOK E P c) : ∀ (os : List Oper) (fs : List (List Nat × List Nat)) (s : TS) (M : List Box) (K : List (List Nat × List Nat) → TS → List Box → Option R) (r : R),
    vops E f c L ops os fs s M K = some r → ∃ rs s' M', Chain E P L ops os s M rs s' M' ∧ K (fs.reverse ++ rs.map Rec.fp) s' M' = some r
  | [], fs, s, M, K, r, h => ⟨[], s, M, ⟨rfl, rfl⟩, by simpa [vops] using h⟩
  | o :: os, fs, s, M, K, r, h => by
    have on : ∀ q : TS, tau q = tau s → vop E f c o q M M.length (fun v ef => vops E f c L ops os (footE q M o ef :: fs) (put L q o.dst v) (apply M ef) K) = some r → guardIs ops o q true →
        ∃ rs s' M', Chain E P L ops (o :: os) s M rs s' M' ∧ K (fs.reverse ++ rs.map Rec.fp) s' M' = some r := by
      intro q hq h hg
      obtain ⟨v, ef, hK, hgood⟩ := vop_sound hT hc h rfl
      obtain ⟨rs, s', M', hch, hK'⟩ := vops_chain hT hc os _ _ _ K r hK
      refine ⟨⟨o, q, M, v, ef, true⟩ :: rs, s', M', ⟨rfl, hq, rfl, ⟨hg, hgood⟩, hch⟩, ?_⟩
      simpa [Rec.fp] using hK'
    have off : ∀ q : TS, tau q = tau s → vops E f c L ops os (([], []) :: fs) (put L q o.dst skp) M K = some r → guardIs ops o q false →
        ∃ rs s' M', Chain E P L ops (o :: os) s M rs s' M' ∧ K (fs.reverse ++ rs.map Rec.fp) s' M' = some r := by
      intro q hq h hg
      obtain ⟨rs, s', M', hch, hK'⟩ := vops_chain hT hc os _ _ _ K r h
      refine ⟨⟨o, q, M, skp, [], false⟩ :: rs, s', M', ⟨rfl, hq, rfl, ⟨hg, rfl, rfl⟩, hch⟩, ?_⟩
      simpa [Rec.fp] using hK'
    unfold vops at h
    split at h
    · rename_i hg
      exact on s rfl h (by unfold guardIs; rw [hg])
    · rename_i j want hg
      split at h
      · rename_i d hd
        split at h
        · rename_i t ht
          have same : ∀ b, t = b → tau ((d, Sv.one (.v (.bool b))) :: s) = tau s := fun b hb => tau_same (by rw [ht, hb])
          have lk : ∀ b, lookT ((d, Sv.one (.v (.bool b))) :: s) d = .one (.v (.bool b)) := by
            intro b
            show (match Nat.beq d d with | true => _ | false => _) = _
            rw [Nat.beq_refl]
          dsimp only at h
          rcases tst_cases h with ⟨hb, h⟩ | ⟨hb, h⟩
          · cases want with
            | true => exact on _ (same true hb) h (by unfold guardIs; rw [hg]; exact ⟨d, hd, .inl ⟨true, lk true, rfl⟩⟩)
            | false => exact off _ (same true hb) h (by unfold guardIs; rw [hg]; exact ⟨d, hd, .inl ⟨true, lk true, rfl⟩⟩)
          · cases want with
            | true => exact off _ (same false hb) h (by unfold guardIs; rw [hg]; exact ⟨d, hd, .inl ⟨false, lk false, rfl⟩⟩)
            | false => exact on _ (same false hb) h (by unfold guardIs; rw [hg]; exact ⟨d, hd, .inl ⟨false, lk false, rfl⟩⟩)
        · rename_i e fl sz es ht
          exact off s rfl h (by unfold guardIs; rw [hg]; exact ⟨d, hd, .inr ⟨⟨e, fl, sz, es, ht⟩, rfl⟩⟩)
        · cases h
      · cases h
/-- The states of a chain, out of the effects. -/
theorem chain_at {E : Env} {P : Program} {L : Nat} {ops : List Oper} : ∀ (os : List Oper) (s : TS) (M : List Box) (rs : List Rec) (s' : TS) (M' : List Box), Chain E P L ops os s M rs s' M' →
    rs.length = os.length ∧ memOf M' = upG (memOf M) (effD (fun _ => true) (rs.map (·.ef)) 0) ∧ tau s' = upG (tau s) (effD (fun _ => true) (rs.map fun r => tef L r.o.dst r.v) 0) ∧
    ∀ i r, rs[i]? = some r → os[i]? = some r.o ∧ r.ok E P ops ∧ memOf r.M = upG (memOf M) (effD (fun j => Nat.blt j i) (rs.map (·.ef)) 0) ∧ tau r.s = upG (tau s) (effD (fun j => Nat.blt j i) (rs.map fun r => tef L r.o.dst r.v) 0)
  | [], s, M, [], s', M', h => by
    obtain ⟨rfl, rfl⟩ := h
    exact ⟨rfl, rfl, rfl, fun i r hr => by simp at hr⟩
  | o :: os, s, M, r :: rs, s', M', h => by
    obtain ⟨rfl, hs, rfl, hok, hch⟩ := h
    obtain ⟨h1, h3, h4, h5⟩ := chain_at os _ _ rs s' M' hch
    refine ⟨by simp [h1], ?_, ?_, fun i r' hr => ?_⟩
    · rw [h3, memOf_apply, upM_eq, List.map_cons, effD, upG_append, effD_shift]
    · rw [h4, tau_put, hs, List.map_cons, effD, upG_append, effD_shift]
    · cases i with
      | zero =>
        simp only [List.getElem?_cons_zero, Option.some.injEq] at hr
        subst hr
        refine ⟨rfl, hok, ?_, ?_⟩
        · rw [effD_none (D := fun j => Nat.blt j 0) _ _ (fun j => blt_f (Nat.not_lt_zero _))]; rfl
        · rw [effD_none (D := fun j => Nat.blt j 0) _ _ (fun j => blt_f (Nat.not_lt_zero _))]; exact hs
      | succ i =>
        obtain ⟨q1, q2, q4, q5⟩ := h5 i r' (by simpa using hr)
        have hb : (fun j => Nat.blt (j + 1) (i + 1)) = fun j => Nat.blt j i := by
          funext j
          by_cases h : j < i
          · rw [blt_t h, blt_t (show j + 1 < i + 1 by omega)]
          · rw [blt_f h, blt_f (show ¬ j + 1 < i + 1 by omega)]
        refine ⟨by simpa using q1, q2, ?_, ?_⟩
        · rw [q4, memOf_apply, upM_eq, List.map_cons, effD, upG_append, effD_shift, hb, blt_t (show 0 < i + 1 by omega)]
        · rw [q5, tau_put, hs, List.map_cons, effD, upG_append, effD_shift, hb, blt_t (show 0 < i + 1 by omega)]
  | [], _, _, _ :: _, _, _, h => h.elim
  | _ :: _, _, _, [], _, _, h => h.elim
end Go.Vi
