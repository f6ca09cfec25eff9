/- THE VALUE INTERPRETER: effects in whatever order. No project text. -/
import Derived.Test.YtfbdceccefmloaaVi19
set_option linter.unusedVariables false
set_option linter.unusedSimpArgs false
namespace Go.Vi
open Go.RowKit
theorem blt_t {a b : Nat} (h : a < b) : Nat.blt a b = true := by simpa using h
theorem blt_f {a b : Nat} (h : ¬ a < b) : Nat.blt a b = false := by
  cases e : Nat.blt a b with
  | false => rfl
  | true => exact absurd (by simpa using e) h
section
variable {β : Type}
def upG (m : Nat → β) : List (Nat × β) → Nat → β
  | [] => m
  | (a, b) :: es => upG (fun x => if x = a then b else m x) es
theorem upM_eq : ∀ (ef : Eff) (m : Mem), upM m ef = upG m ef
  | [], m => rfl
  | (a, b) :: es, m => by rw [upM, upG, upM_eq es]
theorem upG_append : ∀ (e1 e2 : List (Nat × β)) (m : Nat → β), upG m (e1 ++ e2) = upG (upG m e1) e2
  | [], e2, m => rfl
  | (a, b) :: e1, e2, m => by rw [List.cons_append, upG, upG_append e1, upG]
theorem upG_out : ∀ (ef : List (Nat × β)) (m : Nat → β) (x : Nat), (∀ p ∈ ef, p.1 ≠ x) → upG m ef x = m x
  | [], m, x, h => rfl
  | (a, b) :: ef, m, x, h => by
    rw [upG, upG_out ef _ x (fun p hp => h p (List.mem_cons_of_mem _ hp))]
    have := h (a, b) (List.mem_cons_self ..)
    exact if_neg (fun e => this e.symm)
theorem upG_congr {x : Nat} : ∀ (ef : List (Nat × β)) {m1 m2 : Nat → β}, m1 x = m2 x → upG m1 ef x = upG m2 ef x
  | [], m1, m2, h => h
  | (a, b) :: ef, m1, m2, h => by
    rw [upG, upG]
    refine upG_congr ef ?_
    by_cases e : x = a
    · rw [if_pos e, if_pos e]
    · rw [if_neg e, if_neg e]; exact h
def effD (D : Nat → Bool) : List (List (Nat × β)) → Nat → List (Nat × β)
  | [], _ => []
  | e :: es, k => (match D k with | true => e | false => []) ++ effD D es (k + 1)
theorem effD_shift {D : Nat → Bool} : ∀ (es : List (List (Nat × β))) (k : Nat), effD D es (k + 1) = effD (fun j => D (j + 1)) es k
  | [], k => rfl
  | e :: es, k => by rw [effD, effD, effD_shift es]
theorem effD_congr {D D' : Nat → Bool} {x : Nat} : ∀ (es : List (List (Nat × β))) (k : Nat) (m m' : Nat → β), m x = m' x →
    (∀ j e, es[j]? = some e → D (k + j) ≠ D' (k + j) → ∀ p ∈ e, p.1 ≠ x) → upG m (effD D es k) x = upG m' (effD D' es k) x
  | [], k, m, m', h, _ => h
  | e :: es, k, m, m', h, hd => by
    rw [effD, effD, upG_append, upG_append]
    refine effD_congr es (k + 1) _ _ ?_ (fun j e' hj hne => hd (j + 1) e' (by simpa using hj) (by rw [show k + (j + 1) = k + 1 + j by omega]; exact hne))
    by_cases he : D k = D' k
    · rw [he]; exact upG_congr _ h
    · have hout := hd 0 e rfl he
      cases h1 : D k <;> cases h2 : D' k
      · exact h
      · dsimp only; rw [upG_out e m' x hout]; exact h
      · dsimp only; rw [upG_out e m x hout]; exact h
      · rw [h1, h2] at he; exact absurd rfl he
theorem effD_none {D : Nat → Bool} : ∀ (es : List (List (Nat × β))) (k : Nat), (∀ j, D (k + j) = false) → effD D es k = []
  | [], k, _ => rfl
  | e :: es, k, h => by
    rw [effD, effD_none es (k + 1) (fun j => by rw [show k + 1 + j = k + (j + 1) by omega]; exact h _)]
    have := h 0
    rw [Nat.add_zero] at this
    rw [this]; rfl
theorem effD_ext {D D' : Nat → Bool} : ∀ (es : List (List (Nat × β))) (k : Nat), (∀ j, j < es.length → D (k + j) = D' (k + j)) → effD D es k = effD D' es k
  | [], k, _ => rfl
  | e :: es, k, h => by
    have h0 := h 0 (by simp)
    rw [Nat.add_zero] at h0
    rw [effD, effD, h0, effD_ext (D := D) (D' := D') es (k + 1) (fun j hj => by rw [show k + 1 + j = k + (j + 1) by omega]; exact h _ (by simp; omega))]
theorem effD_split {D D' : Nat → Bool} : ∀ (es : List (List (Nat × β))) (k i : Nat) (e : List (Nat × β)), es[i]? = some e → D' (k + i) = true → D (k + i) = false →
    (∀ j, j < i → D (k + j) = D' (k + j)) → (∀ j, i < j → D (k + j) = false ∧ D' (k + j) = false) → effD D' es k = effD D es k ++ e
  | e0 :: es, k, 0, e, he, h1, h2, h3, h4 => by
    simp only [List.getElem?_cons_zero, Option.some.injEq] at he
    subst he
    rw [Nat.add_zero] at h1 h2
    rw [effD, effD, h1, h2, effD_none (D := D) es _ (fun j => by rw [show k + 1 + j = k + (j + 1) by omega]; exact (h4 (j + 1) (by omega)).1),
      effD_none (D := D') es _ (fun j => by rw [show k + 1 + j = k + (j + 1) by omega]; exact (h4 (j + 1) (by omega)).2)]
    simp
  | e0 :: es, k, i + 1, e, he, h1, h2, h3, h4 => by
    have h0 := h3 0 (by omega)
    rw [Nat.add_zero] at h0
    rw [effD, effD, h0, effD_split es (k + 1) i e (by simpa using he) (by rw [show k + 1 + i = k + (i + 1) by omega]; exact h1) (by rw [show k + 1 + i = k + (i + 1) by omega]; exact h2)
      (fun j hj => by rw [show k + 1 + j = k + (j + 1) by omega]; exact h3 _ (by omega)) (fun j hj => by rw [show k + 1 + j = k + (j + 1) by omega]; exact h4 _ (by omega)), List.append_assoc]
theorem effD_step {D : Nat → Bool} {es : List (List (Nat × β))} {i : Nat} {e : List (Nat × β)} (he : es[i]? = some e) (hi : D i = false)
    (hdis : ∀ j e', i < j → es[j]? = some e' → D j = true → ∀ p ∈ e', ∀ q ∈ e, p.1 ≠ q.1) (m : Nat → β) :
    upG (upG m (effD D es 0)) e = upG m (effD (fun j => D j || j == i) es 0) := by
  funext x
  by_cases hx : ∃ q ∈ e, q.1 = x
  · obtain ⟨q, hq, rfl⟩ := hx
    let D1 : Nat → Bool := fun j => D j && Nat.blt j i
    have e1 : upG m (effD D es 0) q.1 = upG m (effD D1 es 0) q.1 := by
      refine effD_congr es 0 m m rfl (fun j e' hj hne p hp => ?_)
      rw [Nat.zero_add] at hne
      have hj2 : D j = true ∧ i ≤ j := by
        by_cases hlt : j < i
        · have hb : Nat.blt j i = true := by simpa using hlt
          simp [D1, hb] at hne
        · cases hd : D j with
          | false => simp [D1, hd] at hne
          | true => exact ⟨rfl, by omega⟩
      have : i ≠ j := by rintro rfl; rw [hi] at hj2; cases hj2.1
      exact hdis j e' (by omega) hj hj2.1 p hp q hq
    have e2 : upG m (effD (fun j => D j || j == i) es 0) q.1 = upG m (effD (fun j => D1 j || j == i) es 0) q.1 := by
      refine effD_congr es 0 m m rfl (fun j e' hj hne p hp => ?_)
      rw [Nat.zero_add] at hne
      have hj2 : D j = true ∧ i < j := by
        by_cases hlt : j < i
        · have hb : Nat.blt j i = true := by simpa using hlt
          simp [D1, hb] at hne
        · by_cases hji : j = i
          · simp [hji] at hne
          · cases hd : D j with
            | false => simp [D1, hd] at hne
            | true => exact ⟨rfl, by omega⟩
      exact hdis j e' hj2.2 hj hj2.1 p hp q hq
    rw [e2, upG_congr e e1, effD_split (D := D1) (D' := fun j => D1 j || j == i) es 0 i e he (by simp) (by show (D (0 + i) && Nat.blt (0 + i) i) = false; rw [Nat.zero_add, hi]; rfl) (fun j hj => by
      have : (j == i) = false := by simp; omega
      show D1 (0 + j) = (D1 (0 + j) || (0 + j == i)); rw [Nat.zero_add, this, Bool.or_false]) (fun j hj => by
      have h1 : (j == i) = false := by simp; omega
      have h2 : Nat.blt j i = false := blt_f (by omega)
      have h3 : D1 j = false := by show (D j && Nat.blt j i) = false; rw [h2, Bool.and_false]
      rw [Nat.zero_add]; exact ⟨h3, by rw [h3, h1]; rfl⟩), upG_append]
  · have hout : ∀ p ∈ e, p.1 ≠ x := fun p hp h => hx ⟨p, hp, h⟩
    rw [upG_out e _ x hout]
    refine effD_congr es 0 m m rfl (fun j e' hj hne p hp => ?_)
    rw [Nat.zero_add] at hne
    by_cases hji : j = i
    · subst hji
      rw [he] at hj
      obtain rfl := Option.some.inj hj
      exact hout p hp
    · simp [hji] at hne
end
/-- What a region's operation leaves among the temporaries. -/
def tef (L : Nat) (d : Option Nat) (v : Sv) : List (Nat × Sv) := match d with
  | some d => match Nat.blt d L with | true => [(d, v)] | false => []
  | none => []
def tau (s : List Sv) : Nat → Sv := fun t => s.getD t (.one .bad)
theorem put_length (s : List Sv) (d : Option Nat) (v : Sv) : (put s d v).length = s.length := by cases d <;> simp [put]
theorem tau_put (s : List Sv) (d : Option Nat) (v : Sv) : tau (put s d v) = upG (tau s) (tef s.length d v) := by
  cases d with
  | none => rfl
  | some d =>
    funext t
    unfold tef
    dsimp only
    by_cases hd : d < s.length
    · have : Nat.blt d s.length = true := blt_t hd
      rw [this]
      dsimp only [upG, put, tau]
      rw [List.getD_eq_getElem?_getD, List.getElem?_set]
      by_cases h : d = t
      · subst h; simp [hd]
      · rw [if_neg h, if_neg (fun e => h e.symm), List.getD_eq_getElem?_getD]
    · have : Nat.blt d s.length = false := blt_f hd
      rw [this]
      dsimp only [upG, put, tau]
      rw [List.set_eq_of_length_le (by omega)]
structure Rec where
  o : Oper
  s : List Sv
  M : List Box
  v : Sv
  ef : Eff
  on : Bool
def guardIs (ops : List Oper) (o : Oper) (s : List Sv) (b : Bool) : Prop := match o.guard with
  | none => b = true
  | some (j, want) => ∃ d, (ops.getD j default).dst = some d ∧ ((∃ t, s.getD d (.one .bad) = .one (.v (.bool t)) ∧ (t == want) = b) ∨ ((∃ e fl sz es, s.getD d (.one .bad) = .one (.fresh e fl sz es)) ∧ b = false))
def Rec.ok (E : Env) (P : Program) (ops : List Oper) (r : Rec) : Prop := guardIs ops r.o r.s r.on ∧ match r.on with
  | true => Good E P r.o r.s r.M r.M.length r.v r.ef
  | false => r.v = skp ∧ r.ef = []
def Rec.fp (r : Rec) : List Nat × List Nat := match r.on with | true => footE r.s r.M r.o r.ef | false => ([], [])
def Chain (E : Env) (P : Program) (ops : List Oper) : List Oper → List Sv → List Box → List Rec → List Sv → List Box → Prop
  | [], s, M, [], s', M' => s = s' ∧ M = M'
  | o :: os, s, M, r :: rs, s', M' => r.o = o ∧ r.s = s ∧ r.M = M ∧ r.ok E P ops ∧ Chain E P ops os (put s o.dst r.v) (apply M r.ef) rs s' M'
  | _, _, _, _, _, _ => False
theorem tst_cases {R : Type} {b : Bool} {x y : Option R} {r : R} (h : tst b x y = some r) : (b = true ∧ x = some r) ∨ (b = false ∧ y = some r) := by
  cases b
  · exact .inr ⟨rfl, h⟩
  · exact .inl ⟨rfl, h⟩
theorem vops_chain {R : Type} {E : Env} {P : Program} {f : Nat} {c : Orc} {ops : List Oper} (hT : TOK P E.T) (hc : CallOK E P c) : ∀ (os : List Oper) (fs : List (List Nat × List Nat)) (s : List Sv) (M : List Box) (K : List (List Nat × List Nat) → List Sv → List Box → Option R) (r : R),
    vops E f c ops os fs s M K = some r → ∃ rs s' M', Chain E P ops os s M rs s' M' ∧ K (fs.reverse ++ rs.map Rec.fp) s' M' = some r
  | [], fs, s, M, K, r, h => ⟨[], s, M, ⟨rfl, rfl⟩, by simpa [vops] using h⟩
  | o :: os, fs, s, M, K, r, h => by
    have on : vop E f c o s M M.length (fun v ef => vops E f c ops os (footE s M o ef :: fs) (put s o.dst v) (apply M ef) K) = some r → guardIs ops o s true →
        ∃ rs s' M', Chain E P ops (o :: os) s M rs s' M' ∧ K (fs.reverse ++ rs.map Rec.fp) s' M' = some r := by
      intro h hg
      obtain ⟨v, ef, hK, hgood⟩ := vop_sound hT hc h rfl
      obtain ⟨rs, s', M', hch, hK'⟩ := vops_chain hT hc os _ _ _ K r hK
      refine ⟨⟨o, s, M, v, ef, true⟩ :: rs, s', M', ⟨rfl, rfl, rfl, ⟨hg, hgood⟩, hch⟩, ?_⟩
      simpa [Rec.fp] using hK'
    unfold vops at h
    split at h
    · rename_i hg
      exact on h (by unfold guardIs; rw [hg])
    · rename_i j want hg
      split at h
      · rename_i d hd
        split at h
        · rename_i t ht
          have same : s.set d (.one (.v (.bool t))) = s := by
            have hd' : d < s.length := by
              rcases Nat.lt_or_ge d s.length with h | h
              · exact h
              · rw [List.getD_eq_getElem?_getD, List.getElem?_eq_none h] at ht; cases ht
            rw [List.getD_eq_getElem?_getD, List.getElem?_eq_getElem hd'] at ht
            simp only [Option.getD_some] at ht
            rw [← ht]; exact List.set_getElem_self hd'
          have off : vops E f c ops os (([], []) :: fs) (put s o.dst skp) M K = some r → (t == want) = false →
              ∃ rs s' M', Chain E P ops (o :: os) s M rs s' M' ∧ K (fs.reverse ++ rs.map Rec.fp) s' M' = some r := by
            intro h hb
            obtain ⟨rs, s', M', hch, hK'⟩ := vops_chain hT hc os _ _ _ K r h
            refine ⟨⟨o, s, M, skp, [], false⟩ :: rs, s', M', ⟨rfl, rfl, rfl, ⟨by unfold guardIs; rw [hg]; exact ⟨d, hd, .inl ⟨t, ht, hb⟩⟩, rfl, rfl⟩, hch⟩, ?_⟩
            simpa [Rec.fp] using hK'
          dsimp only at h
          rcases tst_cases h with ⟨hb, h⟩ | ⟨hb, h⟩
          · rw [← hb, same] at h
            cases want with
            | true => exact on h (by unfold guardIs; rw [hg]; exact ⟨d, hd, .inl ⟨t, ht, by rw [hb]; rfl⟩⟩)
            | false => exact off h (by rw [hb]; rfl)
          · rw [← hb, same] at h
            cases want with
            | true => exact off h (by rw [hb]; rfl)
            | false => exact on h (by unfold guardIs; rw [hg]; exact ⟨d, hd, .inl ⟨t, ht, by rw [hb]; rfl⟩⟩)
        · rename_i e fl sz es ht
          obtain ⟨rs, s', M', hch, hK'⟩ := vops_chain hT hc os _ _ _ K r h
          refine ⟨⟨o, s, M, skp, [], false⟩ :: rs, s', M', ⟨rfl, rfl, rfl, ⟨by unfold guardIs; rw [hg]; exact ⟨d, hd, .inr ⟨⟨e, fl, sz, es, ht⟩, rfl⟩⟩, rfl, rfl⟩, hch⟩, ?_⟩
          simpa [Rec.fp] using hK'
        · cases h
      · cases h
/-- The states of a chain, out of the effects. -/
theorem chain_at {E : Env} {P : Program} {ops : List Oper} : ∀ (os : List Oper) (s : List Sv) (M : List Box) (rs : List Rec) (s' : List Sv) (M' : List Box), Chain E P ops os s M rs s' M' →
    rs.length = os.length ∧ s'.length = s.length ∧ memOf M' = upG (memOf M) (effD (fun _ => true) (rs.map (·.ef)) 0) ∧ tau s' = upG (tau s) (effD (fun _ => true) (rs.map fun r => tef s.length r.o.dst r.v) 0) ∧
    ∀ i r, rs[i]? = some r → os[i]? = some r.o ∧ r.ok E P ops ∧ r.s.length = s.length ∧ memOf r.M = upG (memOf M) (effD (fun j => Nat.blt j i) (rs.map (·.ef)) 0) ∧ tau r.s = upG (tau s) (effD (fun j => Nat.blt j i) (rs.map fun r => tef s.length r.o.dst r.v) 0)
  | [], s, M, [], s', M', h => by
    obtain ⟨rfl, rfl⟩ := h
    exact ⟨rfl, rfl, rfl, rfl, fun i r hr => by simp at hr⟩
  | o :: os, s, M, r :: rs, s', M', h => by
    obtain ⟨rfl, rfl, rfl, hok, hch⟩ := h
    obtain ⟨h1, h2, h3, h4, h5⟩ := chain_at os _ _ rs s' M' hch
    rw [put_length] at h2
    simp only [put_length] at h4 h5
    refine ⟨by simp [h1], h2, ?_, ?_, fun i r' hr => ?_⟩
    · rw [h3, memOf_apply, upM_eq, List.map_cons, effD, upG_append, effD_shift]
    · rw [h4, tau_put, List.map_cons, effD, upG_append, effD_shift]
    · cases i with
      | zero =>
        simp only [List.getElem?_cons_zero, Option.some.injEq] at hr
        subst hr
        refine ⟨rfl, hok, rfl, ?_, ?_⟩
        · rw [effD_none (D := fun j => Nat.blt j 0) _ _ (fun j => blt_f (Nat.not_lt_zero _))]; rfl
        · rw [effD_none (D := fun j => Nat.blt j 0) _ _ (fun j => blt_f (Nat.not_lt_zero _))]; rfl
      | succ i =>
        obtain ⟨q1, q2, q3, q4, q5⟩ := h5 i r' (by simpa using hr)
        have hb : (fun j => Nat.blt (j + 1) (i + 1)) = fun j => Nat.blt j i := by
          funext j
          by_cases h : j < i
          · rw [blt_t h, blt_t (show j + 1 < i + 1 by omega)]
          · rw [blt_f h, blt_f (show ¬ j + 1 < i + 1 by omega)]
        refine ⟨by simpa using q1, q2, q3, ?_, ?_⟩
        · rw [q4, memOf_apply, upM_eq, List.map_cons, effD, upG_append, effD_shift, hb, blt_t (show 0 < i + 1 by omega)]
        · rw [q5, tau_put, List.map_cons, effD, upG_append, effD_shift, hb, blt_t (show 0 < i + 1 by omega)]
  | [], _, _, _ :: _, _, _, h => h.elim
  | _ :: _, _, _, [], _, _, h => h.elim
end Go.Vi
