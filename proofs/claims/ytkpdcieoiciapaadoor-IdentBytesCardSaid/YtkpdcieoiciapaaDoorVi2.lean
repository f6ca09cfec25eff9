/- THE VALUE INTERPRETER: the table of types held against the program; what one operation comes to. No project text. -/
import Derived.Test.YtkpdcieoiciapaaDoorVi1
import Derived.Laws.Entries
set_option linter.unusedVariables false
set_option linter.unusedSimpArgs false
namespace Go.Vi
open Go.RowKit

def eqZ : At → Value → Bool
  | .v (.int k n), .int k' n' => decide (k = k') && decide (n = n')
  | .v (.bool a), .bool b => a == b
  | .v (.string a), .string b => a.data.toList == b.data.toList
  | .v (.pointer none), .pointer none => true
  | .v .nilIface, .nilIface => true
  | .v .nilFunc, .nilFunc => true
  | .v (.map none), .map none => true
  | .nils, .slice none 0 0 => true
  | _, _ => false
def eqZs : List At → List Value → Bool
  | [], [] => true
  | x :: xs, v :: vs => eqZ x v && eqZs xs vs
  | _, _ => false
theorem data_eq {a b : ByteArray} (h : a.data.toList = b.data.toList) : a = b := by
  cases a with | mk x => cases b with | mk y => simp at h; simp [h]
theorem eqZ_spec {x : At} {v : Value} (h : eqZ x v = true) : x = ofConst1 v ∧ v.oneCell' = true := by
  unfold eqZ at h
  split at h <;> simp_all [ofConst1, Value.oneCell']
  exact data_eq (by rw [h])
theorem eqZs_spec : ∀ {xs : List At} {vs : List Value}, eqZs xs vs = true → xs = vs.map ofConst1 ∧ ∀ v ∈ vs, v.oneCell' = true
  | [], [], _ => ⟨rfl, fun v hv => by cases hv⟩
  | x :: xs, v :: vs, h => by
    simp only [eqZs, Bool.and_eq_true] at h
    obtain ⟨h1, h2⟩ := eqZ_spec h.1
    obtain ⟨h3, h4⟩ := eqZs_spec h.2
    refine ⟨by rw [h1, h3]; rfl, fun u hu => ?_⟩
    cases hu with
    | head => exact h2
    | tail _ hu => exact h4 u hu
  | [], _ :: _, h => by simp [eqZs] at h
  | _ :: _, [], h => by simp [eqZs] at h

def zeroOk (ti : TI) : Option Value → Bool
  | some (.agg cs) => ti.agg && eqZs ti.zero cs.toList && decide (cs.size = ti.size)
  | some (.tuple _) => false
  | some z => !ti.agg && eqZs ti.zero [z] && decide (ti.size = 1)
  | none => false
def eqAdd (l : List CK) (f : Field) : Option (List CK) → Option (List CK)
  | some l' => match decide (f.offset = l.length) && f.name != "_" with | true => some (l ++ l') | false => none
  | none => none
/-- The fields of a struct, one behind the other. -/
def eqFl (q : TypeId → Option (List CK)) : List Field → List CK → Option (List CK)
  | [], l => some l
  | f :: fs, l => match eqAdd l f (q f.type) with
    | some l' => eqFl q fs l'
    | none => none
/-- A type whose values are compared cell by cell: the kinds of its cells. -/
def eqPl (P : Program) : Nat → TypeId → Option (List CK)
  | 0, _ => none
  | d + 1, t => match P.underlying t, (P.info? t).map (·.size) with
    | some (.int k), some 1 => some [.i k]
    | some .bool, some 1 => some [.b]
    | some .string, some 1 => some [.s]
    | some (.struct fs), some n => match P.stoodInHeld t with
      | true => none
      | false => match eqFl (eqPl P d) fs.toList [] with
        | some l => match decide (l.length = n) with | true => some l | false => none
        | none => none
    | _, _ => none
def fieldsOk (T : Nat → TI) : List (Nat × Nat) → List Field → Bool
  | [], [] => true
  | (o, t) :: os, f :: fs => o == f.offset && t == f.type && (T t).ok && (T t).size != 0 && fieldsOk T os fs
  | _, _ => false
def tiOk (P : Program) (T : Nat → TI) (t : Nat) : Bool :=
  match P.info? t, P.underlying t with
  | some i, some d =>
    decide (i.size = (T t).size) && decide (i.bytes = (T t).bytes) && zeroOk (T t) i.zero &&
    ((T t).eqck.isEmpty || ((T t).agg && decide (eqPl P 6 t = some (T t).eqck) && !P.eqGuardType P.depth t)) &&
    (match d with
    | .int k => !(T t).isIface && !(T t).isBool && decide ((T t).kind = some k) && !(T t).agg && !(T t).isSlice && !(T t).str && decide ((T t).len = 0)
    | .string => !(T t).isIface && !(T t).isBool && decide ((T t).kind = none) && !(T t).agg && !(T t).isSlice && (T t).str && decide ((T t).len = 0)
    | .slice e => !(T t).isIface && !(T t).isBool && decide ((T t).kind = none) && !(T t).agg && (T t).isSlice && !(T t).str && decide ((T t).len = 0) && decide ((T t).elem = e) && (T e).ok
    | .struct fs => !(T t).isIface && !(T t).isBool && decide ((T t).kind = none) && (T t).agg && !(T t).isSlice && !(T t).str && decide ((T t).len = 0) && fieldsOk T (T t).offs fs.toList
    | .array n e => !(T t).isIface && !(T t).isBool && decide ((T t).kind = none) && (T t).agg && !(T t).isSlice && !(T t).str && decide ((T t).len = n) && decide (n ≠ 0) && decide ((T t).elem = e) && (T e).ok
    | .bool => !(T t).isIface && (T t).isBool && decide ((T t).kind = none) && !(T t).agg && !(T t).isSlice && !(T t).str && decide ((T t).len = 0)
    | .pointer _ => !(T t).isIface && !(T t).isBool && decide ((T t).kind = none) && !(T t).agg && !(T t).isSlice && !(T t).str && decide ((T t).len = 0)
    | .interface _ => (T t).isIface && !(T t).isBool && decide ((T t).kind = none) && !(T t).agg && !(T t).isSlice && !(T t).str && decide ((T t).len = 0)
    | _ => false)
  | _, _ => false
/-- THE TABLE IS THE PROGRAM's. -/
def TOK (P : Program) (T : Nat → TI) : Prop := ∀ t, (T t).ok = true → tiOk P T t = true
theorem TOK.of_all {P : Program} {tab : List TI} (h : ((List.range tab.length).all fun t => !(tab.getD t {}).ok || tiOk P (fun t => tab.getD t {}) t) = true) : TOK P (fun t => tab.getD t {}) := by
  intro t ht
  rcases Nat.lt_or_ge t tab.length with hl | hl
  · have := List.all_eq_true.1 h t (List.mem_range.2 hl)
    simp only [Bool.or_eq_true, Bool.not_eq_true'] at this
    rcases this with h1 | h1
    · rw [ht] at h1; cases h1
    · exact h1
  · simp [List.getD, List.getElem?_eq_none hl] at ht

section
variable {P : Program} {T : Nat → TI} {t : Nat} (hT : TOK P T) (ht : (T t).ok = true)
include hT ht
theorem tok_info : ∃ i d, P.info? t = some i ∧ P.underlying t = some d ∧ i.size = (T t).size ∧ i.bytes = (T t).bytes ∧ zeroOk (T t) i.zero = true ∧ d.isRow = (T t).agg := by
  have h := hT t ht
  unfold tiOk at h
  split at h
  · rename_i i d hi hd
    simp only [Bool.and_eq_true, decide_eq_true_eq] at h
    refine ⟨i, d, hi, hd, h.1.1.1.1, h.1.1.1.2, h.1.1.2, ?_⟩
    have h2 := h.2
    clear h
    cases d <;> simp_all [TypeDesc.isRow]
  · cases h
theorem tok_slice (hs : (T t).isSlice = true) : P.underlying t = some (.slice (T t).elem) ∧ (T (T t).elem).ok = true := by
  have h := hT t ht
  unfold tiOk at h
  split at h
  · rename_i i d hi hd
    simp only [Bool.and_eq_true, decide_eq_true_eq] at h
    have h2 := h.2
    clear h
    cases d <;> simp_all
  · cases h
theorem tok_str (hs : (T t).str = true) : P.underlying t = some .string := by
  have h := hT t ht
  unfold tiOk at h
  split at h
  · rename_i i d hi hd
    simp only [Bool.and_eq_true, decide_eq_true_eq] at h
    have h2 := h.2
    clear h
    cases d <;> simp_all
  · cases h
theorem tok_eqok (hs : (T t).eqck.isEmpty = false) : eqPl P 6 t = some (T t).eqck ∧ P.eqGuardType P.depth t = false ∧ (T t).agg = true := by
  have h := hT t ht
  unfold tiOk at h
  split at h
  · rename_i i d hi hd
    simp only [Bool.and_eq_true, decide_eq_true_eq, Bool.or_eq_true, Bool.not_eq_true'] at h
    rcases h.1.2 with h1 | h1
    · rw [hs] at h1; cases h1
    · exact ⟨h1.1.2, h1.2, h1.1.1⟩
  · cases h
theorem tok_iface (hs : (T t).isIface = true) : ∃ ms, P.underlying t = some (.interface ms) := by
  have h := hT t ht
  unfold tiOk at h
  split at h
  · rename_i i d hi hd
    simp only [Bool.and_eq_true, decide_eq_true_eq] at h
    have h2 := h.2
    clear h
    cases d <;> simp_all
  · cases h
theorem tok_bool (hs : (T t).isBool = true) : P.underlying t = some .bool := by
  have h := hT t ht
  unfold tiOk at h
  split at h
  · rename_i i d hi hd
    simp only [Bool.and_eq_true, decide_eq_true_eq] at h
    have h2 := h.2
    clear h
    cases d <;> simp_all
  · cases h
theorem tok_kind {k : IntKind} (hs : (T t).kind = some k) : P.underlying t = some (.int k) := by
  have h := hT t ht
  unfold tiOk at h
  split at h
  · rename_i i d hi hd
    simp only [Bool.and_eq_true, decide_eq_true_eq] at h
    have h2 := h.2
    clear h
    cases d <;> simp_all
  · cases h
theorem tok_struct (ha : (T t).agg = true) (hl : (T t).len = 0) : ∃ fs, P.underlying t = some (.struct fs) ∧ fieldsOk T (T t).offs fs.toList = true := by
  have h := hT t ht
  unfold tiOk at h
  split at h
  · rename_i i d hi hd
    simp only [Bool.and_eq_true, decide_eq_true_eq] at h
    have h2 := h.2
    clear h
    cases d <;> simp_all
    all_goals omega
  · cases h
theorem tok_array (ha : (T t).agg = true) (hl : (T t).len ≠ 0) : P.underlying t = some (.array (T t).len (T t).elem) ∧ (T (T t).elem).ok = true := by
  have h := hT t ht
  unfold tiOk at h
  split at h
  · rename_i i d hi hd
    simp only [Bool.and_eq_true, decide_eq_true_eq] at h
    have h2 := h.2
    clear h
    cases d <;> simp_all
  · cases h
end
theorem fieldsOk_get {T : Nat → TI} : ∀ {os : List (Nat × Nat)} {fs : List Field}, fieldsOk T os fs = true → os.length = fs.length ∧ ∀ (j : Nat) (o : Nat × Nat), os[j]? = some o → ∃ f, fs[j]? = some f ∧ o.1 = f.offset ∧ o.2 = f.type ∧ (T o.2).ok = true ∧ (T o.2).size ≠ 0
  | [], [], _ => ⟨rfl, fun j o h => by simp at h⟩
  | (o, t) :: os, f :: fs, h => by
    simp only [fieldsOk, Bool.and_eq_true, beq_iff_eq, bne_iff_ne, ne_eq] at h
    obtain ⟨h1, h2⟩ := fieldsOk_get h.2
    refine ⟨by simp [h1], fun j o' hj => ?_⟩
    cases j with
    | zero =>
      simp at hj
      subst hj
      exact ⟨f, rfl, h.1.1.1.1, h.1.1.1.2, h.1.1.2, h.1.2⟩
    | succ j => simpa using h2 j o' (by simpa using hj)
  | [], _ :: _, h => by simp [fieldsOk] at h
  | _ :: _, [], h => by simp [fieldsOk] at h

/-! ### memory behind an effect -/
def upM (m : Mem) : Eff → Mem
  | [] => m
  | (a, b) :: es => upM (fun x => if x = a then b else m x) es
def memOf (M : List Box) : Mem := fun a => M.getD a .gone
theorem memOf_upd (M : List Box) (a : Nat) (b : Box) : memOf (upd M a b) = fun x => if x = a then b else memOf M x := by
  funext x
  unfold upd memOf
  cases hb : Nat.blt a M.length with
  | true =>
    have ha : a < M.length := by simpa [Nat.blt_eq] using hb
    simp only [List.getD, List.getElem?_set]
    by_cases hx : x = a
    · subst hx; simp [ha]
    · rw [if_neg (fun e => hx e.symm), if_neg hx]
  | false =>
    have ha : M.length ≤ a := by
      rcases Nat.lt_or_ge a M.length with h | h
      · have : Nat.blt a M.length = true := by simpa [Nat.blt_eq] using h
        rw [hb] at this; cases this
      · exact h
    simp only [List.getD]
    by_cases hx : x = a
    · subst hx
      rw [if_pos rfl, List.getElem?_append_right ha, List.getElem?_append_right (by simp)]
      simp
    · rw [if_neg hx]
      rcases Nat.lt_or_ge x M.length with h | h
      · rw [List.getElem?_append_left h]
      · rw [List.getElem?_append_right h, List.getElem?_eq_none h]
        rcases Nat.lt_or_ge (x - M.length) (a - M.length) with h2 | h2
        · rw [List.getElem?_append_left (by simpa using h2), List.getElem?_replicate, if_pos h2]; rfl
        · rw [List.getElem?_append_right (by simpa using h2), List.getElem?_eq_none (by simp; omega)]
theorem memOf_apply : ∀ (ef : Eff) (M : List Box), memOf (apply M ef) = upM (memOf M) ef
  | [], M => rfl
  | (a, b) :: es, M => by
    rw [apply, memOf_apply es, upM, memOf_upd]
end Go.Vi
