/- THE VALUE INTERPRETER: '==' of structs, cell by cell. No project text. -/
import Derived.Test.YtkpdcieoiciapaaDoorVi4
import Derived.Laws.StructEq
set_option linter.unusedVariables false
set_option linter.unusedSimpArgs false
namespace Go.Vi
open Go.RowKit
def eqVs : List CK → List Value → List Value → Option Bool
  | [], [], [] => some true
  | c :: cs, x :: xs, y :: ys => match eqV c x y, eqVs cs xs ys with
    | some a, some b => some (a && b)
    | _, _ => none
  | _, _, _ => none
theorem eqVs_len : ∀ {cs : List CK} {xs ys : List Value} {b : Bool}, eqVs cs xs ys = some b → xs.length = cs.length ∧ ys.length = cs.length
  | [], [], [], _, _ => ⟨rfl, rfl⟩
  | c :: cs, x :: xs, y :: ys, b, h => by
    simp only [eqVs] at h
    split at h
    · rename_i a d ha hd
      have := eqVs_len hd
      simp [this.1, this.2]
    · cases h
  | [], _ :: _, _, _, h => by simp [eqVs] at h
  | [], [], _ :: _, _, h => by simp [eqVs] at h
  | _ :: _, [], _, _, h => by simp [eqVs] at h
  | _ :: _, _ :: _, [], _, h => by simp [eqVs] at h
theorem eqVs_split : ∀ {c1 c2 : List CK} {xs ys : List Value} {b : Bool}, eqVs (c1 ++ c2) xs ys = some b → ∃ b1 b2, eqVs c1 (xs.take c1.length) (ys.take c1.length) = some b1 ∧ eqVs c2 (xs.drop c1.length) (ys.drop c1.length) = some b2 ∧ b = (b1 && b2)
  | [], c2, xs, ys, b, h => ⟨true, b, rfl, by simpa using h, by simp⟩
  | c :: c1, c2, x :: xs, y :: ys, b, h => by
    simp only [List.cons_append, eqVs] at h
    split at h
    · rename_i a d ha hd
      obtain ⟨b1, b2, h1, h2, h3⟩ := eqVs_split hd
      refine ⟨a && b1, b2, by simp [eqVs, ha, h1], by simpa using h2, ?_⟩
      rw [← Option.some.inj h, h3, Bool.and_assoc]
    · cases h
  | c :: c1, c2, [], ys, b, h => by simp [eqVs] at h
  | c :: c1, c2, x :: xs, [], b, h => by simp [eqVs] at h
/-- A value of that type, out of its cells. -/
def ofCells (P : Program) (t : TypeId) (cs : List Value) : Value := match P.underlying t with
  | some (.struct _) => .agg cs.toArray
  | _ => cs.headD undef
theorem eqFl_cons {q : TypeId → Option (List CK)} {f : Field} {fs : List Field} {l l2 : List CK} (h : eqFl q (f :: fs) l = some l2) :
    ∃ l', q f.type = some l' ∧ f.offset = l.length ∧ f.name ≠ "_" ∧ eqFl q fs (l ++ l') = some l2 := by
  simp only [eqFl] at h
  split at h
  · rename_i l1 h1
    unfold eqAdd at h1
    split at h1
    · rename_i l' hq
      split at h1
      · rename_i hc
        simp only [Bool.and_eq_true, decide_eq_true_eq, bne_iff_ne, ne_eq] at hc
        obtain rfl := Option.some.inj h1
        exact ⟨l', hq, hc.1, hc.2, h⟩
      · cases h1
    · cases h1
  · cases h
theorem eqPl_cases {P : Program} {d : Nat} {t : TypeId} {l : List CK} (h : eqPl P (d + 1) t = some l) :
    (∃ k, P.underlying t = some (.int k) ∧ l = [.i k]) ∨ (P.underlying t = some .bool ∧ l = [.b]) ∨ (P.underlying t = some .string ∧ l = [.s]) ∨
    (∃ fs, P.underlying t = some (.struct fs) ∧ P.stoodInHeld t = false ∧ eqFl (eqPl P d) fs.toList [] = some l ∧ (P.info? t).map (·.size) = some l.length) := by
  unfold eqPl at h
  split at h
  · rename_i k hu hi; exact .inl ⟨k, hu, (Option.some.inj h).symm⟩
  · rename_i hu hi; exact .inr (.inl ⟨hu, (Option.some.inj h).symm⟩)
  · rename_i hu hi; exact .inr (.inr (.inl ⟨hu, (Option.some.inj h).symm⟩))
  · rename_i fs n hu hi
    split at h
    · cases h
    · rename_i hp
      split at h
      · rename_i l' hl
        split at h
        · rename_i hn
          obtain rfl := Option.some.inj h
          exact .inr (.inr (.inr ⟨fs, hu, hp, hl, by rw [hi, of_decide_eq_true hn]⟩))
        · cases h
      · cases h
  · cases h
theorem part_run {P : Program} {t : TypeId} {d : Nat} {l : List CK} (h : eqPl P d t = some l) (cs : List Value) (off : Nat) (hl : off + l.length ≤ cs.length) (w : World) :
    (part t cs.toArray off).run P w = .ok (ofCells P t ((cs.drop off).take l.length)) w := by
  cases d with
  | zero => simp [eqPl] at h
  | succ d =>
    rcases eqPl_cases h with ⟨k, hu, rfl⟩ | ⟨hu, rfl⟩ | ⟨hu, rfl⟩ | ⟨fs, hu, hp, hf, hi⟩
    case inr.inr.inr =>
      cases hq : P.info? t with
      | none => rw [hq] at hi; cases hi
      | some i =>
        have hs : i.size = l.length := by simpa [hq] using hi
        simp only [part, Sem.run_bind, isAgg, run_underlying hu, Result.andThen_ok, Sem.run_pure, if_true, sizeOf, typeInfo, run_program, hq, ofCells, hu, hs]
        congr 2
        apply Array.ext'
        simp [List.extract_eq_take_drop, List.drop_take]
    all_goals
      simp only [List.length_cons, List.length_nil, Nat.zero_add] at hl
      have hg : cs.toArray[off]? = some (cs[off]'(by omega)) := by simp
      have ht : (cs.drop off).take 1 = [cs[off]'(by omega)] := by
        rw [List.drop_eq_getElem_cons (by omega)]; rfl
      simp only [part, Sem.run_bind, isAgg, run_underlying hu, Result.andThen_ok, Sem.run_pure, Bool.false_eq_true, if_false, hg, ofCells, hu, List.length_cons, List.length_nil, Nat.zero_add, ht]
      rfl
theorem equalIn_plain (P : Program) : ∀ (d k : Nat) (t : TypeId) (l : List CK) (xs ys : List Value) (b : Bool) (w : World), eqPl P d t = some l → eqVs l xs ys = some b →
    (Op.equalIn (d + k) t (ofCells P t xs) (ofCells P t ys)).run P w = .ok b w
  | 0, k, t, l, xs, ys, b, w, h, he => by simp [eqPl] at h
  | d + 1, k, t, l, xs, ys, b, w, h, he => by
    have hlen := eqVs_len he
    rw [show d + 1 + k = (d + k) + 1 by omega]
    rcases eqPl_cases h with ⟨q, hu, rfl⟩ | ⟨hu, rfl⟩ | ⟨hu, rfl⟩ | ⟨fs, hu, hp, hf, hi⟩
    case inr.inr.inr =>
      have hfo : P.fieldsOf t = fs := by simp [Program.fieldsOf, hu]
      simp only [ofCells, hu]
      rw [run_equalIn_struct (P := P) w (d + k) t _ _ (by rw [hfo]; exact hu) hp, hfo]
      have key : ∀ (fs : List Field) (l0 l : List CK) (b : Bool), eqFl (eqPl P d) fs l0 = some l → (∀ l1, l = l0 ++ l1 → ∀ b, eqVs l1 (xs.drop l0.length) (ys.drop l0.length) = some b → l.length = xs.length → l.length = ys.length →
          (Op.eqFields (d + k) xs.toArray ys.toArray fs).run P w = .ok b w) ∧ ∃ l1, l = l0 ++ l1 := by
        intro fs
        induction fs with
        | nil =>
          intro l0 l b hl
          obtain rfl := Option.some.inj hl
          refine ⟨fun l1 h1 b hb hx hy => ?_, ⟨[], by simp⟩⟩
          have : l1 = [] := by simpa using h1
          subst this
          rw [List.drop_eq_nil_of_le (by omega), List.drop_eq_nil_of_le (by omega)] at hb
          obtain rfl := Option.some.inj hb
          simp [Op.eqFields]
        | cons f fs ih =>
          intro l0 l b hl
          obtain ⟨l', hl', hc1, hc2, hl⟩ := eqFl_cons hl
          obtain ⟨h1, h2⟩ := ih (l0 ++ l') l b hl
          obtain ⟨l2, h2⟩ := h2
          refine ⟨fun l1 hl1 b hb hx hy => ?_, ⟨l' ++ l2, by rw [h2, List.append_assoc]⟩⟩
          have he1 : l1 = l' ++ l2 := by
            rw [h2, List.append_assoc] at hl1
            exact (List.append_cancel_left hl1).symm
          subst he1
          obtain ⟨b1, b2, hb1, hb2, hbb⟩ := eqVs_split hb
          have hlen' : l.length = l0.length + l'.length + l2.length := by rw [h2]; simp; omega
          have r1 := part_run hl' xs f.offset (by rw [hc1]; omega) w
          have r2 := part_run hl' ys f.offset (by rw [hc1]; omega) w
          have r3 := equalIn_plain P d k f.type l' _ _ b1 w hl' hb1
          obtain ⟨h1, h1'⟩ := ih (l0 ++ l') l b2 hl
          have r4 := h1 l2 h2 b2 (by simpa [List.drop_drop, Nat.add_comm] using hb2) hx hy
          rw [hc1] at r1 r2
          simp only [Op.eqFields, if_pos hc2, Sem.run_bind, hc1, r1, r2, Result.andThen_ok, r3]
          subst hbb
          cases b1
          · simp
          · simpa using r4
      have := (key fs.toList [] l b hf).1 l (by simp) b (by simpa using he) hlen.1.symm hlen.2.symm
      simpa using this
    all_goals
      match xs, ys, hlen with
      | [x], [y], _ =>
        simp only [eqVs] at he
        split at he
        · rename_i a c ha hc
          obtain rfl : c = true := (Option.some.inj hc).symm
          rw [Bool.and_true] at he
          obtain rfl := Option.some.inj he
          unfold eqV at ha
          split at ha
          · split at ha
            · rename_i hk
              simp only [Bool.and_eq_true, decide_eq_true_eq] at hk
              rename_i hcq _ _ _ _
              obtain ⟨rfl, rfl⟩ := hk
              obtain rfl := Option.some.inj ha
              simp_all [ofCells, Op.equalIn, run_underlying hu]
            · cases ha
          all_goals simp_all
          all_goals simp_all [ofCells, Op.equalIn, run_underlying hu, ByteArray.toList_eq, bytesEq, beq_toListBytes]
        · cases he
end Go.Vi
