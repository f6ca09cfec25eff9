/- THE VALUE INTERPRETER: operators. No project text. -/
import Derived.Test.YtkpdcieoiciapaaDoorVi3
import Derived.Laws.Strings
set_option linter.unusedVariables false
set_option linter.unusedSimpArgs false
namespace Go.Vi
open Go.RowKit
variable {R : Type}
theorem chk_some {b : Bool} {x : Option R} {r : R} (h : chk b x = some r) : b = true ∧ x = some r := by
  cases b
  · cases h
  · exact ⟨rfl, h⟩
theorem tst_some {b : Bool} {x y : Option R} {r : R} (h : tst b x y = some r) : (b = true ∧ x = some r) ∨ (b = false ∧ y = some r) := by
  cases b
  · exact .inr ⟨rfl, h⟩
  · exact .inl ⟨rfl, h⟩

/-- The operation's run, in whatever world. -/
def Runs (P : Program) (op : BinOp) (a b c : Value) : Prop := ∀ (w : World) (t : TypeId) (x y : Operand), (do eqGuard op t x y a b; binOp op t a b).run P w = .ok c w
theorem eqGuard_plain {op : BinOp} {t : TypeId} {x y : Operand} {a b : Value} (ha : a ≠ .nilIface) (hb : ∀ cs, a ≠ .agg cs) : eqGuard op t x y a b = pure () := by
  unfold eqGuard
  cases a <;> cases b <;> cases op <;> simp_all <;> rfl
theorem binV_int {P : Program} {op : BinOp} {k k' : IntKind} {a b : Int} {K : Value → Option R} {r : R} (h : binV op (.int k a) (.int k' b) K = some r) :
    ∃ c, K c = some r ∧ c.oneCell' = true ∧ Runs P op (.int k a) (.int k' b) c := by
  have hg : ∀ op t x y, eqGuard op t x y (.int k a) (.int k' b) = pure () := fun _ _ _ _ => eqGuard_plain (by simp) (by simp)
  cases op <;> simp only [binV] at h
  case shl =>
    obtain ⟨hb, h1⟩ := chk_some h
    exact ⟨_, h1, rfl, fun w t x y => by rw [hg]; simp [binOp, Op.shift, of_decide_eq_true hb, Int.not_lt.2 (of_decide_eq_true hb), shlI, shrI]⟩
  case shr =>
    obtain ⟨hb, h1⟩ := chk_some h
    exact ⟨_, h1, rfl, fun w t x y => by rw [hg]; simp [binOp, Op.shift, of_decide_eq_true hb, Int.not_lt.2 (of_decide_eq_true hb), shlI, shrI]⟩
  case andNot => cases h
  case quo =>
    obtain ⟨hk, h0⟩ := chk_some h
    obtain ⟨hb, h1⟩ := chk_some h0
    clear h h0
    obtain rfl := of_decide_eq_true hk
    have hb : b ≠ 0 := by simpa using hb
    exact ⟨_, h1, rfl, fun w t x y => by rw [hg]; simp [binOp, Op.intDiv, hb]⟩
  case rem =>
    obtain ⟨hk, h0⟩ := chk_some h
    obtain ⟨hb, h1⟩ := chk_some h0
    clear h h0
    obtain rfl := of_decide_eq_true hk
    have hb : b ≠ 0 := by simpa using hb
    exact ⟨_, h1, rfl, fun w t x y => by rw [hg]; simp [binOp, Op.intDiv, hb]⟩
  all_goals
    obtain ⟨hk, h1⟩ := chk_some h
    clear h
    obtain rfl := of_decide_eq_true hk
    exact ⟨_, h1, rfl, fun w t x y => by rw [hg]; simp [binOp, Op.intArith, Op.intBits, Op.intCmp, andI, orI, xorI]⟩
theorem binV_spec {P : Program} {op : BinOp} {a b : Value} {K : Value → Option R} {r : R} (h : binV op a b K = some r) :
    ∃ c, K c = some r ∧ c.oneCell' = true ∧ Runs P op a b c := by
  cases a with
  | int k a =>
    cases b with
    | int k' b => exact binV_int h
    | _ => simp [binV] at h
  | string a =>
    cases b with
    | string b =>
      have hg : ∀ op t x y, eqGuard op t x y (.string a) (.string b) = pure () := fun _ _ _ _ => eqGuard_plain (by simp) (by simp)
      cases op <;> simp only [binV] at h <;> first | (cases h; done) | skip
      case add =>
        obtain ⟨hb, h2⟩ := chk_some h
        have hb := of_decide_eq_true hb
        refine ⟨_, h2, rfl, fun w t x y => ?_⟩
        rw [hg]
        have h1 : ¬ (((a.size + b.size : Nat) : Int) > IntKind.i64.max) := by rw [show IntKind.i64.max = 9223372036854775807 by decide]; omega
        simp only [binOp, Op.stringOp]
        rw [if_neg h1]; rfl
      all_goals exact ⟨_, h, rfl, fun w t x y => by rw [hg]; simp [binOp, Op.stringOp, ByteArray.toList_eq, bytesEq]⟩
    | _ => simp [binV] at h
  | _ => cases b <;> simp [binV] at h
end Go.Vi
