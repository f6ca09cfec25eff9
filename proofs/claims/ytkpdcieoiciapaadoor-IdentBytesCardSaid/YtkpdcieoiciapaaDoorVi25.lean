/- THE VALUE INTERPRETER: loops and functions told, the frame of it. No project text. -/
import Derived.Test.YtkpdcieoiciapaaDoorVi24
set_option linter.unusedVariables false
set_option linter.unusedSimpArgs false
namespace Go.Vi
open Go.RowKit
noncomputable def gd (p : Prop) : Bool := @decide p (Classical.propDecidable p)
theorem gd_t {p : Prop} (h : p) : gd p = true := by unfold gd; exact @decide_eq_true p (Classical.propDecidable p) h
theorem of_gd {p : Prop} (h : gd p = true) : p := @of_decide_eq_true p (Classical.propDecidable p) h
theorem br_some {α : Type} {b : Bool} {x : Tree α} {y : α} (h : (Tree.br b x .no).eval = some y) : b = true ∧ x.eval = some y := by
  cases b
  · cases h
  · exact ⟨rfl, h⟩
def loAt (k : Nat) (ts : List Nat) (F : List Sv → List Box → Option (Tree (Ex × TS × List Box))) : Lo := fun a s M => match Nat.beq (firstId a) k with | true => F (ts.map (lookT s)) M | false => none
def loOr (x y : Lo) : Lo := fun a s M => match x a s M with | some t => some t | none => y a s M
def zipT : List Nat → List Sv → TS
  | t :: ts, v :: vs => (t, v) :: zipT ts vs
  | _, _ => []
theorem zipT_keep (s : TS) : ∀ ts : List Nat, zipT ts (ts.map (lookT s)) = keepT ts s
  | [] => rfl
  | t :: ts => by show (t, lookT s t) :: zipT ts (ts.map (lookT s)) = (t, lookT s t) :: keepT ts s; rw [zipT_keep s ts]
section
variable {E : Env} {P : Program}
theorem loAt_ok (T : Known E P) {f n L k : Nat} {c : Orc} {lo : Lo} {a : Code} {ts : List Nat} {F : List Sv → List Box → Option (Tree (Ex × TS × List Box))} (hc : CallOK E P c) (hlo : ∀ b ∈ loopsOf a, LoopOK E P lo L b)
    (h : ∀ vs M t x, F vs M = some t → t.eval = some x → ∃ m, vloop E f c lo n L a M.length m (zipT ts vs) M = some x) : LoopOK E P (loAt k ts F) L a := by
  refine LoopOK.of_run (f := f) (c := c) (lo := lo) T.tok hc T.mo hlo (fun s M e s' M' t hl hev => ?_)
  unfold loAt at hl
  split at hl
  · obtain ⟨m, hm⟩ := h _ _ _ _ hl hev
    rw [zipT_keep] at hm
    exact ⟨n, m, ts, hm⟩
  · cases hl
theorem loAt_ne {L k : Nat} {a : Code} {ts : List Nat} {F : List Sv → List Box → Option (Tree (Ex × TS × List Box))} (h : Nat.beq (firstId a) k = false) : LoopOK E P (loAt k ts F) L a := by
  intro s M e s' M' t hl
  unfold loAt at hl
  rw [h] at hl; cases hl
theorem loOr_ok {L : Nat} {a : Code} {x y : Lo} (hx : LoopOK E P x L a) (hy : LoopOK E P y L a) : LoopOK E P (loOr x y) L a := by
  intro s M e s' M' t hl
  unfold loOr at hl
  split at hl
  · rename_i t' ht
    obtain rfl := Option.some.inj hl
    exact hx s M e s' M' t' ht
  · exact hy s M e s' M' t hl
theorem noLo_all {L : Nat} : ∀ {l : List Code}, ∀ a ∈ l, LoopOK E P noLo L a := fun a _ => noLo_ok
end
end Go.Vi
