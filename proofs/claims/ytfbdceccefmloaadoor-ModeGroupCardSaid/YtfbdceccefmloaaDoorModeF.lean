import Derived.Test.YtfbdceccefmloaaDoorModeE
namespace Go.Proofs.YtfbdceccefmloaaDoor
open Go Go.Vi
set_option maxRecDepth 100000
set_option linter.unusedVariables false
theorem T : Known EM Tryd.prog := ⟨tok, mo, ng⟩
theorem ic {p : Int → Prop} (hn : ∀ k, p (.negSucc k)) (h0 : p 0) (h1 : p 1) (h2 : p 2) (h3 : p 3) (h4 : p 4) (h5 : p 5) (h6 : ∀ k, p (.ofNat (k + 6))) : ∀ a, p a
  | .negSucc k => hn k
  | .ofNat 0 => h0
  | .ofNat 1 => h1
  | .ofNat 2 => h2
  | .ofNat 3 => h3
  | .ofNat 4 => h4
  | .ofNat 5 => h5
  | .ofNat (k + 6) => h6 k
def cls : Int → Nat
  | .ofNat 1 => 1 | .ofNat 2 => 2 | .ofNat 3 => 3 | .ofNat 4 => 4 | .ofNat 5 => 5 | _ => 0
def covT : List Bool := [false, false, false, false, false, false, false, true, false, false, false, false, false, true, true, false, false, false, false, true, false, true, false, false, false, true, true, true, true, false, false, true, true, true, true, true]
def supT : List Int := [0, 0, 0, 0, 0, 0, 0, 1, 2, 3, 4, 5, 0, 2, 2, 4, 4, 5, 0, 3, 4, 3, 4, 5, 0, 4, 4, 4, 4, 5, 0, 5, 5, 5, 5, 5]
def validB (a : Int) : Bool := match cls a with | 0 => false | _ => true
def compB (a b : Int) : Bool := tbl.getD (cls a * 6 + cls b) false
def covB (a b : Int) : Bool := covT.getD (cls a * 6 + cls b) false
def supI (a b : Int) : Int := supT.getD (cls a * 6 + cls b) 0
def rightsI : Int → Int | .ofNat 1 => 2 | .ofNat 2 => 6 | .ofNat 3 => 10 | .ofNat 4 => 30 | .ofNat 5 => 62 | _ => 0
noncomputable abbrev VS (n : Nat) (c : Orc) (g : Nat) (args : List Sv) := vstep EM Tryd.prog noLo n c g args []
theorem valid_is : ∀ a : Int, (decide (a ≥ 1) && decide (a ≤ 5)) = validB a
  | .negSucc k => rfl
  | .ofNat 0 => rfl
  | .ofNat 1 => rfl
  | .ofNat 2 => rfl
  | .ofNat 3 => rfl
  | .ofNat 4 => rfl
  | .ofNat 5 => rfl
  | .ofNat (k + 6) => by
    have h : ¬ (Int.ofNat (k + 6) ≤ 5) := by simp; omega
    rw [decide_eq_false h, Bool.and_false]; rfl
theorem p11 (a : Int) : VS 1 noOrc 11 [iv a] = tst (decide (a ≥ 1)) (some (Sv.one (At.v (Value.bool (bif true then decide (a ≤ 5) else false))), [])) (some (Sv.one (At.v (Value.bool false)), [])) := by kernel_rfl
theorem e11 (a : Int) : VS 1 noOrc 11 [iv a] = some (bv (validB a), []) := by
  rw [p11, ← valid_is]; cases decide (a ≥ 1) <;> rfl
def o11 : Orc := over noOrc 11 (Fi fun a => .ok (bv (validB a), []))
theorem p12 (a : Int) : VS 1 o11 12 [iv a] = tst (decide (a ≥ 1)) (some (Sv.one (At.v (Value.bool (bif true then decide (a ≤ 5) else false))), [])) (some (Sv.one (At.v (Value.bool false)), [])) := by kernel_rfl
theorem e12 (a : Int) : VS 1 o11 12 [iv a] = some (bv (validB a), []) := by
  rw [p12, ← valid_is]; cases decide (a ≥ 1) <;> rfl
def o12 : Orc := over o11 12 (Fi fun a => .ok (bv (validB a), []))
theorem c11 : CallOK EM Tryd.prog o11 := ok_i T noOrc_ok fun a x hx => ⟨noLo, 1, loops_no, (e11 a).trans hx⟩
theorem c12 : CallOK EM Tryd.prog o12 := ok_i T c11 fun a x hx => ⟨noLo, 1, loops_no, (e12 a).trans hx⟩
theorem e13 : ∀ a b, VS 1 o12 13 [iv a, iv b] = some (bv (compB a b), []) := by
  intro a b; induction a using ic <;> induction b using ic <;> kernel_rfl
def o13 : Orc := over o12 13 (Fii fun a b => .ok (bv (compB a b), []))
theorem c13 : CallOK EM Tryd.prog o13 := ok_ii T c12 fun a b x hx => ⟨noLo, 1, loops_no, (e13 a b).trans hx⟩
theorem e14 : ∀ a b, VS 1 o13 14 [iv a, iv b] = some (bv (compB a b), []) := by
  intro a b; induction a using ic <;> induction b using ic <;> kernel_rfl
def o14 : Orc := over o13 14 (Fii fun a b => .ok (bv (compB a b), []))
theorem c14 : CallOK EM Tryd.prog o14 := ok_ii T c13 fun a b x hx => ⟨noLo, 1, loops_no, (e14 a b).trans hx⟩
theorem e26 : ∀ a, VS 1 o14 26 [iv a] = some (iv (rightsI a), []) := by
  intro a; induction a using ic <;> kernel_rfl
def o26 : Orc := over o14 26 (Fi fun a => .ok (iv (rightsI a), []))
theorem c26 : CallOK EM Tryd.prog o26 := ok_i T c14 fun a x hx => ⟨noLo, 1, loops_no, (e26 a).trans hx⟩
theorem e15 : ∀ a b, VS 1 o26 15 [iv a, iv b] = some (bv (covB a b), []) := by
  intro a b; induction a using ic <;> induction b using ic <;> kernel_rfl
def o15 : Orc := over o26 15 (Fii fun a b => .ok (bv (covB a b), []))
theorem c15 : CallOK EM Tryd.prog o15 := ok_ii T c26 fun a b x hx => ⟨noLo, 1, loops_no, (e15 a b).trans hx⟩
theorem e16 : ∀ a b, VS 1 o15 16 [iv a, iv b] = some (bv (covB a b), []) := by
  intro a b; induction a using ic <;> induction b using ic <;> kernel_rfl
def o16 : Orc := over o15 16 (Fii fun a b => .ok (bv (covB a b), []))
theorem c16 : CallOK EM Tryd.prog o16 := ok_ii T c15 fun a b x hx => ⟨noLo, 1, loops_no, (e16 a b).trans hx⟩
theorem e17 : ∀ a b, VS 7 o16 17 [iv a, iv b] = some (iv (supI a b), []) := by
  intro a b; induction a using ic <;> induction b using ic <;> kernel_rfl
def o17 : Orc := over o16 17 (Fii fun a b => .ok (iv (supI a b), []))
theorem c17 : CallOK EM Tryd.prog o17 := ok_ii T c16 fun a b x hx => ⟨noLo, 7, loops_no, (e17 a b).trans hx⟩
theorem e18 : ∀ a b, VS 7 o17 18 [iv a, iv b] = some (iv (supI a b), []) := by
  intro a b; induction a using ic <;> induction b using ic <;> kernel_rfl
def o18 : Orc := over o17 18 (Fii fun a b => .ok (iv (supI a b), []))
theorem c18 : CallOK EM Tryd.prog o18 := ok_ii T c17 fun a b x hx => ⟨noLo, 7, loops_no, (e18 a b).trans hx⟩
end Go.Proofs.YtfbdceccefmloaaDoor
