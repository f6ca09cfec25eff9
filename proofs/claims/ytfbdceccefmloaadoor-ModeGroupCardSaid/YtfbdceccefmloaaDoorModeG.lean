import Derived.Test.YtfbdceccefmloaaDoorModeF
namespace Go.Proofs.YtfbdceccefmloaaDoor
open Go Go.Vi
set_option maxRecDepth 100000
set_option linter.unusedVariables false
def fmtS : Int → ByteArray
  | .ofNat 1 => ⟨#[73, 83]⟩ | .ofNat 2 => ⟨#[73, 88]⟩ | .ofNat 3 => ⟨#[83]⟩ | .ofNat 4 => ⟨#[83, 73, 88]⟩ | .ofNat 5 => ⟨#[88]⟩ | _ => ⟨#[]⟩
def confI : Int → List Int
  | .ofNat 1 => [5] | .ofNat 2 => [3, 4, 5] | .ofNat 3 => [2, 4, 5] | .ofNat 4 => [2, 3, 4, 5] | .ofNat 5 => [1, 2, 3, 4, 5] | _ => []
theorem e19 : ∀ a, VS 7 o18 19 [iv a] = some (rv (confI a), []) := by
  intro a; induction a using ic <;> kernel_rfl
def o19 : Orc := over o18 19 (Fi fun a => .ok (rv (confI a), []))
theorem c19 : CallOK EM Tryd.prog o19 := ok_i T c18 fun a x hx => ⟨noLo, 7, loops_no, (e19 a).trans hx⟩
theorem e20 : ∀ a, VS 7 o19 20 [iv a] = some (sv (fmtS a), []) := by
  intro a; induction a using ic <;> kernel_rfl
def o20 : Orc := over o19 20 (Fi fun a => .ok (sv (fmtS a), []))
theorem c20 : CallOK EM Tryd.prog o20 := ok_i T c19 fun a x hx => ⟨noLo, 7, loops_no, (e20 a).trans hx⟩
theorem e23 : ∀ a, VS 7 o20 23 [iv a] = some (sv (fmtS a), []) := by
  intro a; induction a using ic <;> kernel_rfl
def o23 : Orc := over o20 23 (Fi fun a => .ok (sv (fmtS a), []))
theorem c23 : CallOK EM Tryd.prog o23 := ok_i T c20 fun a x hx => ⟨noLo, 7, loops_no, (e23 a).trans hx⟩
abbrev pv (k : Int) (b : Bool) : Sv := .tup [iv k, bv b]
def parI (s : ByteArray) : Int := bif bytesEq (fmtS 1) s then 1 else bif bytesEq (fmtS 2) s then 2 else bif bytesEq (fmtS 3) s then 3 else bif bytesEq (fmtS 4) s then 4 else bif bytesEq (fmtS 5) s then 5 else 0
def parB (s : ByteArray) : Bool := bif bytesEq (fmtS 1) s then true else bif bytesEq (fmtS 2) s then true else bif bytesEq (fmtS 3) s then true else bif bytesEq (fmtS 4) s then true else bif bytesEq (fmtS 5) s then true else false
def parT (s : ByteArray) : Option (Sv × List Box) := tst (bytesEq (fmtS 1) s) (some (pv 1 true, [])) (tst (bytesEq (fmtS 2) s) (some (pv 2 true, [])) (tst (bytesEq (fmtS 3) s) (some (pv 3 true, [])) (tst (bytesEq (fmtS 4) s) (some (pv 4 true, [])) (tst (bytesEq (fmtS 5) s) (some (pv 5 true, [])) (some (pv 0 false, []))))))
theorem parT_is (s : ByteArray) : parT s = some (pv (parI s) (parB s), []) := by
  unfold parT parI parB
  generalize bytesEq (fmtS 1) s = b1
  generalize bytesEq (fmtS 2) s = b2
  generalize bytesEq (fmtS 3) s = b3
  generalize bytesEq (fmtS 4) s = b4
  generalize bytesEq (fmtS 5) s = b5
  cases b1 <;> cases b2 <;> cases b3 <;> cases b4 <;> cases b5 <;> rfl
theorem e21 (s : ByteArray) : VS 7 o23 21 [sv s] = some (pv (parI s) (parB s), []) := (show VS 7 o23 21 [sv s] = parT s by kernel_rfl).trans (parT_is s)
def o21 : Orc := over o23 21 (Fs fun s => .ok (pv (parI s) (parB s), []))
theorem c21 : CallOK EM Tryd.prog o21 := ok_s T c23 fun a x hx => ⟨noLo, 7, loops_no, (e21 a).trans hx⟩
theorem e22 (s : ByteArray) : VS 7 o21 22 [sv s] = some (pv (parI s) (parB s), []) := (show VS 7 o21 22 [sv s] = parT s by kernel_rfl).trans (parT_is s)
def o22 : Orc := over o21 22 (Fs fun s => .ok (pv (parI s) (parB s), []))
theorem c22 : CallOK EM Tryd.prog o22 := ok_s T c21 fun a x hx => ⟨noLo, 7, loops_no, (e22 a).trans hx⟩
theorem e10 : VS 7 o22 10 [] = some (bv true, []) := by kernel_rfl
def o10 : Orc := over o22 10 (F0 (.ok (bv true, [])))
theorem c10 : CallOK EM Tryd.prog o10 := ok_0 T c22 fun x hx => ⟨noLo, 7, loops_no, e10.trans hx⟩
theorem e3 : ∀ a b, VS 7 o10 3 [iv a, iv b] = some (bv true, []) := by
  intro a b; induction a using ic <;> induction b using ic <;> kernel_rfl
end Go.Proofs.YtfbdceccefmloaaDoor
