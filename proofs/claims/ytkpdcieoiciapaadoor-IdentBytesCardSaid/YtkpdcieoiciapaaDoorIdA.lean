/- The numbers of processes and stamps: what the plain functions come to. -/
import Derived.Test.YtkpdcieoiciapaaDoorVi26
import Derived.Test.YtkpdcieoiciapaaDoorE
namespace Go.Proofs.YtkpdcieoiciapaaDoor
open Go Go.Vi Go.IntWalk
set_option maxRecDepth 100000
set_option linter.unusedVariables false
set_option linter.unusedSimpArgs false
noncomputable section

abbrev pv (a b c : Int) : Sv := .agg [.v (.int .i64 a), .v (.int .i64 b), .v (.int .i64 c)]
abbrev tv (a b : Int) : Sv := .agg [.v (.int .i64 a), .v (.int .i64 b)]
def mValidProc (a b c : Int) : Bool := decide (a ≥ 0) && decide (a < 4) && decide (b ≥ 1) && decide (b ≤ 99) && decide (c ≥ 1) && decide (c ≤ 999)
def mValidStamp (a b : Int) : Bool := decide (a ≥ 0) && decide (a ≤ 1073741824) && decide (b ≥ 0) && decide (b < 4)
def mNext (a : Int) : Int := bif decide (a < 0) then 1 else bif decide (a ≥ 1073741824) then 1 else IntKind.wrap .i64 (a + 1)
def mOrder (a b : Int) : Int := bif decide (a < b) then -1 else bif decide (a > b) then 1 else 0
def mOrder3 (a b c d e f : Int) : Int := bif decide (a < d) then -1 else bif decide (a > d) then 1 else bif decide (b < e) then -1 else bif decide (b > e) then 1 else bif decide (c < f) then -1 else bif decide (c > f) then 1 else 0
theorem p15 (a b c : Int) : vstep EL Tryd.prog noLo 0 noOrc 15 [pv a b c] [] =
tst (decide (a ≥ 0))
  (tst (bif true then decide (a < 4) else false)
    (tst (bif true then decide (b ≥ 1) else false)
      (tst (bif true then decide (b ≤ 99) else false)
        (tst (bif true then decide (c ≥ 1) else false)
          (some (Sv.one (At.v (Value.bool (bif true then decide (c ≤ 999) else false))), []))
          (some (Sv.one (At.v (Value.bool false)), [])))
        (some (Sv.one (At.v (Value.bool false)), [])))
      (some (Sv.one (At.v (Value.bool false)), [])))
    (some (Sv.one (At.v (Value.bool false)), [])))
  (some (Sv.one (At.v (Value.bool false)), [])) := by kernel_rfl
theorem e15 (a b c : Int) : vstep EL Tryd.prog noLo 0 noOrc 15 [pv a b c] [] = some (bv (mValidProc a b c), []) := by
  rw [p15]; unfold mValidProc
  cases (decide (a ≥ 0)) <;> first | rfl | (cases (decide (a < 4)) <;> first | rfl | (cases (decide (b ≥ 1)) <;> first | rfl | (cases (decide (b ≤ 99)) <;> first | rfl | (cases (decide (c ≥ 1)) <;> first | rfl | (cases (decide (c ≤ 999)) <;> first | rfl | (rfl))))))
def F15 (a : List Sv) (M : List Box) : Tr := match a, M with
  | [.agg [.v (.int .i64 a), .v (.int .i64 b), .v (.int .i64 c)]], [] => (.ok (bv (mValidProc a b c), []))
  | _, _ => .no
def o15 : Orc := over noOrc 15 F15
theorem c15 : CallOK EL Tryd.prog o15 := over_ok T.tok T.mo T.ng noOrc_ok fun args M x hx => by
  unfold F15 at hx
  split at hx
  · rename_i a b c
    exact ⟨noLo, 0, loops_no, (e15 a b c).trans hx⟩
  · cases hx
theorem p16 (a b c : Int) : vstep EL Tryd.prog noLo 0 o15 16 [pv a b c] [] =
tst (decide (a ≥ 0))
  (tst (bif true then decide (a < 4) else false)
    (tst (bif true then decide (b ≥ 1) else false)
      (tst (bif true then decide (b ≤ 99) else false)
        (tst (bif true then decide (c ≥ 1) else false)
          (some (Sv.one (At.v (Value.bool (bif true then decide (c ≤ 999) else false))), []))
          (some (Sv.one (At.v (Value.bool false)), [])))
        (some (Sv.one (At.v (Value.bool false)), [])))
      (some (Sv.one (At.v (Value.bool false)), [])))
    (some (Sv.one (At.v (Value.bool false)), [])))
  (some (Sv.one (At.v (Value.bool false)), [])) := by kernel_rfl
theorem e16 (a b c : Int) : vstep EL Tryd.prog noLo 0 o15 16 [pv a b c] [] = some (bv (mValidProc a b c), []) := by
  rw [p16]; unfold mValidProc
  cases (decide (a ≥ 0)) <;> first | rfl | (cases (decide (a < 4)) <;> first | rfl | (cases (decide (b ≥ 1)) <;> first | rfl | (cases (decide (b ≤ 99)) <;> first | rfl | (cases (decide (c ≥ 1)) <;> first | rfl | (cases (decide (c ≤ 999)) <;> first | rfl | (rfl))))))
def F16 (a : List Sv) (M : List Box) : Tr := match a, M with
  | [.agg [.v (.int .i64 a), .v (.int .i64 b), .v (.int .i64 c)]], [] => (.ok (bv (mValidProc a b c), []))
  | _, _ => .no
def o16 : Orc := over o15 16 F16
theorem c16 : CallOK EL Tryd.prog o16 := over_ok T.tok T.mo T.ng c15 fun args M x hx => by
  unfold F16 at hx
  split at hx
  · rename_i a b c
    exact ⟨noLo, 0, loops_no, (e16 a b c).trans hx⟩
  · cases hx
theorem p17 (a b : Int) : vstep EL Tryd.prog noLo 0 o16 17 [tv a b] [] =
tst (decide (a ≥ 0))
  (tst (bif true then decide (a ≤ 1073741824) else false)
    (tst (bif true then decide (b ≥ 0) else false)
      (some (Sv.one (At.v (Value.bool (bif true then decide (b < 4) else false))), []))
      (some (Sv.one (At.v (Value.bool false)), [])))
    (some (Sv.one (At.v (Value.bool false)), [])))
  (some (Sv.one (At.v (Value.bool false)), [])) := by kernel_rfl
theorem e17 (a b : Int) : vstep EL Tryd.prog noLo 0 o16 17 [tv a b] [] = some (bv (mValidStamp a b), []) := by
  rw [p17]; unfold mValidStamp
  cases (decide (a ≥ 0)) <;> first | rfl | (cases (decide (a ≤ 1073741824)) <;> first | rfl | (cases (decide (b ≥ 0)) <;> first | rfl | (cases (decide (b < 4)) <;> first | rfl | (rfl))))
def F17 (a : List Sv) (M : List Box) : Tr := match a, M with
  | [.agg [.v (.int .i64 a), .v (.int .i64 b)]], [] => (.ok (bv (mValidStamp a b), []))
  | _, _ => .no
def o17 : Orc := over o16 17 F17
theorem c17 : CallOK EL Tryd.prog o17 := over_ok T.tok T.mo T.ng c16 fun args M x hx => by
  unfold F17 at hx
  split at hx
  · rename_i a b
    exact ⟨noLo, 0, loops_no, (e17 a b).trans hx⟩
  · cases hx
theorem p18 (a b : Int) : vstep EL Tryd.prog noLo 0 o17 18 [tv a b] [] =
tst (decide (a ≥ 0))
  (tst (bif true then decide (a ≤ 1073741824) else false)
    (tst (bif true then decide (b ≥ 0) else false)
      (some (Sv.one (At.v (Value.bool (bif true then decide (b < 4) else false))), []))
      (some (Sv.one (At.v (Value.bool false)), [])))
    (some (Sv.one (At.v (Value.bool false)), [])))
  (some (Sv.one (At.v (Value.bool false)), [])) := by kernel_rfl
theorem e18 (a b : Int) : vstep EL Tryd.prog noLo 0 o17 18 [tv a b] [] = some (bv (mValidStamp a b), []) := by
  rw [p18]; unfold mValidStamp
  cases (decide (a ≥ 0)) <;> first | rfl | (cases (decide (a ≤ 1073741824)) <;> first | rfl | (cases (decide (b ≥ 0)) <;> first | rfl | (cases (decide (b < 4)) <;> first | rfl | (rfl))))
def F18 (a : List Sv) (M : List Box) : Tr := match a, M with
  | [.agg [.v (.int .i64 a), .v (.int .i64 b)]], [] => (.ok (bv (mValidStamp a b), []))
  | _, _ => .no
def o18 : Orc := over o17 18 F18
theorem c18 : CallOK EL Tryd.prog o18 := over_ok T.tok T.mo T.ng c17 fun args M x hx => by
  unfold F18 at hx
  split at hx
  · rename_i a b
    exact ⟨noLo, 0, loops_no, (e18 a b).trans hx⟩
  · cases hx
theorem p24 (a : Int) : vstep EL Tryd.prog noLo 0 o18 24 [iv a] [] =
tst (decide (a < 0)) (some (Sv.one (At.v (Value.int IntKind.i64 1)), []))
  (tst (bif false then true else decide (a ≥ 1073741824)) (some (Sv.one (At.v (Value.int IntKind.i64 1)), []))
    (some (Sv.one (At.v (Value.int IntKind.i64 (IntKind.wrap .i64 (a + 1)))), []))) := by kernel_rfl
theorem e24 (a : Int) : vstep EL Tryd.prog noLo 0 o18 24 [iv a] [] = some (iv (mNext a), []) := by
  rw [p24]; unfold mNext
  cases (decide (a < 0)) <;> first | rfl | (cases (decide (a ≥ 1073741824)) <;> first | rfl | (rfl))
def F24 (a : List Sv) (M : List Box) : Tr := match a, M with
  | [.one (.v (.int .i64 a))], [] => (.ok (iv (mNext a), []))
  | _, _ => .no
def o24 : Orc := over o18 24 F24
theorem c24 : CallOK EL Tryd.prog o24 := over_ok T.tok T.mo T.ng c18 fun args M x hx => by
  unfold F24 at hx
  split at hx
  · rename_i a
    exact ⟨noLo, 0, loops_no, (e24 a).trans hx⟩
  · cases hx
theorem p25 (a : Int) : vstep EL Tryd.prog noLo 0 o24 25 [iv a] [] =
tst (decide (a < 0)) (some (Sv.one (At.v (Value.int IntKind.i64 1)), []))
  (tst (bif false then true else decide (a ≥ 1073741824)) (some (Sv.one (At.v (Value.int IntKind.i64 1)), []))
    (some (Sv.one (At.v (Value.int IntKind.i64 (IntKind.wrap .i64 (a + 1)))), []))) := by kernel_rfl
theorem e25 (a : Int) : vstep EL Tryd.prog noLo 0 o24 25 [iv a] [] = some (iv (mNext a), []) := by
  rw [p25]; unfold mNext
  cases (decide (a < 0)) <;> first | rfl | (cases (decide (a ≥ 1073741824)) <;> first | rfl | (rfl))
def F25 (a : List Sv) (M : List Box) : Tr := match a, M with
  | [.one (.v (.int .i64 a))], [] => (.ok (iv (mNext a), []))
  | _, _ => .no
def o25 : Orc := over o24 25 F25
theorem c25 : CallOK EL Tryd.prog o25 := over_ok T.tok T.mo T.ng c24 fun args M x hx => by
  unfold F25 at hx
  split at hx
  · rename_i a
    exact ⟨noLo, 0, loops_no, (e25 a).trans hx⟩
  · cases hx
theorem p47 (a b : Int) : vstep EL Tryd.prog noLo 0 o25 47 [iv a, iv b] [] =
tst (decide (a < b)) (some (Sv.one (At.v (Value.int IntKind.i64 (-1))), []))
  (tst (decide (a > b)) (some (Sv.one (At.v (Value.int IntKind.i64 1)), []))
    (some (Sv.one (At.v (Value.int IntKind.i64 0)), []))) := by kernel_rfl
theorem e47 (a b : Int) : vstep EL Tryd.prog noLo 0 o25 47 [iv a, iv b] [] = some (iv (mOrder a b), []) := by
  rw [p47]; unfold mOrder
  cases (decide (a < b)) <;> first | rfl | (cases (decide (a > b)) <;> first | rfl | (rfl))
def F47 (a : List Sv) (M : List Box) : Tr := match a, M with
  | [.one (.v (.int .i64 a)), .one (.v (.int .i64 b))], [] => (.ok (iv (mOrder a b), []))
  | _, _ => .no
def o47 : Orc := over o25 47 F47
theorem c47 : CallOK EL Tryd.prog o47 := over_ok T.tok T.mo T.ng c25 fun args M x hx => by
  unfold F47 at hx
  split at hx
  · rename_i a b
    exact ⟨noLo, 0, loops_no, (e47 a b).trans hx⟩
  · cases hx
theorem p40 (a b c : Int) : vstep EL Tryd.prog noLo 0 o47 40 [pv a b c] [] =
some (Sv.agg [At.v (Value.int IntKind.i64 a), At.v (Value.int IntKind.i64 b), At.v (Value.int IntKind.i64 c)], []) := by kernel_rfl
theorem e40 (a b c : Int) : vstep EL Tryd.prog noLo 0 o47 40 [pv a b c] [] = some (pv a b c, []) := by
  rw [p40]
  first | done | rfl
def F40 (a : List Sv) (M : List Box) : Tr := match a, M with
  | [.agg [.v (.int .i64 a), .v (.int .i64 b), .v (.int .i64 c)]], [] => (.ok (pv a b c, []))
  | _, _ => .no
def o40 : Orc := over o47 40 F40
theorem c40 : CallOK EL Tryd.prog o40 := over_ok T.tok T.mo T.ng c47 fun args M x hx => by
  unfold F40 at hx
  split at hx
  · rename_i a b c
    exact ⟨noLo, 0, loops_no, (e40 a b c).trans hx⟩
  · cases hx
theorem p39 (a b c d e f : Int) : vstep EL Tryd.prog noLo 5 o40 39 [pv a b c, pv d e f] [] =
tst (decide (a < d)) (some (Sv.one (At.v (Value.int IntKind.i64 (-1))), []))
  (tst (decide (a > d)) (some (Sv.one (At.v (Value.int IntKind.i64 1)), []))
    (tst (decide (b < e)) (some (Sv.one (At.v (Value.int IntKind.i64 (-1))), []))
      (tst (decide (b > e)) (some (Sv.one (At.v (Value.int IntKind.i64 1)), []))
        (tst (decide (c < f)) (some (Sv.one (At.v (Value.int IntKind.i64 (-1))), []))
          (tst (decide (c > f)) (some (Sv.one (At.v (Value.int IntKind.i64 1)), []))
            (some (Sv.one (At.v (Value.int IntKind.i64 0)), []))))))) := by kernel_rfl
theorem e39 (a b c d e f : Int) : vstep EL Tryd.prog noLo 5 o40 39 [pv a b c, pv d e f] [] = some (iv (mOrder3 a b c d e f), []) := by
  rw [p39]; unfold mOrder3
  cases (decide (a < d)) <;> first | rfl | (cases (decide (a > d)) <;> first | rfl | (cases (decide (b < e)) <;> first | rfl | (cases (decide (b > e)) <;> first | rfl | (cases (decide (c < f)) <;> first | rfl | (cases (decide (c > f)) <;> first | rfl | (rfl))))))
end
end Go.Proofs.YtkpdcieoiciapaaDoor
