import Derived.Test.YtfbdceccefmloabLexE
namespace Go.Proofs.Ytfbdceccefmloab
open Go Go.Vi Go.IntWalk
set_option maxRecDepth 100000
set_option linter.unusedVariables false
set_option linter.unusedSimpArgs false
noncomputable abbrev VS (n : Nat) (c : Orc) (g : Nat) (args : List Sv) := vstep EL Try.prog noLo n c g args []
def spaceB (c : Int) : Bool := c == 9 || c == 10 || c == 13 || c == 32
def smallB (c : Int) : Bool := decide (c ≥ 97) && decide (c ≤ 122)
def capB (c : Int) : Bool := decide (c ≥ 65) && decide (c ≤ 90)
def digB (c : Int) : Bool := decide (c ≥ 48) && decide (c ≤ 57)
def innerB (c : Int) : Bool := smallB c || digB c || c == 95 || c == 45
def punB (c : Int) : Bool := c == 40 || c == 41 || c == 44 || c == 58 || c == 42
/-- The end of the longest run from p on. -/
def runEnd (pr : Int → Bool) (b : ByteArray) : Nat → Nat → Nat
  | 0, p => p
  | k + 1, p => match pr (byteAt b p) with | true => runEnd pr b k (p + 1) | false => p
def runTo (pr : Int → Bool) (b : ByteArray) (p : Int) : Int := (runEnd pr b (b.size - p.toNat) p.toNat : Nat)
abbrev scn (b : ByteArray) (p : Int) (es : List (List At)) : List Box := [.var [.v (.string b), .v (.int .i64 p), .own 1 0], .row 29 0 false true 4 es]
abbrev S15 (f : Nat) (q : Int) : TS := [(0, .one (.ptr 0 0 0 0)), (5, iv q), (1, .one (.fn f []))]
abbrev X15 (q : Int) : TS := [(4, .one .bad), (0, .one (.ptr 0 0 0 0)), (5, iv q)]
abbrev maxI : Nat := 9223372036854775807
def lo15 (f : Nat) (pr : Int → Bool) : Lo := fun a s M => match Nat.beq (firstId a) 2, lookT s 0, lookT s 1, lookT s 5, M with
  | true, .one (.ptr 0 0 0 0), .one (.fn g []), .one (.v (.int .i64 q)), [.var [.v (.string b), .v (.int .i64 p), .own 1 0], .row 29 0 false true 4 es] =>
    some (.br (Nat.beq g f && decide (0 ≤ p) && decide (p ≤ b.size) && decide (b.size ≤ maxI)) (.ok (.exit 0, X15 q, scn b (runTo pr b p) es)) .no)
  | _, _, _, _, _ => none
/-- What the first 25 bytes' digits come to. -/
def numOf (s : ByteArray) : Nat → Nat → Int → Int
  | 0, _, v => v
  | k + 1, i, v => numOf s k (i + 1) (IntKind.wrap .i64 (IntKind.wrap .i64 (10 * v) + IntKind.wrap .i64 (IntKind.wrap .u8 (byteAt s i - 48))))
def numB (s : ByteArray) : Bool := !(decide ((s.size : Int) > 4) || (decide ((s.size : Int) > 1) && byteAt s 0 == 48))
def numI (s : ByteArray) : Int := match numB s with | true => numOf s s.size 0 0 | false => 0
abbrev S25 (s : ByteArray) (v k i : Int) : TS := [(21, iv i), (0, sv s), (4, iv v), (20, iv k)]
abbrev X25 (v : Int) : TS := [(2, .one .bad), (3, .one .bad), (4, iv v)]
def lo25 : Lo := fun a s M => match Nat.beq (firstId a) 5, lookT s 0, lookT s 4, lookT s 20, lookT s 21, M with
  | true, .one (.v (.string t)), .one (.v (.int .i64 v)), .one (.v (.int .i64 k)), .one (.v (.int .i64 i)), [] =>
    some (.br (i == 0 && k == t.size && decide (t.size ≤ maxI)) (.ok (.exit 0, X25 (numOf t t.size 0 v), [])) .no)
  | _, _, _, _, _, _ => none
theorem p12 (a : Int) : VS 1 noOrc 6 [uv a] =
tst (a == 9) (some (Sv.one (At.v (Value.bool true)), []))
  (tst (bif false then true else a == 10) (some (Sv.one (At.v (Value.bool true)), []))
    (tst (bif false then true else a == 13) (some (Sv.one (At.v (Value.bool true)), []))
      (some (Sv.one (At.v (Value.bool (bif false then true else a == 32))), [])))) := by kernel_rfl
theorem e12 (a : Int) : VS 1 noOrc 6 [uv a] = some (bv (spaceB a), []) := by
  rw [p12]; unfold spaceB
  generalize (a == 9) = b0
  generalize (a == 10) = b1
  generalize (a == 13) = b2
  generalize (a == 32) = b3
  cases b0 <;> cases b1 <;> cases b2 <;> cases b3 <;> rfl
def o12 : Orc := over noOrc 6 (Fu fun a => .ok (bv (spaceB a), []))
theorem c12 : CallOK EL Try.prog o12 := ok_u T noOrc_ok fun a x hx => ⟨noLo, 1, loops_no, (e12 a).trans hx⟩
theorem p20 (a : Int) : VS 1 o12 9 [uv a] =
tst (decide (a ≥ 97)) (some (Sv.one (At.v (Value.bool (bif true then decide (a ≤ 122) else false))), []))
  (some (Sv.one (At.v (Value.bool false)), [])) := by kernel_rfl
theorem e20 (a : Int) : VS 1 o12 9 [uv a] = some (bv (smallB a), []) := by
  rw [p20]; unfold smallB
  generalize (decide (a ≥ 97)) = b0
  generalize (decide (a ≤ 122)) = b1
  cases b0 <;> cases b1 <;> rfl
def o20 : Orc := over o12 9 (Fu fun a => .ok (bv (smallB a), []))
theorem c20 : CallOK EL Try.prog o20 := ok_u T c12 fun a x hx => ⟨noLo, 1, loops_no, (e20 a).trans hx⟩
theorem p22 (a : Int) : VS 1 o20 11 [uv a] =
tst (decide (a ≥ 65)) (some (Sv.one (At.v (Value.bool (bif true then decide (a ≤ 90) else false))), []))
  (some (Sv.one (At.v (Value.bool false)), [])) := by kernel_rfl
theorem e22 (a : Int) : VS 1 o20 11 [uv a] = some (bv (capB a), []) := by
  rw [p22]; unfold capB
  generalize (decide (a ≥ 65)) = b0
  generalize (decide (a ≤ 90)) = b1
  cases b0 <;> cases b1 <;> rfl
def o22 : Orc := over o20 11 (Fu fun a => .ok (bv (capB a), []))
theorem c22 : CallOK EL Try.prog o22 := ok_u T c20 fun a x hx => ⟨noLo, 1, loops_no, (e22 a).trans hx⟩
theorem p24 (a : Int) : VS 1 o22 13 [uv a] =
tst (decide (a ≥ 48)) (some (Sv.one (At.v (Value.bool (bif true then decide (a ≤ 57) else false))), []))
  (some (Sv.one (At.v (Value.bool false)), [])) := by kernel_rfl
theorem e24 (a : Int) : VS 1 o22 13 [uv a] = some (bv (digB a), []) := by
  rw [p24]; unfold digB
  generalize (decide (a ≥ 48)) = b0
  generalize (decide (a ≤ 57)) = b1
  cases b0 <;> cases b1 <;> rfl
def o24 : Orc := over o22 13 (Fu fun a => .ok (bv (digB a), []))
theorem c24 : CallOK EL Try.prog o24 := ok_u T c22 fun a x hx => ⟨noLo, 1, loops_no, (e24 a).trans hx⟩
theorem p21 (a : Int) : VS 1 o24 10 [uv a] =
tst (smallB a) (some (Sv.one (At.v (Value.bool true)), []))
  (tst (bif false then true else digB a) (some (Sv.one (At.v (Value.bool true)), []))
    (tst (bif false then true else a == 95) (some (Sv.one (At.v (Value.bool true)), []))
      (some (Sv.one (At.v (Value.bool (bif false then true else a == 45))), [])))) := by kernel_rfl
theorem e21 (a : Int) : VS 1 o24 10 [uv a] = some (bv (innerB a), []) := by
  rw [p21]; unfold innerB
  generalize (smallB a) = b0
  generalize (digB a) = b1
  generalize (a == 95) = b2
  generalize (a == 45) = b3
  cases b0 <;> cases b1 <;> cases b2 <;> cases b3 <;> rfl
def o21 : Orc := over o24 10 (Fu fun a => .ok (bv (innerB a), []))
theorem c21 : CallOK EL Try.prog o21 := ok_u T c24 fun a x hx => ⟨noLo, 1, loops_no, (e21 a).trans hx⟩
theorem p26 (a : Int) : VS 1 o21 15 [uv a] =
tst (a == 40) (some (Sv.one (At.v (Value.bool true)), []))
  (tst (bif false then true else a == 41) (some (Sv.one (At.v (Value.bool true)), []))
    (tst (bif false then true else a == 44) (some (Sv.one (At.v (Value.bool true)), []))
      (tst (bif false then true else a == 58) (some (Sv.one (At.v (Value.bool true)), []))
        (some (Sv.one (At.v (Value.bool (bif false then true else a == 42))), []))))) := by kernel_rfl
theorem e26 (a : Int) : VS 1 o21 15 [uv a] = some (bv (punB a), []) := by
  rw [p26]; unfold punB
  generalize (a == 40) = b0
  generalize (a == 41) = b1
  generalize (a == 44) = b2
  generalize (a == 58) = b3
  generalize (a == 42) = b4
  cases b0 <;> cases b1 <;> cases b2 <;> cases b3 <;> cases b4 <;> rfl
def o26 : Orc := over o21 15 (Fu fun a => .ok (bv (punB a), []))
theorem c26 : CallOK EL Try.prog o26 := ok_u T c21 fun a x hx => ⟨noLo, 1, loops_no, (e26 a).trans hx⟩
/-! ### the longest run -/
noncomputable abbrev L15 : Code := lcode Try.prog 7 2
noncomputable abbrev VR (f : Nat) (b : ByteArray) (es : List (List At)) (m : Nat) (p q : Int) := vround EL 7 o26 noLo 0 50 L15 2 m (S15 f q) (scn b p es)
noncomputable def R15 (f : Nat) (pr : Int → Bool) (b : ByteArray) (es : List (List At)) (m : Nat) (p q : Int) : Option (Ex × TS × List Box) :=
tst (decide (p < (↑b.size : Int)))
  (chk (decide (0 ≤ p))
    (chk (decide (p < (↑b.size : Int)))
      (tst (bif true then pr (byteAt b p.toNat) else false)
        (vloop EL 7 o26 noLo 0 50 L15 2 m
          [(0, Sv.one (At.ptr 0 0 0 0)), (5, Sv.one (At.v (Value.int IntKind.i64 q))), (1, Sv.one (At.fn f []))]
          [Box.var [At.v (Value.string b), At.v (Value.int IntKind.i64 (IntKind.wrap .i64 (p + 1))), At.own 1 0],
            Box.row 29 0 false true 4 es])
        (some
          (Ex.exit 0, [(4, Sv.one At.bad), (0, Sv.one (At.ptr 0 0 0 0)), (5, Sv.one (At.v (Value.int IntKind.i64 q)))],
            [Box.var [At.v (Value.string b), At.v (Value.int IntKind.i64 p), At.own 1 0],
              Box.row 29 0 false true 4 es])))))
  (some
    (Ex.exit 0, [(4, Sv.one At.bad), (0, Sv.one (At.ptr 0 0 0 0)), (5, Sv.one (At.v (Value.int IntKind.i64 q)))],
      [Box.var [At.v (Value.string b), At.v (Value.int IntKind.i64 p), At.own 1 0], Box.row 29 0 false true 4 es]))
theorem r15_12 (b : ByteArray) (es : List (List At)) (m : Nat) (p q : Int) : VR 6 b es m p q = R15 6 spaceB b es m p q := by kernel_rfl
theorem r15_21 (b : ByteArray) (es : List (List At)) (m : Nat) (p q : Int) : VR 10 b es m p q = R15 10 innerB b es m p q := by kernel_rfl
theorem r15_22 (b : ByteArray) (es : List (List At)) (m : Nat) (p q : Int) : VR 11 b es m p q = R15 11 capB b es m p q := by kernel_rfl
theorem r15_24 (b : ByteArray) (es : List (List At)) (m : Nat) (p q : Int) : VR 13 b es m p q = R15 13 digB b es m p q := by kernel_rfl
theorem l15 {f : Nat} {pr : Int → Bool} {b : ByteArray} {es : List (List At)} (hr : ∀ m p q, VR f b es m p q = R15 f pr b es m p q) (hb : b.size ≤ maxI) : ∀ (k i : Nat) (m : Nat) (q : Int), i + k = b.size → k < m →
    vloop EL 7 o26 noLo 0 50 L15 2 m (S15 f q) (scn b i es) = some (.exit 0, X15 q, scn b (runEnd pr b k i) es)
  | 0, i, m + 1, q, hi, hm => by
    rw [vloop_succ]
    refine (hr m i q).trans ?_
    unfold R15
    rw [tst_f (decide_eq_false (by omega))]; rfl
  | k + 1, i, m + 1, q, hi, hm => by
    rw [vloop_succ]
    refine (hr m i q).trans ?_
    unfold R15
    rw [tst_t (decide_eq_true (by omega)), chk_t (decide_eq_true (by omega)), chk_t (decide_eq_true (by omega))]
    unfold runEnd
    rw [show ((i : Int)).toNat = i from rfl]
    cases hp : pr (byteAt b i) with
    | false => rfl
    | true =>
      have h := l15 hr hb k (i + 1) m q (by omega) (by omega)
      have hb' : b.size ≤ 9223372036854775807 := hb
      have e : IntKind.wrap .i64 ((i : Int) + 1) = ((i + 1 : Nat) : Int) := by rw [i64_in _ ⟨by omega, by omega⟩]; rfl
      dsimp only
      rw [e]
      exact h
theorem runEnd_ge {pr : Int → Bool} {b : ByteArray} : ∀ (k i : Nat), i ≤ runEnd pr b k i ∧ runEnd pr b k i ≤ i + k
  | 0, i => ⟨Nat.le_refl _, Nat.le_refl _⟩
  | k + 1, i => by
    unfold runEnd
    cases pr (byteAt b i) with
    | true => have := runEnd_ge (pr := pr) (b := b) k (i + 1); dsimp only; omega
    | false => dsimp only; omega
theorem lo15_ok {f : Nat} {pr : Int → Bool} (hr : ∀ b es m p q, VR f b es m p q = R15 f pr b es m p q) : LoopOK EL Try.prog (lo15 f pr) 50 L15 := by
  refine LoopOK.of_run (f := 7) (c := o26) (lo := noLo) T.tok c26 T.mo (fun _ _ => noLo_ok) (fun s M e s' M' t hl hev => ?_)
  unfold lo15 at hl
  split at hl
  · rename_i g q b p es h1 h3 h4 h5
    obtain rfl := Option.some.inj hl
    cases hc : (Nat.beq g f && decide (0 ≤ p) && decide (p ≤ b.size) && decide (b.size ≤ maxI)) with
    | false => rw [hc] at hev; cases hev
    | true =>
      rw [hc] at hev
      simp only [Bool.and_eq_true, decide_eq_true_eq] at hc
      obtain ⟨⟨⟨hg, hp0⟩, hp1⟩, hb⟩ := hc
      have hg := Nat.eq_of_beq_eq_true hg
      subst hg
      obtain ⟨i, rfl⟩ := Int.eq_ofNat_of_zero_le hp0
      refine ⟨0, b.size - i + 1, [0, 5, 1], ?_⟩
      simp only [keepT, List.map_cons, List.map_nil, h3, h4, h5]
      refine (l15 (hr b es) hb (b.size - i) i (b.size - i + 1) q (by omega) (by omega)).trans ?_
      exact hev
  · cases hl
theorem runTo_ge (pr : Int → Bool) (b : ByteArray) (i : Nat) (hi : i ≤ b.size) : (i : Int) ≤ runTo pr b i ∧ runTo pr b i ≤ b.size := by
  unfold runTo
  have := runEnd_ge (pr := pr) (b := b) (b.size - ((i : Int)).toNat) ((i : Int)).toNat
  have e : ((i : Int)).toNat = i := rfl
  rw [e] at this ⊢
  omega
def run15 (f : Nat) : Option (Int → Bool) := match f with | 6 => some spaceB | 10 => some innerB | 11 => some capB | 13 => some digB | _ => none
def F15 (a : List Sv) (M : List Box) : Tr := match a, M with
  | [.one (.ptr 0 0 0 0), .one (.fn f [])], [.var [.v (.string b), .v (.int .i64 p), .own 1 0], .row 29 0 false true 4 es] => match run15 f with
    | some pr => .br (decide (0 ≤ p) && decide (p ≤ b.size) && decide (b.size ≤ maxI)) (.ok (sv (b.extract p.toNat (runTo pr b p).toNat), scn b (runTo pr b p) es)) .no
    | none => .no
  | _, _ => .no
def o15 : Orc := over o26 7 F15
theorem loops15 {lo : Lo} (h : LoopOK EL Try.prog lo 50 L15) : ∀ fn b, Try.prog.funcs[7]? = some fn → fn.body = some b → ∀ a ∈ loopsOf b, LoopOK EL Try.prog lo fn.ntmps a :=
  loops_of (fun a ha => by
    have e : loopsAt Try.prog 7 = [L15] := by kernel_rfl
    rw [e] at ha
    simp only [List.mem_singleton] at ha
    subst ha
    rw [show ntmpsAt Try.prog 7 = 50 by kernel_rfl]; exact h)
theorem q15_12 (b : ByteArray) (p : Int) (es : List (List At)) : vstep EL Try.prog (lo15 6 spaceB) 0 o26 7 [.one (.ptr 0 0 0 0), .one (.fn 6 [])] (scn b p es) =
chk (true && decide (0 ≤ p) && decide (p ≤ (↑b.size : Int)) && decide (b.size ≤ 9223372036854775807))
  (chk (decide (0 ≤ p))
    (chk (decide (p ≤ runTo spaceB b p))
      (chk (decide (runTo spaceB b p ≤ (↑b.size : Int)))
        (some
          (Sv.one (At.v (Value.string (b.extract p.toNat (runTo spaceB b p).toNat))),
            [Box.var [At.v (Value.string b), At.v (Value.int IntKind.i64 (runTo spaceB b p)), At.own 1 0],
              Box.row 29 0 false true 4 es]))))) := by kernel_rfl
theorem q15_21 (b : ByteArray) (p : Int) (es : List (List At)) : vstep EL Try.prog (lo15 10 innerB) 0 o26 7 [.one (.ptr 0 0 0 0), .one (.fn 10 [])] (scn b p es) =
chk (true && decide (0 ≤ p) && decide (p ≤ (↑b.size : Int)) && decide (b.size ≤ 9223372036854775807))
  (chk (decide (0 ≤ p))
    (chk (decide (p ≤ runTo innerB b p))
      (chk (decide (runTo innerB b p ≤ (↑b.size : Int)))
        (some
          (Sv.one (At.v (Value.string (b.extract p.toNat (runTo innerB b p).toNat))),
            [Box.var [At.v (Value.string b), At.v (Value.int IntKind.i64 (runTo innerB b p)), At.own 1 0],
              Box.row 29 0 false true 4 es]))))) := by kernel_rfl
theorem q15_22 (b : ByteArray) (p : Int) (es : List (List At)) : vstep EL Try.prog (lo15 11 capB) 0 o26 7 [.one (.ptr 0 0 0 0), .one (.fn 11 [])] (scn b p es) =
chk (true && decide (0 ≤ p) && decide (p ≤ (↑b.size : Int)) && decide (b.size ≤ 9223372036854775807))
  (chk (decide (0 ≤ p))
    (chk (decide (p ≤ runTo capB b p))
      (chk (decide (runTo capB b p ≤ (↑b.size : Int)))
        (some
          (Sv.one (At.v (Value.string (b.extract p.toNat (runTo capB b p).toNat))),
            [Box.var [At.v (Value.string b), At.v (Value.int IntKind.i64 (runTo capB b p)), At.own 1 0],
              Box.row 29 0 false true 4 es]))))) := by kernel_rfl
theorem q15_24 (b : ByteArray) (p : Int) (es : List (List At)) : vstep EL Try.prog (lo15 13 digB) 0 o26 7 [.one (.ptr 0 0 0 0), .one (.fn 13 [])] (scn b p es) =
chk (true && decide (0 ≤ p) && decide (p ≤ (↑b.size : Int)) && decide (b.size ≤ 9223372036854775807))
  (chk (decide (0 ≤ p))
    (chk (decide (p ≤ runTo digB b p))
      (chk (decide (runTo digB b p ≤ (↑b.size : Int)))
        (some
          (Sv.one (At.v (Value.string (b.extract p.toNat (runTo digB b p).toNat))),
            [Box.var [At.v (Value.string b), At.v (Value.int IntKind.i64 (runTo digB b p)), At.own 1 0],
              Box.row 29 0 false true 4 es]))))) := by kernel_rfl
theorem fin15 {pr : Int → Bool} {b : ByteArray} {p : Int} {es : List (List At)} {x : Sv × List Box}
    (hx : (Tree.br (decide (0 ≤ p) && decide (p ≤ b.size) && decide (b.size ≤ maxI)) (.ok (sv (b.extract p.toNat (runTo pr b p).toNat), scn b (runTo pr b p) es)) .no).eval = some x) :
    chk (true && decide (0 ≤ p) && decide (p ≤ (b.size : Int)) && decide (b.size ≤ 9223372036854775807)) (chk (decide (0 ≤ p)) (chk (decide (p ≤ runTo pr b p)) (chk (decide (runTo pr b p ≤ (b.size : Int))) (some (sv (b.extract p.toNat (runTo pr b p).toNat), scn b (runTo pr b p) es))))) = some x := by
  cases hc : (decide (0 ≤ p) && decide (p ≤ b.size) && decide (b.size ≤ maxI)) with
  | false => rw [hc] at hx; cases hx
  | true =>
    rw [hc] at hx
    have hc' := hc
    simp only [Bool.and_eq_true, decide_eq_true_eq] at hc
    obtain ⟨⟨hp0, hp1⟩, hb⟩ := hc
    obtain ⟨i, rfl⟩ := Int.eq_ofNat_of_zero_le hp0
    have := runTo_ge pr b i (by omega)
    rw [chk_t (by simp only [Bool.true_and, Bool.and_eq_true, decide_eq_true_eq]; exact ⟨⟨hp0, hp1⟩, hb⟩), chk_t (decide_eq_true hp0), chk_t (decide_eq_true this.1), chk_t (decide_eq_true this.2)]
    exact hx
theorem c15 : CallOK EL Try.prog o15 := over_ok T.tok T.mo T.ng c26 fun args M x hx => by
  unfold F15 at hx
  split at hx
  · rename_i f b p es
    unfold run15 at hx
    split at hx
    · rename_i pr hpr
      split at hpr
      · obtain rfl := Option.some.inj hpr
        exact ⟨lo15 6 spaceB, 0, loops15 (lo15_ok (fun b es m p q => r15_12 b es m p q)), (q15_12 b p es).trans (fin15 hx)⟩
      · obtain rfl := Option.some.inj hpr
        exact ⟨lo15 10 innerB, 0, loops15 (lo15_ok (fun b es m p q => r15_21 b es m p q)), (q15_21 b p es).trans (fin15 hx)⟩
      · obtain rfl := Option.some.inj hpr
        exact ⟨lo15 11 capB, 0, loops15 (lo15_ok (fun b es m p q => r15_22 b es m p q)), (q15_22 b p es).trans (fin15 hx)⟩
      · obtain rfl := Option.some.inj hpr
        exact ⟨lo15 13 digB, 0, loops15 (lo15_ok (fun b es m p q => r15_24 b es m p q)), (q15_24 b p es).trans (fin15 hx)⟩
      · cases hpr
    · cases hx
  · cases hx
/-! ### a number's value -/
noncomputable abbrev L25 : Code := lcode Try.prog 14 5
theorem r25 (m : Nat) (s : ByteArray) (v k i : Int) : vround EL 14 o15 noLo 0 34 L25 0 m (S25 s v k i) [] =
tst (decide (i < k))
  (chk (decide (0 ≤ i))
    (chk (decide (i < (↑s.size : Int)))
      (vloop EL 14 o15 noLo 0 34 L25 0 m
        [(21, Sv.one (At.v (Value.int IntKind.i64 (IntKind.wrap .i64 (i + 1))))), (0, Sv.one (At.v (Value.string s))),
          (4,
            Sv.one
              (At.v
                (Value.int IntKind.i64
                  (IntKind.wrap .i64
                    (IntKind.wrap .i64 (10 * v) + IntKind.wrap .i64 (IntKind.wrap .u8 (byteAt s i.toNat - 48))))))),
          (20, Sv.one (At.v (Value.int IntKind.i64 k)))]
        [])))
  (some (Ex.exit 0, [(2, Sv.one At.bad), (3, Sv.one At.bad), (4, Sv.one (At.v (Value.int IntKind.i64 v)))], [])) := by kernel_rfl
theorem l25 (s : ByteArray) (hs : s.size ≤ maxI) : ∀ (k i : Nat) (m : Nat) (v : Int), i + k = s.size → k < m →
    vloop EL 14 o15 noLo 0 34 L25 0 m (S25 s v s.size i) [] = some (.exit 0, X25 (numOf s k i v), [])
  | 0, i, m + 1, v, hi, hm => by
    rw [vloop_succ, r25, tst_f (decide_eq_false (by omega))]; rfl
  | k + 1, i, m + 1, v, hi, hm => by
    rw [vloop_succ, r25, tst_t (decide_eq_true (by omega)), chk_t (decide_eq_true (by omega)), chk_t (decide_eq_true (by omega))]
    have hs' : s.size ≤ 9223372036854775807 := hs
    have e : IntKind.wrap .i64 ((i : Int) + 1) = ((i + 1 : Nat) : Int) := by rw [i64_in _ ⟨by omega, by omega⟩]; rfl
    rw [e]
    exact l25 s hs k (i + 1) m _ (by omega) (by omega)
theorem lo25_ok : LoopOK EL Try.prog lo25 34 L25 := by
  refine LoopOK.of_run (f := 14) (c := o15) (lo := noLo) T.tok c15 T.mo (fun _ _ => noLo_ok) (fun s M e s' M' t hl hev => ?_)
  unfold lo25 at hl
  split at hl
  · rename_i b v k i h1 h3 h4 h5 h6
    obtain rfl := Option.some.inj hl
    cases hc : (i == 0 && k == b.size && decide (b.size ≤ maxI)) with
    | false => rw [hc] at hev; cases hev
    | true =>
      rw [hc] at hev
      simp only [Bool.and_eq_true, decide_eq_true_eq, beq_iff_eq] at hc
      obtain ⟨⟨rfl, rfl⟩, hb⟩ := hc
      refine ⟨0, b.size + 1, [21, 0, 4, 20], ?_⟩
      simp only [keepT, List.map_cons, List.map_nil, h3, h4, h5, h6]
      exact (l25 b hb b.size 0 (b.size + 1) v (by omega) (by omega)).trans hev
  · cases hl
theorem q25 (s : ByteArray) : vstep EL Try.prog lo25 0 o15 14 [sv s] [] =
tst (decide ((↑s.size : Int) > 4))
  (some (Sv.tup [Sv.one (At.v (Value.int IntKind.i64 0)), Sv.one (At.v (Value.bool false))], []))
  (tst (decide ((↑s.size : Int) > 1))
    (chk (decide (0 < (↑s.size : Int)))
      (tst (bif false then true else bif true then byteAt s 0 == 48 else false)
        (some (Sv.tup [Sv.one (At.v (Value.int IntKind.i64 0)), Sv.one (At.v (Value.bool false))], []))
        (chk (true && (↑s.size : Int) == (↑s.size : Int) && decide (s.size ≤ 9223372036854775807))
          (some
            (Sv.tup [Sv.one (At.v (Value.int IntKind.i64 (numOf s s.size 0 0))), Sv.one (At.v (Value.bool true))],
              [])))))
    (chk (true && (↑s.size : Int) == (↑s.size : Int) && decide (s.size ≤ 9223372036854775807))
      (some
        (Sv.tup [Sv.one (At.v (Value.int IntKind.i64 (numOf s s.size 0 0))), Sv.one (At.v (Value.bool true))], [])))) := by kernel_rfl
abbrev pv (k : Int) (b : Bool) : Sv := .tup [iv k, bv b]
theorem e25 (s : ByteArray) (hs : s.size ≤ maxI) : vstep EL Try.prog lo25 0 o15 14 [sv s] [] = some (pv (numI s) (numB s), []) := by
  rw [q25]
  have hk : (true && ((s.size : Int) == (s.size : Int)) && decide (s.size ≤ 9223372036854775807)) = true := by simp; exact hs
  rw [chk_t hk]
  unfold numI numB
  cases h1 : decide ((s.size : Int) > 4) with
  | true => rfl
  | false =>
    cases h2 : decide ((s.size : Int) > 1) with
    | false => rfl
    | true =>
      rw [chk_t (decide_eq_true (by have := of_decide_eq_true h2; omega))]
      cases h3 : (byteAt s 0 == 48) <;> rfl
def o25 : Orc := over o15 14 (Fs fun s => .br (decide (s.size ≤ maxI)) (.ok (pv (numI s) (numB s), [])) .no)
theorem loops25 : ∀ fn b, Try.prog.funcs[14]? = some fn → fn.body = some b → ∀ a ∈ loopsOf b, LoopOK EL Try.prog lo25 fn.ntmps a :=
  loops_of (fun a ha => by
    have e : loopsAt Try.prog 14 = [L25] := by kernel_rfl
    rw [e] at ha
    simp only [List.mem_singleton] at ha
    subst ha
    rw [show ntmpsAt Try.prog 14 = 34 by kernel_rfl]; exact lo25_ok)
theorem br_some {α : Type} {b : Bool} {x : Tree α} {y : α} (h : (Tree.br b x .no).eval = some y) : b = true ∧ x.eval = some y := by
  cases b
  · cases h
  · exact ⟨rfl, h⟩
theorem c25 : CallOK EL Try.prog o25 := ok_s T c15 fun s x hx => by
  obtain ⟨hs, hx⟩ := br_some hx
  exact ⟨lo25, 0, loops25, (e25 s (of_decide_eq_true hs)).trans hx⟩
end Go.Proofs.Ytfbdceccefmloab
