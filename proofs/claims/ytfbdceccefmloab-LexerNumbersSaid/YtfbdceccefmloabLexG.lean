import Derived.Test.YtfbdceccefmloabLexF
namespace Go.Proofs.Ytfbdceccefmloab
open Go Go.Vi Go.IntWalk
set_option maxRecDepth 100000
set_option linter.unusedVariables false
set_option linter.unusedSimpArgs false
theorem ic {p : Int → Prop} (hn : ∀ k, p (.negSucc k)) (h0 : p 0) (h1 : p 1) (h2 : p 2) (h3 : p 3) (h4 : p 4) (h5 : p 5) (h6 : ∀ k, p (.ofNat (k + 6))) : ∀ a, p a
  | .negSucc k => hn k
  | .ofNat 0 => h0
  | .ofNat 1 => h1
  | .ofNat 2 => h2
  | .ofNat 3 => h3
  | .ofNat 4 => h4
  | .ofNat 5 => h5
  | .ofNat (k + 6) => h6 k
def fmtS : Int → ByteArray
  | .ofNat 1 => ⟨#[73, 83]⟩ | .ofNat 2 => ⟨#[73, 88]⟩ | .ofNat 3 => ⟨#[83]⟩ | .ofNat 4 => ⟨#[83, 73, 88]⟩ | .ofNat 5 => ⟨#[88]⟩ | _ => ⟨#[]⟩
theorem e28 : ∀ a, VS 7 o25 16 [iv a] = some (sv (fmtS a), []) := by
  intro a; induction a using ic <;> kernel_rfl
def o28 : Orc := over o25 16 (Fi fun a => .ok (sv (fmtS a), []))
theorem c28 : CallOK EL Try.prog o28 := ok_i T c25 fun a x hx => ⟨noLo, 7, loops_no, (e28 a).trans hx⟩
def parI (s : ByteArray) : Int := bif bytesEq (fmtS 1) s then 1 else bif bytesEq (fmtS 2) s then 2 else bif bytesEq (fmtS 3) s then 3 else bif bytesEq (fmtS 4) s then 4 else bif bytesEq (fmtS 5) s then 5 else 0
def parB (s : ByteArray) : Bool := bif bytesEq (fmtS 1) s then true else bif bytesEq (fmtS 2) s then true else bif bytesEq (fmtS 3) s then true else bif bytesEq (fmtS 4) s then true else bif bytesEq (fmtS 5) s then true else false
/-- What begins at a place. -/
def kindC (c : Int) : Int := bif smallB c then 1 else bif capB c then 2 else bif digB c then 3 else bif punB c then 4 else 0
abbrev byP (b : ByteArray) (p : Int) : Int := byteAt b p.toNat
def nxQ (b : ByteArray) (p : Int) : Int := bif smallB (byP b p) then runTo innerB b p else bif capB (byP b p) then runTo capB b p else bif digB (byP b p) then runTo digB b p else bif punB (byP b p) then p + 1 else p
def seg (b : ByteArray) (p : Int) : ByteArray := b.extract p.toNat (nxQ b p).toNat
def nxE (b : ByteArray) (p : Int) : Int := bif smallB (byP b p) then (bif decide (((seg b p).size : Int) > 12) then 9 else 0) else bif capB (byP b p) then (bif parB (seg b p) then 0 else 8) else bif digB (byP b p) then (bif numB (seg b p) then 0 else 8) else bif punB (byP b p) then 0 else 8
def nxT (b : ByteArray) (p : Int) : ByteArray := bif smallB (byP b p) then seg b p else bif capB (byP b p) then seg b p else bif digB (byP b p) then ⟨#[]⟩ else ⟨#[UInt8.ofNat (byP b p).toNat]⟩
def nxN (b : ByteArray) (p : Int) : Int := bif smallB (byP b p) then 0 else bif capB (byP b p) then parI (seg b p) else bif digB (byP b p) then numI (seg b p) else 0
abbrev tk (k : Int) (t : ByteArray) (n a : Int) : List At := [.v (.int .i64 k), .v (.string t), .v (.int .i64 n), .v (.int .i64 a)]
def tokP (b : ByteArray) (p : Int) : List At := tk (kindC (byP b p)) (nxT b p) (nxN b p) p
abbrev endT (b : ByteArray) : List At := tk 5 ⟨#[]⟩ 0 b.size
def F16 (a : List Sv) (M : List Box) : Tree (Sv × List Box) := match a, M with
  | [.one (.ptr 0 0 0 0)], [.var [.v (.string b), .v (.int .i64 p), .own 1 0], .row 29 0 false true 4 es] =>
    .br (decide (0 ≤ p) && decide (p < b.size) && decide (b.size ≤ 1024) && decide (es.length ≤ 1024)) (.br (nxE b p == 0) (.ok (iv 0, scn b (nxQ b p) (es ++ [tokP b p]))) (.ok (iv (nxE b p), scn b (nxQ b p) es))) .no
  | _, _ => .no
/-- The tokens from a place on. -/
def lexP (b : ByteArray) : Nat → Int → List (List At) → List (List At) × Int × Int
  | 0, p, es => (es, p, 0)
  | k + 1, p, es => match runTo spaceB b p == b.size with
    | true => (es, runTo spaceB b p, 0)
    | false => match nxE b (runTo spaceB b p) == 0 with
      | true => lexP b k (nxQ b (runTo spaceB b p)) (es ++ [tokP b (runTo spaceB b p)])
      | false => (es, runTo spaceB b p, nxE b (runTo spaceB b p))
def lexT (b : ByteArray) : List (List At) × Int × Int := lexP b (b.size + 1) 0 []

def parT (s : ByteArray) : Option (Sv × List Box) := tst (bytesEq (fmtS 1) s) (some (pv 1 true, [])) (tst (bytesEq (fmtS 2) s) (some (pv 2 true, [])) (tst (bytesEq (fmtS 3) s) (some (pv 3 true, [])) (tst (bytesEq (fmtS 4) s) (some (pv 4 true, [])) (tst (bytesEq (fmtS 5) s) (some (pv 5 true, [])) (some (pv 0 false, []))))))
theorem parT_is (s : ByteArray) : parT s = some (pv (parI s) (parB s), []) := by
  unfold parT parI parB
  generalize bytesEq (fmtS 1) s = b1
  generalize bytesEq (fmtS 2) s = b2
  generalize bytesEq (fmtS 3) s = b3
  generalize bytesEq (fmtS 4) s = b4
  generalize bytesEq (fmtS 5) s = b5
  cases b1 <;> cases b2 <;> cases b3 <;> cases b4 <;> cases b5 <;> rfl
theorem e23 (s : ByteArray) : VS 7 o28 12 [sv s] = some (pv (parI s) (parB s), []) := (show VS 7 o28 12 [sv s] = parT s by kernel_rfl).trans (parT_is s)
def o23 : Orc := over o28 12 (Fs fun s => .ok (pv (parI s) (parB s), []))
theorem c23 : CallOK EL Try.prog o23 := ok_s T c28 fun a x hx => ⟨noLo, 7, loops_no, (e23 a).trans hx⟩
/-! ### one token -/
theorem ext_size {b : ByteArray} (i j : Nat) : (b.extract i j).size ≤ b.size := by rw [ByteArray.size_extract]; omega
theorem q16 (b : ByteArray) (p : Int) (es : List (List At)) : vstep EL Try.prog noLo 0 o23 8 [.one (.ptr 0 0 0 0)] (scn b p es) =
chk (decide (0 ≤ p))
  (chk (decide (p < (↑b.size : Int)))
    (tst (smallB (byteAt b p.toNat))
      (chk (decide (0 ≤ p) && decide (p ≤ (↑b.size : Int)) && decide (b.size ≤ 9223372036854775807))
        (tst (decide ((↑(b.extract p.toNat (runTo innerB b p).toNat).size : Int) > 12))
          (some
            (Sv.one (At.v (Value.int IntKind.i64 9)),
              [Box.var [At.v (Value.string b), At.v (Value.int IntKind.i64 (runTo innerB b p)), At.own (1, 1).fst 0],
                Box.row 29 0 false true 4 es]))
          (chk
            (decide
              ((es.length +
                    [[At.v (Value.int IntKind.i64 1), At.v (Value.string (b.extract p.toNat (runTo innerB b p).toNat)),
                          At.v (Value.int IntKind.i64 0), At.v (Value.int IntKind.i64 p)]].length) *
                  40 ≤
                140737488355328))
            (some
              (Sv.one (At.v (Value.int IntKind.i64 0)),
                [Box.var [At.v (Value.string b), At.v (Value.int IntKind.i64 (runTo innerB b p)), At.own (1, 1).fst 0],
                  Box.row 29 0 false true 4
                    (es ++
                      [[At.v (Value.int IntKind.i64 1),
                          At.v (Value.string (b.extract p.toNat (runTo innerB b p).toNat)),
                          At.v (Value.int IntKind.i64 0), At.v (Value.int IntKind.i64 p)]])])))))
      (tst (capB (byteAt b p.toNat))
        (chk (decide (0 ≤ p) && decide (p ≤ (↑b.size : Int)) && decide (b.size ≤ 9223372036854775807))
          (tst (!parB (b.extract p.toNat (runTo capB b p).toNat))
            (some
              (Sv.one (At.v (Value.int IntKind.i64 8)),
                [Box.var [At.v (Value.string b), At.v (Value.int IntKind.i64 (runTo capB b p)), At.own (1, 1).fst 0],
                  Box.row 29 0 false true 4 es]))
            (chk
              (decide
                ((es.length +
                      [[At.v (Value.int IntKind.i64 2), At.v (Value.string (b.extract p.toNat (runTo capB b p).toNat)),
                            At.v (Value.int IntKind.i64 (parI (b.extract p.toNat (runTo capB b p).toNat))),
                            At.v (Value.int IntKind.i64 p)]].length) *
                    40 ≤
                  140737488355328))
              (some
                (Sv.one (At.v (Value.int IntKind.i64 0)),
                  [Box.var [At.v (Value.string b), At.v (Value.int IntKind.i64 (runTo capB b p)), At.own (1, 1).fst 0],
                    Box.row 29 0 false true 4
                      (es ++
                        [[At.v (Value.int IntKind.i64 2),
                            At.v (Value.string (b.extract p.toNat (runTo capB b p).toNat)),
                            At.v (Value.int IntKind.i64 (parI (b.extract p.toNat (runTo capB b p).toNat))),
                            At.v (Value.int IntKind.i64 p)]])])))))
        (tst (digB (byteAt b p.toNat))
          (chk (decide (0 ≤ p) && decide (p ≤ (↑b.size : Int)) && decide (b.size ≤ 9223372036854775807))
            (chk (decide ((b.extract p.toNat (runTo digB b p).toNat).size ≤ 9223372036854775807))
              (tst (!numB (b.extract p.toNat (runTo digB b p).toNat))
                (some
                  (Sv.one (At.v (Value.int IntKind.i64 8)),
                    [Box.var
                        [At.v (Value.string b), At.v (Value.int IntKind.i64 (runTo digB b p)), At.own (1, 1).fst 0],
                      Box.row 29 0 false true 4 es]))
                (chk
                  (decide
                    ((es.length +
                          [[At.v (Value.int IntKind.i64 3), At.v (Value.string { data := { toList := [] } }),
                                At.v (Value.int IntKind.i64 (numI (b.extract p.toNat (runTo digB b p).toNat))),
                                At.v (Value.int IntKind.i64 p)]].length) *
                        40 ≤
                      140737488355328))
                  (some
                    (Sv.one (At.v (Value.int IntKind.i64 0)),
                      [Box.var
                          [At.v (Value.string b), At.v (Value.int IntKind.i64 (runTo digB b p)), At.own (1, 1).fst 0],
                        Box.row 29 0 false true 4
                          (es ++
                            [[At.v (Value.int IntKind.i64 3), At.v (Value.string { data := { toList := [] } }),
                                At.v (Value.int IntKind.i64 (numI (b.extract p.toNat (runTo digB b p).toNat))),
                                At.v (Value.int IntKind.i64 p)]])]))))))
          (tst (punB (byteAt b p.toNat))
            (chk
              (decide
                ((es.length +
                      [[At.v (Value.int IntKind.i64 4),
                            At.v (Value.string { data := { toList := [UInt8.ofNat (byteAt b p.toNat).toNat] } }),
                            At.v (Value.int IntKind.i64 0), At.v (Value.int IntKind.i64 p)]].length) *
                    40 ≤
                  140737488355328))
              (some
                (Sv.one (At.v (Value.int IntKind.i64 0)),
                  [Box.var [At.v (Value.string b), At.v (Value.int IntKind.i64 (IntKind.wrap .i64 (p + 1))), At.own 1 0],
                    Box.row 29 0 false true 4
                      (es ++
                        [[At.v (Value.int IntKind.i64 4),
                            At.v (Value.string { data := { toList := [UInt8.ofNat (byteAt b p.toNat).toNat] } }),
                            At.v (Value.int IntKind.i64 0), At.v (Value.int IntKind.i64 p)]])])))
            (some
              (Sv.one (At.v (Value.int IntKind.i64 8)),
                [Box.var [At.v (Value.string b), At.v (Value.int IntKind.i64 p), At.own 1 0],
                  Box.row 29 0 false true 4 es]))))))) := by kernel_rfl
theorem e16 (b : ByteArray) (p : Int) (es : List (List At)) (h0 : 0 ≤ p) (h1 : p < b.size) (hb : b.size ≤ 1024) (he : es.length ≤ 1024) : vstep EL Try.prog noLo 0 o23 8 [.one (.ptr 0 0 0 0)] (scn b p es) =
    tst (nxE b p == 0) (some (iv 0, scn b (nxQ b p) (es ++ [tokP b p]))) (some (iv (nxE b p), scn b (nxQ b p) es)) := by
  have k1 : (decide (0 ≤ p) && decide (p ≤ (b.size : Int)) && decide (b.size ≤ 9223372036854775807)) = true := by
    rw [decide_eq_true h0, decide_eq_true (by omega), decide_eq_true (by omega)]; rfl
  have k2 : ∀ x : List At, decide ((es.length + [x].length) * 40 ≤ 140737488355328) = true := fun x => decide_eq_true (by simp only [List.length_singleton]; omega)
  have k3 : ∀ q : Int, decide ((b.extract p.toNat q.toNat).size ≤ 9223372036854775807) = true := fun q => decide_eq_true (by have := ext_size (b := b) p.toNat q.toNat; omega)
  have k4 : IntKind.wrap .i64 (p + 1) = p + 1 := i64_in _ ⟨by omega, by omega⟩
  have hs : seg b p = b.extract p.toNat (nxQ b p).toNat := rfl
  rw [q16, chk_t (decide_eq_true h0), chk_t (decide_eq_true h1)]
  simp only [chk_t k1, chk_t (k2 _), chk_t (k3 _), k4]
  unfold nxE tokP kindC nxT nxN
  rw [hs]
  unfold nxQ byP
  cases e1 : smallB (byteAt b p.toNat) with
  | true =>
    dsimp only [cond]
    cases decide (((b.extract p.toNat (runTo innerB b p).toNat).size : Int) > 12) <;> rfl
  | false =>
    cases e2 : capB (byteAt b p.toNat) with
    | true =>
      dsimp only [cond]
      cases parB (b.extract p.toNat (runTo capB b p).toNat) <;> rfl
    | false =>
      cases e3 : digB (byteAt b p.toNat) with
      | true =>
        dsimp only [cond]
        cases numB (b.extract p.toNat (runTo digB b p).toNat) <;> rfl
      | false =>
        cases e4 : punB (byteAt b p.toNat) <;> rfl
def o16 : Orc := over o23 8 F16
theorem c16 : CallOK EL Try.prog o16 := over_ok T.tok T.mo T.ng c23 fun args M x hx => by
  unfold F16 at hx
  split at hx
  · rename_i b p es
    obtain ⟨hc, hx⟩ := br_some hx
    simp only [Bool.and_eq_true, decide_eq_true_eq] at hc
    refine ⟨noLo, 0, loops_no, (e16 b p es hc.1.1.1 hc.1.1.2 hc.1.2 hc.2).trans ?_⟩
    cases h : (nxE b p == 0) with
    | true => rw [h] at hx; exact hx
    | false => rw [h] at hx; exact hx
  · cases hx
/-! ### the tokens of a text -/
theorem runEnd_stop {pr : Int → Bool} {b : ByteArray} : ∀ (k i : Nat), i + k = b.size → runEnd pr b k i = b.size ∨ pr (byteAt b (runEnd pr b k i)) = false
  | 0, i, h => .inl h
  | k + 1, i, h => by
    unfold runEnd
    cases hp : pr (byteAt b i) with
    | true => exact runEnd_stop k (i + 1) (by omega)
    | false => exact .inr hp
/-- Places go on. -/
theorem nxQ_gt {b : ByteArray} {i : Nat} (hi : i < b.size) : ∃ j : Nat, nxQ b i = j ∧ j ≤ b.size ∧ ((nxE b i == 0) = true → i < j) := by
  have key : ∀ pr : Int → Bool, pr (byP b i) = true → ∃ j : Nat, runTo pr b i = j ∧ j ≤ b.size ∧ i < j := by
    intro pr hp
    unfold runTo
    rw [show ((i : Int)).toNat = i from rfl]
    have h := runEnd_ge (pr := pr) (b := b) (b.size - i - 1) (i + 1)
    refine ⟨runEnd pr b (b.size - i) i, rfl, ?_, ?_⟩
    · have := runEnd_ge (pr := pr) (b := b) (b.size - i) i; omega
    · rw [show b.size - i = (b.size - i - 1) + 1 by omega]
      unfold runEnd
      have hp' : pr (byteAt b i) = true := hp
      rw [hp']; dsimp only; omega
  unfold nxQ nxE
  cases e1 : smallB (byP b i) with
  | true => obtain ⟨j, h1, h2, h3⟩ := key innerB (by unfold innerB; rw [e1]; rfl); exact ⟨j, h1, h2, fun _ => h3⟩
  | false =>
    cases e2 : capB (byP b i) with
    | true => obtain ⟨j, h1, h2, h3⟩ := key capB e2; exact ⟨j, h1, h2, fun _ => h3⟩
    | false =>
      cases e3 : digB (byP b i) with
      | true => obtain ⟨j, h1, h2, h3⟩ := key digB e3; exact ⟨j, h1, h2, fun _ => h3⟩
      | false =>
        cases e4 : punB (byP b i) with
        | true => exact ⟨i + 1, rfl, by omega, fun _ => by omega⟩
        | false => exact ⟨i, rfl, by omega, fun h => by cases h⟩
def fin8 (b : ByteArray) (p : Int) (es : List (List At)) (t : List (List At) × Int × Int) : Tree (Ex × TS × List Box) :=
  .br (t.2.2 == 0) (.ok (.ret, [(2, .one (.own 0 2)), (3, iv 0), (4, iv 0)], [.row 29 2 false true 4 (t.1 ++ [endT b]), .var [.v (.string b), .v (.int .i64 t.2.1), .own 0 1], .row 29 0 false true 4 [endT b]]))
    (.ok (.ret, [(2, .one .nils), (3, iv t.2.1), (4, iv t.2.2)], [.row 29 2 false true 4 t.1, .var [.v (.string b), .v (.int .i64 (nxQ b t.2.1)), .own 0 2]]))
def lo8 : Lo := fun a s M => match Nat.beq (firstId a) 4, lookT s 0, lookT s 5, M with
  | true, .one (.v (.string b)), .one (.ptr 1 0 0 0), [.row 29 0 false true 4 [], .var [.v (.string b'), .v (.int .i64 0), .own 0 0]] =>
    some (.br (bytesEq b b' && decide (b.size ≤ 1024)) (fin8 b 0 [] (lexT b)) .no)
  | _, _, _, _ => none

noncomputable abbrev L8 : Code := lcode Try.prog 5 4
theorem r8 (m : Nat) (b : ByteArray) (p : Int) (es : List (List At)) : vround EL 5 o16 noLo 0 47 L8 2 m ([(0, .one (.v (.string b))), (5, .one (.ptr 1 0 0 0))]) [.row 29 0 false true 4 es, .var [.v (.string b), .v (.int .i64 p), .own 0 0]] =
chk (decide (0 ≤ p) && decide (p ≤ (↑b.size : Int)) && decide (b.size ≤ 9223372036854775807))
  (tst (runTo spaceB b p == (↑b.size : Int))
    (chk
      (decide
        ((es.length +
              [[At.v (Value.int IntKind.i64 5), At.v (Value.string { data := { toList := [] } }),
                    At.v (Value.int IntKind.i64 0), At.v (Value.int IntKind.i64 (↑b.size : Int))]].length) *
            40 ≤
          140737488355328))
      (some
        (Ex.ret,
          [(2, Sv.one (At.own (0, 1).fst (0 + (0, 1).snd + 1))), (3, Sv.one (At.v (Value.int IntKind.i64 0))),
            (4, Sv.one (At.v (Value.int IntKind.i64 0)))],
          [Box.row 29 (0 + (0, 1).snd + 1) false true 4
              (es ++
                [[At.v (Value.int IntKind.i64 5), At.v (Value.string { data := { toList := [] } }),
                    At.v (Value.int IntKind.i64 0), At.v (Value.int IntKind.i64 (↑b.size : Int))]]),
            Box.var
              [At.v (Value.string b), At.v (Value.int IntKind.i64 (runTo spaceB b p)),
                At.own (0, 1).fst (0 + (0, 1).snd)],
            Box.row 29 0 false true 4
              [[At.v (Value.int IntKind.i64 5), At.v (Value.string { data := { toList := [] } }),
                  At.v (Value.int IntKind.i64 0), At.v (Value.int IntKind.i64 (↑b.size : Int))]]])))
    (chk
      (decide (0 ≤ runTo spaceB b p) && decide (runTo spaceB b p < (↑b.size : Int)) && decide (b.size ≤ 1024) &&
        decide (es.length ≤ 1024))
      (tst (nxE b (runTo spaceB b p) == 0)
        (vloop EL 5 o16 noLo 0 47 L8 2 m [(0, Sv.one (At.v (Value.string b))), (5, Sv.one (At.ptr 1 0 0 0))]
          [Box.row 29 0 false true 4 (es ++ [tokP b (runTo spaceB b p)]),
            Box.var
              [At.v (Value.string b), At.v (Value.int IntKind.i64 (nxQ b (runTo spaceB b p))),
                At.own ((0, 1).fst, 2).fst 0]])
        (tst (nxE b (runTo spaceB b p) != 0)
          (some
            (Ex.ret,
              [(2, Sv.one At.nils), (3, Sv.one (At.v (Value.int IntKind.i64 (runTo spaceB b p)))),
                (4, Sv.one (At.v (Value.int IntKind.i64 (nxE b (runTo spaceB b p)))))],
              [Box.row 29 (0 + ((0, 1).fst, 2).snd) false true 4 es,
                Box.var
                  [At.v (Value.string b), At.v (Value.int IntKind.i64 (nxQ b (runTo spaceB b p))),
                    At.own ((0, 1).fst, 2).fst (0 + ((0, 1).fst, 2).snd)]]))
          (vloop EL 5 o16 noLo 0 47 L8 2 m [(0, Sv.one (At.v (Value.string b))), (5, Sv.one (At.ptr 1 0 0 0))]
            [Box.row 29 0 false true 4 es,
              Box.var
                [At.v (Value.string b), At.v (Value.int IntKind.i64 (nxQ b (runTo spaceB b p))),
                  At.own ((0, 1).fst, 2).fst 0]]))))) := by kernel_rfl
theorem l8 (b : ByteArray) (hb : b.size ≤ 1024) : ∀ (k i m : Nat) (es : List (List At)), b.size - i < k → i ≤ b.size → es.length ≤ i → k ≤ m →
    vloop EL 5 o16 noLo 0 47 L8 2 m ([(0, .one (.v (.string b))), (5, .one (.ptr 1 0 0 0))]) [.row 29 0 false true 4 es, .var [.v (.string b), .v (.int .i64 i), .own 0 0]] = (fin8 b i es (lexP b k i es)).eval
  | 0, i, m, es, hk, _, _, _ => by omega
  | k + 1, i, 0, es, hk, _, _, hm => by omega
  | k + 1, i, m + 1, es, hk, hi, he, hm => by
    have k1 : (decide (0 ≤ (i : Int)) && decide ((i : Int) ≤ (b.size : Int)) && decide (b.size ≤ 9223372036854775807)) = true := by
      rw [decide_eq_true (by omega), decide_eq_true (by omega), decide_eq_true (by omega)]; rfl
    have hge := runTo_ge spaceB b i hi
    obtain ⟨q, hq⟩ := Int.eq_ofNat_of_zero_le (show 0 ≤ runTo spaceB b i by omega)
    have hq' : runTo spaceB b i = (q : Int) := hq
    rw [vloop_succ, r8, chk_t k1]
    unfold lexP
    rw [hq']
    rw [hq'] at hge
    cases hs : ((q : Int) == (b.size : Int)) with
    | true =>
      rw [tst_t rfl, chk_t (decide_eq_true (by simp only [List.length_singleton]; omega))]
      rfl
    | false =>
      have hlt : q < b.size := by
        have : ¬ ((q : Int) = (b.size : Int)) := by simpa using hs
        omega
      have k2 : (decide (0 ≤ (q : Int)) && decide ((q : Int) < (b.size : Int)) && decide (b.size ≤ 1024) && decide (es.length ≤ 1024)) = true := by
        rw [decide_eq_true (by omega), decide_eq_true (by omega), decide_eq_true hb, decide_eq_true (by omega)]; rfl
      rw [tst_f rfl, chk_t k2]
      obtain ⟨j, hj, hj1, hj2⟩ := nxQ_gt hlt
      cases hE : (nxE b q == 0) with
      | true =>
        have hj2 := hj2 hE
        rw [tst_t rfl]
        dsimp only
        rw [hj]
        exact l8 b hb k j m (es ++ [tokP b q]) (by omega) hj1 (by rw [List.length_append, List.length_singleton]; omega) (by omega)
      | false =>
        have hne : (nxE b q != 0) = true := by unfold bne; rw [hE]; rfl
        rw [tst_f rfl, tst_t hne]
        dsimp only
        unfold fin8
        dsimp only
        rw [hE]
        rfl
theorem lo8_ok : LoopOK EL Try.prog lo8 47 L8 := by
  refine LoopOK.of_run (f := 5) (c := o16) (lo := noLo) T.tok c16 T.mo (fun _ _ => noLo_ok) (fun s M e s' M' t hl hev => ?_)
  unfold lo8 at hl
  split at hl
  · rename_i b b' h1 h3 h4
    obtain rfl := Option.some.inj hl
    obtain ⟨hc, hev2⟩ := br_some hev
    clear hev
    simp only [Bool.and_eq_true, decide_eq_true_eq] at hc
    have hbb : b = b' := by
      have := hc.1
      unfold bytesEq at this
      exact data_eq (by simpa using this)
    subst hbb
    refine ⟨0, b.size + 1, [0, 5], ?_⟩
    simp only [keepT, List.map_cons, List.map_nil, h3, h4]
    exact (l8 b hc.2 (b.size + 1) 0 (b.size + 1) [] (by omega) (by omega) (by simp) (by omega)).trans hev2
  · cases hl
theorem loops8 : ∀ fn b, Try.prog.funcs[5]? = some fn → fn.body = some b → ∀ a ∈ loopsOf b, LoopOK EL Try.prog lo8 fn.ntmps a :=
  loops_of (fun a ha => by
    have e : loopsAt Try.prog 5 = [L8] := by kernel_rfl
    rw [e] at ha
    simp only [List.mem_singleton] at ha
    subst ha
    rw [show ntmpsAt Try.prog 5 = 47 by kernel_rfl]; exact lo8_ok)
theorem q8 (b : ByteArray) : vstep EL Try.prog lo8 0 o16 5 [sv b] [] =
tst (decide ((↑b.size : Int) > 1024))
  (some
    (Sv.tup
        [Sv.one (At.ro true 4 []), Sv.one (At.v (Value.int IntKind.i64 0)), Sv.one (At.v (Value.int IntKind.i64 3))],
      []))
  (chk (bytesEq b b && decide (b.size ≤ 1024))
    (tst ((lexT b).snd.snd == 0)
      (some
        (Sv.tup
            [Sv.one (At.ro true 4 ((lexT b).fst ++ [endT b])), Sv.one (At.v (Value.int IntKind.i64 0)),
              Sv.one (At.v (Value.int IntKind.i64 0))],
          []))
      (some
        (Sv.tup
            [Sv.one (At.ro true 4 []), Sv.one (At.v (Value.int IntKind.i64 (lexT b).snd.fst)),
              Sv.one (At.v (Value.int IntKind.i64 (lexT b).snd.snd))],
          [])))) := by kernel_rfl
/-- What Tokens hands back. -/
def lexL (b : ByteArray) : List (List At) := bif decide ((b.size : Int) > 1024) then [] else bif (lexT b).2.2 == 0 then (lexT b).1 ++ [endT b] else []
def lexA (b : ByteArray) : Int := bif decide ((b.size : Int) > 1024) then 0 else bif (lexT b).2.2 == 0 then 0 else (lexT b).2.1
def lexE (b : ByteArray) : Int := bif decide ((b.size : Int) > 1024) then 3 else bif (lexT b).2.2 == 0 then 0 else (lexT b).2.2
abbrev lexV (b : ByteArray) : Sv := .tup [.one (.ro true 4 (lexL b)), iv (lexA b), iv (lexE b)]
theorem e8 (b : ByteArray) : vstep EL Try.prog lo8 0 o16 5 [sv b] [] = some (lexV b, []) := by
  rw [q8]
  unfold lexV lexL lexA lexE
  cases h : decide ((b.size : Int) > 1024) with
  | true => rfl
  | false =>
    have hb : b.size ≤ 1024 := by have := of_decide_eq_false h; omega
    have k : (bytesEq b b && decide (b.size ≤ 1024)) = true := by rw [decide_eq_true hb]; unfold bytesEq; simp
    rw [tst_f rfl, chk_t k]
    cases h2 : ((lexT b).2.2 == 0) <;> rfl
def o8 : Orc := over o16 5 (Fs fun b => .ok (lexV b, []))
theorem c8 : CallOK EL Try.prog o8 := ok_s T c16 fun b x hx => ⟨lo8, 0, loops8, (e8 b).trans hx⟩
end Go.Proofs.Ytfbdceccefmloab
