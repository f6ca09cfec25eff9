import Derived.Test.YtfbdceccefmloaaLexJ
namespace Go.Proofs.Ytfbdceccefmloaa
open Go Go.Vi Go.IntWalk
set_option maxRecDepth 100000
set_option linter.unusedVariables false
set_option linter.unusedSimpArgs false
def pairOK (b : ByteArray) (x y : List At) : Bool :=
  !(intA (x.getD 0 .bad) == 5) && decide (0 ≤ intA (x.getD 3 .bad)) && decide (intA (x.getD 3 .bad) < intA (y.getD 3 .bad)) && decide (intA (x.getD 3 .bad) ≤ b.size) &&
  (!(intA (x.getD 0 .bad) == 1) || (decide (1 ≤ (strA (x.getD 1 .bad)).size) && decide ((strA (x.getD 1 .bad)).size ≤ 12) && decide (intA (x.getD 3 .bad) + (strA (x.getD 1 .bad)).size ≤ b.size) &&
    bytesEq (b.extract (intA (x.getD 3 .bad)).toNat (intA (x.getD 3 .bad) + (strA (x.getD 1 .bad)).size).toNat) (strA (x.getD 1 .bad))))
def allP (b : ByteArray) (es : List (List At)) : Bool := (List.range (es.length - 1)).all fun i => pairOK b (es.getD i []) (es.getD (i + 1) [])
def lo7 : Lo := fun a s M => match Nat.beq (firstId a) 8, lookT s 9, lookT s 3, lookT s 0, M with
  | true, .one (.v (.int .i64 i)), .one (.ro true 4 es), .one (.v (.string b)), [] =>
    some (.br (i == 0 && areT es && allP b es && decide (es.length ≤ 1025) && decide (b.size ≤ 1024)) (.ok (.exit 0, [(2, .one .bad), (0, sv b), (3, tv es)], [])) .no)
  | _, _, _, _, _ => none

noncomputable abbrev L7 : Code := lcode Try.prog 7 8
theorem r7 (m : Nat) (i : Int) (b : ByteArray) (es : List (List At)) : vround EL 7 o10 noLo 0 156 L7 0 m [(9, iv i), (3, tv es), (0, sv b)] [] =
tst (decide (IntKind.wrap .i64 (i + 1) < (↑es.length : Int)))
  (chk (decide (0 ≤ i))
    (chk (decide (i < (↑es.length : Int)))
      (chk (okRow [SK.i IntKind.i64, SK.s, SK.i IntKind.i64, SK.i IntKind.i64] (es.getD i.toNat []))
        (tst (intA ((es.getD i.toNat []).getD 0 At.bad) == 5)
          (some
            (Ex.ret,
              [(2, Sv.one (At.v (Value.bool false))), (0, Sv.one (At.v (Value.string b))),
                (3, Sv.one (At.ro true 4 es))],
              []))
          (chk (decide (0 ≤ i))
            (chk (decide (i < (↑es.length : Int)))
              (chk (okRow [SK.i IntKind.i64, SK.s, SK.i IntKind.i64, SK.i IntKind.i64] (es.getD i.toNat []))
                (tst (bif false then true else decide (intA ((es.getD i.toNat []).getD 3 At.bad) < 0))
                  (some
                    (Ex.ret,
                      [(2, Sv.one (At.v (Value.bool false))), (0, Sv.one (At.v (Value.string b))),
                        (3, Sv.one (At.ro true 4 es))],
                      []))
                  (chk (decide (0 ≤ i))
                    (chk (decide (i < (↑es.length : Int)))
                      (chk (okRow [SK.i IntKind.i64, SK.s, SK.i IntKind.i64, SK.i IntKind.i64] (es.getD i.toNat []))
                        (chk (decide (0 ≤ IntKind.wrap .i64 (i + 1)))
                          (chk (decide (IntKind.wrap .i64 (i + 1) < (↑es.length : Int)))
                            (chk
                              (okRow [SK.i IntKind.i64, SK.s, SK.i IntKind.i64, SK.i IntKind.i64]
                                (es.getD (IntKind.wrap .i64 (i + 1)).toNat []))
                              (tst
                                (bif false then true
                                else
                                  decide
                                    (intA ((es.getD i.toNat []).getD 3 At.bad) ≥
                                      intA ((es.getD (IntKind.wrap .i64 (i + 1)).toNat []).getD 3 At.bad)))
                                (some
                                  (Ex.ret,
                                    [(2, Sv.one (At.v (Value.bool false))), (0, Sv.one (At.v (Value.string b))),
                                      (3, Sv.one (At.ro true 4 es))],
                                    []))
                                (chk (decide (0 ≤ i))
                                  (chk (decide (i < (↑es.length : Int)))
                                    (chk
                                      (okRow [SK.i IntKind.i64, SK.s, SK.i IntKind.i64, SK.i IntKind.i64]
                                        (es.getD i.toNat []))
                                      (tst (intA ((es.getD i.toNat []).getD 0 At.bad) == 1)
                                        (chk (decide (0 ≤ i))
                                          (chk (decide (i < (↑es.length : Int)))
                                            (chk
                                              (okRow [SK.i IntKind.i64, SK.s, SK.i IntKind.i64, SK.i IntKind.i64]
                                                (es.getD i.toNat []))
                                              (tst
                                                (decide ((↑(strA ((es.getD i.toNat []).getD 1 At.bad)).size : Int) < 1))
                                                (some
                                                  (Ex.ret,
                                                    [(2, Sv.one (At.v (Value.bool false))),
                                                      (0, Sv.one (At.v (Value.string b))),
                                                      (3, Sv.one (At.ro true 4 es))],
                                                    []))
                                                (chk (decide (0 ≤ i))
                                                  (chk (decide (i < (↑es.length : Int)))
                                                    (chk
                                                      (okRow
                                                        [SK.i IntKind.i64, SK.s, SK.i IntKind.i64, SK.i IntKind.i64]
                                                        (es.getD i.toNat []))
                                                      (tst
                                                        (bif false then true
                                                        else
                                                          decide
                                                            ((↑(strA ((es.getD i.toNat []).getD 1 At.bad)).size : Int) >
                                                              12))
                                                        (some
                                                          (Ex.ret,
                                                            [(2, Sv.one (At.v (Value.bool false))),
                                                              (0, Sv.one (At.v (Value.string b))),
                                                              (3, Sv.one (At.ro true 4 es))],
                                                            []))
                                                        (chk (decide (0 ≤ i))
                                                          (chk (decide (i < (↑es.length : Int)))
                                                            (chk
                                                              (okRow
                                                                [SK.i IntKind.i64, SK.s, SK.i IntKind.i64,
                                                                  SK.i IntKind.i64]
                                                                (es.getD i.toNat []))
                                                              (chk (decide (0 ≤ i))
                                                                (chk (decide (i < (↑es.length : Int)))
                                                                  (chk
                                                                    (okRow
                                                                      [SK.i IntKind.i64, SK.s, SK.i IntKind.i64,
                                                                        SK.i IntKind.i64]
                                                                      (es.getD i.toNat []))
                                                                    (tst
                                                                      (bif false then true
                                                                      else
                                                                        decide
                                                                          ((↑(strA
                                                                                    ((es.getD i.toNat []).getD 1
                                                                                      At.bad)).size :
                                                                              Int) >
                                                                            IntKind.wrap .i64
                                                                              ((↑b.size : Int) -
                                                                                intA
                                                                                  ((es.getD i.toNat []).getD 3
                                                                                    At.bad))))
                                                                      (some
                                                                        (Ex.ret,
                                                                          [(2, Sv.one (At.v (Value.bool false))),
                                                                            (0, Sv.one (At.v (Value.string b))),
                                                                            (3, Sv.one (At.ro true 4 es))],
                                                                          []))
                                                                      (chk (decide (0 ≤ i))
                                                                        (chk (decide (i < (↑es.length : Int)))
                                                                          (chk
                                                                            (okRow
                                                                              [SK.i IntKind.i64, SK.s, SK.i IntKind.i64,
                                                                                SK.i IntKind.i64]
                                                                              (es.getD i.toNat []))
                                                                            (chk (decide (0 ≤ i))
                                                                              (chk (decide (i < (↑es.length : Int)))
                                                                                (chk
                                                                                  (okRow
                                                                                    [SK.i IntKind.i64, SK.s,
                                                                                      SK.i IntKind.i64,
                                                                                      SK.i IntKind.i64]
                                                                                    (es.getD i.toNat []))
                                                                                  (chk (decide (0 ≤ i))
                                                                                    (chk
                                                                                      (decide (i < (↑es.length : Int)))
                                                                                      (chk
                                                                                        (okRow
                                                                                          [SK.i IntKind.i64, SK.s,
                                                                                            SK.i IntKind.i64,
                                                                                            SK.i IntKind.i64]
                                                                                          (es.getD i.toNat []))
                                                                                        (chk
                                                                                          (decide
                                                                                            (0 ≤
                                                                                              intA
                                                                                                ((es.getD i.toNat
                                                                                                      []).getD
                                                                                                  3 At.bad)))
                                                                                          (chk
                                                                                            (decide
                                                                                              (intA
                                                                                                  ((es.getD i.toNat
                                                                                                        []).getD
                                                                                                    3 At.bad) ≤
                                                                                                IntKind.wrap .i64
                                                                                                  (intA
                                                                                                      ((es.getD i.toNat
                                                                                                            []).getD
                                                                                                        3 At.bad) +
                                                                                                    (↑(strA
                                                                                                            ((es.getD
                                                                                                                  i.toNat
                                                                                                                  []).getD
                                                                                                              1
                                                                                                              At.bad)).size :
                                                                                                      Int))))
                                                                                            (chk
                                                                                              (decide
                                                                                                (IntKind.wrap .i64
                                                                                                    (intA
                                                                                                        ((es.getD
                                                                                                              i.toNat
                                                                                                              []).getD
                                                                                                          3 At.bad) +
                                                                                                      (↑(strA
                                                                                                              ((es.getD
                                                                                                                    i.toNat
                                                                                                                    []).getD
                                                                                                                1
                                                                                                                At.bad)).size :
                                                                                                        Int)) ≤
                                                                                                  (↑b.size : Int)))
                                                                                              (chk (decide (0 ≤ i))
                                                                                                (chk
                                                                                                  (decide
                                                                                                    (i <
                                                                                                      (↑es.length :
                                                                                                        Int)))
                                                                                                  (chk
                                                                                                    (okRow
                                                                                                      [SK.i IntKind.i64,
                                                                                                        SK.s,
                                                                                                        SK.i
                                                                                                          IntKind.i64,
                                                                                                        SK.i
                                                                                                          IntKind.i64]
                                                                                                      (es.getD i.toNat
                                                                                                        []))
                                                                                                    (tst
                                                                                                      (bif false then
                                                                                                        true
                                                                                                      else
                                                                                                        bif true then
                                                                                                          bif false then
                                                                                                            true
                                                                                                          else
                                                                                                            !bytesEq
                                                                                                                (b.extract
                                                                                                                  (intA
                                                                                                                      ((es.getD
                                                                                                                            i.toNat
                                                                                                                            []).getD
                                                                                                                        3
                                                                                                                        At.bad)).toNat
                                                                                                                  (IntKind.wrap .i64
                                                                                                                      (intA
                                                                                                                          ((es.getD
                                                                                                                                i.toNat
                                                                                                                                []).getD
                                                                                                                            3
                                                                                                                            At.bad) +
                                                                                                                        (↑(strA
                                                                                                                                ((es.getD
                                                                                                                                      i.toNat
                                                                                                                                      []).getD
                                                                                                                                  1
                                                                                                                                  At.bad)).size :
                                                                                                                          Int))).toNat)
                                                                                                                (strA
                                                                                                                  ((es.getD
                                                                                                                        i.toNat
                                                                                                                        []).getD
                                                                                                                    1
                                                                                                                    At.bad))
                                                                                                        else false)
                                                                                                      (some
                                                                                                        (Ex.ret,
                                                                                                          [(2,
                                                                                                              Sv.one
                                                                                                                (At.v
                                                                                                                  (Value.bool
                                                                                                                    false))),
                                                                                                            (0,
                                                                                                              Sv.one
                                                                                                                (At.v
                                                                                                                  (Value.string
                                                                                                                    b))),
                                                                                                            (3,
                                                                                                              Sv.one
                                                                                                                (At.ro
                                                                                                                  true 4
                                                                                                                  es))],
                                                                                                          []))
                                                                                                      (vloop EL 7 o10 noLo 0 156 L7 0 m
                                                                                                        [(9,
                                                                                                            Sv.one
                                                                                                              (At.v
                                                                                                                (Value.int
                                                                                                                  IntKind.i64
                                                                                                                  (IntKind.wrap .i64
                                                                                                                    (i +
                                                                                                                      1))))),
                                                                                                          (3,
                                                                                                            Sv.one
                                                                                                              (At.ro
                                                                                                                true 4
                                                                                                                es)),
                                                                                                          (0,
                                                                                                            Sv.one
                                                                                                              (At.v
                                                                                                                (Value.string
                                                                                                                  b)))]
                                                                                                        []))))))))))))))))))))))))))))))))
                                        (vloop EL 7 o10 noLo 0 156 L7 0 m
                                          [(9, Sv.one (At.v (Value.int IntKind.i64 (IntKind.wrap .i64 (i + 1))))),
                                            (3, Sv.one (At.ro true 4 es)), (0, Sv.one (At.v (Value.string b)))]
                                          []))))))))))))))))))))
  (some (Ex.exit 0, [(2, Sv.one At.bad), (0, Sv.one (At.v (Value.string b))), (3, Sv.one (At.ro true 4 es))], [])) := by kernel_rfl
theorem l7 (b : ByteArray) (es : List (List At)) (ha : areT es = true) (hp : ∀ i, i + 1 < es.length → pairOK b (es.getD i []) (es.getD (i + 1) []) = true) (he : es.length ≤ 1025) (hb : b.size ≤ 1024) : ∀ (k i m : Nat), i + k = es.length → k < m →
    vloop EL 7 o10 noLo 0 156 L7 0 m [(9, iv i), (3, tv es), (0, sv b)] [] = some (.exit 0, [(2, .one .bad), (0, sv b), (3, tv es)], [])
  | 0, i, m + 1, hi, hm => by
    have e : IntKind.wrap .i64 ((i : Int) + 1) = ((i + 1 : Nat) : Int) := by rw [i64_in _ ⟨by omega, by omega⟩]; rfl
    rw [vloop_succ, r7, e, tst_f (decide_eq_false (by omega))]
  | k + 1, i, m + 1, hi, hm => by
    have e : IntKind.wrap .i64 ((i : Int) + 1) = ((i + 1 : Nat) : Int) := by rw [i64_in _ ⟨by omega, by omega⟩]; rfl
    rw [vloop_succ, r7, e]
    by_cases hlt : i + 1 < es.length
    · have k0 : decide (((i + 1 : Nat) : Int) < (es.length : Int)) = true := decide_eq_true (by omega)
      have k1 : decide (0 ≤ (i : Int)) = true := decide_eq_true (by omega)
      have k2 : decide ((i : Int) < (es.length : Int)) = true := decide_eq_true (by omega)
      have k3 : decide (0 ≤ ((i + 1 : Nat) : Int)) = true := decide_eq_true (by omega)
      have g1 := areT_get ha (i := i) (by omega)
      have g2 := areT_get ha (i := i + 1) hlt
      have hpp := hp i hlt
      rw [show ((i : Int)).toNat = i from rfl, show (((i + 1 : Nat) : Int)).toNat = i + 1 from rfl]
      generalize es.getD i [] = x at *
      generalize es.getD (i + 1) [] = y at *
      unfold pairOK at hpp
      generalize hA : intA (x.getD 3 At.bad) = A at *
      generalize hB : intA (y.getD 3 At.bad) = A2 at *
      generalize hK : intA (x.getD 0 At.bad) = kd at *
      generalize hT : strA (x.getD 1 At.bad) = t at *
      simp only [Bool.and_eq_true, Bool.not_eq_true', decide_eq_true_eq, Bool.or_eq_true] at hpp
      obtain ⟨⟨⟨⟨p1, p2⟩, p3⟩, p3'⟩, p4⟩ := hpp
      have a2 : decide (A < 0) = false := decide_eq_false (by omega)
      have a3 : decide (A ≥ A2) = false := decide_eq_false (by omega)
      simp only [k0, k1, k2, k3, g1, g2, p1, a2, a3, tt, tf, ct, cond_true, cond_false]
      cases h1 : (kd == 1) with
      | false => rw [tf]; exact l7 b es ha hp he hb k (i + 1) m (by omega) (by omega)
      | true =>
        rcases p4 with p4 | ⟨⟨⟨q1, q2⟩, q3⟩, q4⟩
        · rw [h1] at p4; cases p4
        · have b1 : decide ((t.size : Int) < 1) = false := decide_eq_false (by omega)
          have b2 : decide ((t.size : Int) > 12) = false := decide_eq_false (by omega)
          have w1 : IntKind.wrap .i64 ((b.size : Int) - A) = (b.size : Int) - A := i64_in _ ⟨by omega, by omega⟩
          have w2 : IntKind.wrap .i64 (A + (t.size : Int)) = A + (t.size : Int) := i64_in _ ⟨by omega, by omega⟩
          have b3 : decide ((t.size : Int) > (b.size : Int) - A) = false := decide_eq_false (by omega)
          have b4 : decide (0 ≤ A) = true := decide_eq_true p2
          have b5 : decide (A ≤ A + (t.size : Int)) = true := decide_eq_true (by omega)
          have b6 : decide (A + (t.size : Int) ≤ (b.size : Int)) = true := decide_eq_true (by omega)
          simp only [b1, b2, w1, w2, b3, b4, b5, b6, q4, tt, tf, ct, cond_true, cond_false, Bool.not_true]
          exact l7 b es ha hp he hb k (i + 1) m (by omega) (by omega)
    · rw [tst_f (decide_eq_false (by omega))]
theorem lo7_ok : LoopOK EL Try.prog lo7 156 L7 := by
  refine LoopOK.of_run (f := 7) (c := o10) (lo := noLo) T.tok c10 T.mo (fun _ _ => noLo_ok) (fun s M e s' M' t hl hev => ?_)
  unfold lo7 at hl
  split at hl
  · rename_i i es b h1 h3 h4 h5
    obtain rfl := Option.some.inj hl
    obtain ⟨hc, hev2⟩ := br_some hev
    clear hev
    simp only [Bool.and_eq_true, decide_eq_true_eq, beq_iff_eq] at hc
    obtain ⟨⟨⟨⟨rfl, ha⟩, hp⟩, he⟩, hb⟩ := hc
    refine ⟨0, es.length + 1, [9, 3, 0], ?_⟩
    simp only [keepT, List.map_cons, List.map_nil, h3, h4, h5]
    refine (l7 b es ha (fun i hi => ?_) he hb es.length 0 (es.length + 1) (by omega) (by omega)).trans hev2
    exact List.all_eq_true.1 hp i (List.mem_range.2 (by omega))
  · cases hl
theorem loops7 : ∀ fn b, Try.prog.funcs[7]? = some fn → fn.body = some b → ∀ a ∈ loopsOf b, LoopOK EL Try.prog lo7 fn.ntmps a :=
  loops_of (fun a ha => by
    have e : loopsAt Try.prog 7 = [L7] := by kernel_rfl
    rw [e] at ha
    simp only [List.mem_singleton] at ha
    subst ha
    rw [show ntmpsAt Try.prog 7 = 156 by kernel_rfl]; exact lo7_ok)
theorem q7 (b : ByteArray) : vstep EL Try.prog lo7 0 o10 7 [sv b] [] =
tst (lexE b != 0)
  (tst (bif true then (↑(lexL b).length : Int) == 0 else false)
    (some (Sv.one (At.v (Value.bool (bif true then lexE b == lexE b else false))), []))
    (some (Sv.one (At.v (Value.bool false)), [])))
  (tst ((↑(lexL b).length : Int) == 0) (some (Sv.one (At.v (Value.bool false)), []))
    (chk (true && areT (lexL b) && allP b (lexL b) && decide ((lexL b).length ≤ 1025) && decide (b.size ≤ 1024))
      (chk (decide (0 ≤ IntKind.wrap .i64 ((↑(lexL b).length : Int) - 1)))
        (chk (decide (IntKind.wrap .i64 ((↑(lexL b).length : Int) - 1) < (↑(lexL b).length : Int)))
          (chk
            (okRow [SK.i IntKind.i64, SK.s, SK.i IntKind.i64, SK.i IntKind.i64]
              ((lexL b).getD (IntKind.wrap .i64 ((↑(lexL b).length : Int) - 1)).toNat []))
            (some
              (Sv.one
                  (At.v
                    (Value.bool
                      (bif true then
                        intA
                              (((lexL b).getD (IntKind.wrap .i64 ((↑(lexL b).length : Int) - 1)).toNat []).getD 0
                                At.bad) ==
                            5 &&
                          (bytesEq
                              (strA
                                (((lexL b).getD (IntKind.wrap .i64 ((↑(lexL b).length : Int) - 1)).toNat []).getD 1
                                  At.bad))
                              { data := { toList := [] } } &&
                            (intA
                                  (((lexL b).getD (IntKind.wrap .i64 ((↑(lexL b).length : Int) - 1)).toNat []).getD 2
                                    At.bad) ==
                                0 &&
                              (intA
                                    (((lexL b).getD (IntKind.wrap .i64 ((↑(lexL b).length : Int) - 1)).toNat []).getD 3
                                      At.bad) ==
                                  (↑b.size : Int) &&
                                true)))
                      else false))),
                []))))))) := by kernel_rfl
/-! ### the plain law -/
/-- Tokens, one behind the other. -/
def chainT (b : ByteArray) : Nat → List (List At) → Prop
  | lo, [] => True
  | lo, x :: xs => ∃ q : Nat, lo ≤ q ∧ q < b.size ∧ x = tokP b q ∧ (nxE b q == 0) = true ∧ ∃ j : Nat, nxQ b q = j ∧ chainT b j xs
theorem lexP_chain {b : ByteArray} : ∀ (k i : Nat) (es : List (List At)), i ≤ b.size → ∃ ts, (lexP b k i es).1 = es ++ ts ∧ chainT b i ts
  | 0, i, es, hi => ⟨[], by unfold lexP; simp, trivial⟩
  | k + 1, i, es, hi => by
    have hge := runTo_ge spaceB b i hi
    obtain ⟨q, hq⟩ := Int.eq_ofNat_of_zero_le (show 0 ≤ runTo spaceB b i by omega)
    have hq' : runTo spaceB b i = (q : Int) := hq
    unfold lexP
    rw [hq'] at hge ⊢
    cases hs : ((q : Int) == (b.size : Int)) with
    | true => exact ⟨[], by simp, trivial⟩
    | false =>
      have hlt : q < b.size := by
        have : ¬ ((q : Int) = (b.size : Int)) := by simpa using hs
        omega
      obtain ⟨j, hj, hj1, hj2⟩ := nxQ_gt hlt
      dsimp only
      cases hE : (nxE b q == 0) with
      | true =>
        dsimp only
        obtain ⟨ts, h1, h2⟩ := lexP_chain k j (es ++ [tokP b q]) hj1
        rw [hj]
        exact ⟨tokP b q :: ts, by rw [h1, List.append_assoc]; rfl, q, by omega, hlt, rfl, hE, j, hj, h2⟩
      | false => exact ⟨[], by simp, trivial⟩
theorem tok_pair {b : ByteArray} {q j : Nat} {y : List At} (hq : q < b.size) (hE : (nxE b q == 0) = true) (hj : nxQ b q = j) (hy : (j : Int) ≤ intA (y.getD 3 .bad)) : pairOK b (tokP b q) y = true := by
  obtain ⟨j', h1, h2, h3⟩ := nxQ_gt hq
  have hjj : j' = j := by rw [h1] at hj; omega
  subst hjj
  have h3 := h3 hE
  have hsz : (seg b q).size = j' - q := by unfold seg; rw [hj]; exact ext_len (by omega) h2
  have hk : kindC (byP b q) = 1 ∨ kindC (byP b q) = 2 ∨ kindC (byP b q) = 3 ∨ kindC (byP b q) = 4 := by
    unfold kindC
    unfold nxE at hE
    cases e1 : smallB (byP b q) with
    | true => exact .inl rfl
    | false =>
      cases e2 : capB (byP b q) with
      | true => exact .inr (.inl rfl)
      | false =>
        cases e3 : digB (byP b q) with
        | true => exact .inr (.inr (.inl rfl))
        | false =>
          cases e4 : punB (byP b q) with
          | true => exact .inr (.inr (.inr rfl))
          | false => rw [e1, e2, e3, e4] at hE; cases hE
  have h5 : (kindC (byP b q) == 5) = false := by rcases hk with h | h | h | h <;> rw [h] <;> rfl
  have hA : intA ((tokP b q).getD 3 .bad) = (q : Int) := rfl
  have hK : intA ((tokP b q).getD 0 .bad) = kindC (byP b q) := rfl
  have hT : strA ((tokP b q).getD 1 .bad) = nxT b q := rfl
  unfold pairOK
  rw [hA, hK, hT, h5, decide_eq_true (show 0 ≤ (q : Int) by omega), decide_eq_true (show (q : Int) < intA (y.getD 3 .bad) by omega), decide_eq_true (show (q : Int) ≤ (b.size : Int) by omega)]
  cases e1 : smallB (byP b q) with
  | false =>
    have : (kindC (byP b q) == 1) = false := by
      unfold kindC
      rw [e1]
      cases capB (byP b q) <;> cases digB (byP b q) <;> cases punB (byP b q) <;> rfl
    rw [this]; rfl
  | true =>
    have hnt : nxT b q = seg b q := by unfold nxT; rw [e1]; rfl
    have hE' := hE
    unfold nxE at hE'
    rw [e1] at hE'
    have h12 : ¬ ((seg b q).size : Int) > 12 := by
      intro h
      rw [decide_eq_true h] at hE'
      cases hE'
    have hseg : seg b q = b.extract q j' := by unfold seg; rw [hj]; rfl
    rw [hnt, decide_eq_true (show 1 ≤ (seg b q).size by omega), decide_eq_true (show (seg b q).size ≤ 12 by omega), decide_eq_true (show (q : Int) + ((seg b q).size : Int) ≤ (b.size : Int) by omega)]
    have hx : ((q : Int) + ((seg b q).size : Int)).toNat = j' := by omega
    rw [hx, show ((q : Int)).toNat = q from rfl, ← hseg]
    have : bytesEq (seg b q) (seg b q) = true := by unfold bytesEq; simp
    rw [this]
    cases (kindC (byP b q) == 1) <;> rfl
theorem chain_pairs {b : ByteArray} : ∀ (ts : List (List At)) (lo : Nat), chainT b lo ts → (∀ i, i + 1 < (ts ++ [endT b]).length → pairOK b ((ts ++ [endT b]).getD i []) ((ts ++ [endT b]).getD (i + 1) []) = true) ∧ (lo ≤ b.size → (lo : Int) ≤ intA (((ts ++ [endT b]).getD 0 []).getD 3 .bad))
  | [], lo, _ => ⟨fun i hi => by simp at hi, fun h => by show (lo : Int) ≤ (b.size : Int); omega⟩
  | x :: ts, lo, h => by
    obtain ⟨q, h1, h2, rfl, hE, j, hj, hch⟩ := h
    obtain ⟨j', k1, k2, k3⟩ := nxQ_gt h2
    have hjj : j' = j := by rw [k1] at hj; omega
    subst hjj
    obtain ⟨ih1, ih2⟩ := chain_pairs ts j' hch
    refine ⟨fun i hi => ?_, fun _ => ?_⟩
    · cases i with
      | zero =>
        show pairOK b (tokP b q) ((ts ++ [endT b]).getD 0 []) = true
        exact tok_pair h2 hE hj (ih2 k2)
      | succ i => exact ih1 i (by simpa using hi)
    · show (lo : Int) ≤ (q : Int)
      omega
theorem e7 (b : ByteArray) : vstep EL Try.prog lo7 0 o10 7 [sv b] [] = some (bv true, []) := by
  rw [q7]
  by_cases hb : b.size ≤ 1024
  · have hd : decide ((b.size : Int) > 1024) = false := decide_eq_false (by omega)
    cases h2 : ((lexT b).2.2 == 0) with
    | true =>
      have hE : lexE b = 0 := by unfold lexE; rw [hd, h2]; rfl
      have hL : lexL b = (lexT b).1 ++ [endT b] := by unfold lexL; rw [hd, h2]; rfl
      obtain ⟨ts, h3, h4⟩ := lexP_chain (b := b) (b.size + 1) 0 [] (by omega)
      have hts : (lexT b).1 = ts := by
        have h3' : (lexT b).1 = [] ++ ts := h3
        rw [h3', List.nil_append]
      rw [hts] at hL
      have hp := (chain_pairs ts 0 h4).1
      have hall : allP b (lexL b) = true := by
        unfold allP
        rw [hL]
        exact List.all_eq_true.2 fun i hi => hp i (by have := List.mem_range.1 hi; omega)
      have hlen := lexL_len b
      have hpos : (lexL b).length = ts.length + 1 := by rw [hL]; simp
      have w : IntKind.wrap .i64 (((lexL b).length : Int) - 1) = (ts.length : Int) := (i64_in _ ⟨by omega, by omega⟩).trans (by omega)
      have hlast : (lexL b).getD ts.length [] = endT b := by rw [hL]; simp
      have hok := areT_get (lexL_are b) (i := ts.length) (by omega)
      have c0 : (lexE b != 0) = false := by rw [hE]; rfl
      have c1 : (((lexL b).length : Int) == 0) = false := by rw [beq_eq_false_iff_ne]; omega
      have c2 : decide ((lexL b).length ≤ 1025) = true := decide_eq_true hlen
      have c3 : decide (b.size ≤ 1024) = true := decide_eq_true hb
      have c4 : decide (0 ≤ (ts.length : Int)) = true := decide_eq_true (by omega)
      have c5 : decide ((ts.length : Int) < ((lexL b).length : Int)) = true := decide_eq_true (by omega)
      rw [w, show ((ts.length : Int)).toNat = ts.length from rfl, c0, c1, lexL_are, hall, c2, c3, c4, c5, hok, hlast]
      have e1 : intA ((endT b).getD 3 .bad) = (b.size : Int) := rfl
      rw [e1]
      simp only [beq_self_eq_true]
      rfl
    | false =>
      have hE : lexE b = (lexT b).2.2 := by unfold lexE; rw [hd, h2]; rfl
      have hL : lexL b = [] := by unfold lexL; rw [hd, h2]; rfl
      have c0 : (lexE b != 0) = true := by rw [hE]; unfold bne; rw [h2]; rfl
      rw [c0, hL, beq_self_eq_true]
      rfl
  · have hd : decide ((b.size : Int) > 1024) = true := decide_eq_true (by omega)
    have hE : lexE b = 3 := by unfold lexE; rw [hd]; rfl
    have hL : lexL b = [] := by unfold lexL; rw [hd]; rfl
    rw [hE, hL]
    rfl
end Go.Proofs.Ytfbdceccefmloaa
