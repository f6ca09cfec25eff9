/- A process as bytes, read. -/
import Derived.Test.YtkpdcieoiciapaaDoorIdU
namespace Go.Proofs.YtkpdcieoiciapaaDoor
open Go Go.Vi Go.IntWalk
set_option maxRecDepth 100000
set_option linter.unusedVariables false
set_option linter.unusedSimpArgs false
noncomputable section

def mN (b : List (List At)) : Nat := (mUintN b).toNat
def mProc (b : List (List At)) : Int × Int × Int × Int × Int :=
  bif mUintE b != 0 then (0, 0, 0, 0, mUintE b)
  else bif mUintE (b.drop (mN b)) != 0 then (0, 0, 0, 0, mUintE (b.drop (mN b)))
  else bif mUintE (b.drop (mN b + mN (b.drop (mN b)))) != 0 then (0, 0, 0, 0, mUintE (b.drop (mN b + mN (b.drop (mN b)))))
  else bif mValidProc (mUintV b) (mUintV (b.drop (mN b))) (mUintV (b.drop (mN b + mN (b.drop (mN b))))) then
    (mUintV b, mUintV (b.drop (mN b)), mUintV (b.drop (mN b + mN (b.drop (mN b)))), ((mN b + mN (b.drop (mN b)) + mN (b.drop (mN b + mN (b.drop (mN b)))) : Nat) : Int), 0)
  else (0, 0, 0, 0, 2)
def mProcA (b : List (List At)) : Int := (mProc b).1
def mProcC (b : List (List At)) : Int := (mProc b).2.1
def mProcD (b : List (List At)) : Int := (mProc b).2.2.1
def mProcN (b : List (List At)) : Int := (mProc b).2.2.2.1
def mProcE (b : List (List At)) : Int := (mProc b).2.2.2.2
theorem q31 (b : List (List At)) : vstep EL Tryd.prog noLo 5 o49 31 [rb b] [] =
chk (decide ((↑b.length : Int) ≤ (↑b.length : Int)))
  (chk (gd (OkB (List.drop 0 (List.take (↑b.length : Int).toNat b))))
    (tst (mUintE (List.drop 0 (List.take (↑b.length : Int).toNat b)) != 0)
      (some
        (Sv.tup
            [Sv.agg [At.v (Value.int IntKind.i64 0), At.v (Value.int IntKind.i64 0), At.v (Value.int IntKind.i64 0)],
              Sv.one (At.v (Value.int IntKind.i64 0)),
              Sv.one (At.v (Value.int IntKind.i64 (mUintE (List.drop 0 (List.take (↑b.length : Int).toNat b)))))],
          []))
      (tst (decide (mUintV (List.drop 0 (List.take (↑b.length : Int).toNat b)) > 999))
        (chk (decide (0 ≤ IntKind.wrap .i64 (0 + mUintN (List.drop 0 (List.take (↑b.length : Int).toNat b)))))
          (chk
            (decide
              (IntKind.wrap .i64 (0 + mUintN (List.drop 0 (List.take (↑b.length : Int).toNat b))) ≤ (↑b.length : Int)))
            (chk (decide ((↑b.length : Int) ≤ (↑b.length : Int)))
              (chk
                (gd
                  (OkB
                    (List.drop (IntKind.wrap .i64 (0 + mUintN (List.drop 0 (List.take (↑b.length : Int).toNat b)))).toNat
                      (List.take (↑b.length : Int).toNat b))))
                (tst
                  (mUintE
                      (List.drop
                        (IntKind.wrap .i64 (0 + mUintN (List.drop 0 (List.take (↑b.length : Int).toNat b)))).toNat
                        (List.take (↑b.length : Int).toNat b)) !=
                    0)
                  (some
                    (Sv.tup
                        [Sv.agg
                            [At.v (Value.int IntKind.i64 0), At.v (Value.int IntKind.i64 0),
                              At.v (Value.int IntKind.i64 0)],
                          Sv.one (At.v (Value.int IntKind.i64 0)),
                          Sv.one
                            (At.v
                              (Value.int IntKind.i64
                                (mUintE
                                  (List.drop
                                    (IntKind.wrap .i64
                                        (0 + mUintN (List.drop 0 (List.take (↑b.length : Int).toNat b)))).toNat
                                    (List.take (↑b.length : Int).toNat b)))))],
                      []))
                  (tst
                    (decide
                      (mUintV
                          (List.drop
                            (IntKind.wrap .i64 (0 + mUintN (List.drop 0 (List.take (↑b.length : Int).toNat b)))).toNat
                            (List.take (↑b.length : Int).toNat b)) >
                        999))
                    (chk
                      (decide
                        (0 ≤
                          IntKind.wrap .i64
                            (IntKind.wrap .i64 (0 + mUintN (List.drop 0 (List.take (↑b.length : Int).toNat b))) +
                              mUintN
                                (List.drop
                                  (IntKind.wrap .i64
                                      (0 + mUintN (List.drop 0 (List.take (↑b.length : Int).toNat b)))).toNat
                                  (List.take (↑b.length : Int).toNat b)))))
                      (chk
                        (decide
                          (IntKind.wrap .i64
                              (IntKind.wrap .i64 (0 + mUintN (List.drop 0 (List.take (↑b.length : Int).toNat b))) +
                                mUintN
                                  (List.drop
                                    (IntKind.wrap .i64
                                        (0 + mUintN (List.drop 0 (List.take (↑b.length : Int).toNat b)))).toNat
                                    (List.take (↑b.length : Int).toNat b))) ≤
                            (↑b.length : Int)))
                        (chk (decide ((↑b.length : Int) ≤ (↑b.length : Int)))
                          (chk
                            (gd
                              (OkB
                                (List.drop
                                  (IntKind.wrap .i64
                                      (IntKind.wrap .i64
                                          (0 + mUintN (List.drop 0 (List.take (↑b.length : Int).toNat b))) +
                                        mUintN
                                          (List.drop
                                            (IntKind.wrap .i64
                                                (0 + mUintN (List.drop 0 (List.take (↑b.length : Int).toNat b)))).toNat
                                            (List.take (↑b.length : Int).toNat b)))).toNat
                                  (List.take (↑b.length : Int).toNat b))))
                            (tst
                              (mUintE
                                  (List.drop
                                    (IntKind.wrap .i64
                                        (IntKind.wrap .i64
                                            (0 + mUintN (List.drop 0 (List.take (↑b.length : Int).toNat b))) +
                                          mUintN
                                            (List.drop
                                              (IntKind.wrap .i64
                                                  (0 +
                                                    mUintN (List.drop 0 (List.take (↑b.length : Int).toNat b)))).toNat
                                              (List.take (↑b.length : Int).toNat b)))).toNat
                                    (List.take (↑b.length : Int).toNat b)) !=
                                0)
                              (some
                                (Sv.tup
                                    [Sv.agg
                                        [At.v (Value.int IntKind.i64 0), At.v (Value.int IntKind.i64 0),
                                          At.v (Value.int IntKind.i64 0)],
                                      Sv.one (At.v (Value.int IntKind.i64 0)),
                                      Sv.one
                                        (At.v
                                          (Value.int IntKind.i64
                                            (mUintE
                                              (List.drop
                                                (IntKind.wrap .i64
                                                    (IntKind.wrap .i64
                                                        (0 +
                                                          mUintN (List.drop 0 (List.take (↑b.length : Int).toNat b))) +
                                                      mUintN
                                                        (List.drop
                                                          (IntKind.wrap .i64
                                                              (0 +
                                                                mUintN
                                                                  (List.drop 0
                                                                    (List.take (↑b.length : Int).toNat b)))).toNat
                                                          (List.take (↑b.length : Int).toNat b)))).toNat
                                                (List.take (↑b.length : Int).toNat b)))))],
                                  []))
                              (tst
                                (decide
                                  (mUintV
                                      (List.drop
                                        (IntKind.wrap .i64
                                            (IntKind.wrap .i64
                                                (0 + mUintN (List.drop 0 (List.take (↑b.length : Int).toNat b))) +
                                              mUintN
                                                (List.drop
                                                  (IntKind.wrap .i64
                                                      (0 +
                                                        mUintN
                                                          (List.drop 0 (List.take (↑b.length : Int).toNat b)))).toNat
                                                  (List.take (↑b.length : Int).toNat b)))).toNat
                                        (List.take (↑b.length : Int).toNat b)) >
                                    999))
                                (some
                                  (Sv.tup
                                      [Sv.agg
                                          [At.v (Value.int IntKind.i64 0), At.v (Value.int IntKind.i64 0),
                                            At.v (Value.int IntKind.i64 0)],
                                        Sv.one (At.v (Value.int IntKind.i64 0)),
                                        Sv.one (At.v (Value.int IntKind.i64 2))],
                                    []))
                                (some
                                  (Sv.tup
                                      [Sv.agg
                                          [At.v (Value.int IntKind.i64 0), At.v (Value.int IntKind.i64 0),
                                            At.v (Value.int IntKind.i64 0)],
                                        Sv.one (At.v (Value.int IntKind.i64 0)),
                                        Sv.one (At.v (Value.int IntKind.i64 2))],
                                    []))))))))
                    (chk
                      (decide
                        (0 ≤
                          IntKind.wrap .i64
                            (IntKind.wrap .i64 (0 + mUintN (List.drop 0 (List.take (↑b.length : Int).toNat b))) +
                              mUintN
                                (List.drop
                                  (IntKind.wrap .i64
                                      (0 + mUintN (List.drop 0 (List.take (↑b.length : Int).toNat b)))).toNat
                                  (List.take (↑b.length : Int).toNat b)))))
                      (chk
                        (decide
                          (IntKind.wrap .i64
                              (IntKind.wrap .i64 (0 + mUintN (List.drop 0 (List.take (↑b.length : Int).toNat b))) +
                                mUintN
                                  (List.drop
                                    (IntKind.wrap .i64
                                        (0 + mUintN (List.drop 0 (List.take (↑b.length : Int).toNat b)))).toNat
                                    (List.take (↑b.length : Int).toNat b))) ≤
                            (↑b.length : Int)))
                        (chk (decide ((↑b.length : Int) ≤ (↑b.length : Int)))
                          (chk
                            (gd
                              (OkB
                                (List.drop
                                  (IntKind.wrap .i64
                                      (IntKind.wrap .i64
                                          (0 + mUintN (List.drop 0 (List.take (↑b.length : Int).toNat b))) +
                                        mUintN
                                          (List.drop
                                            (IntKind.wrap .i64
                                                (0 + mUintN (List.drop 0 (List.take (↑b.length : Int).toNat b)))).toNat
                                            (List.take (↑b.length : Int).toNat b)))).toNat
                                  (List.take (↑b.length : Int).toNat b))))
                            (tst
                              (mUintE
                                  (List.drop
                                    (IntKind.wrap .i64
                                        (IntKind.wrap .i64
                                            (0 + mUintN (List.drop 0 (List.take (↑b.length : Int).toNat b))) +
                                          mUintN
                                            (List.drop
                                              (IntKind.wrap .i64
                                                  (0 +
                                                    mUintN (List.drop 0 (List.take (↑b.length : Int).toNat b)))).toNat
                                              (List.take (↑b.length : Int).toNat b)))).toNat
                                    (List.take (↑b.length : Int).toNat b)) !=
                                0)
                              (some
                                (Sv.tup
                                    [Sv.agg
                                        [At.v (Value.int IntKind.i64 0), At.v (Value.int IntKind.i64 0),
                                          At.v (Value.int IntKind.i64 0)],
                                      Sv.one (At.v (Value.int IntKind.i64 0)),
                                      Sv.one
                                        (At.v
                                          (Value.int IntKind.i64
                                            (mUintE
                                              (List.drop
                                                (IntKind.wrap .i64
                                                    (IntKind.wrap .i64
                                                        (0 +
                                                          mUintN (List.drop 0 (List.take (↑b.length : Int).toNat b))) +
                                                      mUintN
                                                        (List.drop
                                                          (IntKind.wrap .i64
                                                              (0 +
                                                                mUintN
                                                                  (List.drop 0
                                                                    (List.take (↑b.length : Int).toNat b)))).toNat
                                                          (List.take (↑b.length : Int).toNat b)))).toNat
                                                (List.take (↑b.length : Int).toNat b)))))],
                                  []))
                              (tst
                                (decide
                                  (mUintV
                                      (List.drop
                                        (IntKind.wrap .i64
                                            (IntKind.wrap .i64
                                                (0 + mUintN (List.drop 0 (List.take (↑b.length : Int).toNat b))) +
                                              mUintN
                                                (List.drop
                                                  (IntKind.wrap .i64
                                                      (0 +
                                                        mUintN
                                                          (List.drop 0 (List.take (↑b.length : Int).toNat b)))).toNat
                                                  (List.take (↑b.length : Int).toNat b)))).toNat
                                        (List.take (↑b.length : Int).toNat b)) >
                                    999))
                                (some
                                  (Sv.tup
                                      [Sv.agg
                                          [At.v (Value.int IntKind.i64 0), At.v (Value.int IntKind.i64 0),
                                            At.v (Value.int IntKind.i64 0)],
                                        Sv.one (At.v (Value.int IntKind.i64 0)),
                                        Sv.one (At.v (Value.int IntKind.i64 2))],
                                    []))
                                (some
                                  (Sv.tup
                                      [Sv.agg
                                          [At.v (Value.int IntKind.i64 0), At.v (Value.int IntKind.i64 0),
                                            At.v (Value.int IntKind.i64 0)],
                                        Sv.one (At.v (Value.int IntKind.i64 0)),
                                        Sv.one (At.v (Value.int IntKind.i64 2))],
                                    []))))))))))))))
        (chk (decide (0 ≤ IntKind.wrap .i64 (0 + mUintN (List.drop 0 (List.take (↑b.length : Int).toNat b)))))
          (chk
            (decide
              (IntKind.wrap .i64 (0 + mUintN (List.drop 0 (List.take (↑b.length : Int).toNat b))) ≤ (↑b.length : Int)))
            (chk (decide ((↑b.length : Int) ≤ (↑b.length : Int)))
              (chk
                (gd
                  (OkB
                    (List.drop (IntKind.wrap .i64 (0 + mUintN (List.drop 0 (List.take (↑b.length : Int).toNat b)))).toNat
                      (List.take (↑b.length : Int).toNat b))))
                (tst
                  (mUintE
                      (List.drop
                        (IntKind.wrap .i64 (0 + mUintN (List.drop 0 (List.take (↑b.length : Int).toNat b)))).toNat
                        (List.take (↑b.length : Int).toNat b)) !=
                    0)
                  (some
                    (Sv.tup
                        [Sv.agg
                            [At.v (Value.int IntKind.i64 0), At.v (Value.int IntKind.i64 0),
                              At.v (Value.int IntKind.i64 0)],
                          Sv.one (At.v (Value.int IntKind.i64 0)),
                          Sv.one
                            (At.v
                              (Value.int IntKind.i64
                                (mUintE
                                  (List.drop
                                    (IntKind.wrap .i64
                                        (0 + mUintN (List.drop 0 (List.take (↑b.length : Int).toNat b)))).toNat
                                    (List.take (↑b.length : Int).toNat b)))))],
                      []))
                  (tst
                    (decide
                      (mUintV
                          (List.drop
                            (IntKind.wrap .i64 (0 + mUintN (List.drop 0 (List.take (↑b.length : Int).toNat b)))).toNat
                            (List.take (↑b.length : Int).toNat b)) >
                        999))
                    (chk
                      (decide
                        (0 ≤
                          IntKind.wrap .i64
                            (IntKind.wrap .i64 (0 + mUintN (List.drop 0 (List.take (↑b.length : Int).toNat b))) +
                              mUintN
                                (List.drop
                                  (IntKind.wrap .i64
                                      (0 + mUintN (List.drop 0 (List.take (↑b.length : Int).toNat b)))).toNat
                                  (List.take (↑b.length : Int).toNat b)))))
                      (chk
                        (decide
                          (IntKind.wrap .i64
                              (IntKind.wrap .i64 (0 + mUintN (List.drop 0 (List.take (↑b.length : Int).toNat b))) +
                                mUintN
                                  (List.drop
                                    (IntKind.wrap .i64
                                        (0 + mUintN (List.drop 0 (List.take (↑b.length : Int).toNat b)))).toNat
                                    (List.take (↑b.length : Int).toNat b))) ≤
                            (↑b.length : Int)))
                        (chk (decide ((↑b.length : Int) ≤ (↑b.length : Int)))
                          (chk
                            (gd
                              (OkB
                                (List.drop
                                  (IntKind.wrap .i64
                                      (IntKind.wrap .i64
                                          (0 + mUintN (List.drop 0 (List.take (↑b.length : Int).toNat b))) +
                                        mUintN
                                          (List.drop
                                            (IntKind.wrap .i64
                                                (0 + mUintN (List.drop 0 (List.take (↑b.length : Int).toNat b)))).toNat
                                            (List.take (↑b.length : Int).toNat b)))).toNat
                                  (List.take (↑b.length : Int).toNat b))))
                            (tst
                              (mUintE
                                  (List.drop
                                    (IntKind.wrap .i64
                                        (IntKind.wrap .i64
                                            (0 + mUintN (List.drop 0 (List.take (↑b.length : Int).toNat b))) +
                                          mUintN
                                            (List.drop
                                              (IntKind.wrap .i64
                                                  (0 +
                                                    mUintN (List.drop 0 (List.take (↑b.length : Int).toNat b)))).toNat
                                              (List.take (↑b.length : Int).toNat b)))).toNat
                                    (List.take (↑b.length : Int).toNat b)) !=
                                0)
                              (some
                                (Sv.tup
                                    [Sv.agg
                                        [At.v (Value.int IntKind.i64 0), At.v (Value.int IntKind.i64 0),
                                          At.v (Value.int IntKind.i64 0)],
                                      Sv.one (At.v (Value.int IntKind.i64 0)),
                                      Sv.one
                                        (At.v
                                          (Value.int IntKind.i64
                                            (mUintE
                                              (List.drop
                                                (IntKind.wrap .i64
                                                    (IntKind.wrap .i64
                                                        (0 +
                                                          mUintN (List.drop 0 (List.take (↑b.length : Int).toNat b))) +
                                                      mUintN
                                                        (List.drop
                                                          (IntKind.wrap .i64
                                                              (0 +
                                                                mUintN
                                                                  (List.drop 0
                                                                    (List.take (↑b.length : Int).toNat b)))).toNat
                                                          (List.take (↑b.length : Int).toNat b)))).toNat
                                                (List.take (↑b.length : Int).toNat b)))))],
                                  []))
                              (tst
                                (decide
                                  (mUintV
                                      (List.drop
                                        (IntKind.wrap .i64
                                            (IntKind.wrap .i64
                                                (0 + mUintN (List.drop 0 (List.take (↑b.length : Int).toNat b))) +
                                              mUintN
                                                (List.drop
                                                  (IntKind.wrap .i64
                                                      (0 +
                                                        mUintN
                                                          (List.drop 0 (List.take (↑b.length : Int).toNat b)))).toNat
                                                  (List.take (↑b.length : Int).toNat b)))).toNat
                                        (List.take (↑b.length : Int).toNat b)) >
                                    999))
                                (some
                                  (Sv.tup
                                      [Sv.agg
                                          [At.v (Value.int IntKind.i64 0), At.v (Value.int IntKind.i64 0),
                                            At.v (Value.int IntKind.i64 0)],
                                        Sv.one (At.v (Value.int IntKind.i64 0)),
                                        Sv.one (At.v (Value.int IntKind.i64 2))],
                                    []))
                                (some
                                  (Sv.tup
                                      [Sv.agg
                                          [At.v (Value.int IntKind.i64 0), At.v (Value.int IntKind.i64 0),
                                            At.v (Value.int IntKind.i64 0)],
                                        Sv.one (At.v (Value.int IntKind.i64 0)),
                                        Sv.one (At.v (Value.int IntKind.i64 2))],
                                    []))))))))
                    (chk
                      (decide
                        (0 ≤
                          IntKind.wrap .i64
                            (IntKind.wrap .i64 (0 + mUintN (List.drop 0 (List.take (↑b.length : Int).toNat b))) +
                              mUintN
                                (List.drop
                                  (IntKind.wrap .i64
                                      (0 + mUintN (List.drop 0 (List.take (↑b.length : Int).toNat b)))).toNat
                                  (List.take (↑b.length : Int).toNat b)))))
                      (chk
                        (decide
                          (IntKind.wrap .i64
                              (IntKind.wrap .i64 (0 + mUintN (List.drop 0 (List.take (↑b.length : Int).toNat b))) +
                                mUintN
                                  (List.drop
                                    (IntKind.wrap .i64
                                        (0 + mUintN (List.drop 0 (List.take (↑b.length : Int).toNat b)))).toNat
                                    (List.take (↑b.length : Int).toNat b))) ≤
                            (↑b.length : Int)))
                        (chk (decide ((↑b.length : Int) ≤ (↑b.length : Int)))
                          (chk
                            (gd
                              (OkB
                                (List.drop
                                  (IntKind.wrap .i64
                                      (IntKind.wrap .i64
                                          (0 + mUintN (List.drop 0 (List.take (↑b.length : Int).toNat b))) +
                                        mUintN
                                          (List.drop
                                            (IntKind.wrap .i64
                                                (0 + mUintN (List.drop 0 (List.take (↑b.length : Int).toNat b)))).toNat
                                            (List.take (↑b.length : Int).toNat b)))).toNat
                                  (List.take (↑b.length : Int).toNat b))))
                            (tst
                              (mUintE
                                  (List.drop
                                    (IntKind.wrap .i64
                                        (IntKind.wrap .i64
                                            (0 + mUintN (List.drop 0 (List.take (↑b.length : Int).toNat b))) +
                                          mUintN
                                            (List.drop
                                              (IntKind.wrap .i64
                                                  (0 +
                                                    mUintN (List.drop 0 (List.take (↑b.length : Int).toNat b)))).toNat
                                              (List.take (↑b.length : Int).toNat b)))).toNat
                                    (List.take (↑b.length : Int).toNat b)) !=
                                0)
                              (some
                                (Sv.tup
                                    [Sv.agg
                                        [At.v (Value.int IntKind.i64 0), At.v (Value.int IntKind.i64 0),
                                          At.v (Value.int IntKind.i64 0)],
                                      Sv.one (At.v (Value.int IntKind.i64 0)),
                                      Sv.one
                                        (At.v
                                          (Value.int IntKind.i64
                                            (mUintE
                                              (List.drop
                                                (IntKind.wrap .i64
                                                    (IntKind.wrap .i64
                                                        (0 +
                                                          mUintN (List.drop 0 (List.take (↑b.length : Int).toNat b))) +
                                                      mUintN
                                                        (List.drop
                                                          (IntKind.wrap .i64
                                                              (0 +
                                                                mUintN
                                                                  (List.drop 0
                                                                    (List.take (↑b.length : Int).toNat b)))).toNat
                                                          (List.take (↑b.length : Int).toNat b)))).toNat
                                                (List.take (↑b.length : Int).toNat b)))))],
                                  []))
                              (tst
                                (decide
                                  (mUintV
                                      (List.drop
                                        (IntKind.wrap .i64
                                            (IntKind.wrap .i64
                                                (0 + mUintN (List.drop 0 (List.take (↑b.length : Int).toNat b))) +
                                              mUintN
                                                (List.drop
                                                  (IntKind.wrap .i64
                                                      (0 +
                                                        mUintN
                                                          (List.drop 0 (List.take (↑b.length : Int).toNat b)))).toNat
                                                  (List.take (↑b.length : Int).toNat b)))).toNat
                                        (List.take (↑b.length : Int).toNat b)) >
                                    999))
                                (some
                                  (Sv.tup
                                      [Sv.agg
                                          [At.v (Value.int IntKind.i64 0), At.v (Value.int IntKind.i64 0),
                                            At.v (Value.int IntKind.i64 0)],
                                        Sv.one (At.v (Value.int IntKind.i64 0)),
                                        Sv.one (At.v (Value.int IntKind.i64 2))],
                                    []))
                                (tst
                                  (bif false then true
                                  else
                                    !mValidProc
                                        (IntKind.wrap .i64 (mUintV (List.drop 0 (List.take (↑b.length : Int).toNat b))))
                                        (IntKind.wrap .i64
                                          (mUintV
                                            (List.drop
                                              (IntKind.wrap .i64
                                                  (0 +
                                                    mUintN (List.drop 0 (List.take (↑b.length : Int).toNat b)))).toNat
                                              (List.take (↑b.length : Int).toNat b))))
                                        (IntKind.wrap .i64
                                          (mUintV
                                            (List.drop
                                              (IntKind.wrap .i64
                                                  (IntKind.wrap .i64
                                                      (0 + mUintN (List.drop 0 (List.take (↑b.length : Int).toNat b))) +
                                                    mUintN
                                                      (List.drop
                                                        (IntKind.wrap .i64
                                                            (0 +
                                                              mUintN
                                                                (List.drop 0
                                                                  (List.take (↑b.length : Int).toNat b)))).toNat
                                                        (List.take (↑b.length : Int).toNat b)))).toNat
                                              (List.take (↑b.length : Int).toNat b)))))
                                  (some
                                    (Sv.tup
                                        [Sv.agg
                                            [At.v (Value.int IntKind.i64 0), At.v (Value.int IntKind.i64 0),
                                              At.v (Value.int IntKind.i64 0)],
                                          Sv.one (At.v (Value.int IntKind.i64 0)),
                                          Sv.one (At.v (Value.int IntKind.i64 2))],
                                      []))
                                  (some
                                    (Sv.tup
                                        [Sv.agg
                                            [At.v
                                                (Value.int IntKind.i64
                                                  (IntKind.wrap .i64
                                                    (mUintV (List.drop 0 (List.take (↑b.length : Int).toNat b))))),
                                              At.v
                                                (Value.int IntKind.i64
                                                  (IntKind.wrap .i64
                                                    (mUintV
                                                      (List.drop
                                                        (IntKind.wrap .i64
                                                            (0 +
                                                              mUintN
                                                                (List.drop 0
                                                                  (List.take (↑b.length : Int).toNat b)))).toNat
                                                        (List.take (↑b.length : Int).toNat b))))),
                                              At.v
                                                (Value.int IntKind.i64
                                                  (IntKind.wrap .i64
                                                    (mUintV
                                                      (List.drop
                                                        (IntKind.wrap .i64
                                                            (IntKind.wrap .i64
                                                                (0 +
                                                                  mUintN
                                                                    (List.drop 0
                                                                      (List.take (↑b.length : Int).toNat b))) +
                                                              mUintN
                                                                (List.drop
                                                                  (IntKind.wrap .i64
                                                                      (0 +
                                                                        mUintN
                                                                          (List.drop 0
                                                                            (List.take (↑b.length : Int).toNat
                                                                              b)))).toNat
                                                                  (List.take (↑b.length : Int).toNat b)))).toNat
                                                        (List.take (↑b.length : Int).toNat b)))))],
                                          Sv.one
                                            (At.v
                                              (Value.int IntKind.i64
                                                (IntKind.wrap .i64
                                                  (IntKind.wrap .i64
                                                      (IntKind.wrap .i64
                                                          (0 +
                                                            mUintN
                                                              (List.drop 0 (List.take (↑b.length : Int).toNat b))) +
                                                        mUintN
                                                          (List.drop
                                                            (IntKind.wrap .i64
                                                                (0 +
                                                                  mUintN
                                                                    (List.drop 0
                                                                      (List.take (↑b.length : Int).toNat b)))).toNat
                                                            (List.take (↑b.length : Int).toNat b))) +
                                                    mUintN
                                                      (List.drop
                                                        (IntKind.wrap .i64
                                                            (IntKind.wrap .i64
                                                                (0 +
                                                                  mUintN
                                                                    (List.drop 0
                                                                      (List.take (↑b.length : Int).toNat b))) +
                                                              mUintN
                                                                (List.drop
                                                                  (IntKind.wrap .i64
                                                                      (0 +
                                                                        mUintN
                                                                          (List.drop 0
                                                                            (List.take (↑b.length : Int).toNat
                                                                              b)))).toNat
                                                                  (List.take (↑b.length : Int).toNat b)))).toNat
                                                        (List.take (↑b.length : Int).toNat b)))))),
                                          Sv.one (At.v (Value.int IntKind.i64 0))],
                                      [])))))))))))))))))) := by kernel_rfl

theorem acc_pos (v i c : Int) : 0 ≤ mAcc v i c := by
  unfold mAcc orI
  exact Int.emod_nonneg _ (by decide)
theorem read_facts (b : List (List At)) : ∀ (k i : Nat) (v : Int), i + k = 10 → 0 ≤ v → 0 ≤ (mRead b k i v).1 ∧ ∃ n : Nat, (mRead b k i v).2.1 = n ∧ n ≤ b.length ∧ n ≤ 10
  | 0, i, v, _, _ => ⟨Int.le_refl _, 0, rfl, Nat.zero_le _, Nat.zero_le _⟩
  | k + 1, i, v, hi, hv => by
    unfold mRead
    split
    · exact ⟨Int.le_refl _, 0, rfl, Nat.zero_le _, Nat.zero_le _⟩
    · rename_i hl
      have hl := of_decide_eq_false hl
      split
      · exact ⟨Int.le_refl _, 0, rfl, Nat.zero_le _, Nat.zero_le _⟩
      · split
        · exact ⟨acc_pos _ _ _, i + 1, rfl, by omega, by omega⟩
        · exact read_facts b k (i + 1) _ (by omega) (acc_pos _ _ _)
theorem uint_facts (b : List (List At)) : ∃ k : Nat, mUintN b = k ∧ mN b = k ∧ k ≤ b.length ∧ k ≤ 10 ∧ 0 ≤ mUintV b := by
  obtain ⟨h0, k, h1, h2, h3⟩ := read_facts b 10 0 0 rfl (Int.le_refl _)
  exact ⟨k, h1, by unfold mN mUintN; rw [h1]; simp, h2, h3, h0⟩
theorem okb_drop {b : List (List At)} (h : OkB b) (k : Nat) : OkB (b.drop k) := ⟨List.all_eq_true.2 fun e he => List.all_eq_true.1 h.are e (List.mem_of_mem_drop he)⟩
theorem e31 (b : List (List At)) (hb : OkB b) : vstep EL Tryd.prog noLo 5 o49 31 [rb b] [] = some (.tup [pv (mProcA b) (mProcC b) (mProcD b), iv (mProcN b), iv (mProcE b)], []) := by
  obtain ⟨k1, n1, m1, l1, t1, v1⟩ := uint_facts b
  obtain ⟨k2, n2, m2, l2, t2, v2⟩ := uint_facts (b.drop k1)
  obtain ⟨k3, n3, m3, l3, t3, v3⟩ := uint_facts (b.drop (k1 + k2))
  rw [List.length_drop] at l2 l3
  have z1 : IntKind.wrap .i64 (0 + (k1 : Int)) = (k1 : Int) := by rw [Int.zero_add]; exact wrap_in (by omega) (by omega)
  have z2 : IntKind.wrap .i64 ((k1 : Int) + (k2 : Int)) = ((k1 + k2 : Nat) : Int) := by rw [wrap_in (by omega) (by omega)]; omega
  have z3 : IntKind.wrap .i64 (((k1 + k2 : Nat) : Int) + (k3 : Int)) = ((k1 + k2 + k3 : Nat) : Int) := by rw [wrap_in (by omega) (by omega)]; omega
  unfold mProcA mProcC mProcD mProcN mProcE mProc
  rw [q31, show List.take ((b.length : Int)).toNat b = b by simp, List.drop_zero, n1, z1, Int.toNat_natCast, n2, z2, Int.toNat_natCast, n3, z3, m1, m2, m3,
    gd_t hb, gd_t (okb_drop hb k1), gd_t (okb_drop hb (k1 + k2)), decide_eq_true (Int.le_refl _), decide_eq_true (show (0 : Int) ≤ (k1 : Int) by omega), decide_eq_true (show (0 : Int) ≤ ((k1 + k2 : Nat) : Int) by omega),
    decide_eq_true (show (k1 : Int) ≤ (b.length : Int) by omega), decide_eq_true (show ((k1 + k2 : Nat) : Int) ≤ (b.length : Int) by omega)]
  generalize mUintV b = a1 at v1 ⊢
  generalize mUintV (b.drop k1) = a2 at v2 ⊢
  generalize mUintV (b.drop (k1 + k2)) = a3 at v3 ⊢
  generalize (mUintE b != 0) = y1
  generalize (mUintE (b.drop k1) != 0) = y2
  generalize (mUintE (b.drop (k1 + k2)) != 0) = y3
  cases hv : mValidProc a1 a2 a3 with
  | true =>
    obtain ⟨h1, h2, h3⟩ := valid_iff.1 hv
    rw [decide_eq_false (show ¬ a1 > 999 by omega), decide_eq_false (show ¬ a2 > 999 by omega), decide_eq_false (show ¬ a3 > 999 by omega), wrap_in (n := a1) (by omega) (by omega), wrap_in (n := a2) (by omega) (by omega), wrap_in (n := a3) (by omega) (by omega), hv]
    cases y1 <;> cases y2 <;> cases y3 <;> rfl
  | false =>
    cases d1 : decide (a1 > 999) with
    | true => cases decide (a2 > 999) <;> cases decide (a3 > 999) <;> cases y1 <;> cases y2 <;> cases y3 <;> rfl
    | false =>
      cases d2 : decide (a2 > 999) with
      | true => cases decide (a3 > 999) <;> cases y1 <;> cases y2 <;> cases y3 <;> rfl
      | false =>
        cases d3 : decide (a3 > 999) with
        | true => cases y1 <;> cases y2 <;> cases y3 <;> rfl
        | false =>
          have d1 := of_decide_eq_false d1
          have d2 := of_decide_eq_false d2
          have d3 := of_decide_eq_false d3
          rw [wrap_in (n := a1) (by omega) (by omega), wrap_in (n := a2) (by omega) (by omega), wrap_in (n := a3) (by omega) (by omega), hv]
          cases y1 <;> cases y2 <;> cases y3 <;> rfl
def F31 (a : List Sv) (M : List Box) : Tr := match a, M with
  | [.one (.ro true 1 b)], [] => (.br (gd (OkB b)) (.ok (.tup [pv (mProcA b) (mProcC b) (mProcD b), iv (mProcN b), iv (mProcE b)], [])) .no)
  | _, _ => .no
def o31 : Orc := over o49 31 F31
theorem c31 : CallOK EL Tryd.prog o31 := over_ok T.tok T.mo T.ng c49 fun args M x hx => by
  unfold F31 at hx
  split at hx
  · rename_i b
    obtain ⟨hc, hx⟩ := br_some hx
    exact ⟨noLo, 5, loops_no, (e31 b (of_gd hc)).trans hx⟩
  · cases hx
theorem q32 (b : List (List At)) : vstep EL Tryd.prog noLo 5 o31 32 [rb b] [] =
chk (decide ((↑b.length : Int) ≤ (↑b.length : Int)))
  (chk (gd (OkB (List.drop 0 (List.take (↑b.length : Int).toNat b))))
    (tst (mUintE (List.drop 0 (List.take (↑b.length : Int).toNat b)) != 0)
      (some
        (Sv.tup
            [Sv.agg [At.v (Value.int IntKind.i64 0), At.v (Value.int IntKind.i64 0), At.v (Value.int IntKind.i64 0)],
              Sv.one (At.v (Value.int IntKind.i64 0)),
              Sv.one (At.v (Value.int IntKind.i64 (mUintE (List.drop 0 (List.take (↑b.length : Int).toNat b)))))],
          []))
      (chk (decide (0 ≤ IntKind.wrap .i64 (0 + mUintN (List.drop 0 (List.take (↑b.length : Int).toNat b)))))
        (chk
          (decide
            (IntKind.wrap .i64 (0 + mUintN (List.drop 0 (List.take (↑b.length : Int).toNat b))) ≤ (↑b.length : Int)))
          (chk (decide ((↑b.length : Int) ≤ (↑b.length : Int)))
            (chk
              (gd
                (OkB
                  (List.drop (IntKind.wrap .i64 (0 + mUintN (List.drop 0 (List.take (↑b.length : Int).toNat b)))).toNat
                    (List.take (↑b.length : Int).toNat b))))
              (tst
                (mUintE
                    (List.drop (IntKind.wrap .i64 (0 + mUintN (List.drop 0 (List.take (↑b.length : Int).toNat b)))).toNat
                      (List.take (↑b.length : Int).toNat b)) !=
                  0)
                (some
                  (Sv.tup
                      [Sv.agg
                          [At.v (Value.int IntKind.i64 0), At.v (Value.int IntKind.i64 0),
                            At.v (Value.int IntKind.i64 0)],
                        Sv.one (At.v (Value.int IntKind.i64 0)),
                        Sv.one
                          (At.v
                            (Value.int IntKind.i64
                              (mUintE
                                (List.drop
                                  (IntKind.wrap .i64
                                      (0 + mUintN (List.drop 0 (List.take (↑b.length : Int).toNat b)))).toNat
                                  (List.take (↑b.length : Int).toNat b)))))],
                    []))
                (chk
                  (decide
                    (0 ≤
                      IntKind.wrap .i64
                        (IntKind.wrap .i64 (0 + mUintN (List.drop 0 (List.take (↑b.length : Int).toNat b))) +
                          mUintN
                            (List.drop
                              (IntKind.wrap .i64 (0 + mUintN (List.drop 0 (List.take (↑b.length : Int).toNat b)))).toNat
                              (List.take (↑b.length : Int).toNat b)))))
                  (chk
                    (decide
                      (IntKind.wrap .i64
                          (IntKind.wrap .i64 (0 + mUintN (List.drop 0 (List.take (↑b.length : Int).toNat b))) +
                            mUintN
                              (List.drop
                                (IntKind.wrap .i64
                                    (0 + mUintN (List.drop 0 (List.take (↑b.length : Int).toNat b)))).toNat
                                (List.take (↑b.length : Int).toNat b))) ≤
                        (↑b.length : Int)))
                    (chk (decide ((↑b.length : Int) ≤ (↑b.length : Int)))
                      (chk
                        (gd
                          (OkB
                            (List.drop
                              (IntKind.wrap .i64
                                  (IntKind.wrap .i64 (0 + mUintN (List.drop 0 (List.take (↑b.length : Int).toNat b))) +
                                    mUintN
                                      (List.drop
                                        (IntKind.wrap .i64
                                            (0 + mUintN (List.drop 0 (List.take (↑b.length : Int).toNat b)))).toNat
                                        (List.take (↑b.length : Int).toNat b)))).toNat
                              (List.take (↑b.length : Int).toNat b))))
                        (tst
                          (mUintE
                              (List.drop
                                (IntKind.wrap .i64
                                    (IntKind.wrap .i64 (0 + mUintN (List.drop 0 (List.take (↑b.length : Int).toNat b))) +
                                      mUintN
                                        (List.drop
                                          (IntKind.wrap .i64
                                              (0 + mUintN (List.drop 0 (List.take (↑b.length : Int).toNat b)))).toNat
                                          (List.take (↑b.length : Int).toNat b)))).toNat
                                (List.take (↑b.length : Int).toNat b)) !=
                            0)
                          (some
                            (Sv.tup
                                [Sv.agg
                                    [At.v (Value.int IntKind.i64 0), At.v (Value.int IntKind.i64 0),
                                      At.v (Value.int IntKind.i64 0)],
                                  Sv.one (At.v (Value.int IntKind.i64 0)),
                                  Sv.one
                                    (At.v
                                      (Value.int IntKind.i64
                                        (mUintE
                                          (List.drop
                                            (IntKind.wrap .i64
                                                (IntKind.wrap .i64
                                                    (0 + mUintN (List.drop 0 (List.take (↑b.length : Int).toNat b))) +
                                                  mUintN
                                                    (List.drop
                                                      (IntKind.wrap .i64
                                                          (0 +
                                                            mUintN
                                                              (List.drop 0
                                                                (List.take (↑b.length : Int).toNat b)))).toNat
                                                      (List.take (↑b.length : Int).toNat b)))).toNat
                                            (List.take (↑b.length : Int).toNat b)))))],
                              []))
                          (tst (decide (mUintV (List.drop 0 (List.take (↑b.length : Int).toNat b)) > 1073741824))
                            (some
                              (Sv.tup
                                  [Sv.agg
                                      [At.v (Value.int IntKind.i64 0), At.v (Value.int IntKind.i64 0),
                                        At.v (Value.int IntKind.i64 0)],
                                    Sv.one (At.v (Value.int IntKind.i64 0)), Sv.one (At.v (Value.int IntKind.i64 2))],
                                []))
                            (tst
                              (bif false then true
                              else
                                decide
                                  (mUintV
                                      (List.drop
                                        (IntKind.wrap .i64
                                            (0 + mUintN (List.drop 0 (List.take (↑b.length : Int).toNat b)))).toNat
                                        (List.take (↑b.length : Int).toNat b)) >
                                    1073741824))
                              (some
                                (Sv.tup
                                    [Sv.agg
                                        [At.v (Value.int IntKind.i64 0), At.v (Value.int IntKind.i64 0),
                                          At.v (Value.int IntKind.i64 0)],
                                      Sv.one (At.v (Value.int IntKind.i64 0)), Sv.one (At.v (Value.int IntKind.i64 2))],
                                  []))
                              (tst
                                (bif false then true
                                else
                                  decide
                                    (mUintV
                                        (List.drop
                                          (IntKind.wrap .i64
                                              (IntKind.wrap .i64
                                                  (0 + mUintN (List.drop 0 (List.take (↑b.length : Int).toNat b))) +
                                                mUintN
                                                  (List.drop
                                                    (IntKind.wrap .i64
                                                        (0 +
                                                          mUintN
                                                            (List.drop 0 (List.take (↑b.length : Int).toNat b)))).toNat
                                                    (List.take (↑b.length : Int).toNat b)))).toNat
                                          (List.take (↑b.length : Int).toNat b)) >
                                      1073741824))
                                (some
                                  (Sv.tup
                                      [Sv.agg
                                          [At.v (Value.int IntKind.i64 0), At.v (Value.int IntKind.i64 0),
                                            At.v (Value.int IntKind.i64 0)],
                                        Sv.one (At.v (Value.int IntKind.i64 0)),
                                        Sv.one (At.v (Value.int IntKind.i64 2))],
                                    []))
                                (tst
                                  (!mValidProc
                                      (IntKind.wrap .i64 (mUintV (List.drop 0 (List.take (↑b.length : Int).toNat b))))
                                      (IntKind.wrap .i64
                                        (mUintV
                                          (List.drop
                                            (IntKind.wrap .i64
                                                (0 + mUintN (List.drop 0 (List.take (↑b.length : Int).toNat b)))).toNat
                                            (List.take (↑b.length : Int).toNat b))))
                                      (IntKind.wrap .i64
                                        (mUintV
                                          (List.drop
                                            (IntKind.wrap .i64
                                                (IntKind.wrap .i64
                                                    (0 + mUintN (List.drop 0 (List.take (↑b.length : Int).toNat b))) +
                                                  mUintN
                                                    (List.drop
                                                      (IntKind.wrap .i64
                                                          (0 +
                                                            mUintN
                                                              (List.drop 0
                                                                (List.take (↑b.length : Int).toNat b)))).toNat
                                                      (List.take (↑b.length : Int).toNat b)))).toNat
                                            (List.take (↑b.length : Int).toNat b)))))
                                  (some
                                    (Sv.tup
                                        [Sv.agg
                                            [At.v (Value.int IntKind.i64 0), At.v (Value.int IntKind.i64 0),
                                              At.v (Value.int IntKind.i64 0)],
                                          Sv.one (At.v (Value.int IntKind.i64 0)),
                                          Sv.one (At.v (Value.int IntKind.i64 2))],
                                      []))
                                  (some
                                    (Sv.tup
                                        [Sv.agg
                                            [At.v
                                                (Value.int IntKind.i64
                                                  (IntKind.wrap .i64
                                                    (mUintV (List.drop 0 (List.take (↑b.length : Int).toNat b))))),
                                              At.v
                                                (Value.int IntKind.i64
                                                  (IntKind.wrap .i64
                                                    (mUintV
                                                      (List.drop
                                                        (IntKind.wrap .i64
                                                            (0 +
                                                              mUintN
                                                                (List.drop 0
                                                                  (List.take (↑b.length : Int).toNat b)))).toNat
                                                        (List.take (↑b.length : Int).toNat b))))),
                                              At.v
                                                (Value.int IntKind.i64
                                                  (IntKind.wrap .i64
                                                    (mUintV
                                                      (List.drop
                                                        (IntKind.wrap .i64
                                                            (IntKind.wrap .i64
                                                                (0 +
                                                                  mUintN
                                                                    (List.drop 0
                                                                      (List.take (↑b.length : Int).toNat b))) +
                                                              mUintN
                                                                (List.drop
                                                                  (IntKind.wrap .i64
                                                                      (0 +
                                                                        mUintN
                                                                          (List.drop 0
                                                                            (List.take (↑b.length : Int).toNat
                                                                              b)))).toNat
                                                                  (List.take (↑b.length : Int).toNat b)))).toNat
                                                        (List.take (↑b.length : Int).toNat b)))))],
                                          Sv.one
                                            (At.v
                                              (Value.int IntKind.i64
                                                (IntKind.wrap .i64
                                                  (IntKind.wrap .i64
                                                      (IntKind.wrap .i64
                                                          (0 +
                                                            mUintN
                                                              (List.drop 0 (List.take (↑b.length : Int).toNat b))) +
                                                        mUintN
                                                          (List.drop
                                                            (IntKind.wrap .i64
                                                                (0 +
                                                                  mUintN
                                                                    (List.drop 0
                                                                      (List.take (↑b.length : Int).toNat b)))).toNat
                                                            (List.take (↑b.length : Int).toNat b))) +
                                                    mUintN
                                                      (List.drop
                                                        (IntKind.wrap .i64
                                                            (IntKind.wrap .i64
                                                                (0 +
                                                                  mUintN
                                                                    (List.drop 0
                                                                      (List.take (↑b.length : Int).toNat b))) +
                                                              mUintN
                                                                (List.drop
                                                                  (IntKind.wrap .i64
                                                                      (0 +
                                                                        mUintN
                                                                          (List.drop 0
                                                                            (List.take (↑b.length : Int).toNat
                                                                              b)))).toNat
                                                                  (List.take (↑b.length : Int).toNat b)))).toNat
                                                        (List.take (↑b.length : Int).toNat b)))))),
                                          Sv.one (At.v (Value.int IntKind.i64 0))],
                                      [])))))))))))))))))) := by kernel_rfl

theorem e32 (b : List (List At)) (hb : OkB b) : vstep EL Tryd.prog noLo 5 o31 32 [rb b] [] = some (.tup [pv (mProcA b) (mProcC b) (mProcD b), iv (mProcN b), iv (mProcE b)], []) := by
  obtain ⟨k1, n1, m1, l1, t1, v1⟩ := uint_facts b
  obtain ⟨k2, n2, m2, l2, t2, v2⟩ := uint_facts (b.drop k1)
  obtain ⟨k3, n3, m3, l3, t3, v3⟩ := uint_facts (b.drop (k1 + k2))
  rw [List.length_drop] at l2 l3
  have z1 : IntKind.wrap .i64 (0 + (k1 : Int)) = (k1 : Int) := by rw [Int.zero_add]; exact wrap_in (by omega) (by omega)
  have z2 : IntKind.wrap .i64 ((k1 : Int) + (k2 : Int)) = ((k1 + k2 : Nat) : Int) := by rw [wrap_in (by omega) (by omega)]; omega
  have z3 : IntKind.wrap .i64 (((k1 + k2 : Nat) : Int) + (k3 : Int)) = ((k1 + k2 + k3 : Nat) : Int) := by rw [wrap_in (by omega) (by omega)]; omega
  unfold mProcA mProcC mProcD mProcN mProcE mProc
  rw [q32, show List.take ((b.length : Int)).toNat b = b by simp, List.drop_zero, n1, z1, Int.toNat_natCast, n2, z2, Int.toNat_natCast, n3, z3, m1, m2, m3,
    gd_t hb, gd_t (okb_drop hb k1), gd_t (okb_drop hb (k1 + k2)), decide_eq_true (Int.le_refl _), decide_eq_true (show (0 : Int) ≤ (k1 : Int) by omega), decide_eq_true (show (0 : Int) ≤ ((k1 + k2 : Nat) : Int) by omega),
    decide_eq_true (show (k1 : Int) ≤ (b.length : Int) by omega), decide_eq_true (show ((k1 + k2 : Nat) : Int) ≤ (b.length : Int) by omega)]
  generalize mUintV b = a1 at v1 ⊢
  generalize mUintV (b.drop k1) = a2 at v2 ⊢
  generalize mUintV (b.drop (k1 + k2)) = a3 at v3 ⊢
  generalize (mUintE b != 0) = y1
  generalize (mUintE (b.drop k1) != 0) = y2
  generalize (mUintE (b.drop (k1 + k2)) != 0) = y3
  cases hv : mValidProc a1 a2 a3 with
  | true =>
    obtain ⟨h1, h2, h3⟩ := valid_iff.1 hv
    rw [decide_eq_false (show ¬ a1 > 1073741824 by omega), decide_eq_false (show ¬ a2 > 1073741824 by omega), decide_eq_false (show ¬ a3 > 1073741824 by omega), wrap_in (n := a1) (by omega) (by omega), wrap_in (n := a2) (by omega) (by omega), wrap_in (n := a3) (by omega) (by omega), hv]
    cases y1 <;> cases y2 <;> cases y3 <;> rfl
  | false =>
    cases d1 : decide (a1 > 1073741824) with
    | true => cases decide (a2 > 1073741824) <;> cases decide (a3 > 1073741824) <;> cases y1 <;> cases y2 <;> cases y3 <;> rfl
    | false =>
      cases d2 : decide (a2 > 1073741824) with
      | true => cases decide (a3 > 1073741824) <;> cases y1 <;> cases y2 <;> cases y3 <;> rfl
      | false =>
        cases d3 : decide (a3 > 1073741824) with
        | true => cases y1 <;> cases y2 <;> cases y3 <;> rfl
        | false =>
          have d1 := of_decide_eq_false d1
          have d2 := of_decide_eq_false d2
          have d3 := of_decide_eq_false d3
          rw [wrap_in (n := a1) (by omega) (by omega), wrap_in (n := a2) (by omega) (by omega), wrap_in (n := a3) (by omega) (by omega), hv]
          cases y1 <;> cases y2 <;> cases y3 <;> rfl
def F32 (a : List Sv) (M : List Box) : Tr := match a, M with
  | [.one (.ro true 1 b)], [] => (.br (gd (OkB b)) (.ok (.tup [pv (mProcA b) (mProcC b) (mProcD b), iv (mProcN b), iv (mProcE b)], [])) .no)
  | _, _ => .no
def o32 : Orc := over o31 32 F32
theorem c32 : CallOK EL Tryd.prog o32 := over_ok T.tok T.mo T.ng c31 fun args M x hx => by
  unfold F32 at hx
  split at hx
  · rename_i b
    obtain ⟨hc, hx⟩ := br_some hx
    exact ⟨noLo, 5, loops_no, (e32 b (of_gd hc)).trans hx⟩
  · cases hx
theorem q11 (b : List (List At)) : vstep EL Tryd.prog noLo 0 o32 11 [rb b] [] =
chk (gd (OkB b))
  (chk (gd (OkB b))
    (tst (bif true then mProcA b == mProcA b && (mProcC b == mProcC b && (mProcD b == mProcD b && true)) else false)
      (tst (bif true then mProcN b == mProcN b else false)
        (some (Sv.one (At.v (Value.bool (bif true then mProcE b == mProcE b else false))), []))
        (some (Sv.one (At.v (Value.bool false)), [])))
      (some (Sv.one (At.v (Value.bool false)), [])))) := by kernel_rfl

theorem bytes_row {w : World} {a : Option Addr} {len cap : Nat} {zs : List Int}
    (h : (a = none ∧ len = 0 ∧ cap = 0 ∧ zs = []) ∨ ∃ x, a = some x ∧ len ≤ cap ∧ cap ≤ maxLen ∧ zs.length = cap ∧ (∀ i, i < zs.length → w.cell? (x.add i) = some (.int .u8 (zs.getD i 0))) ∧ ∀ n ∈ zs, (Lit.int .u8 n).wf = true) :
    OkB ((zs.take len).map fun z => [.v (.int .u8 z)]) := by
  refine ⟨List.all_eq_true.2 fun e he => ?_⟩
  obtain ⟨z, hz, rfl⟩ := List.mem_map.1 he
  have hw : (Lit.int .u8 z).wf = true := by
    rcases h with ⟨_, _, _, h⟩ | ⟨x, _, _, _, _, _, h⟩
    · subst h; simp at hz
    · exact h z (List.mem_of_mem_take hz)
  have := bounds_u8 hw
  simp only [mByte1, Bool.and_eq_true, decide_eq_true_eq]
  exact ⟨⟨rfl, this.1⟩, show z < 256 by omega⟩
theorem e11 (b : List (List At)) (hb : OkB b) : vstep EL Tryd.prog noLo 0 o32 11 [rb b] [] = some (bv true, []) := by
  rw [q11, gd_t hb]
  simp [tst, chk, cond]

end
end Go.Proofs.YtkpdcieoiciapaaDoor
