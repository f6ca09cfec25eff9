/- Processes as texts: written and read. -/
import Derived.Test.YtkpdcieoiciapaaDoorIdL
namespace Go.Proofs.YtkpdcieoiciapaaDoor
open Go Go.Vi Go.IntWalk
set_option maxRecDepth 100000
set_option linter.unusedVariables false
set_option linter.unusedSimpArgs false
noncomputable section

abbrev dot : ByteArray := ⟨#[46]⟩
def mFormat (a b c : Int) : ByteArray := bif mValidProc a b c then mItoa a ++ dot ++ mItoa b ++ dot ++ mItoa c else ⟨#[]⟩
def mPart (s : ByteArray) (i : Nat) : ByteArray := strA (((mSplit s dot).getD i []).getD 0 .bad)
def mParseB (s : ByteArray) : Bool := ((mSplit s dot).length : Int) == 3 && !decide ((s.size : Int) > 20) && mAtoiOk (mPart s 0) && mAtoiOk (mPart s 1) && mAtoiOk (mPart s 2) && mValidProc (mAtoi (mPart s 0)) (mAtoi (mPart s 1)) (mAtoi (mPart s 2)) && bytesEq (mFormat (mAtoi (mPart s 0)) (mAtoi (mPart s 1)) (mAtoi (mPart s 2))) s
def mParseA (s : ByteArray) : Int := bif mParseB s then mAtoi (mPart s 0) else 0
def mParseC (s : ByteArray) : Int := bif mParseB s then mAtoi (mPart s 1) else 0
def mParseD (s : ByteArray) : Int := bif mParseB s then mAtoi (mPart s 2) else 0
structure OkParse (s : ByteArray) : Prop where
  h : s.size < 4294967281
  parts : ((mSplit s dot).length : Int) = 3 → s.size ≤ 20 → ∀ i, i < 3 → (mPart s i).size ≤ 18
/-- The references' comparison. -/
def mCompare (a b c d e f : Int) : Int := bif mOrder a d != 0 then mOrder a d else bif mOrder b e != 0 then mOrder b e else mOrder c f
def mCompare2 (a b c d : Int) : Int := bif mOrder a c != 0 then mOrder a c else mOrder b d
def mMergeE (a b c d : Int) : Int := bif mValidStamp a b && mValidStamp c d then (bif decide (max a c = 1073741824) then 16 else 0) else 1
def mMergeT (a b c d : Int) : Int := bif mValidStamp a b && mValidStamp c d then (bif decide (max a c = 1073741824) then 0 else max a c + 1) else 0
def mMergeS (a b c d : Int) : Int := bif mValidStamp a b && mValidStamp c d then (bif decide (max a c = 1073741824) then 0 else b) else 0
theorem q20 (a b c : Int) : vstep EL Tryd.prog noLo 0 o42 20 [pv a b c] [] =
tst (!mValidProc a b c) (some (Sv.one (At.v (Value.string (ByteArray.mk (Array.mk [])))), []))
  (chk (gd (OkInt a))
    (chk (decide ((mItoa a).size + 1 ≤ 9223372036854775807))
      (chk (gd (OkInt b))
        (chk
          (decide ((mItoa a ++ (ByteArray.mk (Array.mk [UInt8.ofNat 46]))).size + (mItoa b).size ≤ 9223372036854775807))
          (chk
            (decide ((mItoa a ++ (ByteArray.mk (Array.mk [UInt8.ofNat 46])) ++ mItoa b).size + 1 ≤ 9223372036854775807))
            (chk (gd (OkInt c))
              (chk
                (decide
                  ((mItoa a ++ (ByteArray.mk (Array.mk [UInt8.ofNat 46])) ++ mItoa b ++
                          (ByteArray.mk (Array.mk [UInt8.ofNat 46]))).size +
                      (mItoa c).size ≤
                    9223372036854775807))
                (some
                  (Sv.one
                      (At.v
                        (Value.string
                          (mItoa a ++ (ByteArray.mk (Array.mk [UInt8.ofNat 46])) ++ mItoa b ++
                              (ByteArray.mk (Array.mk [UInt8.ofNat 46])) ++
                            mItoa c))),
                    []))))))))) := by kernel_rfl

theorem itoa_fact : ((List.range 1000).all fun n => decide ((Lib.itoa (n : Int)).length ≤ 3)) = true := by kernel_rfl
theorem itoa_size {n : Int} (h0 : 0 ≤ n) (h1 : n ≤ 999) : (mItoa n).size ≤ 3 := by
  obtain ⟨k, rfl⟩ := Int.eq_ofNat_of_zero_le h0
  have := List.all_eq_true.1 itoa_fact k (List.mem_range.2 (by omega))
  have := of_decide_eq_true this
  unfold mItoa
  simpa [ByteArray.size] using this
theorem valid_iff {a b c : Int} : mValidProc a b c = true ↔ (0 ≤ a ∧ a < 4) ∧ (1 ≤ b ∧ b ≤ 99) ∧ (1 ≤ c ∧ c ≤ 999) := by
  simp only [mValidProc, Bool.and_eq_true, decide_eq_true_eq]
  omega
theorem e20 (a b c : Int) : vstep EL Tryd.prog noLo 0 o42 20 [pv a b c] [] = some (sv (mFormat a b c), []) := by
  rw [q20]
  unfold mFormat
  cases h : mValidProc a b c with
  | false => rfl
  | true =>
    obtain ⟨h1, h2, h3⟩ := valid_iff.1 h
    have s1 := itoa_size (n := a) (by omega) (by omega)
    have s2 := itoa_size (n := b) (by omega) (by omega)
    have s3 := itoa_size (n := c) (by omega) (by omega)
    have hd : (ByteArray.mk (Array.mk [UInt8.ofNat 46])).size = 1 := rfl
    rw [Bool.not_true, tst_f rfl, chk_t (gd_t (p := OkInt a) ⟨by omega, by omega⟩), chk_t (decide_eq_true (by omega)), chk_t (gd_t (p := OkInt b) ⟨by omega, by omega⟩), chk_t (decide_eq_true (by rw [ByteArray.size_append, hd]; omega)),
      chk_t (decide_eq_true (by rw [ByteArray.size_append, ByteArray.size_append, hd]; omega)), chk_t (gd_t (p := OkInt c) ⟨by omega, by omega⟩), chk_t (decide_eq_true (by rw [ByteArray.size_append, ByteArray.size_append, ByteArray.size_append, hd]; omega))]
    rfl
def F20 (a : List Sv) (M : List Box) : Tr := match a, M with
  | [.agg [.v (.int .i64 a), .v (.int .i64 b), .v (.int .i64 c)]], [] => (.ok (sv (mFormat a b c), []))
  | _, _ => .no
def o20 : Orc := over o42 20 F20
theorem c20 : CallOK EL Tryd.prog o20 := over_ok T.tok T.mo T.ng c42 fun args M x hx => by
  unfold F20 at hx
  split at hx
  · rename_i a b c
    exact ⟨noLo, 0, loops_no, (e20 a b c).trans hx⟩
  · cases hx
theorem q21 (s : ByteArray) : vstep EL Tryd.prog noLo 5 o20 21 [sv s] [] =
chk (gd (OkSplit s (ByteArray.mk (Array.mk [UInt8.ofNat 46]))))
  (tst ((↑(mSplit s (ByteArray.mk (Array.mk [UInt8.ofNat 46]))).length : Int) != 3)
    (some
      (Sv.tup
          [Sv.agg [At.v (Value.int IntKind.i64 0), At.v (Value.int IntKind.i64 0), At.v (Value.int IntKind.i64 0)],
            Sv.one (At.v (Value.bool false))],
        []))
    (tst (bif false then true else decide ((↑s.size : Int) > 20))
      (some
        (Sv.tup
            [Sv.agg [At.v (Value.int IntKind.i64 0), At.v (Value.int IntKind.i64 0), At.v (Value.int IntKind.i64 0)],
              Sv.one (At.v (Value.bool false))],
          []))
      (tst (decide (0 < (↑(mSplit s (ByteArray.mk (Array.mk [UInt8.ofNat 46]))).length : Int)))
        (chk (decide (0 < (↑(mSplit s (ByteArray.mk (Array.mk [UInt8.ofNat 46]))).length : Int)))
          (chk (okRow [SK.s] ((mSplit s (ByteArray.mk (Array.mk [UInt8.ofNat 46]))).getD 0 []))
            (chk (gd (OkAtoi (strA (((mSplit s (ByteArray.mk (Array.mk [UInt8.ofNat 46]))).getD 0 []).getD 0 At.bad))))
              (tst (mAtoiOk (strA (((mSplit s (ByteArray.mk (Array.mk [UInt8.ofNat 46]))).getD 0 []).getD 0 At.bad)))
                (tst (decide (1 < (↑(mSplit s (ByteArray.mk (Array.mk [UInt8.ofNat 46]))).length : Int)))
                  (chk (decide (1 < (↑(mSplit s (ByteArray.mk (Array.mk [UInt8.ofNat 46]))).length : Int)))
                    (chk (okRow [SK.s] ((mSplit s (ByteArray.mk (Array.mk [UInt8.ofNat 46]))).getD 1 []))
                      (chk
                        (gd
                          (OkAtoi
                            (strA (((mSplit s (ByteArray.mk (Array.mk [UInt8.ofNat 46]))).getD 1 []).getD 0 At.bad))))
                        (tst
                          (mAtoiOk
                            (strA (((mSplit s (ByteArray.mk (Array.mk [UInt8.ofNat 46]))).getD 1 []).getD 0 At.bad)))
                          (tst (decide (2 < (↑(mSplit s (ByteArray.mk (Array.mk [UInt8.ofNat 46]))).length : Int)))
                            (chk (decide (2 < (↑(mSplit s (ByteArray.mk (Array.mk [UInt8.ofNat 46]))).length : Int)))
                              (chk (okRow [SK.s] ((mSplit s (ByteArray.mk (Array.mk [UInt8.ofNat 46]))).getD 2 []))
                                (chk
                                  (gd
                                    (OkAtoi
                                      (strA
                                        (((mSplit s (ByteArray.mk (Array.mk [UInt8.ofNat 46]))).getD 2 []).getD 0
                                          At.bad))))
                                  (tst
                                    (mAtoiOk
                                      (strA
                                        (((mSplit s (ByteArray.mk (Array.mk [UInt8.ofNat 46]))).getD 2 []).getD 0
                                          At.bad)))
                                    (tst
                                      (decide
                                        (3 < (↑(mSplit s (ByteArray.mk (Array.mk [UInt8.ofNat 46]))).length : Int)))
                                      (chk
                                        (decide
                                          (3 < (↑(mSplit s (ByteArray.mk (Array.mk [UInt8.ofNat 46]))).length : Int)))
                                        (chk
                                          (okRow [SK.s]
                                            ((mSplit s (ByteArray.mk (Array.mk [UInt8.ofNat 46]))).getD 3 []))
                                          (chk
                                            (gd
                                              (OkAtoi
                                                (strA
                                                  (((mSplit s (ByteArray.mk (Array.mk [UInt8.ofNat 46]))).getD 3
                                                        []).getD
                                                    0 At.bad))))
                                            (tst
                                              (mAtoiOk
                                                (strA
                                                  (((mSplit s (ByteArray.mk (Array.mk [UInt8.ofNat 46]))).getD 3
                                                        []).getD
                                                    0 At.bad)))
                                              none
                                              (some
                                                (Sv.tup
                                                    [Sv.agg
                                                        [At.v (Value.int IntKind.i64 0), At.v (Value.int IntKind.i64 0),
                                                          At.v (Value.int IntKind.i64 0)],
                                                      Sv.one (At.v (Value.bool false))],
                                                  []))))))
                                      (tst
                                        (!mValidProc
                                            (mAtoi
                                              (strA
                                                (((mSplit s (ByteArray.mk (Array.mk [UInt8.ofNat 46]))).getD 0 []).getD
                                                  0 At.bad)))
                                            (mAtoi
                                              (strA
                                                (((mSplit s (ByteArray.mk (Array.mk [UInt8.ofNat 46]))).getD 1 []).getD
                                                  0 At.bad)))
                                            (mAtoi
                                              (strA
                                                (((mSplit s (ByteArray.mk (Array.mk [UInt8.ofNat 46]))).getD 2 []).getD
                                                  0 At.bad))))
                                        (some
                                          (Sv.tup
                                              [Sv.agg
                                                  [At.v (Value.int IntKind.i64 0), At.v (Value.int IntKind.i64 0),
                                                    At.v (Value.int IntKind.i64 0)],
                                                Sv.one (At.v (Value.bool false))],
                                            []))
                                        (tst
                                          (bif false then true
                                          else
                                            !bytesEq
                                                (mFormat
                                                  (mAtoi
                                                    (strA
                                                      (((mSplit s (ByteArray.mk (Array.mk [UInt8.ofNat 46]))).getD 0
                                                            []).getD
                                                        0 At.bad)))
                                                  (mAtoi
                                                    (strA
                                                      (((mSplit s (ByteArray.mk (Array.mk [UInt8.ofNat 46]))).getD 1
                                                            []).getD
                                                        0 At.bad)))
                                                  (mAtoi
                                                    (strA
                                                      (((mSplit s (ByteArray.mk (Array.mk [UInt8.ofNat 46]))).getD 2
                                                            []).getD
                                                        0 At.bad))))
                                                s)
                                          (some
                                            (Sv.tup
                                                [Sv.agg
                                                    [At.v (Value.int IntKind.i64 0), At.v (Value.int IntKind.i64 0),
                                                      At.v (Value.int IntKind.i64 0)],
                                                  Sv.one (At.v (Value.bool false))],
                                              []))
                                          (some
                                            (Sv.tup
                                                [Sv.agg
                                                    [At.v
                                                        (Value.int IntKind.i64
                                                          (mAtoi
                                                            (strA
                                                              (((mSplit s
                                                                        (ByteArray.mk (Array.mk [UInt8.ofNat 46]))).getD
                                                                    0 []).getD
                                                                0 At.bad)))),
                                                      At.v
                                                        (Value.int IntKind.i64
                                                          (mAtoi
                                                            (strA
                                                              (((mSplit s
                                                                        (ByteArray.mk (Array.mk [UInt8.ofNat 46]))).getD
                                                                    1 []).getD
                                                                0 At.bad)))),
                                                      At.v
                                                        (Value.int IntKind.i64
                                                          (mAtoi
                                                            (strA
                                                              (((mSplit s
                                                                        (ByteArray.mk (Array.mk [UInt8.ofNat 46]))).getD
                                                                    2 []).getD
                                                                0 At.bad))))],
                                                  Sv.one (At.v (Value.bool true))],
                                              [])))))
                                    (some
                                      (Sv.tup
                                          [Sv.agg
                                              [At.v (Value.int IntKind.i64 0), At.v (Value.int IntKind.i64 0),
                                                At.v (Value.int IntKind.i64 0)],
                                            Sv.one (At.v (Value.bool false))],
                                        []))))))
                            (tst
                              (!mValidProc
                                  (mAtoi
                                    (strA
                                      (((mSplit s (ByteArray.mk (Array.mk [UInt8.ofNat 46]))).getD 0 []).getD 0
                                        At.bad)))
                                  (mAtoi
                                    (strA
                                      (((mSplit s (ByteArray.mk (Array.mk [UInt8.ofNat 46]))).getD 1 []).getD 0
                                        At.bad)))
                                  0)
                              (some
                                (Sv.tup
                                    [Sv.agg
                                        [At.v (Value.int IntKind.i64 0), At.v (Value.int IntKind.i64 0),
                                          At.v (Value.int IntKind.i64 0)],
                                      Sv.one (At.v (Value.bool false))],
                                  []))
                              (tst
                                (bif false then true
                                else
                                  !bytesEq
                                      (mFormat
                                        (mAtoi
                                          (strA
                                            (((mSplit s (ByteArray.mk (Array.mk [UInt8.ofNat 46]))).getD 0 []).getD 0
                                              At.bad)))
                                        (mAtoi
                                          (strA
                                            (((mSplit s (ByteArray.mk (Array.mk [UInt8.ofNat 46]))).getD 1 []).getD 0
                                              At.bad)))
                                        0)
                                      s)
                                (some
                                  (Sv.tup
                                      [Sv.agg
                                          [At.v (Value.int IntKind.i64 0), At.v (Value.int IntKind.i64 0),
                                            At.v (Value.int IntKind.i64 0)],
                                        Sv.one (At.v (Value.bool false))],
                                    []))
                                (some
                                  (Sv.tup
                                      [Sv.agg
                                          [At.v
                                              (Value.int IntKind.i64
                                                (mAtoi
                                                  (strA
                                                    (((mSplit s (ByteArray.mk (Array.mk [UInt8.ofNat 46]))).getD 0
                                                          []).getD
                                                      0 At.bad)))),
                                            At.v
                                              (Value.int IntKind.i64
                                                (mAtoi
                                                  (strA
                                                    (((mSplit s (ByteArray.mk (Array.mk [UInt8.ofNat 46]))).getD 1
                                                          []).getD
                                                      0 At.bad)))),
                                            At.v (Value.int IntKind.i64 0)],
                                        Sv.one (At.v (Value.bool true))],
                                    [])))))
                          (some
                            (Sv.tup
                                [Sv.agg
                                    [At.v (Value.int IntKind.i64 0), At.v (Value.int IntKind.i64 0),
                                      At.v (Value.int IntKind.i64 0)],
                                  Sv.one (At.v (Value.bool false))],
                              []))))))
                  (tst
                    (!mValidProc
                        (mAtoi (strA (((mSplit s (ByteArray.mk (Array.mk [UInt8.ofNat 46]))).getD 0 []).getD 0 At.bad)))
                        0 0)
                    (some
                      (Sv.tup
                          [Sv.agg
                              [At.v (Value.int IntKind.i64 0), At.v (Value.int IntKind.i64 0),
                                At.v (Value.int IntKind.i64 0)],
                            Sv.one (At.v (Value.bool false))],
                        []))
                    (tst
                      (bif false then true
                      else
                        !bytesEq
                            (mFormat
                              (mAtoi
                                (strA
                                  (((mSplit s (ByteArray.mk (Array.mk [UInt8.ofNat 46]))).getD 0 []).getD 0 At.bad)))
                              0 0)
                            s)
                      (some
                        (Sv.tup
                            [Sv.agg
                                [At.v (Value.int IntKind.i64 0), At.v (Value.int IntKind.i64 0),
                                  At.v (Value.int IntKind.i64 0)],
                              Sv.one (At.v (Value.bool false))],
                          []))
                      (some
                        (Sv.tup
                            [Sv.agg
                                [At.v
                                    (Value.int IntKind.i64
                                      (mAtoi
                                        (strA
                                          (((mSplit s (ByteArray.mk (Array.mk [UInt8.ofNat 46]))).getD 0 []).getD 0
                                            At.bad)))),
                                  At.v (Value.int IntKind.i64 0), At.v (Value.int IntKind.i64 0)],
                              Sv.one (At.v (Value.bool true))],
                          [])))))
                (some
                  (Sv.tup
                      [Sv.agg
                          [At.v (Value.int IntKind.i64 0), At.v (Value.int IntKind.i64 0),
                            At.v (Value.int IntKind.i64 0)],
                        Sv.one (At.v (Value.bool false))],
                    []))))))
        (tst (!mValidProc 0 0 0)
          (some
            (Sv.tup
                [Sv.agg
                    [At.v (Value.int IntKind.i64 0), At.v (Value.int IntKind.i64 0), At.v (Value.int IntKind.i64 0)],
                  Sv.one (At.v (Value.bool false))],
              []))
          (tst (bif false then true else !bytesEq (mFormat 0 0 0) s)
            (some
              (Sv.tup
                  [Sv.agg
                      [At.v (Value.int IntKind.i64 0), At.v (Value.int IntKind.i64 0), At.v (Value.int IntKind.i64 0)],
                    Sv.one (At.v (Value.bool false))],
                []))
            (some
              (Sv.tup
                  [Sv.agg
                      [At.v (Value.int IntKind.i64 0), At.v (Value.int IntKind.i64 0), At.v (Value.int IntKind.i64 0)],
                    Sv.one (At.v (Value.bool true))],
                []))))))) := by kernel_rfl

theorem split_row (s sep : ByteArray) (i : Nat) (h : i < (mSplit s sep).length) : okRow [.s] ((mSplit s sep).getD i []) = true := by
  unfold mSplit at h ⊢
  rw [List.getD_eq_getElem?_getD, List.getElem?_map]
  rw [List.length_map] at h
  rw [List.getElem?_eq_getElem h]; rfl
theorem e21 (s : ByteArray) (ok : OkParse s) : vstep EL Tryd.prog noLo 5 o20 21 [sv s] [] = some (.tup [pv (mParseA s) (mParseC s) (mParseD s), bv (mParseB s)], []) := by
  rw [q21, chk_t (gd_t (p := OkSplit s (ByteArray.mk (Array.mk [UInt8.ofNat 46]))) ⟨ok.h, by decide⟩)]
  unfold mParseA mParseC mParseD mParseB
  cases hl : ((mSplit s dot).length : Int) == 3 with
  | false => 
    rw [tst_t (show (((mSplit s (ByteArray.mk (Array.mk [UInt8.ofNat 46]))).length : Int) != 3) = true by show (!(((mSplit s dot).length : Int) == 3)) = true; rw [hl]; rfl)]
    rfl
  | true =>
    have hl3 : ((mSplit s dot).length : Int) = 3 := by simpa using hl
    have hl3' : (mSplit s dot).length = 3 := by omega
    rw [tst_f (show (((mSplit s (ByteArray.mk (Array.mk [UInt8.ofNat 46]))).length : Int) != 3) = false by show (!(((mSplit s dot).length : Int) == 3)) = false; rw [hl]; rfl)]
    cases hs : decide ((s.size : Int) > 20) with
    | true => rfl
    | false =>
      have hs20 : s.size ≤ 20 := by have := of_decide_eq_false hs; omega
      have hp := ok.parts hl3 hs20
      have g : ∀ i, i < 3 → gd (OkAtoi (strA (((mSplit s dot).getD i []).getD 0 At.bad))) = true := fun i hi => gd_t ⟨hp i hi⟩
      have r : ∀ i, i < 3 → okRow [SK.s] ((mSplit s dot).getD i []) = true := fun i hi => split_row s dot i (by omega)
      have k : ∀ i : Int, i < 3 → decide (i < ((mSplit s dot).length : Int)) = true := fun i hi => decide_eq_true (by omega)
      have k3 : decide ((3 : Int) < ((mSplit s dot).length : Int)) = false := decide_eq_false (by omega)
      rw [show (ByteArray.mk (Array.mk [UInt8.ofNat 46])) = dot from rfl]
      rw [k 0 (by decide), r 0 (by decide), g 0 (by decide), k 1 (by decide), r 1 (by decide), g 1 (by decide), k 2 (by decide), r 2 (by decide), g 2 (by decide), k3]
      simp only [mPart]
      generalize strA (((mSplit s dot).getD 0 []).getD 0 At.bad) = x
      generalize strA (((mSplit s dot).getD 1 []).getD 0 At.bad) = y
      generalize strA (((mSplit s dot).getD 2 []).getD 0 At.bad) = z
      cases mAtoiOk x <;> first | rfl | (cases mAtoiOk y <;> first | rfl | (cases mAtoiOk z <;> first | rfl | (cases mValidProc (mAtoi x) (mAtoi y) (mAtoi z) <;> first | rfl | (cases bytesEq (mFormat (mAtoi x) (mAtoi y) (mAtoi z)) s <;> rfl))))
def F21 (a : List Sv) (M : List Box) : Tr := match a, M with
  | [.one (.v (.string s))], [] => (.br (gd (OkParse s)) (.ok (.tup [pv (mParseA s) (mParseC s) (mParseD s), bv (mParseB s)], [])) .no)
  | _, _ => .no
def o21 : Orc := over o20 21 F21
theorem c21 : CallOK EL Tryd.prog o21 := over_ok T.tok T.mo T.ng c20 fun args M x hx => by
  unfold F21 at hx
  split at hx
  · rename_i s
    obtain ⟨hc, hx⟩ := br_some hx
    exact ⟨noLo, 5, loops_no, (e21 s (of_gd hc)).trans hx⟩
  · cases hx
theorem q19 (a b c d e f : Int) : vstep EL Tryd.prog noLo 0 o21 19 [pv a b c, pv d e f] [] =
some (Sv.one (At.v (Value.int IntKind.i64 (mOrder3 a b c d e f))), []) := by kernel_rfl

theorem e19 (a b c d e f : Int) : vstep EL Tryd.prog noLo 0 o21 19 [pv a b c, pv d e f] [] = some (iv (mOrder3 a b c d e f), []) := q19 a b c d e f
def F19 (a : List Sv) (M : List Box) : Tr := match a, M with
  | [.agg [.v (.int .i64 a), .v (.int .i64 b), .v (.int .i64 c)], .agg [.v (.int .i64 d), .v (.int .i64 e), .v (.int .i64 f)]], [] => (.ok (iv (mOrder3 a b c d e f), []))
  | _, _ => .no
def o19 : Orc := over o21 19 F19
theorem c19 : CallOK EL Tryd.prog o19 := over_ok T.tok T.mo T.ng c21 fun args M x hx => by
  unfold F19 at hx
  split at hx
  · rename_i a b c d e f
    exact ⟨noLo, 0, loops_no, (e19 a b c d e f).trans hx⟩
  · cases hx
theorem q26 (a b c d e f : Int) : vstep EL Tryd.prog noLo 0 o19 26 [pv a b c, pv d e f] [] =
tst (mOrder a d != 0) (some (Sv.one (At.v (Value.int IntKind.i64 (mOrder a d))), []))
  (tst (mOrder b e != 0) (some (Sv.one (At.v (Value.int IntKind.i64 (mOrder b e))), []))
    (some (Sv.one (At.v (Value.int IntKind.i64 (mOrder c f))), []))) := by kernel_rfl
theorem e26 (a b c d e f : Int) : vstep EL Tryd.prog noLo 0 o19 26 [pv a b c, pv d e f] [] = some (iv (mCompare a b c d e f), []) := by
  rw [q26]; unfold mCompare
  cases (mOrder a d != 0) <;> first | rfl | (cases (mOrder b e != 0) <;> first | rfl | (rfl))
def F26 (a : List Sv) (M : List Box) : Tr := match a, M with
  | [.agg [.v (.int .i64 a), .v (.int .i64 b), .v (.int .i64 c)], .agg [.v (.int .i64 d), .v (.int .i64 e), .v (.int .i64 f)]], [] => (.ok (iv (mCompare a b c d e f), []))
  | _, _ => .no
def o26 : Orc := over o19 26 F26
theorem c26 : CallOK EL Tryd.prog o26 := over_ok T.tok T.mo T.ng c19 fun args M x hx => by
  unfold F26 at hx
  split at hx
  · rename_i a b c d e f
    exact ⟨noLo, 0, loops_no, (e26 a b c d e f).trans hx⟩
  · cases hx
theorem q27 (a b c d : Int) : vstep EL Tryd.prog noLo 0 o26 27 [tv a b, tv c d] [] =
some (Sv.one (At.v (Value.int IntKind.i64 (mOrder3 a b 0 c d 0))), []) := by kernel_rfl

theorem e27 (a b c d : Int) : vstep EL Tryd.prog noLo 0 o26 27 [tv a b, tv c d] [] = some (iv (mOrder3 a b 0 c d 0), []) := q27 a b c d
def F27 (a : List Sv) (M : List Box) : Tr := match a, M with
  | [.agg [.v (.int .i64 a), .v (.int .i64 b)], .agg [.v (.int .i64 c), .v (.int .i64 d)]], [] => (.ok (iv (mOrder3 a b 0 c d 0), []))
  | _, _ => .no
def o27 : Orc := over o26 27 F27
theorem c27 : CallOK EL Tryd.prog o27 := over_ok T.tok T.mo T.ng c26 fun args M x hx => by
  unfold F27 at hx
  split at hx
  · rename_i a b c d
    exact ⟨noLo, 0, loops_no, (e27 a b c d).trans hx⟩
  · cases hx
theorem q28 (a b c d : Int) : vstep EL Tryd.prog noLo 0 o27 28 [tv a b, tv c d] [] =
tst (mOrder a c != 0) (some (Sv.one (At.v (Value.int IntKind.i64 (mOrder a c))), []))
  (some (Sv.one (At.v (Value.int IntKind.i64 (mOrder b d))), [])) := by kernel_rfl
theorem e28 (a b c d : Int) : vstep EL Tryd.prog noLo 0 o27 28 [tv a b, tv c d] [] = some (iv (mCompare2 a b c d), []) := by
  rw [q28]; unfold mCompare2
  cases (mOrder a c != 0) <;> first | rfl | (rfl)
def F28 (a : List Sv) (M : List Box) : Tr := match a, M with
  | [.agg [.v (.int .i64 a), .v (.int .i64 b)], .agg [.v (.int .i64 c), .v (.int .i64 d)]], [] => (.ok (iv (mCompare2 a b c d), []))
  | _, _ => .no
def o28 : Orc := over o27 28 F28
theorem c28 : CallOK EL Tryd.prog o28 := over_ok T.tok T.mo T.ng c27 fun args M x hx => by
  unfold F28 at hx
  split at hx
  · rename_i a b c d
    exact ⟨noLo, 0, loops_no, (e28 a b c d).trans hx⟩
  · cases hx
theorem q29 (a b c d : Int) : vstep EL Tryd.prog noLo 0 o28 29 [tv a b, tv c d] [] =
tst (!mValidStamp a b)
  (some
    (Sv.tup
        [Sv.agg [At.v (Value.int IntKind.i64 0), At.v (Value.int IntKind.i64 0)],
          Sv.one (At.v (Value.int IntKind.i64 1))],
      []))
  (tst (bif false then true else !mValidStamp c d)
    (some
      (Sv.tup
          [Sv.agg [At.v (Value.int IntKind.i64 0), At.v (Value.int IntKind.i64 0)],
            Sv.one (At.v (Value.int IntKind.i64 1))],
        []))
    (tst (decide (IntKind.wrap .i64 ((bif decide (a < c) then c else a) + 1) > 1073741824))
      (some
        (Sv.tup
            [Sv.agg [At.v (Value.int IntKind.i64 0), At.v (Value.int IntKind.i64 0)],
              Sv.one (At.v (Value.int IntKind.i64 16))],
          []))
      (some
        (Sv.tup
            [Sv.agg
                [At.v (Value.int IntKind.i64 (IntKind.wrap .i64 ((bif decide (a < c) then c else a) + 1))),
                  At.v (Value.int IntKind.i64 b)],
              Sv.one (At.v (Value.int IntKind.i64 0))],
          [])))) := by kernel_rfl

theorem wrap_in {n : Int} (h0 : -9223372036854775808 ≤ n) (h1 : n ≤ 9223372036854775807) : IntKind.wrap .i64 n = n := i64_in _ ⟨h0, h1⟩
theorem stamp_iff {a b : Int} : mValidStamp a b = true ↔ (0 ≤ a ∧ a ≤ 1073741824) ∧ (0 ≤ b ∧ b < 4) := by
  simp only [mValidStamp, Bool.and_eq_true, decide_eq_true_eq]
  omega
theorem e29 (a b c d : Int) : vstep EL Tryd.prog noLo 0 o28 29 [tv a b, tv c d] [] = some (.tup [tv (mMergeT a b c d) (mMergeS a b c d), iv (mMergeE a b c d)], []) := by
  rw [q29]
  unfold mMergeT mMergeS mMergeE
  cases h1 : mValidStamp a b with
  | false => rfl
  | true =>
    cases h2 : mValidStamp c d with
    | false => rfl
    | true =>
      have v1 := stamp_iff.1 h1
      have v2 := stamp_iff.1 h2
      have e : (bif decide (a < c) then c else a) = max a c := by
        cases h : decide (a < c) with
        | true => have := of_decide_eq_true h; simp only [cond]; omega
        | false => have := of_decide_eq_false h; simp only [cond]; omega
      rw [e, wrap_in (by omega) (by omega)]
      cases h : decide (max a c = 1073741824) with
      | true =>
        have := of_decide_eq_true h
        rw [show decide (max a c + 1 > 1073741824) = true from decide_eq_true (by omega)]; rfl
      | false =>
        have := of_decide_eq_false h
        rw [show decide (max a c + 1 > 1073741824) = false from decide_eq_false (by omega)]; rfl
def F29 (a : List Sv) (M : List Box) : Tr := match a, M with
  | [.agg [.v (.int .i64 a), .v (.int .i64 b)], .agg [.v (.int .i64 c), .v (.int .i64 d)]], [] => (.ok (.tup [tv (mMergeT a b c d) (mMergeS a b c d), iv (mMergeE a b c d)], []))
  | _, _ => .no
def o29 : Orc := over o28 29 F29
theorem c29 : CallOK EL Tryd.prog o29 := over_ok T.tok T.mo T.ng c28 fun args M x hx => by
  unfold F29 at hx
  split at hx
  · rename_i a b c d
    exact ⟨noLo, 0, loops_no, (e29 a b c d).trans hx⟩
  · cases hx
theorem q30 (a b c d : Int) : vstep EL Tryd.prog noLo 0 o29 30 [tv a b, tv c d] [] =
tst (!mValidStamp a b)
  (some
    (Sv.tup
        [Sv.agg [At.v (Value.int IntKind.i64 0), At.v (Value.int IntKind.i64 0)],
          Sv.one (At.v (Value.int IntKind.i64 1))],
      []))
  (tst (bif false then true else !mValidStamp c d)
    (some
      (Sv.tup
          [Sv.agg [At.v (Value.int IntKind.i64 0), At.v (Value.int IntKind.i64 0)],
            Sv.one (At.v (Value.int IntKind.i64 1))],
        []))
    (tst (decide (c > a))
      (tst (c == 1073741824)
        (some
          (Sv.tup
              [Sv.agg [At.v (Value.int IntKind.i64 0), At.v (Value.int IntKind.i64 0)],
                Sv.one (At.v (Value.int IntKind.i64 16))],
            []))
        (some
          (Sv.tup
              [Sv.agg [At.v (Value.int IntKind.i64 (IntKind.wrap .i64 (c + 1))), At.v (Value.int IntKind.i64 b)],
                Sv.one (At.v (Value.int IntKind.i64 0))],
            [])))
      (tst (a == 1073741824)
        (some
          (Sv.tup
              [Sv.agg [At.v (Value.int IntKind.i64 0), At.v (Value.int IntKind.i64 0)],
                Sv.one (At.v (Value.int IntKind.i64 16))],
            []))
        (some
          (Sv.tup
              [Sv.agg [At.v (Value.int IntKind.i64 (IntKind.wrap .i64 (a + 1))), At.v (Value.int IntKind.i64 b)],
                Sv.one (At.v (Value.int IntKind.i64 0))],
            []))))) := by kernel_rfl

theorem e30 (a b c d : Int) : vstep EL Tryd.prog noLo 0 o29 30 [tv a b, tv c d] [] = some (.tup [tv (mMergeT a b c d) (mMergeS a b c d), iv (mMergeE a b c d)], []) := by
  rw [q30]
  unfold mMergeT mMergeS mMergeE
  cases h1 : mValidStamp a b with
  | false => rfl
  | true =>
    cases h2 : mValidStamp c d with
    | false => rfl
    | true =>
      have v1 := stamp_iff.1 h1
      have v2 := stamp_iff.1 h2
      have key : ∀ m : Int, max a c = m → m + 1 ≤ 9223372036854775807 → 0 ≤ m → tst (m == 1073741824) (some (Sv.tup [Sv.agg [At.v (Value.int IntKind.i64 0), At.v (Value.int IntKind.i64 0)], Sv.one (At.v (Value.int IntKind.i64 16))], ([] : List Box)))
          (some (Sv.tup [Sv.agg [At.v (Value.int IntKind.i64 (IntKind.wrap .i64 (m + 1))), At.v (Value.int IntKind.i64 b)], Sv.one (At.v (Value.int IntKind.i64 0))], [])) =
          some (.tup [tv (bif decide (max a c = 1073741824) then 0 else max a c + 1) (bif decide (max a c = 1073741824) then 0 else b), iv (bif decide (max a c = 1073741824) then 16 else 0)], []) := by
        intro m hm hb h0
        rw [hm, wrap_in (by omega) hb]
        cases h : decide (m = 1073741824) with
        | true => rw [show (m == 1073741824) = true from beq_iff_eq.2 (of_decide_eq_true h)]; rfl
        | false => rw [show (m == 1073741824) = false from beq_eq_false_iff_ne.2 (of_decide_eq_false h)]; rfl
      cases h : decide (c > a) with
      | true => exact key c (by have := of_decide_eq_true h; omega) (by omega) (by omega)
      | false => exact key a (by have := of_decide_eq_false h; omega) (by omega) (by omega)
def F30 (a : List Sv) (M : List Box) : Tr := match a, M with
  | [.agg [.v (.int .i64 a), .v (.int .i64 b)], .agg [.v (.int .i64 c), .v (.int .i64 d)]], [] => (.ok (.tup [tv (mMergeT a b c d) (mMergeS a b c d), iv (mMergeE a b c d)], []))
  | _, _ => .no
def o30 : Orc := over o29 30 F30
theorem c30 : CallOK EL Tryd.prog o30 := over_ok T.tok T.mo T.ng c29 fun args M x hx => by
  unfold F30 at hx
  split at hx
  · rename_i a b c d
    exact ⟨noLo, 0, loops_no, (e30 a b c d).trans hx⟩
  · cases hx
end
end Go.Proofs.YtkpdcieoiciapaaDoor
