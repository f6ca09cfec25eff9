/- The reference's decimal numbers, and how it writes a process. -/
import Derived.Test.YtkpdcieoiciapaaDoorIdD
namespace Go.Proofs.YtkpdcieoiciapaaDoor
open Go Go.Vi Go.IntWalk
set_option maxRecDepth 100000
set_option linter.unusedVariables false
set_option linter.unusedSimpArgs false
noncomputable section

structure OkD (k : Nat) (n : Int) : Prop where
  h0 : 0 ≤ n
  h1 : n < 10 ^ k
theorem q44a (n : Int) : vstep EL Tryd.prog noLo 0 o14 44 [iv n] [] =
chk (decide (n < 10))
  (some
    (Sv.one
        (At.v
          (Value.string (ByteArray.mk (Array.mk [UInt8.ofNat (IntKind.wrap .u8 (IntKind.wrap .i64 (48 + n))).toNat])))),
      [])) := by kernel_rfl

theorem itoa_digit {n : Int} (h0 : 0 ≤ n) (h1 : n < 10) : ByteArray.mk (Array.mk [UInt8.ofNat (IntKind.wrap .u8 (IntKind.wrap .i64 (48 + n))).toNat]) = mItoa n := by
  have : ((List.range 10).all fun k => decide (ByteArray.mk (Array.mk [UInt8.ofNat (IntKind.wrap .u8 (IntKind.wrap .i64 (48 + (k : Int)))).toNat]) = ⟨(Lib.itoa k).toArray⟩)) = true := by kernel_rfl
  obtain ⟨k, rfl⟩ := Int.eq_ofNat_of_zero_le h0
  exact of_decide_eq_true (List.all_eq_true.1 this k (List.mem_range.2 (by omega)))
theorem td {n : Int} (h : 0 ≤ n) : n.tdiv 10 = n / 10 ∧ n.tmod 10 = n % 10 := ⟨Int.tdiv_eq_ediv_of_nonneg h, Int.tmod_eq_emod_of_nonneg h⟩
theorem itoa_step {n : Int} (h0 : 10 ≤ n) : mItoa (n.tdiv 10) ++ mItoa (n.tmod 10) = mItoa n := by
  obtain ⟨k, rfl⟩ := Int.eq_ofNat_of_zero_le (show 0 ≤ n by omega)
  have e1 : (k : Int).tdiv 10 = ((k / 10 : Nat) : Int) := by rw [(td (by omega)).1]; omega
  have e2 : (k : Int).tmod 10 = ((k % 10 : Nat) : Int) := by rw [(td (by omega)).2]; omega
  rw [e1, e2]
  have f : ∀ m : Nat, Lib.itoa (m : Int) = Lib.decDigits m := by intro m; unfold Lib.itoa; rw [if_neg (by omega)]; rfl
  unfold mItoa
  rw [f, f, f, Lib.decDigits_one (i := k % 10) (by omega)]
  conv => rhs; rw [Lib.decDigits, dif_neg (by omega : ¬ k < 10)]
  apply ByteArray.ext
  simp
theorem e44a (n : Int) (ok : OkD 1 n) : vstep EL Tryd.prog noLo 0 o14 44 [iv n] [] = some (sv (mItoa n), []) := by
  have h1 : n < 10 := ok.h1
  rw [q44a, chk_t (decide_eq_true h1), itoa_digit ok.h0 h1]
def F44a (a : List Sv) (M : List Box) : Tr := match a, M with
  | [.one (.v (.int .i64 n))], [] => (.br (gd (OkD 1 n)) (.ok (sv (mItoa n), [])) .no)
  | _, _ => .no
def o44a : Orc := over o14 44 F44a
theorem c44a : CallOK EL Tryd.prog o44a := over_ok T.tok T.mo T.ng c14 fun args M x hx => by
  unfold F44a at hx
  split at hx
  · rename_i n
    obtain ⟨hc, hx⟩ := br_some hx
    exact ⟨noLo, 0, loops_no, (e44a n (of_gd hc)).trans hx⟩
  · cases hx
theorem q44b (n : Int) : vstep EL Tryd.prog noLo 0 o44a 44 [iv n] [] =
tst (decide (n < 10))
  (some
    (Sv.one
        (At.v
          (Value.string (ByteArray.mk (Array.mk [UInt8.ofNat (IntKind.wrap .u8 (IntKind.wrap .i64 (48 + n))).toNat])))),
      []))
  (chk (gd (OkD 1 (IntKind.wrap .i64 (n.tdiv 10))))
    (chk
      (decide
        ((mItoa (IntKind.wrap .i64 (n.tdiv 10))).size +
            (ByteArray.mk (Array.mk [UInt8.ofNat (IntKind.wrap .u8 (IntKind.wrap .i64 (48 + n.tmod 10))).toNat])).size ≤
          9223372036854775807))
      (some
        (Sv.one
            (At.v
              (Value.string
                (mItoa (IntKind.wrap .i64 (n.tdiv 10)) ++
                  (ByteArray.mk (Array.mk [UInt8.ofNat (IntKind.wrap .u8 (IntKind.wrap .i64 (48 + n.tmod 10))).toNat]))))),
          [])))) := by kernel_rfl

theorem itoa_small {k : Nat} {n : Int} (ok : OkD k n) (hk : k ≤ 3) : (mItoa n).size ≤ 3 := by
  have h1 := ok.h1
  have h0 := ok.h0
  refine itoa_size h0 ?_
  match k, hk with
  | 0, _ | 1, _ | 2, _ | 3, _ => simp at h1; omega
theorem decimal_some {k : Nat} (hk : k ≤ 2) {n : Int} (ok : OkD (k + 1) n) :
    tst (decide (n < 10)) (some (Sv.one (At.v (Value.string (ByteArray.mk (Array.mk [UInt8.ofNat (IntKind.wrap .u8 (IntKind.wrap .i64 (48 + n))).toNat])))), ([] : List Box)))
      (chk (gd (OkD k (IntKind.wrap .i64 (n.tdiv 10)))) (chk (decide ((mItoa (IntKind.wrap .i64 (n.tdiv 10))).size + (ByteArray.mk (Array.mk [UInt8.ofNat (IntKind.wrap .u8 (IntKind.wrap .i64 (48 + n.tmod 10))).toNat])).size ≤ 9223372036854775807))
        (some (Sv.one (At.v (Value.string (mItoa (IntKind.wrap .i64 (n.tdiv 10)) ++ (ByteArray.mk (Array.mk [UInt8.ofNat (IntKind.wrap .u8 (IntKind.wrap .i64 (48 + n.tmod 10))).toNat]))))), [])))) = some (sv (mItoa n), []) := by
  have h1 := ok.h1
  have h0 := ok.h0
  cases h : decide (n < 10) with
  | true => rw [tst_t rfl, itoa_digit h0 (of_decide_eq_true h)]
  | false =>
    have h := of_decide_eq_false h
    have hb : n < 1000 := by match k, hk with | 0, _ | 1, _ | 2, _ => simp at h1; omega
    obtain ⟨t1, t2⟩ := td h0
    have hok : OkD k (n.tdiv 10) := ⟨by omega, by rw [t1]; match k, hk, h1 with | 0, _, h1 | 1, _, h1 | 2, _, h1 => simp at h1 ⊢; omega⟩
    rw [tst_f rfl, wrap_in (n := n.tdiv 10) (by omega) (by omega), itoa_digit (n := n.tmod 10) (by omega) (by omega), chk_t (gd_t hok),
      chk_t (decide_eq_true (by have := itoa_small hok (by omega); have := itoa_size (n := n.tmod 10) (by omega) (by omega); omega)), itoa_step (by omega)]
theorem e44b (n : Int) (ok : OkD 2 n) : vstep EL Tryd.prog noLo 0 o44a 44 [iv n] [] = some (sv (mItoa n), []) := by rw [q44b]; exact decimal_some (by decide) ok
def F44b (a : List Sv) (M : List Box) : Tr := match a, M with
  | [.one (.v (.int .i64 n))], [] => (.br (gd (OkD 2 n)) (.ok (sv (mItoa n), [])) .no)
  | _, _ => .no
def o44b : Orc := over o44a 44 F44b
theorem c44b : CallOK EL Tryd.prog o44b := over_ok T.tok T.mo T.ng c44a fun args M x hx => by
  unfold F44b at hx
  split at hx
  · rename_i n
    obtain ⟨hc, hx⟩ := br_some hx
    exact ⟨noLo, 0, loops_no, (e44b n (of_gd hc)).trans hx⟩
  · cases hx
theorem q44 (n : Int) : vstep EL Tryd.prog noLo 0 o44b 44 [iv n] [] =
tst (decide (n < 10))
  (some
    (Sv.one
        (At.v
          (Value.string (ByteArray.mk (Array.mk [UInt8.ofNat (IntKind.wrap .u8 (IntKind.wrap .i64 (48 + n))).toNat])))),
      []))
  (chk (gd (OkD 2 (IntKind.wrap .i64 (n.tdiv 10))))
    (chk
      (decide
        ((mItoa (IntKind.wrap .i64 (n.tdiv 10))).size +
            (ByteArray.mk (Array.mk [UInt8.ofNat (IntKind.wrap .u8 (IntKind.wrap .i64 (48 + n.tmod 10))).toNat])).size ≤
          9223372036854775807))
      (some
        (Sv.one
            (At.v
              (Value.string
                (mItoa (IntKind.wrap .i64 (n.tdiv 10)) ++
                  (ByteArray.mk (Array.mk [UInt8.ofNat (IntKind.wrap .u8 (IntKind.wrap .i64 (48 + n.tmod 10))).toNat]))))),
          [])))) := by kernel_rfl

theorem e44 (n : Int) (ok : OkD 3 n) : vstep EL Tryd.prog noLo 0 o44b 44 [iv n] [] = some (sv (mItoa n), []) := by rw [q44]; exact decimal_some (by decide) ok
def F44 (a : List Sv) (M : List Box) : Tr := match a, M with
  | [.one (.v (.int .i64 n))], [] => (.br (gd (OkD 3 n)) (.ok (sv (mItoa n), [])) .no)
  | _, _ => .no
def o44 : Orc := over o44b 44 F44
theorem c44 : CallOK EL Tryd.prog o44 := over_ok T.tok T.mo T.ng c44b fun args M x hx => by
  unfold F44 at hx
  split at hx
  · rename_i n
    obtain ⟨hc, hx⟩ := br_some hx
    exact ⟨noLo, 0, loops_no, (e44 n (of_gd hc)).trans hx⟩
  · cases hx
theorem q22 (a b c : Int) : vstep EL Tryd.prog noLo 0 o44 22 [pv a b c] [] =
tst (!mValidProc a b c) (some (Sv.one (At.v (Value.string (ByteArray.mk (Array.mk [])))), []))
  (chk (gd (OkD 3 a))
    (chk (decide ((mItoa a).size + 1 ≤ 9223372036854775807))
      (chk (gd (OkD 3 b))
        (chk
          (decide ((mItoa a ++ (ByteArray.mk (Array.mk [UInt8.ofNat 46]))).size + (mItoa b).size ≤ 9223372036854775807))
          (chk
            (decide ((mItoa a ++ (ByteArray.mk (Array.mk [UInt8.ofNat 46])) ++ mItoa b).size + 1 ≤ 9223372036854775807))
            (chk (gd (OkD 3 c))
              (chk
                (decide
                  ((mItoa a ++ (ByteArray.mk (Array.mk [UInt8.ofNat 46])) ++ mItoa b ++
                          (ByteArray.mk (Array.mk [UInt8.ofNat 46]))).size +
                      (mItoa c).size ≤
                    9223372036854775807))
                (some
                  (Sv.one
                      (At.v
                        (Value.string
                          (mItoa a ++ (ByteArray.mk (Array.mk [UInt8.ofNat 46])) ++ mItoa b ++
                              (ByteArray.mk (Array.mk [UInt8.ofNat 46])) ++
                            mItoa c))),
                    []))))))))) := by kernel_rfl

theorem e22 (a b c : Int) : vstep EL Tryd.prog noLo 0 o44 22 [pv a b c] [] = some (sv (mFormat a b c), []) := by
  rw [q22]
  unfold mFormat
  cases h : mValidProc a b c with
  | false => rfl
  | true =>
    obtain ⟨h1, h2, h3⟩ := valid_iff.1 h
    have s1 := itoa_size (n := a) (by omega) (by omega)
    have s2 := itoa_size (n := b) (by omega) (by omega)
    have s3 := itoa_size (n := c) (by omega) (by omega)
    have hd : (ByteArray.mk (Array.mk [UInt8.ofNat 46])).size = 1 := rfl
    rw [Bool.not_true, tst_f rfl, chk_t (gd_t (p := OkD 3 a) ⟨by omega, by omega⟩), chk_t (decide_eq_true (by omega)), chk_t (gd_t (p := OkD 3 b) ⟨by omega, by omega⟩), chk_t (decide_eq_true (by rw [ByteArray.size_append, hd]; omega)),
      chk_t (decide_eq_true (by rw [ByteArray.size_append, ByteArray.size_append, hd]; omega)), chk_t (gd_t (p := OkD 3 c) ⟨by omega, by omega⟩), chk_t (decide_eq_true (by rw [ByteArray.size_append, ByteArray.size_append, ByteArray.size_append, hd]; omega))]
    rfl
def F22 (a : List Sv) (M : List Box) : Tr := match a, M with
  | [.agg [.v (.int .i64 a), .v (.int .i64 b), .v (.int .i64 c)]], [] => (.ok (sv (mFormat a b c), []))
  | _, _ => .no
def o22 : Orc := over o44 22 F22
theorem c22 : CallOK EL Tryd.prog o22 := over_ok T.tok T.mo T.ng c44 fun args M x hx => by
  unfold F22 at hx
  split at hx
  · rename_i a b c
    exact ⟨noLo, 0, loops_no, (e22 a b c).trans hx⟩
  · cases hx
theorem q5 (a b c : Int) : vstep EL Tryd.prog noLo 0 o22 5 [pv a b c] [] =
chk (gd (OkParse (mFormat a b c)))
  (tst (!mValidProc a b c)
    (tst (bif true then bytesEq (mFormat a b c) (ByteArray.mk (Array.mk [])) else false)
      (tst (bif true then !mParseB (mFormat a b c) else false)
        (some
          (Sv.one
              (At.v
                (Value.bool
                  (bif true then
                    mParseA (mFormat a b c) == 0 &&
                      (mParseC (mFormat a b c) == 0 && (mParseD (mFormat a b c) == 0 && true))
                  else false))),
            []))
        (some (Sv.one (At.v (Value.bool false)), [])))
      (some (Sv.one (At.v (Value.bool false)), [])))
    (tst (bif true then bytesEq (mFormat a b c) (mFormat a b c) else false)
      (tst (bif true then mParseB (mFormat a b c) else false)
        (some
          (Sv.one
              (At.v
                (Value.bool
                  (bif true then
                    mParseA (mFormat a b c) == a &&
                      (mParseC (mFormat a b c) == b && (mParseD (mFormat a b c) == c && true))
                  else false))),
            []))
        (some (Sv.one (At.v (Value.bool false)), [])))
      (some (Sv.one (At.v (Value.bool false)), [])))) := by kernel_rfl
theorem q8 (a b c d e f : Int) : vstep EL Tryd.prog noLo 0 o22 8 [pv a b c, pv d e f] [] =
tst (!mValidProc a b c) (some (Sv.one (At.v (Value.bool true)), []))
  (tst (bif false then true else !mValidProc d e f) (some (Sv.one (At.v (Value.bool true)), []))
    (tst (bif true then !bytesEq (mFormat a b c) (ByteArray.mk (Array.mk [])) else false)
      (some
        (Sv.one
            (At.v
              (Value.bool
                (bif true then bytesEq (mFormat a b c) (mFormat d e f) == (a == d && (b == e && (c == f && true)))
                else false))),
          []))
      (some (Sv.one (At.v (Value.bool false)), [])))) := by kernel_rfl
end
end Go.Proofs.YtkpdcieoiciapaaDoor
