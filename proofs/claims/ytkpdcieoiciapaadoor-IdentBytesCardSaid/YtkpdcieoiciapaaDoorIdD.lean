/- The laws on processes and stamps that need no more. -/
import Derived.Test.YtkpdcieoiciapaaDoorIdC
namespace Go.Proofs.YtkpdcieoiciapaaDoor
open Go Go.Vi Go.IntWalk
set_option maxRecDepth 100000
set_option linter.unusedVariables false
set_option linter.unusedSimpArgs false
noncomputable section
theorem q14  : vstep EL Tryd.prog noLo 0 o30 14 [] [] =
chk
  (gd
    (OkParse
      (ByteArray.mk (Array.mk [UInt8.ofNat 50, UInt8.ofNat 46, UInt8.ofNat 49, UInt8.ofNat 46, UInt8.ofNat 53]))))
  (tst
    (mParseB (ByteArray.mk (Array.mk [UInt8.ofNat 50, UInt8.ofNat 46, UInt8.ofNat 49, UInt8.ofNat 46, UInt8.ofNat 53])))
    (tst
      (bif true then
        mParseA
              (ByteArray.mk (Array.mk [UInt8.ofNat 50, UInt8.ofNat 46, UInt8.ofNat 49, UInt8.ofNat 46, UInt8.ofNat 53])) ==
            2 &&
          (mParseC
                (ByteArray.mk (Array.mk [UInt8.ofNat 50, UInt8.ofNat 46, UInt8.ofNat 49, UInt8.ofNat 46, UInt8.ofNat 53])) ==
              1 &&
            (mParseD
                  (ByteArray.mk (Array.mk [UInt8.ofNat 50, UInt8.ofNat 46, UInt8.ofNat 49, UInt8.ofNat 46, UInt8.ofNat 53])) ==
                5 &&
              true))
      else false)
      (tst
        (bif true then
          bytesEq
            (mFormat
              (mParseA
                (ByteArray.mk (Array.mk [UInt8.ofNat 50, UInt8.ofNat 46, UInt8.ofNat 49, UInt8.ofNat 46, UInt8.ofNat 53])))
              (mParseC
                (ByteArray.mk (Array.mk [UInt8.ofNat 50, UInt8.ofNat 46, UInt8.ofNat 49, UInt8.ofNat 46, UInt8.ofNat 53])))
              (mParseD
                (ByteArray.mk (Array.mk [UInt8.ofNat 50, UInt8.ofNat 46, UInt8.ofNat 49, UInt8.ofNat 46, UInt8.ofNat 53]))))
            (ByteArray.mk (Array.mk [UInt8.ofNat 50, UInt8.ofNat 46, UInt8.ofNat 49, UInt8.ofNat 46, UInt8.ofNat 53]))
        else false)
        (tst (bif true then mMergeE 3 0 7 1 == 0 else false)
          (tst (bif true then mMergeT 3 0 7 1 == 8 else false)
            (tst (bif true then mNext 1073741824 == 1 else false)
              (some
                (Sv.one
                    (At.v
                      (Value.bool
                        (bif true then
                          mOrder3
                              (mParseA
                                (ByteArray.mk (Array.mk [UInt8.ofNat 50, UInt8.ofNat 46, UInt8.ofNat 49, UInt8.ofNat 46,
                                          UInt8.ofNat 53])))
                              (mParseC
                                (ByteArray.mk (Array.mk [UInt8.ofNat 50, UInt8.ofNat 46, UInt8.ofNat 49, UInt8.ofNat 46,
                                          UInt8.ofNat 53])))
                              (mParseD
                                (ByteArray.mk (Array.mk [UInt8.ofNat 50, UInt8.ofNat 46, UInt8.ofNat 49, UInt8.ofNat 46,
                                          UInt8.ofNat 53])))
                              2 0 0 ==
                            1
                        else false))),
                  []))
              (some (Sv.one (At.v (Value.bool false)), [])))
            (some (Sv.one (At.v (Value.bool false)), [])))
          (some (Sv.one (At.v (Value.bool false)), [])))
        (some (Sv.one (At.v (Value.bool false)), [])))
      (some (Sv.one (At.v (Value.bool false)), [])))
    (some (Sv.one (At.v (Value.bool false)), []))) := by kernel_rfl

abbrev exm : ByteArray := ByteArray.mk (Array.mk [UInt8.ofNat 50, UInt8.ofNat 46, UInt8.ofNat 49, UInt8.ofNat 46, UInt8.ofNat 53])

theorem exm_ok : OkParse exm := ⟨by decide, fun _ _ i hi => by
  match i, hi with
  | 0, _ => exact of_decide_eq_true (by kernel_rfl)
  | 1, _ => exact of_decide_eq_true (by kernel_rfl)
  | 2, _ => exact of_decide_eq_true (by kernel_rfl)⟩
theorem e14 : vstep EL Tryd.prog noLo 0 o30 14 [] [] = some (bv true, []) := by
  have h1 : mParseB exm = true := by kernel_rfl
  have h2 : mParseA exm = 2 := by kernel_rfl
  have h3 : mParseC exm = 1 := by kernel_rfl
  have h4 : mParseD exm = 5 := by kernel_rfl
  have h5 : bytesEq (mFormat 2 1 5) exm = true := by kernel_rfl
  have h6 : mMergeE 3 0 7 1 = 0 := by kernel_rfl
  have h7 : mMergeT 3 0 7 1 = 8 := by kernel_rfl
  have h8 : mNext 1073741824 = 1 := by kernel_rfl
  have h9 : mOrder3 2 1 5 2 0 0 = 1 := by kernel_rfl
  rw [q14, chk_t (gd_t exm_ok), h1, h2, h3, h4, h5, h6, h7, h8, h9]
  rfl
def F14 (a : List Sv) (M : List Box) : Tr := match a, M with
  | [], [] => (.ok (bv true, []))
  | _, _ => .no
def o14 : Orc := over o30 14 F14
theorem c14 : CallOK EL Tryd.prog o14 := over_ok T.tok T.mo T.ng c30 fun args M x hx => by
  unfold F14 at hx
  split at hx
  · skip
    exact ⟨noLo, 0, loops_no, (e14 ).trans hx⟩
  · cases hx
theorem q3 (a b c d e : Int) : vstep EL Tryd.prog noLo 0 o14 3 [pv a b c, tv d e] [] =
tst (bif true then mValidProc a b c == mValidProc a b c else false)
  (some (Sv.one (At.v (Value.bool (bif true then mValidStamp d e == mValidStamp d e else false))), []))
  (some (Sv.one (At.v (Value.bool false)), [])) := by kernel_rfl
theorem q4 (a b c d e f g h i : Int) : vstep EL Tryd.prog noLo 0 o14 4 [pv a b c, pv d e f, pv g h i] [] =
tst (bif true then mOrder3 a b c d e f == IntKind.wrap .i64 (0 - mOrder3 d e f a b c) else false)
  (tst (bif true then (mOrder3 a b c d e f == 0) == (a == d && (b == e && (c == f && true))) else false)
    (tst (decide (mOrder3 a b c d e f > 0))
      (tst (decide (mOrder3 a b c d e f < 0)) (some (Sv.one (At.v (Value.bool true)), []))
        (tst (bif false then true else decide (mOrder3 d e f g h i < 0)) (some (Sv.one (At.v (Value.bool true)), []))
          (some
            (Sv.one
                (At.v
                  (Value.bool (bif true then bif false then true else decide (mOrder3 a b c g h i ≥ 0) else false))),
              []))))
      (tst (bif false then true else decide (mOrder3 d e f g h i > 0))
        (tst (decide (mOrder3 a b c d e f < 0)) (some (Sv.one (At.v (Value.bool true)), []))
          (tst (bif false then true else decide (mOrder3 d e f g h i < 0)) (some (Sv.one (At.v (Value.bool true)), []))
            (some
              (Sv.one
                  (At.v
                    (Value.bool (bif true then bif false then true else decide (mOrder3 a b c g h i ≥ 0) else false))),
                []))))
        (tst (bif true then bif false then true else decide (mOrder3 a b c g h i ≤ 0) else false)
          (tst (decide (mOrder3 a b c d e f < 0)) (some (Sv.one (At.v (Value.bool true)), []))
            (tst (bif false then true else decide (mOrder3 d e f g h i < 0))
              (some (Sv.one (At.v (Value.bool true)), []))
              (some
                (Sv.one
                    (At.v
                      (Value.bool
                        (bif true then bif false then true else decide (mOrder3 a b c g h i ≥ 0) else false))),
                  []))))
          (some (Sv.one (At.v (Value.bool false)), [])))))
    (some (Sv.one (At.v (Value.bool false)), [])))
  (some (Sv.one (At.v (Value.bool false)), [])) := by kernel_rfl
theorem q7 (a : Int) : vstep EL Tryd.prog noLo 0 o14 7 [iv a] [] =
tst (bif true then mNext a == mNext a else false)
  (tst (bif true then decide (mNext a ≥ 1) else false)
    (tst (bif true then decide (mNext a ≤ 1073741824) else false)
      (some (Sv.one (At.v (Value.bool (bif true then mNext a != a else false))), []))
      (some (Sv.one (At.v (Value.bool false)), [])))
    (some (Sv.one (At.v (Value.bool false)), [])))
  (some (Sv.one (At.v (Value.bool false)), [])) := by kernel_rfl
theorem q9 (a b c d e f g h i j : Int) : vstep EL Tryd.prog noLo 0 o14 9 [pv a b c, pv d e f, tv g h, tv i j] [] =
tst (bif true then mOrder3 a b c d e f == mCompare a b c d e f else false)
  (some (Sv.one (At.v (Value.bool (bif true then mOrder3 g h 0 i j 0 == mCompare2 g h i j else false))), []))
  (some (Sv.one (At.v (Value.bool false)), [])) := by kernel_rfl
theorem q10 (a b c d : Int) : vstep EL Tryd.prog noLo 0 o14 10 [tv a b, tv c d] [] =
tst (bif false then true else !(mMergeT a b c d == mMergeT a b c d && (mMergeS a b c d == mMergeS a b c d && true)))
  (some (Sv.one (At.v (Value.bool false)), []))
  (tst (bif false then true else mMergeE a b c d != mMergeE a b c d) (some (Sv.one (At.v (Value.bool false)), []))
    (tst (mMergeE a b c d != 0) (some (Sv.one (At.v (Value.bool true)), []))
      (tst (mOrder3 (mMergeT a b c d) (mMergeS a b c d) 0 a b 0 == 1)
        (some
          (Sv.one
              (At.v
                (Value.bool
                  (bif false then true
                  else bif true then mOrder3 (mMergeT a b c d) (mMergeS a b c d) 0 c d 0 == 1 else false))),
            []))
        (some (Sv.one (At.v (Value.bool false)), []))))) := by kernel_rfl

theorem e3 (a b c d e : Int) : vstep EL Tryd.prog noLo 0 o14 3 [pv a b c, tv d e] [] = some (bv true, []) := by
  rw [q3]
  cases mValidProc a b c <;> cases mValidStamp d e <;> rfl
theorem o3_cases (a b c d e f : Int) : (mOrder3 a b c d e f = -1 ∧ (a < d ∨ (a = d ∧ (b < e ∨ (b = e ∧ c < f))))) ∨ (mOrder3 a b c d e f = 0 ∧ a = d ∧ b = e ∧ c = f) ∨ (mOrder3 a b c d e f = 1 ∧ (d < a ∨ (a = d ∧ (e < b ∨ (b = e ∧ f < c))))) := by
  unfold mOrder3
  cases h1 : decide (a < d) with
  | true => have := of_decide_eq_true h1; exact .inl ⟨rfl, .inl this⟩
  | false =>
    have h1 := of_decide_eq_false h1
    cases h2 : decide (a > d) with
    | true => have := of_decide_eq_true h2; exact .inr (.inr ⟨rfl, .inl this⟩)
    | false =>
      have h2 := of_decide_eq_false h2
      have e1 : a = d := by omega
      cases h3 : decide (b < e) with
      | true => have := of_decide_eq_true h3; exact .inl ⟨rfl, .inr ⟨e1, .inl this⟩⟩
      | false =>
        have h3 := of_decide_eq_false h3
        cases h4 : decide (b > e) with
        | true => have := of_decide_eq_true h4; exact .inr (.inr ⟨rfl, .inr ⟨e1, .inl this⟩⟩)
        | false =>
          have h4 := of_decide_eq_false h4
          have e2 : b = e := by omega
          cases h5 : decide (c < f) with
          | true => have := of_decide_eq_true h5; exact .inl ⟨rfl, .inr ⟨e1, .inr ⟨e2, this⟩⟩⟩
          | false =>
            have h5 := of_decide_eq_false h5
            cases h6 : decide (c > f) with
            | true => have := of_decide_eq_true h6; exact .inr (.inr ⟨rfl, .inr ⟨e1, .inr ⟨e2, this⟩⟩⟩)
            | false =>
              have h6 := of_decide_eq_false h6
              exact .inr (.inl ⟨rfl, e1, e2, by omega⟩)
theorem o3_eq (a b c d e f : Int) : (a == d && (b == e && (c == f && true))) = (mOrder3 a b c d e f == 0) := by
  rcases o3_cases a b c d e f with ⟨h, h1⟩ | ⟨h, rfl, rfl, rfl⟩ | ⟨h, h1⟩
  · rw [h]
    cases ha : (a == d) with
    | false => rfl
    | true =>
      have ha := beq_iff_eq.1 ha
      cases hb : (b == e) with
      | false => rfl
      | true =>
        have hb := beq_iff_eq.1 hb
        rw [show (c == f) = false from beq_eq_false_iff_ne.2 (by omega)]; rfl
  · rw [h]; simp
  · rw [h]
    cases ha : (a == d) with
    | false => rfl
    | true =>
      have ha := beq_iff_eq.1 ha
      cases hb : (b == e) with
      | false => rfl
      | true =>
        have hb := beq_iff_eq.1 hb
        rw [show (c == f) = false from beq_eq_false_iff_ne.2 (by omega)]; rfl
theorem e4 (a b c d e f g h i : Int) : vstep EL Tryd.prog noLo 0 o14 4 [pv a b c, pv d e f, pv g h i] [] = some (bv true, []) := by
  rw [q4, o3_eq]
  rcases o3_cases a b c d e f with ⟨x, hx⟩ | ⟨x, hx⟩ | ⟨x, hx⟩ <;> rcases o3_cases d e f a b c with ⟨x', hx'⟩ | ⟨x', hx'⟩ | ⟨x', hx'⟩ <;>
    rcases o3_cases d e f g h i with ⟨y, hy⟩ | ⟨y, hy⟩ | ⟨y, hy⟩ <;> rcases o3_cases a b c g h i with ⟨z, hz⟩ | ⟨z, hz⟩ | ⟨z, hz⟩ <;>
    first
    | (exfalso; clear x x' y z; omega)
    | (rw [x, x', y, z]; rfl)
    | (rw [x, y, z] at *; rw [x']; rfl)
theorem e7 (a : Int) : vstep EL Tryd.prog noLo 0 o14 7 [iv a] [] = some (bv true, []) := by
  have hn : 1 ≤ mNext a ∧ mNext a ≤ 1073741824 ∧ mNext a ≠ a := by
    unfold mNext
    cases h1 : decide (a < 0) with
    | true => have := of_decide_eq_true h1; simp only [cond]; omega
    | false =>
      have := of_decide_eq_false h1
      cases h2 : decide (a ≥ 1073741824) with
      | true => have := of_decide_eq_true h2; simp only [cond]; omega
      | false => have := of_decide_eq_false h2; simp only [cond]; rw [wrap_in (by omega) (by omega)]; omega
  rw [q7, show (mNext a == mNext a) = true from beq_self_eq_true _, show decide (mNext a ≥ 1) = true from decide_eq_true hn.1, show decide (mNext a ≤ 1073741824) = true from decide_eq_true hn.2.1, show (mNext a != a) = true from bne_iff_ne.2 hn.2.2]
  rfl
theorem mOrder_cases (a b : Int) : (mOrder a b = -1 ∧ a < b) ∨ (mOrder a b = 0 ∧ a = b) ∨ (mOrder a b = 1 ∧ b < a) := by
  unfold mOrder
  cases h1 : decide (a < b) with
  | true => exact .inl ⟨rfl, of_decide_eq_true h1⟩
  | false =>
    have h1 := of_decide_eq_false h1
    cases h2 : decide (a > b) with
    | true => exact .inr (.inr ⟨rfl, of_decide_eq_true h2⟩)
    | false => have h2 := of_decide_eq_false h2; exact .inr (.inl ⟨rfl, by omega⟩)
theorem compare_eq (a b c d e f : Int) : mCompare a b c d e f = mOrder3 a b c d e f := by
  unfold mCompare
  rcases mOrder_cases a d with ⟨x, hx⟩ | ⟨x, hx⟩ | ⟨x, hx⟩ <;> rw [x] <;> rcases mOrder_cases b e with ⟨y, hy⟩ | ⟨y, hy⟩ | ⟨y, hy⟩ <;> rw [y] <;> rcases mOrder_cases c f with ⟨z, hz⟩ | ⟨z, hz⟩ | ⟨z, hz⟩ <;> rw [z] <;>
    rcases o3_cases a b c d e f with ⟨w, hw⟩ | ⟨w, hw⟩ | ⟨w, hw⟩ <;> rw [w] <;> first | rfl | (exfalso; clear x y z w; omega)
theorem compare2_eq (a b c d : Int) : mCompare2 a b c d = mOrder3 a b 0 c d 0 := by
  unfold mCompare2
  rcases mOrder_cases a c with ⟨x, hx⟩ | ⟨x, hx⟩ | ⟨x, hx⟩ <;> rw [x] <;> rcases mOrder_cases b d with ⟨y, hy⟩ | ⟨y, hy⟩ | ⟨y, hy⟩ <;> rw [y] <;>
    rcases o3_cases a b 0 c d 0 with ⟨w, hw⟩ | ⟨w, hw⟩ | ⟨w, hw⟩ <;> rw [w] <;> first | rfl | (exfalso; clear x y w; omega)
theorem e9 (a b c d e f g h i j : Int) : vstep EL Tryd.prog noLo 0 o14 9 [pv a b c, pv d e f, tv g h, tv i j] [] = some (bv true, []) := by
  rw [q9, compare_eq, compare2_eq, show (mOrder3 a b c d e f == mOrder3 a b c d e f) = true from beq_self_eq_true _, show (mOrder3 g h 0 i j 0 == mOrder3 g h 0 i j 0) = true from beq_self_eq_true _]
  rfl
theorem e10 (a b c d : Int) : vstep EL Tryd.prog noLo 0 o14 10 [tv a b, tv c d] [] = some (bv true, []) := by
  rw [q10, show (mMergeT a b c d == mMergeT a b c d) = true from beq_self_eq_true _, show (mMergeS a b c d == mMergeS a b c d) = true from beq_self_eq_true _, show (mMergeE a b c d != mMergeE a b c d) = false from bne_self_eq_false _]
  cases h1 : mValidStamp a b with
  | false => rw [show mMergeE a b c d = 1 by unfold mMergeE; rw [h1]; rfl]; rfl
  | true =>
    cases h2 : mValidStamp c d with
    | false => rw [show mMergeE a b c d = 1 by unfold mMergeE; rw [h1, h2]; rfl]; rfl
    | true =>
      cases h3 : decide (max a c = 1073741824) with
      | true => rw [show mMergeE a b c d = 16 by unfold mMergeE; rw [h1, h2, h3]; rfl]; rfl
      | false =>
        rw [show mMergeE a b c d = 0 by unfold mMergeE; rw [h1, h2, h3]; rfl, show mMergeT a b c d = max a c + 1 by unfold mMergeT; rw [h1, h2, h3]; rfl, show mMergeS a b c d = b by unfold mMergeS; rw [h1, h2, h3]; rfl]
        have m1 : a ≤ max a c := Int.le_max_left _ _
        have m2 : c ≤ max a c := Int.le_max_right _ _
        generalize max a c = m at m1 m2
        rcases o3_cases (m + 1) b 0 a b 0 with ⟨x, hx⟩ | ⟨x, hx⟩ | ⟨x, hx⟩ <;> rw [x] <;> rcases o3_cases (m + 1) b 0 c d 0 with ⟨y, hy⟩ | ⟨y, hy⟩ | ⟨y, hy⟩ <;> rw [y] <;> first | rfl | (exfalso; clear x y; omega)

end
end Go.Proofs.YtkpdcieoiciapaaDoor
