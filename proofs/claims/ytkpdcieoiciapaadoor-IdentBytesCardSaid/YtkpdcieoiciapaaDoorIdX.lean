/- What is written reads back: the law IdentBytes. -/
import Derived.Test.YtkpdcieoiciapaaDoorIdW
namespace Go.Proofs.YtkpdcieoiciapaaDoor
open Go Go.Vi Go.IntWalk
set_option maxRecDepth 100000
set_option linter.unusedVariables false
set_option linter.unusedSimpArgs false
noncomputable section

theorem varint_one {v : Int} (h0 : 0 ≤ v) (h1 : v < 128) : mVarint v = [by1 v] := by
  have e : IntKind.wrap .u8 v = v := by show v % 256 = v; omega
  have d : decide (v ≥ 128) = false := decide_eq_false (by omega)
  unfold mVarint
  rw [mHead, mLast, d]
  show [by1 (IntKind.wrap .u8 v)] = _
  rw [e]
theorem varint_two {v : Int} (h0 : 128 ≤ v) (h1 : v < 16384) : mVarint v = [by1 (mLow v), by1 (v / 128)] := by
  have s : shrI .u64 v 7 = v / 128 := shr7 v
  have e : IntKind.wrap .u8 (v / 128) = v / 128 := by show (v / 128) % 256 = v / 128; omega
  have d : decide (v ≥ 128) = true := decide_eq_true (by omega)
  have d2 : decide (v / 128 ≥ 128) = false := decide_eq_false (by omega)
  unfold mVarint
  rw [mHead, mLast, d]
  show (by1 (mLow v) :: mHead 9 (shrI .u64 v 7)) ++ [by1 (IntKind.wrap .u8 (mLast 9 (shrI .u64 v 7)))] = _
  rw [s, mHead, mLast, d2]
  show [by1 (mLow v), by1 (IntKind.wrap .u8 (v / 128))] = _
  rw [e]
theorem low_fact : ((List.range 128).all fun v => mAcc 0 0 (v : Int) == (v : Int)) = true := by kernel_rfl
theorem two_fact : ((List.range 1000).all fun v => decide (v < 128) || (decide (128 ≤ mLow (v : Int)) && (mAcc (mAcc 0 0 (mLow (v : Int))) 1 ((v : Int) / 128) == (v : Int)))) = true := by kernel_rfl
theorem read_varint {v : Int} (h0 : 0 ≤ v) (h1 : v ≤ 999) (r : List (List At)) : mRead (mVarint v ++ r) 10 0 0 = (v, ((mVarint v).length : Int), 0) := by
  obtain ⟨k, rfl⟩ := Int.eq_ofNat_of_zero_le h0
  by_cases hk : k < 128
  · rw [varint_one (by omega) (by omega)]
    have f := beq_iff_eq.1 (List.all_eq_true.1 low_fact k (List.mem_range.2 hk))
    have a : mAt ([by1 (k : Int)] ++ r) 0 = (k : Int) := rfl
    have l : decide (([by1 (k : Int)] ++ r).length ≤ 0) = false := decide_eq_false (by simp)
    rw [mRead, l, a]
    have b : decide ((k : Int) < 128) = true := decide_eq_true (by omega)
    simp only [b]
    have c : ((decide ((0 : Nat) = 9) && decide (1 < (k : Int))) || ((k : Int) == 0 && decide (0 < (0 : Nat)))) = false := by simp
    rw [c]
    show (mAcc 0 ((0 : Nat) : Int) (k : Int), ((0 : Nat) : Int) + 1, (0 : Int)) = _
    rw [show ((0 : Nat) : Int) = 0 from rfl, f]
    rfl
  · have f := List.all_eq_true.1 two_fact k (List.mem_range.2 (by omega))
    rw [decide_eq_false hk, Bool.false_or, Bool.and_eq_true, decide_eq_true_eq, beq_iff_eq] at f
    obtain ⟨f1, f2⟩ := f
    rw [varint_two (by omega) (by omega)]
    generalize mLow (k : Int) = c at f1 f2 ⊢
    have hd : 0 < (k : Int) / 128 ∧ (k : Int) / 128 < 128 := by omega
    generalize hq : (k : Int) / 128 = d at hd f2 ⊢
    have a0 : mAt ([by1 c, by1 d] ++ r) 0 = c := rfl
    have a1 : mAt ([by1 c, by1 d] ++ r) (0 + 1) = d := rfl
    have l0 : decide (([by1 c, by1 d] ++ r).length ≤ 0) = false := decide_eq_false (by simp)
    have l1 : decide (([by1 c, by1 d] ++ r).length ≤ 0 + 1) = false := decide_eq_false (by simp)
    have e0 : ((decide ((0 : Nat) = 9) && decide (1 < c)) || (c == 0 && decide (0 < (0 : Nat)))) = false := by simp
    have e1 : ((decide ((0 + 1 : Nat) = 9) && decide (1 < d)) || (d == 0 && decide (0 < (0 + 1 : Nat)))) = false := by
      have : (d == 0) = false := beq_eq_false_iff_ne.2 (by omega)
      rw [this]; simp
    have b0 : decide (c < 128) = false := decide_eq_false (by omega)
    have b1 : decide (d < 128) = true := decide_eq_true (by omega)
    rw [mRead, l0, a0, e0, b0]
    show mRead ([by1 c, by1 d] ++ r) 9 (0 + 1) (mAcc 0 ((0 : Nat) : Int) c) = _
    rw [mRead, l1, a1, e1, b1]
    show (mAcc (mAcc 0 0 c) 1 d, (2 : Int), (0 : Int)) = _
    rw [f2]
    rfl
theorem read_back {v : Int} (h0 : 0 ≤ v) (h1 : v ≤ 999) (r : List (List At)) : mUintV (mVarint v ++ r) = v ∧ mUintE (mVarint v ++ r) = 0 ∧ mUintN (mVarint v ++ r) = ((mVarint v).length : Int) ∧ mN (mVarint v ++ r) = (mVarint v).length := by
  have h := read_varint h0 h1 r
  unfold mN mUintV mUintE mUintN
  rw [h]
  exact ⟨rfl, rfl, rfl, by simp⟩
theorem proc_back {x y z : Int} (hv : mValidProc x y z = true) (t : List (List At)) :
    mProc (mVarint x ++ (mVarint y ++ (mVarint z ++ t))) = (x, y, z, (((mVarint x).length + (mVarint y).length + (mVarint z).length : Nat) : Int), 0) := by
  obtain ⟨h1, h2, h3⟩ := valid_iff.1 hv
  obtain ⟨v1, e1, _, n1⟩ := read_back (v := x) (by omega) (by omega) (mVarint y ++ (mVarint z ++ t))
  obtain ⟨v2, e2, _, n2⟩ := read_back (v := y) (by omega) (by omega) (mVarint z ++ t)
  obtain ⟨v3, e3, _, n3⟩ := read_back (v := z) (by omega) (by omega) t
  have d1 : List.drop (mVarint x).length (mVarint x ++ (mVarint y ++ (mVarint z ++ t))) = mVarint y ++ (mVarint z ++ t) := List.drop_left
  have d2 : List.drop ((mVarint x).length + (mVarint y).length) (mVarint x ++ (mVarint y ++ (mVarint z ++ t))) = mVarint z ++ t := by
    rw [← List.drop_drop, d1]; exact List.drop_left
  unfold mProc
  rw [n1, d1, n2, d2, n3, v1, v2, v3, e1, e2, e3, hv]
  rfl
theorem eq_self (a : List (List At)) : mEq a a = true := by unfold mEq; simp
theorem e12 (x y z : Int) (h t : List (List At)) (oh : OkW h) (ot : OkW t) : vstep EL Tryd.prog noLo 0 o35 12 [pv x y z, rb h, rb t] [] = some (bv true, []) := by
  have hl := oh.len
  have tl := ot.len
  rw [q12, chk_t (gd_t oh)]
  cases hv : mValidProc x y z with
  | false =>
    have e : mWrite h x y z = h := by unfold mWrite; rw [hv]; rfl
    rw [e, gd_t (⟨oh.are, oh.are⟩ : OkE h h), eq_self]
    rfl
  | true =>
    have e : mWrite h x y z = h ++ (mVarint x ++ (mVarint y ++ mVarint z)) := by unfold mWrite; rw [hv]; simp [cond]
    have b1 := varint_bytes x
    have b2 := varint_bytes y
    have b3 := varint_bytes z
    have n1 : mVarint x ≠ [] := by intro e; have := varint_ne x; rw [e] at this; cases this
    have hb : mBytes (mVarint x ++ (mVarint y ++ mVarint z)) = true := by rw [mBytes_app, mBytes_app, b1.1, b2.1, b3.1]; rfl
    have hlen : 0 < (mVarint x ++ (mVarint y ++ mVarint z)).length ∧ (mVarint x ++ (mVarint y ++ mVarint z)).length ≤ 33 := by
      have := List.length_pos_iff.2 n1
      simp only [List.length_append]
      omega
    have hbw : mBytes (mWrite h x y z) = true := by rw [e, mBytes_app, oh.are, hb]; rfl
    have hw : (mWrite h x y z).length = h.length + (mVarint x ++ (mVarint y ++ mVarint z)).length := by rw [e, List.length_append]
    have ht : List.take ((mWrite h x y z).length : Int).toNat (mWrite h x y z) = mWrite h x y z := by simp
    have hd : List.drop ((h.length : Int)).toNat (mWrite h x y z) = mVarint x ++ (mVarint y ++ mVarint z) := by
      rw [e, Int.toNat_natCast]; exact List.drop_left
    have hbt : mBytes (mVarint x ++ (mVarint y ++ mVarint z) ++ t) = true := by rw [mBytes_app, hb, ot.are]; rfl
    have hpr := proc_back hv t
    rw [show mVarint x ++ (mVarint y ++ (mVarint z ++ t)) = mVarint x ++ (mVarint y ++ mVarint z) ++ t by simp] at hpr
    have hsum : (((mVarint x).length + (mVarint y).length + (mVarint z).length : Nat) : Int) = (((mWrite h x y z).length : Nat) : Int) - ((h.length : Nat) : Int) := by
      rw [hw]; simp only [List.length_append]; omega
    rw [hsum] at hpr
    have pA : mProcA (mVarint x ++ (mVarint y ++ mVarint z) ++ t) = x := by unfold mProcA; rw [hpr]
    have pC : mProcC (mVarint x ++ (mVarint y ++ mVarint z) ++ t) = y := by unfold mProcC; rw [hpr]
    have pD : mProcD (mVarint x ++ (mVarint y ++ mVarint z) ++ t) = z := by unfold mProcD; rw [hpr]
    have pN : mProcN (mVarint x ++ (mVarint y ++ mVarint z) ++ t) = (((mWrite h x y z).length : Nat) : Int) - ((h.length : Nat) : Int) := by unfold mProcN; rw [hpr]
    have pE : mProcE (mVarint x ++ (mVarint y ++ mVarint z) ++ t) = 0 := by unfold mProcE; rw [hpr]
    rw [ht, hd, List.nil_append, gd_t oh, gd_t (⟨hbw, hbw⟩ : OkE (mWrite h x y z) (mWrite h x y z)), eq_self, mBytes_stor hb, mBytes_stor ot.are, gd_t (⟨hbt⟩ : OkB _), pA, pC, pD, pN, pE,
      decide_eq_false (show ¬ ((mWrite h x y z).length : Int) ≤ (h.length : Int) by omega), decide_eq_true (show (h.length : Int) ≤ ((mWrite h x y z).length : Int) by omega), decide_eq_true (Int.le_refl ((mWrite h x y z).length : Int)),
      decide_eq_true (show (0 + (mVarint x ++ (mVarint y ++ mVarint z)).length) * 1 ≤ 140737488355328 by omega), decide_eq_true (show ((mVarint x ++ (mVarint y ++ mVarint z)).length + t.length) * 1 ≤ 140737488355328 by omega),
      wrap_in (show -9223372036854775808 ≤ ((mWrite h x y z).length : Int) - (h.length : Int) by omega) (by omega)]
    simp [tst, chk, cond]
theorem okw_row {w : World} {a : Option Addr} {len cap : Nat} {zs : List Int}
    (h : (a = none ∧ len = 0 ∧ cap = 0 ∧ zs = []) ∨ ∃ x, a = some x ∧ len ≤ cap ∧ cap ≤ maxLen ∧ zs.length = cap ∧ (∀ i, i < zs.length → w.cell? (x.add i) = some (.int .u8 (zs.getD i 0))) ∧ ∀ n ∈ zs, (Lit.int .u8 n).wf = true)
    (m : len ≤ 140737488351232) : OkW ((zs.take len).map fun z => [.v (.int .u8 z)]) := ⟨(bytes_row h).are, by rw [List.length_map, List.length_take]; omega⟩

end
end Go.Proofs.YtkpdcieoiciapaaDoor
