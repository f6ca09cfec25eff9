/- Numbers as bytes, read: what the two functions come to. -/
import Derived.Test.YtkpdcieoiciapaaDoorIdD
namespace Go.Proofs.YtkpdcieoiciapaaDoor
open Go Go.Vi Go.IntWalk
set_option maxRecDepth 100000
set_option linter.unusedVariables false
set_option linter.unusedSimpArgs false
noncomputable section

noncomputable abbrev L48 : Code := lcode Tryd.prog 48 3
noncomputable abbrev L49 : Code := lcode Tryd.prog 49 3
/-- The byte at a place. -/
def mAt (b : List (List At)) (i : Nat) : Int := intA ((b.getD i []).getD 0 .bad)
def mAcc (v i c : Int) : Int := orI .u64 v (shlI .u64 (IntKind.wrap .u64 (andI .u8 c 127)) (7 * i))
def mRead (b : List (List At)) : Nat → Nat → Int → Int × Int × Int
  | 0, _, _ => (0, 0, 6)
  | k + 1, i, v => match decide (b.length ≤ i) with
    | true => (0, 0, 5)
    | false => match (decide (i = 9) && decide (1 < mAt b i)) || (mAt b i == 0 && decide (0 < i)) with
      | true => (0, 0, 6)
      | false => match decide (mAt b i < 128) with
        | true => (mAcc v i (mAt b i), (i : Int) + 1, 0)
        | false => mRead b k (i + 1) (mAcc v i (mAt b i))
def mUintV (b : List (List At)) : Int := (mRead b 10 0 0).1
def mUintN (b : List (List At)) : Int := (mRead b 10 0 0).2.1
def mUintE (b : List (List At)) : Int := (mRead b 10 0 0).2.2
structure OkB (b : List (List At)) : Prop where
  are : mBytes b = true
structure OkU (i v : Int) (b : List (List At)) : Prop where
  i0 : i = 0
  v0 : v = 0
  are : mBytes b = true
theorem u48 (m : Nat) (b : List (List At)) (i v : Int) : vround EL 48 o14 noLo 0 (ntmpsAt Tryd.prog 48) L48 0 m [(6, iv i), (5, wv v), (0, rb b)] [] =
tst (decide (i < 10))
  (tst (decide (i ≥ (↑b.length : Int)))
    (some
      (Ex.ret,
        [(2, Sv.one (At.v (Value.int IntKind.u64 0))), (3, Sv.one (At.v (Value.int IntKind.i64 0))),
          (4, Sv.one (At.v (Value.int IntKind.i64 5)))],
        []))
    (chk (decide (0 ≤ i))
      (chk (decide (i < (↑b.length : Int)))
        (chk (okRow [SK.i IntKind.u8] (b.getD i.toNat []))
          (tst (i == 9)
            (tst (bif true then decide (intA ((b.getD i.toNat []).getD 0 At.bad) > 1) else false)
              (some
                (Ex.ret,
                  [(2, Sv.one (At.v (Value.int IntKind.u64 0))), (3, Sv.one (At.v (Value.int IntKind.i64 0))),
                    (4, Sv.one (At.v (Value.int IntKind.i64 6)))],
                  []))
              (chk (decide (0 ≤ IntKind.wrap .u64 (7 * IntKind.wrap .u64 i)))
                (tst (andI IntKind.u8 (intA ((b.getD i.toNat []).getD 0 At.bad)) 128 == 0)
                  (tst (intA ((b.getD i.toNat []).getD 0 At.bad) == 0)
                    (tst (bif true then decide (i > 0) else false)
                      (some
                        (Ex.ret,
                          [(2, Sv.one (At.v (Value.int IntKind.u64 0))), (3, Sv.one (At.v (Value.int IntKind.i64 0))),
                            (4, Sv.one (At.v (Value.int IntKind.i64 6)))],
                          []))
                      (some
                        (Ex.ret,
                          [(2,
                              Sv.one
                                (At.v
                                  (Value.int IntKind.u64
                                    (orI IntKind.u64 v
                                      (shlI IntKind.u64
                                        (IntKind.wrap .u64
                                          (andI IntKind.u8 (intA ((b.getD i.toNat []).getD 0 At.bad)) 127))
                                        (IntKind.wrap .u64 (7 * IntKind.wrap .u64 i))))))),
                            (3, Sv.one (At.v (Value.int IntKind.i64 (IntKind.wrap .i64 (i + 1))))),
                            (4, Sv.one (At.v (Value.int IntKind.i64 0)))],
                          [])))
                    (some
                      (Ex.ret,
                        [(2,
                            Sv.one
                              (At.v
                                (Value.int IntKind.u64
                                  (orI IntKind.u64 v
                                    (shlI IntKind.u64
                                      (IntKind.wrap .u64
                                        (andI IntKind.u8 (intA ((b.getD i.toNat []).getD 0 At.bad)) 127))
                                      (IntKind.wrap .u64 (7 * IntKind.wrap .u64 i))))))),
                          (3, Sv.one (At.v (Value.int IntKind.i64 (IntKind.wrap .i64 (i + 1))))),
                          (4, Sv.one (At.v (Value.int IntKind.i64 0)))],
                        [])))
                  (vloop EL 48 o14 noLo 0 (ntmpsAt Tryd.prog 48) L48 0 m
                    [(6, Sv.one (At.v (Value.int IntKind.i64 (IntKind.wrap .i64 (i + 1))))),
                      (5,
                        Sv.one
                          (At.v
                            (Value.int IntKind.u64
                              (orI IntKind.u64 v
                                (shlI IntKind.u64
                                  (IntKind.wrap .u64 (andI IntKind.u8 (intA ((b.getD i.toNat []).getD 0 At.bad)) 127))
                                  (IntKind.wrap .u64 (7 * IntKind.wrap .u64 i))))))),
                      (0, Sv.one (At.ro true 1 b))]
                    []))))
            (chk (decide (0 ≤ IntKind.wrap .u64 (7 * IntKind.wrap .u64 i)))
              (tst (andI IntKind.u8 (intA ((b.getD i.toNat []).getD 0 At.bad)) 128 == 0)
                (tst (intA ((b.getD i.toNat []).getD 0 At.bad) == 0)
                  (tst (bif true then decide (i > 0) else false)
                    (some
                      (Ex.ret,
                        [(2, Sv.one (At.v (Value.int IntKind.u64 0))), (3, Sv.one (At.v (Value.int IntKind.i64 0))),
                          (4, Sv.one (At.v (Value.int IntKind.i64 6)))],
                        []))
                    (some
                      (Ex.ret,
                        [(2,
                            Sv.one
                              (At.v
                                (Value.int IntKind.u64
                                  (orI IntKind.u64 v
                                    (shlI IntKind.u64
                                      (IntKind.wrap .u64
                                        (andI IntKind.u8 (intA ((b.getD i.toNat []).getD 0 At.bad)) 127))
                                      (IntKind.wrap .u64 (7 * IntKind.wrap .u64 i))))))),
                          (3, Sv.one (At.v (Value.int IntKind.i64 (IntKind.wrap .i64 (i + 1))))),
                          (4, Sv.one (At.v (Value.int IntKind.i64 0)))],
                        [])))
                  (some
                    (Ex.ret,
                      [(2,
                          Sv.one
                            (At.v
                              (Value.int IntKind.u64
                                (orI IntKind.u64 v
                                  (shlI IntKind.u64
                                    (IntKind.wrap .u64 (andI IntKind.u8 (intA ((b.getD i.toNat []).getD 0 At.bad)) 127))
                                    (IntKind.wrap .u64 (7 * IntKind.wrap .u64 i))))))),
                        (3, Sv.one (At.v (Value.int IntKind.i64 (IntKind.wrap .i64 (i + 1))))),
                        (4, Sv.one (At.v (Value.int IntKind.i64 0)))],
                      [])))
                (vloop EL 48 o14 noLo 0 (ntmpsAt Tryd.prog 48) L48 0 m
                  [(6, Sv.one (At.v (Value.int IntKind.i64 (IntKind.wrap .i64 (i + 1))))),
                    (5,
                      Sv.one
                        (At.v
                          (Value.int IntKind.u64
                            (orI IntKind.u64 v
                              (shlI IntKind.u64
                                (IntKind.wrap .u64 (andI IntKind.u8 (intA ((b.getD i.toNat []).getD 0 At.bad)) 127))
                                (IntKind.wrap .u64 (7 * IntKind.wrap .u64 i))))))),
                    (0, Sv.one (At.ro true 1 b))]
                  []))))))))
  (some (Ex.exit 0, [(2, Sv.one At.bad), (3, Sv.one At.bad), (4, Sv.one At.bad)], [])) := by kernel_rfl

theorem and_fact : ((List.range 256).all fun c => (andI .u8 (c : Int) 128 == 0) == decide ((c : Int) < 128)) = true := by kernel_rfl
theorem and_128 {c : Int} (h0 : 0 ≤ c) (h1 : c < 256) : (andI .u8 c 128 == 0) = decide (c < 128) := by
  obtain ⟨k, rfl⟩ := Int.eq_ofNat_of_zero_le h0
  exact beq_iff_eq.1 (List.all_eq_true.1 and_fact k (List.mem_range.2 (by omega)))
theorem byte_at {b : List (List At)} (h : mBytes b = true) {i : Nat} (hi : i < b.length) : okRow [.i .u8] (b.getD i []) = true ∧ 0 ≤ mAt b i ∧ mAt b i < 256 := by
  have e : b.getD i [] = b[i] := by rw [List.getD_eq_getElem?_getD, List.getElem?_eq_getElem hi]; rfl
  have := List.all_eq_true.1 h b[i] (List.getElem_mem hi)
  simp only [mByte1, Bool.and_eq_true, decide_eq_true_eq] at this
  unfold mAt
  rw [e]
  exact ⟨this.1.1, this.1.2, this.2⟩
theorem wrap_u64 {n : Int} (h0 : 0 ≤ n) (h1 : n < 18446744073709551616) : IntKind.wrap .u64 n = n := by
  show n % 18446744073709551616 = n; omega
def wOut (x : Int × Int × Int) : Option (Ex × TS × List Box) := some (.ret, [(2, wv x.1), (3, iv x.2.1), (4, iv x.2.2)], [])
/-- One round, in the model's words. -/
def wRound (b : List (List At)) (i : Nat) (v : Int) (r : Option (Ex × TS × List Box)) : Option (Ex × TS × List Box) := match decide (b.length ≤ i) with
  | true => wOut (0, 0, 5)
  | false => match (decide (i = 9) && decide (1 < mAt b i)) || (mAt b i == 0 && decide (0 < i)) with
    | true => wOut (0, 0, 6)
    | false => match decide (mAt b i < 128) with
      | true => wOut (mAcc v i (mAt b i), (i : Int) + 1, 0)
      | false => r
theorem wRound_read (b : List (List At)) (k i : Nat) (v : Int) : wRound b i v (wOut (mRead b k (i + 1) (mAcc v i (mAt b i)))) = wOut (mRead b (k + 1) i v) := by
  unfold wRound
  conv => rhs; unfold mRead
  split
  · rfl
  · split
    · rfl
    · split <;> rfl
theorem wRound_nine (b : List (List At)) (v : Int) (x y : Option (Ex × TS × List Box)) : wRound b 9 v x = wRound b 9 v y := by
  unfold wRound
  split
  · rfl
  · split
    · rfl
    · rename_i h
      split
      · rfl
      · rename_i h2
        have h2 := of_decide_eq_false h2
        rw [decide_eq_true (show 1 < mAt b 9 by omega)] at h
        simp at h
theorem nat_nine (i : Nat) : ((i : Int) == 9) = decide (i = 9) := by
  by_cases h : i = 9
  · subst h; rfl
  · rw [decide_eq_false h]; exact beq_eq_false_iff_ne.2 (by omega)
theorem nat_pos (i : Nat) : decide ((i : Int) > 0) = decide (0 < i) := by congr 1; exact propext ⟨fun h => by omega, fun h => by omega⟩
theorem nat_short (b : List (List At)) (i : Nat) : decide ((i : Int) ≥ (b.length : Int)) = decide (b.length ≤ i) := by congr 1; exact propext ⟨fun h => by omega, fun h => by omega⟩
theorem round48 (m : Nat) (b : List (List At)) (i : Nat) (v : Int) (hb : mBytes b = true) (hi : i ≤ 9) :
    vround EL 48 o14 noLo 0 (ntmpsAt Tryd.prog 48) L48 0 m [(6, iv i), (5, wv v), (0, rb b)] [] =
    wRound b i v (vloop EL 48 o14 noLo 0 (ntmpsAt Tryd.prog 48) L48 0 m [(6, iv ((i + 1 : Nat) : Int)), (5, wv (mAcc v i (mAt b i))), (0, rb b)] []) := by
  have w0 : ((i : Int)).toNat = i := by simp
  have w1 : IntKind.wrap .u64 (7 * IntKind.wrap .u64 (i : Int)) = 7 * (i : Int) := by rw [wrap_u64 (n := (i : Int)) (by omega) (by omega), wrap_u64 (by omega) (by omega)]
  have w2 : IntKind.wrap .i64 ((i : Int) + 1) = (i : Int) + 1 := wrap_in (by omega) (by omega)
  rw [u48, w0, w1, w2, tst_t (decide_eq_true (by omega : (i : Int) < 10)), nat_nine, nat_pos, nat_short]
  unfold wRound
  cases hl : decide (b.length ≤ i) with
  | true => rfl
  | false =>
    have hl := of_decide_eq_false hl
    obtain ⟨a1, a2, a3⟩ := byte_at hb (i := i) (by omega)
    rw [tst_f rfl, chk_t (decide_eq_true (by omega)), chk_t (decide_eq_true (by omega)), chk_t a1, chk_t (b := decide (0 ≤ 7 * (i : Int))) (decide_eq_true (by omega))]
    change 0 ≤ mAt b i at a2
    change mAt b i < 256 at a3
    have a4 := and_128 a2 a3
    unfold mAt at a4 ⊢
    rw [a4]
    have hz : (intA ((b.getD i []).getD 0 At.bad) == 0) = true → decide (intA ((b.getD i []).getD 0 At.bad) < 128) = true := fun h => decide_eq_true (by rw [beq_iff_eq.1 h]; decide)
    revert hz
    generalize decide (i = 9) = p
    generalize decide (0 < i) = q
    rw [show decide (intA ((b.getD i []).getD 0 At.bad) > 1) = decide (1 < intA ((b.getD i []).getD 0 At.bad)) from rfl]
    generalize decide (1 < intA ((b.getD i []).getD 0 At.bad)) = r
    generalize (intA ((b.getD i []).getD 0 At.bad) == 0) = s
    generalize decide (intA ((b.getD i []).getD 0 At.bad) < 128) = t
    intro hz
    cases p <;> cases q <;> cases r <;> cases s <;> cases t <;> first | rfl | (exact absurd (hz rfl) (by decide))
theorem l48g (b : List (List At)) (hb : mBytes b = true) : ∀ (k i : Nat) (v : Int), i + k = 9 →
    vloop EL 48 o14 noLo 0 (ntmpsAt Tryd.prog 48) L48 0 (k + 1) [(6, iv i), (5, wv v), (0, rb b)] [] = wOut (mRead b (k + 1) i v) := by
  intro k
  induction k with
  | zero =>
    intro i v hi
    obtain rfl : i = 9 := by omega
    rw [vloop_succ, round48 _ _ _ _ hb (by omega), ← wRound_read]
    exact wRound_nine _ _ _ _
  | succ k ih =>
    intro i v hi
    rw [vloop_succ, round48 _ _ _ _ hb (by omega), ih (i + 1) _ (by omega), wRound_read]
theorem l48 (i v : Int) (b : List (List At)) (ok : OkU i v b) : ∃ m, vloop EL 48 o14 noLo 0 (ntmpsAt Tryd.prog 48) L48 0 m [(6, iv i), (5, wv v), (0, rb b)] [] =
    some (.ret, [(2, wv (mUintV b)), (3, iv (mUintN b)), (4, iv (mUintE b))], []) := by
  obtain ⟨rfl, rfl, hb⟩ := ok
  exact ⟨10, l48g b hb 9 0 0 rfl⟩
def G48 (vs : List Sv) (M : List Box) : Option (Tree (Ex × TS × List Box)) := match vs, M with
  | [.one (.v (.int .i64 i)), .one (.v (.int .u64 v)), .one (.ro true 1 b)], [] => some (.br (gd (OkU i v b)) (.ok (.ret, [(2, wv (mUintV b)), (3, iv (mUintN b)), (4, iv (mUintE b))], [])) .no)
  | _, _ => none
def lo48 : Lo := loAt 3 [6, 5, 0] G48
theorem lo48_ok : LoopOK EL Tryd.prog lo48 (ntmpsAt Tryd.prog 48) (lcode Tryd.prog 48 3) := loAt_ok T c14 (noLo_all) fun vs M t x ht hx => by
  unfold G48 at ht
  split at ht
  · rename_i i v b
    obtain rfl := Option.some.inj ht
    obtain ⟨hc, hx⟩ := br_some hx
    exact (l48 i v b (of_gd hc)).imp fun _ h => h.trans hx
  · cases ht
theorem loops48 : ∀ fn b, Tryd.prog.funcs[(48 : Nat)]? = some fn → fn.body = some b → ∀ a ∈ loopsOf b, LoopOK EL Tryd.prog lo48 fn.ntmps a := loops_of (fun a ha => by
  have e : loopsAt Tryd.prog 48 = [lcode Tryd.prog 48 3] := by kernel_rfl
  rw [e] at ha
  simp only [List.mem_singleton] at ha
  subst ha
  exact lo48_ok)
theorem q48 (b : List (List At)) : vstep EL Tryd.prog lo48 0 o14 48 [rb b] [] =
chk (gd (OkU 0 0 b))
  (some
    (Sv.tup
        [Sv.one (At.v (Value.int IntKind.u64 (mUintV b))), Sv.one (At.v (Value.int IntKind.i64 (mUintN b))),
          Sv.one (At.v (Value.int IntKind.i64 (mUintE b)))],
      [])) := by kernel_rfl

theorem e48 (b : List (List At)) (hb : OkB b) : vstep EL Tryd.prog lo48 0 o14 48 [rb b] [] = some (.tup [wv (mUintV b), iv (mUintN b), iv (mUintE b)], []) := by
  rw [q48, chk_t (gd_t ⟨rfl, rfl, hb.are⟩)]
def F48 (a : List Sv) (M : List Box) : Tr := match a, M with
  | [.one (.ro true 1 b)], [] => (.br (gd (OkB b)) (.ok (.tup [wv (mUintV b), iv (mUintN b), iv (mUintE b)], [])) .no)
  | _, _ => .no
def o48 : Orc := over o14 48 F48
theorem c48 : CallOK EL Tryd.prog o48 := over_ok T.tok T.mo T.ng c14 fun args M x hx => by
  unfold F48 at hx
  split at hx
  · rename_i b
    obtain ⟨hc, hx⟩ := br_some hx
    exact ⟨lo48, 0, loops48, (e48 b (of_gd hc)).trans hx⟩
  · cases hx
theorem u49 (m : Nat) (b : List (List At)) (i v : Int) : vround EL 49 o48 noLo 0 (ntmpsAt Tryd.prog 49) L49 0 m [(6, iv i), (5, wv v), (0, rb b)] [] =
tst (decide (i < 10))
  (tst (decide (i ≥ (↑b.length : Int)))
    (some
      (Ex.ret,
        [(2, Sv.one (At.v (Value.int IntKind.u64 0))), (3, Sv.one (At.v (Value.int IntKind.i64 0))),
          (4, Sv.one (At.v (Value.int IntKind.i64 5)))],
        []))
    (chk (decide (0 ≤ i))
      (chk (decide (i < (↑b.length : Int)))
        (chk (okRow [SK.i IntKind.u8] (b.getD i.toNat []))
          (tst (i == 9)
            (tst (bif true then decide (intA ((b.getD i.toNat []).getD 0 At.bad) > 1) else false)
              (some
                (Ex.ret,
                  [(2, Sv.one (At.v (Value.int IntKind.u64 0))), (3, Sv.one (At.v (Value.int IntKind.i64 0))),
                    (4, Sv.one (At.v (Value.int IntKind.i64 6)))],
                  []))
              (tst (intA ((b.getD i.toNat []).getD 0 At.bad) == 0)
                (tst (bif false then true else bif true then decide (i > 0) else false)
                  (some
                    (Ex.ret,
                      [(2, Sv.one (At.v (Value.int IntKind.u64 0))), (3, Sv.one (At.v (Value.int IntKind.i64 0))),
                        (4, Sv.one (At.v (Value.int IntKind.i64 6)))],
                      []))
                  (chk (decide (0 ≤ IntKind.wrap .u64 (IntKind.wrap .i64 (7 * i))))
                    (tst (decide (intA ((b.getD i.toNat []).getD 0 At.bad) < 128))
                      (some
                        (Ex.ret,
                          [(2,
                              Sv.one
                                (At.v
                                  (Value.int IntKind.u64
                                    (orI IntKind.u64 v
                                      (shlI IntKind.u64
                                        (IntKind.wrap .u64
                                          (andI IntKind.u8 (intA ((b.getD i.toNat []).getD 0 At.bad)) 127))
                                        (IntKind.wrap .u64 (IntKind.wrap .i64 (7 * i)))))))),
                            (3, Sv.one (At.v (Value.int IntKind.i64 (IntKind.wrap .i64 (i + 1))))),
                            (4, Sv.one (At.v (Value.int IntKind.i64 0)))],
                          []))
                      (vloop EL 49 o48 noLo 0 (ntmpsAt Tryd.prog 49) L49 0 m
                        [(6, Sv.one (At.v (Value.int IntKind.i64 (IntKind.wrap .i64 (i + 1))))),
                          (5,
                            Sv.one
                              (At.v
                                (Value.int IntKind.u64
                                  (orI IntKind.u64 v
                                    (shlI IntKind.u64
                                      (IntKind.wrap .u64
                                        (andI IntKind.u8 (intA ((b.getD i.toNat []).getD 0 At.bad)) 127))
                                      (IntKind.wrap .u64 (IntKind.wrap .i64 (7 * i)))))))),
                          (0, Sv.one (At.ro true 1 b))]
                        []))))
                (chk (decide (0 ≤ IntKind.wrap .u64 (IntKind.wrap .i64 (7 * i))))
                  (tst (decide (intA ((b.getD i.toNat []).getD 0 At.bad) < 128))
                    (some
                      (Ex.ret,
                        [(2,
                            Sv.one
                              (At.v
                                (Value.int IntKind.u64
                                  (orI IntKind.u64 v
                                    (shlI IntKind.u64
                                      (IntKind.wrap .u64
                                        (andI IntKind.u8 (intA ((b.getD i.toNat []).getD 0 At.bad)) 127))
                                      (IntKind.wrap .u64 (IntKind.wrap .i64 (7 * i)))))))),
                          (3, Sv.one (At.v (Value.int IntKind.i64 (IntKind.wrap .i64 (i + 1))))),
                          (4, Sv.one (At.v (Value.int IntKind.i64 0)))],
                        []))
                    (vloop EL 49 o48 noLo 0 (ntmpsAt Tryd.prog 49) L49 0 m
                      [(6, Sv.one (At.v (Value.int IntKind.i64 (IntKind.wrap .i64 (i + 1))))),
                        (5,
                          Sv.one
                            (At.v
                              (Value.int IntKind.u64
                                (orI IntKind.u64 v
                                  (shlI IntKind.u64
                                    (IntKind.wrap .u64 (andI IntKind.u8 (intA ((b.getD i.toNat []).getD 0 At.bad)) 127))
                                    (IntKind.wrap .u64 (IntKind.wrap .i64 (7 * i)))))))),
                        (0, Sv.one (At.ro true 1 b))]
                      [])))))
            (tst (intA ((b.getD i.toNat []).getD 0 At.bad) == 0)
              (tst (bif false then true else bif true then decide (i > 0) else false)
                (some
                  (Ex.ret,
                    [(2, Sv.one (At.v (Value.int IntKind.u64 0))), (3, Sv.one (At.v (Value.int IntKind.i64 0))),
                      (4, Sv.one (At.v (Value.int IntKind.i64 6)))],
                    []))
                (chk (decide (0 ≤ IntKind.wrap .u64 (IntKind.wrap .i64 (7 * i))))
                  (tst (decide (intA ((b.getD i.toNat []).getD 0 At.bad) < 128))
                    (some
                      (Ex.ret,
                        [(2,
                            Sv.one
                              (At.v
                                (Value.int IntKind.u64
                                  (orI IntKind.u64 v
                                    (shlI IntKind.u64
                                      (IntKind.wrap .u64
                                        (andI IntKind.u8 (intA ((b.getD i.toNat []).getD 0 At.bad)) 127))
                                      (IntKind.wrap .u64 (IntKind.wrap .i64 (7 * i)))))))),
                          (3, Sv.one (At.v (Value.int IntKind.i64 (IntKind.wrap .i64 (i + 1))))),
                          (4, Sv.one (At.v (Value.int IntKind.i64 0)))],
                        []))
                    (vloop EL 49 o48 noLo 0 (ntmpsAt Tryd.prog 49) L49 0 m
                      [(6, Sv.one (At.v (Value.int IntKind.i64 (IntKind.wrap .i64 (i + 1))))),
                        (5,
                          Sv.one
                            (At.v
                              (Value.int IntKind.u64
                                (orI IntKind.u64 v
                                  (shlI IntKind.u64
                                    (IntKind.wrap .u64 (andI IntKind.u8 (intA ((b.getD i.toNat []).getD 0 At.bad)) 127))
                                    (IntKind.wrap .u64 (IntKind.wrap .i64 (7 * i)))))))),
                        (0, Sv.one (At.ro true 1 b))]
                      []))))
              (chk (decide (0 ≤ IntKind.wrap .u64 (IntKind.wrap .i64 (7 * i))))
                (tst (decide (intA ((b.getD i.toNat []).getD 0 At.bad) < 128))
                  (some
                    (Ex.ret,
                      [(2,
                          Sv.one
                            (At.v
                              (Value.int IntKind.u64
                                (orI IntKind.u64 v
                                  (shlI IntKind.u64
                                    (IntKind.wrap .u64 (andI IntKind.u8 (intA ((b.getD i.toNat []).getD 0 At.bad)) 127))
                                    (IntKind.wrap .u64 (IntKind.wrap .i64 (7 * i)))))))),
                        (3, Sv.one (At.v (Value.int IntKind.i64 (IntKind.wrap .i64 (i + 1))))),
                        (4, Sv.one (At.v (Value.int IntKind.i64 0)))],
                      []))
                  (vloop EL 49 o48 noLo 0 (ntmpsAt Tryd.prog 49) L49 0 m
                    [(6, Sv.one (At.v (Value.int IntKind.i64 (IntKind.wrap .i64 (i + 1))))),
                      (5,
                        Sv.one
                          (At.v
                            (Value.int IntKind.u64
                              (orI IntKind.u64 v
                                (shlI IntKind.u64
                                  (IntKind.wrap .u64 (andI IntKind.u8 (intA ((b.getD i.toNat []).getD 0 At.bad)) 127))
                                  (IntKind.wrap .u64 (IntKind.wrap .i64 (7 * i)))))))),
                      (0, Sv.one (At.ro true 1 b))]
                    [])))))))))
  (some (Ex.exit 0, [(2, Sv.one At.bad), (3, Sv.one At.bad), (4, Sv.one At.bad)], [])) := by kernel_rfl

theorem round49 (m : Nat) (b : List (List At)) (i : Nat) (v : Int) (hb : mBytes b = true) (hi : i ≤ 9) :
    vround EL 49 o48 noLo 0 (ntmpsAt Tryd.prog 49) L49 0 m [(6, iv i), (5, wv v), (0, rb b)] [] =
    wRound b i v (vloop EL 49 o48 noLo 0 (ntmpsAt Tryd.prog 49) L49 0 m [(6, iv ((i + 1 : Nat) : Int)), (5, wv (mAcc v i (mAt b i))), (0, rb b)] []) := by
  have w0 : ((i : Int)).toNat = i := by simp
  have w1 : IntKind.wrap .u64 (IntKind.wrap .i64 (7 * (i : Int))) = 7 * (i : Int) := by rw [wrap_in (n := 7 * (i : Int)) (by omega) (by omega), wrap_u64 (by omega) (by omega)]
  have w2 : IntKind.wrap .i64 ((i : Int) + 1) = (i : Int) + 1 := wrap_in (by omega) (by omega)
  rw [u49, w0, w1, w2, tst_t (decide_eq_true (by omega : (i : Int) < 10)), nat_nine, nat_pos, nat_short]
  unfold wRound
  cases hl : decide (b.length ≤ i) with
  | true => rfl
  | false =>
    have hl := of_decide_eq_false hl
    obtain ⟨a1, a2, a3⟩ := byte_at hb (i := i) (by omega)
    rw [tst_f rfl, chk_t (decide_eq_true (by omega)), chk_t (decide_eq_true (by omega)), chk_t a1, chk_t (b := decide (0 ≤ 7 * (i : Int))) (decide_eq_true (by omega))]
    change 0 ≤ mAt b i at a2
    change mAt b i < 256 at a3
    have a4 := and_128 a2 a3
    unfold mAt at a4 ⊢
    have hz : (intA ((b.getD i []).getD 0 At.bad) == 0) = true → decide (intA ((b.getD i []).getD 0 At.bad) < 128) = true := fun h => decide_eq_true (by rw [beq_iff_eq.1 h]; decide)
    revert hz
    generalize decide (i = 9) = p
    generalize decide (0 < i) = q
    rw [show decide (intA ((b.getD i []).getD 0 At.bad) > 1) = decide (1 < intA ((b.getD i []).getD 0 At.bad)) from rfl]
    generalize decide (1 < intA ((b.getD i []).getD 0 At.bad)) = r
    generalize (intA ((b.getD i []).getD 0 At.bad) == 0) = s
    generalize decide (intA ((b.getD i []).getD 0 At.bad) < 128) = t
    intro hz
    cases p <;> cases q <;> cases r <;> cases s <;> cases t <;> first | rfl | (exact absurd (hz rfl) (by decide))
theorem l49g (b : List (List At)) (hb : mBytes b = true) : ∀ (k i : Nat) (v : Int), i + k = 9 →
    vloop EL 49 o48 noLo 0 (ntmpsAt Tryd.prog 49) L49 0 (k + 1) [(6, iv i), (5, wv v), (0, rb b)] [] = wOut (mRead b (k + 1) i v) := by
  intro k
  induction k with
  | zero =>
    intro i v hi
    obtain rfl : i = 9 := by omega
    rw [vloop_succ, round49 _ _ _ _ hb (by omega), ← wRound_read]
    exact wRound_nine _ _ _ _
  | succ k ih =>
    intro i v hi
    rw [vloop_succ, round49 _ _ _ _ hb (by omega), ih (i + 1) _ (by omega), wRound_read]
theorem l49 (i v : Int) (b : List (List At)) (ok : OkU i v b) : ∃ m, vloop EL 49 o48 noLo 0 (ntmpsAt Tryd.prog 49) L49 0 m [(6, iv i), (5, wv v), (0, rb b)] [] =
    some (.ret, [(2, wv (mUintV b)), (3, iv (mUintN b)), (4, iv (mUintE b))], []) := by
  obtain ⟨rfl, rfl, hb⟩ := ok
  exact ⟨10, l49g b hb 9 0 0 rfl⟩
def G49 (vs : List Sv) (M : List Box) : Option (Tree (Ex × TS × List Box)) := match vs, M with
  | [.one (.v (.int .i64 i)), .one (.v (.int .u64 v)), .one (.ro true 1 b)], [] => some (.br (gd (OkU i v b)) (.ok (.ret, [(2, wv (mUintV b)), (3, iv (mUintN b)), (4, iv (mUintE b))], [])) .no)
  | _, _ => none
def lo49 : Lo := loAt 3 [6, 5, 0] G49
theorem lo49_ok : LoopOK EL Tryd.prog lo49 (ntmpsAt Tryd.prog 49) (lcode Tryd.prog 49 3) := loAt_ok T c48 (noLo_all) fun vs M t x ht hx => by
  unfold G49 at ht
  split at ht
  · rename_i i v b
    obtain rfl := Option.some.inj ht
    obtain ⟨hc, hx⟩ := br_some hx
    exact (l49 i v b (of_gd hc)).imp fun _ h => h.trans hx
  · cases ht
theorem loops49 : ∀ fn b, Tryd.prog.funcs[(49 : Nat)]? = some fn → fn.body = some b → ∀ a ∈ loopsOf b, LoopOK EL Tryd.prog lo49 fn.ntmps a := loops_of (fun a ha => by
  have e : loopsAt Tryd.prog 49 = [lcode Tryd.prog 49 3] := by kernel_rfl
  rw [e] at ha
  simp only [List.mem_singleton] at ha
  subst ha
  exact lo49_ok)
theorem q49 (b : List (List At)) : vstep EL Tryd.prog lo49 0 o48 49 [rb b] [] =
chk (gd (OkU 0 0 b))
  (some
    (Sv.tup
        [Sv.one (At.v (Value.int IntKind.u64 (mUintV b))), Sv.one (At.v (Value.int IntKind.i64 (mUintN b))),
          Sv.one (At.v (Value.int IntKind.i64 (mUintE b)))],
      [])) := by kernel_rfl

theorem e49 (b : List (List At)) (hb : OkB b) : vstep EL Tryd.prog lo49 0 o48 49 [rb b] [] = some (.tup [wv (mUintV b), iv (mUintN b), iv (mUintE b)], []) := by
  rw [q49, chk_t (gd_t ⟨rfl, rfl, hb.are⟩)]
def F49 (a : List Sv) (M : List Box) : Tr := match a, M with
  | [.one (.ro true 1 b)], [] => (.br (gd (OkB b)) (.ok (.tup [wv (mUintV b), iv (mUintN b), iv (mUintE b)], [])) .no)
  | _, _ => .no
def o49 : Orc := over o48 49 F49
theorem c49 : CallOK EL Tryd.prog o49 := over_ok T.tok T.mo T.ng c48 fun args M x hx => by
  unfold F49 at hx
  split at hx
  · rename_i b
    obtain ⟨hc, hx⟩ := br_some hx
    exact ⟨lo49, 0, loops49, (e49 b (of_gd hc)).trans hx⟩
  · cases hx
end
end Go.Proofs.YtkpdcieoiciapaaDoor
