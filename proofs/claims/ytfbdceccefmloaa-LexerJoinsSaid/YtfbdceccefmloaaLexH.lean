import Derived.Test.YtfbdceccefmloaaLexG
namespace Go.Proofs.Ytfbdceccefmloaa
open Go Go.Vi Go.IntWalk
set_option maxRecDepth 100000
set_option linter.unusedVariables false
set_option linter.unusedSimpArgs false
theorem tt {R : Type} {x y : Option R} : tst true x y = x := rfl
theorem tf {R : Type} {x y : Option R} : tst false x y = y := rfl
theorem ct {R : Type} {x : Option R} : chk true x = x := rfl
/-- The value of up to four digits, from f on. -/
def numL (b : ByteArray) (f : Int) : Nat → Nat → Int → Int
  | 0, _, v => v
  | k + 1, i, v => match digB (byteAt b i) with
    | true => numL b f k (i + 1) (match decide (IntKind.wrap .i64 ((i : Int) - f) < 4) with
      | true => IntKind.wrap .i64 (IntKind.wrap .i64 (10 * v) + IntKind.wrap .i64 (IntKind.wrap .u8 (byteAt b i - 48)))
      | false => v)
    | false => v
abbrev own0 : At := .own 0 0
abbrev S9a (b : ByteArray) (i f : Int) : TS := [(6, iv i), (8, iv f), (0, sv b), (5, .one own0)]
abbrev X9a (b : ByteArray) (i f : Int) : TS := [(2, .one .bad), (3, .one .bad), (4, .one .bad), (8, iv f), (6, iv i), (0, sv b), (5, .one own0)]
abbrev S9c (b : ByteArray) (i f v c : Int) : TS := [(6, iv i), (0, sv b), (11, iv v), (8, iv f), (5, .one own0), (7, .one (.v (.int .u8 c)))]
abbrev X9c (b : ByteArray) (i f v c : Int) : TS := [(2, .one .bad), (3, .one .bad), (4, .one .bad), (8, iv f), (6, iv i), (0, sv b), (11, iv v), (5, .one own0), (7, .one (.v (.int .u8 c)))]
abbrev S9 (b : ByteArray) (i : Int) : TS := [(6, iv i), (0, sv b), (5, .one own0)]
abbrev row9 (es : List (List At)) : List Box := [.row 32 0 false true 4 es]
def okP (b : ByteArray) (i : Int) : Bool := decide (0 ≤ i) && decide (i ≤ b.size) && decide (b.size ≤ 1024)
def fin9 (b : ByteArray) (t : List (List At) × Int × Int) : Tree (Ex × TS × List Box) :=
  .br (t.2.2 == 0) (.ok (.exit 0, [(2, .one .bad), (3, .one .bad), (4, .one .bad), (0, sv b), (5, .one own0)], row9 t.1)) (.ok (.ret, [(2, .one .nils), (3, iv t.2.1), (4, iv t.2.2), (0, sv b), (5, .one own0)], row9 t.1))
def lo9 : Lo := fun a s M => match firstId a, lookT s 0, lookT s 5, lookT s 6, M with
  | 5, .one (.v (.string b)), .one (.own 0 0), .one (.v (.int .i64 i)), [.row 32 0 false true 4 []] =>
    some (.br (i == 0 && decide (b.size ≤ 1024)) (fin9 b (lexT b)) .no)
  | 11, .one (.v (.string b)), .one (.own 0 0), .one (.v (.int .i64 i)), [.row 32 0 false true 4 es] => match lookT s 8 with
    | .one (.v (.int .i64 f)) => some (.br (okP b i) (.ok (.exit 2, X9a b (runTo innerB b i) f, row9 es)) .no)
    | _ => none
  | 17, .one (.v (.string b)), .one (.own 0 0), .one (.v (.int .i64 i)), [.row 32 0 false true 4 es] => match lookT s 8 with
    | .one (.v (.int .i64 f)) => some (.br (okP b i) (.ok (.exit 4, X9a b (runTo capB b i) f, row9 es)) .no)
    | _ => none
  | 25, .one (.v (.string b)), .one (.own 0 0), .one (.v (.int .i64 i)), [.row 32 0 false true 4 es] => match lookT s 7, lookT s 8, lookT s 11 with
    | .one (.v (.int .u8 c)), .one (.v (.int .i64 f)), .one (.v (.int .i64 v)) => some (.br (okP b i) (.ok (.exit 6, X9c b (runTo digB b i) f (numL b f (b.size - i.toNat) i.toNat v) c, row9 es)) .no)
    | _, _, _ => none
  | _, _, _, _, _ => none

noncomputable abbrev L5 : Code := lcode Try.prog 9 5
noncomputable abbrev L11 : Code := lcode Try.prog 9 11
noncomputable abbrev L17 : Code := lcode Try.prog 9 17
noncomputable abbrev L25r : Code := lcode Try.prog 9 25
theorem wrap1 {i : Nat} {n : Nat} (hn : n ≤ 1024) (hi : i < n) : IntKind.wrap .i64 ((i : Int) + 1) = ((i + 1 : Nat) : Int) := by rw [i64_in _ ⟨by omega, by omega⟩]; rfl
theorem r9a (m : Nat) (b : ByteArray) (i f : Int) (es : List (List At)) : vround EL 9 o8 noLo 0 193 L11 1 m (S9a b i f) (row9 es) =
tst (decide (i < (↑b.size : Int)))
  (chk (decide (0 ≤ i))
    (chk (decide (i < (↑b.size : Int)))
      (tst (bif true then innerB (byteAt b i.toNat) else false)
        (vloop EL 9 o8 noLo 0 193 L11 1 m
          [(6, Sv.one (At.v (Value.int IntKind.i64 (IntKind.wrap .i64 (i + 1))))),
            (8, Sv.one (At.v (Value.int IntKind.i64 f))), (0, Sv.one (At.v (Value.string b))), (5, Sv.one (At.own 0 0))]
          [Box.row 32 0 false true 4 es])
        (some
          (Ex.exit 2,
            [(2, Sv.one At.bad), (3, Sv.one At.bad), (4, Sv.one At.bad), (8, Sv.one (At.v (Value.int IntKind.i64 f))),
              (6, Sv.one (At.v (Value.int IntKind.i64 i))), (0, Sv.one (At.v (Value.string b))),
              (5, Sv.one (At.own 0 0))],
            [Box.row 32 0 false true 4 es])))))
  (some
    (Ex.exit 2,
      [(2, Sv.one At.bad), (3, Sv.one At.bad), (4, Sv.one At.bad), (8, Sv.one (At.v (Value.int IntKind.i64 f))),
        (6, Sv.one (At.v (Value.int IntKind.i64 i))), (0, Sv.one (At.v (Value.string b))), (5, Sv.one (At.own 0 0))],
      [Box.row 32 0 false true 4 es])) := by kernel_rfl
theorem r9b (m : Nat) (b : ByteArray) (i f : Int) (es : List (List At)) : vround EL 9 o8 noLo 0 193 L17 1 m (S9a b i f) (row9 es) =
tst (decide (i < (↑b.size : Int)))
  (chk (decide (0 ≤ i))
    (chk (decide (i < (↑b.size : Int)))
      (tst (bif true then decide (byteAt b i.toNat ≥ 65) else false)
        (chk (decide (0 ≤ i))
          (chk (decide (i < (↑b.size : Int)))
            (tst (bif true then decide (byteAt b i.toNat ≤ 90) else false)
              (vloop EL 9 o8 noLo 0 193 L17 1 m
                [(6, Sv.one (At.v (Value.int IntKind.i64 (IntKind.wrap .i64 (i + 1))))),
                  (8, Sv.one (At.v (Value.int IntKind.i64 f))), (0, Sv.one (At.v (Value.string b))),
                  (5, Sv.one (At.own 0 0))]
                [Box.row 32 0 false true 4 es])
              (some
                (Ex.exit 4,
                  [(2, Sv.one At.bad), (3, Sv.one At.bad), (4, Sv.one At.bad),
                    (8, Sv.one (At.v (Value.int IntKind.i64 f))), (6, Sv.one (At.v (Value.int IntKind.i64 i))),
                    (0, Sv.one (At.v (Value.string b))), (5, Sv.one (At.own 0 0))],
                  [Box.row 32 0 false true 4 es])))))
        (some
          (Ex.exit 4,
            [(2, Sv.one At.bad), (3, Sv.one At.bad), (4, Sv.one At.bad), (8, Sv.one (At.v (Value.int IntKind.i64 f))),
              (6, Sv.one (At.v (Value.int IntKind.i64 i))), (0, Sv.one (At.v (Value.string b))),
              (5, Sv.one (At.own 0 0))],
            [Box.row 32 0 false true 4 es])))))
  (some
    (Ex.exit 4,
      [(2, Sv.one At.bad), (3, Sv.one At.bad), (4, Sv.one At.bad), (8, Sv.one (At.v (Value.int IntKind.i64 f))),
        (6, Sv.one (At.v (Value.int IntKind.i64 i))), (0, Sv.one (At.v (Value.string b))), (5, Sv.one (At.own 0 0))],
      [Box.row 32 0 false true 4 es])) := by kernel_rfl
theorem r9c (m : Nat) (b : ByteArray) (i f v c : Int) (es : List (List At)) : vround EL 9 o8 noLo 0 193 L25r 1 m (S9c b i f v c) (row9 es) =
tst (decide (i < (↑b.size : Int)))
  (chk (decide (0 ≤ i))
    (chk (decide (i < (↑b.size : Int)))
      (tst (bif true then decide (byteAt b i.toNat ≥ 48) else false)
        (chk (decide (0 ≤ i))
          (chk (decide (i < (↑b.size : Int)))
            (tst (bif true then decide (byteAt b i.toNat ≤ 57) else false)
              (tst (decide (IntKind.wrap .i64 (i - f) < 4))
                (chk (decide (0 ≤ i))
                  (chk (decide (i < (↑b.size : Int)))
                    (vloop EL 9 o8 noLo 0 193 L25r 1 m
                      [(6, Sv.one (At.v (Value.int IntKind.i64 (IntKind.wrap .i64 (i + 1))))),
                        (0, Sv.one (At.v (Value.string b))),
                        (11,
                          Sv.one
                            (At.v
                              (Value.int IntKind.i64
                                (IntKind.wrap .i64
                                  (IntKind.wrap .i64 (10 * v) +
                                    IntKind.wrap .i64 (IntKind.wrap .u8 (byteAt b i.toNat - 48))))))),
                        (8, Sv.one (At.v (Value.int IntKind.i64 f))), (5, Sv.one (At.own 0 0)),
                        (7, Sv.one (At.v (Value.int IntKind.u8 c)))]
                      [Box.row 32 0 false true 4 es])))
                (vloop EL 9 o8 noLo 0 193 L25r 1 m
                  [(6, Sv.one (At.v (Value.int IntKind.i64 (IntKind.wrap .i64 (i + 1))))),
                    (0, Sv.one (At.v (Value.string b))), (11, Sv.one (At.v (Value.int IntKind.i64 v))),
                    (8, Sv.one (At.v (Value.int IntKind.i64 f))), (5, Sv.one (At.own 0 0)),
                    (7, Sv.one (At.v (Value.int IntKind.u8 c)))]
                  [Box.row 32 0 false true 4 es]))
              (some
                (Ex.exit 6,
                  [(2, Sv.one At.bad), (3, Sv.one At.bad), (4, Sv.one At.bad),
                    (8, Sv.one (At.v (Value.int IntKind.i64 f))), (6, Sv.one (At.v (Value.int IntKind.i64 i))),
                    (0, Sv.one (At.v (Value.string b))), (11, Sv.one (At.v (Value.int IntKind.i64 v))),
                    (5, Sv.one (At.own 0 0)), (7, Sv.one (At.v (Value.int IntKind.u8 c)))],
                  [Box.row 32 0 false true 4 es])))))
        (some
          (Ex.exit 6,
            [(2, Sv.one At.bad), (3, Sv.one At.bad), (4, Sv.one At.bad), (8, Sv.one (At.v (Value.int IntKind.i64 f))),
              (6, Sv.one (At.v (Value.int IntKind.i64 i))), (0, Sv.one (At.v (Value.string b))),
              (11, Sv.one (At.v (Value.int IntKind.i64 v))), (5, Sv.one (At.own 0 0)),
              (7, Sv.one (At.v (Value.int IntKind.u8 c)))],
            [Box.row 32 0 false true 4 es])))))
  (some
    (Ex.exit 6,
      [(2, Sv.one At.bad), (3, Sv.one At.bad), (4, Sv.one At.bad), (8, Sv.one (At.v (Value.int IntKind.i64 f))),
        (6, Sv.one (At.v (Value.int IntKind.i64 i))), (0, Sv.one (At.v (Value.string b))),
        (11, Sv.one (At.v (Value.int IntKind.i64 v))), (5, Sv.one (At.own 0 0)),
        (7, Sv.one (At.v (Value.int IntKind.u8 c)))],
      [Box.row 32 0 false true 4 es])) := by kernel_rfl
theorem l9a (b : ByteArray) (hb : b.size ≤ 1024) (f : Int) (es : List (List At)) : ∀ (k i m : Nat), i + k = b.size → k < m →
    vloop EL 9 o8 noLo 0 193 L11 1 m (S9a b i f) (row9 es) = some (.exit 2, X9a b (runEnd innerB b k i) f, row9 es)
  | 0, i, m + 1, hi, hm => by
    rw [vloop_succ, r9a, tst_f (decide_eq_false (by omega))]; rfl
  | k + 1, i, m + 1, hi, hm => by
    rw [vloop_succ, r9a, tst_t (decide_eq_true (by omega)), chk_t (decide_eq_true (by omega)), chk_t (decide_eq_true (by omega)), show ((i : Int)).toNat = i from rfl, wrap1 hb (by omega)]
    unfold runEnd
    cases hp : innerB (byteAt b i) with
    | false => rfl
    | true => exact l9a b hb f es k (i + 1) m (by omega) (by omega)
theorem l9b (b : ByteArray) (hb : b.size ≤ 1024) (f : Int) (es : List (List At)) : ∀ (k i m : Nat), i + k = b.size → k < m →
    vloop EL 9 o8 noLo 0 193 L17 1 m (S9a b i f) (row9 es) = some (.exit 4, X9a b (runEnd capB b k i) f, row9 es)
  | 0, i, m + 1, hi, hm => by
    rw [vloop_succ, r9b, tst_f (decide_eq_false (by omega))]; rfl
  | k + 1, i, m + 1, hi, hm => by
    have k1 : decide (0 ≤ (i : Int)) = true := decide_eq_true (by omega)
    have k2 : decide ((i : Int) < (b.size : Int)) = true := decide_eq_true (by omega)
    rw [vloop_succ, r9b, show ((i : Int)).toNat = i from rfl, wrap1 hb (by omega), k1, k2]
    unfold runEnd
    cases hp : capB (byteAt b i) with
    | false =>
      unfold capB at hp
      cases h1 : decide (byteAt b i ≥ 65) with
      | false => rfl
      | true => rw [h1, Bool.true_and] at hp; rw [hp]; rfl
    | true =>
      unfold capB at hp
      rw [Bool.and_eq_true] at hp
      rw [hp.1, hp.2]
      exact l9b b hb f es k (i + 1) m (by omega) (by omega)
theorem l9c (b : ByteArray) (hb : b.size ≤ 1024) (f c : Int) (es : List (List At)) : ∀ (k i m : Nat) (v : Int), i + k = b.size → k < m →
    vloop EL 9 o8 noLo 0 193 L25r 1 m (S9c b i f v c) (row9 es) = some (.exit 6, X9c b (runEnd digB b k i) f (numL b f k i v) c, row9 es)
  | 0, i, m + 1, v, hi, hm => by
    rw [vloop_succ, r9c, tst_f (decide_eq_false (by omega))]; rfl
  | k + 1, i, m + 1, v, hi, hm => by
    have k1 : decide (0 ≤ (i : Int)) = true := decide_eq_true (by omega)
    have k2 : decide ((i : Int) < (b.size : Int)) = true := decide_eq_true (by omega)
    rw [vloop_succ, r9c, show ((i : Int)).toNat = i from rfl, wrap1 hb (by omega), k1, k2]
    unfold runEnd numL
    cases hp : digB (byteAt b i) with
    | false =>
      unfold digB at hp
      cases h1 : decide (byteAt b i ≥ 48) with
      | false => rfl
      | true => rw [h1, Bool.true_and] at hp; rw [hp]; rfl
    | true =>
      unfold digB at hp
      rw [Bool.and_eq_true] at hp
      rw [hp.1, hp.2]
      cases h3 : decide (IntKind.wrap .i64 ((i : Int) - f) < 4) with
      | true => exact l9c b hb f c es k (i + 1) m _ (by omega) (by omega)
      | false => exact l9c b hb f c es k (i + 1) m _ (by omega) (by omega)
theorem okP_spec {b : ByteArray} {i : Int} (h : okP b i = true) : ∃ j : Nat, i = j ∧ j ≤ b.size ∧ b.size ≤ 1024 := by
  unfold okP at h
  simp only [Bool.and_eq_true, decide_eq_true_eq] at h
  obtain ⟨j, rfl⟩ := Int.eq_ofNat_of_zero_le h.1.1
  exact ⟨j, rfl, by omega, h.2⟩
theorem okP_mk {b : ByteArray} {i : Nat} (h : i ≤ b.size) (hb : b.size ≤ 1024) : okP b i = true := by
  unfold okP
  rw [decide_eq_true (by omega), decide_eq_true (by omega), decide_eq_true hb]; rfl
theorem id11 : firstId L11 = 11 := by kernel_rfl
theorem id17 : firstId L17 = 17 := by kernel_rfl
theorem id25 : firstId L25r = 25 := by kernel_rfl
theorem id5 : firstId L5 = 5 := by kernel_rfl
theorem lo9a_ok : LoopOK EL Try.prog lo9 193 L11 := by
  refine LoopOK.of_run (f := 9) (c := o8) (lo := noLo) T.tok c8 T.mo (fun _ _ => noLo_ok) (fun s M e s' M' t hl hev => ?_)
  unfold lo9 at hl
  rw [id11] at hl
  split at hl
  · rename_i h _ _ _; cases h
  · rename_i b i es h1 h3 h4 h5
    split at hl
    · rename_i f h6
      obtain rfl := Option.some.inj hl
      obtain ⟨hc, hev2⟩ := br_some hev
      clear hev
      obtain ⟨j, rfl, hj, hb⟩ := okP_spec hc
      refine ⟨0, b.size - j + 1, [6, 8, 0, 5], ?_⟩
      simp only [keepT, List.map_cons, List.map_nil, h3, h4, h5, h6]
      exact (l9a b hb f es (b.size - j) j (b.size - j + 1) (by omega) (by omega)).trans hev2
    · cases hl
  · rename_i h _ _ _; cases h
  · rename_i h _ _ _; cases h
  · cases hl
theorem lo9b_ok : LoopOK EL Try.prog lo9 193 L17 := by
  refine LoopOK.of_run (f := 9) (c := o8) (lo := noLo) T.tok c8 T.mo (fun _ _ => noLo_ok) (fun s M e s' M' t hl hev => ?_)
  unfold lo9 at hl
  rw [id17] at hl
  split at hl
  · rename_i h _ _ _; cases h
  · rename_i h _ _ _; cases h
  · rename_i b i es h1 h3 h4 h5
    split at hl
    · rename_i f h6
      obtain rfl := Option.some.inj hl
      obtain ⟨hc, hev2⟩ := br_some hev
      clear hev
      obtain ⟨j, rfl, hj, hb⟩ := okP_spec hc
      refine ⟨0, b.size - j + 1, [6, 8, 0, 5], ?_⟩
      simp only [keepT, List.map_cons, List.map_nil, h3, h4, h5, h6]
      exact (l9b b hb f es (b.size - j) j (b.size - j + 1) (by omega) (by omega)).trans hev2
    · cases hl
  · rename_i h _ _ _; cases h
  · cases hl
theorem lo9c_ok : LoopOK EL Try.prog lo9 193 L25r := by
  refine LoopOK.of_run (f := 9) (c := o8) (lo := noLo) T.tok c8 T.mo (fun _ _ => noLo_ok) (fun s M e s' M' t hl hev => ?_)
  unfold lo9 at hl
  rw [id25] at hl
  split at hl
  · rename_i h _ _ _; cases h
  · rename_i h _ _ _; cases h
  · rename_i h _ _ _; cases h
  · rename_i b i es h1 h3 h4 h5
    split at hl
    · rename_i c f v h6 h7 h8
      obtain rfl := Option.some.inj hl
      obtain ⟨hc, hev2⟩ := br_some hev
      clear hev
      obtain ⟨j, rfl, hj, hb⟩ := okP_spec hc
      refine ⟨0, b.size - j + 1, [6, 0, 11, 8, 5, 7], ?_⟩
      simp only [keepT, List.map_cons, List.map_nil, h3, h4, h5, h6, h7, h8]
      exact (l9c b hb f c es (b.size - j) j (b.size - j + 1) v (by omega) (by omega)).trans hev2
    · cases hl
  · cases hl
/-! ### the plain law of one token -/
theorem ext_len {b : ByteArray} {i q : Nat} (h1 : i ≤ q) (h2 : q ≤ b.size) : (b.extract i q).size = q - i := by rw [ByteArray.size_extract]; omega
theorem data_get (b : ByteArray) (j : Nat) : byteAt b j = ((b.data.toList.getD j 0).toNat : Int) := rfl
theorem ext_byte {b : ByteArray} {i q j : Nat} (h : i + j < q) (h2 : q ≤ b.size) : byteAt (b.extract i q) j = byteAt b (i + j) := by
  unfold byteAt
  have : (b.extract i q).data.toList.getD j 0 = b.data.toList.getD (i + j) 0 := by
    rw [ByteArray.data_extract, List.getD_eq_getElem?_getD, List.getD_eq_getElem?_getD, Array.getElem?_toList, Array.getElem?_toList, Array.getElem?_extract, if_pos (by rw [show b.data.size = b.size from rfl]; omega)]
  rw [this]
theorem ext_one {b : ByteArray} {i : Nat} (h : i < b.size) : b.extract i (i + 1) = ⟨#[UInt8.ofNat (byteAt b i).toNat]⟩ := by
  apply data_eq
  apply List.ext_getElem?
  intro j
  rw [ByteArray.data_extract, Array.getElem?_toList, Array.getElem?_extract]
  rcases j with _ | j
  · rw [if_pos (by rw [show b.data.size = b.size from rfl]; omega), Nat.add_zero]
    have : b.data[i]? = some b.data[i] := Array.getElem?_eq_getElem h
    rw [this]
    unfold byteAt
    have h2 : b.data.toList[i]? = some b.data[i] := by rw [Array.getElem?_toList]; exact this
    rw [List.getD_eq_getElem?_getD, h2]
    simp
  · rw [if_neg (by rw [show b.data.size = b.size from rfl]; omega)]; rfl
theorem runEnd_all {pr : Int → Bool} {b : ByteArray} : ∀ (k i : Nat), ∀ j, i ≤ j → j < runEnd pr b k i → pr (byteAt b j) = true
  | 0, i, j, h1, h2 => by unfold runEnd at h2; omega
  | k + 1, i, j, h1, h2 => by
    unfold runEnd at h2
    cases hp : pr (byteAt b i) with
    | true =>
      rw [hp] at h2
      by_cases h : j = i
      · rw [h]; exact hp
      · exact runEnd_all k (i + 1) j (by omega) h2
    | false => rw [hp] at h2; dsimp only at h2; omega
theorem num_eq {b : ByteArray} {i q : Nat} (hb : b.size ≤ 1024) (hq : q = runEnd digB b (b.size - i) i) (hi : i ≤ b.size) (h4 : q - i ≤ 4) : ∀ (n t : Nat) (v : Int), i + t + n = q →
    numOf (b.extract i q) n t v = numL b i (b.size - (i + t)) (i + t) v
  | 0, t, v, h => by
    have hge := runEnd_ge (pr := digB) (b := b) (b.size - i) i
    rcases runEnd_stop (pr := digB) (b := b) (b.size - i) i (by omega) with h1 | h1
    · rw [show b.size - (i + t) = 0 by omega]; rfl
    · cases hk : b.size - (i + t) with
      | zero => rfl
      | succ k =>
        unfold numL
        rw [← hq, show q = i + t by omega] at h1
        rw [h1]; rfl
  | n + 1, t, v, h => by
    have hge := runEnd_ge (pr := digB) (b := b) (b.size - i) i
    have hd := runEnd_all (pr := digB) (b := b) (b.size - i) i (i + t) (by omega) (by omega)
    rw [show b.size - (i + t) = (b.size - (i + (t + 1))) + 1 by omega]
    unfold numOf numL
    rw [hd, ext_byte (show i + t < q by omega) (by omega)]
    have hw : decide (IntKind.wrap .i64 (((i + t : Nat) : Int) - (i : Int)) < 4) = true := by
      rw [i64_in _ ⟨by omega, by omega⟩]; exact decide_eq_true (by omega)
    rw [hw]
    exact num_eq hb hq hi h4 n (t + 1) _ (by omega)
theorem lexP_stop {b : ByteArray} {k i : Nat} (hi : i ≤ b.size) (h : i = b.size ∨ spaceB (byteAt b i) = false) : runTo spaceB b i = i := by
  unfold runTo
  rw [show ((i : Int)).toNat = i from rfl]
  rcases h with h | h
  · rw [h, Nat.sub_self]; rfl
  · cases hk : b.size - i with
    | zero => rfl
    | succ k => unfold runEnd; rw [h]
theorem lexP_space {b : ByteArray} {k i : Nat} {es : List (List At)} (hi : i < b.size) (h : spaceB (byteAt b i) = true) : lexP b (k + 1) (i : Int) es = lexP b (k + 1) ((i + 1 : Nat) : Int) es := by
  have : runTo spaceB b i = runTo spaceB b ((i + 1 : Nat) : Int) := by
    unfold runTo
    rw [show ((i : Int)).toNat = i from rfl, show (((i + 1 : Nat) : Int)).toNat = i + 1 from rfl, show b.size - i = (b.size - (i + 1)) + 1 by omega]
    conv => lhs; unfold runEnd
    rw [h]
  unfold lexP
  rw [this]
theorem r9 (m : Nat) (b : ByteArray) (i : Int) (es : List (List At)) : vround EL 9 o8 lo9 0 193 L5 1 m (S9 b i) (row9 es) =
tst (decide (i < (↑b.size : Int)))
  (chk (decide (0 ≤ i))
    (chk (decide (i < (↑b.size : Int)))
      (tst (spaceB (byteAt b i.toNat))
        (vloop EL 9 o8 lo9 0 193 L5 1 m
          [(6, Sv.one (At.v (Value.int IntKind.i64 (IntKind.wrap .i64 (i + 1))))), (0, Sv.one (At.v (Value.string b))),
            (5, Sv.one (At.own 0 0))]
          [Box.row 32 0 false true 4 es])
        (tst (smallB (byteAt b i.toNat))
          (chk (okP b i)
            (tst (decide (IntKind.wrap .i64 (runTo innerB b i - i) > 12))
              (some
                (Ex.ret,
                  [(2, Sv.one At.nils), (3, Sv.one (At.v (Value.int IntKind.i64 i))),
                    (4, Sv.one (At.v (Value.int IntKind.i64 9))), (0, Sv.one (At.v (Value.string b))),
                    (5, Sv.one (At.own 0 0))],
                  [Box.row 32 0 false true 4 es]))
              (chk (decide (0 ≤ i))
                (chk (decide (i ≤ runTo innerB b i))
                  (chk (decide (runTo innerB b i ≤ (↑b.size : Int)))
                    (chk
                      (decide
                        ((es.length +
                              [[At.v (Value.int IntKind.i64 1),
                                    At.v (Value.string (b.extract i.toNat (runTo innerB b i).toNat)),
                                    At.v (Value.int IntKind.i64 0), At.v (Value.int IntKind.i64 i)]].length) *
                            40 ≤
                          140737488355328))
                      (vloop EL 9 o8 lo9 0 193 L5 1 m
                        [(6, Sv.one (At.v (Value.int IntKind.i64 (runTo innerB b i)))),
                          (0, Sv.one (At.v (Value.string b))), (5, Sv.one (At.own 0 0))]
                        [Box.row 32 0 false true 4
                            (es ++
                              [[At.v (Value.int IntKind.i64 1),
                                  At.v (Value.string (b.extract i.toNat (runTo innerB b i).toNat)),
                                  At.v (Value.int IntKind.i64 0), At.v (Value.int IntKind.i64 i)]])])))))))
          (tst (decide (byteAt b i.toNat ≥ 65))
            (tst (bif true then decide (byteAt b i.toNat ≤ 90) else false)
              (chk (okP b i)
                (chk (decide (0 ≤ i))
                  (chk (decide (i ≤ runTo capB b i))
                    (chk (decide (runTo capB b i ≤ (↑b.size : Int)))
                      (tst (!parB (b.extract i.toNat (runTo capB b i).toNat))
                        (some
                          (Ex.ret,
                            [(2, Sv.one At.nils), (3, Sv.one (At.v (Value.int IntKind.i64 i))),
                              (4, Sv.one (At.v (Value.int IntKind.i64 8))), (0, Sv.one (At.v (Value.string b))),
                              (5, Sv.one (At.own 0 0))],
                            [Box.row 32 0 false true 4 es]))
                        (chk (decide (0 ≤ i))
                          (chk (decide (i ≤ runTo capB b i))
                            (chk (decide (runTo capB b i ≤ (↑b.size : Int)))
                              (chk
                                (decide
                                  ((es.length +
                                        [[At.v (Value.int IntKind.i64 2),
                                              At.v (Value.string (b.extract i.toNat (runTo capB b i).toNat)),
                                              At.v
                                                (Value.int IntKind.i64
                                                  (parI (b.extract i.toNat (runTo capB b i).toNat))),
                                              At.v (Value.int IntKind.i64 i)]].length) *
                                      40 ≤
                                    140737488355328))
                                (vloop EL 9 o8 lo9 0 193 L5 1 m
                                  [(6, Sv.one (At.v (Value.int IntKind.i64 (runTo capB b i)))),
                                    (0, Sv.one (At.v (Value.string b))), (5, Sv.one (At.own 0 0))]
                                  [Box.row 32 0 false true 4
                                      (es ++
                                        [[At.v (Value.int IntKind.i64 2),
                                            At.v (Value.string (b.extract i.toNat (runTo capB b i).toNat)),
                                            At.v
                                              (Value.int IntKind.i64 (parI (b.extract i.toNat (runTo capB b i).toNat))),
                                            At.v (Value.int IntKind.i64 i)]])]))))))))))
              (tst (decide (byteAt b i.toNat ≥ 48))
                (tst (bif true then decide (byteAt b i.toNat ≤ 57) else false)
                  (chk (okP b i)
                    (tst (decide (IntKind.wrap .i64 (runTo digB b i - i) > 4))
                      (some
                        (Ex.ret,
                          [(2, Sv.one At.nils), (3, Sv.one (At.v (Value.int IntKind.i64 i))),
                            (4, Sv.one (At.v (Value.int IntKind.i64 8))), (0, Sv.one (At.v (Value.string b))),
                            (5, Sv.one (At.own 0 0))],
                          [Box.row 32 0 false true 4 es]))
                      (tst (decide (IntKind.wrap .i64 (runTo digB b i - i) > 1))
                        (tst (bif false then true else bif true then byteAt b i.toNat == 48 else false)
                          (some
                            (Ex.ret,
                              [(2, Sv.one At.nils), (3, Sv.one (At.v (Value.int IntKind.i64 i))),
                                (4, Sv.one (At.v (Value.int IntKind.i64 8))), (0, Sv.one (At.v (Value.string b))),
                                (5, Sv.one (At.own 0 0))],
                              [Box.row 32 0 false true 4 es]))
                          (chk
                            (decide
                              ((es.length +
                                    [[At.v (Value.int IntKind.i64 3), At.v (Value.string { data := { toList := [] } }),
                                          At.v (Value.int IntKind.i64 (numL b i (b.size - i.toNat) i.toNat 0)),
                                          At.v (Value.int IntKind.i64 i)]].length) *
                                  40 ≤
                                140737488355328))
                            (vloop EL 9 o8 lo9 0 193 L5 1 m
                              [(6, Sv.one (At.v (Value.int IntKind.i64 (runTo digB b i)))),
                                (0, Sv.one (At.v (Value.string b))), (5, Sv.one (At.own 0 0))]
                              [Box.row 32 0 false true 4
                                  (es ++
                                    [[At.v (Value.int IntKind.i64 3), At.v (Value.string { data := { toList := [] } }),
                                        At.v (Value.int IntKind.i64 (numL b i (b.size - i.toNat) i.toNat 0)),
                                        At.v (Value.int IntKind.i64 i)]])])))
                        (chk
                          (decide
                            ((es.length +
                                  [[At.v (Value.int IntKind.i64 3), At.v (Value.string { data := { toList := [] } }),
                                        At.v (Value.int IntKind.i64 (numL b i (b.size - i.toNat) i.toNat 0)),
                                        At.v (Value.int IntKind.i64 i)]].length) *
                                40 ≤
                              140737488355328))
                          (vloop EL 9 o8 lo9 0 193 L5 1 m
                            [(6, Sv.one (At.v (Value.int IntKind.i64 (runTo digB b i)))),
                              (0, Sv.one (At.v (Value.string b))), (5, Sv.one (At.own 0 0))]
                            [Box.row 32 0 false true 4
                                (es ++
                                  [[At.v (Value.int IntKind.i64 3), At.v (Value.string { data := { toList := [] } }),
                                      At.v (Value.int IntKind.i64 (numL b i (b.size - i.toNat) i.toNat 0)),
                                      At.v (Value.int IntKind.i64 i)]])])))))
                  (tst (byteAt b i.toNat != 40)
                    (tst (bif true then byteAt b i.toNat != 41 else false)
                      (tst (bif true then byteAt b i.toNat != 44 else false)
                        (tst (bif true then byteAt b i.toNat != 58 else false)
                          (tst (bif true then byteAt b i.toNat != 42 else false)
                            (some
                              (Ex.ret,
                                [(2, Sv.one At.nils), (3, Sv.one (At.v (Value.int IntKind.i64 i))),
                                  (4, Sv.one (At.v (Value.int IntKind.i64 8))), (0, Sv.one (At.v (Value.string b))),
                                  (5, Sv.one (At.own 0 0))],
                                [Box.row 32 0 false true 4 es]))
                            (chk (decide (0 ≤ i))
                              (chk (decide (i ≤ IntKind.wrap .i64 (i + 1)))
                                (chk (decide (IntKind.wrap .i64 (i + 1) ≤ (↑b.size : Int)))
                                  (chk
                                    (decide
                                      ((es.length +
                                            [[At.v (Value.int IntKind.i64 4),
                                                  At.v
                                                    (Value.string (b.extract i.toNat (IntKind.wrap .i64 (i + 1)).toNat)),
                                                  At.v (Value.int IntKind.i64 0),
                                                  At.v (Value.int IntKind.i64 i)]].length) *
                                          40 ≤
                                        140737488355328))
                                    (vloop EL 9 o8 lo9 0 193 L5 1 m
                                      [(6, Sv.one (At.v (Value.int IntKind.i64 (IntKind.wrap .i64 (i + 1))))),
                                        (0, Sv.one (At.v (Value.string b))), (5, Sv.one (At.own 0 0))]
                                      [Box.row 32 0 false true 4
                                          (es ++
                                            [[At.v (Value.int IntKind.i64 4),
                                                At.v
                                                  (Value.string (b.extract i.toNat (IntKind.wrap .i64 (i + 1)).toNat)),
                                                At.v (Value.int IntKind.i64 0), At.v (Value.int IntKind.i64 i)]])]))))))
                          (chk (decide (0 ≤ i))
                            (chk (decide (i ≤ IntKind.wrap .i64 (i + 1)))
                              (chk (decide (IntKind.wrap .i64 (i + 1) ≤ (↑b.size : Int)))
                                (chk
                                  (decide
                                    ((es.length +
                                          [[At.v (Value.int IntKind.i64 4),
                                                At.v
                                                  (Value.string (b.extract i.toNat (IntKind.wrap .i64 (i + 1)).toNat)),
                                                At.v (Value.int IntKind.i64 0),
                                                At.v (Value.int IntKind.i64 i)]].length) *
                                        40 ≤
                                      140737488355328))
                                  (vloop EL 9 o8 lo9 0 193 L5 1 m
                                    [(6, Sv.one (At.v (Value.int IntKind.i64 (IntKind.wrap .i64 (i + 1))))),
                                      (0, Sv.one (At.v (Value.string b))), (5, Sv.one (At.own 0 0))]
                                    [Box.row 32 0 false true 4
                                        (es ++
                                          [[At.v (Value.int IntKind.i64 4),
                                              At.v (Value.string (b.extract i.toNat (IntKind.wrap .i64 (i + 1)).toNat)),
                                              At.v (Value.int IntKind.i64 0), At.v (Value.int IntKind.i64 i)]])]))))))
                        (chk (decide (0 ≤ i))
                          (chk (decide (i ≤ IntKind.wrap .i64 (i + 1)))
                            (chk (decide (IntKind.wrap .i64 (i + 1) ≤ (↑b.size : Int)))
                              (chk
                                (decide
                                  ((es.length +
                                        [[At.v (Value.int IntKind.i64 4),
                                              At.v (Value.string (b.extract i.toNat (IntKind.wrap .i64 (i + 1)).toNat)),
                                              At.v (Value.int IntKind.i64 0), At.v (Value.int IntKind.i64 i)]].length) *
                                      40 ≤
                                    140737488355328))
                                (vloop EL 9 o8 lo9 0 193 L5 1 m
                                  [(6, Sv.one (At.v (Value.int IntKind.i64 (IntKind.wrap .i64 (i + 1))))),
                                    (0, Sv.one (At.v (Value.string b))), (5, Sv.one (At.own 0 0))]
                                  [Box.row 32 0 false true 4
                                      (es ++
                                        [[At.v (Value.int IntKind.i64 4),
                                            At.v (Value.string (b.extract i.toNat (IntKind.wrap .i64 (i + 1)).toNat)),
                                            At.v (Value.int IntKind.i64 0), At.v (Value.int IntKind.i64 i)]])]))))))
                      (chk (decide (0 ≤ i))
                        (chk (decide (i ≤ IntKind.wrap .i64 (i + 1)))
                          (chk (decide (IntKind.wrap .i64 (i + 1) ≤ (↑b.size : Int)))
                            (chk
                              (decide
                                ((es.length +
                                      [[At.v (Value.int IntKind.i64 4),
                                            At.v (Value.string (b.extract i.toNat (IntKind.wrap .i64 (i + 1)).toNat)),
                                            At.v (Value.int IntKind.i64 0), At.v (Value.int IntKind.i64 i)]].length) *
                                    40 ≤
                                  140737488355328))
                              (vloop EL 9 o8 lo9 0 193 L5 1 m
                                [(6, Sv.one (At.v (Value.int IntKind.i64 (IntKind.wrap .i64 (i + 1))))),
                                  (0, Sv.one (At.v (Value.string b))), (5, Sv.one (At.own 0 0))]
                                [Box.row 32 0 false true 4
                                    (es ++
                                      [[At.v (Value.int IntKind.i64 4),
                                          At.v (Value.string (b.extract i.toNat (IntKind.wrap .i64 (i + 1)).toNat)),
                                          At.v (Value.int IntKind.i64 0), At.v (Value.int IntKind.i64 i)]])]))))))
                    (chk (decide (0 ≤ i))
                      (chk (decide (i ≤ IntKind.wrap .i64 (i + 1)))
                        (chk (decide (IntKind.wrap .i64 (i + 1) ≤ (↑b.size : Int)))
                          (chk
                            (decide
                              ((es.length +
                                    [[At.v (Value.int IntKind.i64 4),
                                          At.v (Value.string (b.extract i.toNat (IntKind.wrap .i64 (i + 1)).toNat)),
                                          At.v (Value.int IntKind.i64 0), At.v (Value.int IntKind.i64 i)]].length) *
                                  40 ≤
                                140737488355328))
                            (vloop EL 9 o8 lo9 0 193 L5 1 m
                              [(6, Sv.one (At.v (Value.int IntKind.i64 (IntKind.wrap .i64 (i + 1))))),
                                (0, Sv.one (At.v (Value.string b))), (5, Sv.one (At.own 0 0))]
                              [Box.row 32 0 false true 4
                                  (es ++
                                    [[At.v (Value.int IntKind.i64 4),
                                        At.v (Value.string (b.extract i.toNat (IntKind.wrap .i64 (i + 1)).toNat)),
                                        At.v (Value.int IntKind.i64 0), At.v (Value.int IntKind.i64 i)]])])))))))
                (tst (byteAt b i.toNat != 40)
                  (tst (bif true then byteAt b i.toNat != 41 else false)
                    (tst (bif true then byteAt b i.toNat != 44 else false)
                      (tst (bif true then byteAt b i.toNat != 58 else false)
                        (tst (bif true then byteAt b i.toNat != 42 else false)
                          (some
                            (Ex.ret,
                              [(2, Sv.one At.nils), (3, Sv.one (At.v (Value.int IntKind.i64 i))),
                                (4, Sv.one (At.v (Value.int IntKind.i64 8))), (0, Sv.one (At.v (Value.string b))),
                                (5, Sv.one (At.own 0 0))],
                              [Box.row 32 0 false true 4 es]))
                          (chk (decide (0 ≤ i))
                            (chk (decide (i ≤ IntKind.wrap .i64 (i + 1)))
                              (chk (decide (IntKind.wrap .i64 (i + 1) ≤ (↑b.size : Int)))
                                (chk
                                  (decide
                                    ((es.length +
                                          [[At.v (Value.int IntKind.i64 4),
                                                At.v
                                                  (Value.string (b.extract i.toNat (IntKind.wrap .i64 (i + 1)).toNat)),
                                                At.v (Value.int IntKind.i64 0),
                                                At.v (Value.int IntKind.i64 i)]].length) *
                                        40 ≤
                                      140737488355328))
                                  (vloop EL 9 o8 lo9 0 193 L5 1 m
                                    [(6, Sv.one (At.v (Value.int IntKind.i64 (IntKind.wrap .i64 (i + 1))))),
                                      (0, Sv.one (At.v (Value.string b))), (5, Sv.one (At.own 0 0))]
                                    [Box.row 32 0 false true 4
                                        (es ++
                                          [[At.v (Value.int IntKind.i64 4),
                                              At.v (Value.string (b.extract i.toNat (IntKind.wrap .i64 (i + 1)).toNat)),
                                              At.v (Value.int IntKind.i64 0), At.v (Value.int IntKind.i64 i)]])]))))))
                        (chk (decide (0 ≤ i))
                          (chk (decide (i ≤ IntKind.wrap .i64 (i + 1)))
                            (chk (decide (IntKind.wrap .i64 (i + 1) ≤ (↑b.size : Int)))
                              (chk
                                (decide
                                  ((es.length +
                                        [[At.v (Value.int IntKind.i64 4),
                                              At.v (Value.string (b.extract i.toNat (IntKind.wrap .i64 (i + 1)).toNat)),
                                              At.v (Value.int IntKind.i64 0), At.v (Value.int IntKind.i64 i)]].length) *
                                      40 ≤
                                    140737488355328))
                                (vloop EL 9 o8 lo9 0 193 L5 1 m
                                  [(6, Sv.one (At.v (Value.int IntKind.i64 (IntKind.wrap .i64 (i + 1))))),
                                    (0, Sv.one (At.v (Value.string b))), (5, Sv.one (At.own 0 0))]
                                  [Box.row 32 0 false true 4
                                      (es ++
                                        [[At.v (Value.int IntKind.i64 4),
                                            At.v (Value.string (b.extract i.toNat (IntKind.wrap .i64 (i + 1)).toNat)),
                                            At.v (Value.int IntKind.i64 0), At.v (Value.int IntKind.i64 i)]])]))))))
                      (chk (decide (0 ≤ i))
                        (chk (decide (i ≤ IntKind.wrap .i64 (i + 1)))
                          (chk (decide (IntKind.wrap .i64 (i + 1) ≤ (↑b.size : Int)))
                            (chk
                              (decide
                                ((es.length +
                                      [[At.v (Value.int IntKind.i64 4),
                                            At.v (Value.string (b.extract i.toNat (IntKind.wrap .i64 (i + 1)).toNat)),
                                            At.v (Value.int IntKind.i64 0), At.v (Value.int IntKind.i64 i)]].length) *
                                    40 ≤
                                  140737488355328))
                              (vloop EL 9 o8 lo9 0 193 L5 1 m
                                [(6, Sv.one (At.v (Value.int IntKind.i64 (IntKind.wrap .i64 (i + 1))))),
                                  (0, Sv.one (At.v (Value.string b))), (5, Sv.one (At.own 0 0))]
                                [Box.row 32 0 false true 4
                                    (es ++
                                      [[At.v (Value.int IntKind.i64 4),
                                          At.v (Value.string (b.extract i.toNat (IntKind.wrap .i64 (i + 1)).toNat)),
                                          At.v (Value.int IntKind.i64 0), At.v (Value.int IntKind.i64 i)]])]))))))
                    (chk (decide (0 ≤ i))
                      (chk (decide (i ≤ IntKind.wrap .i64 (i + 1)))
                        (chk (decide (IntKind.wrap .i64 (i + 1) ≤ (↑b.size : Int)))
                          (chk
                            (decide
                              ((es.length +
                                    [[At.v (Value.int IntKind.i64 4),
                                          At.v (Value.string (b.extract i.toNat (IntKind.wrap .i64 (i + 1)).toNat)),
                                          At.v (Value.int IntKind.i64 0), At.v (Value.int IntKind.i64 i)]].length) *
                                  40 ≤
                                140737488355328))
                            (vloop EL 9 o8 lo9 0 193 L5 1 m
                              [(6, Sv.one (At.v (Value.int IntKind.i64 (IntKind.wrap .i64 (i + 1))))),
                                (0, Sv.one (At.v (Value.string b))), (5, Sv.one (At.own 0 0))]
                              [Box.row 32 0 false true 4
                                  (es ++
                                    [[At.v (Value.int IntKind.i64 4),
                                        At.v (Value.string (b.extract i.toNat (IntKind.wrap .i64 (i + 1)).toNat)),
                                        At.v (Value.int IntKind.i64 0), At.v (Value.int IntKind.i64 i)]])]))))))
                  (chk (decide (0 ≤ i))
                    (chk (decide (i ≤ IntKind.wrap .i64 (i + 1)))
                      (chk (decide (IntKind.wrap .i64 (i + 1) ≤ (↑b.size : Int)))
                        (chk
                          (decide
                            ((es.length +
                                  [[At.v (Value.int IntKind.i64 4),
                                        At.v (Value.string (b.extract i.toNat (IntKind.wrap .i64 (i + 1)).toNat)),
                                        At.v (Value.int IntKind.i64 0), At.v (Value.int IntKind.i64 i)]].length) *
                                40 ≤
                              140737488355328))
                          (vloop EL 9 o8 lo9 0 193 L5 1 m
                            [(6, Sv.one (At.v (Value.int IntKind.i64 (IntKind.wrap .i64 (i + 1))))),
                              (0, Sv.one (At.v (Value.string b))), (5, Sv.one (At.own 0 0))]
                            [Box.row 32 0 false true 4
                                (es ++
                                  [[At.v (Value.int IntKind.i64 4),
                                      At.v (Value.string (b.extract i.toNat (IntKind.wrap .i64 (i + 1)).toNat)),
                                      At.v (Value.int IntKind.i64 0), At.v (Value.int IntKind.i64 i)]])]))))))))
            (tst (decide (byteAt b i.toNat ≥ 48))
              (tst (bif true then decide (byteAt b i.toNat ≤ 57) else false)
                (chk (okP b i)
                  (tst (decide (IntKind.wrap .i64 (runTo digB b i - i) > 4))
                    (some
                      (Ex.ret,
                        [(2, Sv.one At.nils), (3, Sv.one (At.v (Value.int IntKind.i64 i))),
                          (4, Sv.one (At.v (Value.int IntKind.i64 8))), (0, Sv.one (At.v (Value.string b))),
                          (5, Sv.one (At.own 0 0))],
                        [Box.row 32 0 false true 4 es]))
                    (tst (decide (IntKind.wrap .i64 (runTo digB b i - i) > 1))
                      (tst (bif false then true else bif true then byteAt b i.toNat == 48 else false)
                        (some
                          (Ex.ret,
                            [(2, Sv.one At.nils), (3, Sv.one (At.v (Value.int IntKind.i64 i))),
                              (4, Sv.one (At.v (Value.int IntKind.i64 8))), (0, Sv.one (At.v (Value.string b))),
                              (5, Sv.one (At.own 0 0))],
                            [Box.row 32 0 false true 4 es]))
                        (chk
                          (decide
                            ((es.length +
                                  [[At.v (Value.int IntKind.i64 3), At.v (Value.string { data := { toList := [] } }),
                                        At.v (Value.int IntKind.i64 (numL b i (b.size - i.toNat) i.toNat 0)),
                                        At.v (Value.int IntKind.i64 i)]].length) *
                                40 ≤
                              140737488355328))
                          (vloop EL 9 o8 lo9 0 193 L5 1 m
                            [(6, Sv.one (At.v (Value.int IntKind.i64 (runTo digB b i)))),
                              (0, Sv.one (At.v (Value.string b))), (5, Sv.one (At.own 0 0))]
                            [Box.row 32 0 false true 4
                                (es ++
                                  [[At.v (Value.int IntKind.i64 3), At.v (Value.string { data := { toList := [] } }),
                                      At.v (Value.int IntKind.i64 (numL b i (b.size - i.toNat) i.toNat 0)),
                                      At.v (Value.int IntKind.i64 i)]])])))
                      (chk
                        (decide
                          ((es.length +
                                [[At.v (Value.int IntKind.i64 3), At.v (Value.string { data := { toList := [] } }),
                                      At.v (Value.int IntKind.i64 (numL b i (b.size - i.toNat) i.toNat 0)),
                                      At.v (Value.int IntKind.i64 i)]].length) *
                              40 ≤
                            140737488355328))
                        (vloop EL 9 o8 lo9 0 193 L5 1 m
                          [(6, Sv.one (At.v (Value.int IntKind.i64 (runTo digB b i)))),
                            (0, Sv.one (At.v (Value.string b))), (5, Sv.one (At.own 0 0))]
                          [Box.row 32 0 false true 4
                              (es ++
                                [[At.v (Value.int IntKind.i64 3), At.v (Value.string { data := { toList := [] } }),
                                    At.v (Value.int IntKind.i64 (numL b i (b.size - i.toNat) i.toNat 0)),
                                    At.v (Value.int IntKind.i64 i)]])])))))
                (tst (byteAt b i.toNat != 40)
                  (tst (bif true then byteAt b i.toNat != 41 else false)
                    (tst (bif true then byteAt b i.toNat != 44 else false)
                      (tst (bif true then byteAt b i.toNat != 58 else false)
                        (tst (bif true then byteAt b i.toNat != 42 else false)
                          (some
                            (Ex.ret,
                              [(2, Sv.one At.nils), (3, Sv.one (At.v (Value.int IntKind.i64 i))),
                                (4, Sv.one (At.v (Value.int IntKind.i64 8))), (0, Sv.one (At.v (Value.string b))),
                                (5, Sv.one (At.own 0 0))],
                              [Box.row 32 0 false true 4 es]))
                          (chk (decide (0 ≤ i))
                            (chk (decide (i ≤ IntKind.wrap .i64 (i + 1)))
                              (chk (decide (IntKind.wrap .i64 (i + 1) ≤ (↑b.size : Int)))
                                (chk
                                  (decide
                                    ((es.length +
                                          [[At.v (Value.int IntKind.i64 4),
                                                At.v
                                                  (Value.string (b.extract i.toNat (IntKind.wrap .i64 (i + 1)).toNat)),
                                                At.v (Value.int IntKind.i64 0),
                                                At.v (Value.int IntKind.i64 i)]].length) *
                                        40 ≤
                                      140737488355328))
                                  (vloop EL 9 o8 lo9 0 193 L5 1 m
                                    [(6, Sv.one (At.v (Value.int IntKind.i64 (IntKind.wrap .i64 (i + 1))))),
                                      (0, Sv.one (At.v (Value.string b))), (5, Sv.one (At.own 0 0))]
                                    [Box.row 32 0 false true 4
                                        (es ++
                                          [[At.v (Value.int IntKind.i64 4),
                                              At.v (Value.string (b.extract i.toNat (IntKind.wrap .i64 (i + 1)).toNat)),
                                              At.v (Value.int IntKind.i64 0), At.v (Value.int IntKind.i64 i)]])]))))))
                        (chk (decide (0 ≤ i))
                          (chk (decide (i ≤ IntKind.wrap .i64 (i + 1)))
                            (chk (decide (IntKind.wrap .i64 (i + 1) ≤ (↑b.size : Int)))
                              (chk
                                (decide
                                  ((es.length +
                                        [[At.v (Value.int IntKind.i64 4),
                                              At.v (Value.string (b.extract i.toNat (IntKind.wrap .i64 (i + 1)).toNat)),
                                              At.v (Value.int IntKind.i64 0), At.v (Value.int IntKind.i64 i)]].length) *
                                      40 ≤
                                    140737488355328))
                                (vloop EL 9 o8 lo9 0 193 L5 1 m
                                  [(6, Sv.one (At.v (Value.int IntKind.i64 (IntKind.wrap .i64 (i + 1))))),
                                    (0, Sv.one (At.v (Value.string b))), (5, Sv.one (At.own 0 0))]
                                  [Box.row 32 0 false true 4
                                      (es ++
                                        [[At.v (Value.int IntKind.i64 4),
                                            At.v (Value.string (b.extract i.toNat (IntKind.wrap .i64 (i + 1)).toNat)),
                                            At.v (Value.int IntKind.i64 0), At.v (Value.int IntKind.i64 i)]])]))))))
                      (chk (decide (0 ≤ i))
                        (chk (decide (i ≤ IntKind.wrap .i64 (i + 1)))
                          (chk (decide (IntKind.wrap .i64 (i + 1) ≤ (↑b.size : Int)))
                            (chk
                              (decide
                                ((es.length +
                                      [[At.v (Value.int IntKind.i64 4),
                                            At.v (Value.string (b.extract i.toNat (IntKind.wrap .i64 (i + 1)).toNat)),
                                            At.v (Value.int IntKind.i64 0), At.v (Value.int IntKind.i64 i)]].length) *
                                    40 ≤
                                  140737488355328))
                              (vloop EL 9 o8 lo9 0 193 L5 1 m
                                [(6, Sv.one (At.v (Value.int IntKind.i64 (IntKind.wrap .i64 (i + 1))))),
                                  (0, Sv.one (At.v (Value.string b))), (5, Sv.one (At.own 0 0))]
                                [Box.row 32 0 false true 4
                                    (es ++
                                      [[At.v (Value.int IntKind.i64 4),
                                          At.v (Value.string (b.extract i.toNat (IntKind.wrap .i64 (i + 1)).toNat)),
                                          At.v (Value.int IntKind.i64 0), At.v (Value.int IntKind.i64 i)]])]))))))
                    (chk (decide (0 ≤ i))
                      (chk (decide (i ≤ IntKind.wrap .i64 (i + 1)))
                        (chk (decide (IntKind.wrap .i64 (i + 1) ≤ (↑b.size : Int)))
                          (chk
                            (decide
                              ((es.length +
                                    [[At.v (Value.int IntKind.i64 4),
                                          At.v (Value.string (b.extract i.toNat (IntKind.wrap .i64 (i + 1)).toNat)),
                                          At.v (Value.int IntKind.i64 0), At.v (Value.int IntKind.i64 i)]].length) *
                                  40 ≤
                                140737488355328))
                            (vloop EL 9 o8 lo9 0 193 L5 1 m
                              [(6, Sv.one (At.v (Value.int IntKind.i64 (IntKind.wrap .i64 (i + 1))))),
                                (0, Sv.one (At.v (Value.string b))), (5, Sv.one (At.own 0 0))]
                              [Box.row 32 0 false true 4
                                  (es ++
                                    [[At.v (Value.int IntKind.i64 4),
                                        At.v (Value.string (b.extract i.toNat (IntKind.wrap .i64 (i + 1)).toNat)),
                                        At.v (Value.int IntKind.i64 0), At.v (Value.int IntKind.i64 i)]])]))))))
                  (chk (decide (0 ≤ i))
                    (chk (decide (i ≤ IntKind.wrap .i64 (i + 1)))
                      (chk (decide (IntKind.wrap .i64 (i + 1) ≤ (↑b.size : Int)))
                        (chk
                          (decide
                            ((es.length +
                                  [[At.v (Value.int IntKind.i64 4),
                                        At.v (Value.string (b.extract i.toNat (IntKind.wrap .i64 (i + 1)).toNat)),
                                        At.v (Value.int IntKind.i64 0), At.v (Value.int IntKind.i64 i)]].length) *
                                40 ≤
                              140737488355328))
                          (vloop EL 9 o8 lo9 0 193 L5 1 m
                            [(6, Sv.one (At.v (Value.int IntKind.i64 (IntKind.wrap .i64 (i + 1))))),
                              (0, Sv.one (At.v (Value.string b))), (5, Sv.one (At.own 0 0))]
                            [Box.row 32 0 false true 4
                                (es ++
                                  [[At.v (Value.int IntKind.i64 4),
                                      At.v (Value.string (b.extract i.toNat (IntKind.wrap .i64 (i + 1)).toNat)),
                                      At.v (Value.int IntKind.i64 0), At.v (Value.int IntKind.i64 i)]])])))))))
              (tst (byteAt b i.toNat != 40)
                (tst (bif true then byteAt b i.toNat != 41 else false)
                  (tst (bif true then byteAt b i.toNat != 44 else false)
                    (tst (bif true then byteAt b i.toNat != 58 else false)
                      (tst (bif true then byteAt b i.toNat != 42 else false)
                        (some
                          (Ex.ret,
                            [(2, Sv.one At.nils), (3, Sv.one (At.v (Value.int IntKind.i64 i))),
                              (4, Sv.one (At.v (Value.int IntKind.i64 8))), (0, Sv.one (At.v (Value.string b))),
                              (5, Sv.one (At.own 0 0))],
                            [Box.row 32 0 false true 4 es]))
                        (chk (decide (0 ≤ i))
                          (chk (decide (i ≤ IntKind.wrap .i64 (i + 1)))
                            (chk (decide (IntKind.wrap .i64 (i + 1) ≤ (↑b.size : Int)))
                              (chk
                                (decide
                                  ((es.length +
                                        [[At.v (Value.int IntKind.i64 4),
                                              At.v (Value.string (b.extract i.toNat (IntKind.wrap .i64 (i + 1)).toNat)),
                                              At.v (Value.int IntKind.i64 0), At.v (Value.int IntKind.i64 i)]].length) *
                                      40 ≤
                                    140737488355328))
                                (vloop EL 9 o8 lo9 0 193 L5 1 m
                                  [(6, Sv.one (At.v (Value.int IntKind.i64 (IntKind.wrap .i64 (i + 1))))),
                                    (0, Sv.one (At.v (Value.string b))), (5, Sv.one (At.own 0 0))]
                                  [Box.row 32 0 false true 4
                                      (es ++
                                        [[At.v (Value.int IntKind.i64 4),
                                            At.v (Value.string (b.extract i.toNat (IntKind.wrap .i64 (i + 1)).toNat)),
                                            At.v (Value.int IntKind.i64 0), At.v (Value.int IntKind.i64 i)]])]))))))
                      (chk (decide (0 ≤ i))
                        (chk (decide (i ≤ IntKind.wrap .i64 (i + 1)))
                          (chk (decide (IntKind.wrap .i64 (i + 1) ≤ (↑b.size : Int)))
                            (chk
                              (decide
                                ((es.length +
                                      [[At.v (Value.int IntKind.i64 4),
                                            At.v (Value.string (b.extract i.toNat (IntKind.wrap .i64 (i + 1)).toNat)),
                                            At.v (Value.int IntKind.i64 0), At.v (Value.int IntKind.i64 i)]].length) *
                                    40 ≤
                                  140737488355328))
                              (vloop EL 9 o8 lo9 0 193 L5 1 m
                                [(6, Sv.one (At.v (Value.int IntKind.i64 (IntKind.wrap .i64 (i + 1))))),
                                  (0, Sv.one (At.v (Value.string b))), (5, Sv.one (At.own 0 0))]
                                [Box.row 32 0 false true 4
                                    (es ++
                                      [[At.v (Value.int IntKind.i64 4),
                                          At.v (Value.string (b.extract i.toNat (IntKind.wrap .i64 (i + 1)).toNat)),
                                          At.v (Value.int IntKind.i64 0), At.v (Value.int IntKind.i64 i)]])]))))))
                    (chk (decide (0 ≤ i))
                      (chk (decide (i ≤ IntKind.wrap .i64 (i + 1)))
                        (chk (decide (IntKind.wrap .i64 (i + 1) ≤ (↑b.size : Int)))
                          (chk
                            (decide
                              ((es.length +
                                    [[At.v (Value.int IntKind.i64 4),
                                          At.v (Value.string (b.extract i.toNat (IntKind.wrap .i64 (i + 1)).toNat)),
                                          At.v (Value.int IntKind.i64 0), At.v (Value.int IntKind.i64 i)]].length) *
                                  40 ≤
                                140737488355328))
                            (vloop EL 9 o8 lo9 0 193 L5 1 m
                              [(6, Sv.one (At.v (Value.int IntKind.i64 (IntKind.wrap .i64 (i + 1))))),
                                (0, Sv.one (At.v (Value.string b))), (5, Sv.one (At.own 0 0))]
                              [Box.row 32 0 false true 4
                                  (es ++
                                    [[At.v (Value.int IntKind.i64 4),
                                        At.v (Value.string (b.extract i.toNat (IntKind.wrap .i64 (i + 1)).toNat)),
                                        At.v (Value.int IntKind.i64 0), At.v (Value.int IntKind.i64 i)]])]))))))
                  (chk (decide (0 ≤ i))
                    (chk (decide (i ≤ IntKind.wrap .i64 (i + 1)))
                      (chk (decide (IntKind.wrap .i64 (i + 1) ≤ (↑b.size : Int)))
                        (chk
                          (decide
                            ((es.length +
                                  [[At.v (Value.int IntKind.i64 4),
                                        At.v (Value.string (b.extract i.toNat (IntKind.wrap .i64 (i + 1)).toNat)),
                                        At.v (Value.int IntKind.i64 0), At.v (Value.int IntKind.i64 i)]].length) *
                                40 ≤
                              140737488355328))
                          (vloop EL 9 o8 lo9 0 193 L5 1 m
                            [(6, Sv.one (At.v (Value.int IntKind.i64 (IntKind.wrap .i64 (i + 1))))),
                              (0, Sv.one (At.v (Value.string b))), (5, Sv.one (At.own 0 0))]
                            [Box.row 32 0 false true 4
                                (es ++
                                  [[At.v (Value.int IntKind.i64 4),
                                      At.v (Value.string (b.extract i.toNat (IntKind.wrap .i64 (i + 1)).toNat)),
                                      At.v (Value.int IntKind.i64 0), At.v (Value.int IntKind.i64 i)]])]))))))
                (chk (decide (0 ≤ i))
                  (chk (decide (i ≤ IntKind.wrap .i64 (i + 1)))
                    (chk (decide (IntKind.wrap .i64 (i + 1) ≤ (↑b.size : Int)))
                      (chk
                        (decide
                          ((es.length +
                                [[At.v (Value.int IntKind.i64 4),
                                      At.v (Value.string (b.extract i.toNat (IntKind.wrap .i64 (i + 1)).toNat)),
                                      At.v (Value.int IntKind.i64 0), At.v (Value.int IntKind.i64 i)]].length) *
                              40 ≤
                            140737488355328))
                        (vloop EL 9 o8 lo9 0 193 L5 1 m
                          [(6, Sv.one (At.v (Value.int IntKind.i64 (IntKind.wrap .i64 (i + 1))))),
                            (0, Sv.one (At.v (Value.string b))), (5, Sv.one (At.own 0 0))]
                          [Box.row 32 0 false true 4
                              (es ++
                                [[At.v (Value.int IntKind.i64 4),
                                    At.v (Value.string (b.extract i.toNat (IntKind.wrap .i64 (i + 1)).toNat)),
                                    At.v (Value.int IntKind.i64 0), At.v (Value.int IntKind.i64 i)]])]))))))))))))
  (some
    (Ex.exit 0,
      [(2, Sv.one At.bad), (3, Sv.one At.bad), (4, Sv.one At.bad), (0, Sv.one (At.v (Value.string b))),
        (5, Sv.one (At.own 0 0))],
      [Box.row 32 0 false true 4 es])) := by kernel_rfl
theorem l9 (b : ByteArray) (hb : b.size ≤ 1024) : ∀ (d i m k : Nat) (es : List (List At)), b.size - i < d → i ≤ b.size → es.length ≤ i → b.size - i < k → d ≤ m →
    vloop EL 9 o8 lo9 0 193 L5 1 m (S9 b i) (row9 es) = (fin9 b (lexP b k i es)).eval
  | 0, i, m, k, es, hd, _, _, _, _ => by omega
  | d + 1, i, 0, k, es, hd, _, _, _, hm => by omega
  | d + 1, i, m + 1, 0, es, hd, _, _, hk, hm => by omega
  | d + 1, i, m + 1, k + 1, es, hd, hi, he, hk, hm => by
    rw [vloop_succ, r9]
    by_cases hlt : i < b.size
    · have k0 : decide ((i : Int) < (b.size : Int)) = true := decide_eq_true (by omega)
      have k1 : decide (0 ≤ (i : Int)) = true := decide_eq_true (by omega)
      rw [k0, k1]
      simp only [tt, ct]
      rw [show ((i : Int)).toNat = i from rfl, wrap1 hb hlt, okP_mk hi hb]
      simp only [ct]
      cases hsp : spaceB (byteAt b i) with
      | true =>
        rw [tt, lexP_space hlt hsp]
        exact l9 b hb d (i + 1) m (k + 1) es (by omega) (by omega) (by omega) (by omega) (by omega)
      | false =>
        rw [tf]
        have k2 : ∀ x : List At, decide ((es.length + [x].length) * 40 ≤ 140737488355328) = true := fun x => decide_eq_true (by simp only [List.length_singleton]; omega)
        simp only [k2, ct]
        unfold lexP
        have hrun : runTo spaceB b i = i := lexP_stop (k := 0) hi (.inr hsp)
        have hne : ((i : Int) == (b.size : Int)) = false := by simp; omega
        rw [hrun, hne]
        dsimp only
        obtain ⟨q, hq, hq1, hq2⟩ := nxQ_gt hlt
        have hbyp : byP b i = byteAt b i := rfl
        -- what goes on behind a token
        have go : (nxE b i == 0) = true → ∀ x, x = tokP b i → vloop EL 9 o8 lo9 0 193 L5 1 m (S9 b q) (row9 (es ++ [x])) = (fin9 b (lexP b k (nxQ b i) (es ++ [tokP b i]))).eval := by
          intro hE x hx
          have := hq2 hE
          rw [hx, hq]
          exact l9 b hb d q m k (es ++ [tokP b i]) (by omega) hq1 (by rw [List.length_append, List.length_singleton]; omega) (by omega) (by omega)
        have stop : ∀ e : Int, nxE b i = e → (e == 0) = false → some (Ex.ret, [(2, Sv.one At.nils), (3, Sv.one (At.v (Value.int IntKind.i64 i))), (4, Sv.one (At.v (Value.int IntKind.i64 e))), (0, Sv.one (At.v (Value.string b))), (5, Sv.one (At.own 0 0))], [Box.row 32 0 false true 4 es]) =
            (fin9 b (match nxE b i == 0 with | true => lexP b k (nxQ b i) (es ++ [tokP b i]) | false => (es, (i : Int), nxE b i))).eval := by
          intro e h1 h2
          rw [h1, h2]
          dsimp only
          unfold fin9
          dsimp only
          rw [h2]; rfl
        cases e1 : smallB (byteAt b i) with
        | true =>
          have hQ : runTo innerB b i = q := by unfold nxQ at hq; rw [hbyp, e1] at hq; exact hq
          have hge := runTo_ge innerB b i hi
          rw [hQ] at hge
          have hsz : (seg b i).size = q - i := by unfold seg; rw [hq]; exact ext_len (by omega) (by omega)
          rw [tt, hQ, i64_in ((q : Int) - (i : Int)) ⟨by omega, by omega⟩]
          have hc : decide ((q : Int) - (i : Int) > 12) = decide (((seg b i).size : Int) > 12) := by rw [hsz]; congr 1; apply propext; omega
          have hE : nxE b i = bif decide (((seg b i).size : Int) > 12) then 9 else 0 := by unfold nxE; rw [hbyp, e1]; rfl
          rw [hc]
          cases h12 : decide (((seg b i).size : Int) > 12) with
          | true => rw [tt]; rw [h12] at hE; exact stop 9 hE rfl
          | false =>
            rw [h12] at hE
            have hE' : (nxE b i == 0) = true := by rw [hE]; rfl
            rw [tf, decide_eq_true (show (i : Int) ≤ (q : Int) by omega), decide_eq_true (show (q : Int) ≤ (b.size : Int) by omega), ct, ct, hE']
            refine go hE' _ ?_
            unfold tokP kindC nxT nxN
            rw [hbyp, e1]
            unfold seg
            rw [hq]; rfl
        | false =>
          rw [tf]
          cases e2 : capB (byteAt b i) with
          | true =>
            have e2' := e2
            unfold capB at e2'
            rw [Bool.and_eq_true] at e2'
            have hQ : runTo capB b i = q := by unfold nxQ at hq; rw [hbyp, e1, e2] at hq; exact hq
            have hge := runTo_ge capB b i hi
            rw [hQ] at hge
            rw [e2'.1, e2'.2]
            simp only [tt, cond_true, ct]
            rw [hQ, decide_eq_true (show (i : Int) ≤ (q : Int) by omega), decide_eq_true (show (q : Int) ≤ (b.size : Int) by omega)]
            simp only [ct]
            have hseg : seg b i = b.extract i q := by unfold seg; rw [hq]; rfl
            have hE : nxE b i = bif parB (seg b i) then 0 else 8 := by unfold nxE; rw [hbyp, e1, e2]; rfl
            rw [show ((q : Int)).toNat = q from rfl, ← hseg]
            cases hp : parB (seg b i) with
            | false => rw [hp] at hE; rw [tst_t (show (!false) = true from rfl)]; exact stop 8 hE rfl
            | true =>
              rw [hp] at hE
              have hE' : (nxE b i == 0) = true := by rw [hE]; rfl
              rw [tst_f (show (!true) = false from rfl), hE']
              refine go hE' _ ?_
              unfold tokP kindC nxT nxN
              rw [hbyp, e1, e2]; rfl
          | false =>
            cases e3 : digB (byteAt b i) with
            | true =>
              have e3' := e3
              unfold digB at e3'
              rw [Bool.and_eq_true] at e3'
              have h65 : decide (byteAt b i ≥ 65) = false := decide_eq_false (by have := of_decide_eq_true e3'.2; omega)
              have hQ : runTo digB b i = q := by unfold nxQ at hq; rw [hbyp, e1, e2, e3] at hq; exact hq
              have hge := runTo_ge digB b i hi
              rw [hQ] at hge
              rw [h65, e3'.1, e3'.2]
              simp only [tt, tf, cond_true, ct]
              rw [hQ, i64_in ((q : Int) - (i : Int)) ⟨by omega, by omega⟩]
              have hseg : seg b i = b.extract i q := by unfold seg; rw [hq]; rfl
              have hsz : (seg b i).size = q - i := by rw [hseg]; exact ext_len (by omega) (by omega)
              have hE : nxE b i = bif numB (seg b i) then 0 else 8 := by unfold nxE; rw [hbyp, e1, e2, e3]; rfl
              have hiq : i < q := by
                have : runEnd digB b (b.size - i) i = q := by
                  have h := hQ
                  unfold runTo at h
                  rw [show ((i : Int)).toNat = i from rfl] at h
                  omega
                rw [show b.size - i = (b.size - (i + 1)) + 1 by omega] at this
                unfold runEnd at this
                rw [e3] at this
                have h2 := runEnd_ge (pr := digB) (b := b) (b.size - (i + 1)) (i + 1)
                dsimp only at this
                omega
              have hb0 : byteAt (seg b i) 0 = byteAt b i := by rw [hseg, ext_byte (by omega) (by omega), Nat.add_zero]
              have hN : numB (seg b i) = !(decide ((q : Int) - (i : Int) > 4) || (decide ((q : Int) - (i : Int) > 1) && byteAt b i == 48)) := by
                unfold numB
                rw [hb0, hsz, show (((q - i : Nat)) : Int) = (q : Int) - (i : Int) by omega]
              cases h4 : decide ((q : Int) - (i : Int) > 4) with
              | true =>
                rw [h4] at hN
                rw [hN] at hE
                rw [tt]; exact stop 8 hE rfl
              | false =>
                rw [h4] at hN
                rw [tf]
                have hq' : q = runEnd digB b (b.size - i) i := by
                  have h := hQ
                  unfold runTo at h
                  rw [show ((i : Int)).toNat = i from rfl] at h
                  omega
                have hval : numB (seg b i) = true → numL b i (b.size - i) i 0 = numI (seg b i) := by
                  intro h
                  unfold numI
                  rw [h, hsz, hseg]
                  have := num_eq hb hq' hi (by have := of_decide_eq_false h4; omega) (q - i) 0 0 (by omega)
                  rw [Nat.add_zero] at this
                  exact this.symm
                cases h1 : decide ((q : Int) - (i : Int) > 1) with
                | true =>
                  rw [h1] at hN
                  rw [tt]
                  cases h0 : (byteAt b i == 48) with
                  | true =>
                    rw [h0] at hN
                    rw [hN] at hE
                    exact stop 8 hE rfl
                  | false =>
                    rw [h0] at hN
                    rw [hN] at hE
                    have hE' : (nxE b i == 0) = true := by rw [hE]; rfl
                    rw [hE', tst_f (show (bif false then true else false) = false from rfl), hval hN]
                    refine go hE' _ ?_
                    unfold tokP kindC nxT nxN
                    rw [hbyp, e1, e2, e3]; rfl
                | false =>
                  rw [h1] at hN
                  rw [hN] at hE
                  have hE' : (nxE b i == 0) = true := by rw [hE]; rfl
                  rw [tf, hE', hval hN]
                  refine go hE' _ ?_
                  unfold tokP kindC nxT nxN
                  rw [hbyp, e1, e2, e3]; rfl
            | false =>
              cases e4 : punB (byteAt b i) with
              | true =>
                have hQ : nxQ b i = (i : Int) + 1 := by unfold nxQ; rw [hbyp, e1, e2, e3, e4]; rfl
                have hqi : q = i + 1 := by rw [hQ] at hq; omega
                have hE' : (nxE b i == 0) = true := by unfold nxE; rw [hbyp, e1, e2, e3, e4]; rfl
                rw [hE']
                have hgo := go hE' (tk 4 (b.extract i (i + 1)) 0 i) (by
                  unfold tokP kindC nxT nxN
                  rw [hbyp, e1, e2, e3, e4, ext_one hlt]; rfl)
                rw [hqi] at hgo
                rw [decide_eq_true (show (i : Int) ≤ ((i + 1 : Nat) : Int) by omega), decide_eq_true (show ((i + 1 : Nat) : Int) ≤ (b.size : Int) by omega)]
                have fin : ∀ c : Int, byteAt b i = c → (c = 40 ∨ c = 41 ∨ c = 44 ∨ c = 58 ∨ c = 42) → _ := fun c hc h => hgo
                unfold punB at e4
                simp only [Bool.or_eq_true, beq_iff_eq] at e4
                rcases e4 with (((e4 | e4) | e4) | e4) | e4 <;> rw [e4] <;> exact hgo
              | false =>
                have hE : nxE b i = 8 := by unfold nxE; rw [hbyp, e1, e2, e3, e4]; rfl
                have fin := stop 8 hE rfl
                unfold punB at e4
                simp only [Bool.or_eq_false_iff, beq_eq_false_iff_ne] at e4
                obtain ⟨⟨⟨⟨n1, n2⟩, n3⟩, n4⟩, n5⟩ := e4
                have m1 : (byteAt b i != 40) = true := by simpa using n1
                have m2 : (byteAt b i != 41) = true := by simpa using n2
                have m3 : (byteAt b i != 44) = true := by simpa using n3
                have m4 : (byteAt b i != 58) = true := by simpa using n4
                have m5 : (byteAt b i != 42) = true := by simpa using n5
                rw [m1, m2, m3, m4, m5]
                unfold capB at e2
                unfold digB at e3
                cases a1 : decide (byteAt b i ≥ 65) with
                | true =>
                  rw [a1, Bool.true_and] at e2
                  rw [e2]
                  cases a2 : decide (byteAt b i ≥ 48) with
                  | true => rw [a2, Bool.true_and] at e3; rw [e3]; exact fin
                  | false => exact fin
                | false =>
                  cases a2 : decide (byteAt b i ≥ 48) with
                  | true => rw [a2, Bool.true_and] at e3; rw [e3]; exact fin
                  | false => exact fin
    · have hib : i = b.size := by omega
      rw [tst_f (decide_eq_false (by omega))]
      unfold lexP
      rw [lexP_stop (k := 0) hi (.inl hib), hib]
      rw [show (((b.size : Nat) : Int) == (b.size : Int)) = true from beq_self_eq_true _]
      rfl
end Go.Proofs.Ytfbdceccefmloaa
