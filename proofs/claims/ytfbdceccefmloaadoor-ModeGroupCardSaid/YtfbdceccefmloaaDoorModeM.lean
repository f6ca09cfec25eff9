import Derived.Test.YtfbdceccefmloaaDoorModeH
namespace Go.Proofs.YtfbdceccefmloaaDoor
open Go Go.Vi Go.IntWalk
set_option maxRecDepth 100000
set_option linter.unusedVariables false
set_option linter.unusedSimpArgs false
abbrev maxI : Nat := 9223372036854775807
/-- The reference's group: the mode up to the first number that is none. -/
def glast : List Int → Bool → Int → Int
  | [], _, g => g
  | v :: r, f, g => match validB v with
    | false => g
    | true => glast r false (match f with | true => v | false => supI g v)
def gr1 (l : List Int) : Int := match l with | [] => 0 | v :: r => (v :: r).foldl supI v
def gr2 (l : List Int) : Int := match l.all validB with | true => glast l true 0 | false => 0
abbrev S24 (es : List (List At)) (g a i : Int) : List Sv := mkS 23 [(3, iv g), (12, .one (.ro true 1 es)), (13, iv a), (14, iv i)]
abbrev S25 (es : List (List At)) (g i : Int) : List Sv := mkS 29 [(0, .one (.ro true 1 es)), (3, iv g), (4, iv i)]
abbrev S9 (es : List (List At)) (m g : Int) (al : Bool) (i : Int) : List Sv := mkS 45 [(0, .one (.ro true 1 es)), (1, iv m), (5, iv g), (6, bv al), (7, iv i)]
def lo24 : Lo := fun a s M => match Nat.beq (firstId a) 5, Nat.beq s.length 23, s.getD 3 (.one .bad), s.getD 12 (.one .bad), s.getD 13 (.one .bad), s.getD 14 (.one .bad), M with
  | true, true, .one (.v (.int .i64 g)), .one (.ro true 1 es), .one (.v (.int .i64 a)), .one (.v (.int .i64 i)), [] =>
    some (.br (a == es.length && i == 0 && areI es && decide (es.length ≤ maxI)) (.ok (.exit 0, mkS 23 [(3, iv ((vals es).foldl supI g))], [])) .no)
  | _, _, _, _, _, _, _ => none
def lo25 : Lo := fun a s M => match Nat.beq (firstId a) 3, Nat.beq s.length 29, s.getD 0 (.one .bad), s.getD 3 (.one .bad), s.getD 4 (.one .bad), M with
  | true, true, .one (.ro true 1 es), .one (.v (.int .i64 g)), .one (.v (.int .i64 i)), [] =>
    some (.br (i == 0 && g == 0 && areI es && decide (es.length ≤ maxI)) (.br ((vals es).all validB) (.ok (.exit 0, mkS 29 [(3, iv (glast (vals es) true 0))], [])) (.ok (.ret, mkS 29 [(2, iv 0), (3, iv (glast (vals es) true 0))], []))) .no)
  | _, _, _, _, _, _ => none
def lo9 : Lo := fun a s M => match Nat.beq (firstId a) 8, Nat.beq s.length 45, s.getD 0 (.one .bad), s.getD 1 (.one .bad), s.getD 5 (.one .bad), s.getD 6 (.one .bad), s.getD 7 (.one .bad), M with
  | true, true, .one (.ro true 1 es), .one (.v (.int .i64 m)), .one (.v (.int .i64 g)), .one (.v (.bool al)), .one (.v (.int .i64 i)), [] =>
    some (.br (i == 0 && areI es && decide (es.length ≤ maxI)) (.ok (.exit 0, mkS 45 [(1, iv m), (5, iv g), (6, bv (al && (vals es).all (compB m)))], [])) .no)
  | _, _, _, _, _, _, _, _ => none

noncomputable abbrev L24 : Code := lcode Tryd.prog 24 5
noncomputable abbrev L25 : Code := lcode Tryd.prog 25 3
noncomputable abbrev L9 : Code := lcode Tryd.prog 9 8
theorem drop_cons {l : List Int} {i : Nat} (h : i < l.length) : l.drop i = l.getD i 0 :: l.drop (i + 1) := by
  rw [List.drop_eq_getElem_cons h, List.getD_eq_getElem?_getD, List.getElem?_eq_getElem h]; rfl
theorem br_some {α : Type} {b : Bool} {x : Tree α} {y : α} (h : (Tree.br b x .no).eval = some y) : b = true ∧ x.eval = some y := by
  cases b
  · cases h
  · exact ⟨rfl, h⟩
theorem r24 (m : Nat) (g i a : Int) (es : List (List At)) : vround EM 24 o10 noLo 0 L24 0 m (S24 es g a i) [] =
tst (decide (i < a))
  (chk (decide (0 ≤ i))
    (chk (decide (i < (↑es.length : Int)))
      (chk (okRow [SK.i IntKind.i64] (es.getD i.toNat []))
        (vloop EM 24 o10 noLo 0 L24 0 m
          (mkS 23
            [(3, Sv.one (At.v (Value.int IntKind.i64 (supI g (intA ((es.getD i.toNat []).getD 0 At.bad)))))),
              (12, Sv.one (At.ro true 1 es)), (13, Sv.one (At.v (Value.int IntKind.i64 a))),
              (14, Sv.one (At.v (Value.int IntKind.i64 (IntKind.wrap .i64 (i + 1)))))])
          []))))
  (some (Ex.exit 0, mkS 23 [(3, Sv.one (At.v (Value.int IntKind.i64 g)))], [])) := by kernel_rfl
theorem l24 (es : List (List At)) (ha : areI es = true) (hl : es.length ≤ maxI) : ∀ (k i m : Nat) (g : Int), i + k = es.length → k < m →
    vloop EM 24 o10 noLo 0 L24 0 m (S24 es g es.length i) [] = some (.exit 0, mkS 23 [(3, iv (((vals es).drop i).foldl supI g))], [])
  | 0, i, m + 1, g, hi, hm => by
    rw [vloop_succ, r24, tst_f (decide_eq_false (by omega)), List.drop_eq_nil_of_le (by rw [vals_length]; omega)]; rfl
  | k + 1, i, m + 1, g, hi, hm => by
    have hl' : es.length ≤ 9223372036854775807 := hl
    rw [vloop_succ, r24, tst_t (decide_eq_true (by omega)), chk_t (decide_eq_true (by omega)), chk_t (decide_eq_true (by omega)), chk_t (areI_get ha (by omega))]
    have e : IntKind.wrap .i64 ((i : Int) + 1) = ((i + 1 : Nat) : Int) := by rw [i64_in _ ⟨by omega, by omega⟩]; rfl
    rw [e, show ((i : Int)).toNat = i from rfl, vals_get, drop_cons (by rw [vals_length]; omega), List.foldl_cons]
    exact l24 es ha hl k (i + 1) m _ (by omega) (by omega)
theorem lo24_ok : LoopOK EM Tryd.prog lo24 L24 := by
  refine LoopOK.of_run (f := 24) (c := o10) (lo := noLo) T.tok c10 T.mo (fun _ _ => noLo_ok) (fun s M e s' M' t hl hev => ?_)
  unfold lo24 at hl
  split at hl
  · rename_i g es a i h1 h2 h3 h4 h5 h6
    obtain rfl := Option.some.inj hl
    have hlen : s.length = 23 := Nat.eq_of_beq_eq_true h2
    obtain ⟨hc, hev2⟩ := br_some hev
    clear hev
    simp only [Bool.and_eq_true, decide_eq_true_eq, beq_iff_eq] at hc
    obtain ⟨⟨⟨rfl, rfl⟩, ha⟩, hb⟩ := hc
    refine ⟨0, es.length + 1, [3, 12, 13, 14], ?_⟩
    rw [keep_mkS, hlen]
    simp only [List.map_cons, List.map_nil, h3, h4, h5, h6]
    exact (l24 es ha hb es.length 0 (es.length + 1) g (by omega) (by omega)).trans hev2
  · cases hl
theorem loops24 : ∀ fn b, Tryd.prog.funcs[24]? = some fn → fn.body = some b → ∀ a ∈ loopsOf b, LoopOK EM Tryd.prog lo24 a :=
  loops_of (fun a ha => by
    have e : loopsAt Tryd.prog 24 = [L24] := by kernel_rfl
    rw [e] at ha
    simp only [List.mem_singleton] at ha
    subst ha; exact lo24_ok)
theorem q24 (es : List (List At)) : vstep EM Tryd.prog lo24 0 o10 24 [.one (.ro true 1 es)] [] =
tst ((↑es.length : Int) == 0) (some (Sv.one (At.v (Value.int IntKind.i64 0)), []))
  (chk (decide (0 < (↑es.length : Int)))
    (chk (okRow [SK.i IntKind.i64] (es.getD 0 []))
      (chk ((↑es.length : Int) == (↑es.length : Int) && true && areI es && decide (es.length ≤ 9223372036854775807))
        (some
          (Sv.one (At.v (Value.int IntKind.i64 (List.foldl supI (intA ((es.getD 0 []).getD 0 At.bad)) (vals es)))),
            []))))) := by kernel_rfl
theorem e24 (es : List (List At)) (ha : areI es = true) (hl : es.length ≤ maxI) : vstep EM Tryd.prog lo24 0 o10 24 [.one (.ro true 1 es)] [] = some (iv (gr1 (vals es)), []) := by
  rw [q24]
  cases es with
  | nil => rfl
  | cons x xs =>
    rw [tst_f (show (((x :: xs).length : Int) == 0) = false by simp; omega), chk_t (show decide (0 < ((x :: xs).length : Int)) = true from decide_eq_true (by rw [List.length_cons]; omega)), chk_t (areI_get ha (i := 0) (by simp)), chk_t (by simp only [Bool.and_eq_true, decide_eq_true_eq, beq_self_eq_true, true_and, and_true]; exact ⟨ha, hl⟩)]
    rfl
def o24 : Orc := over o10 24 (Fr fun es => .br (areI es && decide (es.length ≤ maxI)) (.ok (iv (gr1 (vals es)), [])) .no)
theorem c24 : CallOK EM Tryd.prog o24 := ok_r T c10 fun es x hx => by
  obtain ⟨hc, hx⟩ := br_some hx
  simp only [Bool.and_eq_true, decide_eq_true_eq] at hc
  exact ⟨lo24, 0, loops24, (e24 es hc.1 hc.2).trans hx⟩
theorem r25 (m : Nat) (g i : Int) (es : List (List At)) : vround EM 25 o24 noLo 0 L25 0 m (S25 es g i) [] =
tst (decide (i < (↑es.length : Int)))
  (chk (decide (0 ≤ i))
    (chk (decide (i < (↑es.length : Int)))
      (chk (okRow [SK.i IntKind.i64] (es.getD i.toNat []))
        (tst (!validB (intA ((es.getD i.toNat []).getD 0 At.bad)))
          (some
            (Ex.ret,
              mkS 29 [(2, Sv.one (At.v (Value.int IntKind.i64 0))), (3, Sv.one (At.v (Value.int IntKind.i64 g)))], []))
          (tst (i == 0)
            (chk (decide (0 < (↑es.length : Int)))
              (chk (okRow [SK.i IntKind.i64] (es.getD 0 []))
                (vloop EM 25 o24 noLo 0 L25 0 m
                  (mkS 29
                    [(0, Sv.one (At.ro true 1 es)),
                      (3, Sv.one (At.v (Value.int IntKind.i64 (intA ((es.getD 0 []).getD 0 At.bad))))),
                      (4, Sv.one (At.v (Value.int IntKind.i64 (IntKind.wrap .i64 (i + 1)))))])
                  [])))
            (chk (decide (0 ≤ i))
              (chk (decide (i < (↑es.length : Int)))
                (chk (okRow [SK.i IntKind.i64] (es.getD i.toNat []))
                  (vloop EM 25 o24 noLo 0 L25 0 m
                    (mkS 29
                      [(0, Sv.one (At.ro true 1 es)),
                        (3, Sv.one (At.v (Value.int IntKind.i64 (supI g (intA ((es.getD i.toNat []).getD 0 At.bad)))))),
                        (4, Sv.one (At.v (Value.int IntKind.i64 (IntKind.wrap .i64 (i + 1)))))])
                    [])))))))))
  (some (Ex.exit 0, mkS 29 [(3, Sv.one (At.v (Value.int IntKind.i64 g)))], [])) := by kernel_rfl
theorem l25 (es : List (List At)) (ha : areI es = true) (hl : es.length ≤ maxI) : ∀ (k i m : Nat) (g : Int), i + k = es.length → k < m →
    vloop EM 25 o24 noLo 0 L25 0 m (S25 es g i) [] = match ((vals es).drop i).all validB with
      | true => some (.exit 0, mkS 29 [(3, iv (glast ((vals es).drop i) (i == 0) g))], [])
      | false => some (.ret, mkS 29 [(2, iv 0), (3, iv (glast ((vals es).drop i) (i == 0) g))], [])
  | 0, i, m + 1, g, hi, hm => by
    rw [vloop_succ, r25, tst_f (decide_eq_false (by omega)), List.drop_eq_nil_of_le (by rw [vals_length]; omega)]; rfl
  | k + 1, i, m + 1, g, hi, hm => by
    have hl' : es.length ≤ 9223372036854775807 := hl
    have e : IntKind.wrap .i64 ((i : Int) + 1) = ((i + 1 : Nat) : Int) := by rw [i64_in _ ⟨by omega, by omega⟩]; rfl
    have hok := areI_get ha (i := i) (by omega)
    have hok0 := areI_get ha (i := 0) (by omega)
    rw [vloop_succ, r25, tst_t (decide_eq_true (by omega)), chk_t (decide_eq_true (by omega)), chk_t (decide_eq_true (by omega)), e, show ((i : Int)).toNat = i from rfl, chk_t hok, vals_get, drop_cons (by rw [vals_length]; omega), List.all_cons]
    cases hv : validB ((vals es).getD i 0) with
    | false => rw [tst_t (show (!false) = true from rfl)]; unfold glast; rw [hv]; rfl
    | true =>
      rw [tst_f (show (!true) = false from rfl)]
      unfold glast
      rw [hv, Bool.true_and]
      dsimp only
      by_cases h0 : i = 0
      · subst h0
        rw [tst_t (show (((0 : Nat) : Int) == 0) = true from rfl), chk_t (decide_eq_true (by omega)), chk_t hok0, vals_get]
        exact l25 es ha hl k 1 m _ (by omega) (by omega)
      · have e0 : (i == 0) = false := by simpa using h0
        have e1 : ((i + 1) == 0) = false := rfl
        rw [tst_f (by simpa using h0), chk_t (decide_eq_true (by omega)), chk_t (decide_eq_true (by omega)), chk_t hok, e0]
        have := l25 es ha hl k (i + 1) m (supI g ((vals es).getD i 0)) (by omega) (by omega)
        rw [e1] at this
        exact this
theorem lo25_ok : LoopOK EM Tryd.prog lo25 L25 := by
  refine LoopOK.of_run (f := 25) (c := o24) (lo := noLo) T.tok c24 T.mo (fun _ _ => noLo_ok) (fun s M e s' M' t hl hev => ?_)
  unfold lo25 at hl
  split at hl
  · rename_i es g i h1 h2 h3 h4 h5
    obtain rfl := Option.some.inj hl
    have hlen : s.length = 29 := Nat.eq_of_beq_eq_true h2
    obtain ⟨hc, hev2⟩ := br_some hev
    clear hev
    simp only [Bool.and_eq_true, decide_eq_true_eq, beq_iff_eq] at hc
    obtain ⟨⟨⟨rfl, rfl⟩, ha⟩, hb⟩ := hc
    refine ⟨0, es.length + 1, [0, 3, 4], ?_⟩
    rw [keep_mkS, hlen]
    simp only [List.map_cons, List.map_nil, h3, h4, h5]
    refine (l25 es ha hb es.length 0 (es.length + 1) 0 (by omega) (by omega)).trans ?_
    rw [List.drop_zero]
    rw [show ((0 : Nat) == 0) = true from rfl]
    cases hall : (vals es).all validB with
    | true => rw [hall] at hev2; exact hev2
    | false => rw [hall] at hev2; exact hev2
  · cases hl
theorem loops25 : ∀ fn b, Tryd.prog.funcs[25]? = some fn → fn.body = some b → ∀ a ∈ loopsOf b, LoopOK EM Tryd.prog lo25 a :=
  loops_of (fun a ha => by
    have e : loopsAt Tryd.prog 25 = [L25] := by kernel_rfl
    rw [e] at ha
    simp only [List.mem_singleton] at ha
    subst ha; exact lo25_ok)
theorem q25 (es : List (List At)) : vstep EM Tryd.prog lo25 0 o24 25 [.one (.ro true 1 es)] [] =
chk (true && areI es && decide (es.length ≤ 9223372036854775807))
  (tst ((vals es).all validB) (some (Sv.one (At.v (Value.int IntKind.i64 (glast (vals es) true 0))), []))
    (some (Sv.one (At.v (Value.int IntKind.i64 0)), []))) := by kernel_rfl
theorem e25 (es : List (List At)) (ha : areI es = true) (hl : es.length ≤ maxI) : vstep EM Tryd.prog lo25 0 o24 25 [.one (.ro true 1 es)] [] = some (iv (gr2 (vals es)), []) := by
  rw [q25, chk_t (by simp only [Bool.and_eq_true, decide_eq_true_eq, true_and]; exact ⟨ha, hl⟩)]
  unfold gr2
  cases (vals es).all validB <;> rfl
def o25 : Orc := over o24 25 (Fr fun es => .br (areI es && decide (es.length ≤ maxI)) (.ok (iv (gr2 (vals es)), [])) .no)
theorem c25 : CallOK EM Tryd.prog o25 := ok_r T c24 fun es x hx => by
  obtain ⟨hc, hx⟩ := br_some hx
  simp only [Bool.and_eq_true, decide_eq_true_eq] at hc
  exact ⟨lo25, 0, loops25, (e25 es hc.1 hc.2).trans hx⟩
theorem r9 (m : Nat) (mm i g : Int) (al : Bool) (es : List (List At)) : vround EM 9 o25 noLo 0 L9 0 m (S9 es mm g al i) [] =
tst (decide (i < (↑es.length : Int)))
  (tst al
    (chk (decide (0 ≤ i))
      (chk (decide (i < (↑es.length : Int)))
        (chk (okRow [SK.i IntKind.i64] (es.getD i.toNat []))
          (vloop EM 9 o25 noLo 0 L9 0 m
            (mkS 45
              [(0, Sv.one (At.ro true 1 es)), (1, Sv.one (At.v (Value.int IntKind.i64 mm))),
                (5, Sv.one (At.v (Value.int IntKind.i64 g))),
                (6,
                  Sv.one
                    (At.v
                      (Value.bool (bif true then compB mm (intA ((es.getD i.toNat []).getD 0 At.bad)) else false)))),
                (7, Sv.one (At.v (Value.int IntKind.i64 (IntKind.wrap .i64 (i + 1)))))])
            []))))
    (vloop EM 9 o25 noLo 0 L9 0 m
      (mkS 45
        [(0, Sv.one (At.ro true 1 es)), (1, Sv.one (At.v (Value.int IntKind.i64 mm))),
          (5, Sv.one (At.v (Value.int IntKind.i64 g))), (6, Sv.one (At.v (Value.bool false))),
          (7, Sv.one (At.v (Value.int IntKind.i64 (IntKind.wrap .i64 (i + 1)))))])
      []))
  (some
    (Ex.exit 0,
      mkS 45
        [(1, Sv.one (At.v (Value.int IntKind.i64 mm))), (5, Sv.one (At.v (Value.int IntKind.i64 g))),
          (6, Sv.one (At.v (Value.bool al)))],
      [])) := by kernel_rfl
theorem l9 (es : List (List At)) (mm g : Int) (ha : areI es = true) (hl : es.length ≤ maxI) : ∀ (k i m : Nat) (al : Bool), i + k = es.length → k < m →
    vloop EM 9 o25 noLo 0 L9 0 m (S9 es mm g al i) [] = some (.exit 0, mkS 45 [(1, iv mm), (5, iv g), (6, bv (al && ((vals es).drop i).all (compB mm)))], [])
  | 0, i, m + 1, al, hi, hm => by
    rw [vloop_succ, r9, tst_f (decide_eq_false (by omega)), List.drop_eq_nil_of_le (by rw [vals_length]; omega), List.all_nil, Bool.and_true]
  | k + 1, i, m + 1, al, hi, hm => by
    have hl' : es.length ≤ 9223372036854775807 := hl
    have e : IntKind.wrap .i64 ((i : Int) + 1) = ((i + 1 : Nat) : Int) := by rw [i64_in _ ⟨by omega, by omega⟩]; rfl
    have hok := areI_get ha (i := i) (by omega)
    rw [vloop_succ, r9, tst_t (decide_eq_true (by omega)), e, show ((i : Int)).toNat = i from rfl, drop_cons (by rw [vals_length]; omega), List.all_cons]
    cases al with
    | true =>
      rw [tst_t rfl, chk_t (decide_eq_true (by omega)), chk_t (decide_eq_true (by omega)), chk_t hok, vals_get]
      have := l9 es mm g ha hl k (i + 1) m (compB mm ((vals es).getD i 0)) (by omega) (by omega)
      rw [Bool.true_and]
      exact this
    | false =>
      rw [tst_f rfl]
      have := l9 es mm g ha hl k (i + 1) m false (by omega) (by omega)
      rw [Bool.false_and] at this ⊢
      exact this
theorem lo9_ok : LoopOK EM Tryd.prog lo9 L9 := by
  refine LoopOK.of_run (f := 9) (c := o25) (lo := noLo) T.tok c25 T.mo (fun _ _ => noLo_ok) (fun s M e s' M' t hl hev => ?_)
  unfold lo9 at hl
  split at hl
  · rename_i es m g al i h1 h2 h3 h4 h5 h6 h7
    obtain rfl := Option.some.inj hl
    have hlen : s.length = 45 := Nat.eq_of_beq_eq_true h2
    obtain ⟨hc, hev2⟩ := br_some hev
    clear hev
    simp only [Bool.and_eq_true, decide_eq_true_eq, beq_iff_eq] at hc
    obtain ⟨⟨rfl, ha⟩, hb⟩ := hc
    refine ⟨0, es.length + 1, [0, 1, 5, 6, 7], ?_⟩
    rw [keep_mkS, hlen]
    simp only [List.map_cons, List.map_nil, h3, h4, h5, h6, h7]
    exact (l9 es m g ha hb es.length 0 (es.length + 1) al (by omega) (by omega)).trans hev2
  · cases hl
theorem loops9 : ∀ fn b, Tryd.prog.funcs[9]? = some fn → fn.body = some b → ∀ a ∈ loopsOf b, LoopOK EM Tryd.prog lo9 a :=
  loops_of (fun a ha => by
    have e : loopsAt Tryd.prog 9 = [L9] := by kernel_rfl
    rw [e] at ha
    simp only [List.mem_singleton] at ha
    subst ha; exact lo9_ok)
/-! ### the plain law -/
theorem sup_zero (x : Int) : supI 0 x = 0 := by
  unfold supI
  have h := cls_le x
  generalize cls x = k at h
  match k, h with
  | 0, _ => rfl
  | 1, _ => rfl
  | 2, _ => rfl
  | 3, _ => rfl
  | 4, _ => rfl
  | 5, _ => rfl
theorem fold_zero : ∀ l : List Int, l.foldl supI 0 = 0
  | [] => rfl
  | x :: l => by rw [List.foldl_cons, sup_zero]; exact fold_zero l
theorem valid_cls {a : Int} (h : validB a = true) : cls a ≠ 0 := by
  intro e; unfold validB at h; rw [e] at h; cases h
theorem not_valid {a : Int} (h : validB a = false) : cls a = 0 := by
  unfold validB at h
  split at h
  · assumption
  · cases h
theorem sup_bad (g : Int) {x : Int} (h : validB x = false) : supI g x = 0 := by
  unfold supI
  rw [not_valid h]
  have h := cls_le g
  generalize cls g = k at h
  match k, h with
  | 0, _ => rfl
  | 1, _ => rfl
  | 2, _ => rfl
  | 3, _ => rfl
  | 4, _ => rfl
  | 5, _ => rfl
theorem sup_self {x : Int} (h : validB x = true) : supI x x = x := by
  have h1 := cls_is (valid_cls h)
  have h2 := valid_cls h
  have h3 := cls_le x
  unfold supI
  generalize cls x = k at h1 h2 h3
  subst h1
  match k, h2, h3 with
  | 1, _, _ => rfl
  | 2, _, _ => rfl
  | 3, _, _ => rfl
  | 4, _, _ => rfl
  | 5, _, _ => rfl
theorem sup_valid {a b : Int} (ha : validB a = true) (hb : validB b = true) : validB (supI a b) = true := by
  have := all3_get (f := fun x y z => Nat.beq x 0 || (Nat.beq y 0 || validB (supI (Int.ofNat x) (Int.ofNat y)))) (by kernel_rfl) a b 0
  have h1 : Nat.beq (cls a) 0 = false := by
    cases e : Nat.beq (cls a) 0 with
    | false => rfl
    | true => exact absurd (Nat.eq_of_beq_eq_true e) (valid_cls ha)
  have h2 : Nat.beq (cls b) 0 = false := by
    cases e : Nat.beq (cls b) 0 with
    | false => rfl
    | true => exact absurd (Nat.eq_of_beq_eq_true e) (valid_cls hb)
  rw [h1, h2, Bool.false_or, Bool.false_or, ← cls_is (valid_cls ha), ← cls_is (valid_cls hb)] at this
  exact this
theorem comp_sup {m a b : Int} (ha : validB a = true) (hb : validB b = true) : compB m (supI a b) = (compB m a && compB m b) := by
  have := all3_get (f := fun x y z => Nat.beq x 0 || (Nat.beq y 0 || (compB (Int.ofNat z) (supI (Int.ofNat x) (Int.ofNat y)) == (compB (Int.ofNat z) (Int.ofNat x) && compB (Int.ofNat z) (Int.ofNat y))))) (by kernel_rfl) a b m
  have h1 : Nat.beq (cls a) 0 = false := by
    cases e : Nat.beq (cls a) 0 with
    | false => rfl
    | true => exact absurd (Nat.eq_of_beq_eq_true e) (valid_cls ha)
  have h2 : Nat.beq (cls b) 0 = false := by
    cases e : Nat.beq (cls b) 0 with
    | false => rfl
    | true => exact absurd (Nat.eq_of_beq_eq_true e) (valid_cls hb)
  rw [h1, h2, Bool.false_or, Bool.false_or, ← cls_is (valid_cls ha), ← cls_is (valid_cls hb)] at this
  have h3 : ∀ q, compB (Int.ofNat (cls m)) q = compB m q := by intro q; unfold compB; rw [cls_rep]
  simp only [h3, beq_iff_eq] at this
  exact this
theorem fold_bad : ∀ (l : List Int) (g : Int), l.all validB = false → l.foldl supI g = 0
  | x :: l, g, h => by
    rw [List.foldl_cons]
    cases hx : validB x with
    | false => rw [sup_bad g hx]; exact fold_zero l
    | true => exact fold_bad l _ (by rw [List.all_cons, hx, Bool.true_and] at h; exact h)
theorem glast_fold : ∀ (l : List Int) (g : Int), l.all validB = true → glast l false g = l.foldl supI g
  | [], g, _ => rfl
  | x :: l, g, h => by
    rw [List.all_cons, Bool.and_eq_true] at h
    unfold glast
    rw [h.1, List.foldl_cons]
    exact glast_fold l _ h.2
theorem gr_eq (l : List Int) : gr1 l = gr2 l := by
  unfold gr1 gr2
  cases l with
  | nil => rfl
  | cons v r =>
    dsimp only
    cases h : (v :: r).all validB with
    | false => exact fold_bad _ _ h
    | true =>
      rw [List.all_cons, Bool.and_eq_true] at h
      unfold glast
      rw [h.1, List.foldl_cons, sup_self h.1]
      exact (glast_fold r v h.2).symm
theorem fold_comp {m : Int} : ∀ (l : List Int) (g : Int), validB g = true → l.all validB = true → compB m (l.foldl supI g) = (compB m g && l.all (compB m))
  | [], g, _, _ => by simp
  | x :: l, g, hg, h => by
    rw [List.all_cons, Bool.and_eq_true] at h
    rw [List.foldl_cons, fold_comp l _ (sup_valid hg h.1) h.2, comp_sup hg h.1, List.all_cons, Bool.and_assoc]
theorem gr_comp {m : Int} {l : List Int} (h : (gr1 l == 0) = false) : l.all (compB m) = compB m (gr1 l) := by
  unfold gr1 at h ⊢
  cases l with
  | nil => cases h
  | cons v r =>
    dsimp only at h ⊢
    cases ha : (v :: r).all validB with
    | false => rw [fold_bad _ _ ha] at h; cases h
    | true =>
      have hv := ha
      rw [List.all_cons, Bool.and_eq_true] at hv
      rw [fold_comp _ _ hv.1 ha, List.all_cons]
      cases compB m v <;> rfl
theorem q9 (es : List (List At)) (m : Int) : vstep EM Tryd.prog lo9 0 o25 9 [.one (.ro true 1 es), iv m] [] =
chk (areI es && decide (es.length ≤ 9223372036854775807))
  (chk (areI es && decide (es.length ≤ 9223372036854775807))
    (tst (bif false then true else gr1 (vals es) != gr2 (vals es)) (some (Sv.one (At.v (Value.bool false)), []))
      (tst (gr1 (vals es) == 0) (some (Sv.one (At.v (Value.bool true)), []))
        (chk (true && areI es && decide (es.length ≤ 9223372036854775807))
          (tst (!validB m) (some (Sv.one (At.v (Value.bool true)), []))
            (some
              (Sv.one
                  (At.v
                    (Value.bool
                      (bif false then true else (true && (vals es).all (compB m)) == compB m (gr1 (vals es))))),
                []))))))) := by kernel_rfl
theorem e9 (l : List Int) (m : Int) (hl : l.length ≤ maxI) : vstep EM Tryd.prog lo9 0 o25 9 [rv l, iv m] [] = some (bv true, []) := by
  have ha := areI_esI l
  have hl' : (esI l).length ≤ 9223372036854775807 := by rw [esI_length]; exact hl
  have hc : (areI (esI l) && decide ((esI l).length ≤ 9223372036854775807)) = true := by rw [ha, decide_eq_true hl']; rfl
  rw [q9]
  simp only [hc, chk_t]
  rw [chk_t (by rw [ha, decide_eq_true hl']; rfl), vals_esI, gr_eq]
  rw [tst_f (by simp)]
  cases h0 : (gr2 l == 0) with
  | true => rfl
  | false =>
    rw [tst_f rfl]
    cases hm : validB m with
    | false => rfl
    | true =>
      rw [← gr_eq] at h0 ⊢
      rw [tst_f (show (!true) = false from rfl), gr_comp h0]
      simp
end Go.Proofs.YtfbdceccefmloaaDoor
