import Derived.Test.YtfbdceccefmloaaLexH
namespace Go.Proofs.Ytfbdceccefmloaa
open Go Go.Vi Go.IntWalk
set_option maxRecDepth 100000
set_option linter.unusedVariables false
set_option linter.unusedSimpArgs false
theorem lo9o_ok : LoopOK EL Try.prog lo9 193 L5 := by
  refine LoopOK.of_run (f := 9) (c := o8) (lo := lo9) T.tok c8 T.mo (fun a ha => ?_) (fun s M e s' M' t hl hev => ?_)
  · have e : loopsOf L5 = [L11, L17, L25r] := by kernel_rfl
    rw [e] at ha
    simp only [List.mem_cons, List.not_mem_nil, or_false] at ha
    rcases ha with rfl | rfl | rfl
    · exact lo9a_ok
    · exact lo9b_ok
    · exact lo9c_ok
  · unfold lo9 at hl
    rw [id5] at hl
    split at hl
    · rename_i b i h1 h3 h4 h5
      obtain rfl := Option.some.inj hl
      obtain ⟨hc, hev2⟩ := br_some hev
      clear hev
      simp only [Bool.and_eq_true, decide_eq_true_eq, beq_iff_eq] at hc
      obtain ⟨rfl, hb⟩ := hc
      refine ⟨0, b.size + 1, [6, 0, 5], ?_⟩
      simp only [keepT, List.map_cons, List.map_nil, h3, h4, h5]
      exact (l9 b hb (b.size + 1) 0 (b.size + 1) (b.size + 1) [] (by omega) (by omega) (by simp) (by omega) (by omega)).trans hev2
    · rename_i h _ _ _; cases h
    · rename_i h _ _ _; cases h
    · rename_i h _ _ _; cases h
    · cases hl
theorem loops9 : ∀ fn b, Try.prog.funcs[9]? = some fn → fn.body = some b → ∀ a ∈ loopsOf b, LoopOK EL Try.prog lo9 fn.ntmps a :=
  loops_of (fun a ha => by
    have e : loopsAt Try.prog 9 = [L5, L11, L17, L25r] := by kernel_rfl
    rw [e] at ha
    rw [show ntmpsAt Try.prog 9 = 193 by kernel_rfl]
    simp only [List.mem_cons, List.not_mem_nil, or_false] at ha
    rcases ha with rfl | rfl | rfl | rfl
    · exact lo9o_ok
    · exact lo9a_ok
    · exact lo9b_ok
    · exact lo9c_ok)
theorem q9 (b : ByteArray) : vstep EL Try.prog lo9 0 o8 9 [sv b] [] =
tst (decide ((↑b.size : Int) > 1024))
  (some
    (Sv.tup
        [Sv.one (At.ro true 4 []), Sv.one (At.v (Value.int IntKind.i64 0)), Sv.one (At.v (Value.int IntKind.i64 3))],
      []))
  (chk (true && decide (b.size ≤ 1024))
    (tst ((lexT b).snd.snd == 0)
      (chk
        (decide
          (((lexT b).fst.length +
                [[At.v (Value.int IntKind.i64 5), At.v (Value.string { data := { toList := [] } }),
                      At.v (Value.int IntKind.i64 0), At.v (Value.int IntKind.i64 (↑b.size : Int))]].length) *
              40 ≤
            140737488355328))
        (some
          (Sv.tup
              [Sv.one
                  (At.ro true 4
                    ((lexT b).fst ++
                      [[At.v (Value.int IntKind.i64 5), At.v (Value.string { data := { toList := [] } }),
                          At.v (Value.int IntKind.i64 0), At.v (Value.int IntKind.i64 (↑b.size : Int))]])),
                Sv.one (At.v (Value.int IntKind.i64 0)), Sv.one (At.v (Value.int IntKind.i64 0))],
            [])))
      (some
        (Sv.tup
            [Sv.one (At.ro true 4 []), Sv.one (At.v (Value.int IntKind.i64 (lexT b).snd.fst)),
              Sv.one (At.v (Value.int IntKind.i64 (lexT b).snd.snd))],
          [])))) := by kernel_rfl
/-- Tokens stand in the text: no more of them than bytes. -/
theorem lexP_len {b : ByteArray} : ∀ (k i : Nat) (es : List (List At)), i ≤ b.size → es.length ≤ i → (lexP b k i es).1.length ≤ b.size
  | 0, i, es, hi, he => by unfold lexP; dsimp only; omega
  | k + 1, i, es, hi, he => by
    have hge := runTo_ge spaceB b i hi
    obtain ⟨q, hq⟩ := Int.eq_ofNat_of_zero_le (show 0 ≤ runTo spaceB b i by omega)
    have hq' : runTo spaceB b i = (q : Int) := hq
    unfold lexP
    rw [hq'] at hge ⊢
    cases hs : ((q : Int) == (b.size : Int)) with
    | true => dsimp only; omega
    | false =>
      have hlt : q < b.size := by
        have : ¬ ((q : Int) = (b.size : Int)) := by simpa using hs
        omega
      obtain ⟨j, hj, hj1, hj2⟩ := nxQ_gt hlt
      dsimp only
      cases hE : (nxE b q == 0) with
      | true =>
        have := hj2 hE
        dsimp only
        rw [hj]
        exact lexP_len k j _ hj1 (by rw [List.length_append, List.length_singleton]; omega)
      | false => dsimp only; omega
theorem e9 (b : ByteArray) : vstep EL Try.prog lo9 0 o8 9 [sv b] [] = some (lexV b, []) := by
  rw [q9]
  unfold lexV lexL lexA lexE
  cases h : decide ((b.size : Int) > 1024) with
  | true => rfl
  | false =>
    have hb : b.size ≤ 1024 := by have := of_decide_eq_false h; omega
    have k : (true && decide (b.size ≤ 1024)) = true := by rw [decide_eq_true hb]; rfl
    rw [tst_f rfl, chk_t k]
    cases h2 : ((lexT b).2.2 == 0) with
    | true =>
      have hlen : (lexT b).1.length ≤ b.size := lexP_len (b.size + 1) 0 [] (by omega) (by simp)
      rw [tst_t rfl, chk_t (decide_eq_true (by simp only [List.length_singleton]; omega))]
      rfl
    | false => rfl
def o9 : Orc := over o8 9 (Fs fun b => .ok (lexV b, []))
theorem c9 : CallOK EL Try.prog o9 := ok_s T c8 fun b x hx => ⟨lo9, 0, loops9, (e9 b).trans hx⟩
/-! ### lists of tokens compared -/
abbrev shT : List SK := [.i .i64, .s, .i .i64, .i .i64]
def areT (es : List (List At)) : Bool := es.all (okRow shT)
def eqTk (x y : List At) : Bool := intA (x.getD 0 .bad) == intA (y.getD 0 .bad) && (bytesEq (strA (x.getD 1 .bad)) (strA (y.getD 1 .bad)) && (intA (x.getD 2 .bad) == intA (y.getD 2 .bad) && (intA (x.getD 3 .bad) == intA (y.getD 3 .bad) && true)))
def sameT : List (List At) → List (List At) → Bool
  | [], [] => true
  | x :: xs, y :: ys => eqTk x y && sameT xs ys
  | _, _ => false
abbrev tv (es : List (List At)) : Sv := .one (.ro true 4 es)
abbrev S11 (es es' : List (List At)) (i : Int) : TS := [(5, iv i), (1, tv es'), (0, tv es)]
def lo11 : Lo := fun a s M => match Nat.beq (firstId a) 4, lookT s 0, lookT s 1, lookT s 5, M with
  | true, .one (.ro true 4 es), .one (.ro true 4 es'), .one (.v (.int .i64 i)), [] =>
    some (.br (i == 0 && areT es && areT es' && Nat.beq es.length es'.length && decide (es.length ≤ maxI)) (.br (sameT es es') (.ok (.exit 0, [(4, .one .bad)], [])) (.ok (.ret, [(4, bv false)], []))) .no)
  | _, _, _, _, _ => none

noncomputable abbrev L11s : Code := lcode Try.prog 11 4
theorem r11 (m : Nat) (i : Int) (es es' : List (List At)) : vround EL 11 o9 noLo 0 26 L11s 0 m (S11 es es' i) [] =
tst (decide (i < (↑es.length : Int)))
  (chk (decide (0 ≤ i))
    (chk (decide (i < (↑es.length : Int)))
      (chk (okRow [SK.i IntKind.i64, SK.s, SK.i IntKind.i64, SK.i IntKind.i64] (es.getD i.toNat []))
        (chk (decide (0 ≤ i))
          (chk (decide (i < (↑es'.length : Int)))
            (chk (okRow [SK.i IntKind.i64, SK.s, SK.i IntKind.i64, SK.i IntKind.i64] (es'.getD i.toNat []))
              (tst
                (!(intA ((es.getD i.toNat []).getD 0 At.bad) == intA ((es'.getD i.toNat []).getD 0 At.bad) &&
                    (bytesEq (strA ((es.getD i.toNat []).getD 1 At.bad)) (strA ((es'.getD i.toNat []).getD 1 At.bad)) &&
                      (intA ((es.getD i.toNat []).getD 2 At.bad) == intA ((es'.getD i.toNat []).getD 2 At.bad) &&
                        (intA ((es.getD i.toNat []).getD 3 At.bad) == intA ((es'.getD i.toNat []).getD 3 At.bad) &&
                          true)))))
                (some (Ex.ret, [(4, Sv.one (At.v (Value.bool false)))], []))
                (vloop EL 11 o9 noLo 0 26 L11s 0 m
                  [(5, Sv.one (At.v (Value.int IntKind.i64 (IntKind.wrap .i64 (i + 1))))),
                    (1, Sv.one (At.ro true 4 es')), (0, Sv.one (At.ro true 4 es))]
                  []))))))))
  (some (Ex.exit 0, [(4, Sv.one At.bad)], [])) := by kernel_rfl
theorem areT_get {es : List (List At)} (h : areT es = true) {i : Nat} (hi : i < es.length) : okRow shT (es.getD i []) = true := by
  rw [List.getD_eq_getElem?_getD, List.getElem?_eq_getElem hi]
  exact List.all_eq_true.1 h _ (List.getElem_mem hi)
theorem drop_cons {α : Type} {l : List α} {i : Nat} {d : α} (h : i < l.length) : l.drop i = l.getD i d :: l.drop (i + 1) := by
  rw [List.drop_eq_getElem_cons h, List.getD_eq_getElem?_getD, List.getElem?_eq_getElem h]; rfl
theorem l11 (es es' : List (List At)) (ha : areT es = true) (ha' : areT es' = true) (hl : es.length = es'.length) (hm' : es.length ≤ maxI) : ∀ (k i m : Nat), i + k = es.length → k < m →
    vloop EL 11 o9 noLo 0 26 L11s 0 m (S11 es es' i) [] = match sameT (es.drop i) (es'.drop i) with
      | true => some (.exit 0, [(4, .one .bad)], [])
      | false => some (.ret, [(4, bv false)], [])
  | 0, i, m + 1, hi, hm => by
    rw [vloop_succ, r11, tst_f (decide_eq_false (by omega)), List.drop_eq_nil_of_le (by omega), List.drop_eq_nil_of_le (by omega)]; rfl
  | k + 1, i, m + 1, hi, hm => by
    have hm2 : es.length ≤ 9223372036854775807 := hm'
    have e : IntKind.wrap .i64 ((i : Int) + 1) = ((i + 1 : Nat) : Int) := by rw [i64_in _ ⟨by omega, by omega⟩]; rfl
    have k1 : decide (0 ≤ (i : Int)) = true := decide_eq_true (by omega)
    have k2 : decide ((i : Int) < (es.length : Int)) = true := decide_eq_true (by omega)
    have k3 : decide ((i : Int) < (es'.length : Int)) = true := decide_eq_true (by omega)
    have g1 := areT_get ha (i := i) (by omega)
    have g2 := areT_get ha' (i := i) (by omega)
    rw [vloop_succ, r11, e, show ((i : Int)).toNat = i from rfl, k1, k2, k3, g1, g2, drop_cons (d := []) (show i < es.length by omega), drop_cons (l := es') (d := []) (by omega)]
    unfold sameT eqTk
    cases h : (intA ((es.getD i []).getD 0 At.bad) == intA ((es'.getD i []).getD 0 At.bad) && (bytesEq (strA ((es.getD i []).getD 1 At.bad)) (strA ((es'.getD i []).getD 1 At.bad)) && (intA ((es.getD i []).getD 2 At.bad) == intA ((es'.getD i []).getD 2 At.bad) && (intA ((es.getD i []).getD 3 At.bad) == intA ((es'.getD i []).getD 3 At.bad) && true)))) with
    | false => rfl
    | true => rw [Bool.true_and]; exact l11 es es' ha ha' hl hm' k (i + 1) m (by omega) (by omega)
theorem lo11_ok : LoopOK EL Try.prog lo11 26 L11s := by
  refine LoopOK.of_run (f := 11) (c := o9) (lo := noLo) T.tok c9 T.mo (fun _ _ => noLo_ok) (fun s M e s' M' t hl hev => ?_)
  unfold lo11 at hl
  split at hl
  · rename_i es es' i h1 h3 h4 h5
    obtain rfl := Option.some.inj hl
    obtain ⟨hc, hev2⟩ := br_some hev
    clear hev
    simp only [Bool.and_eq_true, decide_eq_true_eq, beq_iff_eq] at hc
    obtain ⟨⟨⟨⟨rfl, ha⟩, ha'⟩, hn⟩, hb⟩ := hc
    have hn := Nat.eq_of_beq_eq_true hn
    refine ⟨0, es.length + 1, [5, 1, 0], ?_⟩
    simp only [keepT, List.map_cons, List.map_nil, h3, h4, h5]
    refine (l11 es es' ha ha' hn hb es.length 0 (es.length + 1) (by omega) (by omega)).trans ?_
    rw [List.drop_zero, List.drop_zero]
    cases hs : sameT es es' with
    | true => rw [hs] at hev2; exact hev2
    | false => rw [hs] at hev2; exact hev2
  · cases hl
theorem loops11 : ∀ fn b, Try.prog.funcs[11]? = some fn → fn.body = some b → ∀ a ∈ loopsOf b, LoopOK EL Try.prog lo11 fn.ntmps a :=
  loops_of (fun a ha => by
    have e : loopsAt Try.prog 11 = [L11s] := by kernel_rfl
    rw [e] at ha
    simp only [List.mem_singleton] at ha
    subst ha
    rw [show ntmpsAt Try.prog 11 = 26 by kernel_rfl]; exact lo11_ok)
theorem q11 (es es' : List (List At)) : vstep EL Try.prog lo11 0 o9 11 [tv es, tv es'] [] =
tst ((↑es.length : Int) != (↑es'.length : Int)) (some (Sv.one (At.v (Value.bool false)), []))
  (chk (true && areT es && areT es' && es.length.beq es'.length && decide (es.length ≤ 9223372036854775807))
    (tst (sameT es es') (some (Sv.one (At.v (Value.bool true)), [])) (some (Sv.one (At.v (Value.bool false)), [])))) := by kernel_rfl
theorem e11 (es es' : List (List At)) (ha : areT es = true) (ha' : areT es' = true) (hm : es.length ≤ maxI) : vstep EL Try.prog lo11 0 o9 11 [tv es, tv es'] [] = some (bv (Nat.beq es.length es'.length && sameT es es'), []) := by
  rw [q11]
  cases hn : Nat.beq es.length es'.length with
  | false =>
    have : ((es.length : Int) != (es'.length : Int)) = true := by
      have h : es.length ≠ es'.length := by intro e; rw [e, Nat.beq_refl] at hn; cases hn
      simp; omega
    rw [tst_t this]; rfl
  | true =>
    have h := Nat.eq_of_beq_eq_true hn
    have h2 : ((es.length : Int) != (es'.length : Int)) = false := by simp; omega
    have hm2 : es.length ≤ 9223372036854775807 := hm
    rw [tst_f h2, ha, ha', chk_t (by rw [decide_eq_true hm2]; rfl)]
    cases sameT es es' <;> rfl
def F11 (a : List Sv) (M : List Box) : Tr := match a, M with
  | [.one (.ro true 4 es), .one (.ro true 4 es')], [] => .br (areT es && areT es' && decide (es.length ≤ maxI)) (.ok (bv (Nat.beq es.length es'.length && sameT es es'), [])) .no
  | _, _ => .no
def o11 : Orc := over o9 11 F11
theorem c11 : CallOK EL Try.prog o11 := over_ok T.tok T.mo T.ng c9 fun args M x hx => by
  unfold F11 at hx
  split at hx
  · rename_i es es'
    obtain ⟨hc, hx⟩ := br_some hx
    simp only [Bool.and_eq_true, decide_eq_true_eq] at hc
    exact ⟨lo11, 0, loops11, (e11 es es' hc.1.1 hc.1.2 hc.2).trans hx⟩
  · cases hx
theorem e10 : VS 1 o11 10 [] = some (bv true, []) := by kernel_rfl
def o10 : Orc := over o11 10 (F0 (.ok (bv true, [])))
theorem c10 : CallOK EL Try.prog o10 := ok_0 T c11 fun x hx => ⟨noLo, 1, loops_no, e10.trans hx⟩
theorem areT_app {xs : List (List At)} {k n a : Int} {t : ByteArray} (h : areT xs = true) : areT (xs ++ [tk k t n a]) = true := by
  unfold areT at h ⊢
  rw [List.all_append, h]; rfl
theorem lexP_are {b : ByteArray} : ∀ (k : Nat) (p : Int) (es : List (List At)), areT es = true → areT (lexP b k p es).1 = true
  | 0, p, es, h => h
  | k + 1, p, es, h => by
    unfold lexP
    split
    · exact h
    · split
      · exact lexP_are k _ _ (areT_app h)
      · exact h
theorem lexL_are (b : ByteArray) : areT (lexL b) = true := by
  unfold lexL
  cases decide ((b.size : Int) > 1024) with
  | true => rfl
  | false =>
    cases ((lexT b).2.2 == 0) with
    | true => exact areT_app (lexP_are _ _ _ rfl)
    | false => rfl
theorem lexL_len (b : ByteArray) : (lexL b).length ≤ 1025 := by
  unfold lexL
  cases h : decide ((b.size : Int) > 1024) with
  | true => exact Nat.zero_le _
  | false =>
    have hb : b.size ≤ 1024 := by have := of_decide_eq_false h; omega
    have hlen : (lexT b).1.length ≤ b.size := lexP_len (b.size + 1) 0 [] (by omega) (by simp)
    cases ((lexT b).2.2 == 0) with
    | true => dsimp only [cond]; rw [List.length_append, List.length_singleton]; omega
    | false => exact Nat.zero_le _
theorem eqTk_self (x : List At) : eqTk x x = true := by
  unfold eqTk bytesEq; simp
theorem sameT_self : ∀ l : List (List At), sameT l l = true
  | [] => rfl
  | x :: l => by unfold sameT; rw [eqTk_self, sameT_self l]; rfl
theorem q3 (b : ByteArray) : VS 0 o10 3 [sv b] =
chk (areT (lexL b) && areT (lexL b) && decide ((lexL b).length ≤ 9223372036854775807))
  (tst (bif true then (lexL b).length.beq (lexL b).length && sameT (lexL b) (lexL b) else false)
    (tst (bif true then lexA b == lexA b else false)
      (some (Sv.one (At.v (Value.bool (bif true then lexE b == lexE b else false))), []))
      (some (Sv.one (At.v (Value.bool false)), [])))
    (some (Sv.one (At.v (Value.bool false)), []))) := by kernel_rfl
theorem e3 (b : ByteArray) : VS 0 o10 3 [sv b] = some (bv true, []) := by
  have hl : (lexL b).length ≤ 9223372036854775807 := Nat.le_trans (lexL_len b) (by omega)
  rw [q3, chk_t (by rw [lexL_are, decide_eq_true hl]; rfl), sameT_self, Nat.beq_refl, beq_self_eq_true, beq_self_eq_true]
  rfl
theorem q4 (c : Int) : VS 1 o10 4 [uv c] = some (Sv.one (At.v (Value.bool (bif true then spaceB c == spaceB c else false))), []) := by kernel_rfl
theorem e4 (c : Int) : VS 1 o10 4 [uv c] = some (bv true, []) := by
  rw [q4, beq_self_eq_true]; rfl
end Go.Proofs.Ytfbdceccefmloaa
