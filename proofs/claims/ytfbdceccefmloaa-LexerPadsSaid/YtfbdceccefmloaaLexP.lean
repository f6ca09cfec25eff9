import Derived.Test.YtfbdceccefmloaaLexK
namespace Go.Proofs.Ytfbdceccefmloaa
open Go Go.Vi Go.IntWalk
set_option maxRecDepth 100000
set_option linter.unusedVariables false
set_option linter.unusedSimpArgs false
def padC (i : Nat) : UInt8 := match i % 4 with | 0 => 9 | 1 => 10 | 2 => 13 | _ => 32
/-- Space in front of a text. -/
def padTo (b : ByteArray) : Nat → ByteArray
  | 0 => b
  | i + 1 => ⟨#[padC i]⟩ ++ padTo b i
def sh (k : Int) (x : List At) : List At := tk (intA (x.getD 0 .bad)) (strA (x.getD 1 .bad)) (intA (x.getD 2 .bad)) (intA (x.getD 3 .bad) + k)
def okShift (k : Int) (es es' : List (List At)) : Bool := Nat.beq es.length es'.length && (List.range es.length).all fun i => eqTk (es'.getD i []) (sh k (es.getD i [])) && decide (0 ≤ intA ((es.getD i []).getD 3 .bad)) && decide (intA ((es.getD i []).getD 3 .bad) ≤ 1024)
def lo6 : Lo := fun a s M => match firstId a, M with
  | 5, [] => match lookT s 6, lookT s 5, lookT s 1, lookT s 0 with
    | .one (.v (.int .i64 i)), .one (.v (.string t)), .one (.v (.int .i64 k)), .one (.v (.string b)) =>
      some (.br (i == 0 && decide (0 ≤ k) && decide (k ≤ 50) && bytesEq t b && decide (b.size ≤ 974)) (.ok (.exit 0, [(4, .one .bad), (1, iv k), (5, sv (padTo t k.toNat)), (0, sv b)], [])) .no)
    | _, _, _, _ => none
  | 13, [] => match lookT s 13, lookT s 10, lookT s 1, lookT s 7 with
    | .one (.v (.int .i64 i)), .one (.ro true 4 es'), .one (.v (.int .i64 k)), .one (.ro true 4 es) =>
      some (.br (i == 0 && decide (0 ≤ k) && decide (k ≤ 50) && areT es && areT es' && okShift k es es' && decide (es.length ≤ 1025)) (.ok (.exit 2, [(4, .one .bad)], [])) .no)
    | _, _, _, _ => none
  | _, _ => none

noncomputable abbrev L6a : Code := lcode Try.prog 6 5
noncomputable abbrev L6b : Code := lcode Try.prog 6 13
theorem r6a (m : Nat) (i k : Int) (b t : ByteArray) : vround EL 6 o10 noLo 0 100 L6a 0 m [(6, iv i), (5, sv t), (1, iv k), (0, sv b)] [] =
tst (decide (i < k))
  (chk (decide (0 ≤ i.tmod 4))
    (chk
      (decide
        (i.tmod 4 <
          (↑[[At.v (Value.int IntKind.u8 9)], [At.v (Value.int IntKind.u8 10)], [At.v (Value.int IntKind.u8 13)],
                  [At.v (Value.int IntKind.u8 32)]].length :
            Int)))
      (chk
        (decide
          ((i.tmod 4).toNat <
            [[At.v (Value.int IntKind.u8 9)], [At.v (Value.int IntKind.u8 10)], [At.v (Value.int IntKind.u8 13)],
                [At.v (Value.int IntKind.u8 32)]].length))
        (chk
          (okRow [SK.i IntKind.u8]
            ([[At.v (Value.int IntKind.u8 9)], [At.v (Value.int IntKind.u8 10)], [At.v (Value.int IntKind.u8 13)],
                  [At.v (Value.int IntKind.u8 32)]].getD
              (i.tmod 4).toNat []))
          (chk
            (decide
              ((ByteArray.mk (Array.mk [UInt8.ofNat
                                (intA
                                    (([[At.v (Value.int IntKind.u8 9)], [At.v (Value.int IntKind.u8 10)],
                                              [At.v (Value.int IntKind.u8 13)], [At.v (Value.int IntKind.u8 32)]].getD
                                          (i.tmod 4).toNat []).getD
                                      0 At.bad)).toNat])).size +
                  t.size ≤
                9223372036854775807))
            (vloop EL 6 o10 noLo 0 100 L6a 0 m
              [(6, Sv.one (At.v (Value.int IntKind.i64 (IntKind.wrap .i64 (i + 1))))),
                (5,
                  Sv.one
                    (At.v
                      (Value.string
                        ((ByteArray.mk (Array.mk [UInt8.ofNat
                                      (intA
                                          (([[At.v (Value.int IntKind.u8 9)], [At.v (Value.int IntKind.u8 10)],
                                                    [At.v (Value.int IntKind.u8 13)],
                                                    [At.v (Value.int IntKind.u8 32)]].getD
                                                (i.tmod 4).toNat []).getD
                                            0 At.bad)).toNat])) ++
                          t)))),
                (1, Sv.one (At.v (Value.int IntKind.i64 k))), (0, Sv.one (At.v (Value.string b)))]
              []))))))
  (some
    (Ex.exit 0,
      [(4, Sv.one At.bad), (1, Sv.one (At.v (Value.int IntKind.i64 k))), (5, Sv.one (At.v (Value.string t))),
        (0, Sv.one (At.v (Value.string b)))],
      [])) := by kernel_rfl
theorem r6b (m : Nat) (i k : Int) (es es' : List (List At)) : vround EL 6 o10 noLo 0 100 L6b 0 m [(13, iv i), (10, tv es'), (1, iv k), (7, tv es)] [] =
tst (decide (i < (↑es.length : Int)))
  (chk (decide (0 ≤ i))
    (chk (decide (i < (↑es.length : Int)))
      (chk (okRow [SK.i IntKind.i64, SK.s, SK.i IntKind.i64, SK.i IntKind.i64] (es.getD i.toNat []))
        (chk (decide (0 ≤ i))
          (chk (decide (i < (↑es'.length : Int)))
            (chk (okRow [SK.i IntKind.i64, SK.s, SK.i IntKind.i64, SK.i IntKind.i64] (es'.getD i.toNat []))
              (tst
                (!(intA ((es'.getD i.toNat []).getD 0 At.bad) == intA ((es.getD i.toNat []).getD 0 At.bad) &&
                    (bytesEq (strA ((es'.getD i.toNat []).getD 1 At.bad)) (strA ((es.getD i.toNat []).getD 1 At.bad)) &&
                      (intA ((es'.getD i.toNat []).getD 2 At.bad) == intA ((es.getD i.toNat []).getD 2 At.bad) &&
                        (intA ((es'.getD i.toNat []).getD 3 At.bad) ==
                            IntKind.wrap .i64 (intA ((es.getD i.toNat []).getD 3 At.bad) + k) &&
                          true)))))
                (some
                  (Ex.ret, [(4, Sv.one (At.v (Value.bool false)))],
                    [Box.var
                        [At.v (Value.int IntKind.i64 (intA ((es.getD i.toNat []).getD 0 At.bad))),
                          At.v (Value.string (strA ((es.getD i.toNat []).getD 1 At.bad))),
                          At.v (Value.int IntKind.i64 (intA ((es.getD i.toNat []).getD 2 At.bad))),
                          At.v
                            (Value.int IntKind.i64
                              (IntKind.wrap .i64 (intA ((es.getD i.toNat []).getD 3 At.bad) + k)))]]))
                (vloop EL 6 o10 noLo 0 100 L6b 0 m
                  [(13, Sv.one (At.v (Value.int IntKind.i64 (IntKind.wrap .i64 (i + 1))))),
                    (10, Sv.one (At.ro true 4 es')), (1, Sv.one (At.v (Value.int IntKind.i64 k))),
                    (7, Sv.one (At.ro true 4 es))]
                  []))))))))
  (some (Ex.exit 2, [(4, Sv.one At.bad)], [])) := by kernel_rfl
theorem one_app_size (x : UInt8) (b : ByteArray) : ((⟨#[x]⟩ : ByteArray) ++ b).size = b.size + 1 := by rw [ByteArray.size_append]; show 1 + b.size = _; omega
theorem padTo_size (b : ByteArray) : ∀ n, (padTo b n).size = n + b.size
  | 0 => by rw [padTo]; omega
  | n + 1 => by rw [padTo, one_app_size, padTo_size b n]; omega
theorem l6a (b : ByteArray) (hb : b.size ≤ 974) (n : Nat) (hn : n ≤ 50) : ∀ (d i m : Nat), i + d = n → d < m →
    vloop EL 6 o10 noLo 0 100 L6a 0 m [(6, iv i), (5, sv (padTo b i)), (1, iv n), (0, sv b)] [] = some (.exit 0, [(4, .one .bad), (1, iv n), (5, sv (padTo b n)), (0, sv b)], [])
  | 0, i, m + 1, hi, hm => by
    have : i = n := by omega
    subst this
    rw [vloop_succ, r6a, tst_f (decide_eq_false (by omega))]
  | d + 1, i, m + 1, hi, hm => by
    have e : IntKind.wrap .i64 ((i : Int) + 1) = ((i + 1 : Nat) : Int) := by rw [i64_in _ ⟨by omega, by omega⟩]; rfl
    have et : (i : Int).tmod 4 = ((i % 4 : Nat) : Int) := rfl
    have hs := padTo_size b i
    have ih := l6a b hb n hn d (i + 1) m (by omega) (by omega)
    have fin : ∀ (r : Nat) (c : UInt8), i % 4 = r → padC i = c → ((⟨#[c]⟩ : ByteArray) ++ padTo b i) = padTo b (i + 1) := by intro r c h1 h2; rw [padTo, h2]
    have hsz : ∀ c : UInt8, decide (((⟨#[c]⟩ : ByteArray).size + (padTo b i).size) ≤ 9223372036854775807) = true := by
      intro c
      refine decide_eq_true ?_
      show 1 + (padTo b i).size ≤ _
      omega
    rw [vloop_succ, r6a, e, et, tst_t (decide_eq_true (by omega))]
    have hr : i % 4 = 0 ∨ i % 4 = 1 ∨ i % 4 = 2 ∨ i % 4 = 3 := by omega
    rcases hr with hr | hr | hr | hr
    · rw [hr]
      refine (show _ = chk (decide (((⟨#[9]⟩ : ByteArray).size + (padTo b i).size) ≤ 9223372036854775807)) (vloop EL 6 o10 noLo 0 100 L6a 0 m [(6, iv ((i + 1 : Nat) : Int)), (5, sv ((⟨#[9]⟩ : ByteArray) ++ padTo b i)), (1, iv n), (0, sv b)] []) from rfl).trans ?_
      rw [chk_t (hsz 9), fin 0 9 hr (by unfold padC; rw [hr]; rfl)]
      exact ih
    · rw [hr]
      refine (show _ = chk (decide (((⟨#[10]⟩ : ByteArray).size + (padTo b i).size) ≤ 9223372036854775807)) (vloop EL 6 o10 noLo 0 100 L6a 0 m [(6, iv ((i + 1 : Nat) : Int)), (5, sv ((⟨#[10]⟩ : ByteArray) ++ padTo b i)), (1, iv n), (0, sv b)] []) from rfl).trans ?_
      rw [chk_t (hsz 10), fin 1 10 hr (by unfold padC; rw [hr]; rfl)]
      exact ih
    · rw [hr]
      refine (show _ = chk (decide (((⟨#[13]⟩ : ByteArray).size + (padTo b i).size) ≤ 9223372036854775807)) (vloop EL 6 o10 noLo 0 100 L6a 0 m [(6, iv ((i + 1 : Nat) : Int)), (5, sv ((⟨#[13]⟩ : ByteArray) ++ padTo b i)), (1, iv n), (0, sv b)] []) from rfl).trans ?_
      rw [chk_t (hsz 13), fin 2 13 hr (by unfold padC; rw [hr]; rfl)]
      exact ih
    · rw [hr]
      refine (show _ = chk (decide (((⟨#[32]⟩ : ByteArray).size + (padTo b i).size) ≤ 9223372036854775807)) (vloop EL 6 o10 noLo 0 100 L6a 0 m [(6, iv ((i + 1 : Nat) : Int)), (5, sv ((⟨#[32]⟩ : ByteArray) ++ padTo b i)), (1, iv n), (0, sv b)] []) from rfl).trans ?_
      rw [chk_t (hsz 32), fin 3 32 hr (by unfold padC; rw [hr]; rfl)]
      exact ih
theorem l6b (n : Nat) (hn : n ≤ 50) (es es' : List (List At)) (ha : areT es = true) (ha' : areT es' = true) (hl : es.length = es'.length) (he : es.length ≤ 1025)
    (hp : ∀ i, i < es.length → eqTk (es'.getD i []) (sh n (es.getD i [])) = true ∧ 0 ≤ intA ((es.getD i []).getD 3 .bad) ∧ intA ((es.getD i []).getD 3 .bad) ≤ 1024) : ∀ (d i m : Nat), i + d = es.length → d < m →
    vloop EL 6 o10 noLo 0 100 L6b 0 m [(13, iv i), (10, tv es'), (1, iv n), (7, tv es)] [] = some (.exit 2, [(4, .one .bad)], [])
  | 0, i, m + 1, hi, hm => by
    rw [vloop_succ, r6b, tst_f (decide_eq_false (by omega))]
  | d + 1, i, m + 1, hi, hm => by
    have e : IntKind.wrap .i64 ((i : Int) + 1) = ((i + 1 : Nat) : Int) := by rw [i64_in _ ⟨by omega, by omega⟩]; rfl
    have k1 : decide (0 ≤ (i : Int)) = true := decide_eq_true (by omega)
    have k2 : decide ((i : Int) < (es.length : Int)) = true := decide_eq_true (by omega)
    have k3 : decide ((i : Int) < (es'.length : Int)) = true := decide_eq_true (by omega)
    have g1 := areT_get ha (i := i) (by omega)
    have g2 := areT_get ha' (i := i) (by omega)
    obtain ⟨p1, p2, p3⟩ := hp i (by omega)
    have w : IntKind.wrap .i64 (intA ((es.getD i []).getD 3 At.bad) + (n : Int)) = intA ((es.getD i []).getD 3 At.bad) + (n : Int) := i64_in _ ⟨by omega, by omega⟩
    rw [vloop_succ, r6b, e, show ((i : Int)).toNat = i from rfl, k1, k2, k3, g1, g2, w]
    have p1' : (intA ((es'.getD i []).getD 0 At.bad) == intA ((es.getD i []).getD 0 At.bad) && (bytesEq (strA ((es'.getD i []).getD 1 At.bad)) (strA ((es.getD i []).getD 1 At.bad)) && (intA ((es'.getD i []).getD 2 At.bad) == intA ((es.getD i []).getD 2 At.bad) && (intA ((es'.getD i []).getD 3 At.bad) == intA ((es.getD i []).getD 3 At.bad) + (n : Int) && true)))) = true := p1
    rw [p1']
    exact l6b n hn es es' ha ha' hl he hp d (i + 1) m (by omega) (by omega)
theorem id6a : firstId L6a = 5 := by kernel_rfl
theorem id6b : firstId L6b = 13 := by kernel_rfl
theorem lo6a_ok : LoopOK EL Try.prog lo6 100 L6a := by
  refine LoopOK.of_run (f := 6) (c := o10) (lo := noLo) T.tok c10 T.mo (fun _ _ => noLo_ok) (fun s M e s' M' t hl hev => ?_)
  unfold lo6 at hl
  rw [id6a] at hl
  split at hl
  · split at hl
    · rename_i i t' k b h1 h2 h3 h4
      obtain rfl := Option.some.inj hl
      obtain ⟨hc, hev2⟩ := br_some hev
      clear hev
      simp only [Bool.and_eq_true, decide_eq_true_eq, beq_iff_eq] at hc
      obtain ⟨⟨⟨⟨rfl, h0⟩, h50⟩, ht⟩, hb⟩ := hc
      have htb : t' = b := by unfold bytesEq at ht; exact data_eq (by simpa using ht)
      subst htb
      obtain ⟨n, rfl⟩ := Int.eq_ofNat_of_zero_le h0
      refine ⟨0, n + 1, [6, 5, 1, 0], ?_⟩
      simp only [keepT, List.map_cons, List.map_nil, h1, h2, h3, h4]
      exact (l6a t' hb n (by omega) n 0 (n + 1) (by omega) (by omega)).trans hev2
    · cases hl
  · rename_i h; cases h
  · cases hl
theorem lo6b_ok : LoopOK EL Try.prog lo6 100 L6b := by
  refine LoopOK.of_run (f := 6) (c := o10) (lo := noLo) T.tok c10 T.mo (fun _ _ => noLo_ok) (fun s M e s' M' t hl hev => ?_)
  unfold lo6 at hl
  rw [id6b] at hl
  split at hl
  · rename_i h; cases h
  · split at hl
    · rename_i i es' k es h1 h2 h3 h4
      obtain rfl := Option.some.inj hl
      obtain ⟨hc, hev2⟩ := br_some hev
      clear hev
      simp only [Bool.and_eq_true, decide_eq_true_eq, beq_iff_eq] at hc
      obtain ⟨⟨⟨⟨⟨⟨rfl, h0⟩, h50⟩, ha⟩, ha'⟩, hs⟩, he⟩ := hc
      obtain ⟨n, rfl⟩ := Int.eq_ofNat_of_zero_le h0
      unfold okShift at hs
      simp only [Bool.and_eq_true] at hs
      have hl := Nat.eq_of_beq_eq_true hs.1
      refine ⟨0, es.length + 1, [13, 10, 1, 7], ?_⟩
      simp only [keepT, List.map_cons, List.map_nil, h1, h2, h3, h4]
      refine (l6b n (by omega) es es' ha ha' hl he (fun i hi => ?_) es.length 0 (es.length + 1) (by omega) (by omega)).trans hev2
      have := List.all_eq_true.1 hs.2 i (List.mem_range.2 hi)
      simp only [Bool.and_eq_true, decide_eq_true_eq] at this
      exact ⟨this.1.1, this.1.2, this.2⟩
    · cases hl
  · cases hl
theorem loops6 : ∀ fn b, Try.prog.funcs[6]? = some fn → fn.body = some b → ∀ a ∈ loopsOf b, LoopOK EL Try.prog lo6 fn.ntmps a :=
  loops_of (fun a ha => by
    have e : loopsAt Try.prog 6 = [L6a, L6b] := by kernel_rfl
    rw [e] at ha
    rw [show ntmpsAt Try.prog 6 = 100 by kernel_rfl]
    simp only [List.mem_cons, List.not_mem_nil, or_false] at ha
    rcases ha with rfl | rfl
    · exact lo6a_ok
    · exact lo6b_ok)
theorem q6 (b : ByteArray) (k : Int) : vstep EL Try.prog lo6 0 o10 6 [sv b, iv k] [] =
tst (decide (k < 0)) (some (Sv.one (At.v (Value.bool true)), []))
  (tst (bif false then true else decide (k > 50)) (some (Sv.one (At.v (Value.bool true)), []))
    (tst (bif false then true else decide ((↑b.size : Int) > 974)) (some (Sv.one (At.v (Value.bool true)), []))
      (chk (true && decide (0 ≤ k) && decide (k ≤ 50) && bytesEq b b && decide (b.size ≤ 974))
        (tst (bif false then true else lexE b != lexE (padTo b k.toNat)) (some (Sv.one (At.v (Value.bool false)), []))
          (tst (bif false then true else (↑(lexL b).length : Int) != (↑(lexL (padTo b k.toNat)).length : Int))
            (some (Sv.one (At.v (Value.bool false)), []))
            (tst (lexE b != 0)
              (tst
                (bif false then true
                else bif true then lexA (padTo b k.toNat) != IntKind.wrap .i64 (lexA b + k) else false)
                (some (Sv.one (At.v (Value.bool false)), []))
                (chk
                  (true && decide (0 ≤ k) && decide (k ≤ 50) && areT (lexL b) && areT (lexL (padTo b k.toNat)) &&
                      okShift k (lexL b) (lexL (padTo b k.toNat)) &&
                    decide ((lexL b).length ≤ 1025))
                  (some (Sv.one (At.v (Value.bool true)), []))))
              (chk
                (true && decide (0 ≤ k) && decide (k ≤ 50) && areT (lexL b) && areT (lexL (padTo b k.toNat)) &&
                    okShift k (lexL b) (lexL (padTo b k.toNat)) &&
                  decide ((lexL b).length ≤ 1025))
                (some (Sv.one (At.v (Value.bool true)), []))))))))) := by kernel_rfl
/-! ### the plain law -/
/-- t is b with n bytes in front. -/
structure Pad (b t : ByteArray) (n : Nat) : Prop where
  size : t.size = n + b.size
  byte : ∀ i : Nat, t.data[n + i]? = b.data[i]?
theorem Pad.at {b t : ByteArray} {n : Nat} (h : Pad b t n) (i : Nat) : byteAt t (n + i) = byteAt b i := by
  unfold byteAt
  rw [List.getD_eq_getElem?_getD, List.getD_eq_getElem?_getD, Array.getElem?_toList, Array.getElem?_toList, h.byte]
theorem Pad.ext {b t : ByteArray} {n : Nat} (h : Pad b t n) {i j : Nat} (hj : j ≤ b.size) : t.extract (n + i) (n + j) = b.extract i j := by
  apply data_eq
  apply List.ext_getElem?
  intro x
  have h1 := h.size
  rw [ByteArray.data_extract, ByteArray.data_extract, Array.getElem?_toList, Array.getElem?_toList, Array.getElem?_extract, Array.getElem?_extract, show t.data.size = t.size from rfl, show b.data.size = b.size from rfl]
  by_cases hx : x < min j b.size - i
  · rw [if_pos hx, if_pos (by omega), Nat.add_assoc, h.byte]
  · rw [if_neg hx, if_neg (by omega)]
theorem Pad.run {b t : ByteArray} {n : Nat} (h : Pad b t n) (pr : Int → Bool) : ∀ (k i : Nat), runEnd pr t k (n + i) = n + runEnd pr b k i
  | 0, i => rfl
  | k + 1, i => by
    unfold runEnd
    rw [h.at]
    cases pr (byteAt b i) with
    | true => exact Pad.run h pr k (i + 1)
    | false => rfl
theorem Pad.to {b t : ByteArray} {n : Nat} (h : Pad b t n) (pr : Int → Bool) (i : Nat) : runTo pr t ((n + i : Nat) : Int) = (n : Int) + runTo pr b i := by
  have h1 := h.size
  unfold runTo
  rw [show (((n + i : Nat) : Int)).toNat = n + i from rfl, show ((i : Int)).toNat = i from rfl, show t.size - (n + i) = b.size - i by omega, h.run]
  omega
theorem Pad.pby {b t : ByteArray} {n : Nat} (h : Pad b t n) (i : Nat) : byP t ((n + i : Nat) : Int) = byP b i := h.at i
theorem Pad.pq {b t : ByteArray} {n : Nat} (h : Pad b t n) (i : Nat) : nxQ t ((n + i : Nat) : Int) = (n : Int) + nxQ b i := by
  unfold nxQ
  rw [h.pby, h.to, h.to, h.to]
  cases smallB (byP b i) <;> cases capB (byP b i) <;> cases digB (byP b i) <;> cases punB (byP b i) <;> first | rfl | (dsimp only [cond]; omega)
theorem Pad.pseg {b t : ByteArray} {n : Nat} (h : Pad b t n) {i : Nat} (hi : i < b.size) : seg t ((n + i : Nat) : Int) = seg b i := by
  obtain ⟨j, h1, h2, _⟩ := nxQ_gt hi
  unfold seg
  rw [h.pq, h1, show ((n : Int) + (j : Int)).toNat = n + j by omega, show (((n + i : Nat) : Int)).toNat = n + i from rfl, show ((i : Int)).toNat = i from rfl, show ((j : Int)).toNat = j from rfl]
  exact h.ext h2
theorem Pad.pe {b t : ByteArray} {n : Nat} (h : Pad b t n) {i : Nat} (hi : i < b.size) : nxE t ((n + i : Nat) : Int) = nxE b i := by
  unfold nxE
  rw [h.pby, h.pseg hi]
theorem Pad.ptok {b t : ByteArray} {n : Nat} (h : Pad b t n) {i : Nat} (hi : i < b.size) : tokP t ((n + i : Nat) : Int) = sh n (tokP b i) := by
  unfold tokP nxT nxN
  rw [h.pby, h.pseg hi]
  show tk _ _ _ _ = tk _ _ _ ((i : Int) + (n : Int))
  rw [show ((n + i : Nat) : Int) = (i : Int) + (n : Int) by omega]
  rfl
theorem Pad.lex {b t : ByteArray} {n : Nat} (h : Pad b t n) : ∀ (k i : Nat) (es : List (List At)), i ≤ b.size → lexP t k ((n + i : Nat) : Int) (es.map (sh n)) = ((lexP b k i es).1.map (sh n), (n : Int) + (lexP b k i es).2.1, (lexP b k i es).2.2)
  | 0, i, es, hi => by
    unfold lexP
    show (_, ((n + i : Nat) : Int), (0 : Int)) = (_, (n : Int) + (i : Int), (0 : Int))
    rw [show ((n + i : Nat) : Int) = (n : Int) + (i : Int) by omega]
  | k + 1, i, es, hi => by
    have hge := runTo_ge spaceB b i hi
    obtain ⟨q, hq⟩ := Int.eq_ofNat_of_zero_le (show 0 ≤ runTo spaceB b i by omega)
    have hq' : runTo spaceB b i = (q : Int) := hq
    have h1 := h.size
    unfold lexP
    rw [h.to, hq', show (n : Int) + (q : Int) = ((n + q : Nat) : Int) by omega]
    rw [hq'] at hge
    have hs : ((((n + q : Nat) : Int)) == (t.size : Int)) = ((q : Int) == (b.size : Int)) := by
      rw [Bool.eq_iff_iff, beq_iff_eq, beq_iff_eq]; omega
    rw [hs]
    cases hc : ((q : Int) == (b.size : Int)) with
    | true =>
      show (_, ((n + q : Nat) : Int), (0 : Int)) = (_, (n : Int) + (q : Int), (0 : Int))
      rw [show ((n + q : Nat) : Int) = (n : Int) + (q : Int) by omega]
    | false =>
      have hlt : q < b.size := by
        have : ¬ ((q : Int) = (b.size : Int)) := by simpa using hc
        omega
      obtain ⟨j, hj, hj1, _⟩ := nxQ_gt hlt
      dsimp only
      rw [h.pe hlt, h.ptok hlt, h.pq, hj]
      cases (nxE b q == 0) with
      | true =>
        have := Pad.lex h k j (es ++ [tokP b q]) hj1
        rw [List.map_append] at this
        rw [show (n : Int) + (j : Int) = ((n + j : Nat) : Int) by omega]
        exact this
      | false =>
        show (_, ((n + q : Nat) : Int), _) = (_, (n : Int) + (q : Int), _)
        rw [show ((n + q : Nat) : Int) = (n : Int) + (q : Int) by omega]
theorem lexP_fuel {b : ByteArray} : ∀ (k k' i : Nat) (es : List (List At)), i ≤ b.size → b.size - i < k → b.size - i < k' → lexP b k i es = lexP b k' i es
  | 0, _, i, es, hi, h1, h2 => by omega
  | k + 1, 0, i, es, hi, h1, h2 => by omega
  | k + 1, k' + 1, i, es, hi, h1, h2 => by
    have hge := runTo_ge spaceB b i hi
    obtain ⟨q, hq⟩ := Int.eq_ofNat_of_zero_le (show 0 ≤ runTo spaceB b i by omega)
    have hq' : runTo spaceB b i = (q : Int) := hq
    unfold lexP
    rw [hq'] at hge ⊢
    cases hs : ((q : Int) == (b.size : Int)) with
    | true => rfl
    | false =>
      have hlt : q < b.size := by
        have : ¬ ((q : Int) = (b.size : Int)) := by simpa using hs
        omega
      obtain ⟨j, hj, hj1, hj2⟩ := nxQ_gt hlt
      dsimp only
      cases hE : (nxE b q == 0) with
      | true => rw [hj]; exact lexP_fuel k k' j _ hj1 (by have := hj2 hE; omega) (by have := hj2 hE; omega)
      | false => rfl
theorem padTo_pad (b : ByteArray) : ∀ n, Pad b (padTo b n) n
  | 0 => ⟨by rw [padTo]; omega, fun i => by rw [padTo, Nat.zero_add]⟩
  | n + 1 => by
    refine ⟨padTo_size b (n + 1), fun i => ?_⟩
    have ih := (padTo_pad b n).byte i
    rw [padTo, ByteArray.data_append, Array.getElem?_append_right (by show 1 ≤ _; omega)]
    show (padTo b n).data[n + 1 + i - 1]? = _
    rw [show n + 1 + i - 1 = n + i by omega, ih]
theorem padC_space (n : Nat) : spaceB ((padC n).toNat : Int) = true := by
  unfold padC
  split <;> rfl
theorem padTo_space (b : ByteArray) : ∀ (n i : Nat), i < n → spaceB (byteAt (padTo b n) i) = true
  | n + 1, 0, _ => by
    have : byteAt (padTo b (n + 1)) 0 = ((padC n).toNat : Int) := by
      unfold byteAt
      rw [List.getD_eq_getElem?_getD, Array.getElem?_toList, padTo, ByteArray.data_append, Array.getElem?_append_left (by show 0 < 1; omega)]
      rfl
    rw [this]; exact padC_space n
  | n + 1, i + 1, h => by
    have : byteAt (padTo b (n + 1)) (i + 1) = byteAt (padTo b n) i := by
      unfold byteAt
      rw [List.getD_eq_getElem?_getD, List.getD_eq_getElem?_getD, Array.getElem?_toList, Array.getElem?_toList, padTo, ByteArray.data_append, Array.getElem?_append_right (by show 1 ≤ _; omega)]
      rfl
    rw [this]; exact padTo_space b n i (by omega)
theorem lexP_skip {b : ByteArray} {k : Nat} {es : List (List At)} : ∀ (d i : Nat), i + d ≤ b.size → (∀ x, i ≤ x → x < i + d → spaceB (byteAt b x) = true) → lexP b (k + 1) i es = lexP b (k + 1) ((i + d : Nat) : Int) es
  | 0, i, _, _ => rfl
  | d + 1, i, h, hsp => by
    rw [lexP_space (by omega) (hsp i (by omega) (by omega)), lexP_skip d (i + 1) (by omega) (fun x h1 h2 => hsp x (by omega) (by omega)), show i + 1 + d = i + (d + 1) by omega]
theorem lexT_pad (b : ByteArray) (n : Nat) : lexT (padTo b n) = ((lexT b).1.map (sh n), (n : Int) + (lexT b).2.1, (lexT b).2.2) := by
  have hp := padTo_pad b n
  have h1 := hp.size
  unfold lexT
  have e1 : lexP (padTo b n) ((padTo b n).size + 1) 0 [] = lexP (padTo b n) ((padTo b n).size + 1) ((0 + n : Nat) : Int) [] :=
    lexP_skip n 0 (by omega) (fun x _ h => padTo_space b n x (by omega))
  rw [e1, Nat.zero_add, lexP_fuel ((padTo b n).size + 1) (b.size + 1) n [] (by omega) (by omega) (by omega)]
  exact hp.lex (b.size + 1) 0 [] (by omega)
theorem chain_at {b : ByteArray} : ∀ (ts : List (List At)) (lo : Nat), chainT b lo ts → ∀ x ∈ ts, ∃ q : Nat, q < b.size ∧ x = tokP b q
  | [], lo, _, x, hx => nomatch hx
  | y :: ts, lo, h, x, hx => by
    obtain ⟨q, h1, h2, rfl, hE, j, hj, hch⟩ := h
    cases hx with
    | head => exact ⟨q, h2, rfl⟩
    | tail _ hx => exact chain_at ts j hch x hx
theorem e6 (b : ByteArray) (k : Int) : vstep EL Try.prog lo6 0 o10 6 [sv b, iv k] [] = some (bv true, []) := by
  rw [q6]
  cases h0 : decide (k < 0) with
  | true => rfl
  | false =>
    cases h50 : decide (k > 50) with
    | true => rfl
    | false =>
      cases h974 : decide ((b.size : Int) > 974) with
      | true => rfl
      | false =>
        have h0 := of_decide_eq_false h0
        have h50 := of_decide_eq_false h50
        have h974 := of_decide_eq_false h974
        obtain ⟨n, rfl⟩ := Int.eq_ofNat_of_zero_le (show 0 ≤ k by omega)
        have hb : b.size ≤ 974 := by omega
        have hn : n ≤ 50 := by omega
        rw [show ((n : Int)).toNat = n from rfl]
        have hts := padTo_size b n
        have d1 : decide (0 ≤ (n : Int)) = true := decide_eq_true (by omega)
        have d2 : decide ((n : Int) ≤ 50) = true := decide_eq_true (by omega)
        have d3 : decide (b.size ≤ 974) = true := decide_eq_true hb
        have d4 : bytesEq b b = true := by unfold bytesEq; simp
        have d5 : decide ((b.size : Int) > 1024) = false := decide_eq_false (by omega)
        have d6 : decide (((padTo b n).size : Int) > 1024) = false := decide_eq_false (by omega)
        have hT := lexT_pad b n
        have hEE : lexE (padTo b n) = lexE b := by unfold lexE; rw [d5, d6, hT]
        have hbad : (lexE b != lexE (padTo b n)) = false := by rw [hEE]; unfold bne; rw [beq_self_eq_true]; rfl
        have hLL : lexL (padTo b n) = (lexL b).map (sh n) := by
          unfold lexL
          rw [d5, d6, hT]
          dsimp only [cond]
          cases ((lexT b).2.2 == 0) with
          | true =>
            show (lexT b).1.map (sh n) ++ [endT (padTo b n)] = ((lexT b).1 ++ [endT b]).map (sh n)
            rw [List.map_append]
            show _ = _ ++ [tk 5 ⟨#[]⟩ 0 ((b.size : Int) + (n : Int))]
            rw [show endT (padTo b n) = tk 5 ⟨#[]⟩ 0 ((b.size : Int) + (n : Int)) by show tk 5 ⟨#[]⟩ 0 ((padTo b n).size : Int) = _; rw [hts, show ((n + b.size : Nat) : Int) = (b.size : Int) + (n : Int) by omega]]
          | false => rfl
        have hlen : (((lexL b).length : Int) != ((lexL (padTo b n)).length : Int)) = false := by
          rw [hLL, List.length_map]; unfold bne; rw [beq_self_eq_true]; rfl
        have hat : ∀ x ∈ lexL b, 0 ≤ intA (x.getD 3 .bad) ∧ intA (x.getD 3 .bad) ≤ 1024 := by
          intro x hx
          unfold lexL at hx
          rw [d5] at hx
          cases hc : ((lexT b).2.2 == 0) with
          | false => rw [hc] at hx; cases hx
          | true =>
            rw [hc] at hx
            obtain ⟨ts, h3, h4⟩ := lexP_chain (b := b) (b.size + 1) 0 [] (by omega)
            have hx' : x ∈ (lexT b).1 ++ [endT b] := hx
            have h3' : (lexT b).1 = [] ++ ts := h3
            rw [h3', List.nil_append] at hx'
            rcases List.mem_append.1 hx' with hx | hx
            · obtain ⟨q, hq, rfl⟩ := chain_at ts 0 h4 x hx
              show 0 ≤ (q : Int) ∧ (q : Int) ≤ 1024
              omega
            · rw [List.mem_singleton] at hx
              subst hx
              show 0 ≤ (b.size : Int) ∧ (b.size : Int) ≤ 1024
              omega
        have hok : okShift n (lexL b) (lexL (padTo b n)) = true := by
          unfold okShift
          rw [hLL, List.length_map, Nat.beq_refl, Bool.true_and]
          refine List.all_eq_true.2 fun i hi => ?_
          have hi := List.mem_range.1 hi
          have hx := hat _ (List.getElem_mem hi)
          have e1 : (lexL b).getD i [] = (lexL b)[i] := by rw [List.getD_eq_getElem?_getD, List.getElem?_eq_getElem hi]; rfl
          have e2 : ((lexL b).map (sh n)).getD i [] = sh n ((lexL b)[i]) := by rw [List.getD_eq_getElem?_getD, List.getElem?_map, List.getElem?_eq_getElem hi]; rfl
          rw [e1, e2, eqTk_self, decide_eq_true hx.1, decide_eq_true hx.2]; rfl
        have hl25 : decide ((lexL b).length ≤ 1025) = true := decide_eq_true (lexL_len b)
        rw [d1, d2, d3, d4, hbad, hlen, lexL_are, lexL_are, hok, hl25]
        cases hE : (lexE b != 0) with
        | false => rfl
        | true =>
          have hA : lexA (padTo b n) = lexA b + n := by
            have hz : ((lexT b).2.2 == 0) = false := by
              cases hc : ((lexT b).2.2 == 0) with
              | false => rfl
              | true => unfold lexE at hE; rw [d5, hc] at hE; cases hE
            unfold lexA
            rw [d5, d6, hT]
            dsimp only [cond]
            rw [hz]
            show (n : Int) + (lexT b).2.1 = (lexT b).2.1 + n
            omega
          have hAr : 0 ≤ lexA b ∧ lexA b ≤ 1024 := by
            unfold lexA
            rw [d5]
            dsimp only [cond]
            cases ((lexT b).2.2 == 0) with
            | true => exact ⟨by show (0 : Int) ≤ 0; omega, by show (0 : Int) ≤ 1024; omega⟩
            | false =>
              have gen : ∀ (k i : Nat) (es : List (List At)), i ≤ b.size → 0 ≤ (lexP b k i es).2.1 ∧ (lexP b k i es).2.1 ≤ b.size := by
                intro k
                induction k with
                | zero => intro i es hi; unfold lexP; dsimp only; omega
                | succ k ih =>
                  intro i es hi
                  have hge := runTo_ge spaceB b i hi
                  obtain ⟨q, hq⟩ := Int.eq_ofNat_of_zero_le (show 0 ≤ runTo spaceB b i by omega)
                  have hq' : runTo spaceB b i = (q : Int) := hq
                  unfold lexP
                  rw [hq'] at hge ⊢
                  cases hs : ((q : Int) == (b.size : Int)) with
                  | true => dsimp only; omega
                  | false =>
                    have hlt : q < b.size := by
                      have : ¬ ((q : Int) = (b.size : Int)) := by simpa using hs
                      omega
                    obtain ⟨j, hj, hj1, _⟩ := nxQ_gt hlt
                    dsimp only
                    cases (nxE b q == 0) with
                    | true => dsimp only; rw [hj]; exact ih j _ hj1
                    | false => dsimp only; omega
              have := gen (b.size + 1) 0 [] (by omega)
              show 0 ≤ (lexP b (b.size + 1) ((0 : Nat) : Int) []).2.1 ∧ (lexP b (b.size + 1) ((0 : Nat) : Int) []).2.1 ≤ 1024
              omega
          have w : IntKind.wrap .i64 (lexA b + (n : Int)) = lexA b + (n : Int) := i64_in _ ⟨by omega, by omega⟩
          rw [hA, w]
          have : (lexA b + (n : Int) != lexA b + (n : Int)) = false := by unfold bne; rw [beq_self_eq_true]; rfl
          rw [this]
          rfl
end Go.Proofs.Ytfbdceccefmloaa
