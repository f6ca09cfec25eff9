import Derived.Test.YtfbdceccefmloaaLexJ
namespace Go.Proofs.Ytfbdceccefmloaa
open Go Go.Vi Go.IntWalk
set_option maxRecDepth 100000
set_option linter.unusedVariables false
set_option linter.unusedSimpArgs false
noncomputable def gd (p : Prop) : Bool := @decide p (Classical.propDecidable p)
theorem gd_t {p : Prop} (h : p) : gd p = true := by unfold gd; exact @decide_eq_true p (Classical.propDecidable p) h
theorem of_gd {p : Prop} (h : gd p = true) : p := @of_decide_eq_true p (Classical.propDecidable p) h
abbrev atI (es : List (List At)) (i : Nat) : Int := intA ((es.getD i []).getD 3 .bad)
/-- The end of a text without the space at its end. -/
def trimTo (b : ByteArray) (lo : Nat) : Nat → Nat
  | 0 => 0
  | h + 1 => match decide (lo < h + 1) && spaceB (byteAt b h) with | true => trimTo b lo h | false => h + 1
def trimI (b : ByteArray) (es : List (List At)) (i : Int) : Int := (trimTo b (atI es i.toNat).toNat (atI es (i.toNat + 1)).toNat : Nat)
def textOf (b : ByteArray) (es : List (List At)) (i : Int) : ByteArray := b.extract (atI es i.toNat).toNat (trimI b es i).toNat
structure OkTx (b : ByteArray) (es : List (List At)) (i : Int) : Prop where
  i0 : 0 ≤ i
  i1 : i + 1 < es.length
  are : areT es = true
  a0 : 0 ≤ atI es i.toNat
  a1 : atI es i.toNat ≤ atI es (i.toNat + 1)
  a2 : atI es (i.toNat + 1) ≤ b.size
  hb : b.size ≤ 1024
  he : es.length ≤ 1025
noncomputable def okTx (b : ByteArray) (es : List (List At)) (i : Int) : Bool := gd (OkTx b es i)
noncomputable def lo14 : Lo := fun a s M => match Nat.beq (firstId a) 2, lookT s 7, lookT s 2, lookT s 1, lookT s 0, M with
  | true, .one (.v (.int .i64 h)), .one (.v (.int .i64 i)), .one (.ro true 4 es), .one (.v (.string b)), [] =>
    some (.br (h == atI es (i.toNat + 1) && okTx b es i) (.ok (.exit 0, [(6, .one .bad), (7, iv (trimI b es i)), (2, iv i), (1, tv es), (0, sv b)], [])) .no)
  | _, _, _, _, _, _ => none
def joinS (b : ByteArray) : List Nat → ByteArray
  | [] => ⟨#[]⟩
  | q :: qs => seg b q ++ ⟨#[32]⟩ ++ joinS b qs
/-- Tokens at these places, only space between them. -/
def chQ (b : ByteArray) : Nat → List Nat → Prop
  | lo, [] => lo ≤ b.size ∧ ∀ y, lo ≤ y → y < b.size → spaceB (byteAt b y) = true
  | lo, q :: qs => lo ≤ q ∧ q < b.size ∧ (∀ y, lo ≤ y → y < q → spaceB (byteAt b y) = true) ∧ (nxE b q == 0) = true ∧ ∃ j : Nat, nxQ b q = j ∧ chQ b j qs
def toks (b : ByteArray) (qs : List Nat) : List (List At) := qs.map fun q => tokP b (q : Nat)
noncomputable def joinT (b : ByteArray) (es : List (List At)) : ByteArray := joinS b (Classical.epsilon fun qs => chQ b 0 qs ∧ es = toks b qs ++ [endT b])
structure OkJ (b : ByteArray) (es : List (List At)) : Prop where
  hb : b.size ≤ 1024
  he : es.length ≤ 1025
  are : areT es = true
  ch : ∃ qs, chQ b 0 qs ∧ es = toks b qs ++ [endT b]
noncomputable def okJ (b : ByteArray) (es : List (List At)) : Bool := gd (OkJ b es)
def eq3 (x y : List At) : Bool := intA (x.getD 0 .bad) == intA (y.getD 0 .bad) && (bytesEq (strA (x.getD 1 .bad)) (strA (y.getD 1 .bad)) && intA (x.getD 2 .bad) == intA (y.getD 2 .bad))
def eqs : List (List At) → List (List At) → Bool
  | [], [] => true
  | x :: xs, y :: ys => eq3 x y && eqs xs ys
  | _, _ => false
noncomputable def lo5 : Lo := fun a s M => match firstId a, M with
  | 9, [] => match lookT s 10, lookT s 3, lookT s 0, lookT s 9 with
    | .one (.v (.int .i64 i)), .one (.ro true 4 es), .one (.v (.string b)), .one (.v (.string t)) =>
      some (.br (i == 0 && Nat.beq t.size 0 && okJ b es) (.ok (.exit 0, [(2, .one .bad), (3, tv es), (9, sv (joinT b es))], [])) .no)
    | _, _, _, _ => none
  | 18, [] => match lookT s 14, lookT s 3, lookT s 11 with
    | .one (.v (.int .i64 i)), .one (.ro true 4 es), .one (.ro true 4 es') =>
      some (.br (i == 0 && areT es && areT es' && decide (es.length ≤ 1025) && eqs es' es) (.ok (.exit 2, [(2, .one .bad)], [])) .no)
    | _, _, _ => none
  | _, _ => none

noncomputable abbrev L14 : Code := lcode Try.prog 14 2
theorem r14 (m : Nat) (b : ByteArray) (es : List (List At)) (i h : Int) : vround EL 14 o10 noLo 0 38 L14 0 m [(7, iv h), (2, iv i), (1, tv es), (0, sv b)] [] =
chk (decide (0 ≤ i))
  (chk (decide (i < (↑es.length : Int)))
    (chk (okRow [SK.i IntKind.i64, SK.s, SK.i IntKind.i64, SK.i IntKind.i64] (es.getD i.toNat []))
      (tst (decide (h > intA ((es.getD i.toNat []).getD 3 At.bad)))
        (chk (decide (0 ≤ IntKind.wrap .i64 (h - 1)))
          (chk (decide (IntKind.wrap .i64 (h - 1) < (↑b.size : Int)))
            (tst (bif true then spaceB (byteAt b (IntKind.wrap .i64 (h - 1)).toNat) else false)
              (vloop EL 14 o10 noLo 0 38 L14 0 m
                [(7, Sv.one (At.v (Value.int IntKind.i64 (IntKind.wrap .i64 (h - 1))))),
                  (2, Sv.one (At.v (Value.int IntKind.i64 i))), (1, Sv.one (At.ro true 4 es)),
                  (0, Sv.one (At.v (Value.string b)))]
                [])
              (some
                (Ex.exit 0,
                  [(6, Sv.one At.bad), (7, Sv.one (At.v (Value.int IntKind.i64 h))),
                    (2, Sv.one (At.v (Value.int IntKind.i64 i))), (1, Sv.one (At.ro true 4 es)),
                    (0, Sv.one (At.v (Value.string b)))],
                  [])))))
        (some
          (Ex.exit 0,
            [(6, Sv.one At.bad), (7, Sv.one (At.v (Value.int IntKind.i64 h))),
              (2, Sv.one (At.v (Value.int IntKind.i64 i))), (1, Sv.one (At.ro true 4 es)),
              (0, Sv.one (At.v (Value.string b)))],
            []))))) := by kernel_rfl
theorem l14 {b : ByteArray} {es : List (List At)} {i : Int} (ok : OkTx b es i) : ∀ (h m : Nat), (h : Int) ≤ b.size → h < m →
    vloop EL 14 o10 noLo 0 38 L14 0 m [(7, iv h), (2, iv i), (1, tv es), (0, sv b)] [] = some (.exit 0, [(6, .one .bad), (7, iv ((trimTo b (atI es i.toNat).toNat h : Nat) : Int)), (2, iv i), (1, tv es), (0, sv b)], [])
  | h, m + 1, hb, hm => by
    have i0 := ok.i0
    have i1 := ok.i1
    have a0 : 0 ≤ intA ((es.getD i.toNat []).getD 3 At.bad) := ok.a0
    have k1 : decide (0 ≤ i) = true := decide_eq_true i0
    have k2 : decide (i < (es.length : Int)) = true := decide_eq_true (by omega)
    have k3 := areT_get ok.are (i := i.toNat) (by omega)
    have hbb := ok.hb
    rw [vloop_succ, r14, k1, k2, k3]
    cases h with
    | zero =>
      rw [decide_eq_false (show ¬ (((0 : Nat) : Int) > intA ((es.getD i.toNat []).getD 3 At.bad)) by omega)]
      rfl
    | succ h =>
      have w : IntKind.wrap .i64 (((h + 1 : Nat) : Int) - 1) = (h : Int) := (i64_in _ ⟨by omega, by omega⟩).trans (by omega)
      have k4 : decide (0 ≤ (h : Int)) = true := decide_eq_true (by omega)
      have k5 : decide ((h : Int) < (b.size : Int)) = true := decide_eq_true (by omega)
      have e : decide (((h + 1 : Nat) : Int) > intA ((es.getD i.toNat []).getD 3 At.bad)) = decide ((atI es i.toNat).toNat < h + 1) := by
        congr 1; apply propext; show _ ↔ (intA ((es.getD i.toNat []).getD 3 At.bad)).toNat < h + 1; omega
      rw [w, k4, k5, e, show ((h : Int)).toNat = h from rfl]
      unfold trimTo
      cases e1 : decide ((atI es i.toNat).toNat < h + 1) with
      | false => rfl
      | true =>
        cases e2 : spaceB (byteAt b h) with
        | false => rfl
        | true => exact l14 ok h m (by omega) (by omega)
theorem lo14_ok : LoopOK EL Try.prog lo14 38 L14 := by
  refine LoopOK.of_run (f := 14) (c := o10) (lo := noLo) T.tok c10 T.mo (fun _ _ => noLo_ok) (fun s M e s' M' t hl hev => ?_)
  unfold lo14 at hl
  split at hl
  · rename_i h i es b h1 h2 h3 h4 h5
    obtain rfl := Option.some.inj hl
    obtain ⟨hc, hev2⟩ := br_some hev
    clear hev
    simp only [Bool.and_eq_true, beq_iff_eq] at hc
    obtain ⟨hh, hok⟩ := hc
    have ok : OkTx b es i := of_gd hok
    have a0 := ok.a0
    have a1 := ok.a1
    have a2 := ok.a2
    have a3 := ok.hb
    obtain ⟨n, hn⟩ := Int.eq_ofNat_of_zero_le (show 0 ≤ atI es (i.toNat + 1) by omega)
    have hn' : atI es (i.toNat + 1) = (n : Int) := hn
    have hnh : h = (n : Int) := hh.trans hn'
    subst hnh
    refine ⟨0, n + 1, [7, 2, 1, 0], ?_⟩
    simp only [keepT, List.map_cons, List.map_nil, h2, h3, h4, h5]
    refine (l14 ok n (n + 1) (by omega) (by omega)).trans ?_
    unfold trimI at hev2
    rw [hn', show ((n : Int)).toNat = n from rfl] at hev2
    exact hev2
  · cases hl
theorem loops14 : ∀ fn b, Try.prog.funcs[14]? = some fn → fn.body = some b → ∀ a ∈ loopsOf b, LoopOK EL Try.prog lo14 fn.ntmps a :=
  loops_of (fun a ha => by
    have e : loopsAt Try.prog 14 = [L14] := by kernel_rfl
    rw [e] at ha
    simp only [List.mem_singleton] at ha
    subst ha
    rw [show ntmpsAt Try.prog 14 = 38 by kernel_rfl]; exact lo14_ok)
theorem q14 (b : ByteArray) (es : List (List At)) (i : Int) : vstep EL Try.prog lo14 0 o10 14 [sv b, tv es, iv i] [] =
chk (decide (0 ≤ IntKind.wrap .i64 (i + 1)))
  (chk (decide (IntKind.wrap .i64 (i + 1) < (↑es.length : Int)))
    (chk
      (okRow [SK.i IntKind.i64, SK.s, SK.i IntKind.i64, SK.i IntKind.i64] (es.getD (IntKind.wrap .i64 (i + 1)).toNat []))
      (chk (intA ((es.getD (IntKind.wrap .i64 (i + 1)).toNat []).getD 3 At.bad) == atI es (i.toNat + 1) && okTx b es i)
        (chk (decide (0 ≤ i))
          (chk (decide (i < (↑es.length : Int)))
            (chk (okRow [SK.i IntKind.i64, SK.s, SK.i IntKind.i64, SK.i IntKind.i64] (es.getD i.toNat []))
              (chk (decide (0 ≤ intA ((es.getD i.toNat []).getD 3 At.bad)))
                (chk (decide (intA ((es.getD i.toNat []).getD 3 At.bad) ≤ trimI b es i))
                  (chk (decide (trimI b es i ≤ (↑b.size : Int)))
                    (some
                      (Sv.one
                          (At.v
                            (Value.string
                              (b.extract (intA ((es.getD i.toNat []).getD 3 At.bad)).toNat (trimI b es i).toNat))),
                        []))))))))))) := by kernel_rfl
theorem trimTo_le (b : ByteArray) (lo : Nat) : ∀ h, lo ≤ h → lo ≤ trimTo b lo h ∧ trimTo b lo h ≤ h
  | 0, hl => by unfold trimTo; omega
  | h + 1, hl => by
    unfold trimTo
    cases e : decide (lo < h + 1) && spaceB (byteAt b h) with
    | false => dsimp only; omega
    | true =>
      have h1 : lo < h + 1 := by
        cases e1 : decide (lo < h + 1) with
        | true => exact of_decide_eq_true e1
        | false => rw [e1] at e; cases e
      have := trimTo_le b lo h (by omega)
      dsimp only; omega
theorem e14 (b : ByteArray) (es : List (List At)) (i : Int) (ok : OkTx b es i) : vstep EL Try.prog lo14 0 o10 14 [sv b, tv es, iv i] [] = some (sv (textOf b es i), []) := by
  have i0 := ok.i0
  have i1 := ok.i1
  have he := ok.he
  have a0 := ok.a0
  have a1 := ok.a1
  have a2 := ok.a2
  obtain ⟨n, rfl⟩ := Int.eq_ofNat_of_zero_le i0
  have w : IntKind.wrap .i64 ((n : Int) + 1) = ((n + 1 : Nat) : Int) := (i64_in _ ⟨by omega, by omega⟩).trans (by omega)
  have k0 : decide (0 ≤ ((n + 1 : Nat) : Int)) = true := decide_eq_true (by omega)
  have k1 : decide (((n + 1 : Nat) : Int) < (es.length : Int)) = true := decide_eq_true (by omega)
  have k2 : decide (0 ≤ (n : Int)) = true := decide_eq_true (by omega)
  have k3 : decide ((n : Int) < (es.length : Int)) = true := decide_eq_true (by omega)
  have g0 := areT_get ok.are (i := n) (by omega)
  have g1 := areT_get ok.are (i := n + 1) (by omega)
  have hok : okTx b es n = true := gd_t ok
  rw [q14, w, show (((n + 1 : Nat) : Int)).toNat = n + 1 from rfl, show ((n : Int)).toNat = n from rfl, k0, k1, k2, k3, g0, g1, hok]
  rw [show ((n : Int)).toNat = n from rfl] at a0 a1 a2
  have t1 : atI es n ≤ trimI b es n := by
    have := trimTo_le b (atI es n).toNat (atI es (n + 1)).toNat (by omega)
    show atI es n ≤ ((trimTo b (atI es n).toNat (atI es (n + 1)).toNat : Nat) : Int)
    omega
  have t2 : trimI b es n ≤ (b.size : Int) := by
    have := trimTo_le b (atI es n).toNat (atI es (n + 1)).toNat (by omega)
    show ((trimTo b (atI es n).toNat (atI es (n + 1)).toNat : Nat) : Int) ≤ _
    omega
  have k4 : decide (0 ≤ intA ((es.getD n []).getD 3 At.bad)) = true := decide_eq_true a0
  have k5 : decide (intA ((es.getD n []).getD 3 At.bad) ≤ trimI b es n) = true := decide_eq_true t1
  have k6 : decide (trimI b es n ≤ (b.size : Int)) = true := decide_eq_true t2
  rw [k4, k5, k6]
  have k7 : (intA ((es.getD (n + 1) []).getD 3 At.bad) == atI es (n + 1)) = true := beq_self_eq_true _
  rw [k7]
  rfl
noncomputable def F14 (a : List Sv) (M : List Box) : Tr := match a, M with
  | [.one (.v (.string b)), .one (.ro true 4 es), .one (.v (.int .i64 i))], [] => .br (okTx b es i) (.ok (sv (textOf b es i), [])) .no
  | _, _ => .no
noncomputable def o14 : Orc := over o10 14 F14
theorem c14 : CallOK EL Try.prog o14 := over_ok T.tok T.mo T.ng c10 fun args M x hx => by
  unfold F14 at hx
  split at hx
  · rename_i b es i
    obtain ⟨hc, hx⟩ := br_some hx
    exact ⟨lo14, 0, loops14, (e14 b es i (of_gd hc)).trans hx⟩
  · cases hx
noncomputable abbrev L5a : Code := lcode Try.prog 5 9
noncomputable abbrev L5b : Code := lcode Try.prog 5 18
theorem r5a (m : Nat) (i : Int) (b t : ByteArray) (es : List (List At)) : vround EL 5 o14 noLo 0 117 L5a 0 m [(10, iv i), (3, tv es), (0, sv b), (9, sv t)] [] =
tst (decide (IntKind.wrap .i64 (i + 1) < (↑es.length : Int)))
  (chk (okTx b es i)
    (chk (decide (t.size + (textOf b es i).size ≤ 9223372036854775807))
      (chk (decide ((t ++ textOf b es i).size + 1 ≤ 9223372036854775807))
        (vloop EL 5 o14 noLo 0 117 L5a 0 m
          [(10, Sv.one (At.v (Value.int IntKind.i64 (IntKind.wrap .i64 (i + 1))))), (3, Sv.one (At.ro true 4 es)),
            (0, Sv.one (At.v (Value.string b))),
            (9, Sv.one (At.v (Value.string (t ++ textOf b es i ++ (ByteArray.mk (Array.mk [UInt8.ofNat 32]))))))]
          []))))
  (some (Ex.exit 0, [(2, Sv.one At.bad), (3, Sv.one (At.ro true 4 es)), (9, Sv.one (At.v (Value.string t)))], [])) := by kernel_rfl
theorem r5b (m : Nat) (i : Int) (es es' : List (List At)) : vround EL 5 o14 noLo 0 117 L5b 0 m [(14, iv i), (3, tv es), (11, tv es')] [] =
tst (decide (i < (↑es.length : Int)))
  (chk (decide (0 ≤ i))
    (chk (decide (i < (↑es'.length : Int)))
      (chk (okRow [SK.i IntKind.i64, SK.s, SK.i IntKind.i64, SK.i IntKind.i64] (es'.getD i.toNat []))
        (chk (decide (0 ≤ i))
          (chk (decide (i < (↑es.length : Int)))
            (chk (okRow [SK.i IntKind.i64, SK.s, SK.i IntKind.i64, SK.i IntKind.i64] (es.getD i.toNat []))
              (tst (intA ((es'.getD i.toNat []).getD 0 At.bad) != intA ((es.getD i.toNat []).getD 0 At.bad))
                (some (Ex.ret, [(2, Sv.one (At.v (Value.bool false)))], []))
                (chk (decide (0 ≤ i))
                  (chk (decide (i < (↑es'.length : Int)))
                    (chk (okRow [SK.i IntKind.i64, SK.s, SK.i IntKind.i64, SK.i IntKind.i64] (es'.getD i.toNat []))
                      (chk (decide (0 ≤ i))
                        (chk (decide (i < (↑es.length : Int)))
                          (chk (okRow [SK.i IntKind.i64, SK.s, SK.i IntKind.i64, SK.i IntKind.i64] (es.getD i.toNat []))
                            (tst
                              (bif false then true
                              else
                                !bytesEq (strA ((es'.getD i.toNat []).getD 1 At.bad))
                                    (strA ((es.getD i.toNat []).getD 1 At.bad)))
                              (some (Ex.ret, [(2, Sv.one (At.v (Value.bool false)))], []))
                              (chk (decide (0 ≤ i))
                                (chk (decide (i < (↑es'.length : Int)))
                                  (chk
                                    (okRow [SK.i IntKind.i64, SK.s, SK.i IntKind.i64, SK.i IntKind.i64]
                                      (es'.getD i.toNat []))
                                    (chk (decide (0 ≤ i))
                                      (chk (decide (i < (↑es.length : Int)))
                                        (chk
                                          (okRow [SK.i IntKind.i64, SK.s, SK.i IntKind.i64, SK.i IntKind.i64]
                                            (es.getD i.toNat []))
                                          (tst
                                            (bif false then true
                                            else
                                              intA ((es'.getD i.toNat []).getD 2 At.bad) !=
                                                intA ((es.getD i.toNat []).getD 2 At.bad))
                                            (some (Ex.ret, [(2, Sv.one (At.v (Value.bool false)))], []))
                                            (vloop EL 5 o14 noLo 0 117 L5b 0 m
                                              [(14, Sv.one (At.v (Value.int IntKind.i64 (IntKind.wrap .i64 (i + 1))))),
                                                (3, Sv.one (At.ro true 4 es)), (11, Sv.one (At.ro true 4 es'))]
                                              []))))))))))))))))))))))
  (some (Ex.exit 2, [(2, Sv.one At.bad)], [])) := by kernel_rfl
/-! ### places -/
theorem inner_ns (c : Int) (h : innerB c = true) : spaceB c = false := by
  cases e : spaceB c with
  | false => rfl
  | true =>
    unfold spaceB at e
    simp only [Bool.or_eq_true, beq_iff_eq] at e
    rcases e with ((rfl | rfl) | rfl) | rfl <;> cases h
theorem cap_ns (c : Int) (h : capB c = true) : spaceB c = false := by
  cases e : spaceB c with
  | false => rfl
  | true =>
    unfold spaceB at e
    simp only [Bool.or_eq_true, beq_iff_eq] at e
    rcases e with ((rfl | rfl) | rfl) | rfl <;> cases h
theorem dig_ns (c : Int) (h : digB c = true) : spaceB c = false := by
  cases e : spaceB c with
  | false => rfl
  | true =>
    unfold spaceB at e
    simp only [Bool.or_eq_true, beq_iff_eq] at e
    rcases e with ((rfl | rfl) | rfl) | rfl <;> cases h
theorem pun_ns (c : Int) (h : punB c = true) : spaceB c = false := by
  cases e : spaceB c with
  | false => rfl
  | true =>
    unfold spaceB at e
    simp only [Bool.or_eq_true, beq_iff_eq] at e
    rcases e with ((rfl | rfl) | rfl) | rfl <;> cases h
theorem runEnd_to {pr : Int → Bool} {b : ByteArray} : ∀ (k i e : Nat), (∀ j, i ≤ j → j < e → pr (byteAt b j) = true) → pr (byteAt b e) = false → i ≤ e → e - i < k → runEnd pr b k i = e
  | k + 1, i, e, h1, h2, h3, h4 => by
    unfold runEnd
    by_cases h : i = e
    · subst h; rw [h2]
    · rw [h1 i (by omega) (by omega)]
      exact runEnd_to k (i + 1) e (fun j a c => h1 j (by omega) c) h2 (by omega) (by omega)
/-- What a run from q to j comes to anywhere else. -/
structure RunF (f : ByteArray → Int → Int) (b : ByteArray) (q j : Nat) : Prop where
  val : f b q = j
  lt : q < j
  le : j ≤ b.size
  ns : ∀ y, q ≤ y → y < j → spaceB (byteAt b y) = false
  mv : ∀ (J : ByteArray) (p : Nat), p + (j - q) < J.size → (∀ x, x < j - q → byteAt J (p + x) = byteAt b (q + x)) → byteAt J (p + (j - q)) = 32 → f J p = ((p + (j - q) : Nat) : Int)
theorem run_facts {pr : Int → Bool} (hns : ∀ c, pr c = true → spaceB c = false) (h32 : pr 32 = false) {b : ByteArray} {q : Nat} (hq : q < b.size) (hp : pr (byteAt b q) = true) : ∃ j, RunF (runTo pr) b q j := by
  have hge := runEnd_ge (pr := pr) (b := b) (b.size - q) q
  have hall := runEnd_all (pr := pr) (b := b) (b.size - q) q
  have hlt : q < runEnd pr b (b.size - q) q := by
    rw [show b.size - q = (b.size - q - 1) + 1 by omega]
    unfold runEnd
    rw [hp]
    have := runEnd_ge (pr := pr) (b := b) (b.size - q - 1) (q + 1)
    dsimp only; omega
  refine ⟨runEnd pr b (b.size - q) q, rfl, hlt, by omega, fun y h1 h2 => hns _ (hall y h1 h2), fun J p h1 h2 h3 => ?_⟩
  unfold runTo
  rw [show ((p : Int)).toNat = p from rfl, runEnd_to (J.size - p) p (p + (runEnd pr b (b.size - q) q - q)) (fun y a c => ?_) (by rw [h3]; exact h32) (by omega) (by omega)]
  have := h2 (y - p) (by omega)
  rw [show p + (y - p) = y by omega] at this
  rw [this]
  exact hall (q + (y - p)) (by omega) (by omega)
theorem tok_facts {b : ByteArray} {q : Nat} (hq : q < b.size) (hE : (nxE b q == 0) = true) : ∃ j, RunF nxQ b q j := by
  have hby : byP b q = byteAt b q := rfl
  have key : ∀ (pr : Int → Bool), (∀ B (p : Nat), byP B p = byP b q → nxQ B p = runTo pr B p) → (∀ c, pr c = true → spaceB c = false) → pr 32 = false → pr (byteAt b q) = true → ∃ j, RunF nxQ b q j := by
    intro pr h1 h2 h3 h4
    obtain ⟨j, hj⟩ := run_facts h2 h3 hq h4
    refine ⟨j, (h1 b q rfl).trans hj.val, hj.lt, hj.le, hj.ns, fun J p a1 a2 a3 => (h1 J p ?_).trans (hj.mv J p a1 a2 a3)⟩
    have := a2 0 (by have := hj.lt; omega)
    exact this
  unfold nxE at hE
  cases e1 : smallB (byP b q) with
  | true => exact key innerB (fun B p h => by unfold nxQ; rw [h, e1]; rfl) inner_ns rfl (by unfold innerB; rw [← hby, e1]; rfl)
  | false =>
    cases e2 : capB (byP b q) with
    | true => exact key capB (fun B p h => by unfold nxQ; rw [h, e1, e2]; rfl) cap_ns rfl e2
    | false =>
      cases e3 : digB (byP b q) with
      | true => exact key digB (fun B p h => by unfold nxQ; rw [h, e1, e2, e3]; rfl) dig_ns rfl e3
      | false =>
        cases e4 : punB (byP b q) with
        | false => rw [e1, e2, e3, e4] at hE; cases hE
        | true =>
          have h1 : ∀ B (p : Nat), byP B p = byP b q → nxQ B p = ((p + 1 : Nat) : Int) := fun B p h => by unfold nxQ; rw [h, e1, e2, e3, e4]; rfl
          refine ⟨q + 1, h1 b q rfl, by omega, by omega, fun y a c => ?_, fun J p a1 a2 a3 => ?_⟩
          · rw [show y = q by omega]; exact pun_ns _ e4
          · rw [h1 J p (a2 0 (by omega)), show p + (q + 1 - q) = p + 1 by omega]
theorem lexP_chQ {b : ByteArray} : ∀ (k i : Nat) (es : List (List At)), i ≤ b.size → b.size - i < k → ((lexP b k i es).2.2 == 0) = true → ∃ qs, (lexP b k i es).1 = es ++ toks b qs ∧ chQ b i qs
  | k + 1, i, es, hi, hk, h0 => by
    have hge := runTo_ge spaceB b i hi
    obtain ⟨q, hq⟩ := Int.eq_ofNat_of_zero_le (show 0 ≤ runTo spaceB b i by omega)
    have hq' : runTo spaceB b i = (q : Int) := hq
    have hall : ∀ y, i ≤ y → y < q → spaceB (byteAt b y) = true := by
      have h := runEnd_all (pr := spaceB) (b := b) (b.size - i) i
      have e : runEnd spaceB b (b.size - i) i = q := by unfold runTo at hq'; rw [show ((i : Int)).toNat = i from rfl] at hq'; omega
      rw [e] at h; exact h
    unfold lexP at h0 ⊢
    rw [hq'] at hge h0 ⊢
    cases hs : ((q : Int) == (b.size : Int)) with
    | true =>
      have he : q = b.size := by have : (q : Int) = (b.size : Int) := by simpa using hs
                                 omega
      exact ⟨[], by simp [toks], hi, fun y a c => hall y a (by omega)⟩
    | false =>
      rw [hs] at h0
      have hlt : q < b.size := by
        have : ¬ ((q : Int) = (b.size : Int)) := by simpa using hs
        omega
      obtain ⟨j, hj, hj1, hj2⟩ := nxQ_gt hlt
      dsimp only at h0 ⊢
      cases hE : (nxE b q == 0) with
      | true =>
        rw [hE] at h0
        dsimp only at h0 ⊢
        rw [hj] at h0 ⊢
        have := hj2 hE
        obtain ⟨ts, h1, h2⟩ := lexP_chQ k j (es ++ [tokP b q]) hj1 (by omega) h0
        exact ⟨q :: ts, by rw [h1, List.append_assoc]; rfl, by omega, hlt, hall, hE, j, hj, h2⟩
      | false =>
        rw [hE] at h0
        dsimp only at h0
        rw [h0] at hE; cases hE
/-- Where what follows begins. -/
theorem nextAt {b : ByteArray} : ∀ (qs : List Nat) (j : Nat), chQ b j qs → ∃ n : Nat, intA (((toks b qs ++ [endT b]).getD 0 []).getD 3 .bad) = n ∧ j ≤ n ∧ n ≤ b.size ∧ ∀ y, j ≤ y → y < n → spaceB (byteAt b y) = true
  | [], j, h => ⟨b.size, rfl, h.1, Nat.le_refl _, h.2⟩
  | q :: qs, j, h => ⟨q, rfl, h.1, Nat.le_of_lt h.2.1, h.2.2.1⟩
theorem trimTo_is {b : ByteArray} {q j : Nat} (h1 : q < j) (h2 : ∀ y, q ≤ y → y < j → spaceB (byteAt b y) = false) : ∀ n, j ≤ n → (∀ y, j ≤ y → y < n → spaceB (byteAt b y) = true) → trimTo b q n = j
  | 0, h3, h4 => by omega
  | n + 1, h3, h4 => by
    unfold trimTo
    rw [decide_eq_true (show q < n + 1 by omega)]
    by_cases h : j = n + 1
    · rw [h2 n (by omega) (by omega)]; exact h.symm
    · rw [h4 n (by omega) (by omega)]
      exact trimTo_is h1 h2 n (by omega) (fun y a c => h4 y a (by omega))
theorem drop_get {es ts : List (List At)} {i : Nat} (h : es.drop i = ts) (x : Nat) : es.getD (i + x) [] = ts.getD x [] := by
  rw [← h, List.getD_eq_getElem?_getD, List.getD_eq_getElem?_getD, List.getElem?_drop]
theorem seg_size {b : ByteArray} {q j : Nat} (h : RunF nxQ b q j) : seg b q = b.extract q j ∧ (seg b q).size = j - q := by
  have e : seg b q = b.extract q j := by unfold seg; rw [h.val]; rfl
  exact ⟨e, by rw [e]; exact ext_len (Nat.le_of_lt h.lt) h.le⟩
theorem l5a {b : ByteArray} {es : List (List At)} (hb : b.size ≤ 1024) (he : es.length ≤ 1025) (are : areT es = true) : ∀ (qs : List Nat) (lo i : Nat) (t : ByteArray) (m : Nat), chQ b lo qs → es.drop i = toks b qs ++ [endT b] → t.size ≤ i * 1100 → qs.length < m →
    vloop EL 5 o14 noLo 0 117 L5a 0 m [(10, iv i), (3, tv es), (0, sv b), (9, sv t)] [] = some (.exit 0, [(2, .one .bad), (3, tv es), (9, sv (t ++ joinS b qs))], [])
  | [], lo, i, t, m + 1, hch, hd, ht, hm => by
    have hl : es.length - i = 1 := by have := congrArg List.length hd; simpa [toks] using this
    have w : IntKind.wrap .i64 ((i : Int) + 1) = ((i + 1 : Nat) : Int) := (i64_in _ ⟨by omega, by omega⟩).trans (by omega)
    rw [vloop_succ, r5a, w, tst_f (decide_eq_false (by omega))]
    show _ = some (_, [_, _, (9, sv (t ++ ⟨#[]⟩))], _)
    rw [show t ++ (⟨#[]⟩ : ByteArray) = t from ByteArray.append_empty]
  | q :: qs, lo, i, t, m + 1, hch, hd, ht, hm => by
    obtain ⟨h1, h2, h3, hE, j0, hj0, hch2⟩ := hch
    obtain ⟨j, hj⟩ := tok_facts h2 hE
    have hjj : j0 = j := by have := hj.val; rw [hj0] at this; omega
    subst hjj
    obtain ⟨n, hn, hn1, hn2, hn3⟩ := nextAt qs j0 hch2
    have hl : es.length - i = qs.length + 2 := by have := congrArg List.length hd; simpa [toks] using this
    have w : IntKind.wrap .i64 ((i : Int) + 1) = ((i + 1 : Nat) : Int) := (i64_in _ ⟨by omega, by omega⟩).trans (by omega)
    have g0 : atI es i = (q : Int) := by
      have := drop_get hd 0
      show intA ((es.getD i []).getD 3 .bad) = _
      rw [show i = i + 0 from rfl, this]; rfl
    have g1 : atI es (i + 1) = (n : Int) := by
      have := drop_get hd 1
      show intA ((es.getD (i + 1) []).getD 3 .bad) = _
      rw [this]; exact hn
    have hlt := hj.lt
    have hle := hj.le
    have hok : OkTx b es i := ⟨by omega, by omega, are, by rw [show ((i : Int)).toNat = i from rfl, g0]; omega, by rw [show ((i : Int)).toNat = i from rfl, g0, g1]; omega, by rw [show ((i : Int)).toNat = i from rfl, g1]; omega, hb, he⟩
    have hok' : okTx b es i = true := gd_t hok
    obtain ⟨hs1, hs2⟩ := seg_size hj
    have hT : textOf b es i = seg b q := by
      unfold textOf trimI
      rw [show ((i : Int)).toNat = i from rfl, g0, g1, show ((q : Int)).toNat = q from rfl, show ((n : Int)).toNat = n from rfl, trimTo_is hj.lt hj.ns n hn1 hn3, hs1]
      rfl
    have hsz : (t ++ seg b q).size = t.size + (seg b q).size := ByteArray.size_append
    have hsz2 : (t ++ seg b q ++ (ByteArray.mk (Array.mk [UInt8.ofNat 32]))).size = t.size + (seg b q).size + 1 := by rw [ByteArray.size_append, hsz]; rfl
    rw [vloop_succ, r5a, w, tst_t (decide_eq_true (by omega)), hok', hT, hsz, chk_t rfl, chk_t (decide_eq_true (by omega)), chk_t (decide_eq_true (by omega))]
    have hd' : es.drop (i + 1) = toks b qs ++ [endT b] := by
      have := congrArg List.tail hd
      rw [List.tail_drop] at this
      exact this
    refine (l5a hb he are qs j0 (i + 1) (t ++ seg b q ++ (ByteArray.mk (Array.mk [UInt8.ofNat 32]))) m hch2 hd' (by rw [hsz2]; omega) (by simp only [List.length_cons] at hm; omega)).trans ?_
    have : t ++ seg b q ++ (ByteArray.mk (Array.mk [UInt8.ofNat 32])) ++ joinS b qs = t ++ joinS b (q :: qs) := by
      show t ++ seg b q ++ ⟨#[32]⟩ ++ joinS b qs = t ++ (seg b q ++ ⟨#[32]⟩ ++ joinS b qs)
      rw [ByteArray.append_assoc, ByteArray.append_assoc, ByteArray.append_assoc]
    rw [this]
theorem eqs_len : ∀ (xs ys : List (List At)), eqs xs ys = true → xs.length = ys.length
  | [], [], _ => rfl
  | x :: xs, y :: ys, h => by
    unfold eqs at h
    simp only [Bool.and_eq_true] at h
    rw [List.length_cons, List.length_cons, eqs_len xs ys h.2]
  | [], _ :: _, h => by cases h
  | _ :: _, [], h => by cases h
theorem eqs_app : ∀ (xs ys : List (List At)) (x y : List At), eqs xs ys = true → eq3 x y = true → eqs (xs ++ [x]) (ys ++ [y]) = true
  | [], [], x, y, _, h => by show (eq3 x y && true) = true; rw [h]; rfl
  | a :: xs, c :: ys, x, y, h, h' => by
    unfold eqs at h
    simp only [Bool.and_eq_true] at h
    show (eq3 a c && eqs (xs ++ [x]) (ys ++ [y])) = true
    rw [h.1, eqs_app xs ys x y h.2 h']; rfl
  | [], _ :: _, _, _, h, _ => by cases h
  | _ :: _, [], _, _, h, _ => by cases h
theorem eqs_get : ∀ (xs ys : List (List At)), eqs xs ys = true → ∀ i, i < ys.length → eq3 (xs.getD i []) (ys.getD i []) = true
  | [], [], _, i, hi => by cases hi
  | x :: xs, y :: ys, h, i, hi => by
    unfold eqs at h
    simp only [Bool.and_eq_true] at h
    cases i with
    | zero => exact h.1
    | succ i => exact eqs_get xs ys h.2 i (by simpa using hi)
  | [], _ :: _, h, _, _ => by cases h
  | _ :: _, [], h, _, _ => by cases h
theorem l5b {es es' : List (List At)} (ha : areT es = true) (ha' : areT es' = true) (he : es.length ≤ 1025) (hq : eqs es' es = true) : ∀ (d i m : Nat), i + d = es.length → d < m →
    vloop EL 5 o14 noLo 0 117 L5b 0 m [(14, iv i), (3, tv es), (11, tv es')] [] = some (.exit 2, [(2, .one .bad)], [])
  | 0, i, m + 1, hi, hm => by rw [vloop_succ, r5b, tst_f (decide_eq_false (by omega))]
  | d + 1, i, m + 1, hi, hm => by
    have hl := eqs_len _ _ hq
    have w : IntKind.wrap .i64 ((i : Int) + 1) = ((i + 1 : Nat) : Int) := (i64_in _ ⟨by omega, by omega⟩).trans (by omega)
    have k1 : decide (0 ≤ (i : Int)) = true := decide_eq_true (by omega)
    have k2 : decide ((i : Int) < (es.length : Int)) = true := decide_eq_true (by omega)
    have k3 : decide ((i : Int) < (es'.length : Int)) = true := decide_eq_true (by omega)
    have g1 := areT_get ha (i := i) (by omega)
    have g2 := areT_get ha' (i := i) (by omega)
    have h3 := eqs_get _ _ hq i (by omega)
    unfold eq3 at h3
    simp only [Bool.and_eq_true] at h3
    obtain ⟨a1, a2, a3⟩ := h3
    rw [vloop_succ, r5b, w, show ((i : Int)).toNat = i from rfl, k1, k2, k3, g1, g2]
    unfold bne
    rw [a1, a2, a3]
    exact l5b ha ha' he hq d (i + 1) m (by omega) (by omega)
theorem id5a : firstId L5a = 9 := by kernel_rfl
theorem id5b : firstId L5b = 18 := by kernel_rfl
theorem joinT_is {b : ByteArray} {es : List (List At)} (ok : OkJ b es) : ∃ qs, joinT b es = joinS b qs ∧ chQ b 0 qs ∧ es = toks b qs ++ [endT b] := ⟨_, rfl, Classical.epsilon_spec ok.ch⟩
theorem lo5a_ok : LoopOK EL Try.prog lo5 117 L5a := by
  refine LoopOK.of_run (f := 5) (c := o14) (lo := noLo) T.tok c14 T.mo (fun _ _ => noLo_ok) (fun s M e s' M' t hl hev => ?_)
  unfold lo5 at hl
  rw [id5a] at hl
  split at hl
  · split at hl
    · rename_i i es b t h1 h2 h3 h4
      obtain rfl := Option.some.inj hl
      obtain ⟨hc, hev2⟩ := br_some hev
      clear hev
      simp only [Bool.and_eq_true, beq_iff_eq] at hc
      obtain ⟨⟨rfl, ht⟩, hok⟩ := hc
      have ok : OkJ b es := of_gd hok
      have ht0 : t.size = 0 := Nat.eq_of_beq_eq_true ht
      obtain ⟨qs, hJ, hch, hes⟩ := joinT_is ok
      have htt : t = ⟨#[]⟩ := data_eq (List.eq_nil_of_length_eq_zero (show t.data.toList.length = 0 from ht0))
      refine ⟨0, qs.length + 1, [10, 3, 0, 9], ?_⟩
      simp only [keepT, List.map_cons, List.map_nil, h1, h2, h3, h4]
      refine (l5a ok.hb ok.he ok.are qs 0 0 t (qs.length + 1) hch (by rw [List.drop_zero]; exact hes) (by omega) (by omega)).trans ?_
      rw [hJ] at hev2
      rw [htt, show (⟨#[]⟩ : ByteArray) ++ joinS b qs = joinS b qs from ByteArray.empty_append]
      exact hev2
    · cases hl
  · rename_i h; cases h
  · cases hl
theorem lo5b_ok : LoopOK EL Try.prog lo5 117 L5b := by
  refine LoopOK.of_run (f := 5) (c := o14) (lo := noLo) T.tok c14 T.mo (fun _ _ => noLo_ok) (fun s M e s' M' t hl hev => ?_)
  unfold lo5 at hl
  rw [id5b] at hl
  split at hl
  · rename_i h; cases h
  · split at hl
    · rename_i i es es' h1 h2 h3
      obtain rfl := Option.some.inj hl
      obtain ⟨hc, hev2⟩ := br_some hev
      clear hev
      simp only [Bool.and_eq_true, decide_eq_true_eq, beq_iff_eq] at hc
      obtain ⟨⟨⟨⟨rfl, ha⟩, ha'⟩, he⟩, hq⟩ := hc
      refine ⟨0, es.length + 1, [14, 3, 11], ?_⟩
      simp only [keepT, List.map_cons, List.map_nil, h1, h2, h3]
      exact (l5b ha ha' he hq es.length 0 (es.length + 1) (by omega) (by omega)).trans hev2
    · cases hl
  · cases hl
theorem loops5 : ∀ fn b, Try.prog.funcs[5]? = some fn → fn.body = some b → ∀ a ∈ loopsOf b, LoopOK EL Try.prog lo5 fn.ntmps a :=
  loops_of (fun a ha => by
    have e : loopsAt Try.prog 5 = [L5a, L5b] := by kernel_rfl
    rw [e] at ha
    rw [show ntmpsAt Try.prog 5 = 117 by kernel_rfl]
    simp only [List.mem_cons, List.not_mem_nil, or_false] at ha
    rcases ha with rfl | rfl
    · exact lo5a_ok
    · exact lo5b_ok)
theorem q5 (b : ByteArray) : vstep EL Try.prog lo5 0 o14 5 [sv b] [] =
tst (bif false then true else lexE b != lexE b) (some (Sv.one (At.v (Value.bool false)), []))
  (chk (areT (lexL b) && areT (lexL b) && decide ((lexL b).length ≤ 9223372036854775807))
    (tst (bif false then true else !((lexL b).length.beq (lexL b).length && sameT (lexL b) (lexL b)))
      (some (Sv.one (At.v (Value.bool false)), []))
      (tst (lexE b != 0) (some (Sv.one (At.v (Value.bool true)), []))
        (chk (true && okJ b (lexL b))
          (tst (decide ((↑(joinT b (lexL b)).size : Int) > 1024)) (some (Sv.one (At.v (Value.bool true)), []))
            (tst (lexE (joinT b (lexL b)) != 0) (some (Sv.one (At.v (Value.bool false)), []))
              (tst (bif false then true else (↑(lexL (joinT b (lexL b))).length : Int) != (↑(lexL b).length : Int))
                (some (Sv.one (At.v (Value.bool false)), []))
                (chk
                  (true && areT (lexL b) && areT (lexL (joinT b (lexL b))) && decide ((lexL b).length ≤ 1025) &&
                    eqs (lexL (joinT b (lexL b))) (lexL b))
                  (some (Sv.one (At.v (Value.bool true)), [])))))))))) := by kernel_rfl
/-! ### the plain law -/
theorem ext_list (b : ByteArray) (i j : Nat) : (b.extract i j).data.toList = (b.data.toList.drop i).take (j - i) := by
  rw [ByteArray.data_extract, Array.toList_extract]
theorem joinS_len (b : ByteArray) : ∀ qs : List Nat, qs.length ≤ (joinS b qs).size
  | [] => Nat.zero_le _
  | q :: qs => by
    have := joinS_len b qs
    have e : (joinS b (q :: qs)).size = (seg b q).size + 1 + (joinS b qs).size := by
      show (seg b q ++ ⟨#[32]⟩ ++ joinS b qs).size = _
      rw [ByteArray.size_append, ByteArray.size_append]; rfl
    rw [e, List.length_cons]; omega
theorem lex_join {b : ByteArray} : ∀ (qs : List Nat) (lo : Nat), chQ b lo qs → ∀ (J : ByteArray) (pre : List UInt8) (k : Nat) (es : List (List At)), J.data.toList = pre ++ (joinS b qs).data.toList → qs.length < k →
    ∃ ys, lexP J k pre.length es = (es ++ ys, (J.size : Int), 0) ∧ eqs ys (toks b qs) = true
  | [], lo, _, J, pre, k + 1, es, hJ, hk => by
    have hs : J.size = pre.length := by
      have := congrArg List.length hJ
      simpa [joinS] using this
    refine ⟨[], ?_, rfl⟩
    unfold lexP
    rw [lexP_stop (k := 0) (by omega) (.inl hs.symm), show ((pre.length : Int) == (J.size : Int)) = true by rw [hs]; exact beq_self_eq_true _, hs]
    simp
  | q :: qs, lo, hch, J, pre, k + 1, es, hJ, hk => by
    obtain ⟨h1, h2, h3, hE, j0, hj0, hch2⟩ := hch
    obtain ⟨j, hj⟩ := tok_facts h2 hE
    have hjj : j0 = j := by have := hj.val; rw [hj0] at this; omega
    subst hjj
    obtain ⟨hs1, hs2⟩ := seg_size hj
    have hlt := hj.lt
    have hle := hj.le
    have hJ2 : J.data.toList = pre ++ ((seg b q).data.toList ++ (32 :: (joinS b qs).data.toList)) := by
      rw [hJ]
      show pre ++ (seg b q ++ ⟨#[32]⟩ ++ joinS b qs).data.toList = _
      rw [ByteArray.data_append, ByteArray.data_append, Array.toList_append, Array.toList_append, List.append_assoc]
      rfl
    have hsl : (seg b q).data.toList.length = j0 - q := hs2
    have hsz : J.size = pre.length + (j0 - q + (1 + (joinS b qs).data.toList.length)) := by
      have := congrArg List.length hJ2
      rw [List.length_append, List.length_append, List.length_cons, hsl] at this
      have e : J.data.toList.length = J.size := rfl
      omega
    have hby : ∀ x, x < j0 - q → byteAt J (pre.length + x) = byteAt b (q + x) := by
      intro x hx
      have e1 : byteAt J (pre.length + x) = byteAt (seg b q) x := by
        unfold byteAt
        rw [hJ2, List.getD_eq_getElem?_getD, List.getElem?_append_right (by omega), show pre.length + x - pre.length = x by omega, List.getElem?_append_left (by omega), List.getD_eq_getElem?_getD]
      rw [e1, hs1]
      exact ext_byte (by omega) hle
    have h32 : byteAt J (pre.length + (j0 - q)) = 32 := by
      unfold byteAt
      rw [hJ2, List.getD_eq_getElem?_getD, List.getElem?_append_right (by omega), show pre.length + (j0 - q) - pre.length = j0 - q by omega, List.getElem?_append_right (by omega), hsl, Nat.sub_self]
      rfl
    have hQ : nxQ J pre.length = ((pre.length + (j0 - q) : Nat) : Int) := hj.mv J pre.length (by omega) hby h32
    have hB : byP J pre.length = byP b q := hby 0 (by omega)
    have hS : seg J pre.length = seg b q := by
      apply data_eq
      have e : seg J pre.length = J.extract pre.length (pre.length + (j0 - q)) := by unfold seg; rw [hQ]; rfl
      rw [e, ext_list, hJ2, List.drop_left, show pre.length + (j0 - q) - pre.length = j0 - q by omega, ← hsl, List.take_left]
    have hEJ : (nxE J pre.length == 0) = true := by
      have : nxE J pre.length = nxE b q := by unfold nxE; rw [hB, hS]
      rw [this]; exact hE
    have hns : spaceB (byteAt J pre.length) = false := by
      have e := hby 0 (by omega)
      rw [Nat.add_zero, Nat.add_zero] at e
      rw [e]; exact hj.ns q (by omega) hlt
    have h3' : eq3 (tokP J pre.length) (tokP b q) = true := by
      unfold tokP nxT nxN eq3 bytesEq
      rw [hB, hS]
      simp
    have hne : ((pre.length : Int) == (J.size : Int)) = false := by rw [beq_eq_false_iff_ne]; omega
    simp only [List.length_cons] at hk
    obtain ⟨k', rfl⟩ : ∃ k', k = k' + 1 := ⟨k - 1, by omega⟩
    have ih := lex_join qs j0 hch2 J (pre ++ ((seg b q).data.toList ++ [32])) (k' + 1) (es ++ [tokP J pre.length]) (by rw [hJ2, List.append_assoc, List.append_assoc]; rfl) (by omega)
    obtain ⟨ys, hy1, hy2⟩ := ih
    refine ⟨tokP J pre.length :: ys, ?_, by show (eq3 _ _ && eqs ys (toks b qs)) = true; rw [h3', hy2]; rfl⟩
    conv => lhs; unfold lexP
    rw [lexP_stop (k := 0) (by omega) (.inr hns), hne]
    dsimp only
    rw [hEJ]
    dsimp only
    rw [hQ, lexP_space (by omega) (by rw [h32]; rfl)]
    have hl : (pre ++ ((seg b q).data.toList ++ [32])).length = pre.length + (j0 - q) + 1 := by
      rw [List.length_append, List.length_append, hsl, List.length_singleton]; omega
    rw [hl] at hy1
    rw [hy1, List.append_assoc]
    rfl
theorem e5 (b : ByteArray) : vstep EL Try.prog lo5 0 o14 5 [sv b] [] = some (bv true, []) := by
  have hl : (lexL b).length ≤ 9223372036854775807 := Nat.le_trans (lexL_len b) (by omega)
  have z1 : (lexE b != lexE b) = false := by unfold bne; rw [beq_self_eq_true]; rfl
  rw [q5, z1, lexL_are, decide_eq_true hl, sameT_self, Nat.beq_refl]
  cases h0 : (lexE b != 0) with
  | true => rfl
  | false =>
    by_cases hb : b.size ≤ 1024
    · have hd : decide ((b.size : Int) > 1024) = false := decide_eq_false (by omega)
      have h2 : ((lexT b).2.2 == 0) = true := by
        cases h2 : ((lexT b).2.2 == 0) with
        | true => rfl
        | false =>
          have hE : lexE b = (lexT b).2.2 := by unfold lexE; rw [hd, h2]; rfl
          rw [hE] at h0
          unfold bne at h0
          rw [h2] at h0; cases h0
      have hL : lexL b = (lexT b).1 ++ [endT b] := by unfold lexL; rw [hd, h2]; rfl
      obtain ⟨qs0, h3, h4⟩ := lexP_chQ (b := b) (b.size + 1) 0 [] (by omega) (by omega) h2
      have hts : (lexT b).1 = toks b qs0 := by
        have h3' : (lexT b).1 = [] ++ toks b qs0 := h3
        rw [h3', List.nil_append]
      have ok : OkJ b (lexL b) := ⟨hb, lexL_len b, lexL_are b, qs0, h4, by rw [hL, hts]⟩
      have hok : okJ b (lexL b) = true := gd_t ok
      obtain ⟨qs, hJ, hch, hes⟩ := joinT_is ok
      rw [hok, hJ]
      cases hbig : decide (((joinS b qs).size : Int) > 1024) with
      | true => rfl
      | false =>
        obtain ⟨ys, hy1, hy2⟩ := lex_join qs 0 hch (joinS b qs) [] ((joinS b qs).size + 1) [] rfl (by have := joinS_len b qs; omega)
        have hT : lexT (joinS b qs) = (ys, ((joinS b qs).size : Int), 0) := hy1
        have hEJ : lexE (joinS b qs) = 0 := by unfold lexE; rw [hbig, hT]; rfl
        have hLJ : lexL (joinS b qs) = ys ++ [endT (joinS b qs)] := by unfold lexL; rw [hbig, hT]; rfl
        have hq : eqs (lexL (joinS b qs)) (lexL b) = true := by
          rw [hLJ, hes]
          exact eqs_app _ _ _ _ hy2 rfl
        have hlen := eqs_len _ _ hq
        have z2 : (((lexL (joinS b qs)).length : Int) != ((lexL b).length : Int)) = false := by rw [hlen]; unfold bne; rw [beq_self_eq_true]; rfl
        rw [hEJ, z2, lexL_are, hq, decide_eq_true (lexL_len b)]
        rfl
    · have hd : decide ((b.size : Int) > 1024) = true := decide_eq_true (by omega)
      have hE : lexE b = 3 := by unfold lexE; rw [hd]; rfl
      rw [hE] at h0; cases h0
end Go.Proofs.Ytfbdceccefmloaa
