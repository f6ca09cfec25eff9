import Derived.Test.YtfbdceccefmloabLexG
namespace Go.Proofs.Ytfbdceccefmloab
open Go Go.Vi Go.IntWalk
set_option maxRecDepth 100000
set_option linter.unusedVariables false
set_option linter.unusedSimpArgs false
abbrev tv (es : List (List At)) : Sv := .one (.ro true 4 es)
def dg (k : Nat) : UInt8 := UInt8.ofNat (48 + k % 10)
/-- The digits of a number, in front of some. -/
def digP : Nat → Nat → List UInt8 → List UInt8
  | 0, _, t => t
  | f + 1, k, t => match Nat.beq k 0 with | true => t | false => digP f (k / 10) (dg k :: t)
def digT (n : Int) : ByteArray := ⟨⟨digP 5 (n.toNat / 10) [dg n.toNat]⟩⟩
def zerP : Nat → ByteArray → ByteArray
  | 0, t => t
  | z + 1, t => ⟨#[48]⟩ ++ zerP z t
def zerT (z : Int) (t : ByteArray) : ByteArray := zerP z.toNat t
def okN (n : Int) : Bool := decide (0 ≤ n) && decide (n ≤ 99999)
def okZ (z : Int) (t : ByteArray) : Bool := decide (0 ≤ z) && decide (z ≤ 3) && decide (t.size ≤ 100)
def lo3 : Lo := fun a s M => match firstId a, M with
  | 5, [] => match lookT s 6, lookT s 5, lookT s 0, lookT s 1 with
    | .one (.v (.int .i64 k)), .one (.v (.string t)), .one (.v (.int .i64 n)), .one (.v (.int .i64 z)) =>
      some (.br (k == n && Nat.beq t.size 0 && okN n) (.ok (.exit 0, [(4, .one .bad), (5, sv (digT n)), (0, iv n), (1, iv z)], [])) .no)
    | _, _, _, _ => none
  | 9, [] => match lookT s 7, lookT s 5, lookT s 0, lookT s 1 with
    | .one (.v (.int .i64 i)), .one (.v (.string t)), .one (.v (.int .i64 n)), .one (.v (.int .i64 z)) =>
      some (.br (i == 0 && okZ z t) (.ok (.exit 2, [(4, .one .bad), (0, iv n), (1, iv z), (5, sv (zerT z t))], [])) .no)
    | _, _, _, _ => none
  | _, _ => none

theorem e4 : VS 1 o8 4 [] = some (bv true, []) := by kernel_rfl
def o4 : Orc := over o8 4 (F0 (.ok (bv true, [])))
theorem c4 : CallOK EL Try.prog o4 := ok_0 T c8 fun x hx => ⟨noLo, 1, loops_no, e4.trans hx⟩
theorem zerP_size (t : ByteArray) : ∀ z, (zerP z t).size = z + t.size
  | 0 => by show t.size = _; omega
  | z + 1 => by
    show (⟨#[48]⟩ ++ zerP z t).size = _
    rw [ByteArray.size_append, zerP_size t z]; show 1 + _ = _; omega
noncomputable abbrev L3a : Code := lcode Try.prog 3 5
noncomputable abbrev L3b : Code := lcode Try.prog 3 9
theorem r3a (m : Nat) (k v z : Int) (t : ByteArray) : vround EL 3 o4 noLo 0 101 L3a 0 m [(6, iv k), (5, sv t), (0, iv v), (1, iv z)] [] =
tst (decide (k > 0))
  (chk
    (decide
      ((ByteArray.mk (Array.mk [UInt8.ofNat (IntKind.wrap .u8 (IntKind.wrap .i64 (48 + k.tmod 10))).toNat])).size +
          t.size ≤
        9223372036854775807))
    (vloop EL 3 o4 noLo 0 101 L3a 0 m
      [(6, Sv.one (At.v (Value.int IntKind.i64 (IntKind.wrap .i64 (k.tdiv 10))))),
        (5,
          Sv.one
            (At.v
              (Value.string
                ((ByteArray.mk (Array.mk [UInt8.ofNat (IntKind.wrap .u8 (IntKind.wrap .i64 (48 + k.tmod 10))).toNat])) ++
                  t)))),
        (0, Sv.one (At.v (Value.int IntKind.i64 v))), (1, Sv.one (At.v (Value.int IntKind.i64 z)))]
      []))
  (tst (bif false then true else bytesEq t (ByteArray.mk (Array.mk [])))
    (chk
      (decide
        ((ByteArray.mk (Array.mk [UInt8.ofNat (IntKind.wrap .u8 (IntKind.wrap .i64 (48 + k.tmod 10))).toNat])).size +
            t.size ≤
          9223372036854775807))
      (vloop EL 3 o4 noLo 0 101 L3a 0 m
        [(6, Sv.one (At.v (Value.int IntKind.i64 (IntKind.wrap .i64 (k.tdiv 10))))),
          (5,
            Sv.one
              (At.v
                (Value.string
                  ((ByteArray.mk (Array.mk [UInt8.ofNat (IntKind.wrap .u8 (IntKind.wrap .i64 (48 + k.tmod 10))).toNat])) ++
                    t)))),
          (0, Sv.one (At.v (Value.int IntKind.i64 v))), (1, Sv.one (At.v (Value.int IntKind.i64 z)))]
        []))
    (some
      (Ex.exit 0,
        [(4, Sv.one At.bad), (5, Sv.one (At.v (Value.string t))), (0, Sv.one (At.v (Value.int IntKind.i64 v))),
          (1, Sv.one (At.v (Value.int IntKind.i64 z)))],
        []))) := by kernel_rfl
theorem r3b (m : Nat) (k v z : Int) (t : ByteArray) : vround EL 3 o4 noLo 0 101 L3b 0 m [(7, iv k), (5, sv t), (0, iv v), (1, iv z)] [] =
tst (decide (k < z))
  (chk (decide (1 + t.size ≤ 9223372036854775807))
    (vloop EL 3 o4 noLo 0 101 L3b 0 m
      [(7, Sv.one (At.v (Value.int IntKind.i64 (IntKind.wrap .i64 (k + 1))))),
        (5, Sv.one (At.v (Value.string ((ByteArray.mk (Array.mk [UInt8.ofNat 48])) ++ t)))),
        (0, Sv.one (At.v (Value.int IntKind.i64 v))), (1, Sv.one (At.v (Value.int IntKind.i64 z)))]
      []))
  (some
    (Ex.exit 2,
      [(4, Sv.one At.bad), (0, Sv.one (At.v (Value.int IntKind.i64 v))), (1, Sv.one (At.v (Value.int IntKind.i64 z))),
        (5, Sv.one (At.v (Value.string t)))],
      [])) := by kernel_rfl
theorem cons_app (d : UInt8) (t : List UInt8) : (⟨#[d]⟩ : ByteArray) ++ ⟨⟨t⟩⟩ = ⟨⟨d :: t⟩⟩ := data_eq (by rw [ByteArray.data_append, Array.toList_append]; rfl)
theorem dg_is (k : Nat) (hk : k ≤ 99999) : UInt8.ofNat (IntKind.wrap .u8 (IntKind.wrap .i64 (48 + ((k : Int)).tmod 10))).toNat = dg k := by
  have e : ((k : Int)).tmod 10 = ((k % 10 : Nat) : Int) := rfl
  have w1 : IntKind.wrap .i64 (48 + ((k % 10 : Nat) : Int)) = ((48 + k % 10 : Nat) : Int) := (i64_in _ ⟨by omega, by omega⟩).trans (by omega)
  have w2 : IntKind.wrap .u8 ((48 + k % 10 : Nat) : Int) = ((48 + k % 10 : Nat) : Int) := u8_in _ ⟨by omega, by omega⟩
  rw [e, w1, w2]; rfl
theorem l3a (n z : Int) : ∀ (f k m : Nat) (x : UInt8) (t : List UInt8), k ≤ 99999 → k < 10 ^ f → f < m → t.length + f ≤ 100 →
    vloop EL 3 o4 noLo 0 101 L3a 0 m [(6, iv k), (5, sv ⟨⟨x :: t⟩⟩), (0, iv n), (1, iv z)] [] = some (.exit 0, [(4, .one .bad), (5, sv ⟨⟨digP f k (x :: t)⟩⟩), (0, iv n), (1, iv z)], [])
  | 0, k, m + 1, x, t, hk, hf, hm, ht => by
    have : k = 0 := by simpa using hf
    subst this
    rw [vloop_succ, r3a, show decide (((0 : Nat) : Int) > 0) = false from rfl]; rfl
  | f + 1, k, m + 1, x, t, hk, hf, hm, ht => by
    rw [vloop_succ, r3a]
    unfold digP
    cases hz : Nat.beq k 0 with
    | true =>
      have : k = 0 := Nat.eq_of_beq_eq_true hz
      subst this
      rw [show decide (((0 : Nat) : Int) > 0) = false from rfl]; rfl
    | false =>
      have hk0 : 0 < k := by
        rcases Nat.eq_zero_or_pos k with h | h
        · rw [h] at hz; cases hz
        · exact h
      have e : ((k : Int)).tdiv 10 = ((k / 10 : Nat) : Int) := rfl
      have w : IntKind.wrap .i64 ((k / 10 : Nat) : Int) = ((k / 10 : Nat) : Int) := i64_in _ ⟨by omega, by omega⟩
      have hs : decide (((⟨#[dg k]⟩ : ByteArray)).size + ((⟨⟨x :: t⟩⟩ : ByteArray)).size ≤ 9223372036854775807) = true := by
        refine decide_eq_true ?_
        show 1 + (t.length + 1) ≤ _
        omega
      have hp : 10 ^ (f + 1) = 10 ^ f * 10 := Nat.pow_succ 10 f
      rw [tst_t (decide_eq_true (by omega)), dg_is k hk, e, w]
      refine (show _ = chk (decide (((⟨#[dg k]⟩ : ByteArray)).size + ((⟨⟨x :: t⟩⟩ : ByteArray)).size ≤ 9223372036854775807)) (vloop EL 3 o4 noLo 0 101 L3a 0 m [(6, iv ((k / 10 : Nat) : Int)), (5, sv ((⟨#[dg k]⟩ : ByteArray) ++ ⟨⟨x :: t⟩⟩)), (0, iv n), (1, iv z)] []) from rfl).trans ?_
      rw [chk_t hs, cons_app]
      exact l3a n z f (k / 10) m (dg k) (x :: t) (by omega) (by omega) (by omega) (by simp only [List.length_cons]; omega)
theorem l3a0 (n : Nat) (z : Int) (hn : n ≤ 99999) (m : Nat) (hm : 7 ≤ m) :
    vloop EL 3 o4 noLo 0 101 L3a 0 m [(6, iv n), (5, sv ⟨#[]⟩), (0, iv n), (1, iv z)] [] = some (.exit 0, [(4, .one .bad), (5, sv (digT n)), (0, iv n), (1, iv z)], []) := by
  obtain ⟨m, rfl⟩ : ∃ k, m = k + 1 := ⟨m - 1, by omega⟩
  have e : ((n : Int)).tdiv 10 = ((n / 10 : Nat) : Int) := rfl
  have w : IntKind.wrap .i64 ((n / 10 : Nat) : Int) = ((n / 10 : Nat) : Int) := i64_in _ ⟨by omega, by omega⟩
  have fin := l3a n z 5 (n / 10) m (dg n) [] (by omega) (by omega) (by omega) (by simp)
  rw [vloop_succ, r3a, dg_is n hn, e, w]
  cases decide ((n : Int) > 0) with
  | true => exact fin
  | false => exact fin
theorem l3b (n : Int) (z : Nat) (hz : z ≤ 3) (t : ByteArray) (ht : t.size ≤ 100) : ∀ (d i m : Nat), i + d = z → d < m →
    vloop EL 3 o4 noLo 0 101 L3b 0 m [(7, iv i), (5, sv (zerP i t)), (0, iv n), (1, iv z)] [] = some (.exit 2, [(4, .one .bad), (0, iv n), (1, iv z), (5, sv (zerP z t))], [])
  | 0, i, m + 1, hi, hm => by
    have : i = z := by omega
    subst this
    rw [vloop_succ, r3b, tst_f (decide_eq_false (by omega))]
  | d + 1, i, m + 1, hi, hm => by
    have w : IntKind.wrap .i64 ((i : Int) + 1) = ((i + 1 : Nat) : Int) := (i64_in _ ⟨by omega, by omega⟩).trans (by omega)
    have hs := zerP_size t i
    rw [vloop_succ, r3b, w, tst_t (decide_eq_true (by omega)), chk_t (decide_eq_true (by omega))]
    exact l3b n z hz t ht d (i + 1) m (by omega) (by omega)
theorem id3a : firstId L3a = 5 := by kernel_rfl
theorem id3b : firstId L3b = 9 := by kernel_rfl
theorem lo3a_ok : LoopOK EL Try.prog lo3 101 L3a := by
  refine LoopOK.of_run (f := 3) (c := o4) (lo := noLo) T.tok c4 T.mo (fun _ _ => noLo_ok) (fun s M e s' M' t hl hev => ?_)
  unfold lo3 at hl
  rw [id3a] at hl
  split at hl
  · split at hl
    · rename_i k t n z h1 h2 h3 h4
      obtain rfl := Option.some.inj hl
      obtain ⟨hc, hev2⟩ := br_some hev
      clear hev
      unfold okN at hc
      simp only [Bool.and_eq_true, decide_eq_true_eq, beq_iff_eq] at hc
      obtain ⟨⟨rfl, ht⟩, h0, h9⟩ := hc
      have htt : t = ⟨#[]⟩ := data_eq (List.eq_nil_of_length_eq_zero (show t.data.toList.length = 0 from Nat.eq_of_beq_eq_true ht))
      obtain ⟨n, rfl⟩ := Int.eq_ofNat_of_zero_le h0
      refine ⟨0, 7, [6, 5, 0, 1], ?_⟩
      simp only [keepT, List.map_cons, List.map_nil, h1, h2, h3, h4]
      rw [htt]
      exact (l3a0 n z (by omega) 7 (by omega)).trans hev2
    · cases hl
  · rename_i h; cases h
  · cases hl
theorem lo3b_ok : LoopOK EL Try.prog lo3 101 L3b := by
  refine LoopOK.of_run (f := 3) (c := o4) (lo := noLo) T.tok c4 T.mo (fun _ _ => noLo_ok) (fun s M e s' M' t hl hev => ?_)
  unfold lo3 at hl
  rw [id3b] at hl
  split at hl
  · rename_i h; cases h
  · split at hl
    · rename_i i t n z h1 h2 h3 h4
      obtain rfl := Option.some.inj hl
      obtain ⟨hc, hev2⟩ := br_some hev
      clear hev
      unfold okZ at hc
      simp only [Bool.and_eq_true, decide_eq_true_eq, beq_iff_eq] at hc
      obtain ⟨rfl, ⟨h0, h9⟩, ht⟩ := hc
      obtain ⟨z, rfl⟩ := Int.eq_ofNat_of_zero_le h0
      refine ⟨0, z + 1, [7, 5, 0, 1], ?_⟩
      simp only [keepT, List.map_cons, List.map_nil, h1, h2, h3, h4]
      exact (l3b n z (by omega) t ht z 0 (z + 1) (by omega) (by omega)).trans hev2
    · cases hl
  · cases hl
theorem loops3 : ∀ fn b, Try.prog.funcs[3]? = some fn → fn.body = some b → ∀ a ∈ loopsOf b, LoopOK EL Try.prog lo3 fn.ntmps a :=
  loops_of (fun a ha => by
    have e : loopsAt Try.prog 3 = [L3a, L3b] := by kernel_rfl
    rw [e] at ha
    rw [show ntmpsAt Try.prog 3 = 101 by kernel_rfl]
    simp only [List.mem_cons, List.not_mem_nil, or_false] at ha
    rcases ha with rfl | rfl
    · exact lo3a_ok
    · exact lo3b_ok)
theorem q3 (k z : Int) : vstep EL Try.prog lo3 0 o4 3 [iv k, iv z] [] =
tst (decide (k < 0)) (some (Sv.one (At.v (Value.bool true)), []))
  (tst (bif false then true else decide (k > 99999)) (some (Sv.one (At.v (Value.bool true)), []))
    (tst (bif false then true else decide (z < 0)) (some (Sv.one (At.v (Value.bool true)), []))
      (tst (bif false then true else decide (z > 3)) (some (Sv.one (At.v (Value.bool true)), []))
        (chk (k == k && true && okN k)
          (chk (true && okZ z (digT k))
            (tst (decide (k > 9999))
              (tst (bif true then lexE (zerT z (digT k)) == 8 else false)
                (tst (bif true then lexA (zerT z (digT k)) == 0 else false)
                  (some
                    (Sv.one
                        (At.v (Value.bool (bif true then (↑(lexL (zerT z (digT k))).length : Int) == 0 else false))),
                      []))
                  (some (Sv.one (At.v (Value.bool false)), [])))
                (some (Sv.one (At.v (Value.bool false)), [])))
              (tst (bif false then true else decide (z > 0))
                (tst (bif true then lexE (zerT z (digT k)) == 8 else false)
                  (tst (bif true then lexA (zerT z (digT k)) == 0 else false)
                    (some
                      (Sv.one
                          (At.v (Value.bool (bif true then (↑(lexL (zerT z (digT k))).length : Int) == 0 else false))),
                        []))
                    (some (Sv.one (At.v (Value.bool false)), [])))
                  (some (Sv.one (At.v (Value.bool false)), [])))
                (tst (bif true then lexE (zerT z (digT k)) == 0 else false)
                  (tst (bif true then (↑(lexL (zerT z (digT k))).length : Int) == 2 else false)
                    (chk (decide (0 < (↑(lexL (zerT z (digT k))).length : Int)))
                      (chk
                        (okRow [SK.i IntKind.i64, SK.s, SK.i IntKind.i64, SK.i IntKind.i64]
                          ((lexL (zerT z (digT k))).getD 0 []))
                        (tst
                          (bif true then
                            intA (((lexL (zerT z (digT k))).getD 0 []).getD 0 At.bad) == 3 &&
                              (bytesEq (strA (((lexL (zerT z (digT k))).getD 0 []).getD 1 At.bad))
                                  (ByteArray.mk (Array.mk [])) &&
                                (intA (((lexL (zerT z (digT k))).getD 0 []).getD 2 At.bad) == k &&
                                  (intA (((lexL (zerT z (digT k))).getD 0 []).getD 3 At.bad) == 0 && true)))
                          else false)
                          (chk (decide (1 < (↑(lexL (zerT z (digT k))).length : Int)))
                            (chk
                              (okRow [SK.i IntKind.i64, SK.s, SK.i IntKind.i64, SK.i IntKind.i64]
                                ((lexL (zerT z (digT k))).getD 1 []))
                              (some
                                (Sv.one
                                    (At.v
                                      (Value.bool
                                        (bif true then intA (((lexL (zerT z (digT k))).getD 1 []).getD 0 At.bad) == 5
                                        else false))),
                                  []))))
                          (some (Sv.one (At.v (Value.bool false)), [])))))
                    (some (Sv.one (At.v (Value.bool false)), [])))
                  (some (Sv.one (At.v (Value.bool false)), [])))))))))) := by kernel_rfl
/-! ### the plain law -/
theorem dig_off {c : Int} (h : digB c = true) : smallB c = false ∧ capB c = false ∧ spaceB c = false := by
  unfold digB at h
  simp only [Bool.and_eq_true, decide_eq_true_eq] at h
  refine ⟨?_, ?_, ?_⟩
  · unfold smallB; rw [decide_eq_false (show ¬ c ≥ 97 by omega)]; rfl
  · unfold capB; rw [decide_eq_false (show ¬ c ≥ 65 by omega)]; rfl
  · unfold spaceB
    rw [beq_eq_false_iff_ne.2 (show c ≠ 9 by omega), beq_eq_false_iff_ne.2 (show c ≠ 10 by omega), beq_eq_false_iff_ne.2 (show c ≠ 13 by omega), beq_eq_false_iff_ne.2 (show c ≠ 32 by omega)]; rfl
theorem runEnd_full {pr : Int → Bool} {b : ByteArray} : ∀ (k i : Nat), (∀ j, i ≤ j → j < i + k → pr (byteAt b j) = true) → runEnd pr b k i = i + k
  | 0, i, _ => rfl
  | k + 1, i, h => by
    unfold runEnd
    rw [h i (by omega) (by omega)]
    dsimp only
    rw [runEnd_full k (i + 1) (fun j a c => h j (by omega) (by omega))]; omega
/-- A text of digits alone. -/
theorem lexT_digits {s : ByteArray} (h0 : 0 < s.size) (hd : ∀ j, j < s.size → digB (byteAt s j) = true) :
    lexT s = match numB s with | true => ([tk 3 ⟨#[]⟩ (numI s) 0], (s.size : Int), 0) | false => ([], 0, 8) := by
  obtain ⟨a1, a2, a3⟩ := dig_off (hd 0 h0)
  have hsp : runTo spaceB s 0 = 0 := by
    unfold runTo
    rw [show s.size - (0 : Int).toNat = (s.size - 1) + 1 by show s.size - 0 = _; omega]
    unfold runEnd
    rw [show ((0 : Int)).toNat = 0 from rfl, a3]; rfl
  have hend : ∀ pr : Int → Bool, runTo pr s (s.size : Nat) = (s.size : Int) := by
    intro pr
    unfold runTo
    rw [show ((s.size : Int)).toNat = s.size from rfl, Nat.sub_self]; rfl
  have b0 : byP s 0 = byteAt s 0 := rfl
  have hQ : nxQ s 0 = (s.size : Int) := by
    unfold nxQ
    rw [b0, a1, a2, hd 0 h0]
    show runTo digB s 0 = _
    unfold runTo
    rw [show ((0 : Int)).toNat = 0 from rfl, Nat.sub_zero, runEnd_full s.size 0 (fun j _ c => hd j (by omega)), Nat.zero_add]
  have hS : seg s 0 = s := by
    unfold seg
    rw [hQ]
    show s.extract 0 s.size = s
    exact ByteArray.extract_zero_size
  have hE : nxE s 0 = bif numB s then 0 else 8 := by
    unfold nxE
    rw [b0, a1, a2, hd 0 h0, hS]; rfl
  have hT : tokP s 0 = tk 3 ⟨#[]⟩ (numI s) 0 := by
    unfold tokP kindC nxT nxN
    rw [b0, a1, a2, hd 0 h0, hS]; rfl
  have hne : ((0 : Int) == (s.size : Int)) = false := by rw [beq_eq_false_iff_ne]; omega
  unfold lexT lexP
  rw [hsp, hne, hE, hT, hQ]
  cases numB s with
  | false => rfl
  | true =>
    dsimp only [cond]
    obtain ⟨k, hk⟩ : ∃ k, s.size = k + 1 := ⟨s.size - 1, by omega⟩
    have : lexP s s.size (s.size : Nat) ([] ++ [tk 3 ⟨#[]⟩ (numI s) 0]) = ([tk 3 ⟨#[]⟩ (numI s) 0], (s.size : Int), 0) := by
      conv => lhs; arg 2; rw [hk]
      unfold lexP
      rw [hend, beq_self_eq_true]; rfl
    exact this
theorem dg_nat (k : Nat) : (dg k).toNat = 48 + k % 10 := by
  unfold dg
  rw [UInt8.toNat_ofNat']
  omega
theorem dg_dig (k : Nat) : digB ((dg k).toNat : Int) = true := by
  rw [dg_nat]
  unfold digB
  rw [decide_eq_true (by omega), decide_eq_true (by omega)]; rfl
theorem digP_all : ∀ (f k : Nat) (t : List UInt8), (∀ x ∈ t, digB (x.toNat : Int) = true) → ∀ x ∈ digP f k t, digB (x.toNat : Int) = true
  | 0, k, t, h => h
  | f + 1, k, t, h => by
    unfold digP
    cases Nat.beq k 0 with
    | true => exact h
    | false =>
      exact digP_all f (k / 10) (dg k :: t) (fun x hx => by
        cases hx with
        | head => exact dg_dig k
        | tail _ hx => exact h x hx)
theorem byte_mem {s : ByteArray} (h : ∀ x ∈ s.data.toList, digB (x.toNat : Int) = true) : ∀ j, j < s.size → digB (byteAt s j) = true := by
  intro j hj
  unfold byteAt
  have hl : j < s.data.toList.length := hj
  rw [List.getD_eq_getElem?_getD, List.getElem?_eq_getElem hl]
  exact h _ (List.getElem_mem hl)
theorem zerP_list (t : ByteArray) : ∀ z, (zerP z t).data.toList = List.replicate z 48 ++ t.data.toList
  | 0 => rfl
  | z + 1 => by
    show (⟨#[48]⟩ ++ zerP z t).data.toList = _
    rw [ByteArray.data_append, Array.toList_append, zerP_list t z]; rfl
/-- The digits, laid out. -/
theorem digT_cases (n : Nat) (hn : n ≤ 99999) :
    (n < 10 ∧ digT n = ⟨⟨[dg n]⟩⟩) ∨ (10 ≤ n ∧ n < 100 ∧ digT n = ⟨⟨[dg (n / 10), dg n]⟩⟩) ∨ (100 ≤ n ∧ n < 1000 ∧ digT n = ⟨⟨[dg (n / 10 / 10), dg (n / 10), dg n]⟩⟩) ∨
    (1000 ≤ n ∧ n < 10000 ∧ digT n = ⟨⟨[dg (n / 10 / 10 / 10), dg (n / 10 / 10), dg (n / 10), dg n]⟩⟩) ∨
    (10000 ≤ n ∧ digT n = ⟨⟨[dg (n / 10 / 10 / 10 / 10), dg (n / 10 / 10 / 10), dg (n / 10 / 10), dg (n / 10), dg n]⟩⟩) := by
  have nz : ∀ {k : Nat}, 0 < k → Nat.beq k 0 = false := fun {k} h => by
    cases k with
    | zero => omega
    | succ k => rfl
  have zz : ∀ {k : Nat}, k = 0 → Nat.beq k 0 = true := fun {k} h => by rw [h]; rfl
  have st : ∀ (f k : Nat) (t : List UInt8), 0 < k → digP (f + 1) k t = digP f (k / 10) (dg k :: t) := fun f k t h => by
    conv => lhs; unfold digP
    rw [nz h]
  have en : ∀ (f k : Nat) (t : List UInt8), k = 0 → digP f k t = t := fun f k t h => by
    cases f with
    | zero => rfl
    | succ f => unfold digP; rw [zz h]
  have d0 : digT n = ⟨⟨digP 5 (n / 10) [dg n]⟩⟩ := rfl
  rw [d0]
  by_cases h1 : n < 10
  · exact .inl ⟨h1, by rw [en _ _ _ (by omega)]⟩
  · rw [st 4 _ _ (by omega)]
    by_cases h2 : n < 100
    · exact .inr (.inl ⟨by omega, h2, by rw [en _ _ _ (by omega)]⟩)
    · rw [st 3 _ _ (by omega)]
      by_cases h3 : n < 1000
      · exact .inr (.inr (.inl ⟨by omega, h3, by rw [en _ _ _ (by omega)]⟩))
      · rw [st 2 _ _ (by omega)]
        by_cases h4 : n < 10000
        · exact .inr (.inr (.inr (.inl ⟨by omega, h4, by rw [en _ _ _ (by omega)]⟩)))
        · rw [st 1 _ _ (by omega)]
          exact .inr (.inr (.inr (.inr ⟨by omega, by rw [en _ _ _ (by omega)]⟩)))
theorem num_step (v : Int) (k : Nat) (h0 : 0 ≤ v) (h9 : v ≤ 99999) : IntKind.wrap .i64 (IntKind.wrap .i64 (10 * v) + IntKind.wrap .i64 (IntKind.wrap .u8 (((dg k).toNat : Int) - 48))) = 10 * v + ((k % 10 : Nat) : Int) := by
  rw [dg_nat]
  have w1 : IntKind.wrap .u8 (((48 + k % 10 : Nat) : Int) - 48) = ((k % 10 : Nat) : Int) := (u8_in _ ⟨by omega, by omega⟩).trans (by omega)
  have w2 : IntKind.wrap .i64 ((k % 10 : Nat) : Int) = ((k % 10 : Nat) : Int) := i64_in _ ⟨by omega, by omega⟩
  have w3 : IntKind.wrap .i64 (10 * v) = 10 * v := i64_in _ ⟨by omega, by omega⟩
  rw [w1, w2, w3, i64_in _ ⟨by omega, by omega⟩]
/-- What the number's digits come to. -/
theorem num_digT (n : Nat) (hn : n ≤ 9999) : numB (digT n) = true ∧ numI (digT n) = (n : Int) := by
  have fin : ∀ s : ByteArray, numB s = true → numOf s s.size 0 0 = (n : Int) → numB s = true ∧ numI s = (n : Int) := by
    intro s h1 h2
    exact ⟨h1, by unfold numI; rw [h1]; exact h2⟩
  rcases digT_cases n (by omega) with ⟨h, e⟩ | ⟨h, h', e⟩ | ⟨h, h', e⟩ | ⟨h, h', e⟩ | ⟨h, e⟩
  · rw [e]
    refine fin _ rfl ?_
    show IntKind.wrap .i64 (IntKind.wrap .i64 (10 * 0) + IntKind.wrap .i64 (IntKind.wrap .u8 (((dg n).toNat : Int) - 48))) = _
    rw [num_step 0 n (by omega) (by omega)]; omega
  · rw [e]
    refine fin _ ?_ ?_
    · show (!(false || (true && (((dg (n / 10)).toNat : Int) == 48)))) = true
      rw [dg_nat, beq_eq_false_iff_ne.2 (by omega)]; rfl
    · show IntKind.wrap .i64 (IntKind.wrap .i64 (10 * IntKind.wrap .i64 (IntKind.wrap .i64 (10 * 0) + IntKind.wrap .i64 (IntKind.wrap .u8 (((dg (n / 10)).toNat : Int) - 48)))) + IntKind.wrap .i64 (IntKind.wrap .u8 (((dg n).toNat : Int) - 48))) = _
      rw [num_step 0 (n / 10) (by omega) (by omega), num_step _ n (by omega) (by omega)]; omega
  · rw [e]
    refine fin _ ?_ ?_
    · show (!(false || (true && (((dg (n / 10 / 10)).toNat : Int) == 48)))) = true
      rw [dg_nat, beq_eq_false_iff_ne.2 (by omega)]; rfl
    · show IntKind.wrap .i64 (IntKind.wrap .i64 (10 * IntKind.wrap .i64 (IntKind.wrap .i64 (10 * IntKind.wrap .i64 (IntKind.wrap .i64 (10 * 0) + IntKind.wrap .i64 (IntKind.wrap .u8 (((dg (n / 10 / 10)).toNat : Int) - 48)))) + IntKind.wrap .i64 (IntKind.wrap .u8 (((dg (n / 10)).toNat : Int) - 48)))) + IntKind.wrap .i64 (IntKind.wrap .u8 (((dg n).toNat : Int) - 48))) = _
      rw [num_step 0 (n / 10 / 10) (by omega) (by omega), num_step _ (n / 10) (by omega) (by omega), num_step _ n (by omega) (by omega)]; omega
  · rw [e]
    refine fin _ ?_ ?_
    · show (!(false || (true && (((dg (n / 10 / 10 / 10)).toNat : Int) == 48)))) = true
      rw [dg_nat, beq_eq_false_iff_ne.2 (by omega)]; rfl
    · show IntKind.wrap .i64 (IntKind.wrap .i64 (10 * IntKind.wrap .i64 (IntKind.wrap .i64 (10 * IntKind.wrap .i64 (IntKind.wrap .i64 (10 * IntKind.wrap .i64 (IntKind.wrap .i64 (10 * 0) + IntKind.wrap .i64 (IntKind.wrap .u8 (((dg (n / 10 / 10 / 10)).toNat : Int) - 48)))) + IntKind.wrap .i64 (IntKind.wrap .u8 (((dg (n / 10 / 10)).toNat : Int) - 48)))) + IntKind.wrap .i64 (IntKind.wrap .u8 (((dg (n / 10)).toNat : Int) - 48)))) + IntKind.wrap .i64 (IntKind.wrap .u8 (((dg n).toNat : Int) - 48))) = _
      rw [num_step 0 (n / 10 / 10 / 10) (by omega) (by omega), num_step _ (n / 10 / 10) (by omega) (by omega), num_step _ (n / 10) (by omega) (by omega), num_step _ n (by omega) (by omega)]; omega
  · omega
theorem digT_size (n : Nat) (hn : n ≤ 99999) : 0 < (digT n).size ∧ (digT n).size ≤ 5 ∧ (9999 < n → 4 < (digT n).size) := by
  rcases digT_cases n hn with ⟨h, e⟩ | ⟨h, h', e⟩ | ⟨h, h', e⟩ | ⟨h, h', e⟩ | ⟨h, e⟩ <;> rw [e]
  · exact ⟨by show 0 < 1; omega, by show 1 ≤ 5; omega, fun h => by omega⟩
  · exact ⟨by show 0 < 2; omega, by show 2 ≤ 5; omega, fun h => by omega⟩
  · exact ⟨by show 0 < 3; omega, by show 3 ≤ 5; omega, fun h => by omega⟩
  · exact ⟨by show 0 < 4; omega, by show 4 ≤ 5; omega, fun h => by omega⟩
  · exact ⟨by show 0 < 5; omega, by show 5 ≤ 5; omega, fun h => by show 4 < 5; omega⟩
theorem e3 (k z : Int) : vstep EL Try.prog lo3 0 o4 3 [iv k, iv z] [] = some (bv true, []) := by
  rw [q3]
  cases h0 : decide (k < 0) with
  | true => rfl
  | false =>
    cases h1 : decide (k > 99999) with
    | true => rfl
    | false =>
      cases h2 : decide (z < 0) with
      | true => rfl
      | false =>
        cases h3 : decide (z > 3) with
        | true => rfl
        | false =>
          have h0 := of_decide_eq_false h0
          have h1 := of_decide_eq_false h1
          have h2 := of_decide_eq_false h2
          have h3 := of_decide_eq_false h3
          obtain ⟨n, rfl⟩ := Int.eq_ofNat_of_zero_le (show 0 ≤ k by omega)
          obtain ⟨y, rfl⟩ := Int.eq_ofNat_of_zero_le (show 0 ≤ z by omega)
          obtain ⟨s1, s2, s3⟩ := digT_size n (by omega)
          have okn : okN (n : Int) = true := by unfold okN; rw [decide_eq_true (by omega), decide_eq_true (by omega)]; rfl
          have okz : okZ (y : Int) (digT n) = true := by unfold okZ; rw [decide_eq_true (by omega), decide_eq_true (by omega), decide_eq_true (by omega)]; rfl
          have hz : zerT (y : Int) (digT n) = zerP y (digT n) := rfl
          have hsz := zerP_size (digT n) y
          have hall : ∀ x ∈ (zerP y (digT n)).data.toList, digB (x.toNat : Int) = true := by
            rw [zerP_list]
            intro x hx
            rcases List.mem_append.1 hx with hx | hx
            · rw [List.eq_of_mem_replicate hx]; rfl
            · exact digP_all 5 (n / 10) [dg n] (fun x hx => by rw [List.mem_singleton.1 hx]; exact dg_dig n) x hx
          have hT := lexT_digits (s := zerP y (digT n)) (by omega) (byte_mem hall)
          have hd : decide (((zerP y (digT n)).size : Int) > 1024) = false := decide_eq_false (by omega)
          rw [hz, beq_self_eq_true, okn, okz]
          have bad : numB (zerP y (digT n)) = false → lexE (zerP y (digT n)) = 8 ∧ lexA (zerP y (digT n)) = 0 ∧ lexL (zerP y (digT n)) = [] := by
            intro h
            rw [h] at hT
            exact ⟨by unfold lexE; rw [hd, hT]; rfl, by unfold lexA; rw [hd, hT]; rfl, by unfold lexL; rw [hd, hT]; rfl⟩
          cases h9 : decide ((n : Int) > 9999) with
          | true =>
            have h9 := of_decide_eq_true h9
            have hb : numB (zerP y (digT n)) = false := by
              unfold numB
              rw [decide_eq_true (show ((zerP y (digT n)).size : Int) > 4 by have := s3 (by omega); omega)]; rfl
            obtain ⟨b1, b2, b3⟩ := bad hb
            rw [b1, b2, b3]; rfl
          | false =>
            have h9 := of_decide_eq_false h9
            cases hy : decide ((y : Int) > 0) with
            | true =>
              have hy := of_decide_eq_true hy
              have hb : numB (zerP y (digT n)) = false := by
                unfold numB
                rw [decide_eq_true (show ((zerP y (digT n)).size : Int) > 1 by omega)]
                have : byteAt (zerP y (digT n)) 0 = 48 := by
                  unfold byteAt
                  rw [zerP_list]
                  obtain ⟨y', rfl⟩ : ∃ y', y = y' + 1 := ⟨y - 1, by omega⟩
                  rfl
                rw [this]
                cases decide (((zerP y (digT n)).size : Int) > 4) <;> rfl
              obtain ⟨b1, b2, b3⟩ := bad hb
              rw [b1, b2, b3]; rfl
            | false =>
              have hy := of_decide_eq_false hy
              have hy0 : y = 0 := by omega
              subst hy0
              obtain ⟨g1, g2⟩ := num_digT n (by omega)
              have e0 : zerP 0 (digT n) = digT n := rfl
              rw [e0] at hT hd ⊢
              rw [g1, g2] at hT
              have b1 : lexE (digT n) = 0 := by unfold lexE; rw [hd, hT]; rfl
              have b3 : lexL (digT n) = [tk 3 ⟨#[]⟩ n 0, endT (digT n)] := by unfold lexL; rw [hd, hT]; rfl
              rw [b1, b3]
              show tst ((3 : Int) == 3 && (bytesEq ⟨#[]⟩ ⟨#[]⟩ && (((n : Int)) == (n : Int) && ((0 : Int) == 0 && true)))) _ _ = _
              rw [beq_self_eq_true ((n : Int))]
              rfl
end Go.Proofs.Ytfbdceccefmloab
