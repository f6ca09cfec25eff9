/- Numbers as bytes, written: what the functions come to. -/
import Derived.Test.YtkpdcieoiciapaaDoorIdA
namespace Go.Proofs.YtkpdcieoiciapaaDoor
open Go Go.Vi Go.IntWalk
set_option maxRecDepth 100000
set_option linter.unusedVariables false
set_option linter.unusedSimpArgs false
noncomputable section

abbrev wv (a : Int) : Sv := .one (.v (.int .u64 a))
abbrev rb (es : List (List At)) : Sv := .one (.ro true 1 es)
abbrev by1 (a : Int) : List At := [.v (.int .u8 a)]
noncomputable abbrev L50 : Code := lcode Tryd.prog 50 2
noncomputable abbrev L51 : Code := lcode Tryd.prog 51 2
def mLow (v : Int) : Int := orI .u8 (IntKind.wrap .u8 (andI .u64 v 127)) 128
def mHead : Nat → Int → List (List At)
  | 0, _ => []
  | k + 1, v => match decide (v ≥ 128) with | true => by1 (mLow v) :: mHead k (shrI .u64 v 7) | false => []
def mLast : Nat → Int → Int
  | 0, v => v
  | k + 1, v => match decide (v ≥ 128) with | true => mLast k (shrI .u64 v 7) | false => v
def mVarint (v : Int) : List (List At) := mHead 10 v ++ [by1 (IntKind.wrap .u8 (mLast 10 v))]
def F39 (a : List Sv) (M : List Box) : Tr := match a, M with
  | [.agg [.v (.int .i64 a), .v (.int .i64 b), .v (.int .i64 c)], .agg [.v (.int .i64 d), .v (.int .i64 e), .v (.int .i64 f)]], [] => (.ok (iv (mOrder3 a b c d e f), []))
  | _, _ => .no
def o39 : Orc := over o40 39 F39
theorem c39 : CallOK EL Tryd.prog o39 := over_ok T.tok T.mo T.ng c40 fun args M x hx => by
  unfold F39 at hx
  split at hx
  · rename_i a b c d e f
    exact ⟨noLo, 5, loops_no, (e39 a b c d e f).trans hx⟩
  · cases hx
theorem p60 (b more : List (List At)) : vstep EL Tryd.prog noLo 0 o39 60 [rb b, rb more] [] =
chk (decide ((↑b.length : Int) ≤ (↑b.length : Int)))
  (chk (decide ((↑b.length : Int) ≤ (↑b.length : Int)))
    (chk ((↑b.length : Int) == (↑b.length : Int))
      (chk (allStor true more)
        (chk (allStor true (List.drop 0 (List.take (↑b.length : Int).toNat b)))
          (chk (!more.isEmpty)
            (chk
              (decide
                (((List.drop 0 (List.take (↑b.length : Int).toNat b)).length + more.length) * 1 ≤ 140737488355328))
              (some (Sv.one (At.ro true 1 (List.drop 0 (List.take (↑b.length : Int).toNat b) ++ more)), [])))))))) := by kernel_rfl

/-- Bytes. -/
def mByte1 (e : List At) : Bool := okRow [.i .u8] e && decide (0 ≤ intA (e.getD 0 .bad)) && decide (intA (e.getD 0 .bad) < 256)
def mBytes (es : List (List At)) : Bool := es.all mByte1
structure OkPut (b : List (List At)) (v : Int) : Prop where
  are : mBytes b = true
  len : b.length ≤ 140737488355300
  v0 : 0 ≤ v
  v1 : v < 18446744073709551616

theorem cut_all {α : Type} (b : List α) : List.drop 0 (List.take ((b.length : Int)).toNat b) = b := by simp
theorem mBytes_stor {b : List (List At)} (h : mBytes b = true) : allStor true b = true := by
  refine List.all_eq_true.2 fun e he => List.all_eq_true.2 fun x hx => ?_
  have h1 := List.all_eq_true.1 h e he
  simp only [mByte1, Bool.and_eq_true] at h1
  have h1 := h1.1.1
  cases e with
  | nil => cases hx
  | cons y ys =>
    cases ys with
    | cons z zs => simp [okRow] at h1
    | nil =>
      simp only [okRow, Bool.and_true] at h1
      simp only [List.mem_singleton] at hx
      subst hx
      cases x <;> simp_all [okA, storable]
theorem mBytes_app {a b : List (List At)} : mBytes (a ++ b) = (mBytes a && mBytes b) := List.all_append
theorem byte_wrap (n : Int) : mByte1 (by1 (IntKind.wrap .u8 n)) = true := by
  have h : IntKind.wrap .u8 n = n % 256 := rfl
  simp only [mByte1, Bool.and_eq_true, decide_eq_true_eq]
  refine ⟨⟨rfl, ?_⟩, ?_⟩
  · show 0 ≤ IntKind.wrap .u8 n; omega
  · show IntKind.wrap .u8 n < 256; omega
theorem head_bytes : ∀ (k : Nat) (v : Int), mBytes (mHead k v) = true ∧ (mHead k v).length ≤ k
  | 0, v => ⟨rfl, Nat.le_refl _⟩
  | k + 1, v => by
    unfold mHead
    cases decide (v ≥ 128) with
    | true =>
      obtain ⟨h1, h2⟩ := head_bytes k (shrI .u64 v 7)
      exact ⟨by show (mByte1 (by1 (mLow v)) && mBytes (mHead k (shrI .u64 v 7))) = true; rw [h1, show mByte1 (by1 (mLow v)) = true from byte_wrap _]; rfl, by simp only [List.length_cons]; omega⟩
    | false => exact ⟨rfl, Nat.zero_le _⟩
theorem varint_bytes (v : Int) : mBytes (mVarint v) = true ∧ (mVarint v).length ≤ 11 := by
  obtain ⟨h1, h2⟩ := head_bytes 10 v
  unfold mVarint
  refine ⟨by rw [mBytes_app, h1]; show (true && (mByte1 (by1 _) && true)) = true; rw [byte_wrap]; rfl, by simp; omega⟩
theorem shr7 (v : Int) : shrI .u64 v 7 = v / 128 := by
  have : shrI .u64 v 7 = v.fdiv 128 := rfl
  rw [this, Int.fdiv_eq_ediv_of_nonneg _ (by omega)]
theorem e60' (b more : List (List At)) (h1 : allStor true b = true) (h2 : allStor true more = true) (h3 : more.isEmpty = false) (h4 : (b.length + more.length) * 1 ≤ 140737488355328) :
    vstep EL Tryd.prog noLo 0 o39 60 [rb b, rb more] [] = some (rb (b ++ more), []) := by
  rw [p60, cut_all, h1, h2, h3, chk_t (decide_eq_true (Int.le_refl _)), chk_t (decide_eq_true (Int.le_refl _)), chk_t (beq_self_eq_true _), decide_eq_true h4]
  rfl

structure OkGrow (b more : List (List At)) : Prop where
  h1 : allStor true b = true
  h2 : allStor true more = true
  h3 : more.isEmpty = false
  h4 : (b.length + more.length) * 1 ≤ 140737488355328

theorem e60 (b more : List (List At)) (ok : OkGrow b more) : vstep EL Tryd.prog noLo 0 o39 60 [rb b, rb more] [] = some (rb (b ++ more), []) := e60' b more ok.h1 ok.h2 ok.h3 ok.h4
def F60 (a : List Sv) (M : List Box) : Tr := match a, M with
  | [.one (.ro true 1 b), .one (.ro true 1 more)], [] => (.br (gd (OkGrow b more)) (.ok (rb (b ++ more), [])) .no)
  | _, _ => .no
def o60 : Orc := over o39 60 F60
theorem c60 : CallOK EL Tryd.prog o60 := over_ok T.tok T.mo T.ng c39 fun args M x hx => by
  unfold F60 at hx
  split at hx
  · rename_i b more
    obtain ⟨hc, hx⟩ := br_some hx
    exact ⟨noLo, 0, loops_no, (e60 b more (of_gd hc)).trans hx⟩
  · cases hx
theorem r50 (m : Nat) (b more : List (List At)) (v : Int) : vround EL 50 o60 noLo 0 (ntmpsAt Tryd.prog 50) L50 1 m [(1, wv v), (5, .one (.own 0 0)), (0, rb b)] [.row 5 0 false true 1 more] =
tst (decide (v ≥ 128))
  (chk
    (decide
      ((more.length +
            [[At.v (Value.int IntKind.u8 (orI IntKind.u8 (IntKind.wrap .u8 (andI IntKind.u64 v 127)) 128))]].length) *
          1 ≤
        140737488355328))
    (vloop EL 50 o60 noLo 0 (ntmpsAt Tryd.prog 50) L50 1 m
      [(1, Sv.one (At.v (Value.int IntKind.u64 (shrI IntKind.u64 v 7)))), (5, Sv.one (At.own 0 0)),
        (0, Sv.one (At.ro true 1 b))]
      [Box.row 5 0 false true 1
          (more ++ [[At.v (Value.int IntKind.u8 (orI IntKind.u8 (IntKind.wrap .u8 (andI IntKind.u64 v 127)) 128))]])]))
  (some
    (Ex.exit 0,
      [(4, Sv.one At.bad), (1, Sv.one (At.v (Value.int IntKind.u64 v))), (5, Sv.one (At.own 0 0)),
        (0, Sv.one (At.ro true 1 b))],
      [Box.row 5 0 false true 1 more])) := by kernel_rfl
theorem r51 (m : Nat) (more : List (List At)) (v : Int) : vround EL 51 o60 noLo 0 (ntmpsAt Tryd.prog 51) L51 1 m [(1, wv v), (5, .one (.own 0 0))] [.row 5 0 false true 1 more] =
tst (decide (v ≥ 128))
  (chk
    (decide
      ((more.length +
            [[At.v (Value.int IntKind.u8 (orI IntKind.u8 (IntKind.wrap .u8 (andI IntKind.u64 v 127)) 128))]].length) *
          1 ≤
        140737488355328))
    (vloop EL 51 o60 noLo 0 (ntmpsAt Tryd.prog 51) L51 1 m [(1, Sv.one (At.v (Value.int IntKind.u64 (shrI IntKind.u64 v 7)))), (5, Sv.one (At.own 0 0))]
      [Box.row 5 0 false true 1
          (more ++ [[At.v (Value.int IntKind.u8 (orI IntKind.u8 (IntKind.wrap .u8 (andI IntKind.u64 v 127)) 128))]])]))
  (some
    (Ex.exit 0, [(4, Sv.one At.bad), (1, Sv.one (At.v (Value.int IntKind.u64 v))), (5, Sv.one (At.own 0 0))],
      [Box.row 5 0 false true 1 more])) := by kernel_rfl

theorem l50 (v : Int) (b : List (List At)) (ok : OkPut b v) : ∃ m, vloop EL 50 o60 noLo 0 (ntmpsAt Tryd.prog 50) L50 1 m [(1, wv v), (5, .one (.own 0 0)), (0, rb b)] [.row 5 0 false true 1 []] =
    some (.exit 0, [(4, .one .bad), (1, wv (mLast 10 v)), (5, .one (.own 0 0)), (0, rb b)], [.row 5 0 false true 1 (mHead 10 v)]) := by
  have gen : ∀ (k : Nat) (v : Int) (more : List (List At)), 0 ≤ v → v < 128 ^ (k + 1) → more.length + k ≤ 1000 →
      vloop EL 50 o60 noLo 0 (ntmpsAt Tryd.prog 50) L50 1 (k + 1) [(1, wv v), (5, .one (.own 0 0)), (0, rb b)] [.row 5 0 false true 1 more] =
      some (.exit 0, [(4, .one .bad), (1, wv (mLast k v)), (5, .one (.own 0 0)), (0, rb b)], [.row 5 0 false true 1 (more ++ mHead k v)]) := by
    intro k
    induction k with
    | zero =>
      intro v more h0 h1 hl
      rw [vloop_succ, r50, tst_f (decide_eq_false (by omega))]
      simp [mLast, mHead]
    | succ k ih =>
      intro v more h0 h1 hl
      rw [vloop_succ, r50]
      cases h : decide (v ≥ 128) with
      | false => simp [mLast, mHead, h, tst]
      | true =>
        have e := shr7 v
        rw [tst_t rfl, chk_t (decide_eq_true (by simp only [List.length_singleton]; omega))]
        rw [ih _ _ (by rw [e]; omega) (by rw [e]; have : (128 : Int) ^ (k + 1 + 1) = 128 ^ (k + 1) * 128 := Int.pow_succ _ _; omega) (by simp; omega)]
        simp only [mLast, mHead, h, List.append_assoc, List.singleton_append]
        rfl
  exact ⟨11, gen 10 v [] ok.v0 (by have := ok.v1; have e : (128 : Int) ^ (10 + 1) = 151115727451828646838272 := (by decide); omega) (by decide)⟩
def G50 (vs : List Sv) (M : List Box) : Option (Tree (Ex × TS × List Box)) := match vs, M with
  | [.one (.v (.int .u64 v)), .one (.own 0 0), .one (.ro true 1 b)], [.row 5 0 false true 1 []] => some (.br (gd (OkPut b v)) (.ok (.exit 0, [(4, .one .bad), (1, wv (mLast 10 v)), (5, .one (.own 0 0)), (0, rb b)], [.row 5 0 false true 1 (mHead 10 v)])) .no)
  | _, _ => none
def lo50 : Lo := loAt 2 [1, 5, 0] G50
theorem lo50_ok : LoopOK EL Tryd.prog lo50 (ntmpsAt Tryd.prog 50) (lcode Tryd.prog 50 2) := loAt_ok T c60 (noLo_all) fun vs M t x ht hx => by
  unfold G50 at ht
  split at ht
  · rename_i v b
    obtain rfl := Option.some.inj ht
    obtain ⟨hc, hx⟩ := br_some hx
    exact (l50 v b (of_gd hc)).imp fun _ h => h.trans hx
  · cases ht
theorem loops50 : ∀ fn b, Tryd.prog.funcs[(50 : Nat)]? = some fn → fn.body = some b → ∀ a ∈ loopsOf b, LoopOK EL Tryd.prog lo50 fn.ntmps a := loops_of (fun a ha => by
  have e : loopsAt Tryd.prog 50 = [lcode Tryd.prog 50 2] := by kernel_rfl
  rw [e] at ha
  simp only [List.mem_singleton] at ha
  subst ha
  exact lo50_ok)
theorem q50 (b : List (List At)) (v : Int) : vstep EL Tryd.prog lo50 0 o60 50 [rb b, wv v] [] =
chk (gd (OkPut b v))
  (chk
    (decide
      (((mHead 10 v).length + [[At.v (Value.int IntKind.u8 (IntKind.wrap .u8 (mLast 10 v)))]].length) * 1 ≤
        140737488355328))
    (chk (gd (OkGrow b (mHead 10 v ++ [[At.v (Value.int IntKind.u8 (IntKind.wrap .u8 (mLast 10 v)))]])))
      (some
        (Sv.one (At.ro true 1 (b ++ (mHead 10 v ++ [[At.v (Value.int IntKind.u8 (IntKind.wrap .u8 (mLast 10 v)))]]))),
          [])))) := by kernel_rfl

theorem varint_ne (v : Int) : (mVarint v).isEmpty = false := by unfold mVarint; cases mHead 10 v <;> rfl
theorem e50 (b : List (List At)) (v : Int) (ok : OkPut b v) : vstep EL Tryd.prog lo50 0 o60 50 [rb b, wv v] [] = some (rb (b ++ mVarint v), []) := by
  have hl := (head_bytes 10 v).2
  have hg : OkGrow b (mVarint v) := ⟨mBytes_stor ok.are, mBytes_stor (varint_bytes v).1, varint_ne v, by have := ok.len; have := (varint_bytes v).2; omega⟩
  rw [q50, gd_t ok, chk_t rfl, chk_t (decide_eq_true (by simp only [List.length_singleton]; omega))]
  exact (chk_t (gd_t hg)).trans rfl
def F50 (a : List Sv) (M : List Box) : Tr := match a, M with
  | [.one (.ro true 1 b), .one (.v (.int .u64 v))], [] => (.br (gd (OkPut b v)) (.ok (rb (b ++ mVarint v), [])) .no)
  | _, _ => .no
def o50 : Orc := over o60 50 F50
theorem c50 : CallOK EL Tryd.prog o50 := over_ok T.tok T.mo T.ng c60 fun args M x hx => by
  unfold F50 at hx
  split at hx
  · rename_i b v
    obtain ⟨hc, hx⟩ := br_some hx
    exact ⟨lo50, 0, loops50, (e50 b v (of_gd hc)).trans hx⟩
  · cases hx

theorem l51 (v : Int) (out : List (List At)) (ok : OkPut out v) : ∃ m, vloop EL 51 o60 noLo 0 (ntmpsAt Tryd.prog 51) L51 1 m [(1, wv v), (5, .one (.own 0 0))] [.row 5 0 false true 1 out] =
    some (.exit 0, [(4, .one .bad), (1, wv (mLast 10 v)), (5, .one (.own 0 0))], [.row 5 0 false true 1 (out ++ mHead 10 v)]) := by
  have gen : ∀ (k : Nat) (v : Int) (more : List (List At)), 0 ≤ v → v < 128 ^ (k + 1) → more.length + k ≤ 140737488355320 →
      vloop EL 51 o60 noLo 0 (ntmpsAt Tryd.prog 51) L51 1 (k + 1) [(1, wv v), (5, .one (.own 0 0))] [.row 5 0 false true 1 more] =
      some (.exit 0, [(4, .one .bad), (1, wv (mLast k v)), (5, .one (.own 0 0))], [.row 5 0 false true 1 (more ++ mHead k v)]) := by
    intro k
    induction k with
    | zero =>
      intro v more h0 h1 hl
      rw [vloop_succ, r51, tst_f (decide_eq_false (by omega))]
      simp [mLast, mHead]
    | succ k ih =>
      intro v more h0 h1 hl
      rw [vloop_succ, r51]
      cases h : decide (v ≥ 128) with
      | false => simp [mLast, mHead, h, tst]
      | true =>
        have e := shr7 v
        rw [tst_t rfl, chk_t (decide_eq_true (by simp only [List.length_singleton]; omega))]
        rw [ih _ _ (by rw [e]; omega) (by rw [e]; have : (128 : Int) ^ (k + 1 + 1) = 128 ^ (k + 1) * 128 := Int.pow_succ _ _; omega) (by simp; omega)]
        simp only [mLast, mHead, h, List.append_assoc, List.singleton_append]
        rfl
  exact ⟨11, gen 10 v out ok.v0 (by have := ok.v1; have e : (128 : Int) ^ (10 + 1) = 151115727451828646838272 := (by decide); omega) (by have := ok.len; omega)⟩
def G51 (vs : List Sv) (M : List Box) : Option (Tree (Ex × TS × List Box)) := match vs, M with
  | [.one (.v (.int .u64 v)), .one (.own 0 0)], [.row 5 0 false true 1 out] => some (.br (gd (OkPut out v)) (.ok (.exit 0, [(4, .one .bad), (1, wv (mLast 10 v)), (5, .one (.own 0 0))], [.row 5 0 false true 1 (out ++ mHead 10 v)])) .no)
  | _, _ => none
def lo51 : Lo := loAt 2 [1, 5] G51
theorem lo51_ok : LoopOK EL Tryd.prog lo51 (ntmpsAt Tryd.prog 51) (lcode Tryd.prog 51 2) := loAt_ok T c60 (noLo_all) fun vs M t x ht hx => by
  unfold G51 at ht
  split at ht
  · rename_i v out
    obtain rfl := Option.some.inj ht
    obtain ⟨hc, hx⟩ := br_some hx
    exact (l51 v out (of_gd hc)).imp fun _ h => h.trans hx
  · cases ht
theorem loops51 : ∀ fn b, Tryd.prog.funcs[(51 : Nat)]? = some fn → fn.body = some b → ∀ a ∈ loopsOf b, LoopOK EL Tryd.prog lo51 fn.ntmps a := loops_of (fun a ha => by
  have e : loopsAt Tryd.prog 51 = [lcode Tryd.prog 51 2] := by kernel_rfl
  rw [e] at ha
  simp only [List.mem_singleton] at ha
  subst ha
  exact lo51_ok)
theorem q51 (b : List (List At)) (v : Int) : vstep EL Tryd.prog lo51 0 o50 51 [rb b, wv v] [] =
chk (allStor true b)
  (chk (decide ((0 + b.length) * 1 ≤ 140737488355328))
    (chk (gd (OkPut ([] ++ b) v))
      (chk
        (decide
          ((([] ++ b ++ mHead 10 v).length + [[At.v (Value.int IntKind.u8 (IntKind.wrap .u8 (mLast 10 v)))]].length) *
              1 ≤
            140737488355328))
        (some
          (Sv.one
              (At.ro true 1 ([] ++ b ++ mHead 10 v ++ [[At.v (Value.int IntKind.u8 (IntKind.wrap .u8 (mLast 10 v)))]])),
            []))))) := by kernel_rfl

theorem e51 (b : List (List At)) (v : Int) (ok : OkPut b v) : vstep EL Tryd.prog lo51 0 o50 51 [rb b, wv v] [] = some (rb (b ++ mVarint v), []) := by
  have hl := (head_bytes 10 v).2
  have h2 := ok.len
  rw [q51, mBytes_stor ok.are, List.nil_append, gd_t ok, chk_t rfl, chk_t (decide_eq_true (by simp; omega)), chk_t rfl, chk_t (decide_eq_true (by simp; omega)), List.append_assoc]
  rfl
def F51 (a : List Sv) (M : List Box) : Tr := match a, M with
  | [.one (.ro true 1 b), .one (.v (.int .u64 v))], [] => (.br (gd (OkPut b v)) (.ok (rb (b ++ mVarint v), [])) .no)
  | _, _ => .no
def o51 : Orc := over o50 51 F51
theorem c51 : CallOK EL Tryd.prog o51 := over_ok T.tok T.mo T.ng c50 fun args M x hx => by
  unfold F51 at hx
  split at hx
  · rename_i b v
    obtain ⟨hc, hx⟩ := br_some hx
    exact ⟨lo51, 0, loops51, (e51 b v (of_gd hc)).trans hx⟩
  · cases hx
theorem r48 (m : Nat) (b : List (List At)) (i v : Int) : vround EL 48 o50 noLo 0 (ntmpsAt Tryd.prog 48) (lcode Tryd.prog 48 3) 0 m [(6, iv i), (5, wv v), (0, rb b)] [] =
tst (decide (i < 10))
  (tst (decide (i ≥ (↑b.length : Int)))
    (some
      (Ex.ret,
        [(2, Sv.one (At.v (Value.int IntKind.u64 0))), (3, Sv.one (At.v (Value.int IntKind.i64 0))),
          (4, Sv.one (At.v (Value.int IntKind.i64 5)))],
        []))
    (chk (decide (0 ≤ i))
      (chk (decide (i < (↑b.length : Int)))
        (chk (okRow [SK.i IntKind.u8] (b.getD i.toNat []))
          (tst (i == 9)
            (tst (bif true then decide (intA ((b.getD i.toNat []).getD 0 At.bad) > 1) else false)
              (some
                (Ex.ret,
                  [(2, Sv.one (At.v (Value.int IntKind.u64 0))), (3, Sv.one (At.v (Value.int IntKind.i64 0))),
                    (4, Sv.one (At.v (Value.int IntKind.i64 6)))],
                  []))
              (chk (decide (0 ≤ IntKind.wrap .u64 (7 * IntKind.wrap .u64 i)))
                (tst (andI IntKind.u8 (intA ((b.getD i.toNat []).getD 0 At.bad)) 128 == 0)
                  (tst (intA ((b.getD i.toNat []).getD 0 At.bad) == 0)
                    (tst (bif true then decide (i > 0) else false)
                      (some
                        (Ex.ret,
                          [(2, Sv.one (At.v (Value.int IntKind.u64 0))), (3, Sv.one (At.v (Value.int IntKind.i64 0))),
                            (4, Sv.one (At.v (Value.int IntKind.i64 6)))],
                          []))
                      (some
                        (Ex.ret,
                          [(2,
                              Sv.one
                                (At.v
                                  (Value.int IntKind.u64
                                    (orI IntKind.u64 v
                                      (shlI IntKind.u64
                                        (IntKind.wrap .u64
                                          (andI IntKind.u8 (intA ((b.getD i.toNat []).getD 0 At.bad)) 127))
                                        (IntKind.wrap .u64 (7 * IntKind.wrap .u64 i))))))),
                            (3, Sv.one (At.v (Value.int IntKind.i64 (IntKind.wrap .i64 (i + 1))))),
                            (4, Sv.one (At.v (Value.int IntKind.i64 0)))],
                          [])))
                    (some
                      (Ex.ret,
                        [(2,
                            Sv.one
                              (At.v
                                (Value.int IntKind.u64
                                  (orI IntKind.u64 v
                                    (shlI IntKind.u64
                                      (IntKind.wrap .u64
                                        (andI IntKind.u8 (intA ((b.getD i.toNat []).getD 0 At.bad)) 127))
                                      (IntKind.wrap .u64 (7 * IntKind.wrap .u64 i))))))),
                          (3, Sv.one (At.v (Value.int IntKind.i64 (IntKind.wrap .i64 (i + 1))))),
                          (4, Sv.one (At.v (Value.int IntKind.i64 0)))],
                        [])))
                  (vloop EL 48 o50 noLo 0 (ntmpsAt Tryd.prog 48) (lcode Tryd.prog 48 3) 0 m
                    [(6, Sv.one (At.v (Value.int IntKind.i64 (IntKind.wrap .i64 (i + 1))))),
                      (5,
                        Sv.one
                          (At.v
                            (Value.int IntKind.u64
                              (orI IntKind.u64 v
                                (shlI IntKind.u64
                                  (IntKind.wrap .u64 (andI IntKind.u8 (intA ((b.getD i.toNat []).getD 0 At.bad)) 127))
                                  (IntKind.wrap .u64 (7 * IntKind.wrap .u64 i))))))),
                      (0, Sv.one (At.ro true 1 b))]
                    []))))
            (chk (decide (0 ≤ IntKind.wrap .u64 (7 * IntKind.wrap .u64 i)))
              (tst (andI IntKind.u8 (intA ((b.getD i.toNat []).getD 0 At.bad)) 128 == 0)
                (tst (intA ((b.getD i.toNat []).getD 0 At.bad) == 0)
                  (tst (bif true then decide (i > 0) else false)
                    (some
                      (Ex.ret,
                        [(2, Sv.one (At.v (Value.int IntKind.u64 0))), (3, Sv.one (At.v (Value.int IntKind.i64 0))),
                          (4, Sv.one (At.v (Value.int IntKind.i64 6)))],
                        []))
                    (some
                      (Ex.ret,
                        [(2,
                            Sv.one
                              (At.v
                                (Value.int IntKind.u64
                                  (orI IntKind.u64 v
                                    (shlI IntKind.u64
                                      (IntKind.wrap .u64
                                        (andI IntKind.u8 (intA ((b.getD i.toNat []).getD 0 At.bad)) 127))
                                      (IntKind.wrap .u64 (7 * IntKind.wrap .u64 i))))))),
                          (3, Sv.one (At.v (Value.int IntKind.i64 (IntKind.wrap .i64 (i + 1))))),
                          (4, Sv.one (At.v (Value.int IntKind.i64 0)))],
                        [])))
                  (some
                    (Ex.ret,
                      [(2,
                          Sv.one
                            (At.v
                              (Value.int IntKind.u64
                                (orI IntKind.u64 v
                                  (shlI IntKind.u64
                                    (IntKind.wrap .u64 (andI IntKind.u8 (intA ((b.getD i.toNat []).getD 0 At.bad)) 127))
                                    (IntKind.wrap .u64 (7 * IntKind.wrap .u64 i))))))),
                        (3, Sv.one (At.v (Value.int IntKind.i64 (IntKind.wrap .i64 (i + 1))))),
                        (4, Sv.one (At.v (Value.int IntKind.i64 0)))],
                      [])))
                (vloop EL 48 o50 noLo 0 (ntmpsAt Tryd.prog 48) (lcode Tryd.prog 48 3) 0 m
                  [(6, Sv.one (At.v (Value.int IntKind.i64 (IntKind.wrap .i64 (i + 1))))),
                    (5,
                      Sv.one
                        (At.v
                          (Value.int IntKind.u64
                            (orI IntKind.u64 v
                              (shlI IntKind.u64
                                (IntKind.wrap .u64 (andI IntKind.u8 (intA ((b.getD i.toNat []).getD 0 At.bad)) 127))
                                (IntKind.wrap .u64 (7 * IntKind.wrap .u64 i))))))),
                    (0, Sv.one (At.ro true 1 b))]
                  []))))))))
  (some (Ex.exit 0, [(2, Sv.one At.bad), (3, Sv.one At.bad), (4, Sv.one At.bad)], [])) := by kernel_rfl
theorem r49 (m : Nat) (b : List (List At)) (i v : Int) : vround EL 49 o50 noLo 0 (ntmpsAt Tryd.prog 49) (lcode Tryd.prog 49 3) 0 m [(6, iv i), (5, wv v), (0, rb b)] [] =
tst (decide (i < 10))
  (tst (decide (i ≥ (↑b.length : Int)))
    (some
      (Ex.ret,
        [(2, Sv.one (At.v (Value.int IntKind.u64 0))), (3, Sv.one (At.v (Value.int IntKind.i64 0))),
          (4, Sv.one (At.v (Value.int IntKind.i64 5)))],
        []))
    (chk (decide (0 ≤ i))
      (chk (decide (i < (↑b.length : Int)))
        (chk (okRow [SK.i IntKind.u8] (b.getD i.toNat []))
          (tst (i == 9)
            (tst (bif true then decide (intA ((b.getD i.toNat []).getD 0 At.bad) > 1) else false)
              (some
                (Ex.ret,
                  [(2, Sv.one (At.v (Value.int IntKind.u64 0))), (3, Sv.one (At.v (Value.int IntKind.i64 0))),
                    (4, Sv.one (At.v (Value.int IntKind.i64 6)))],
                  []))
              (tst (intA ((b.getD i.toNat []).getD 0 At.bad) == 0)
                (tst (bif false then true else bif true then decide (i > 0) else false)
                  (some
                    (Ex.ret,
                      [(2, Sv.one (At.v (Value.int IntKind.u64 0))), (3, Sv.one (At.v (Value.int IntKind.i64 0))),
                        (4, Sv.one (At.v (Value.int IntKind.i64 6)))],
                      []))
                  (chk (decide (0 ≤ IntKind.wrap .u64 (IntKind.wrap .i64 (7 * i))))
                    (tst (decide (intA ((b.getD i.toNat []).getD 0 At.bad) < 128))
                      (some
                        (Ex.ret,
                          [(2,
                              Sv.one
                                (At.v
                                  (Value.int IntKind.u64
                                    (orI IntKind.u64 v
                                      (shlI IntKind.u64
                                        (IntKind.wrap .u64
                                          (andI IntKind.u8 (intA ((b.getD i.toNat []).getD 0 At.bad)) 127))
                                        (IntKind.wrap .u64 (IntKind.wrap .i64 (7 * i)))))))),
                            (3, Sv.one (At.v (Value.int IntKind.i64 (IntKind.wrap .i64 (i + 1))))),
                            (4, Sv.one (At.v (Value.int IntKind.i64 0)))],
                          []))
                      (vloop EL 49 o50 noLo 0 (ntmpsAt Tryd.prog 49) (lcode Tryd.prog 49 3) 0 m
                        [(6, Sv.one (At.v (Value.int IntKind.i64 (IntKind.wrap .i64 (i + 1))))),
                          (5,
                            Sv.one
                              (At.v
                                (Value.int IntKind.u64
                                  (orI IntKind.u64 v
                                    (shlI IntKind.u64
                                      (IntKind.wrap .u64
                                        (andI IntKind.u8 (intA ((b.getD i.toNat []).getD 0 At.bad)) 127))
                                      (IntKind.wrap .u64 (IntKind.wrap .i64 (7 * i)))))))),
                          (0, Sv.one (At.ro true 1 b))]
                        []))))
                (chk (decide (0 ≤ IntKind.wrap .u64 (IntKind.wrap .i64 (7 * i))))
                  (tst (decide (intA ((b.getD i.toNat []).getD 0 At.bad) < 128))
                    (some
                      (Ex.ret,
                        [(2,
                            Sv.one
                              (At.v
                                (Value.int IntKind.u64
                                  (orI IntKind.u64 v
                                    (shlI IntKind.u64
                                      (IntKind.wrap .u64
                                        (andI IntKind.u8 (intA ((b.getD i.toNat []).getD 0 At.bad)) 127))
                                      (IntKind.wrap .u64 (IntKind.wrap .i64 (7 * i)))))))),
                          (3, Sv.one (At.v (Value.int IntKind.i64 (IntKind.wrap .i64 (i + 1))))),
                          (4, Sv.one (At.v (Value.int IntKind.i64 0)))],
                        []))
                    (vloop EL 49 o50 noLo 0 (ntmpsAt Tryd.prog 49) (lcode Tryd.prog 49 3) 0 m
                      [(6, Sv.one (At.v (Value.int IntKind.i64 (IntKind.wrap .i64 (i + 1))))),
                        (5,
                          Sv.one
                            (At.v
                              (Value.int IntKind.u64
                                (orI IntKind.u64 v
                                  (shlI IntKind.u64
                                    (IntKind.wrap .u64 (andI IntKind.u8 (intA ((b.getD i.toNat []).getD 0 At.bad)) 127))
                                    (IntKind.wrap .u64 (IntKind.wrap .i64 (7 * i)))))))),
                        (0, Sv.one (At.ro true 1 b))]
                      [])))))
            (tst (intA ((b.getD i.toNat []).getD 0 At.bad) == 0)
              (tst (bif false then true else bif true then decide (i > 0) else false)
                (some
                  (Ex.ret,
                    [(2, Sv.one (At.v (Value.int IntKind.u64 0))), (3, Sv.one (At.v (Value.int IntKind.i64 0))),
                      (4, Sv.one (At.v (Value.int IntKind.i64 6)))],
                    []))
                (chk (decide (0 ≤ IntKind.wrap .u64 (IntKind.wrap .i64 (7 * i))))
                  (tst (decide (intA ((b.getD i.toNat []).getD 0 At.bad) < 128))
                    (some
                      (Ex.ret,
                        [(2,
                            Sv.one
                              (At.v
                                (Value.int IntKind.u64
                                  (orI IntKind.u64 v
                                    (shlI IntKind.u64
                                      (IntKind.wrap .u64
                                        (andI IntKind.u8 (intA ((b.getD i.toNat []).getD 0 At.bad)) 127))
                                      (IntKind.wrap .u64 (IntKind.wrap .i64 (7 * i)))))))),
                          (3, Sv.one (At.v (Value.int IntKind.i64 (IntKind.wrap .i64 (i + 1))))),
                          (4, Sv.one (At.v (Value.int IntKind.i64 0)))],
                        []))
                    (vloop EL 49 o50 noLo 0 (ntmpsAt Tryd.prog 49) (lcode Tryd.prog 49 3) 0 m
                      [(6, Sv.one (At.v (Value.int IntKind.i64 (IntKind.wrap .i64 (i + 1))))),
                        (5,
                          Sv.one
                            (At.v
                              (Value.int IntKind.u64
                                (orI IntKind.u64 v
                                  (shlI IntKind.u64
                                    (IntKind.wrap .u64 (andI IntKind.u8 (intA ((b.getD i.toNat []).getD 0 At.bad)) 127))
                                    (IntKind.wrap .u64 (IntKind.wrap .i64 (7 * i)))))))),
                        (0, Sv.one (At.ro true 1 b))]
                      []))))
              (chk (decide (0 ≤ IntKind.wrap .u64 (IntKind.wrap .i64 (7 * i))))
                (tst (decide (intA ((b.getD i.toNat []).getD 0 At.bad) < 128))
                  (some
                    (Ex.ret,
                      [(2,
                          Sv.one
                            (At.v
                              (Value.int IntKind.u64
                                (orI IntKind.u64 v
                                  (shlI IntKind.u64
                                    (IntKind.wrap .u64 (andI IntKind.u8 (intA ((b.getD i.toNat []).getD 0 At.bad)) 127))
                                    (IntKind.wrap .u64 (IntKind.wrap .i64 (7 * i)))))))),
                        (3, Sv.one (At.v (Value.int IntKind.i64 (IntKind.wrap .i64 (i + 1))))),
                        (4, Sv.one (At.v (Value.int IntKind.i64 0)))],
                      []))
                  (vloop EL 49 o50 noLo 0 (ntmpsAt Tryd.prog 49) (lcode Tryd.prog 49 3) 0 m
                    [(6, Sv.one (At.v (Value.int IntKind.i64 (IntKind.wrap .i64 (i + 1))))),
                      (5,
                        Sv.one
                          (At.v
                            (Value.int IntKind.u64
                              (orI IntKind.u64 v
                                (shlI IntKind.u64
                                  (IntKind.wrap .u64 (andI IntKind.u8 (intA ((b.getD i.toNat []).getD 0 At.bad)) 127))
                                  (IntKind.wrap .u64 (IntKind.wrap .i64 (7 * i)))))))),
                      (0, Sv.one (At.ro true 1 b))]
                    [])))))))))
  (some (Ex.exit 0, [(2, Sv.one At.bad), (3, Sv.one At.bad), (4, Sv.one At.bad)], [])) := by kernel_rfl
end
end Go.Proofs.YtkpdcieoiciapaaDoor
