/- A process as bytes, written; two rows of bytes compared. -/
import Derived.Test.YtkpdcieoiciapaaDoorIdR
import Derived.Test.YtkpdcieoiciapaaDoorSh2
namespace Go.Proofs.YtkpdcieoiciapaaDoor
open Go Go.Vi Go.IntWalk Go.Shelf
set_option maxRecDepth 100000
set_option linter.unusedVariables false
set_option linter.unusedSimpArgs false
noncomputable section

structure OkE (a b : List (List At)) : Prop where
  a : mBytes a = true
  b : mBytes b = true
def mEq (a b : List (List At)) : Bool := Lib.bytesOf (vals a) == Lib.bytesOf (vals b)
def F34 (a : List Sv) (M : List Box) : Tr := match a, M with
  | [.one (.ro true 1 x), .one (.ro true 1 y)], [] => .br (gd (OkE x y)) (.ok (bv (mEq x y), [])) .no
  | _, _ => .no
def o34 : Orc := over o32 34 F34

theorem byte_row {e : List At} (h : mByte1 e = true) : e = by1 (intA (e.getD 0 .bad)) := by
  simp only [mByte1, Bool.and_eq_true] at h
  have h1 := h.1.1
  cases e with
  | nil => simp [okRow] at h1
  | cons y ys =>
    cases ys with
    | cons z zs => simp [okRow] at h1
    | nil =>
      simp only [okRow, Bool.and_true] at h1
      cases y with
      | v x => cases x <;> simp_all [okA, intA]
      | _ => simp_all [okA]
theorem bytes_in {S : Nat → Prop} {w : World} {es : List (List At)} {u : Value} (h : CV S w (.ro true 1 es) u) (hb : mBytes es = true) : ∃ a n c, u = .slice a n c ∧ (vals es).length = n ∧ Lib.BytesIn w a n (vals es) := by
  obtain ⟨a, n, c, get, rfl, hn, hc, hl, hf, hm, hr⟩ := slv_cv.2 h
  refine ⟨a, n, c, rfl, by rw [vals_length, hn], ?_⟩
  rcases Nat.eq_zero_or_pos n with h0 | h0
  · subst h0; exact Lib.BytesIn.nil _ _ _
  · obtain ⟨ad, rfl, _, hcell⟩ := hm (by intro e; subst e; simp at hn; omega)
    refine Lib.BytesIn.of_cells fun i hi => ?_
    have hi' : i < es.length := by omega
    have e1 : es[i]? = some es[i] := List.getElem?_eq_getElem hi'
    have hrow := byte_row (List.all_eq_true.1 hb es[i] (List.getElem_mem hi'))
    have e2 : es[i][0]? = some (.v (.int .u8 (intA (es[i].getD 0 .bad)))) := by rw [hrow]; rfl
    have c1 := hcell i _ 0 _ e1 e2
    have c2 := hr i _ 0 _ e1 e2
    have c4 : ∀ u, CV S w (.v (.int .u8 (intA (es[i].getD 0 .bad)))) u → u = .int .u8 (intA (es[i].getD 0 .bad)) := by intro u hu; cases hu; rfl
    have c3 := c4 _ c2
    rw [Nat.mul_one, Nat.add_zero, c3] at c1
    rw [c1, ← vals_get, List.getD_eq_getElem?_getD (l := es), e1]
    rfl
theorem two_args {S : Nat → Prop} {w : World} {ρ : Vi.Loc} {m : Mem} {us : Array Value} {x y : List (List At)} (hs : us.size = [Sv.one (.ro true 1 x), Sv.one (.ro true 1 y)].length)
    (h : ∀ (j : Nat) z, [Sv.one (.ro true 1 x), Sv.one (.ro true 1 y)][j]? = some z → ∃ u, us[j]? = some u ∧ RS S w ρ m z u) : ∃ u v, us = #[u, v] ∧ CV S w (.ro true 1 x) u ∧ CV S w (.ro true 1 y) v := by
  obtain ⟨u, hu, hr⟩ := h 0 _ rfl
  obtain ⟨v, hv, hr2⟩ := h 1 _ rfl
  refine ⟨u, v, ?_, hr, hr2⟩
  apply Array.ext_getElem?
  intro i
  cases i with
  | zero => rw [hu]; rfl
  | succ i => cases i with
    | zero => rw [hv]; rfl
    | succ i => rw [Array.getElem?_eq_none (by simp at hs; omega), Array.getElem?_eq_none (by simp)]
theorem equal_at (p1 p2 : Option Addr) (n c m d : Nat) (xs ys : List Int) (w : World) (hx : xs.length = n) (hy : ys.length = m) (h1 : Lib.BytesIn w p1 n xs) (h2 : Lib.BytesIn w p2 m ys) :
    Calls Tryd.prog 34 #[.slice p1 n c, .slice p2 m d] w fun e w' => e = .returned (.bool (Lib.bytesOf xs == Lib.bytesOf ys)) ∧ w' = w := Any.bytes_Equal_all Tryd.lays115 p1 p2 n c m d xs ys w hx hy h1 h2
theorem c34 : CallOK EL Tryd.prog o34 := over_at c32 fun args M res M2 hx => by
  unfold F34 at hx
  split at hx
  · rename_i x y
    obtain ⟨hc, hx⟩ := br_some hx
    have ok := of_gd hc
    obtain ⟨rfl, rfl⟩ := Prod.mk.inj (Option.some.inj hx)
    refine callAt_below (has_of (by kernel_rfl)) fun w S ρ us hs ha hG => ?_
    obtain ⟨u, v, rfl, hu, hv⟩ := two_args hs ha
    obtain ⟨p1, n1, k1, rfl, l1, b1⟩ := bytes_in hu ok.a
    obtain ⟨p2, n2, k2, rfl, l2, b2⟩ := bytes_in hv ok.b
    refine (equal_at p1 p2 n1 k1 n2 k2 _ _ w l1 l2 b1 b2).mono ?_
    rintro e w' ⟨rfl, rfl⟩
    exact ⟨_, rfl, fun S' ρ' => rs_v rfl, ⟨rfl, rfl, rfl, Nat.le_refl _, fun _ _ => rfl⟩⟩
  · cases hx

def mWrite (b : List (List At)) (x y z : Int) : List (List At) := bif mValidProc x y z then b ++ mVarint x ++ mVarint y ++ mVarint z else b
structure OkW (b : List (List At)) : Prop where
  are : mBytes b = true
  len : b.length ≤ 140737488351232
theorem q33 (b : List (List At)) (x y z : Int) : vstep EL Tryd.prog noLo 5 o34 33 [rb b, pv x y z] [] =
chk (allStor true b)
  (chk (decide ((0 + b.length) * 1 ≤ 140737488355328))
    (tst (!mValidProc x y z) (some (Sv.one (At.ro true 1 ([] ++ b)), []))
      (chk (gd (OkPut ([] ++ b) (IntKind.wrap .u64 x)))
        (chk (gd (OkPut ([] ++ b ++ mVarint (IntKind.wrap .u64 x)) (IntKind.wrap .u64 y)))
          (chk
            (gd (OkPut ([] ++ b ++ mVarint (IntKind.wrap .u64 x) ++ mVarint (IntKind.wrap .u64 y)) (IntKind.wrap .u64 z)))
            (some
              (Sv.one
                  (At.ro true 1
                    ([] ++ b ++ mVarint (IntKind.wrap .u64 x) ++ mVarint (IntKind.wrap .u64 y) ++
                      mVarint (IntKind.wrap .u64 z))),
                []))))))) := by kernel_rfl

theorem okput {b : List (List At)} (h : mBytes b = true) {v : Int} (hl : b.length ≤ 140737488355300) (h0 : 0 ≤ v) (h1 : v ≤ 999) : OkPut b v := ⟨h, hl, h0, by omega⟩
theorem put_more {b : List (List At)} (h : mBytes b = true) (v : Int) : mBytes (b ++ mVarint v) = true ∧ (b ++ mVarint v).length ≤ b.length + 11 := by
  have h1 := (varint_bytes v).1
  have h2 := (varint_bytes v).2
  refine ⟨by rw [mBytes_app, h, h1]; rfl, by rw [List.length_append]; omega⟩
theorem e33 (b : List (List At)) (x y z : Int) (ok : OkW b) : vstep EL Tryd.prog noLo 5 o34 33 [rb b, pv x y z] [] = some (rb (mWrite b x y z), []) := by
  have hl := ok.len
  rw [q33, mBytes_stor ok.are, chk_t rfl, chk_t (decide_eq_true (by omega)), List.nil_append]
  unfold mWrite
  cases hv : mValidProc x y z with
  | false => rfl
  | true =>
    obtain ⟨h1, h2, h3⟩ := valid_iff.1 hv
    obtain ⟨p1, p2⟩ := put_more ok.are x
    obtain ⟨p3, p4⟩ := put_more p1 y
    rw [wrap_u64 (n := x) (by omega) (by omega), wrap_u64 (n := y) (by omega) (by omega), wrap_u64 (n := z) (by omega) (by omega), gd_t (okput ok.are (by omega) (by omega) (by omega)), gd_t (okput p1 (by omega) (by omega) (by omega)), gd_t (okput p3 (by omega) (by omega) (by omega))]
    rfl
def F33 (a : List Sv) (M : List Box) : Tr := match a, M with
  | [.one (.ro true 1 b), .agg [.v (.int .i64 x), .v (.int .i64 y), .v (.int .i64 z)]], [] => (.br (gd (OkW b)) (.ok (rb (mWrite b x y z), [])) .no)
  | _, _ => .no
def o33 : Orc := over o34 33 F33
theorem c33 : CallOK EL Tryd.prog o33 := over_ok T.tok T.mo T.ng c34 fun args M x hx => by
  unfold F33 at hx
  split at hx
  · rename_i b x y z
    obtain ⟨hc, hx⟩ := br_some hx
    exact ⟨noLo, 5, loops_no, (e33 b x y z (of_gd hc)).trans hx⟩
  · cases hx
theorem q35 (b : List (List At)) (x y z : Int) : vstep EL Tryd.prog noLo 0 o33 35 [rb b, pv x y z] [] =
tst (!mValidProc x y z)
  (chk (allStor true b)
    (chk (decide ((0 + b.length) * 1 ≤ 140737488355328)) (some (Sv.one (At.ro true 1 ([] ++ b)), []))))
  (chk (gd (OkPut b (IntKind.wrap .u64 x)))
    (chk (gd (OkPut (b ++ mVarint (IntKind.wrap .u64 x)) (IntKind.wrap .u64 y)))
      (chk (gd (OkPut (b ++ mVarint (IntKind.wrap .u64 x) ++ mVarint (IntKind.wrap .u64 y)) (IntKind.wrap .u64 z)))
        (some
          (Sv.one
              (At.ro true 1
                (b ++ mVarint (IntKind.wrap .u64 x) ++ mVarint (IntKind.wrap .u64 y) ++ mVarint (IntKind.wrap .u64 z))),
            []))))) := by kernel_rfl

theorem e35 (b : List (List At)) (x y z : Int) (ok : OkW b) : vstep EL Tryd.prog noLo 0 o33 35 [rb b, pv x y z] [] = some (rb (mWrite b x y z), []) := by
  have hl := ok.len
  rw [q35, mBytes_stor ok.are, List.nil_append]
  unfold mWrite
  cases hv : mValidProc x y z with
  | false => rw [Bool.not_false, tst_t rfl, chk_t rfl, chk_t (decide_eq_true (by omega))]; rfl
  | true =>
    obtain ⟨h1, h2, h3⟩ := valid_iff.1 hv
    obtain ⟨p1, p2⟩ := put_more ok.are x
    obtain ⟨p3, p4⟩ := put_more p1 y
    rw [wrap_u64 (n := x) (by omega) (by omega), wrap_u64 (n := y) (by omega) (by omega), wrap_u64 (n := z) (by omega) (by omega), gd_t (okput ok.are (by omega) (by omega) (by omega)), gd_t (okput p1 (by omega) (by omega) (by omega)), gd_t (okput p3 (by omega) (by omega) (by omega))]
    rfl
def F35 (a : List Sv) (M : List Box) : Tr := match a, M with
  | [.one (.ro true 1 b), .agg [.v (.int .i64 x), .v (.int .i64 y), .v (.int .i64 z)]], [] => (.br (gd (OkW b)) (.ok (rb (mWrite b x y z), [])) .no)
  | _, _ => .no
def o35 : Orc := over o33 35 F35
theorem c35 : CallOK EL Tryd.prog o35 := over_ok T.tok T.mo T.ng c33 fun args M x hx => by
  unfold F35 at hx
  split at hx
  · rename_i b x y z
    obtain ⟨hc, hx⟩ := br_some hx
    exact ⟨noLo, 0, loops_no, (e35 b x y z (of_gd hc)).trans hx⟩
  · cases hx
theorem q12 (x y z : Int) (h t : List (List At)) : vstep EL Tryd.prog noLo 0 o35 12 [pv x y z, rb h, rb t] [] =
chk (gd (OkW h))
  (tst (!mValidProc x y z)
    (chk (gd (OkE (mWrite h x y z) h))
      (some (Sv.one (At.v (Value.bool (bif true then mEq (mWrite h x y z) h else false))), [])))
    (tst (bif false then true else decide ((↑(mWrite h x y z).length : Int) ≤ (↑h.length : Int)))
      (some (Sv.one (At.v (Value.bool false)), []))
      (chk (gd (OkW h))
        (chk (gd (OkE (mWrite h x y z) (mWrite h x y z)))
          (tst (bif false then true else !mEq (mWrite h x y z) (mWrite h x y z))
            (some (Sv.one (At.v (Value.bool false)), []))
            (chk (decide ((↑h.length : Int) ≤ (↑(mWrite h x y z).length : Int)))
              (chk (decide ((↑(mWrite h x y z).length : Int) ≤ (↑(mWrite h x y z).length : Int)))
                (chk
                  (allStor true
                    (List.drop (↑h.length : Int).toNat
                      (List.take (↑(mWrite h x y z).length : Int).toNat (mWrite h x y z))))
                  (chk
                    (decide
                      ((0 +
                            (List.drop (↑h.length : Int).toNat
                                (List.take (↑(mWrite h x y z).length : Int).toNat (mWrite h x y z))).length) *
                          1 ≤
                        140737488355328))
                    (chk (allStor true t)
                      (chk
                        (decide
                          ((([] ++
                                    List.drop (↑h.length : Int).toNat
                                      (List.take (↑(mWrite h x y z).length : Int).toNat (mWrite h x y z))).length +
                                t.length) *
                              1 ≤
                            140737488355328))
                        (chk
                          (gd
                            (OkB
                              ([] ++
                                  List.drop (↑h.length : Int).toNat
                                    (List.take (↑(mWrite h x y z).length : Int).toNat (mWrite h x y z)) ++
                                t)))
                          (tst
                            (mProcE
                                ([] ++
                                    List.drop (↑h.length : Int).toNat
                                      (List.take (↑(mWrite h x y z).length : Int).toNat (mWrite h x y z)) ++
                                  t) ==
                              0)
                            (tst
                              (bif true then
                                mProcA
                                      ([] ++
                                          List.drop (↑h.length : Int).toNat
                                            (List.take (↑(mWrite h x y z).length : Int).toNat (mWrite h x y z)) ++
                                        t) ==
                                    x &&
                                  (mProcC
                                        ([] ++
                                            List.drop (↑h.length : Int).toNat
                                              (List.take (↑(mWrite h x y z).length : Int).toNat (mWrite h x y z)) ++
                                          t) ==
                                      y &&
                                    (mProcD
                                          ([] ++
                                              List.drop (↑h.length : Int).toNat
                                                (List.take (↑(mWrite h x y z).length : Int).toNat (mWrite h x y z)) ++
                                            t) ==
                                        z &&
                                      true))
                              else false)
                              (some
                                (Sv.one
                                    (At.v
                                      (Value.bool
                                        (bif true then
                                          mProcN
                                              ([] ++
                                                  List.drop (↑h.length : Int).toNat
                                                    (List.take (↑(mWrite h x y z).length : Int).toNat
                                                      (mWrite h x y z)) ++
                                                t) ==
                                            IntKind.wrap .i64 ((↑(mWrite h x y z).length : Int) - (↑h.length : Int))
                                        else false))),
                                  []))
                              (some (Sv.one (At.v (Value.bool false)), [])))
                            (some (Sv.one (At.v (Value.bool false)), []))))))))))))))) := by kernel_rfl
end
end Go.Proofs.YtkpdcieoiciapaaDoor
