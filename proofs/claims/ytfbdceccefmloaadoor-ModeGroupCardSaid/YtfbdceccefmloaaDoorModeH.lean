import Derived.Test.YtfbdceccefmloaaDoorModeG
namespace Go.Proofs.YtfbdceccefmloaaDoor
open Go Go.Vi
set_option maxRecDepth 100000
set_option linter.unusedVariables false
set_option linter.unusedSimpArgs false
def isT : Option (Sv × List Box) → Bool
  | some (.one (.v (.bool true)), []) => true
  | _ => false
theorem isT_eq {t : Option (Sv × List Box)} (h : isT t = true) : t = some (bv true, []) := by
  unfold isT at h
  split at h
  · rfl
  · cases h
theorem cls_le (a : Int) : cls a < 6 := by unfold cls; split <;> decide
theorem cls_rep (a : Int) : cls (Int.ofNat (cls a)) = cls a := by
  have h := cls_le a
  generalize cls a = x at h
  match x, h with
  | 0, _ => rfl
  | 1, _ => rfl
  | 2, _ => rfl
  | 3, _ => rfl
  | 4, _ => rfl
  | 5, _ => rfl
theorem cls_is {a : Int} (h : cls a ≠ 0) : a = Int.ofNat (cls a) := by
  unfold cls at h ⊢
  split at h <;> first | rfl | exact absurd rfl h
def all3 (f : Nat → Nat → Nat → Bool) : Bool := (List.range 6).all fun x => (List.range 6).all fun y => (List.range 6).all fun z => f x y z
theorem all3_get {f : Nat → Nat → Nat → Bool} (h : all3 f = true) (a b c : Int) : f (cls a) (cls b) (cls c) = true :=
  List.all_eq_true.1 (List.all_eq_true.1 (List.all_eq_true.1 h _ (List.mem_range.2 (cls_le a))) _ (List.mem_range.2 (cls_le b))) _ (List.mem_range.2 (cls_le c))
def T5 (a b c : Int) : Option (Sv × List Box) :=
tst (supI a b != supI a b) (some (Sv.one (At.v (Value.bool false)), []))
  (tst (bif false then true else supI a b != supI b a) (some (Sv.one (At.v (Value.bool false)), []))
    (tst (!validB a) (some (Sv.one (At.v (Value.bool (bif true then supI a b == 0 else false))), []))
      (tst (bif false then true else !validB b)
        (some (Sv.one (At.v (Value.bool (bif true then supI a b == 0 else false))), []))
        (tst (bif true then covB (supI a b) a else false)
          (tst (bif true then covB (supI a b) b else false)
            (tst (!covB c a)
              (some (Sv.one (At.v (Value.bool (bif true then supI (supI a b) c == supI a (supI b c) else false))), []))
              (tst (bif false then true else !covB c b)
                (some
                  (Sv.one (At.v (Value.bool (bif true then supI (supI a b) c == supI a (supI b c) else false))), []))
                (tst (bif true then bif false then true else covB c (supI a b) else false)
                  (some
                    (Sv.one (At.v (Value.bool (bif true then supI (supI a b) c == supI a (supI b c) else false))), []))
                  (some (Sv.one (At.v (Value.bool false)), [])))))
            (some (Sv.one (At.v (Value.bool false)), [])))
          (some (Sv.one (At.v (Value.bool false)), []))))))
theorem l5 (a b c : Int) : T5 a b c = some (bv true, []) := by
  have e : T5 a b c = T5 (Int.ofNat (cls a)) (Int.ofNat (cls b)) (Int.ofNat (cls c)) := by
    unfold T5
    simp only [compB, covB, supI, validB, cls_rep]
  rw [e]
  exact isT_eq (all3_get (f := fun x y z => isT (T5 (Int.ofNat x) (Int.ofNat y) (Int.ofNat z))) (by kernel_rfl) a b c)
theorem e5 (a b c : Int) : VS 7 o10 5 [iv a, iv b, iv c] = some (bv true, []) := (show VS 7 o10 5 [iv a, iv b, iv c] = T5 a b c by kernel_rfl).trans (l5 a b c)
def T6 (a b c : Int) : Option (Sv × List Box) :=
tst (!covB a b) (some (Sv.one (At.v (Value.bool true)), []))
  (tst (bif false then true else !compB a c) (some (Sv.one (At.v (Value.bool true)), []))
    (some (Sv.one (At.v (Value.bool (bif true then bif false then true else compB b c else false))), [])))
theorem l6 (a b c : Int) : T6 a b c = some (bv true, []) := by
  have e : T6 a b c = T6 (Int.ofNat (cls a)) (Int.ofNat (cls b)) (Int.ofNat (cls c)) := by
    unfold T6
    simp only [compB, covB, supI, validB, cls_rep]
  rw [e]
  exact isT_eq (all3_get (f := fun x y z => isT (T6 (Int.ofNat x) (Int.ofNat y) (Int.ofNat z))) (by kernel_rfl) a b c)
theorem e6 (a b c : Int) : VS 7 o10 6 [iv a, iv b, iv c] = some (bv true, []) := (show VS 7 o10 6 [iv a, iv b, iv c] = T6 a b c by kernel_rfl).trans (l6 a b c)
def T4 (ne : Bool) (a b c : Int) : Option (Sv × List Box) :=
tst (!compB a b == compB b a) (some (Sv.one (At.v (Value.bool false)), []))
  (tst (bif false then true else !covB a a == validB a) (some (Sv.one (At.v (Value.bool false)), []))
    (tst (covB a b)
      (tst (bif true then covB b a else false)
        (tst (bif false then true else bif true then ne else false) (some (Sv.one (At.v (Value.bool false)), []))
          (tst (!covB a b) (some (Sv.one (At.v (Value.bool true)), []))
            (tst (bif false then true else !covB b c) (some (Sv.one (At.v (Value.bool true)), []))
              (some (Sv.one (At.v (Value.bool (bif true then bif false then true else covB a c else false))), [])))))
        (tst (!covB a b) (some (Sv.one (At.v (Value.bool true)), []))
          (tst (bif false then true else !covB b c) (some (Sv.one (At.v (Value.bool true)), []))
            (some (Sv.one (At.v (Value.bool (bif true then bif false then true else covB a c else false))), [])))))
      (tst (!covB a b) (some (Sv.one (At.v (Value.bool true)), []))
        (tst (bif false then true else !covB b c) (some (Sv.one (At.v (Value.bool true)), []))
          (some (Sv.one (At.v (Value.bool (bif true then bif false then true else covB a c else false))), []))))))
theorem l4 (a b c : Int) : T4 (a != b) a b c = some (bv true, []) := by
  have e : T4 (a != b) a b c = T4 (a != b) (Int.ofNat (cls a)) (Int.ofNat (cls b)) (Int.ofNat (cls c)) := by
    unfold T4
    simp only [compB, covB, supI, validB, cls_rep]
  rw [e]
  apply isT_eq
  have k1 := all3_get (f := fun x y z => !(Nat.beq x 0 || Nat.beq y 0) || (isT (T4 true (Int.ofNat x) (Int.ofNat y) (Int.ofNat z)) && isT (T4 false (Int.ofNat x) (Int.ofNat y) (Int.ofNat z)))) (by kernel_rfl) a b c
  have k2 := all3_get (f := fun x y z => isT (T4 (Int.ofNat x != Int.ofNat y) (Int.ofNat x) (Int.ofNat y) (Int.ofNat z))) (by kernel_rfl) a b c
  by_cases ha : cls a = 0
  · rw [ha] at k1 ⊢
    have k1 : isT (T4 true (Int.ofNat 0) (Int.ofNat (cls b)) (Int.ofNat (cls c))) = true ∧ isT (T4 false (Int.ofNat 0) (Int.ofNat (cls b)) (Int.ofNat (cls c))) = true := by simpa using k1
    cases (a != b)
    · exact k1.2
    · exact k1.1
  · by_cases hb : cls b = 0
    · rw [hb] at k1 ⊢
      have k1 : isT (T4 true (Int.ofNat (cls a)) (Int.ofNat 0) (Int.ofNat (cls c))) = true ∧ isT (T4 false (Int.ofNat (cls a)) (Int.ofNat 0) (Int.ofNat (cls c))) = true := by simpa using k1
      cases (a != b)
      · exact k1.2
      · exact k1.1
    · rw [← cls_is ha, ← cls_is hb] at k2
      rw [← cls_is ha, ← cls_is hb]
      exact k2
theorem e4 (a b c : Int) : VS 7 o10 4 [iv a, iv b, iv c] = some (bv true, []) := (show VS 7 o10 4 [iv a, iv b, iv c] = T4 (a != b) a b c by kernel_rfl).trans (l4 a b c)
def T7_1 (b : Int) : Option (Sv × List Box) :=
tst (bif true then validB b else false)
  (some
    (Sv.one
        (At.v
          (Value.bool
            (bif true then (bif false then true else 5 == b) == bif true then !compB 1 b else false else false))),
      []))
  (some (Sv.one (At.v (Value.bool (bif true then (bif false then true else 5 == b) == false else false))), []))
theorem l7_1 (b : Int) : VS 7 o10 7 [iv 1, iv b] = some (bv true, []) :=
  (show VS 7 o10 7 [iv 1, iv b] = T7_1 b by kernel_rfl).trans (by induction b using ic <;> kernel_rfl)
def T7_2 (b : Int) : Option (Sv × List Box) :=
tst (bif false then true else 3 == b)
  (tst (bif true then validB b else false)
    (some (Sv.one (At.v (Value.bool (bif true then true == bif true then !compB 2 b else false else false))), []))
    (some (Sv.one (At.v (Value.bool false)), [])))
  (tst (bif false then true else 4 == b)
    (tst (bif true then validB b else false)
      (some (Sv.one (At.v (Value.bool (bif true then true == bif true then !compB 2 b else false else false))), []))
      (some (Sv.one (At.v (Value.bool false)), [])))
    (tst (bif true then validB b else false)
      (some
        (Sv.one
            (At.v
              (Value.bool
                (bif true then (bif false then true else 5 == b) == bif true then !compB 2 b else false else false))),
          []))
      (some (Sv.one (At.v (Value.bool (bif true then (bif false then true else 5 == b) == false else false))), []))))
theorem l7_2 (b : Int) : VS 7 o10 7 [iv 2, iv b] = some (bv true, []) :=
  (show VS 7 o10 7 [iv 2, iv b] = T7_2 b by kernel_rfl).trans (by induction b using ic <;> kernel_rfl)
def T7_3 (b : Int) : Option (Sv × List Box) :=
tst (bif false then true else 2 == b)
  (tst (bif true then validB b else false)
    (some (Sv.one (At.v (Value.bool (bif true then true == bif true then !compB 3 b else false else false))), []))
    (some (Sv.one (At.v (Value.bool false)), [])))
  (tst (bif false then true else 4 == b)
    (tst (bif true then validB b else false)
      (some (Sv.one (At.v (Value.bool (bif true then true == bif true then !compB 3 b else false else false))), []))
      (some (Sv.one (At.v (Value.bool false)), [])))
    (tst (bif true then validB b else false)
      (some
        (Sv.one
            (At.v
              (Value.bool
                (bif true then (bif false then true else 5 == b) == bif true then !compB 3 b else false else false))),
          []))
      (some (Sv.one (At.v (Value.bool (bif true then (bif false then true else 5 == b) == false else false))), []))))
theorem l7_3 (b : Int) : VS 7 o10 7 [iv 3, iv b] = some (bv true, []) :=
  (show VS 7 o10 7 [iv 3, iv b] = T7_3 b by kernel_rfl).trans (by induction b using ic <;> kernel_rfl)
def T7_4 (b : Int) : Option (Sv × List Box) :=
tst (bif false then true else 2 == b)
  (tst (bif true then validB b else false)
    (some (Sv.one (At.v (Value.bool (bif true then true == bif true then !compB 4 b else false else false))), []))
    (some (Sv.one (At.v (Value.bool false)), [])))
  (tst (bif false then true else 3 == b)
    (tst (bif true then validB b else false)
      (some (Sv.one (At.v (Value.bool (bif true then true == bif true then !compB 4 b else false else false))), []))
      (some (Sv.one (At.v (Value.bool false)), [])))
    (tst (bif false then true else 4 == b)
      (tst (bif true then validB b else false)
        (some (Sv.one (At.v (Value.bool (bif true then true == bif true then !compB 4 b else false else false))), []))
        (some (Sv.one (At.v (Value.bool false)), [])))
      (tst (bif true then validB b else false)
        (some
          (Sv.one
              (At.v
                (Value.bool
                  (bif true then (bif false then true else 5 == b) == bif true then !compB 4 b else false else false))),
            []))
        (some (Sv.one (At.v (Value.bool (bif true then (bif false then true else 5 == b) == false else false))), [])))))
theorem l7_4 (b : Int) : VS 7 o10 7 [iv 4, iv b] = some (bv true, []) :=
  (show VS 7 o10 7 [iv 4, iv b] = T7_4 b by kernel_rfl).trans (by induction b using ic <;> kernel_rfl)
def T7_5 (b : Int) : Option (Sv × List Box) :=
tst (bif false then true else 1 == b)
  (tst (bif true then validB b else false)
    (some (Sv.one (At.v (Value.bool (bif true then true == bif true then !compB 5 b else false else false))), []))
    (some (Sv.one (At.v (Value.bool false)), [])))
  (tst (bif false then true else 2 == b)
    (tst (bif true then validB b else false)
      (some (Sv.one (At.v (Value.bool (bif true then true == bif true then !compB 5 b else false else false))), []))
      (some (Sv.one (At.v (Value.bool false)), [])))
    (tst (bif false then true else 3 == b)
      (tst (bif true then validB b else false)
        (some (Sv.one (At.v (Value.bool (bif true then true == bif true then !compB 5 b else false else false))), []))
        (some (Sv.one (At.v (Value.bool false)), [])))
      (tst (bif false then true else 4 == b)
        (tst (bif true then validB b else false)
          (some (Sv.one (At.v (Value.bool (bif true then true == bif true then !compB 5 b else false else false))), []))
          (some (Sv.one (At.v (Value.bool false)), [])))
        (tst (bif true then validB b else false)
          (some
            (Sv.one
                (At.v
                  (Value.bool
                    (bif true then (bif false then true else 5 == b) == bif true then !compB 5 b else false
                    else false))),
              []))
          (some
            (Sv.one (At.v (Value.bool (bif true then (bif false then true else 5 == b) == false else false))), []))))))
theorem l7_5 (b : Int) : VS 7 o10 7 [iv 5, iv b] = some (bv true, []) :=
  (show VS 7 o10 7 [iv 5, iv b] = T7_5 b by kernel_rfl).trans (by induction b using ic <;> kernel_rfl)
theorem e7 (a b : Int) : VS 7 o10 7 [iv a, iv b] = some (bv true, []) := by
  induction a using ic
  · kernel_rfl
  · kernel_rfl
  · exact l7_1 b
  · exact l7_2 b
  · exact l7_3 b
  · exact l7_4 b
  · exact l7_5 b
  · kernel_rfl
def T8 (a : Int) (s : ByteArray) : Option (Sv × List Box) :=
tst (bif true then bytesEq (fmtS a) (fmtS a) else false)
  (tst (bif true then parB (fmtS a) == validB a else false)
    (tst (!parB (fmtS a))
      (tst (bif true then parI s == parI s else false)
        (tst (bif true then parB s == parB s else false)
          (tst (!parB s) (some (Sv.one (At.v (Value.bool true)), []))
            (some
              (Sv.one (At.v (Value.bool (bif true then bif false then true else bytesEq (fmtS (parI s)) s else false))),
                [])))
          (some (Sv.one (At.v (Value.bool false)), [])))
        (some (Sv.one (At.v (Value.bool false)), [])))
      (tst (bif true then bif false then true else parI (fmtS a) == a else false)
        (tst (bif true then parI s == parI s else false)
          (tst (bif true then parB s == parB s else false)
            (tst (!parB s) (some (Sv.one (At.v (Value.bool true)), []))
              (some
                (Sv.one
                    (At.v (Value.bool (bif true then bif false then true else bytesEq (fmtS (parI s)) s else false))),
                  [])))
            (some (Sv.one (At.v (Value.bool false)), [])))
          (some (Sv.one (At.v (Value.bool false)), [])))
        (some (Sv.one (At.v (Value.bool false)), []))))
    (some (Sv.one (At.v (Value.bool false)), [])))
  (some (Sv.one (At.v (Value.bool false)), []))
theorem parB_fmt {s : ByteArray} (h : parB s = true) : bytesEq (fmtS (parI s)) s = true := by
  unfold parB at h
  unfold parI
  cases h1 : bytesEq (fmtS 1) s with
  | true => exact h1
  | false =>
    rw [h1] at h
    cases h2 : bytesEq (fmtS 2) s with
    | true => exact h2
    | false =>
      rw [h2] at h
      cases h3 : bytesEq (fmtS 3) s with
      | true => exact h3
      | false =>
        rw [h3] at h
        cases h4 : bytesEq (fmtS 4) s with
        | true => exact h4
        | false =>
          rw [h4] at h
          cases h5 : bytesEq (fmtS 5) s with
          | true => exact h5
          | false => rw [h5] at h; cases h
theorem l8 (a : Int) (s : ByteArray) : T8 a s = some (bv true, []) := by
  unfold T8
  rw [beq_self_eq_true (parI s), beq_self_eq_true (parB s)]
  cases hb : parB s with
  | false => induction a using ic <;> kernel_rfl
  | true => rw [parB_fmt hb]; induction a using ic <;> kernel_rfl
theorem e8 (a : Int) (s : ByteArray) : VS 7 o10 8 [iv a, sv s] = some (bv true, []) := (show VS 7 o10 8 [iv a, sv s] = T8 a s by kernel_rfl).trans (l8 a s)
end Go.Proofs.YtfbdceccefmloaaDoor
