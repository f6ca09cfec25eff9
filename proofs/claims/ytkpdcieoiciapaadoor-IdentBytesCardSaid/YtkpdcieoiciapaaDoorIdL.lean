/- Functions of Go's library, told by the shelf's contracts. -/
import Derived.Test.YtkpdcieoiciapaaDoorIdB
import Derived.Test.YtkpdcieoiciapaaDoorSh
namespace Go.Proofs.YtkpdcieoiciapaaDoor
open Go Go.Vi Go.IntWalk Go.Shelf Go.RowKit
set_option maxRecDepth 100000
set_option linter.unusedVariables false
set_option linter.unusedSimpArgs false
noncomputable section

theorem hi146 : (Tryd.prog.info? (Tryd.lays146_ren.t 9)).map (fun i => (i.zero, i.size, i.bytes)) = some (some (.string ByteArray.empty), 1, 16) := by kernel_rfl
theorem itoa_at (n : Int) (h0 : -9223372036854775808 ≤ n) (h1 : n ≤ 9223372036854775807) (w : World) (htab : Lib.TabIs Tryd.prog w "internal/strconv.uint64pow10" .u64 Lib.pow10Tab) :
    Calls Tryd.prog 41 #[.int .i64 n] w fun e w' => e = .returned (.string ⟨(Lib.itoa n).toArray⟩) ∧ ∃ k os, w' = Sort.grow (w.drewN k) os := Any.strconv_Itoa Tryd.lays171 n h0 h1 w htab
theorem atoi_at (s : ByteArray) (n : Int) (hl : s.size ≤ 18) (h : Lib.atoi s.data.toList = some n) (w : World) :
    Calls Tryd.prog 43 #[.string s] w fun e w' => e = .returned (.tuple #[.int .i64 n, .nilIface]) ∧ ∃ t, w' = Lib.bytesWorld w 5 t := Any.strconv_Atoi { Tryd.lays172 with } s n hl h w
theorem atoi_err_at (s : ByteArray) (hl : s.size ≤ 18) (h : Lib.atoi s.data.toList = none) (ev : Value) (w : World) (hv : w.cell? ⟨0, 0, none⟩ = some ev) (hev : ev = .nilIface ∨ ∃ te pe, ev = .iface te pe) :
    Calls Tryd.prog 43 #[.string s] w fun e w' => ∃ N, e = .returned (.tuple #[.int .i64 0, .iface (Tryd.lays172_ren.t 168) (.pointer (some ⟨N, 0, none⟩))]) ∧ Below w.heap.size w w' :=
  (Any.strconv_Atoi_err Tryd.lays172 s hl h ev w hv hev).mono fun e w' ⟨N, h1, _, _, h2⟩ => ⟨N, h1, h2⟩
theorem split_at (s sep : ByteArray) (m : Int) (w : World) (hs : s.size < 4294967281) (hm : w.cell? ⟨3, 0, none⟩ = some (.int .i64 m)) (h1 : 1 ≤ sep.size) :
    Calls Tryd.prog 42 #[.string s, .string sep] w fun e w' =>
      e = .returned (.slice (some ⟨w.heap.size, 0, none⟩) (Lib.countB s sep + 1) (Lib.countB s sep + 1)) ∧ w' = w.alloc (.cells ((Lib.splitB sep 0 (Lib.countB s sep) s).map Value.string).toArray 9) := Any.strings_Split Tryd.lays146 hi146 s sep m w hs hm h1

structure OkInt (n : Int) : Prop where
  h0 : -9223372036854775808 ≤ n
  h1 : n ≤ 9223372036854775807
structure OkAtoi (s : ByteArray) : Prop where
  h : s.size ≤ 18
structure OkSplit (s sep : ByteArray) : Prop where
  h : s.size < 4294967281
  h1 : 1 ≤ sep.size
def mItoa (n : Int) : ByteArray := ⟨(Lib.itoa n).toArray⟩
def mAtoiOk (s : ByteArray) : Bool := (Lib.atoi s.data.toList).isSome
def mAtoi (s : ByteArray) : Int := (Lib.atoi s.data.toList).getD 0
def mSplit (s sep : ByteArray) : List (List At) := (Lib.splitB sep 0 (Lib.countB s sep) s).map fun s => [.v (.string s)]
def F41 (a : List Sv) (M : List Box) : Tr := match a, M with
  | [.one (.v (.int .i64 n))], [] => .br (gd (OkInt n)) (.ok (sv (mItoa n), [])) .no
  | _, _ => .no
def F43 (a : List Sv) (M : List Box) : Tr := match a, M with
  | [.one (.v (.string s))], [] => .br (gd (OkAtoi s)) (.br (mAtoiOk s) (.ok (.tup [iv (mAtoi s), .one (.v .nilIface)], [])) (.ok (.tup [iv 0, .one .err], []))) .no
  | _, _ => .no
def F42 (a : List Sv) (M : List Box) : Tr := match a, M with
  | [.one (.v (.string s)), .one (.v (.string sep))], [] => .br (gd (OkSplit s sep)) (.ok (.one (.ro true 1 (mSplit s sep)), [])) .no
  | _, _ => .no
def o41 : Orc := over o51 41 F41
def o43 : Orc := over o41 43 F43
def o42 : Orc := over o43 42 F42

theorem arg1 {S : Nat → Prop} {w : World} {ρ : Vi.Loc} {m : Mem} {us : Array Value} {x : Value} (hs : us.size = [Sv.one (.v x)].length) (h : ∀ (j : Nat) y, [Sv.one (.v x)][j]? = some y → ∃ u, us[j]? = some u ∧ RS S w ρ m y u) : us = #[x] := by
  obtain ⟨u, hu, hr⟩ := h 0 _ rfl
  obtain rfl := hr.one_v.1
  apply Array.ext_getElem?
  intro i
  cases i with
  | zero => rw [hu]; rfl
  | succ i => rw [Array.getElem?_eq_none (by simp at hs; omega), Array.getElem?_eq_none (by simp)]
theorem arg2 {S : Nat → Prop} {w : World} {ρ : Vi.Loc} {m : Mem} {us : Array Value} {x y : Value} (hs : us.size = [Sv.one (.v x), Sv.one (.v y)].length) (h : ∀ (j : Nat) z, [Sv.one (.v x), Sv.one (.v y)][j]? = some z → ∃ u, us[j]? = some u ∧ RS S w ρ m z u) : us = #[x, y] := by
  obtain ⟨u, hu, hr⟩ := h 0 _ rfl
  obtain ⟨v, hv, hr2⟩ := h 1 _ rfl
  obtain rfl := hr.one_v.1
  obtain rfl := hr2.one_v.1
  apply Array.ext_getElem?
  intro i
  cases i with
  | zero => rw [hu]; rfl
  | succ i => cases i with
    | zero => rw [hv]; rfl
    | succ i => rw [Array.getElem?_eq_none (by simp at hs; omega), Array.getElem?_eq_none (by simp)]
theorem grow_below (w : World) (k : Nat) (os : Array Obj) : Below w.heap.size w (Sort.grow (w.drewN k) os) := by
  refine ⟨rfl, rfl, rfl, by simp [Sort.grow, World.drewN], fun i hi => ?_⟩
  show ((w.drewN k).heap ++ os)[i]? = w.heap[i]?
  exact Array.getElem?_append_left hi
theorem c41 : CallOK EL Tryd.prog o41 := over_at c51 fun args M res M2 hx => by
  unfold F41 at hx
  split at hx
  · rename_i n
    obtain ⟨hc, hx⟩ := br_some hx
    have ok := of_gd hc
    obtain ⟨rfl, rfl⟩ := Prod.mk.inj (Option.some.inj hx)
    refine callAt_below (has_of (by kernel_rfl)) fun w S ρ us hs ha hG => ?_
    obtain rfl := arg1 hs ha
    refine (itoa_at n ok.h0 ok.h1 w ?_).mono ?_
    · obtain ⟨_, t, k, hh⟩ := hG.exact 2 _ rfl
      unfold Lib.TabIs World.var?
      rw [show Tryd.prog.globalNamed "internal/strconv.uint64pow10" = some 2 by kernel_rfl]
      dsimp only [Option.bind]
      rw [hh]
      simp [Lib.pow10Tab]
    · rintro e w' ⟨rfl, k, os, rfl⟩
      exact ⟨_, rfl, fun S' ρ' => rs_v rfl, grow_below w k os⟩
  · cases hx
theorem c43 : CallOK EL Tryd.prog o43 := over_at c41 fun args M res M2 hx => by
  unfold F43 at hx
  split at hx
  · rename_i s
    obtain ⟨hc, hx⟩ := br_some hx
    have ok := of_gd hc
    cases h : Lib.atoi s.data.toList with
    | some n =>
      have e1 : mAtoiOk s = true := by unfold mAtoiOk; rw [h]; rfl
      have e2 : mAtoi s = n := by unfold mAtoi; rw [h]; rfl
      rw [e1, e2] at hx
      obtain ⟨rfl, rfl⟩ := Prod.mk.inj (Option.some.inj hx)
      refine callAt_below (has_of (by kernel_rfl)) fun w S ρ us hs ha hG => ?_
      obtain rfl := arg1 hs ha
      refine (atoi_at s n ok.h h w).mono ?_
      rintro e w' ⟨rfl, t, rfl⟩
      refine ⟨_, rfl, fun S' ρ' => ⟨_, rfl, rfl, fun j x hj => ?_⟩, Lib.bytesWorld_below _ _ _⟩
      match j, hj with
      | 0, hj => simp only [List.getElem?_cons_zero, Option.some.injEq] at hj; subst hj; exact ⟨_, rfl, CV.v rfl⟩
      | 1, hj => simp only [List.getElem?_cons_succ, List.getElem?_cons_zero, Option.some.injEq] at hj; subst hj; exact ⟨_, rfl, CV.v rfl⟩
    | none =>
      have e1 : mAtoiOk s = false := by unfold mAtoiOk; rw [h]; rfl
      rw [e1] at hx
      obtain ⟨rfl, rfl⟩ := Prod.mk.inj (Option.some.inj hx)
      refine callAt_below (has_of (by kernel_rfl)) fun w S ρ us hs ha hG => ?_
      obtain rfl := arg1 hs ha
      obtain ⟨ev, hv, hcv⟩ := gok_cell hG (g := 0) (x := .err) rfl
      refine (atoi_err_at s ok.h h ev w hv (by cases hcv; exact .inr ⟨_, _, rfl⟩)).mono ?_
      rintro e w' ⟨N, rfl, hb⟩
      refine ⟨_, rfl, fun S' ρ' => ⟨_, rfl, rfl, fun j x hj => ?_⟩, hb⟩
      match j, hj with
      | 0, hj => simp only [List.getElem?_cons_zero, Option.some.injEq] at hj; subst hj; exact ⟨_, rfl, CV.v rfl⟩
      | 1, hj => simp only [List.getElem?_cons_succ, List.getElem?_cons_zero, Option.some.injEq] at hj; subst hj; exact ⟨_, rfl, CV.err⟩
  · cases hx
theorem c42 : CallOK EL Tryd.prog o42 := over_at c43 fun args M res M2 hx => by
  unfold F42 at hx
  split at hx
  · rename_i s sep
    obtain ⟨hc, hx⟩ := br_some hx
    have ok := of_gd hc
    obtain ⟨rfl, rfl⟩ := Prod.mk.inj (Option.some.inj hx)
    refine callAt_ro (has_of (by kernel_rfl)) fun w S ρ us hs ha hG => ?_
    obtain rfl := arg2 hs ha
    obtain ⟨mv, hv, hcv⟩ := gok_cell hG (g := 3) (x := .unk .i64) rfl
    cases hcv with
    | unk =>
      refine (split_at s sep _ w ok.h hv ok.h1).mono ?_
      rintro e w' ⟨rfl, rfl⟩
      exact ⟨_, rfl, slv_strs rfl (Lib.splitB_all sep ok.h1 0 _ s rfl).symm (Nat.le_refl _), ⟨rfl, rfl, rfl, by simp, fun k hk => heap_alloc_old w _ hk⟩⟩
  · cases hx

end
end Go.Proofs.YtkpdcieoiciapaaDoor
