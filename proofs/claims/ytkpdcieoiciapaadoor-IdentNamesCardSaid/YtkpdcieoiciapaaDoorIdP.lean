/- The plain law of texts cut at points: a process that is written reads back. No program in sight. -/
import Derived.Test.YtkpdcieoiciapaaDoorIdF
import Derived.Lib.SplitLaws
import Derived.Lib.IndexBytes
namespace Go.Proofs.YtkpdcieoiciapaaDoor
open Go Go.Vi Go.Lib
set_option maxRecDepth 100000
set_option linter.unusedVariables false
set_option linter.unusedSimpArgs false
noncomputable section

/-- A text cut at each point. -/
def cut : List UInt8 → List (List UInt8)
  | [] => [[]]
  | b :: r => if b = 46 then [] :: cut r else match cut r with | [] => [[b]] | x :: xs => (b :: x) :: xs
theorem cut_no : ∀ l : List UInt8, (∀ b ∈ l, b ≠ 46) → cut l = [l]
  | [], _ => rfl
  | b :: r, h => by
    unfold cut
    rw [if_neg (h b (List.mem_cons_self ..)), cut_no r (fun x hx => h x (List.mem_cons_of_mem _ hx))]
theorem cut_at : ∀ (x y : List UInt8), (∀ b ∈ x, b ≠ 46) → cut (x ++ 46 :: y) = x :: cut y
  | [], y, _ => by rw [List.nil_append, cut, if_pos rfl]
  | b :: r, y, h => by
    rw [List.cons_append, cut, if_neg (h b (List.mem_cons_self ..)), cut_at r y (fun x hx => h x (List.mem_cons_of_mem _ hx))]
theorem byte_no : ∀ l : List UInt8, (∀ b ∈ l, b ≠ 46) → index l [46] = -1
  | [], _ => rfl
  | b :: r, h => by
    have hb := h b (List.mem_cons_self ..)
    have : List.isPrefixOf [46] (b :: r) = false := by
      simp only [List.isPrefixOf, Bool.and_true, beq_eq_false_iff_ne]; exact fun e => hb e.symm
    unfold index
    rw [if_neg (by rw [this]; decide), byte_no r (fun x hx => h x (List.mem_cons_of_mem _ hx))]
    rfl
theorem byte_at : ∀ (x y : List UInt8), (∀ b ∈ x, b ≠ 46) → index (x ++ 46 :: y) [46] = x.length
  | [], y, _ => rfl
  | b :: r, y, h => by
    have hb := h b (List.mem_cons_self ..)
    have : List.isPrefixOf [46] (b :: (r ++ 46 :: y)) = false := by
      simp only [List.isPrefixOf, Bool.and_true, beq_eq_false_iff_ne]; exact fun e => hb e.symm
    rw [List.cons_append]
    unfold index
    rw [if_neg (by rw [this]; decide), byte_at r y (fun x hx => h x (List.mem_cons_of_mem _ hx)), if_neg (by simp)]
    simp
theorem parted : ∀ l : List UInt8, (∀ b ∈ l, b ≠ 46) ∨ ∃ x y, l = x ++ 46 :: y ∧ ∀ b ∈ x, b ≠ 46
  | [] => .inl (by simp)
  | b :: r => by
    by_cases hb : b = 46
    · exact .inr ⟨[], r, by rw [hb]; rfl, by simp⟩
    · rcases parted r with h | ⟨x, y, rfl, h⟩
      · exact .inl fun c hc => by rcases List.mem_cons.1 hc with rfl | hc; exact hb; exact h c hc
      · exact .inr ⟨b :: x, y, rfl, fun c hc => by rcases List.mem_cons.1 hc with rfl | hc; exact hb; exact h c hc⟩
theorem split_cut : ∀ (n : Nat) (l : List UInt8), l.length ≤ n → splitK [46] 0 (count l [46]) l = cut l := by
  intro n
  induction n with
  | zero => intro l h; obtain rfl : l = [] := List.length_eq_zero_iff.1 (by omega); rfl
  | succ n ih =>
    intro l h
    rcases parted l with hn | ⟨x, y, rfl, hx⟩
    · rw [count_miss (byte_no l hn), cut_no l hn]; rfl
    · have hi := byte_at x y hx
      have hdrop : (x ++ 46 :: y).drop (x.length + [(46 : UInt8)].length) = y := by
        rw [List.drop_append]; simp
      rw [count_hit (by simp) hi, Nat.add_comm, splitK, hi, if_neg (by simp), hdrop, cut_at x y hx]
      have e : (((x.length : Nat) : Int).toNat + 0) = x.length := by simp
      rw [e, List.take_left', show ((x.length : Nat) : Int).toNat = x.length by simp, hdrop, ih y (by simp at h; omega)]
      rfl
theorem cut_sum : ∀ l : List UInt8, ((cut l).map List.length).sum + (cut l).length = l.length + 1
  | [] => rfl
  | b :: r => by
    have ih := cut_sum r
    unfold cut
    split
    · simp only [List.map_cons, List.sum_cons, List.length_cons, List.length_nil]; omega
    · cases hc : cut r with
      | nil => rw [hc] at ih; simp at ih
      | cons x xs => rw [hc] at ih; simp only [List.map_cons, List.sum_cons, List.length_cons] at ih ⊢; omega
theorem split_eq (s : ByteArray) : (splitB dot 0 (countB s dot) s).map (·.data.toList) = cut s.data.toList := by
  rw [splitB_data]
  exact split_cut _ _ (Nat.le_refl _)
theorem mSplit_eq (s : ByteArray) : mSplit s dot = (cut s.data.toList).map fun l => [.v (.string ⟨l.toArray⟩)] := by
  rw [← split_eq, List.map_map]
  unfold mSplit
  apply List.map_congr_left
  intro x _
  rfl
theorem mPart_eq (s : ByteArray) {i : Nat} (h : i < (cut s.data.toList).length) : mPart s i = ⟨((cut s.data.toList).getD i []).toArray⟩ := by
  unfold mPart
  rw [mSplit_eq, List.getD_eq_getElem?_getD (l := List.map _ _) (i := i), List.getElem?_map, List.getElem?_eq_getElem h, List.getD_eq_getElem?_getD (l := cut _) (i := i), List.getElem?_eq_getElem h]
  rfl
theorem okParse {s : ByteArray} (h : s.size < 4294967281) : OkParse s := by
  refine ⟨h, fun hl hs i hi => ?_⟩
  have hl' : (cut s.data.toList).length = 3 := by
    have : (mSplit s dot).length = 3 := by omega
    rw [mSplit_eq, List.length_map] at this
    exact this
  have hsum := cut_sum s.data.toList
  rw [mPart_eq s (by omega)]
  have hs' : s.data.toList.length ≤ 20 := by rw [Array.length_toList]; exact hs
  rw [hl'] at hsum
  match hc : cut s.data.toList, hl' with
  | [x, y, z], _ =>
    rw [hc] at hsum
    simp only [List.map_cons, List.map_nil, List.sum_cons, List.sum_nil] at hsum
    match i, hi with
    | 0, _ => show x.length ≤ 18; omega
    | 1, _ => show y.length ≤ 18; omega
    | 2, _ => show z.length ≤ 18; omega
theorem itoa_chars : ((List.range 1000).all fun n => (Lib.itoa (n : Int)).all fun b => b != 46) = true := by kernel_rfl
theorem itoa_atoi : ((List.range 1000).all fun n => Lib.atoi (Lib.itoa (n : Int)) == some (n : Int)) = true := by kernel_rfl
theorem itoa_dots {n : Int} (h0 : 0 ≤ n) (h1 : n ≤ 999) : ∀ b ∈ Lib.itoa n, b ≠ 46 := by
  obtain ⟨k, rfl⟩ := Int.eq_ofNat_of_zero_le h0
  have := List.all_eq_true.1 itoa_chars k (List.mem_range.2 (by omega))
  intro b hb
  simpa using List.all_eq_true.1 this b hb
theorem atoi_itoa {n : Int} (h0 : 0 ≤ n) (h1 : n ≤ 999) : Lib.atoi (Lib.itoa n) = some n := by
  obtain ⟨k, rfl⟩ := Int.eq_ofNat_of_zero_le h0
  simpa using List.all_eq_true.1 itoa_atoi k (List.mem_range.2 (by omega))
theorem format_data {a b c : Int} (h : mValidProc a b c = true) : (mFormat a b c).data.toList = Lib.itoa a ++ 46 :: (Lib.itoa b ++ 46 :: Lib.itoa c) := by
  unfold mFormat mItoa
  rw [h]
  simp [cond]
theorem format_cut {a b c : Int} (h : mValidProc a b c = true) : cut (mFormat a b c).data.toList = [Lib.itoa a, Lib.itoa b, Lib.itoa c] := by
  obtain ⟨h1, h2, h3⟩ := valid_iff.1 h
  rw [format_data h, cut_at _ _ (itoa_dots (by omega) (by omega)), cut_at _ _ (itoa_dots (by omega) (by omega)), cut_no _ (itoa_dots (by omega) (by omega))]
theorem format_size (a b c : Int) : (mFormat a b c).size ≤ 11 := by
  unfold mFormat
  cases h : mValidProc a b c with
  | false => exact Nat.zero_le _
  | true =>
    obtain ⟨h1, h2, h3⟩ := valid_iff.1 h
    have s1 := itoa_size (n := a) (by omega) (by omega)
    have s2 := itoa_size (n := b) (by omega) (by omega)
    have s3 := itoa_size (n := c) (by omega) (by omega)
    have hd : dot.size = 1 := rfl
    simp only [cond, ByteArray.size_append, hd]
    omega
theorem mAtoi_itoa {n : Int} (h0 : 0 ≤ n) (h1 : n ≤ 999) : mAtoi ⟨(Lib.itoa n).toArray⟩ = n ∧ mAtoiOk ⟨(Lib.itoa n).toArray⟩ = true := by
  unfold mAtoi mAtoiOk
  have e : (ByteArray.mk (Lib.itoa n).toArray).data.toList = Lib.itoa n := by simp
  rw [e, atoi_itoa h0 h1]
  exact ⟨rfl, rfl⟩
theorem format_parts {a b c : Int} (h : mValidProc a b c = true) : mPart (mFormat a b c) 0 = ⟨(Lib.itoa a).toArray⟩ ∧ mPart (mFormat a b c) 1 = ⟨(Lib.itoa b).toArray⟩ ∧ mPart (mFormat a b c) 2 = ⟨(Lib.itoa c).toArray⟩ := by
  have hc := format_cut h
  refine ⟨?_, ?_, ?_⟩ <;> (rw [mPart_eq _ (by rw [hc]; simp), hc]; rfl)
theorem bytesEq_self (s : ByteArray) : bytesEq s s = true := by unfold bytesEq; simp
theorem parse_format {a b c : Int} (h : mValidProc a b c = true) : mParseB (mFormat a b c) = true ∧ mParseA (mFormat a b c) = a ∧ mParseC (mFormat a b c) = b ∧ mParseD (mFormat a b c) = c := by
  obtain ⟨h1, h2, h3⟩ := valid_iff.1 h
  obtain ⟨p0, p1, p2⟩ := format_parts h
  obtain ⟨a1, a2⟩ := mAtoi_itoa (n := a) (by omega) (by omega)
  obtain ⟨b1, b2⟩ := mAtoi_itoa (n := b) (by omega) (by omega)
  obtain ⟨c1, c2⟩ := mAtoi_itoa (n := c) (by omega) (by omega)
  have hs := format_size a b c
  have hl : (mSplit (mFormat a b c) dot).length = 3 := by rw [mSplit_eq, List.length_map, format_cut h]; rfl
  have hB : mParseB (mFormat a b c) = true := by
    unfold mParseB
    rw [p0, p1, p2, a1, a2, b1, b2, c1, c2, h, hl, bytesEq_self, show decide (((mFormat a b c).size : Int) > 20) = false from decide_eq_false (by omega)]
    rfl
  refine ⟨hB, ?_, ?_, ?_⟩
  · unfold mParseA; rw [hB, p0, a1]; rfl
  · unfold mParseC; rw [hB, p1, b1]; rfl
  · unfold mParseD; rw [hB, p2, c1]; rfl
theorem parse_none : mParseB ⟨#[]⟩ = false ∧ mParseA ⟨#[]⟩ = 0 ∧ mParseC ⟨#[]⟩ = 0 ∧ mParseD ⟨#[]⟩ = 0 := by
  have hl : (mSplit ⟨#[]⟩ dot).length = 1 := by rw [mSplit_eq, List.length_map]; rfl
  have hB : mParseB ⟨#[]⟩ = false := by unfold mParseB; rw [hl]; rfl
  refine ⟨hB, ?_, ?_, ?_⟩
  · unfold mParseA; rw [hB]; rfl
  · unfold mParseC; rw [hB]; rfl
  · unfold mParseD; rw [hB]; rfl
theorem bytesEq_iff {s t : ByteArray} : bytesEq s t = true ↔ s = t := by
  unfold bytesEq
  rw [beq_iff_eq]
  exact ⟨fun h => ByteArray.ext (Array.toList_inj.1 h), fun h => by rw [h]⟩
theorem e5 (a b c : Int) : vstep EL Tryd.prog noLo 0 o22 5 [pv a b c] [] = some (bv true, []) := by
  rw [q5, chk_t (gd_t (okParse (by have := format_size a b c; omega)))]
  cases h : mValidProc a b c with
  | false =>
    have e : mFormat a b c = ⟨#[]⟩ := by unfold mFormat; rw [h]; rfl
    obtain ⟨n1, n2, n3, n4⟩ := parse_none
    rw [e, n1, n2, n3, n4]
    rfl
  | true =>
    obtain ⟨n1, n2, n3, n4⟩ := parse_format h
    rw [n1, n2, n3, n4, bytesEq_self]
    simp [tst, cond]
theorem e8 (a b c d e f : Int) : vstep EL Tryd.prog noLo 0 o22 8 [pv a b c, pv d e f] [] = some (bv true, []) := by
  rw [q8]
  cases h : mValidProc a b c with
  | false => rfl
  | true =>
    cases h2 : mValidProc d e f with
    | false => rfl
    | true =>
      obtain ⟨n1, n2, n3, n4⟩ := parse_format h
      obtain ⟨k1, k2, k3, k4⟩ := parse_format h2
      have hne : bytesEq (mFormat a b c) (ByteArray.mk (Array.mk [])) = false := by
        cases hb : bytesEq (mFormat a b c) (ByteArray.mk (Array.mk [])) with
        | false => rfl
        | true => rw [bytesEq_iff.1 hb] at n1; rw [show mParseB (ByteArray.mk (Array.mk [])) = false from parse_none.1] at n1; cases n1
      have heq : bytesEq (mFormat a b c) (mFormat d e f) = (a == d && (b == e && (c == f && true))) := by
        cases hb : bytesEq (mFormat a b c) (mFormat d e f) with
        | true =>
          have := bytesEq_iff.1 hb
          rw [this] at n2 n3 n4
          rw [← n2, ← n3, ← n4, k2, k3, k4]
          simp
        | false =>
          cases hc : (a == d && (b == e && (c == f && true))) with
          | false => rfl
          | true =>
            simp only [Bool.and_true, Bool.and_eq_true, beq_iff_eq] at hc
            obtain ⟨rfl, rfl, rfl⟩ := hc
            rw [bytesEq_self] at hb
            cases hb
      rw [hne, heq]
      simp [tst, cond]

end
end Go.Proofs.YtkpdcieoiciapaaDoor
