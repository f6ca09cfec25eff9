/- THE VALUE INTERPRETER: 'append' of whatever source. No project text. -/
import Derived.Test.YtkpdcieoiciapaaDoorVi11
import Derived.Deep.AppendSrc
import Derived.Deep.Upon
import Derived.Laws.MakeOwn
set_option linter.unusedVariables false
set_option linter.unusedSimpArgs false
namespace Go.Vi
open Go.RowKit
variable {R : Type}
section
variable {E : Env} {P : Program} {w0 : World} {inn : Inn} {S : Nat → Prop} {ρ : Loc} {m : Mem} {w : World} {o : Oper} {s : TS} {M : List Box} {nx : Nat} {v : Sv} {ef : Eff} {K : Sv → Eff → Option R} {r : R} {f : Nat} {c : Orc}
theorem zero_info (hT : TOK P E.T) {t : Nat} (he : (E.T t).ok = true) : ∃ i z, P.info? t = some i ∧ i.zero = some z ∧ i.size = (E.T t).size ∧ i.bytes = (E.T t).bytes ∧ z.cells.size = i.size := by
  obtain ⟨i, d, hi, hu, hs, hbb, hz, _⟩ := tok_info hT he
  obtain ⟨z, h2, h3, _⟩ := zero_rl hT he
  have := h2 default
  unfold zeroValue typeInfo at this
  simp only [Sem.run_bind, run_program, hi, Sem.run_pure, Result.andThen_ok] at this
  split at this
  · rename_i z' hz'
    simp only [Sem.run_pure, Result.ok.injEq, and_true] at this
    subst this
    exact ⟨i, _, hi, hz', hs, hbb, by rw [h3, hs]⟩
  · simp [Sem.run, unsupported] at this
/-- A new row behind an append. -/
theorem append_new (hT : TOK P E.T) {t tx ty : Nat} (hok : (E.T t).ok = true) (hsl : (E.T t).isSlice = true) {ad : Option Addr} {n cap : Nat} {xs : List Value} {x : Value} {k : Nat} {news : List Value}
    (hold : (Builtin.firstCells (E.T (E.T t).elem).size n (.slice ad n cap)).run P w.drew = .ok xs.toArray w.drew) (hxl : xs.length = n * (E.T (E.T t).elem).size)
    (hx : Src P (E.T (E.T t).elem).size tx x k news w) (hg : cap < n + k) (hby : (n + k) * (E.T (E.T t).elem).bytes ≤ 140737488355328) (hb0 : 0 < (E.T (E.T t).elem).bytes) :
    ∃ v' w', (Builtin.append_ #[t, tx] ty #[.slice ad n cap, x]).run P w = .ok v' w' ∧ Owns w' (E.T t).elem (E.T (E.T t).elem).size v' (n + k) (xs ++ news) ∧ (∀ b, w.grownBy w' b) ∧ ∀ g, blk v' = some g → w.heap.size ≤ g ∧ g < w'.heap.size := by
  obtain ⟨ht, he⟩ := tok_slice hT hok hsl
  obtain ⟨i, z, hi, hz, hs, hbb, hzs⟩ := zero_info hT he
  have hmx : n + k ≤ maxLen := by
    have : n + k ≤ (n + k) * (E.T (E.T t).elem).bytes := Nat.le_mul_of_pos_right _ hb0
    simp only [maxLen]; omega
  have hr := run_append_grow_src (P := P) w t tx ty _ i z ht hi hz ad n cap xs (by rw [hs]; exact hold) x k news (by rw [hs]; exact hx) hg (by simp only [maxLen] at hmx; omega) (growslice_fits hg (by rw [hbb]; exact hby))
  have hge := grownCap_ge w (n + k) cap (E.T t).elem
  have hcm := grownCap_le_maxLen w (n + k) cap (E.T t).elem hmx
  have hlen : (xs ++ news).length = (n + k) * (E.T (E.T t).elem).size := by rw [List.length_append, hxl, hx.newsLen, Nat.add_mul]
  refine ⟨_, _, hr, ⟨hlen, .inr ⟨w.heap.size, _, _, rfl, by omega, heap_alloc_new w.drew _, hge, hcm, ?_, ?_⟩⟩, fun b => ⟨rfl, rfl, rfl, by simp, fun k hk _ => heap_alloc_old w.drew _ hk⟩, fun g hg => ?_⟩
  · simp only [Array.size_append, List.size_toArray, size_zeroCells, hzs, hlen, hs, ← Nat.add_mul]
    congr 1
    omega
  · simp only [Array.toList_append]
    rw [← hlen]
    exact List.take_left
  · obtain ⟨rfl, _⟩ := blk_slice hg
    simp
theorem firstCells_row {sz n cap : Nat} {v : Value} {e : TypeId} {xs : List Value} {a : Option Addr} (h : Owns w e sz v n xs) (hv : v = .slice a n cap) : (Builtin.firstCells sz n (.slice a n cap)).run P w.drew = .ok xs.toArray w.drew := by
  rcases h.2 with ⟨ad, h1, h2⟩ | ⟨g, cap', cur, h1, h2, h3, h4, h5, h6, h7⟩
  · rw [hv] at h1
    simp only [Value.slice.injEq] at h1
    obtain ⟨rfl, rfl, rfl⟩ := h1
    have : xs = [] := List.length_eq_zero_iff.1 (by rw [h.1]; simp)
    subst this
    cases a with
    | none => exact run_firstCells_none w.drew sz 0 0 0
    | some a => exact run_firstCells_some w.drew sz 0 a 0 0 [] (by simp) (fun j v hj => by simp at hj)
  · rw [hv] at h1
    simp only [Value.slice.injEq] at h1
    obtain ⟨rfl, _, rfl⟩ := h1
    subst hv
    exact run_firstCells_some w.drew sz n _ n cap xs h.1 (fun j u hu => h.cells j u hu)
theorem append_src (hT : TOK P E.T) {t tx ty : Nat} (hok : (E.T t).ok = true) (hsl : (E.T t).isSlice = true) (hsz : 0 < (E.T (E.T t).elem).size) {v : Value} {n : Nat} {xs : List Value}
    (hown : Owns w (E.T t).elem (E.T (E.T t).elem).size v n xs) {x : Value} {k : Nat} {news : List Value} (hx : Src P (E.T (E.T t).elem).size tx x k news w)
    (hby : (n + k) * (E.T (E.T t).elem).bytes ≤ 140737488355328) (hb0 : 0 < (E.T (E.T t).elem).bytes) :
    ∃ v' w', (Builtin.append_ #[t, tx] ty #[v, x]).run P w = .ok v' w' ∧ Owns w' (E.T t).elem (E.T (E.T t).elem).size v' (n + k) (xs ++ news) ∧ w.grownBy w' (blk v) ∧
      ∀ g, blk v' = some g → blk v = some g ∨ (w.heap.size ≤ g ∧ g < w'.heap.size) := by
  obtain ⟨ht, he⟩ := tok_slice hT hok hsl
  obtain ⟨i, z, hi, hz, hs, hbb, hzs⟩ := zero_info hT he
  have fresh : ∀ {ad : Option Addr} {cap : Nat}, v = .slice ad n cap → cap < n + k → ∃ v' w', (Builtin.append_ #[t, tx] ty #[v, x]).run P w = .ok v' w' ∧ Owns w' (E.T t).elem (E.T (E.T t).elem).size v' (n + k) (xs ++ news) ∧ w.grownBy w' (blk v) ∧
      ∀ g, blk v' = some g → blk v = some g ∨ (w.heap.size ≤ g ∧ g < w'.heap.size) := by
    intro ad cap hv hg
    obtain ⟨v', w', h1, h2, h3, h4⟩ := append_new (ty := ty) hT hok hsl (firstCells_row hown hv) hown.1 hx hg hby hb0
    exact ⟨v', w', by rw [hv]; exact h1, h2, h3 _, fun g hg => .inr (h4 g hg)⟩
  rcases hown.2 with ⟨ad, hv, rfl⟩ | ⟨g, cap, cur, hv, hcap, hg, hnc, hcm, hcs, htake⟩
  · rcases Nat.eq_zero_or_pos k with h0 | h0
    · subst h0
      have hn : news = [] := List.length_eq_zero_iff.1 (by rw [hx.newsLen]; simp)
      subst hn
      refine ⟨v, w, ?_, by simpa using hown, ⟨rfl, rfl, rfl, Nat.le_refl _, fun _ _ _ => rfl⟩, fun g h => .inl h⟩
      rw [hv]
      exact run_append_nothing w t tx ty _ i ht hi ad 0 0 (Nat.le_refl _) x (by rw [hs]; exact hx)
    · exact fresh hv (by omega)
  · by_cases hroom : n + k ≤ cap
    · have hlen : (xs ++ news).length = (n + k) * (E.T (E.T t).elem).size := by rw [List.length_append, hown.1, hx.newsLen, Nat.add_mul]
      have hfit : n * (E.T (E.T t).elem).size + news.length ≤ cur.size := by rw [hx.newsLen, hcs, ← Nat.add_mul]; exact Nat.mul_le_mul_right _ hroom
      have hr := run_append_room_src (P := P) w t tx ty _ i ht hi g 0 n cap x k news (by rw [hs]; exact hx) hroom (fun j hj => by
          rw [cell_of_row w g _ _ _ (0, 0) hg, hs, Nat.zero_add]
          simp [show n * (E.T (E.T t).elem).size + j < cur.size by omega]) (fun j hj => by rw [frozen_of_row w g _ _ _ hg])
      rw [Nat.zero_add, hs] at hr
      have hg' : w.heap[g]? = some (.cells cur.toList.toArray (E.T t).elem (0, 0)) := by simpa using hg
      obtain ⟨h4, h5⟩ := heap_setCells g (E.T t).elem news (n * (E.T (E.T t).elem).size) w _ hg'
      refine ⟨_, _, by rw [hv]; exact hr, ⟨hlen, .inr ⟨g, cap, _, rfl, hcap, h4, hroom, hcm, by simp [setVs_length, hcs], ?_⟩⟩, by rw [hv, blk_pos hcap]; exact h5, fun g' h => ?_⟩
      · have hfit' : n * (E.T (E.T t).elem).size + news.length ≤ cur.toList.length := by simpa using hfit
        apply List.ext_getElem?
        intro p
        rw [List.getElem?_take]
        dsimp only
        rw [setVs_get _ _ _ _ hfit', List.getElem?_append, hown.1, ← htake, List.getElem?_take]
        rw [Nat.add_mul, ← hx.newsLen]
        split <;> split <;> first | rfl | omega | skip
        · split <;> first | rfl | omega
        · split <;> first | rfl | omega
        · rw [List.getElem?_eq_none (by omega)]
      · rw [hv, blk_pos hcap]
        rw [blk_pos hcap] at h
        exact .inl h
    · exact fresh hv (by omega)
/-- In place: behind the first elements of a row. -/
theorem append_in (hT : TOK P E.T) {t tx ty : Nat} (hok : (E.T t).ok = true) (hsl : (E.T t).isSlice = true) {g cap hi k : Nat} {cur : Array Value} {x : Value} {news : List Value} (hx : Src P (E.T (E.T t).elem).size tx x k news w)
    (hg : w.heap[g]? = some (.cells cur (E.T t).elem (0, 0))) (hcs : cur.size = cap * (E.T (E.T t).elem).size) (hle : hi + k ≤ cap) :
    ∃ w', (Builtin.append_ #[t, tx] ty #[.slice (some ⟨g, 0, none⟩) hi cap, x]).run P w = .ok (.slice (some ⟨g, 0, none⟩) (hi + k) cap) w' ∧ w'.heap[g]? = some (.cells (setVs cur.toList (hi * (E.T (E.T t).elem).size) news).toArray (E.T t).elem (0, 0)) ∧ w.grownBy w' (some g) := by
  obtain ⟨ht, he⟩ := tok_slice hT hok hsl
  obtain ⟨i, z, hi', hz, hs, hbb, hzs⟩ := zero_info hT he
  have hfit : hi * (E.T (E.T t).elem).size + news.length ≤ cur.size := by rw [hx.newsLen, hcs, ← Nat.add_mul]; exact Nat.mul_le_mul_right _ hle
  have hr := run_append_room_src (P := P) w t tx ty _ i ht hi' g 0 hi cap x k news (by rw [hs]; exact hx) hle (fun j hj => by
      rw [cell_of_row w g _ _ _ (0, 0) hg, hs, Nat.zero_add]
      simp [show hi * (E.T (E.T t).elem).size + j < cur.size by omega]) (fun j hj => by rw [frozen_of_row w g _ _ _ hg])
  rw [Nat.zero_add, hs] at hr
  have hg' : w.heap[g]? = some (.cells cur.toList.toArray (E.T t).elem (0, 0)) := by simpa using hg
  obtain ⟨h4, h5⟩ := heap_setCells g (E.T t).elem news (hi * (E.T (E.T t).elem).size) w _ hg'
  exact ⟨_, hr, h4, h5⟩
end
end Go.Vi
