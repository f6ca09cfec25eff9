/- THE VALUE INTERPRETER: 'append'. No project text. -/
import Derived.Test.YtfbdceccefmloabVi11
import Derived.Deep.AppendSrc
import Derived.Deep.Upon
set_option linter.unusedVariables false
set_option linter.unusedSimpArgs false
namespace Go.Vi
open Go.RowKit
variable {R : Type}
section
variable {E : Env} {P : Program} {w0 : World} {inn : Inn} {S : Nat → Prop} {ρ : Loc} {m : Mem} {w : World} {o : Oper} {s : TS} {M : List Box} {nx : Nat} {v : Sv} {ef : Eff} {K : Sv → Eff → Option R} {r : R} {f : Nat} {c : Orc}
theorem append_own (hT : TOK P E.T) {t ty : Nat} (hok : (E.T t).ok = true) (hsl : (E.T t).isSlice = true) (hsz : 0 < (E.T (E.T t).elem).size) {v : Value} {n : Nat} {xs : List Value}
    (hown : w.ownsRow 0 (E.T t).elem (E.T (E.T t).elem).size v n xs) {x : Value} {k : Nat} {news : List Value}
    (hx : (∃ c, x = .slice none 0 c ∧ k = 0 ∧ news = []) ∨ ∃ ad c, x = .slice (some ad) k c ∧ ∀ j u, news[j]? = some u → w.cell? (ad.add j) = some u)
    (hl : news.length = k * (E.T (E.T t).elem).size) (h1 : ∀ u ∈ news, u.oneCell' = true) (hby : (n + k) * (E.T (E.T t).elem).bytes ≤ 140737488355328) (hb0 : 0 < (E.T (E.T t).elem).bytes) :
    ∃ v' w', (Builtin.append_ #[t, t] ty #[v, x]).run P w = .ok v' w' ∧ w'.ownsRow 0 (E.T t).elem (E.T (E.T t).elem).size v' (n + k) (xs ++ news) ∧ w.grownBy w' (blk v) ∧
      ∀ g, blk v' = some g → blk v = some g ∨ (w.heap.size ≤ g ∧ g < w'.heap.size) := by
  obtain ⟨ht, he⟩ := tok_slice hT hok hsl
  obtain ⟨i, d, hi, hu, hs, hbb, hz, _⟩ := tok_info hT he
  have hzz : ∃ z, i.zero = some z ∧ z.cells.size = i.size := by
    obtain ⟨z, h2, h3, _⟩ := zero_rl hT he
    have := h2 w
    unfold zeroValue typeInfo at this
    simp only [Sem.run_bind, run_program, hi, Sem.run_pure, Result.andThen_ok] at this
    split at this
    · rename_i z' hz'
      simp only [Sem.run_pure, Result.ok.injEq, and_true] at this
      subst this
      exact ⟨_, hz', by rw [h3, hs]⟩
    · simp [Sem.run, unsupported] at this
  obtain ⟨z, hz1, hz2⟩ := hzz
  rcases hx with ⟨c, rfl, rfl, rfl⟩ | ⟨ad, c, rfl, hcell⟩
  · have hsrc := Src.ofNil (P := P) w (size := i.size) (tx := t) ht c
    have hgb : w.grownBy w (blk v) := ⟨rfl, rfl, rfl, Nat.le_refl _, fun _ _ _ => rfl⟩
    rcases hown.2 with ⟨rfl, rfl⟩ | ⟨g, cap, cur, rfl, hbg, hg, hnc, rest⟩
    · exact ⟨_, w, run_append_nothing w t t ty _ i ht hi none 0 0 (Nat.le_refl _) _ hsrc, by simpa using hown, hgb, fun g h => .inl h⟩
    · exact ⟨_, w, run_append_nothing w t t ty _ i ht hi _ n cap hnc _ hsrc, by simpa using hown, hgb, fun g h => .inl h⟩
  · have hmx : n + k ≤ maxLen := by
      have : n + k ≤ (n + k) * (E.T (E.T t).elem).bytes := Nat.le_mul_of_pos_right _ hb0
      simp only [maxLen]; omega
    obtain ⟨v', w', hr, ho, hgb, hiff⟩ := run_append_own (P := P) w 0 t ty _ i z _ _ ht hi hz1 hs hbb (by rw [hz2, hs]) hsz v n xs hown ad k c news hl hcell h1 hmx hby (Nat.zero_le _)
    have hbo : v.ownBlock = blk v := by
      rcases hown.2 with ⟨rfl, _⟩ | ⟨g, cap, cur, rfl, _⟩ <;> rfl
    rw [hbo] at hgb
    refine ⟨v', w', hr, ho, hgb, fun g hg => ?_⟩
    have hlt : g < w'.heap.size := by
      rcases ho.2 with ⟨hv, _⟩ | ⟨g', cap, cur, hv, _, hgg, _⟩
      · rw [hv] at hg; simp [blk] at hg
      · rw [hv] at hg
        simp only [blk, Option.some.injEq] at hg
        subst hg
        exact (Array.getElem?_eq_some_iff.1 hgg).1
    rcases hown.2 with ⟨rfl, rfl⟩ | ⟨g', cap, cur, rfl, hbg, hgg, hnc, hcm, hcs, htake⟩
    · rcases Nat.eq_zero_or_pos k with h0 | h0
      · rw [hiff.2 ⟨rfl, h0⟩] at hg; simp [blk] at hg
      · have hr2 := run_append_nil (P := P) w t ty _ i z ht hi hz1 ad k c news (by rw [hl, hs]) hcell h0 (by simp only [maxLen] at hmx; omega) (by rw [hbb]; rw [Nat.zero_add] at hby; omega)
        rw [hr] at hr2
        simp only [Result.ok.injEq] at hr2
        rw [hr2.1] at hg
        simp only [blk, Option.some.injEq] at hg
        exact .inr ⟨by omega, hlt⟩
    · by_cases hroom : n + k ≤ cap
      · obtain ⟨w2, hr2, _⟩ := run_append_fits (P := P) w 0 t ty _ i _ ht hi hs g' n cap xs hown ad k c news hl hcell h1 hroom
        rw [hr] at hr2
        simp only [Result.ok.injEq] at hr2
        rw [hr2.1] at hg
        exact .inl hg
      · have hr2 := run_append_grow (P := P) w t ty _ i z ht hi hz1 ⟨g', 0, none⟩ n cap xs (by rw [hown.1, hs]) (hown.cells (g := g') rfl) ad k c news (by rw [hl, hs]) hcell (by omega) (by simp only [maxLen] at hmx; omega) (growslice_fits (by omega) (by rw [hbb]; exact hby))
        rw [hr] at hr2
        simp only [Result.ok.injEq] at hr2
        rw [hr2.1] at hg
        simp only [blk, Option.some.injEq] at hg
        exact .inr ⟨by omega, hlt⟩
end
end Go.Vi
