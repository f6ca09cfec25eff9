/- THE VALUE INTERPRETER: memory behind one operation. No project text. -/
import Derived.Test.YtkpdcieoiciapaaDoorVi5
set_option linter.unusedVariables false
set_option linter.unusedSimpArgs false
namespace Go.Vi
open Go.RowKit

section
variable {E : Env} {w0 : World} {inn : Inn} {S S' : Nat → Prop} {ρ ρ' : Loc} {m m' : Mem} {w w' : World}
theorem BR.keep {a : Nat} {b : Box} (h : BR S w ρ m a b) (k : Kp S S' w w') (l : Le ρ m ρ' m') (hr : ρ' a = ρ a)
    (hb : ∀ g, g < w.heap.size → blk (ρ a) = some g → w'.heap[g]? = w.heap[g]?) : BR S' w' ρ' m' a b := by
  cases b with
  | var cs =>
    obtain ⟨g, vs, t, h1, h2, h3⟩ := h
    refine ⟨g, vs, t, hr.trans h1, ?_, h3.keep k l⟩
    rw [hb g (Array.getElem?_eq_some_iff.1 h2).1 (by rw [h1]; rfl)]
    exact h2
  | row e kk f fl sz es =>
    obtain ⟨h0, h1, h2, xs, h3, h4⟩ := h
    refine ⟨h0, h1, h2, xs, ?_, fun i e' j x hi hj => let ⟨u, hu, hx⟩ := h4 i e' j x hi hj; ⟨u, hu, hx.keep k⟩⟩
    rw [hr]
    refine ⟨h3.1, ?_⟩
    rcases h3.2 with hn | ⟨g, cap, cur, hv, hbg, hg, rest⟩
    · exact .inl hn
    · refine .inr ⟨g, cap, cur, hv, hbg, ?_, rest⟩
      rw [hb g (Array.getElem?_eq_some_iff.1 hg).1 (by rw [hv, blk_pos hbg])]
      exact hg
  | gone => trivial
theorem BR.lt {a g : Nat} {b : Box} (h : BR S w ρ m a b) (hb : b ≠ .gone) (hg : blk (ρ a) = some g) : g < w.heap.size := by
  cases b with
  | var cs =>
    obtain ⟨g', vs, t, h1, h2, h3⟩ := h
    rw [h1] at hg
    simp only [blk, Option.some.injEq] at hg
    subst hg
    exact (Array.getElem?_eq_some_iff.1 h2).1
  | row e kk f fl sz es =>
    obtain ⟨h0, h1, h2, xs, h3, h4⟩ := h
    rcases h3.2 with ⟨ad, hv, _⟩ | ⟨g', cap, cur, hv, hbg, hgg, rest⟩
    · rw [hv, blk_zero] at hg; cases hg
    · rw [hv, blk_pos hbg] at hg
      obtain rfl := Option.some.inj hg
      exact (Array.getElem?_eq_some_iff.1 hgg).1
  | gone => exact absurd rfl hb
theorem GOK.keep (h : GOK E S w) (k : Kp S S' w w') : GOK E S' w' := ⟨fun g hg => by
  obtain ⟨h1, h2⟩ := h.glob g hg
  refine ⟨k.sub g h1, fun j x hj => ?_⟩
  obtain ⟨u, hu, hx⟩ := h2 j x hj
  exact ⟨u, by rw [k.cell (a := ⟨g, j, none⟩) h1]; exact hu, hx.keep k⟩, fun g cs hg => by
  obtain ⟨h1, t, q, h2⟩ := h.exact g cs hg
  exact ⟨k.sub g h1, t, q, by rw [k.same g h1]; exact h2⟩⟩

/-- One box turns, or is made: the rest stands. -/
theorem MR.step (hm : MR E w0 inn S ρ m w) {i : Nat} {b : Box} {loc : Value} {row : Option Nat} (hw : w.grownBy w' row)
    (hrow : ∀ g, row = some g → m i ≠ .gone ∧ blk (ρ i) = some g) (hf : m i ≠ .gone → frz (m i) = false) (hfb : frz b = false)
    (hv : Vw (m i) b (ρ i) loc)
    (hloc : ∀ g, blk loc = some g → (blk (ρ i) = some g ∧ m i ≠ .gone) ∨ (w.heap.size ≤ g ∧ g < w'.heap.size))
    (hb : Kp S S w w' → Le ρ m (fun x => if x = i then loc else ρ x) (fun x => if x = i then b else m x) → BR S w' (fun x => if x = i then loc else ρ x) (fun x => if x = i then b else m x) i b) :
    MR E w0 inn S (fun x => if x = i then loc else ρ x) (fun x => if x = i then b else m x) w' ∧ Kp S S w w' ∧ Le ρ m (fun x => if x = i then loc else ρ x) (fun x => if x = i then b else m x) := by
  have hk : Kp S S w w' := ⟨fun _ h => h, fun g hg => hw.block g (hm.stab g hg) (fun e => by
    obtain ⟨h1, h2⟩ := hrow g e.symm
    exact (hm.apart i g h1 (hf h1) h2).1 hg)⟩
  have hl : Le ρ m (fun x => if x = i then loc else ρ x) (fun x => if x = i then b else m x) := fun a => by
    by_cases ha : a = i
    · subst ha; simpa using hv
    · simpa [ha] using Vw.refl (m a) (ρ a)
  refine ⟨⟨fun a => ?_, fun a c g ha hc hfa hfc hga hgc => ?_, fun a g ha hfa hga => ?_, fun a g hfa hga => ?_, fun g hg => Nat.lt_of_lt_of_le (hm.stab g hg) hw.size, hm.old, ⟨hw.os.trans hm.frm.os, hw.tape.trans hm.frm.tape, hw.output.trans hm.frm.output, Nat.le_trans hm.frm.size hw.size, fun g hg hi => ?_⟩, hm.glob.keep hk⟩, hk, hl⟩
  · by_cases ha : a = i
    · subst ha; simpa using hb hk hl
    · have : BR S w' (fun x => if x = i then loc else ρ x) (fun x => if x = i then b else m x) a (m a) := by
        by_cases hga : m a = .gone
        · rw [hga]; trivial
        · exact (hm.box a).keep hk hl (by simp [ha]) (fun g hlt hg => hw.block g hlt (fun e => by
            obtain ⟨h1, h2⟩ := hrow g e.symm
            cases hfa : frz (m a) with
            | false => exact ha (hm.sep a i g hga h1 hfa (hf h1) hg h2)
            | true => exact (hm.apart i g h1 (hf h1) h2).1 (hm.froz a g hfa hg)))
      simpa [ha] using this
  · by_cases hai : a = i <;> by_cases hci : c = i
    · rw [hai, hci]
    · rw [if_pos hai] at hga
      rw [if_neg hci] at hc hgc hfc
      rcases hloc g hga with ⟨h1, h2⟩ | ⟨h1, h2⟩
      · rw [hai]; exact hm.sep i c g h2 hc (hf h2) hfc h1 hgc
      · exact absurd ((hm.box c).lt hc hgc) (by omega)
    · rw [if_pos hci] at hgc
      rw [if_neg hai] at ha hga hfa
      rcases hloc g hgc with ⟨h1, h2⟩ | ⟨h1, h2⟩
      · rw [hci]; exact hm.sep a i g ha h2 hfa (hf h2) hga h1
      · exact absurd ((hm.box a).lt ha hga) (by omega)
    · rw [if_neg hai] at ha hga hfa
      rw [if_neg hci] at hc hgc hfc
      exact hm.sep a c g ha hc hfa hfc hga hgc
  · by_cases hai : a = i
    · rw [if_pos hai] at hga
      rcases hloc g hga with ⟨h1, h2⟩ | ⟨h1, h2⟩
      · exact hm.apart i g h2 (hf h2) h1
      · refine ⟨fun hS => ?_, .inl (Nat.le_trans hm.frm.size h1)⟩
        have := hm.stab g hS
        omega
    · rw [if_neg hai] at ha hfa hga
      exact hm.apart a g ha hfa hga
  · by_cases hai : a = i
    · rw [if_pos hai] at hfa
      rw [hfb] at hfa; cases hfa
    · rw [if_neg hai] at hfa hga
      exact hm.froz a g hfa hga
  · rw [hw.block g (Nat.lt_of_lt_of_le hg hm.frm.size) (fun e => by
      obtain ⟨h1, h2⟩ := hrow g e.symm
      rcases (hm.apart i g h1 (hf h1) h2).2 with h3 | h3
      · omega
      · exact hi h3)]
    exact hm.frm.block g hg hi
end
end Go.Vi
