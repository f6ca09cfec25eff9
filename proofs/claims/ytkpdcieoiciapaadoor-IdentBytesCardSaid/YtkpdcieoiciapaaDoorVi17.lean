/- THE VALUE INTERPRETER: the caller's memory behind a call. No project text. -/
import Derived.Test.YtkpdcieoiciapaaDoorVi16
set_option linter.unusedVariables false
set_option linter.unusedSimpArgs false
namespace Go.Vi
open Go.RowKit
/-- What was handed over goes on: variables stand where they stood, rows are rows of the same size. -/
def LeW (N : Nat) (ρ : Loc) (m : Mem) (ρ' : Loc) (m' : Mem) : Prop := ∀ a, a < N → match m a with
  | .var _ => ∃ cs, m' a = .var cs ∧ ρ' a = ρ a
  | .row _ _ _ _ sz _ => ∃ e k f fl es, m' a = .row e k f fl sz es
  | .gone => True
def InnOf (S : Nat → Prop) (ρ : Loc) (m : Mem) : Inn := ⟨fun g => ∃ a, m a ≠ .gone ∧ frz (m a) = false ∧ blk (ρ a) = some g, S⟩
theorem MR.rebase {E : Env} {w0 : World} {inn : Inn} {S : Nat → Prop} {ρ : Loc} {m : Mem} {w : World} (hm : MR E w0 inn S ρ m w) : MR E w (InnOf S ρ m) S ρ m w :=
  ⟨hm.box, hm.sep, fun a g h1 h2 h3 => ⟨(hm.apart a g h1 h2 h3).1, .inr ⟨a, h1, h2, h3⟩⟩, hm.froz, hm.stab, fun g hg _ => .inl hg, ⟨rfl, rfl, rfl, Nat.le_refl _, fun _ _ _ => rfl⟩, hm.glob⟩
theorem MR.restrict {E : Env} {w0 : World} {inn : Inn} {S : Nat → Prop} {ρ : Loc} {m m' : Mem} {w : World} (hm : MR E w0 inn S ρ m w) (h : ∀ a, m' a = .gone ∨ m' a = m a) (hrl : ∀ a, m' a ≠ .gone → BR S w ρ m' a (m' a)) : MR E w0 inn S ρ m' w := by
  have key : ∀ a, m' a ≠ .gone → m' a = m a := fun a ha => (h a).resolve_left ha
  refine ⟨fun a => ?_, fun a b g h1 h2 h3 h4 h5 h6 => ?_, fun a g h1 h2 h3 => ?_, fun a g h1 h2 => ?_, hm.stab, hm.old, hm.frm, hm.glob⟩
  · by_cases ha : m' a = .gone
    · rw [ha]; trivial
    · exact hrl a ha
  · exact hm.sep a b g (key a h1 ▸ h1) (key b h2 ▸ h2) (key a h1 ▸ h3) (key b h2 ▸ h4) h5 h6
  · exact hm.apart a g (key a h1 ▸ h1) (key a h1 ▸ h2) h3
  · have hne : m' a ≠ .gone := by intro e; rw [e] at h1; cases h1
    exact hm.froz a g (key a hne ▸ h1) h2

section
variable {E : Env} {w0 : World} {inn : Inn} {S S1 S2 S3 : Nat → Prop} {ρ ρi ρ2 : Loc} {m mi m3 : Mem} {w w' : World} {h : Nat → Nat × Nat} {ids : List Nat} {M2 : List Box} {D : Nat → Prop} {q : Nat → Nat}
/-- THE CALLER's MEMORY, out of what the callee handed back. 'q': which box of the callee's. -/
theorem merge_mr (hm : MR E w0 inn S ρ m w) (hcal : MR E w (InnOf S1 ρi mi) S2 ρ2 (memOf M2) w') (hk : Kp S1 S2 w w') (h1 : ∀ g, S g → S1 g) (h1' : ∀ g, S1 g → S g ∨ ∃ a, D a ∧ isRowB (m a) = true ∧ blk (ρ a) = some g) (h1'' : ∀ g a, D a → isRowB (m a) = true → blk (ρ a) = some g → S1 g)
    -- the boxes handed over
    (hin : ∀ j, mi j ≠ .gone → j < ids.length ∧ m (h j).1 ≠ .gone ∧ frz (mi j) = frz (m (h j).1) ∧ ρi j = ρ (h j).1)
    (hinj : ∀ i j, (h i).1 = (h j).1 → i = j)
    -- the caller's memory
    (ht : ∀ j, memOf M2 j ≠ .gone → m3 (h j).1 = shB h (h j).2 (memOf M2 j))
    (hu : ∀ a, (∀ j, memOf M2 j ≠ .gone → (h j).1 ≠ a) → (∀ j, mi j ≠ .gone → (h j).1 ≠ a) ∧ (m3 a = m a ∨ ∃ e k f fl sz es, m a = .row e k f fl sz es ∧ m3 a = .row e k true fl sz es ∧ D a))
    (hle : ∀ j, memOf M2 j ≠ .gone → Vw (m (h j).1) (shB h (h j).2 (memOf M2 j)) (ρ (h j).1) (ρ2 j))
    (hfz : (S3 = S2 ∧ ∀ a, D a → isRowB (m a) = true → (∀ j, memOf M2 j ≠ .gone → (h j).1 ≠ a) → frz (m3 a) = true) ∨ (S3 = S ∧ (∀ a, (∀ j, memOf M2 j ≠ .gone → (h j).1 ≠ a) → m3 a = m a) ∧ ∀ j, memOf M2 j ≠ .gone → flatBox (memOf M2 j) = true)) :
    ∃ ρ3 : Loc, MR E w0 inn S3 ρ3 m3 w' ∧ Kp S S3 w w' ∧ Le ρ m ρ3 m3 ∧ Sh h ρ2 (memOf M2) ρ3 m3 := by
  classical
  let T : Nat → Prop := fun a => ∃ j, memOf M2 j ≠ .gone ∧ (h j).1 = a
  let ρ3 : Loc := fun a => if ht : T a then ρ2 (Classical.choose ht) else ρ a
  have hT : ∀ j, memOf M2 j ≠ .gone → ρ3 (h j).1 = ρ2 j := by
    intro j hj
    have hx : T (h j).1 := ⟨j, hj, rfl⟩
    have h2 := Classical.choose_spec hx
    have h3 := hinj _ _ h2.2
    show (if ht : T (h j).1 then ρ2 (Classical.choose ht) else ρ (h j).1) = ρ2 j
    rw [dif_pos hx, h3]
  have hU : ∀ a, ¬ T a → ρ3 a = ρ a := fun a ha => dif_neg ha
  have nT : ∀ a, ¬ T a → ∀ j, memOf M2 j ≠ .gone → (h j).1 ≠ a := fun a ha j hj e => ha ⟨j, hj, e⟩
  have hkS : Kp S S3 w w' := by
    rcases hfz with ⟨rfl, _⟩ | ⟨rfl, _⟩
    · exact ⟨fun g hg => hk.sub g (h1 g hg), fun g hg => hk.same g (h1 g hg)⟩
    · exact ⟨fun g hg => hg, fun g hg => hk.same g (h1 g hg)⟩
  have hLe : Le ρ m ρ3 m3 := by
    intro a
    by_cases ha : T a
    · obtain ⟨j, hj, rfl⟩ := ha
      rw [ht j hj, hT j hj]
      exact hle j hj
    · rw [hU a ha]
      rcases (hu a (nT a ha)).2 with e | ⟨e, k, f, fl, sz, es, e1, e2, _⟩
      · rw [e]; exact Vw.refl _ _
      · rw [e1, e2]; exact ⟨_, _, _, _, _, rfl, .inr ⟨rfl, rfl, rfl⟩⟩
  have hSh : Sh h ρ2 (memOf M2) ρ3 m3 := fun j hj => ⟨ht j hj, hT j hj⟩
  -- an untouched box's block is no box's that was handed over
  have notIn : ∀ a g, ¬ T a → m a ≠ .gone → frz (m a) = false → blk (ρ a) = some g → ¬ (InnOf S1 ρi mi).i g := by
    rintro a g ha hne hf hg ⟨j, hj, hfj, hgj⟩
    obtain ⟨_, q2, q3, q4⟩ := hin j hj
    rw [q4] at hgj
    have := hm.sep a (h j).1 g hne q2 hf (by rw [← q3]; exact hfj) hg hgj
    exact (hu a (nT a ha)).1 j hj this.symm
  have hblk : ∀ a g, ¬ T a → m a ≠ .gone → g < w.heap.size → blk (ρ a) = some g → w'.heap[g]? = w.heap[g]? := by
    intro a g ha hne hlt hg
    cases hfa : frz (m a) with
    | true => exact hk.same g (h1 g (hm.froz a g hfa hg))
    | false => exact hcal.frm.block g hlt (notIn a g ha hne hfa hg)
  have hold : ∀ g, S3 g → g < w.heap.size → S g ∨ (∃ a, D a ∧ isRowB (m a) = true ∧ blk (ρ a) = some g ∧ S3 = S2) ∨ (InnOf S1 ρi mi).i g := by
    intro g hg hlt
    rcases hfz with ⟨rfl, _⟩ | ⟨rfl, _⟩
    · rcases hcal.old g hg hlt with h | h
      · rcases h1' g h with h | ⟨a, h2, h3, h4⟩
        · exact .inl h
        · exact .inr (.inl ⟨a, h2, h3, h4, rfl⟩)
      · exact .inr (.inr h)
    · exact .inl hg
  have unt : ∀ a, ¬ T a → m3 a ≠ .gone → frz (m3 a) = false → m a ≠ .gone ∧ frz (m a) = false ∧ m3 a = m a := by
    intro a ha h2 h3
    rcases (hu a (nT a ha)).2 with e | ⟨_, _, _, _, _, _, _, e2, _⟩
    · rw [e] at h2 h3; exact ⟨h2, h3, e⟩
    · rw [e2] at h3; cases h3
  have inn0 : ∀ g, (InnOf S1 ρi mi).i g → w0.heap.size ≤ g ∨ inn.i g := by
    rintro g ⟨j, hj, hfj, hgj⟩
    obtain ⟨_, q2, q3, q4⟩ := hin j hj
    rw [q4] at hgj
    exact (hm.apart (h j).1 g q2 (by rw [← q3]; exact hfj) hgj).2
  have fsh : ∀ i, frz (shB h (h i).2 (memOf M2 i)) = frz (memOf M2 i) := fun i => by cases memOf M2 i <;> rfl
  have mix : ∀ j b g, memOf M2 j ≠ .gone → frz (memOf M2 j) = false → blk (ρ2 j) = some g → ¬ T b → m b ≠ .gone → frz (m b) = false → blk (ρ b) = some g → False := by
    intro j b g q1 q2 q3 q4 q5 q6 q7
    rcases (hcal.apart j g q1 q2 q3).2 with h | h
    · exact absurd ((hm.box b).lt q5 q7) (by omega)
    · exact notIn b g q4 q5 q6 q7 h
  refine ⟨ρ3, ⟨fun a => ?_, fun a b g ha hb hfa hfb hga hgb => ?_, fun a g ha hfa hga => ?_, fun a g hfa hga => ?_, fun g hg => ?_, fun g hg hlt => ?_, ⟨hcal.frm.os.trans hm.frm.os, hcal.frm.tape.trans hm.frm.tape, hcal.frm.output.trans hm.frm.output, Nat.le_trans hm.frm.size hcal.frm.size, fun g hg hi => ?_⟩, hm.glob.keep hkS⟩, hkS, hLe, hSh⟩
  · by_cases ha : T a
    · obtain ⟨j, hj, rfl⟩ := ha
      have hb := hcal.box j
      rw [ht j hj]
      cases hM : memOf M2 j with
      | gone => exact absurd hM hj
      | var cs =>
        rw [hM] at hb
        obtain ⟨g, vs, t, e1, e2, e3⟩ := hb
        rcases hfz with ⟨rfl, _⟩ | ⟨_, _, hfl⟩
        · exact ⟨g, vs, t, (hT j hj).trans e1, e2, sh_rl hSh e3⟩
        · have := hfl j hj; rw [hM] at this; cases this
      | row e k f fl sz es =>
        rw [hM] at hb
        obtain ⟨q0, q1, q2, xs, q3, q4⟩ := hb
        refine ⟨q0, q1, q2, xs, by rw [hT j hj]; exact q3, fun i e' jj x hi hx => ?_⟩
        obtain ⟨u, hu', hcv⟩ := q4 i e' jj x hi hx
        refine ⟨u, hu', ?_⟩
        rcases hfz with ⟨rfl, _⟩ | ⟨_, _, hfl⟩
        · exact hcv
        · have := hfl j hj
          rw [hM] at this
          cases f with
          | true => cases this
          | false =>
            have hv := q2 this i e' hi x (List.mem_of_getElem? hx)
            cases x with
            | v x => cases hcv with | v h => exact .v h
            | _ => cases hv
    · have e0 := (hu a (nT a ha)).2
      by_cases hga : m a = .gone
      · rcases e0 with e | ⟨_, _, _, _, _, _, e1, _⟩
        · rw [e, hga]; trivial
        · rw [hga] at e1; cases e1
      · have := (hm.box a).keep hkS hLe (hU a ha) (fun g hlt hg => hblk a g ha hga hlt hg)
        rcases e0 with e | ⟨e, k, f, fl, sz, es, e1, e2, _⟩
        · rw [e]; exact this
        · rw [e1] at this; rw [e2]; exact this
  · by_cases hTa : T a <;> by_cases hTb : T b
    · obtain ⟨i, hi, rfl⟩ := hTa
      obtain ⟨j, hj, rfl⟩ := hTb
      rw [ht i hi] at hfa
      rw [ht j hj] at hfb
      rw [hT i hi] at hga
      rw [hT j hj] at hgb
      rw [fsh] at hfa hfb
      rw [hcal.sep i j g hi hj hfa hfb hga hgb]
    · obtain ⟨i, hi, rfl⟩ := hTa
      rw [ht i hi, fsh] at hfa
      rw [hT i hi] at hga
      rw [hU b hTb] at hgb
      obtain ⟨q1, q2, _⟩ := unt b hTb hb hfb
      exact (mix i b g hi hfa hga hTb q1 q2 hgb).elim
    · obtain ⟨i, hi, rfl⟩ := hTb
      rw [ht i hi, fsh] at hfb
      rw [hT i hi] at hgb
      rw [hU a hTa] at hga
      obtain ⟨q1, q2, _⟩ := unt a hTa ha hfa
      exact (mix i a g hi hfb hgb hTa q1 q2 hga).elim
    · obtain ⟨q1, q2, _⟩ := unt a hTa ha hfa
      obtain ⟨q3, q4, _⟩ := unt b hTb hb hfb
      rw [hU a hTa] at hga
      rw [hU b hTb] at hgb
      exact hm.sep a b g q1 q3 q2 q4 hga hgb
  · by_cases hTa : T a
    · obtain ⟨i, hi, rfl⟩ := hTa
      rw [ht i hi, fsh] at hfa
      rw [hT i hi] at hga
      obtain ⟨q1, q2⟩ := hcal.apart i g hi hfa hga
      refine ⟨fun hS => ?_, ?_⟩
      · rcases hfz with ⟨rfl, _⟩ | ⟨rfl, _⟩
        · exact q1 hS
        · exact q1 (hk.sub g (h1 g hS))
      · rcases q2 with q2 | q2
        · exact .inl (Nat.le_trans hm.frm.size q2)
        · exact inn0 g q2
    · obtain ⟨q1, q2, q3⟩ := unt a hTa ha hfa
      rw [hU a hTa] at hga
      obtain ⟨q4, q5⟩ := hm.apart a g q1 q2 hga
      refine ⟨fun hS => ?_, q5⟩
      rcases hold g hS ((hm.box a).lt q1 hga) with h | ⟨a', hd, hrow, hg', hS2⟩ | h
      · exact q4 h
      · have hne : m a' ≠ .gone := by intro e; rw [e] at hrow; cases hrow
        cases hfa' : frz (m a') with
        | true => exact q4 (hm.froz a' g hfa' hg')
        | false =>
          have := hm.sep a a' g q1 hne q2 hfa' hga hg'
          subst this
          rcases hfz with ⟨_, hz⟩ | ⟨hSS, hz, _⟩
          · rw [hz a hd hrow (nT a hTa)] at hfa; cases hfa
          · rw [hSS] at hS; exact q4 hS
      · exact notIn a g hTa q1 q2 hga h
  · by_cases hTa : T a
    · obtain ⟨i, hi, rfl⟩ := hTa
      rw [ht i hi, fsh] at hfa
      rw [hT i hi] at hga
      rcases hfz with ⟨rfl, _⟩ | ⟨_, _, hfl⟩
      · exact hcal.froz i g hfa hga
      · have := hfl i hi
        cases hM : memOf M2 i with
        | row e k f fl sz es =>
          rw [hM] at this hfa
          simp only [frz] at hfa
          subst hfa
          cases this
        | _ => rw [hM] at this; cases this
    · rw [hU a hTa] at hga
      rcases (hu a (nT a hTa)).2 with e | ⟨e, k, f, fl, sz, es, e1, e2, hd⟩
      · rw [e] at hfa
        exact hkS.sub g (hm.froz a g hfa hga)
      · rcases hfz with ⟨rfl, _⟩ | ⟨rfl, hz, _⟩
        · exact hk.sub g (h1'' g a hd (by rw [e1]; rfl) hga)
        · rw [hz a (nT a hTa)] at hfa
          exact hm.froz a g hfa hga
  · rcases hfz with ⟨rfl, _⟩ | ⟨rfl, _⟩
    · exact hcal.stab g hg
    · exact Nat.lt_of_lt_of_le (hm.stab g hg) hcal.frm.size
  · rcases hold g hg (Nat.lt_of_lt_of_le hlt hm.frm.size) with h | ⟨a, hd, hrow, hg', _⟩ | h
    · exact hm.old g h hlt
    · have hne : m a ≠ .gone := by intro e; rw [e] at hrow; cases hrow
      cases hfa : frz (m a) with
      | true => exact hm.old g (hm.froz a g hfa hg') hlt
      | false =>
        rcases (hm.apart a g hne hfa hg').2 with h | h
        · omega
        · exact .inr h
    · rcases inn0 g h with h | h
      · omega
      · exact .inr h
  · rw [hcal.frm.block g (Nat.lt_of_lt_of_le hg hm.frm.size) (fun h => by
      rcases inn0 g h with h | h
      · omega
      · exact hi h)]
    exact hm.frm.block g hg hi
end
end Go.Vi
