/- THE VALUE INTERPRETER: functions of Go's library, told by contracts. No project text. -/
import Derived.Test.YtkpdcieoiciapaaDoorVi25
set_option linter.unusedVariables false
set_option linter.unusedSimpArgs false
namespace Go.Vi
open Go.RowKit
section
variable {E : Env} {P : Program}
/-- There is such a function. -/
def Has (P : Program) (g : Nat) : Prop := ∃ fn, P.funcs[g]? = some fn ∧ fn.name ≠ "runtime.NumGoroutine" ∧ fn.body.isSome = true
def hasB (P : Program) (g : Nat) : Bool := match P.funcs[g]? with | some fn => fn.name != "runtime.NumGoroutine" && fn.body.isSome | none => false
theorem has_of {g : Nat} (h : hasB P g = true) : Has P g := by
  unfold hasB at h
  split at h
  · rename_i fn hf
    simp only [Bool.and_eq_true, bne_iff_ne, ne_eq] at h
    exact ⟨fn, hf, h.1, h.2⟩
  · cases h
theorem below_kp {S : Nat → Prop} {w w0 : World} {inn : Inn} {ρ : Loc} {m : Mem} {w' : World} (hm : MR E w0 inn S ρ m w) (hb : Below w.heap.size w w') : Kp S S w w' :=
  ⟨fun _ h => h, fun g hg => hb.block g (hm.stab g hg)⟩
theorem memNil (a : Nat) : memOf [] a = .gone := rfl
/-- Nothing is turned, nothing made that is handed back. -/
theorem callAt_below {g : Nat} {args : List Sv} {res : Sv} (hfn : Has P g)
    (h : ∀ (w : World) (S : Nat → Prop) (ρ : Loc) (us : Array Value), us.size = args.length → (∀ (j : Nat) x, args[j]? = some x → ∃ u, us[j]? = some u ∧ RS S w ρ (memOf []) x u) → GOK E S w →
      Calls P g us w (fun e w' => ∃ u, e = .returned u ∧ (∀ S' ρ', RS S' w' ρ' (memOf []) res u) ∧ Below w.heap.size w w')) : CallAt E P g args [] res [] := by
  refine ⟨hfn, fun w S ρ us hus hua hm => ?_⟩
  refine Calls.mono (h w S ρ us hus hua hm.glob) ?_
  rintro e w' ⟨u, rfl, hr, hb⟩
  have hk := below_kp hm hb
  refine ⟨u, S, ρ, rfl, hk, hr S ρ, ⟨fun a => trivial, fun a b g ha => absurd rfl ha, fun a g ha => absurd rfl ha, fun a g ha => (by cases ha), fun g hg => Nat.lt_of_lt_of_le (hm.stab g hg) hb.size, hm.old, ⟨hb.os, hb.tape, hb.output, hb.size, fun g hg _ => hb.block g hg⟩, hm.glob.keep hk⟩, fun a ha => (by cases ha), Nat.le_refl _⟩
/-- A slice of its own is handed back, to be read. -/
theorem callAt_ro {g : Nat} {args : List Sv} {fl : Bool} {sz : Nat} {es : List (List At)} (hfn : Has P g)
    (h : ∀ (w : World) (S : Nat → Prop) (ρ : Loc) (us : Array Value), us.size = args.length → (∀ (j : Nat) x, args[j]? = some x → ∃ u, us[j]? = some u ∧ RS S w ρ (memOf []) x u) → GOK E S w →
      Calls P g us w (fun e w' => ∃ u, e = .returned u ∧ SlV (fun g => w.heap.size ≤ g ∧ g < w'.heap.size) (fun _ => False) w' fl sz es u ∧ Below w.heap.size w w')) : CallAt E P g args [] (.one (.ro fl sz es)) [] := by
  refine ⟨hfn, fun w S ρ us hus hua hm => ?_⟩
  refine Calls.mono (h w S ρ us hus hua hm.glob) ?_
  rintro e w' ⟨u, rfl, hr, hb⟩
  let S' : Nat → Prop := fun g => S g ∨ (w.heap.size ≤ g ∧ g < w'.heap.size)
  have hk : Kp S S' w w' := ⟨fun _ h => .inl h, fun g hg => hb.block g (hm.stab g hg)⟩
  have hk2 : Kp (fun _ => False) S' w' w' := ⟨fun _ h => h.elim, fun _ h => h.elim⟩
  refine ⟨u, S', ρ, rfl, hk, ?_, ⟨fun a => trivial, fun a b g ha => absurd rfl ha, fun a g ha => absurd rfl ha, fun a g ha => (by cases ha), fun g hg => ?_, fun g hg hlt => ?_, ⟨hb.os, hb.tape, hb.output, hb.size, fun g hg _ => hb.block g hg⟩, hm.glob.keep hk⟩, fun a ha => (by cases ha), Nat.le_refl _⟩
  · obtain ⟨a, n, c, get, h1, hn, hc, hl, hf, hmm, hr⟩ := hr
    exact slv_cv.1 ⟨a, n, c, get, h1, hn, hc, hl, hf, fun hne => let ⟨ad, q1, q2, q3⟩ := hmm hne; ⟨ad, q1, .inr q2, q3⟩, fun i e j x hi hj => (hr i e j x hi hj).keep hk2⟩
  · rcases hg with hg | hg
    · exact Nat.lt_of_lt_of_le (hm.stab g hg) hb.size
    · exact hg.2
  · rcases hg with hg | hg
    · exact hm.old g hg hlt
    · exact absurd hlt (by omega)
/-- A package-level variable's cell. -/
theorem gok_cell {S : Nat → Prop} {w : World} (h : GOK E S w) {g : Nat} {x : At} (hg : (E.G g)[0]? = some x) : ∃ u, w.cell? ⟨g, 0, none⟩ = some u ∧ CV S w x u :=
  (h.glob g (by intro e; rw [e] at hg; cases hg)).2 0 x hg
/-- An oracle, told a function by a contract. -/
theorem over_at {c : Orc} {g : Nat} {F : List Sv → List Box → Tree (Sv × List Box)} (hc : CallOK E P c) (h : ∀ args M res M2, (F args M).eval = some (res, M2) → CallAt E P g args M res M2) : CallOK E P (over c g F) := by
  intro g' args M res M2 hr
  unfold over at hr
  split at hr
  · rename_i hg
    obtain rfl := Nat.eq_of_beq_eq_true hg
    exact h args M res M2 hr
  · exact hc g' args M res M2 hr
/-- A row of strings, made anew. -/
theorem slv_strs {w w' : World} {t : TypeId} {ss : List ByteArray} (hw : w' = w.alloc (.cells (ss.map Value.string).toArray t)) {n c : Nat} (hn : n = ss.length) (hc : n ≤ c) :
    SlV (fun g => w.heap.size ≤ g ∧ g < w'.heap.size) (fun _ => False) w' true 1 (ss.map fun s => [.v (.string s)]) (.slice (some ⟨w.heap.size, 0, none⟩) n c) := by
  subst hw
  refine ⟨_, n, c, fun i _ => .string (ss.getD i ByteArray.empty), rfl, by simp [hn], hc, fun i e he => ?_, fun _ i e he x hx => ?_, fun hne => ⟨_, rfl, ⟨Nat.le_refl _, by simp⟩, fun i e j x he hx => ?_⟩, fun i e j x he hx => ?_⟩
  · rw [List.getElem?_map, Option.map_eq_some_iff] at he
    obtain ⟨s, _, rfl⟩ := he; rfl
  · rw [List.getElem?_map, Option.map_eq_some_iff] at he
    obtain ⟨s, _, rfl⟩ := he
    simp only [List.mem_singleton] at hx
    subst hx; rfl
  · rw [List.getElem?_map, Option.map_eq_some_iff] at he
    obtain ⟨s, hs, rfl⟩ := he
    have hj : j = 0 := by
      rcases j with _ | j
      · rfl
      · simp at hx
    subst hj
    rw [addr_add0, cell_of_row _ _ _ _ _ (0, 0) (heap_alloc_new w _)]
    simp [hs]
  · rw [List.getElem?_map, Option.map_eq_some_iff] at he
    obtain ⟨s, hs, rfl⟩ := he
    have hj : j = 0 := by
      rcases j with _ | j
      · rfl
      · simp at hx
    subst hj
    simp only [List.getElem?_cons_zero, Option.some.injEq] at hx
    subst hx
    dsimp only
    rw [List.getD_eq_getElem?_getD, hs]
    exact .v rfl
end
end Go.Vi
