/- THE VALUE INTERPRETER: variables and rows that an operation makes. No project text. -/
import Derived.Test.YtkpdcieoiciapaaDoorVi6
set_option linter.unusedVariables false
set_option linter.unusedSimpArgs false
namespace Go.Vi
open Go.RowKit
variable {R : Type}
/-- WHAT AN OPERATION's ANSWER STANDS FOR. -/
def Good (E : Env) (P : Program) (o : Oper) (s : TS) (M : List Box) (nx : Nat) (v : Sv) (ef : Eff) : Prop :=
  (∀ p ∈ ef, p.1 < nx → p.1 ∈ foot s M o) ∧
  ∀ (w0 : World) (inn : Inn) (S : Nat → Prop) (ρ : Loc) (m : Mem) (a : Act) (w : World), (∀ x ∈ o.op.operands.toList, RS S w ρ m (opnd s x) (a.eval x)) →
    (∀ i ∈ foot s M o, m i = memOf M i) → (∀ p ∈ ef, nx ≤ p.1 → m p.1 = .gone) → MR E w0 inn S ρ m w → OpW E P w0 inn S ρ m o a w ef v
theorem upM_append : ∀ (e1 e2 : Eff) (m : Mem), upM m (e1 ++ e2) = upM (upM m e1) e2
  | [], e2, m => rfl
  | (a, b) :: e1, e2, m => by rw [List.cons_append, upM, upM_append e1, upM]
theorem upM_out : ∀ (ef : Eff) (m : Mem) (x : Nat), (∀ p ∈ ef, p.1 ≠ x) → upM m ef x = m x
  | [], m, x, h => rfl
  | (a, b) :: ef, m, x, h => by
    rw [upM, upM_out ef _ x (fun p hp => h p (List.mem_cons_of_mem _ hp))]
    have := h (a, b) (List.mem_cons_self ..)
    exact if_neg (fun e => this e.symm)

section
variable {E : Env} {P : Program} {w0 : World} {inn : Inn} {S : Nat → Prop} {ρ : Loc} {m : Mem} {w : World} {o : Oper} {s : TS} {M : List Box} {nx : Nat} {v : Sv} {ef : Eff} {K : Sv → Eff → Option R} {r : R}

/-- No effect. -/
theorem Good.of_pure (h : ∀ (S : Nat → Prop) (w : World) (ρ : Loc) (m : Mem) (a : Act) (w0 : World) (inn : Inn), (∀ x ∈ o.op.operands.toList, RS S w ρ m (opnd s x) (a.eval x)) →
    (∀ i ∈ foot s M o, m i = memOf M i) → MR E w0 inn S ρ m w → ∃ u, (execOp a.eval o).run P w = .ok (.value u) w ∧ RS S w ρ m v u) : Good E P o s M nx v [] :=
  ⟨fun p hp => (nomatch hp), fun w0 inn S ρ m a w hx hf _ hm => let ⟨u, hr, hv⟩ := h S w ρ m a w0 inn hx hf hm; .of_pure hr hv hm⟩

theorem MR.nil_row (hm : MR E w0 inn S ρ m w) {i e sz : Nat} {fl : Bool} {ad : Option Addr} (hi : m i = .gone) (hs : 0 < sz) :
    MR E w0 inn S (fun x => if x = i then .slice ad 0 0 else ρ x) (fun x => if x = i then .row e 0 false fl sz [] else m x) w ∧
    Le ρ m (fun x => if x = i then .slice ad 0 0 else ρ x) (fun x => if x = i then .row e 0 false fl sz [] else m x) := by
  have := hm.step (i := i) (b := .row e 0 false fl sz []) (loc := .slice ad 0 0) (row := none) (w' := w) ⟨rfl, rfl, rfl, Nat.le_refl _, fun _ _ _ => rfl⟩
    (fun g h => by cases h) (fun h => absurd hi h) rfl (by rw [hi]; trivial) (fun g h => by rw [blk_zero] at h; cases h) (fun _ _ => ⟨hs, fun i e h => by simp at h, fun _ i e h => by simp at h, [], by
      dsimp only
      rw [if_pos rfl]
      exact Owns.nil _ _ _ _, fun i e j x h => by simp at h⟩)
  exact ⟨this.1, this.2.2⟩
theorem RL.set {cs : List At} {vs : Array Value} (h : RL S w ρ m cs vs) {j : Nat} {x : At} (hx : ∀ u, vs[j]? = some u → RA S w ρ m x u) : RL S w ρ m (cs.set j x) vs := by
  refine ⟨by simp [h.1], fun i y hi => ?_⟩
  rw [List.getElem?_set] at hi
  split at hi
  · rename_i hj
    subst hj
    split at hi
    · rename_i hl
      obtain rfl := Option.some.inj hi
      obtain ⟨u, hu, h1, _⟩ := h.2 j cs[j] (List.getElem?_eq_getElem hl)
      exact ⟨u, hu, h1, hx u hu⟩
    · cases hi
  · exact h.2 i y hi
theorem matCells_ids : ∀ (hs : List (Nat × Nat × Nat × Bool × Nat)) (t nx : Nat) (cs cs' : List At) (ef : Eff), matCells nx hs t cs = (cs', ef) → ∀ p ∈ ef, nx ≤ p.1 ∧ p.1 < nx + ef.length
  | [], t, nx, cs, cs', ef, h => by
    simp only [matCells, Prod.mk.injEq] at h
    obtain ⟨rfl, rfl⟩ := h
    exact fun p hp => (nomatch hp)
  | (d, j, e, fl, sz) :: hs, t, nx, cs, cs', ef, h => by
    simp only [matCells] at h
    split at h
    · split at h
      · cases hq : matCells (nx + 1) hs t (cs.set j (.own nx 0)) with
        | mk cs2 ef2 =>
          rw [hq] at h
          simp only [Prod.mk.injEq] at h
          obtain ⟨rfl, rfl⟩ := h
          intro p hp
          cases hp with
          | head => simp
          | tail _ hp => have := matCells_ids hs t (nx + 1) _ cs2 ef2 hq p hp; simp; omega
      · exact matCells_ids hs t nx cs cs' ef h
    · exact matCells_ids hs t nx cs cs' ef h
theorem matCells_sound : ∀ (hs : List (Nat × Nat × Nat × Bool × Nat)) (t nx : Nat) (cs cs' : List At) (ef : Eff) (vs : Array Value) (ρ : Loc) (m : Mem), matCells nx hs t cs = (cs', ef) →
    (∀ p ∈ ef, nx ≤ p.1 ∧ p.1 < nx + ef.length) ∧ ((∀ p ∈ ef, m p.1 = .gone) → MR E w0 inn S ρ m w → RL S w ρ m cs vs →
      ∃ ρ', MR E w0 inn S ρ' (upM m ef) w ∧ Le ρ m ρ' (upM m ef) ∧ RL S w ρ' (upM m ef) cs' vs)
  | [], t, nx, cs, cs', ef, vs, ρ, m, h => by
    simp only [matCells, Prod.mk.injEq] at h
    obtain ⟨rfl, rfl⟩ := h
    exact ⟨fun p hp => (nomatch hp), fun _ hm hl => ⟨ρ, hm, Le.refl _ _, hl⟩⟩
  | (d, j, e, fl, sz) :: hs, t, nx, cs, cs', ef, vs, ρ, m, h => by
    simp only [matCells] at h
    split at h
    · rename_i hd
      simp only [Bool.and_eq_true, decide_eq_true_eq] at hd
      split at h
      · rename_i hn
        cases hq : matCells (nx + 1) hs t (cs.set j (.own nx 0)) with
        | mk cs2 ef2 =>
          rw [hq] at h
          simp only [Prod.mk.injEq] at h
          obtain ⟨rfl, rfl⟩ := h
          have key := fun ρ m => matCells_sound hs t (nx + 1) (cs.set j (.own nx 0)) cs2 ef2 vs ρ m hq
          refine ⟨fun p hp => ?_, fun hg hm hl => ?_⟩
          · cases hp with
            | head => simp
            | tail _ hp => have := (key ρ m).1 p hp; simp; omega
          · have hnx : m nx = .gone := hg (nx, _) (List.mem_cons_self ..)
            have hnil : ∃ ad, ∀ u, vs[j]? = some u → u = .slice ad 0 0 := by
              cases hj : cs[j]? with
              | none => rw [List.getD_eq_getElem?_getD, hj] at hn; cases hn
              | some x =>
                rw [List.getD_eq_getElem?_getD, hj] at hn
                simp only [Option.getD_some] at hn
                subst hn
                obtain ⟨u', hu', h1, hx⟩ := hl.2 j _ hj
                have hx' : CV S w .nils u' := hx
                cases hx' with
                | nils => exact ⟨_, fun u hu => by rw [hu] at hu'; exact Option.some.inj hu'⟩
            obtain ⟨ad, hnil⟩ := hnil
            obtain ⟨hm2, hl2⟩ := hm.nil_row (i := nx) (e := e) (fl := fl) (ad := ad) hnx hd.2
            obtain ⟨ρ', h1, h2, h3⟩ := (key _ _).2 (fun p hp => by
              have h1 := (key ρ m).1 p hp
              have h2 := hg p (List.mem_cons_of_mem _ hp)
              rw [if_neg (by omega)]; exact h2) hm2 ((hl.keep (Kp.refl _ _) hl2).set (fun u hu => by
                simp only [RA, if_true]
                rw [hnil u hu]
                exact ⟨Nat.le_refl _, rfl, fun _ => rfl⟩))
            exact ⟨ρ', h1, hl2.trans h2, h3⟩
      · exact matCells_sound hs t nx cs cs' ef vs ρ m h
    · exact matCells_sound hs t nx cs cs' ef vs ρ m h

/-- A new variable. -/
theorem MR.new_var (hm : MR E w0 inn S ρ m w) {i t : Nat} {cs : List At} {vs : Array Value} (hi : m i = .gone) (hl : RL S w ρ m cs vs) :
    MR E w0 inn S (fun x => if x = i then .pointer (some ⟨w.heap.size, 0, none⟩) else ρ x) (fun x => if x = i then .var cs else m x) (w.alloc (.cells vs t)) ∧ Kp S S w (w.alloc (.cells vs t)) ∧
    Le ρ m (fun x => if x = i then .pointer (some ⟨w.heap.size, 0, none⟩) else ρ x) (fun x => if x = i then .var cs else m x) :=
  hm.step (row := none) (World.grownBy_alloc w _ _) (fun g h => by cases h) (fun h => absurd hi h) rfl (by rw [hi]; trivial)
    (fun g h => by
      simp only [blk, Option.some.injEq] at h
      subst h
      exact .inr ⟨Nat.le_refl _, by simp⟩)
    (fun hk hle => ⟨w.heap.size, vs, t, if_pos rfl, heap_alloc_new w _, hl.keep hk hle⟩)
/-- A new row. -/
theorem MR.new_row (hm : MR E w0 inn S ρ m w) {i e sz n : Nat} {fl : Bool} {es : List (List At)} {cs : Array Value} (hi : m i = .gone) (hs : 0 < sz) (hn : n = es.length) (hmx : n ≤ maxLen)
    (hc : cs.size = n * sz) (hl : ∀ (i : Nat) e', es[i]? = some e' → e'.length = sz) (hf : fl = true → ∀ (i : Nat) e', es[i]? = some e' → ∀ x ∈ e', isV x = true)
    (hr : ∀ (i : Nat) e' (j : Nat) x, es[i]? = some e' → e'[j]? = some x → ∃ u, cs[i * sz + j]? = some u ∧ CV S w x u) :
    MR E w0 inn S (fun x => if x = i then .slice (some ⟨w.heap.size, 0, none⟩) n n else ρ x) (fun x => if x = i then .row e 0 false fl sz es else m x) (w.alloc (.cells cs e)) ∧ Kp S S w (w.alloc (.cells cs e)) ∧
    Le ρ m (fun x => if x = i then .slice (some ⟨w.heap.size, 0, none⟩) n n else ρ x) (fun x => if x = i then .row e 0 false fl sz es else m x) :=
  hm.step (row := none) (World.grownBy_alloc w _ _) (fun g h => by cases h) (fun h => absurd hi h) rfl (by rw [hi]; trivial)
    (fun g h => by
      obtain ⟨rfl, _⟩ := blk_slice h
      exact .inr ⟨Nat.le_refl _, by simp⟩)
    (fun hk hle => ⟨hs, hl, hf, cs.toList, by
      dsimp only
      rw [if_pos rfl, ← hn]
      exact Owns.of (World.ownsRow_lit w cs n (Nat.zero_le _) hmx hc), fun i e' j x h1 h2 => let ⟨u, hu, hx⟩ := hr i e' j x h1 h2; ⟨u, by simpa using hu, hx.keep hk⟩⟩)

theorem zero_rl {P : Program} {T : Nat → TI} {t : Nat} (hT : TOK P T) (ht : (T t).ok = true) : ∃ z, (∀ w, (zeroValue t).run P w = .ok z w) ∧ z.cells.size = (T t).size ∧ z.cells = (z.cells.toList.toArray) ∧ (T t).zero.length = (T t).size ∧
    (∀ (j : Nat) x, (T t).zero[j]? = some x → ∃ u, z.cells[j]? = some u ∧ u.oneCell' = true ∧ x = ofConst1 u) := by
  obtain ⟨i, d, hi, hu, hsz, hby, hz, hag⟩ := tok_info hT ht
  have key : ∃ z, i.zero = some z ∧ eqZs (T t).zero z.cells.toList = true ∧ z.cells.size = (T t).size := by
    unfold zeroOk at hz
    split at hz
    · rename_i cs hq
      simp only [Bool.and_eq_true, decide_eq_true_eq] at hz
      exact ⟨_, hq, hz.1.2, hz.2⟩
    · cases hz
    · rename_i z h1 h2 hq
      simp only [Bool.and_eq_true, decide_eq_true_eq] at hz
      have hc : z.cells = #[z] := by
        cases z <;> first | rfl | (exact absurd hq (h1 _)) | (exact absurd hq (h2 _)) | (exact absurd rfl (h1 _)) | (exact absurd rfl (h2 _))
      exact ⟨z, hq, by rw [hc]; exact hz.1.2, by rw [hc, hz.2]; rfl⟩
    · cases hz
  obtain ⟨z, hq, he, hs⟩ := key
  obtain ⟨h1, h2⟩ := eqZs_spec he
  refine ⟨z, fun w => by simp [zeroValue, typeInfo, hi, hq], hs, by simp, by rw [h1]; simp [hs], fun j x hj => ?_⟩
  rw [h1, List.getElem?_map, Option.map_eq_some_iff] at hj
  obtain ⟨u, hu, rfl⟩ := hj
  exact ⟨u, by simpa using hu, h2 u (List.mem_of_getElem? hu), rfl⟩

theorem op_alloc {f : Nat} {c : Orc} (hT : TOK P E.T) {t : Nat} (ho : o.op = .alloc t) (h : vop E f c o s M nx K = some r) : ∃ v ef, K v ef = some r ∧ Good E P o s M nx v ef := by
  unfold vop at h
  rw [ho] at h
  dsimp only at h
  cases hq : matCells nx (E.mat f) (o.dst.getD 0) (E.T t).zero with
  | mk cs ef =>
    rw [hq] at h
    obtain ⟨hok, hK⟩ := chk_some h
    obtain ⟨z, hz, hzs, _, hzl, hze⟩ := zero_rl hT hok
    have key := fun (w0 : World) (inn : Inn) (S : Nat → Prop) (w : World) (ρ : Loc) (m : Mem) => matCells_sound (E := E) (w0 := w0) (inn := inn) (S := S) (w := w) (E.mat f) _ nx _ cs ef z.cells ρ m hq
    refine ⟨_, _, hK, fun p hp hlt => ?_, fun w0 inn S ρ m a w hx hf hnew hm => ?_⟩
    · rcases List.mem_append.1 hp with hp | hp
      · have := matCells_ids _ _ _ _ _ _ hq p hp; omega
      · simp at hp; subst hp; simp at hlt
        omega
    · have hids := matCells_ids _ _ _ _ _ _ hq
      have hrl : RL S w ρ m (E.T t).zero z.cells := ⟨by rw [hzs, hzl], fun j x hj => let ⟨u, hu, h1, h2⟩ := hze j x hj; ⟨u, hu, h1, h2 ▸ ra_const h1⟩⟩
      obtain ⟨ρ1, h1, h2, h3⟩ := (key w0 inn S w ρ m).2 (fun p hp => hnew p (List.mem_append_left _ hp) (hids p hp).1) hm hrl
      have hg : upM m ef (nx + ef.length) = .gone := by
        rw [upM_out _ _ _ (fun p hp => by have := hids p hp; omega)]
        exact hnew _ (List.mem_append_right _ (List.mem_singleton.2 rfl)) (by simp)
      obtain ⟨h4, h5, h6⟩ := h1.new_var (t := t) hg h3
      dsimp only
      refine .of_value (u := .pointer (some ⟨w.heap.size, 0, none⟩)) (w' := w.alloc (.cells z.cells t)) ?_ ?_
      · unfold execOp; rw [ho]; dsimp only
        simp [Instr.alloc, hz, newVar, newRow]
      · unfold Out
        rw [upM_append]
        exact ⟨S, _, by simp only [upM, RS, RS1, RA, RP, if_true]; exact ⟨_, rfl, rfl⟩, h5, h2.trans h6, h4⟩
end
end Go.Vi
