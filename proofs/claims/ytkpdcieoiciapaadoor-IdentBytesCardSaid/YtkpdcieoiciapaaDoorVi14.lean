/- THE VALUE INTERPRETER: assignments, variables with a value, things built. No project text. -/
import Derived.Test.YtkpdcieoiciapaaDoorVi13
set_option linter.unusedVariables false
set_option linter.unusedSimpArgs false
namespace Go.Vi
open Go.RowKit
variable {R : Type}
section
variable {E : Env} {P : Program} {w0 : World} {inn : Inn} {S : Nat → Prop} {ρ : Loc} {m : Mem} {w : World} {o : Oper} {s : TS} {M : List Box} {nx : Nat} {v : Sv} {ef : Eff} {K : Sv → Eff → Option R} {r : R} {f : Nat} {c : Orc}
theorem o_assign_mat {x : Operand} (ho : o.op = .assign x) (h : matOne nx (E.mat f) o.dst (opnd s x) K = some r) : ∃ v ef, K v ef = some r ∧ Good E P o s M nx v ef := by
  have mx : x ∈ o.op.operands.toList := by rw [ho]; simp [Op.operands]
  have run : ∀ (a : Act) w, (execOp a.eval o).run P w = .ok (.value (a.eval x)) w := by
    intro a w; unfold execOp; rw [ho]; rfl
  unfold matOne at h
  split at h
  · rename_i t hp hd
    cases hq : matCells nx (E.mat f) t [.nils] with
    | mk cs ef =>
      rw [hq] at h
      have hids := matCells_ids _ _ _ _ _ _ hq
      refine ⟨_, _, h, fun p hp hlt => ?_, fun w0 inn S ρ m a w hx hf hnew hm => ?_⟩
      · have := hids p hp; omega
      · have e1 := hx x mx; rw [hp] at e1
        have e1' : CV S w .nils (a.eval x) := e1
        obtain ⟨ad, hv1⟩ : ∃ ad, a.eval x = .slice ad 0 0 := by
          generalize a.eval x = u at e1'
          cases e1'; exact ⟨_, rfl⟩
        obtain ⟨ρ1, h1, h2, h3⟩ := (matCells_sound (E := E) (w0 := w0) (inn := inn) (S := S) (w := w) (E.mat f) _ nx _ cs ef #[.slice ad 0 0] ρ m hq).2 (fun p hp => hnew p hp (hids p hp).1) hm
          ⟨rfl, fun j z hj => by
            cases j with
            | zero => simp only [List.getElem?_cons_zero, Option.some.injEq] at hj; subst hj; exact ⟨_, rfl, rfl, CV.nils (S := S) (w := w)⟩
            | succ j => simp at hj⟩
        refine .of_value (run a w) ⟨S, ρ1, ?_, Kp.refl _ _, h2, h1⟩
        rw [hv1]
        cases cs with
        | nil => exact trivial
        | cons z zs =>
          obtain ⟨u, hu, _, hr⟩ := h3.2 0 z rfl
          simp only [List.getElem?_toArray, List.getElem?_cons_zero, Option.some.injEq] at hu
          subst hu
          exact hr
  · exact ⟨_, _, h, .of_pure fun S w ρ m a w0 inn hx hf hm => ⟨_, run a w, hx x mx⟩⟩
theorem o_assign {x : Operand} (ho : o.op = .assign x) (h : vop E f c o s M nx K = some r) : ∃ v ef, K v ef = some r ∧ Good E P o s M nx v ef := by
  unfold vop at h; rw [ho] at h
  dsimp only at h
  split at h
  · split at h
    · refine cut_good h (fun a k hi he => by simp [foot, ho, he, svAts, ownId]) (fun S w ρ m a w0 inn hx hf hm => ⟨a.eval x, by unfold execOp; rw [ho]; rfl, hx x (by rw [ho]; simp [Op.operands])⟩)
    · exact o_assign_mat ho h
  · exact o_assign_mat ho h

theorem o_box {t : TypeId} {x : Operand} (ho : o.op = .box t x) (h : vop E f c o s M nx K = some r) : ∃ v ef, K v ef = some r ∧ Good E P o s M nx v ef := by
  unfold vop at h; rw [ho] at h
  dsimp only at h
  have mx : x ∈ o.op.operands.toList := by rw [ho]; simp [Op.operands]
  split at h
  · cases h
  · obtain ⟨hys, h⟩ := chk_some h
    cases hq : matCells nx (E.mat f) (o.dst.getD 0) (opnd s x).cells with
    | mk cs ef =>
      rw [hq] at h
      have hids := matCells_ids _ _ _ _ _ _ hq
      refine ⟨_, _, h, fun p hp hlt => ?_, fun w0 inn S ρ m a w hx hf hnew hm => ?_⟩
      · rcases List.mem_append.1 hp with hp | hp
        · have := hids p hp; omega
        · simp at hp; subst hp; simp at hlt
          omega
      · obtain ⟨hrl, _⟩ := rs_cells hys (hx x mx)
        obtain ⟨ρ1, h1, h2, h3⟩ := (matCells_sound (E := E) (w0 := w0) (inn := inn) (S := S) (w := w) (E.mat f) _ nx _ cs ef _ ρ m hq).2 (fun p hp => hnew p (List.mem_append_left _ hp) (hids p hp).1) hm hrl
        have hg : upM m ef (nx + ef.length) = .gone := by
          rw [upM_out _ _ _ (fun p hp => by have := hids p hp; omega)]
          exact hnew _ (List.mem_append_right _ (List.mem_singleton.2 rfl)) (by simp)
        obtain ⟨h4, h5, h6⟩ := h1.new_var (t := t) hg h3
        dsimp only
        refine .of_value (u := .pointer (some ⟨w.heap.size, 0, none⟩)) (w' := w.alloc (.cells (a.eval x).cells t)) ?_ ?_
        · unfold execOp; rw [ho]; dsimp only
          simp [Instr.box, newVar, newRow]
        · unfold Out
          rw [upM_append]
          exact ⟨S, _, by simp only [upM, RS, RS1, RA, RP, if_true]; exact ⟨_, rfl, rfl⟩, h5, h2.trans h6, h4⟩

/-! ### fill -/
theorem fold_setVs : ∀ (xs : List Value) (off k : Nat) (cs : Array Value), (xs.zipIdx k).foldl (fun cs (p : Value × Nat) => cs.setIfInBounds (off + p.2) p.1) cs = (setVs cs.toList (off + k) xs).toArray
  | [], off, k, cs => by simp [setVs]
  | x :: xs, off, k, cs => by
    rw [List.zipIdx_cons, List.foldl_cons, fold_setVs xs off (k + 1), setVs]
    simp [Array.toList_setIfInBounds, Nat.add_assoc]
theorem fill_cons {place : Nat → Option (Nat × Nat)} {cells : Array Value} {i off size : Nat} {v : Value} {rest : List (Nat × Value)} (hp : place i = some (off, size)) (hs : v.cells.size = size) (hf : off + size ≤ cells.size) :
    Instr.fill place cells ((i, v) :: rest) = Instr.fill place (setVs cells.toList off v.cells.toList).toArray rest := by
  rw [Instr.fill, hp]
  dsimp only
  rw [if_neg (by rw [hs]; simp; omega)]
  congr 1
  have := fold_setVs v.cells.toList off 0 cells
  rw [Nat.add_zero] at this
  rw [← this, ← Array.foldl_toList]
  simp

theorem fill_build {offs : List (Nat × Nat)} {place : Nat → Option (Nat × Nat)} {sz : Nat} {a : Act} : ∀ (ps : List (Nat × Operand)) (cs : List At) (vs : List Value), RL S w ρ m cs vs.toArray → cs.length = sz →
    (∀ p ∈ ps, RS S w ρ m (opnd s p.2) (a.eval p.2) ∧ okS (opnd s p.2) = true ∧ place p.1 = some ((offs.getD p.1 (0, 0)).1, (opnd s p.2).cells.length) ∧ (offs.getD p.1 (0, 0)).1 + (opnd s p.2).cells.length ≤ sz) →
    ∃ us : List Value, Instr.fill place vs.toArray (ps.map fun p => (p.1, a.eval p.2)) = some us.toArray ∧ RL S w ρ m (fillParts offs s ps cs) us.toArray
  | [], cs, vs, hl, hc, h => ⟨vs, rfl, hl⟩
  | (j, x) :: ps, cs, vs, hl, hc, h => by
    obtain ⟨h1, h2, h3, h4⟩ := h (j, x) (List.mem_cons_self ..)
    obtain ⟨hr, hsz⟩ := rs_cells h2 h1
    have hvl : vs.length = cs.length := by simpa using hl.1
    rw [List.map_cons, fill_cons h3 hsz (by simp only [List.size_toArray]; dsimp only at h4; omega), fillParts]
    refine fill_build ps _ _ ?_ ?_ fun p hp => h p (List.mem_cons_of_mem _ hp)
    · rw [setCells_eq]
      refine RL.setVs (by simpa using hl) (by simpa using hr) (by dsimp only at h4; omega)
    · rw [setCells_eq, setVs_length]; exact hc

theorem places_ok {T : Nat → TI} (hT : TOK P T) : ∀ {os : List (Nat × Nat)} {fs : List Field}, fieldsOk T os fs = true → fs.mapM (fun f => (P.info? f.type).map fun i => (f.offset, i.size)) = some (os.map fun p => (p.1, (T p.2).size))
  | [], [], _ => rfl
  | (o, t) :: os, f :: fs, h => by
    simp only [fieldsOk, Bool.and_eq_true, beq_iff_eq, bne_iff_ne, ne_eq] at h
    obtain ⟨i, d, hi, hu, hs, _⟩ := tok_info hT h.1.1.2
    have := places_ok hT h.2
    rw [List.mapM_cons, this, ← h.1.1.1.2, hi, h.1.1.1.1]
    simp [hs]
  | [], _ :: _, h => by simp [fieldsOk] at h
  | _ :: _, [], h => by simp [fieldsOk] at h
theorem o_build (hT : TOK P E.T) {t : TypeId} {ps : Array (Nat × Operand)} (ho : o.op = .build t ps) (h : vop E f c o s M nx K = some r) : ∃ v ef, K v ef = some r ∧ Good E P o s M nx v ef := by
  unfold vop at h; rw [ho] at h
  dsimp only at h
  split at h
  case h_2 hlen =>
    obtain ⟨hc, h⟩ := chk_some h
    simp only [Bool.and_eq_true, List.all_eq_true, Nat.blt_eq, beq_iff_eq, Nat.ble_eq] at hc
    obtain ⟨⟨⟨hok, hag⟩, hsz⟩, hps⟩ := hc
    have hl0 : (E.T t).len ≠ 0 := by intro e; rw [e] at hlen; cases hlen
    obtain ⟨hu, he⟩ := tok_array hT hok hag hl0
    obtain ⟨z, hz, hzs, _, hzl, hze⟩ := zero_rl hT hok
    refine ⟨_, _, h, .of_pure fun S w ρ m a w0 inn hx hf hm => ?_⟩
    have hrl : RL S w ρ m (E.T t).zero z.cells.toList.toArray := ⟨by simp [hzs, hzl], fun j x hj => let ⟨u, hu, h1, h2⟩ := hze j x hj; ⟨u, by simpa using hu, h1, h2 ▸ ra_const h1⟩⟩
    obtain ⟨us, h1, h2⟩ := fill_build (S := S) (w := w) (ρ := ρ) (m := m) (s := s) (a := a) (offs := arrOffs (E.T t).len (E.T (E.T t).elem).size (E.T t).elem) (place := fun i => some (i * (E.T (E.T t).elem).size, (E.T (E.T t).elem).size)) (sz := (E.T t).size) ps.toList (E.T t).zero z.cells.toList hrl hzl (fun p hp => by
      obtain ⟨⟨h1, h2⟩, h3⟩ := hps p hp
      have hg : (arrOffs (E.T t).len (E.T (E.T t).elem).size (E.T t).elem).getD p.1 (0, 0) = (p.1 * (E.T (E.T t).elem).size, (E.T t).elem) := by
        simp [arrOffs, List.getD_eq_getElem?_getD, List.getElem?_range h2]
      refine ⟨hx p.2 (by rw [ho]; simp only [Op.operands]; exact List.mem_map_of_mem hp), h1, ?_, ?_⟩
      · rw [hg, h3]
      · rw [hg, h3]
        refine Nat.le_trans ?_ hsz
        dsimp only
        rw [← Nat.succ_mul]
        exact Nat.mul_le_mul_right _ h2)
    refine ⟨.agg us.toArray, ?_, ⟨_, rfl, h2⟩⟩
    have hmap : (ps.map fun (i, x) => (i, a.eval x)).toList = ps.toList.map fun p => (p.1, a.eval p.2) := by simp
    obtain ⟨i, z2, hi, hz2, hs, _, _⟩ := zero_info hT hok
    obtain ⟨ie, ze, hie, _, hse, _, _⟩ := zero_info hT he
    have hzz : z2 = z := by
      have := hz default
      unfold zeroValue typeInfo at this
      simp only [Sem.run_bind, run_program, hi, Sem.run_pure, Result.andThen_ok, hz2, Result.ok.injEq, and_true] at this
      exact this
    subst hzz
    have hb : P.built t (ps.map fun (i, x) => (i, a.eval x)).toList = some us.toArray := by
      unfold Program.built
      rw [hi, hu]
      dsimp only
      rw [hz2, hie]
      dsimp only
      rw [hmap, hse]
      have hz3 : z2.cells.toList.toArray = z2.cells := by simp
      rw [hz3] at h1
      exact h1
    unfold execOp; rw [ho]; dsimp only
    rw [Sem.run_bind, run_build w t _ _ hb]
    rfl
  rename_i hlen
  obtain ⟨hc, h⟩ := chk_some h
  simp only [Bool.and_eq_true, decide_eq_true_eq, List.all_eq_true, Nat.blt_eq, beq_iff_eq, Nat.ble_eq] at hc
  obtain ⟨⟨⟨hok, hag⟩, hl⟩, hps⟩ := hc
  obtain ⟨fs, hu, hfo⟩ := tok_struct hT hok hag hl
  obtain ⟨hfl, hff⟩ := fieldsOk_get hfo
  obtain ⟨z, hz, hzs, _, hzl, hze⟩ := zero_rl hT hok
  refine ⟨_, _, h, .of_pure fun S w ρ m a w0 inn hx hf hm => ?_⟩
  have hrl : RL S w ρ m (E.T t).zero z.cells.toList.toArray := ⟨by simp [hzs, hzl], fun j x hj => let ⟨u, hu, h1, h2⟩ := hze j x hj; ⟨u, by simpa using hu, h1, h2 ▸ ra_const h1⟩⟩
  obtain ⟨us, h1, h2⟩ := fill_build (S := S) (w := w) (ρ := ρ) (m := m) (s := s) (a := a) (offs := (E.T t).offs) (place := ((((E.T t).offs.map fun p => (p.1, (E.T p.2).size)).toArray)[·]?)) (sz := (E.T t).size) ps.toList (E.T t).zero z.cells.toList hrl hzl (fun p hp => by
    obtain ⟨⟨⟨h1, h2⟩, h3⟩, h4⟩ := hps p hp
    refine ⟨hx p.2 (by rw [ho]; simp only [Op.operands]; exact List.mem_map_of_mem hp), h1, ?_, h4⟩
    simp only [List.getElem?_toArray, List.getElem?_map, List.getElem?_eq_getElem h2, Option.map_some, List.getD_eq_getElem?_getD, Option.getD_some] at h3 ⊢
    rw [h3])
  refine ⟨.agg us.toArray, ?_, ⟨_, rfl, h2⟩⟩
  have hmap : (ps.map fun (i, x) => (i, a.eval x)).toList = ps.toList.map fun p => (p.1, a.eval p.2) := by simp
  obtain ⟨i, d, hi, hd, _⟩ := tok_info hT hok
  have hzi : i.zero = some z := by
    have := hz w
    unfold zeroValue typeInfo at this
    simp only [Sem.run_bind, run_program, hi, Sem.run_pure, Result.andThen_ok] at this
    split at this
    · rename_i z' hz'
      simp only [Sem.run_pure, Result.ok.injEq, and_true] at this
      rw [← this]; exact hz'
    · simp [Sem.run, unsupported] at this
  have hb : P.built t (ps.map fun (i, x) => (i, a.eval x)).toList = some us.toArray := by
    unfold Program.built
    rw [hi, hu]
    dsimp only
    rw [hzi, places_ok hT hfo]
    dsimp only
    rw [hmap]
    have hz2 : z.cells.toList.toArray = z.cells := by simp
    rw [hz2] at h1
    exact h1
  unfold execOp; rw [ho]; dsimp only
  rw [Sem.run_bind, run_build w t _ _ hb]
  rfl

/-- A row's cells against its elements. -/
def FR (S : Nat → Prop) (w : World) (ρ : Loc) (m : Mem) (sz : Nat) (es : List (List At)) (us : List Value) : Prop :=
  us.length = es.length * sz ∧ (∀ (i : Nat) e, es[i]? = some e → e.length = sz) ∧ ∀ (i : Nat) e (j : Nat) x, es[i]? = some e → e[j]? = some x → ∃ u, us[i * sz + j]? = some u ∧ u.oneCell' = true ∧ RA S w ρ m x u
theorem fill_row {sz n : Nat} {a : Act} : ∀ (ps : List (Nat × Operand)) (es : List (List At)) (vs : List Value), FR S w ρ m sz es vs → es.length = n →
    (∀ p ∈ ps, RS S w ρ m (opnd s p.2) (a.eval p.2) ∧ okS (opnd s p.2) = true ∧ p.1 < n ∧ (opnd s p.2).cells.length = sz) →
    ∃ us : List Value, Instr.fill (fun i => some (i * sz, sz)) vs.toArray (ps.map fun p => (p.1, a.eval p.2)) = some us.toArray ∧ FR S w ρ m sz (fillRow sz s ps es) us ∧ (fillRow sz s ps es).length = n
  | [], es, vs, hl, hn, h => ⟨vs, rfl, hl, hn⟩
  | (i, x) :: ps, es, vs, hl, hn, h => by
    obtain ⟨h1, h2, h3, h4⟩ := h (i, x) (List.mem_cons_self ..)
    dsimp only at h1 h2 h3 h4
    obtain ⟨hr, hsz⟩ := rs_cells h2 h1
    have hfit : i * sz + sz ≤ es.length * sz := by rw [← Nat.succ_mul]; exact Nat.mul_le_mul_right _ (by omega)
    have hvl := hl.1
    rw [List.map_cons, fill_cons (off := i * sz) (size := sz) rfl (by rw [hsz, h4]) (by simp only [List.size_toArray]; omega), fillRow]
    have hcl : (a.eval x).cells.toList.length = sz := by simp [hsz, h4]
    have hcl2 : (a.eval (i, x).2).cells.toList.length = sz := hcl
    refine fill_row ps _ _ ⟨by rw [setVs_length, List.length_set]; exact hvl, fun i' e' he' => ?_, fun i' e' j z he' hz => ?_⟩ (by simpa using hn) fun p hp => h p (List.mem_cons_of_mem _ hp)
    · rcases set_get he' with ⟨_, rfl⟩ | ⟨_, he'⟩
      · exact h4
      · exact hl.2.1 _ _ he'
    · rw [setVs_get _ _ _ _ (by simp only []; omega)]
      rcases set_get he' with ⟨rfl, rfl⟩ | ⟨hne, he'⟩
      · have hj : j < sz := by rw [← h4]; exact (List.getElem?_eq_some_iff.1 hz).1
        obtain ⟨u, hu, hh⟩ := hr.2 j z hz
        refine ⟨u, ?_, hh⟩
        rw [if_pos ⟨by omega, by omega⟩, Nat.add_sub_cancel_left]
        simpa using hu
      · have hj : j < sz := by rw [← hl.2.1 _ _ he']; exact (List.getElem?_eq_some_iff.1 hz).1
        rw [if_neg ?_]
        · exact hl.2.2 _ _ _ _ he' hz
        · rcases Nat.lt_or_ge i i' with hlt | hge
          · have : i * sz + sz ≤ i' * sz := by rw [← Nat.succ_mul]; exact Nat.mul_le_mul_right _ hlt
            omega
          · have : i' * sz + sz ≤ i * sz := by rw [← Nat.succ_mul]; exact Nat.mul_le_mul_right _ (by omega)
            omega
theorem o_buildSlice (hT : TOK P E.T) {t : TypeId} {n : Nat} {ps : Array (Nat × Operand)} (ho : o.op = .buildSlice t n ps) (h : vop E f c o s M nx K = some r) : ∃ v ef, K v ef = some r ∧ Good E P o s M nx v ef := by
  unfold vop at h; rw [ho] at h
  dsimp only at h
  obtain ⟨hc, h⟩ := chk_some h
  simp only [Bool.and_eq_true, decide_eq_true_eq, beq_iff_eq, Nat.ble_eq] at hc
  obtain ⟨⟨⟨⟨⟨hok, hsl⟩, hst⟩, hsz⟩, h24⟩, hps⟩ := hc
  simp only [List.all_eq_true, Bool.and_eq_true, Nat.blt_eq, beq_iff_eq] at hps
  obtain ⟨hu, he⟩ := tok_slice hT hok hsl
  obtain ⟨z, hz, hzs, _, hzl, hze⟩ := zero_rl hT he
  refine ⟨_, _, h, fun p hp hlt => ?_, fun w0 inn S ρ m a w hx hf hnew hm => ?_⟩
  · simp only [List.mem_singleton] at hp; subst hp; exact absurd hlt (Nat.lt_irrefl _)
  · have hfr : FR S w ρ m (E.T (E.T t).elem).size (List.replicate n (E.T (E.T t).elem).zero) ((List.range (n * (E.T (E.T t).elem).size)).map fun p => z.cells[p % (E.T (E.T t).elem).size]!) := by
      refine ⟨by simp, fun i e he => ?_, fun i e j x he hx => ?_⟩
      · rw [List.getElem?_replicate] at he
        split at he
        · obtain rfl := Option.some.inj he
          exact hzl
        · cases he
      · rw [List.getElem?_replicate] at he
        split at he
        · rename_i hi
          obtain rfl := Option.some.inj he
          obtain ⟨u, hu, h1, h2⟩ := hze j x hx
          have hj : j < (E.T (E.T t).elem).size := by rw [← hzl]; exact (List.getElem?_eq_some_iff.1 hx).1
          have hg := get_flat n (E.T (E.T t).elem).size (fun _ q => z.cells[q]!) i j hi hj
          refine ⟨u, ?_, h1, h2 ▸ ra_const h1⟩
          rw [hg]
          simp [getElem!_def, hu]
        · cases he
    obtain ⟨us, h1, h2, h3⟩ := fill_row (S := S) (w := w) (ρ := ρ) (m := m) (s := s) (a := a) (n := n) ps.toList _ _ hfr (by simp) (fun p hp => by
      obtain ⟨⟨q1, q2⟩, q3⟩ := hps p hp
      exact ⟨hx p.2 (by rw [ho]; simp only [Op.operands]; exact List.mem_map_of_mem hp), q1, q2, q3⟩)
    have hmx : n ≤ maxLen := by
      have : n ≤ n * (E.T (E.T t).elem).size := Nat.le_mul_of_pos_right _ hsz
      simp only [maxLen]; omega
    have hgone := hnew (nx, _) (List.mem_singleton.2 rfl) (Nat.le_refl _)
    obtain ⟨h4, h5, h6⟩ := hm.new_row (i := nx) (e := (E.T t).elem) (sz := (E.T (E.T t).elem).size) (n := n) (fl := (E.T (E.T t).elem).flat) (cs := us.toArray) hgone hsz h3.symm hmx (by simp only [List.size_toArray]; rw [h2.1, h3]) h2.2.1
      (fun ht i e he x hxe => storable_isV (by have := allStor_spec hst (List.mem_of_getElem? he) hxe; rw [ht] at this; exact this))
      (fun i e j x he hxe => by
        obtain ⟨u, hu, _, hr⟩ := h2.2.2 i e j x he hxe
        refine ⟨u, by simpa using hu, ?_⟩
        have hs2 := allStor_spec hst (List.mem_of_getElem? he) (List.mem_of_getElem? hxe)
        cases x <;> first | exact hr | simp [storable] at hs2)
    refine .of_value (u := .slice (some ⟨w.heap.size, 0, none⟩) n n) (w' := w.alloc (.cells us.toArray (E.T t).elem)) ?_ ⟨S, _, ?_, h5, h6, h4⟩
    · have hmap : (ps.map fun (i, x) => (i, a.eval x)).toList = ps.toList.map fun p => (p.1, a.eval p.2) := by simp
      have hrng : (Array.range (n * (E.T (E.T t).elem).size)).map (fun p => z.cells[p % z.cells.size]!) = ((List.range (n * (E.T (E.T t).elem).size)).map fun p => z.cells[p % (E.T (E.T t).elem).size]!).toArray := by
        rw [hzs]; apply Array.ext'; simp
      unfold execOp; rw [ho]; dsimp only
      by_cases h0 : n * (E.T (E.T t).elem).size = 0
      · have hn0 : n = 0 := by
          rcases Nat.mul_eq_zero.1 h0 with h | h
          · exact h
          · omega
        subst hn0
        have hps0 : ps.toList = [] := by
          cases hq : ps.toList with
          | nil => rfl
          | cons p ps' =>
            have := (hps p (by rw [hq]; exact List.mem_cons_self ..)).1.2
            omega
        rw [hps0] at h1
        simp only [Nat.zero_mul, List.range_zero, List.map_nil, Instr.fill, Option.some.injEq] at h1
        rw [← h1]
        simp [Instr.buildSlice, run_underlying hu, size_run hT he, hmap, hps0, Instr.fill, newRow]
        rw [show (Array.map (fun (_ : Nat) => (default : Value)) (Array.range 0)) = #[] from by apply Array.ext'; rw [Array.toList_map]; simp [Array.toList_range]]
      · have h24' : ¬ (n * (E.T (E.T t).elem).size > 2 ^ 24) := by omega
        simp only [Instr.buildSlice, Sem.run_bind, run_underlying hu, Result.andThen_ok, size_run hT he, if_neg h24', if_neg h0, hz, Sem.run_pure, hmap, hrng, h1]
        simp [newRow]
    · simp only [RS, RS1, RA, upM, if_true]
      exact ⟨Nat.le_refl _, rfl, fun _ => trivial⟩
theorem o_makeSlice (hT : TOK P E.T) {t : TypeId} {x y : Operand} (ho : o.op = .makeSlice t x y) (h : vop E f c o s M nx K = some r) : ∃ v ef, K v ef = some r ∧ Good E P o s M nx v ef := by
  unfold vop at h; rw [ho] at h
  dsimp only at h
  have mx : x ∈ o.op.operands.toList := by rw [ho]; simp [Op.operands]
  have my : y ∈ o.op.operands.toList := by rw [ho]; simp [Op.operands]
  split at h
  · rename_i kl l kc c' hp hq
    obtain ⟨hc, h⟩ := chk_some h
    obtain ⟨h0, h⟩ := chk_some h
    obtain ⟨h1, h⟩ := chk_some h
    obtain ⟨h2, hK⟩ := chk_some h
    simp only [Bool.and_eq_true, decide_eq_true_eq] at hc h0 h1 h2
    obtain ⟨⟨⟨⟨hok, hsl⟩, hs0⟩, hb0⟩, hst⟩ := hc
    obtain ⟨hu, he⟩ := tok_slice hT hok hsl
    obtain ⟨z, hz, hzs, _, hzl, hze⟩ := zero_rl hT he
    obtain ⟨i, z2, hi, hz2, hs, hbb, hzs2⟩ := zero_info hT he
    have hzz : z2 = z := by
      have := hz default
      unfold zeroValue typeInfo at this
      simp only [Sem.run_bind, run_program, hi, Sem.run_pure, Result.andThen_ok, hz2, Result.ok.injEq, and_true] at this
      exact this
    subst hzz
    obtain ⟨n, rfl⟩ := Int.eq_ofNat_of_zero_le h0
    obtain ⟨cc, rfl⟩ := Int.eq_ofNat_of_zero_le (Int.le_trans h0 h1)
    have h1 : n ≤ cc := by omega
    have h2 : cc * (E.T (E.T t).elem).bytes ≤ 140737488355328 := by
      have : ((cc * (E.T (E.T t).elem).bytes : Nat) : Int) ≤ 140737488355328 := by rw [Int.natCast_mul]; exact h2
      omega
    have hmx : cc ≤ maxLen := by
      have : cc ≤ cc * (E.T (E.T t).elem).bytes := Nat.le_mul_of_pos_right _ hb0
      simp only [maxLen]; omega
    refine ⟨_, _, hK, fun p hp hlt => ?_, fun w0 inn S ρ m a w hx hf hnew hm => ?_⟩
    · simp only [List.mem_singleton] at hp; subst hp; exact absurd hlt (Nat.lt_irrefl _)
    · have e1 := hx x mx; rw [hp] at e1
      have e2 := hx y my; rw [hq] at e2
      have hgone := hnew (nx, _) (List.mem_singleton.2 rfl) (Nat.le_refl _)
      have hrun := run_make (P := P) w t _ i z2 hu hi hz2 kl kc (n : Int) (cc : Int) (by omega) (by omega) (by rw [hbb, Int.mul_comm, ← Int.natCast_mul]; omega) (by simp only [maxLen] at hmx; omega)
      simp only [Int.toNat_natCast] at hrun
      have hml : (madeCells z2.cells (cc * i.size)).toList = (List.range (cc * (E.T (E.T t).elem).size)).map fun p => z2.cells[p % (E.T (E.T t).elem).size]! := by
        simp [madeCells, hzs, hs]
      have hrep : ∀ (i : Nat) e', (List.replicate n (E.T (E.T t).elem).zero)[i]? = some e' → i < n ∧ e' = (E.T (E.T t).elem).zero := by
        intro i e' h
        rw [List.getElem?_replicate] at h
        split at h
        · exact ⟨by assumption, (Option.some.inj h).symm⟩
        · cases h
      have hcell : ∀ p, p < cc * (E.T (E.T t).elem).size → ∃ u, (madeCells z2.cells (cc * i.size)).toList[p]? = some u ∧ u.oneCell' = true ∧ (E.T (E.T t).elem).zero[p % (E.T (E.T t).elem).size]? = some (ofConst1 u) := by
        intro p hp
        have hlt : p % (E.T (E.T t).elem).size < (E.T (E.T t).elem).zero.length := by rw [hzl]; exact Nat.mod_lt _ hs0
        obtain ⟨u, hu, h1, h2⟩ := hze _ _ (List.getElem?_eq_getElem hlt)
        refine ⟨u, ?_, h1, by rw [List.getElem?_eq_getElem hlt, h2]⟩
        rw [hml, List.getElem?_map, List.getElem?_range hp, Option.map_some, getElem!_def, hu]
      have hgrow : w.grownBy (w.alloc (.cells (madeCells z2.cells (cc * i.size)) (E.T t).elem)) none := World.grownBy_alloc w _ none
      obtain ⟨h4, h5, h6⟩ := hm.step (i := nx) (b := .row (E.T t).elem 0 false (E.T (E.T t).elem).flat (E.T (E.T t).elem).size (List.replicate n (E.T (E.T t).elem).zero)) (loc := .slice (some ⟨w.heap.size, 0, none⟩) n cc) (row := none)
        (w' := w.alloc (.cells (madeCells z2.cells (cc * i.size)) (E.T t).elem)) hgrow (fun g h => by cases h) (fun h => absurd hgone h) rfl (by rw [hgone]; trivial)
        (fun g h => by
          obtain ⟨rfl, _⟩ := blk_slice h
          exact .inr ⟨Nat.le_refl _, by simp⟩)
        (fun hk hle => ⟨hs0, fun i e' he => by rw [(hrep i e' he).2, hzl], fun hfl i e' he x hx => by
            rw [(hrep i e' he).2] at hx
            have := List.all_eq_true.1 hst x hx
            rw [hfl] at this
            exact storable_isV this, (madeCells z2.cells (cc * i.size)).toList.take (n * (E.T (E.T t).elem).size), by
              dsimp only
              rw [if_pos rfl, List.length_replicate]
              have hsz : (madeCells z2.cells (cc * i.size)).size = cc * (E.T (E.T t).elem).size := by rw [size_madeCells, hs]
              have hle2 : n * (E.T (E.T t).elem).size ≤ cc * (E.T (E.T t).elem).size := Nat.mul_le_mul_right _ h1
              refine ⟨by rw [List.length_take, Array.length_toList, hsz]; omega, ?_⟩
              rcases Nat.eq_zero_or_pos cc with h0 | h0
              · subst h0
                obtain rfl : n = 0 := by omega
                exact .inl ⟨_, rfl, rfl⟩
              · exact .inr ⟨_, cc, _, rfl, h0, heap_alloc_new w _, h1, hmx, hsz, rfl⟩, fun i' e' j x he hx => by
              obtain ⟨hi', rfl⟩ := hrep i' e' he
              have hj : j < (E.T (E.T t).elem).size := by rw [← hzl]; exact (List.getElem?_eq_some_iff.1 hx).1
              have hlt : i' * (E.T (E.T t).elem).size + j < n * (E.T (E.T t).elem).size := by
                have : i' * (E.T (E.T t).elem).size + (E.T (E.T t).elem).size ≤ n * (E.T (E.T t).elem).size := by rw [← Nat.succ_mul]; exact Nat.mul_le_mul_right _ hi'
                omega
              have hle2 : n * (E.T (E.T t).elem).size ≤ cc * (E.T (E.T t).elem).size := Nat.mul_le_mul_right _ h1
              obtain ⟨u, hu, h1u, h2u⟩ := hcell (i' * (E.T (E.T t).elem).size + j) (by omega)
              refine ⟨u, by rw [List.getElem?_take_of_lt hlt]; exact hu, ?_⟩
              have e4 : (i' * (E.T (E.T t).elem).size + j) % (E.T (E.T t).elem).size = j := by rw [Nat.mul_comm, Nat.mul_add_mod, Nat.mod_eq_of_lt hj]
              rw [e4, hx] at h2u
              obtain rfl := Option.some.inj h2u
              have h3 := List.all_eq_true.1 hst _ (List.mem_of_getElem? hx)
              rcases cv_const (S := S) (w := w.alloc (.cells (madeCells z2.cells (cc * i.size)) (E.T t).elem)) h1u with h4 | h4
              · rw [h4] at h3; simp [storable] at h3
              · exact h4⟩)
      refine .of_value (u := .slice (some ⟨w.heap.size, 0, none⟩) n cc) (w' := w.alloc (.cells (madeCells z2.cells (cc * i.size)) (E.T t).elem)) ?_ ⟨S, _, ?_, h5, h6, h4⟩
      · unfold execOp; rw [ho]; dsimp only
        rw [e1.one_v.1, e2.one_v.1, Sem.run_bind, hrun]; rfl
      · simp only [RS, RS1, RA, upM, if_true]
        exact ⟨Nat.le_refl _, rfl, fun _ => trivial⟩
  · cases h
end
end Go.Vi
