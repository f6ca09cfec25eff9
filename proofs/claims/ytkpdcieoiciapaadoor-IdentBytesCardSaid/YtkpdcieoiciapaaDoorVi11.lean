/- THE VALUE INTERPRETER: stores, things built. No project text. -/
import Derived.Test.YtkpdcieoiciapaaDoorVi10
set_option linter.unusedVariables false
set_option linter.unusedSimpArgs false
namespace Go.Vi
open Go.RowKit
variable {R : Type}
def setVs {α : Type} : List α → Nat → List α → List α
  | xs, _, [] => xs
  | xs, o, u :: us => setVs (xs.set o u) (o + 1) us
theorem setCells_eq : ∀ (ys cs : List At) (off : Nat), setCells cs off ys = setVs cs off ys
  | [], cs, off => by simp [setCells, setVs]
  | y :: ys, cs, off => by rw [setCells, setVs, setCells_eq ys]
theorem setVs_length {α : Type} : ∀ (us xs : List α) (o : Nat), (setVs xs o us).length = xs.length
  | [], xs, o => rfl
  | u :: us, xs, o => by rw [setVs, setVs_length us]; simp
theorem setVs_get {α : Type} : ∀ (us xs : List α) (o p : Nat), o + us.length ≤ xs.length → (setVs xs o us)[p]? = if o ≤ p ∧ p < o + us.length then us[p - o]? else xs[p]?
  | [], xs, o, p, h => by rw [setVs, if_neg (by simp)]
  | u :: us, xs, o, p, h => by
    simp only [List.length_cons] at h
    rw [setVs, setVs_get us _ (o + 1) p (by simp; omega)]
    simp only [List.length_cons]
    by_cases h1 : o = p
    · subst h1
      rw [if_neg (by omega), if_pos (by omega), List.getElem?_set, if_pos rfl, if_pos (by omega)]
      simp
    · by_cases h2 : o + 1 ≤ p ∧ p < o + 1 + us.length
      · rw [if_pos h2, if_pos (by omega), show p - o = (p - (o + 1)) + 1 by omega]; simp
      · rw [if_neg h2, if_neg (by omega), List.getElem?_set_ne h1]

theorem set_get {α : Type} {es : List α} {i i' : Nat} {y e : α} (h : (es.set i y)[i']? = some e) : (i = i' ∧ e = y) ∨ (i ≠ i' ∧ es[i']? = some e) := by
  by_cases hi : i = i'
  · subst hi
    rw [List.getElem?_set_self'] at h
    cases hq : es[i]? with
    | none => rw [hq] at h; cases h
    | some z => rw [hq] at h; exact .inl ⟨rfl, (Option.some.inj h).symm⟩
  · rw [List.getElem?_set_ne hi] at h
    exact .inr ⟨hi, h⟩
section
variable {E : Env} {P : Program} {w0 : World} {inn : Inn} {S : Nat → Prop} {ρ : Loc} {m : Mem} {w : World} {o : Oper} {s : TS} {M : List Box} {nx : Nat} {v : Sv} {ef : Eff} {K : Sv → Eff → Option R} {r : R} {f : Nat} {c : Orc}
theorem RA.oneCell {x : At} {u : Value} (hx : x ≠ .bad) (hx2 : ∀ e fl sz es, x ≠ .fresh e fl sz es) (h : RA S w ρ m x u) : u.oneCell' = true := by
  cases x with
  | own a k =>
    simp only [RA] at h
    split at h
    · exact h.2.1
    · exact h.elim
  | part a k lo hi =>
    simp only [RA] at h
    split at h
    · exact h.2.1
    · exact h.elim
  | ptr a k i off => obtain ⟨ad, rfl⟩ := RP.ptr (show RP ρ m a k i off u from h); rfl
  | fn g cs => obtain ⟨vs, rfl, _⟩ := h; rfl
  | fresh e fl sz es => exact absurd rfl (hx2 e fl sz es)
  | bad => exact absurd rfl hx
  | _ => exact CV.one h
theorem rs_cells {y : Sv} {u : Value} (hok : okS y = true) (h : RS S w ρ m y u) : RL S w ρ m y.cells u.cells ∧ u.cells.size = y.cells.length := by
  cases y with
  | one x =>
    have hx : x ≠ .bad := by intro e; subst e; simp [okS] at hok
    have hx2 : ∀ e fl sz es, x ≠ .fresh e fl sz es := by intro e fl sz es e; subst e; simp [okS] at hok
    have h1 := RA.oneCell hx hx2 h
    have hc : u.cells = #[u] := by cases u <;> first | rfl | simp [Value.oneCell'] at h1
    rw [hc]
    refine ⟨⟨rfl, fun j z hj => ?_⟩, rfl⟩
    cases j with
    | zero => simp only [Sv.cells, List.getElem?_cons_zero, Option.some.injEq] at hj; subst hj; exact ⟨u, rfl, h1, h⟩
    | succ j => simp [Sv.cells] at hj
  | agg cs =>
    obtain ⟨vs, rfl, h⟩ := h
    exact ⟨h, h.1⟩
  | tup vs => simp [okS] at hok
theorem RL.setVs {cs ys : List At} {vs us : List Value} {off : Nat} (h : RL S w ρ m cs vs.toArray) (hy : RL S w ρ m ys us.toArray) (hl : off + ys.length ≤ cs.length) : RL S w ρ m (setVs cs off ys) (setVs vs off us).toArray := by
  have e1 := h.1
  have e2 := hy.1
  simp only [List.size_toArray] at e1 e2
  refine ⟨by simp [setVs_length, e1], fun j x hj => ?_⟩
  rw [setVs_get _ _ _ _ hl] at hj
  simp only [List.getElem?_toArray]
  rw [setVs_get _ _ _ _ (by omega), e2]
  split at hj
  · rename_i hc
    rw [if_pos hc]
    simpa using hy.2 _ x hj
  · rename_i hc
    rw [if_neg hc]
    simpa using h.2 _ x hj

theorem heap_setCells (g : Nat) (t : TypeId) : ∀ (us : List Value) (o : Nat) (w : World) (cur : List Value), w.heap[g]? = some (.cells cur.toArray t (0, 0)) →
    (w.setCells g o us).heap[g]? = some (.cells (setVs cur o us).toArray t (0, 0)) ∧ w.grownBy (w.setCells g o us) (some g)
  | [], o, w, cur, h => ⟨h, rfl, rfl, rfl, Nat.le_refl _, fun _ _ _ => rfl⟩
  | u :: us, o, w, cur, h => by
    have h1 := heap_setCell_same w g o _ t u h
    have h2 : (w.setCell ⟨g, o, none⟩ u).heap[g]? = some (.cells (cur.set o u).toArray t (0, 0)) := by rw [h1]; simp
    obtain ⟨h3, h4⟩ := heap_setCells g t us (o + 1) _ _ h2
    refine ⟨h3, h4.os.trans rfl, h4.tape.trans rfl, h4.output.trans rfl, Nat.le_trans (by simp) h4.size, fun k hk hne => ?_⟩
    rw [World.setCells, h4.block k (by simpa using hk) hne]
    exact heap_setCell_other w ⟨g, o, none⟩ k u (fun e => hne (by simp [e]))
theorem storeVar_agg (t : TypeId) (a : Addr) (v : Value) : storeVar t a v = storeVar t a (.agg v.cells) := rfl
theorem store_run (hT : TOK P E.T) {t : Nat} (ht : (E.T t).ok = true) {g off : Nat} {tt : TypeId} {cur us : List Value} (hg : w.heap[g]? = some (.cells cur.toArray tt (0, 0))) {v : Value} (hv : v.cells = us.toArray)
    (hsz : us.length = (E.T t).size) (hfit : off + us.length ≤ cur.length) (h1 : ∀ u ∈ us, u.oneCell' = true) :
    (Instr.storeAt t (.pointer (some ⟨g, off, none⟩)) v).run P w = .ok () (w.setCells g off us) := by
  obtain ⟨i, d, hi, hu, hs, _⟩ := tok_info hT ht
  have := run_storeVar_mid (P := P) w g off t us.toArray (fun j hj => by
    rw [cell_of_row w g _ _ tt (0, 0) hg, frozen_of_row w g _ _ tt hg]
    simp only [List.size_toArray] at hj
    simp [List.getElem?_eq_getElem (show off + j < cur.length by omega)]) (by rw [hi]; simp [hs, hsz]) (all_oneCell_toArray h1)
  simp only [Instr.storeAt, Instr.sureAddr, Sem.run_bind, Sem.run_pure, Result.andThen_ok]
  rw [storeVar_agg, hv]
  exact this

theorem RL.one {cs : List At} {vs : Array Value} (h : RL S w ρ m cs vs) : ∀ u ∈ vs.toList, u.oneCell' = true := by
  intro u hu
  obtain ⟨j, hj, rfl⟩ := List.mem_iff_getElem.1 hu
  have hj' : j < cs.length := by rw [← h.1]; simpa using hj
  obtain ⟨u, hu, h1, _⟩ := h.2 j _ (List.getElem?_eq_getElem hj')
  have : vs.toList[j] = u := by
    have e : vs.toList[j]? = some u := by simpa using hu
    rw [List.getElem?_eq_getElem hj] at e
    exact Option.some.inj e
  rw [this]; exact h1
theorem o_store (hT : TOK P E.T) {t : TypeId} {x y : Operand} (ho : o.op = .store t x y) (h : vop E f c o s M nx K = some r) (hnx : nx = M.length) : ∃ v ef, K v ef = some r ∧ Good E P o s M nx v ef := by
  unfold vop at h; rw [ho] at h
  dsimp only at h
  have mx : x ∈ o.op.operands.toList := by rw [ho]; simp [Op.operands]
  have my : y ∈ o.op.operands.toList := by rw [ho]; simp [Op.operands]
  have run : ∀ (a : Act) w ad u w', a.eval x = .pointer (some ad) → a.eval y = u → (Instr.storeAt t (.pointer (some ad)) u).run P w = .ok () w' → (execOp a.eval o).run P w = .ok .skip w' := by
    intro a w ad u w' hx hu hr
    unfold execOp; rw [ho]; dsimp only
    rw [hx, hu, Sem.run_bind, hr]; rfl
  split at h
  · rename_i b k i off hp
    have hfo : b ∈ foot s M o := by simp [foot, ho, hp, svAts, ptrIds1]
    obtain ⟨hc, h⟩ := chk_some h
    simp only [Bool.and_eq_true, beq_iff_eq] at hc
    obtain ⟨⟨hok, hys⟩, hyl⟩ := hc
    split at h
    · rename_i cs hM
      obtain ⟨hle, h⟩ := chk_some h
      have hle := Nat.le_of_ble_eq_true hle
      refine ⟨_, _, h, fun p hp' hlt => ?_, fun w0 inn S ρ m a w hx hf hnew hm => ?_⟩
      · simp only [List.mem_singleton] at hp'; subst hp'; exact hfo
      · have hma : m b = .var cs := (hf b hfo).trans hM
        have e1 := hx x mx; rw [hp] at e1
        have e2 : RP ρ m b k i off (a.eval x) := e1
        simp only [RP, hma] at e2
        obtain ⟨g, hg, hv⟩ := e2
        obtain ⟨hyc, hyl2⟩ := rs_cells hys (hx y my)
        have hb := hm.box b
        rw [hma] at hb
        obtain ⟨g', vs, tt, h1, h2, h3⟩ := hb
        rw [hg] at h1
        simp only [Value.pointer.injEq, Option.some.injEq, Addr.mk.injEq, and_true, true_and] at h1
        subst h1
        have h2' : w.heap[g]? = some (.cells vs.toList.toArray tt (0, 0)) := by simpa using h2
        have hvl : vs.toList.length = cs.length := by simpa using h3.1
        have hul : (a.eval y).cells.toList.length = (opnd s y).cells.length := by simpa using hyl2
        have hst := store_run (w := w) hT hok h2' (v := a.eval y) (us := (a.eval y).cells.toList) (off := off) (by simp) (by rw [hul, hyl]) (by omega) hyc.one
        obtain ⟨h4, h5⟩ := heap_setCells g tt (a.eval y).cells.toList off w _ h2'
        have hst3 := hm.step (i := b) (b := .var (setCells cs off (opnd s y).cells)) (loc := ρ b) (row := some g) h5 (fun g' e => by
            simp only [Option.some.injEq] at e; subst e
            exact ⟨by rw [hma]; simp, by rw [hg]; rfl⟩) (fun _ => by rw [hma]; rfl) rfl (by rw [hma]; exact ⟨_, rfl, rfl⟩) (fun g' e => .inl ⟨e, by rw [hma]; simp⟩)
            (fun hk hl => ⟨g, _, tt, by simp [hg], h4, by
              have q := RL.setVs (off := off) (vs := vs.toList) (us := (a.eval y).cells.toList) (h3.keep hk hl) (hyc.keep hk hl) (by omega)
              rw [← setCells_eq] at q
              exact q⟩)
        exact .of_skip (run a w _ _ _ hv rfl hst) ⟨S, _, trivial, hst3.2.1, hst3.2.2, hst3.1⟩
    · rename_i e k' fz fl sz es hM
      obtain ⟨hc, h⟩ := chk_some h
      obtain ⟨hi, h⟩ := chk_some h
      have hi := of_decide_eq_true hi
      simp only [Bool.and_eq_true, beq_iff_eq, Nat.ble_eq, Bool.not_eq_true'] at hc
      obtain ⟨⟨⟨hkk, hfz⟩, hle⟩, hsto⟩ := hc
      refine ⟨_, _, h, fun p hp' hlt => ?_, fun w0 inn S ρ m a w hx hf hnew hm => ?_⟩
      · simp only [List.mem_singleton] at hp'; subst hp'; exact hfo
      · have hma : m b = .row e k' fz fl sz es := (hf b hfo).trans hM
        have e1 := hx x mx; rw [hp] at e1
        have e2 : RP ρ m b k i off (a.eval x) := e1
        simp only [RP, hma] at e2
        obtain ⟨g, n, cc, hg, hv⟩ := e2.2.2 hkk hi
        obtain ⟨hyc, hyl2⟩ := rs_cells hys (hx y my)
        have hb := hm.box b
        rw [hma] at hb
        obtain ⟨h0, h1, h2, xs, h3, h4⟩ := hb
        rcases h3.2 with ⟨ad0, hv3, hn⟩ | ⟨g', cap, cur, hv3, hbg, hgg, hnc, hcm, hcs, htake⟩
        · omega
        · rw [hg] at hv3
          simp only [Value.slice.injEq, Option.some.injEq, Addr.mk.injEq, and_true, true_and] at hv3
          obtain ⟨rfl, hnn, rfl⟩ := hv3
          have hei : es[i]? = some es[i] := List.getElem?_eq_getElem hi
          have hlen := h1 i _ hei
          have hd : es.getD i [] = es[i] := by rw [List.getD_eq_getElem?_getD, hei]; rfl
          have hul : (a.eval y).cells.toList.length = (opnd s y).cells.length := by simpa using hyl2
          have hisz : i * sz + sz ≤ es.length * sz := by rw [← Nat.succ_mul]; exact Nat.mul_le_mul_right _ hi
          have hcsz : es.length * sz ≤ cc * sz := Nat.mul_le_mul_right _ hnc
          have hcl : cur.toList.length = cc * sz := by simpa using hcs
          have h2' : w.heap[g]? = some (.cells cur.toList.toArray e (0, 0)) := by simpa using hgg
          have hst := store_run (w := w) hT hok h2' (v := a.eval y) (us := (a.eval y).cells.toList) (off := i * sz + off) (by simp) (by rw [hul, hyl]) (by omega) hyc.one
          obtain ⟨h5, h6⟩ := heap_setCells g e (a.eval y).cells.toList (i * sz + off) w _ h2'
          have hxl : xs.length = es.length * sz := h3.1
          have hst3 := hm.step (i := b) (b := .row e k' fz fl sz (es.set i (setCells (es.getD i []) off (opnd s y).cells))) (loc := ρ b) (row := some g) h6 (fun g' e => by
              simp only [Option.some.injEq] at e; subst e
              exact ⟨by rw [hma]; simp, by rw [hg, blk_pos hbg]⟩) (fun _ => by rw [hma]; exact hfz) hfz (by rw [hma]; exact ⟨_, _, _, _, _, rfl, .inr ⟨rfl, by simp, rfl⟩⟩) (fun g' e => .inl ⟨e, by rw [hma]; simp⟩)
              (fun hk hl => by
                have hyk : ∀ (j : Nat) z, (opnd s y).cells[j]? = some z → ∃ u, (a.eval y).cells.toList[j]? = some u ∧ CV S (w.setCells g (i * sz + off) (a.eval y).cells.toList) z u := by
                  intro j z hz
                  obtain ⟨u, hu, _, hcv⟩ := hyc.2 j z hz
                  have hz2 := List.all_eq_true.1 hsto z (List.mem_of_getElem? hz)
                  refine ⟨u, by simpa using hu, CV.keep ?_ hk⟩
                  cases z <;> first | exact hcv | simp [storable] at hz2
                refine ⟨h0, fun i' e' he' => ?_, fun hfl i' e' he' z hz => ?_, setVs xs (i * sz + off) (a.eval y).cells.toList, ⟨by simp [setVs_length, hxl], .inr ⟨g, cc, _, by dsimp only; rw [if_pos rfl, hg, hnn, List.length_set], hbg, h5, by simpa using hnc, hcm, by simp [setVs_length, hcs], ?_⟩⟩, fun i' e' j z he' hz => ?_⟩
                · rcases set_get he' with ⟨_, rfl⟩ | ⟨_, he'⟩
                  · rw [setCells_eq, setVs_length, hd]; exact hlen
                  · exact h1 i' e' he'
                · rcases set_get he' with ⟨_, rfl⟩ | ⟨_, he'⟩
                  · rw [setCells_eq, hd] at hz
                    obtain ⟨j, hj⟩ := List.mem_iff_getElem?.1 hz
                    rw [setVs_get _ _ _ _ (by omega)] at hj
                    split at hj
                    · have hz2 := List.all_eq_true.1 hsto z (List.mem_of_getElem? hj)
                      subst hfl
                      cases z <;> first | rfl | simp [storable] at hz2
                    · exact h2 hfl i _ hei z (List.mem_of_getElem? hj)
                  · exact h2 hfl i' e' he' z hz
                · rw [List.length_set]
                  apply List.ext_getElem?
                  intro p
                  rw [List.getElem?_take]
                  dsimp only
                  rw [setVs_get _ _ _ _ (by omega), setVs_get _ _ _ _ (by omega), ← htake, List.getElem?_take]
                  split <;> split <;> first | rfl | omega
                · rcases set_get he' with ⟨hii, rfl⟩ | ⟨hii, he'⟩
                  · rw [setCells_eq, hd] at hz
                    rw [setVs_get _ _ _ _ (by omega)] at hz
                    rw [setVs_get _ _ _ _ (by omega)]
                    subst hii
                    split at hz
                    · rename_i hcc
                      rw [if_pos (by omega), show i * sz + j - (i * sz + off) = j - off by omega]
                      exact hyk _ _ hz
                    · rename_i hcc
                      rw [if_neg (by omega)]
                      obtain ⟨u, hu, hcv⟩ := h4 i _ j z hei hz
                      exact ⟨u, hu, hcv.keep hk⟩
                  · obtain ⟨u, hu, hcv⟩ := h4 i' e' j z he' hz
                    refine ⟨u, ?_, hcv.keep hk⟩
                    rw [setVs_get _ _ _ _ (by omega), if_neg ?_]
                    · exact hu
                    · have hjs : j < sz := by rw [← h1 i' e' he']; exact (List.getElem?_eq_some_iff.1 hz).1
                      rcases Nat.lt_or_ge i i' with hlt | hge
                      · have : i * sz + sz ≤ i' * sz := by rw [← Nat.succ_mul]; exact Nat.mul_le_mul_right _ hlt
                        omega
                      · have : i' * sz + sz ≤ i * sz := by rw [← Nat.succ_mul]; exact Nat.mul_le_mul_right _ (by omega)
                        omega)
          exact .of_skip (run a w _ _ _ hv rfl hst) ⟨S, _, trivial, hst3.2.1, hst3.2.2, hst3.1⟩
    · cases h
  · cases h
end
end Go.Vi
