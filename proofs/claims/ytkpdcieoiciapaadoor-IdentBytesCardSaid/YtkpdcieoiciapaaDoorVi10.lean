/- THE VALUE INTERPRETER: loads, addresses. No project text. -/
import Derived.Test.YtkpdcieoiciapaaDoorVi9
set_option linter.unusedVariables false
set_option linter.unusedSimpArgs false
namespace Go.Vi
open Go.RowKit
variable {R : Type}
section
variable {E : Env} {P : Program} {w0 : World} {inn : Inn} {S : Nat → Prop} {ρ : Loc} {m : Mem} {w : World} {o : Oper} {s : TS} {M : List Box} {nx : Nat} {v : Sv} {ef : Eff} {K : Sv → Eff → Option R} {r : R} {f : Nat} {c : Orc}
theorem tok_one (hT : TOK P E.T) {t : Nat} (ht : (E.T t).ok = true) (ha : (E.T t).agg = false) : (E.T t).size = 1 := by
  obtain ⟨i, d, hi, hu, hs, _, hz, _⟩ := tok_info hT ht
  unfold zeroOk at hz
  split at hz <;> simp_all
theorem agg_run (hT : TOK P E.T) {t : Nat} (ht : (E.T t).ok = true) (w : World) : (isAgg t).run P w = .ok (E.T t).agg w := by
  obtain ⟨i, d, hi, hu, hs, _, hz, hr⟩ := tok_info hT ht
  unfold isAgg
  rw [Sem.run_bind, run_underlying hu w, ← hr]
  cases d <;> simp [TypeDesc.isRow]
/-- A part of a value of several cells. -/
theorem part_rs (hT : TOK P E.T) {t : Nat} (ht : (E.T t).ok = true) {cs : List At} {vs : Array Value} {off : Nat} (hl : RL S w ρ m cs vs) (hsz : off + (E.T t).size ≤ cs.length) :
    ∃ u, (part t vs off).run P w = .ok u w ∧ RS S w ρ m (takeAt (E.T t).agg (E.T t).size off cs) u := by
  have hag := agg_run hT ht w
  cases hq : (E.T t).agg with
  | true =>
    rw [hq] at hag
    refine ⟨.agg (vs.extract off (off + (E.T t).size)), ?_, ⟨_, rfl, by have := hl.1; simp [takeAt]; omega, fun j x hj => ?_⟩⟩
    · simp only [part, Sem.run_bind, hag, Result.andThen_ok, if_true, size_run hT ht, Sem.run_pure]
    · rw [List.getElem?_take] at hj
      split at hj
      · rename_i hlt
        rw [List.getElem?_drop] at hj
        obtain ⟨u, hu, h1, h2⟩ := hl.2 _ x hj
        refine ⟨u, ?_, h1, h2⟩
        rw [Array.getElem?_extract]
        have := (Array.getElem?_eq_some_iff.1 hu).1
        rw [if_pos (by omega)]; exact hu
      · cases hj
  | false =>
    rw [hq] at hag
    have h1 := tok_one hT ht hq
    rw [h1] at hsz
    obtain ⟨u, hu, _, h2⟩ := hl.2 off (cs[off]'(by omega)) (by simp)
    refine ⟨u, ?_, ?_⟩
    · simp only [part, Sem.run_bind, hag, Result.andThen_ok, Bool.false_eq_true, if_false, hu, Sem.run_pure]
    · simp only [takeAt, List.getD_eq_getElem?_getD, List.getElem?_eq_getElem (show off < cs.length by omega), Option.getD_some]
      exact h2
theorem o_index (hT : TOK P E.T) {t : TypeId} {x y : Operand} (ho : o.op = .index t x y) (h : vop E f c o s M nx K = some r) : ∃ v ef, K v ef = some r ∧ Good E P o s M nx v ef := by
  unfold vop at h; rw [ho] at h
  dsimp only at h
  have mx : x ∈ o.op.operands.toList := by rw [ho]; simp [Op.operands]
  have my : y ∈ o.op.operands.toList := by rw [ho]; simp [Op.operands]
  split at h
  · rename_i b k n hp hq
    obtain ⟨hc, h⟩ := chk_some h
    obtain ⟨h0, h⟩ := chk_some h
    obtain ⟨h1, h⟩ := chk_some h
    simp only [Bool.and_eq_true, decide_eq_true_eq] at hc h0 h1
    have hu := tok_str hT hc.1 hc.2
    refine ⟨_, _, h, .of_pure fun S w ρ m a w0 inn hx hf hm => ⟨_, ?_, rs_v rfl⟩⟩
    have e1 := hx x mx
    have e2 := hx y my
    rw [hp] at e1; rw [hq] at e2
    have hlt : n.toNat < b.data.toList.length := by simp; have := h1; simp only [ByteArray.size] at this; omega
    unfold execOp; rw [ho]; dsimp only; rw [e1.one_v.1, e2.one_v.1, Sem.run_bind, run_index_string _ _ _ _ _ hu, dif_pos ⟨h0, h1⟩]
    simp only [Result.andThen_ok, Sem.run_pure, byteAt, List.getD_eq_getElem?_getD, List.getElem?_eq_getElem hlt, Option.getD_some]
    rfl
  · rename_i cs k n hp hq
    obtain ⟨hc, h⟩ := chk_some h
    obtain ⟨h0, h⟩ := chk_some h
    obtain ⟨h1, h⟩ := chk_some h
    obtain ⟨h2, h⟩ := chk_some h
    simp only [Bool.and_eq_true, decide_eq_true_eq, Nat.ble_eq] at hc h0 h1 h2
    obtain ⟨hu, he⟩ := tok_array hT hc.1.1 hc.1.2 (by omega)
    refine ⟨_, _, h, .of_pure fun S w ρ m a w0 inn hx hf hm => ?_⟩
    have e1 := hx x mx
    have e2 := hx y my
    rw [hp] at e1; rw [hq] at e2
    obtain ⟨vs, hv, hl⟩ := e1
    have hfit : n.toNat * (E.T (E.T t).elem).size + (E.T (E.T t).elem).size ≤ cs.length := by
      refine Nat.le_trans ?_ h2
      rw [← Nat.succ_mul]
      exact Nat.mul_le_mul_right _ (by omega)
    obtain ⟨u, hr, hru⟩ := part_rs hT he hl hfit
    refine ⟨u, ?_, hru⟩
    unfold execOp; rw [ho]; dsimp only; rw [hv, e2.one_v.1]
    simp only [Instr.index, asIntOf, Sem.run_bind, Sem.run_pure, Result.andThen_ok, run_underlying hu]
    rw [if_pos ⟨h0, h1⟩]
    simp only [Sem.run_bind, size_run hT he, Result.andThen_ok, hr, Sem.run_pure]
  · cases h
theorem o_field (hT : TOK P E.T) {t : TypeId} {x : Operand} {j : Nat} (ho : o.op = .field t x j) (h : vop E f c o s M nx K = some r) : ∃ v ef, K v ef = some r ∧ Good E P o s M nx v ef := by
  unfold vop at h; rw [ho] at h
  dsimp only at h
  have mx : x ∈ o.op.operands.toList := by rw [ho]; simp [Op.operands]
  split at h
  · rename_i cs hp
    obtain ⟨hc, h⟩ := chk_some h
    obtain ⟨h2, h⟩ := chk_some h
    simp only [Bool.and_eq_true, decide_eq_true_eq, Nat.blt_eq, Nat.ble_eq] at hc h2
    obtain ⟨⟨⟨hok, hag⟩, hj⟩, hl0⟩ := hc
    obtain ⟨fs, hu, hfo⟩ := tok_struct hT hok hag hl0
    obtain ⟨q, hq⟩ : ∃ q, (E.T t).offs[j]? = some q := ⟨_, List.getElem?_eq_getElem hj⟩
    obtain ⟨f1, hf1, ho1, ho2, ho3, _⟩ := (fieldsOk_get hfo).2 j q hq
    have hg : (E.T t).offs.getD j (0, 0) = q := by rw [List.getD_eq_getElem?_getD, hq]; rfl
    rw [hg] at h h2
    refine ⟨_, _, h, .of_pure fun S w ρ m a w0 inn hx hf hm => ?_⟩
    have e1 := hx x mx
    rw [hp] at e1
    obtain ⟨vs, hv, hl⟩ := e1
    obtain ⟨u, hr, hru⟩ := part_rs hT ho3 hl h2
    refine ⟨u, ?_, hru⟩
    have hf2 : fs[j]? = some f1 := by simpa using hf1
    unfold execOp; rw [ho]; dsimp only; rw [hv]
    simp only [Instr.field, Sem.run_bind, run_underlying hu, Result.andThen_ok, hf2, asAgg, Sem.run_pure]
    rw [← ho1, ← ho2, hr]; rfl
  · cases h
theorem load_fin (hT : TOK P E.T) {t : Nat} (ht : (E.T t).ok = true) {ad : Addr} {cs : List At} {off : Nat} (hsz : off + (E.T t).size ≤ cs.length)
    (H : ∀ j x, j < (E.T t).size → cs[off + j]? = some x → ∃ u, w.cell? (ad.add j) = some u ∧ u.oneCell' = true ∧ RA S w ρ m x u) :
    ∃ u, (Instr.loadAt t (.pointer (some ad))).run P w = .ok u w ∧ RS S w ρ m (takeAt (E.T t).agg (E.T t).size off cs) u := by
  have hag := agg_run hT ht w
  cases hq : (E.T t).agg with
  | true =>
    rw [hq] at hag
    have hcell : ∀ j v, ((List.range (E.T t).size).map fun j => (w.cell? (ad.add j)).getD undef)[j]? = some v → w.cell? (ad.add j) = some v := by
      intro j v hj
      rw [List.getElem?_map, Option.map_eq_some_iff] at hj
      obtain ⟨k, hk, rfl⟩ := hj
      have hj : j < (E.T t).size := by
        have := (List.getElem?_eq_some_iff.1 hk).1
        simpa using this
      rw [List.getElem?_range hj] at hk
      obtain rfl := Option.some.inj hk
      obtain ⟨u, hu, _⟩ := H j (cs[off + j]'(by omega)) hj (List.getElem?_eq_getElem _)
      rw [hu]; rfl
    have := run_loadCells_list (P := P) w ad _ hcell
    refine ⟨.agg ((List.range (E.T t).size).map fun j => (w.cell? (ad.add j)).getD undef).toArray, ?_, ⟨_, rfl, by simp [takeAt]; omega, fun j x hj => ?_⟩⟩
    · simp only [List.length_map, List.length_range] at this
      simp only [Instr.loadAt, Instr.sureAddr, Sem.run_bind, Sem.run_pure, Result.andThen_ok, loadVar, hag, if_true, size_run hT ht, this]
    · rw [List.getElem?_take] at hj
      split at hj
      · rename_i hlt
        rw [List.getElem?_drop] at hj
        obtain ⟨u, hu, h1, h2⟩ := H j x hlt hj
        exact ⟨u, by simp [hlt, hu], h1, h2⟩
      · cases hj
  | false =>
    rw [hq] at hag
    have h1 := tok_one hT ht hq
    rw [h1] at hsz
    obtain ⟨u, hu, _, h2⟩ := H 0 (cs[off]'(by omega)) (by omega) (by simp)
    rw [Addr.add_zero'] at hu
    refine ⟨u, ?_, ?_⟩
    · simp only [Instr.loadAt, Instr.sureAddr, Sem.run_bind, Sem.run_pure, Result.andThen_ok, loadVar, hag, Bool.false_eq_true, if_false]
      simp [load, Sem.run, hu]
    · simp only [takeAt, List.getD_eq_getElem?_getD, List.getElem?_eq_getElem (show off < cs.length by omega), Option.getD_some]
      exact h2
theorem okA_eta {k : SK} {x : At} (h : okA k x = true) : etaA k x = x := by
  unfold okA at h
  split at h
  · simp only [decide_eq_true_eq] at h; subst h; rfl
  · rfl
  · rfl
  · simp only [Bool.and_eq_true, beq_iff_eq] at h; obtain ⟨rfl, rfl⟩ := h; rfl
  · rfl
  · cases h
theorem okRow_eta : ∀ {ks : List SK} {e pre : List At}, okRow ks e = true → etaRow ks (pre ++ e) pre.length = e
  | [], [], _, _ => rfl
  | k :: ks, x :: xs, pre, h => by
    unfold okRow at h
    rw [Bool.and_eq_true] at h
    have e1 : (pre ++ x :: xs).getD pre.length .bad = x := by simp
    have e2 := okRow_eta (pre := pre ++ [x]) h.2
    simp only [List.append_assoc, List.singleton_append, List.length_append, List.length_singleton] at e2
    rw [etaRow, e1, okA_eta h.1, e2]
  | [], _ :: _, _, h => by cases h
  | _ :: _, [], _, h => by cases h
theorem eta_some {sh : List SK} {e : List At} {K : List At → Option R} {r : R} (h : eta sh e K = some r) : K e = some r := by
  unfold eta at h
  split at h
  · exact h
  · obtain ⟨h1, h2⟩ := chk_some h
    have := okRow_eta (pre := []) h1
    simp only [List.nil_append, List.length_nil] at this
    rw [this] at h2; exact h2
theorem o_load (hT : TOK P E.T) {t : TypeId} {x : Operand} (ho : o.op = .load t x) (h : vop E f c o s M nx K = some r) : ∃ v ef, K v ef = some r ∧ Good E P o s M nx v ef := by
  unfold vop at h; rw [ho] at h
  dsimp only at h
  obtain ⟨hok, h⟩ := chk_some h
  have mx : x ∈ o.op.operands.toList := by rw [ho]; simp [Op.operands]
  have run : ∀ (a : Act) w ad z, a.eval x = .pointer (some ad) → (Instr.loadAt t (.pointer (some ad))).run P w = .ok z w → (execOp a.eval o).run P w = .ok (.value z) w := by
    intro a w ad z hu hr
    unfold execOp; rw [ho]; dsimp only
    rw [hu, Sem.run_bind, hr]; rfl
  split at h
  · rename_i b k i off hp
    split at h
    · rename_i cs hM
      obtain ⟨hc, h⟩ := chk_some h
      simp only [Nat.ble_eq] at hc
      refine ⟨_, _, h, .of_pure fun S w ρ m a w0 inn hx hf hm => ?_⟩
      have e1 := hx x mx; rw [hp] at e1
      have hma : m b = .var cs := (hf b (by simp [foot, ho, hp, svAts, ptrIds1])).trans hM
      have e2 : RP ρ m b k i off (a.eval x) := e1
      simp only [RP, hma] at e2
      obtain ⟨g, hg, hv⟩ := e2
      have hb := hm.box b
      rw [hma] at hb
      obtain ⟨g', vs, tt, h1, h2, h3⟩ := hb
      rw [hg] at h1
      simp only [Value.pointer.injEq, Option.some.injEq, Addr.mk.injEq, and_true, true_and] at h1
      subst h1
      obtain ⟨u, hu, hr⟩ := load_fin (w := w) hT hok (ad := ⟨g, off, none⟩) hc (fun j y hj hy => by
        obtain ⟨u, hu, h4, h5⟩ := h3.2 _ _ hy
        refine ⟨u, ?_, h4, h5⟩
        rw [Addr.add_mid, cell_of_row w g _ vs tt (0, 0) h2]; exact hu)
      exact ⟨u, run a w _ _ hv hu, hr⟩
    · rename_i e k' fz fl sz es hM
      obtain ⟨hc, h⟩ := chk_some h
      simp only [Bool.and_eq_true, Nat.ble_eq, beq_iff_eq] at hc
      obtain ⟨hkk, hc⟩ := hc
      obtain ⟨hi, hK⟩ := chk_some h
      clear h
      have hK := eta_some hK
      have hi := of_decide_eq_true hi
      subst hkk
      refine ⟨_, _, hK, .of_pure fun S w ρ m a w0 inn hx hf hm => ?_⟩
      have e1 := hx x mx; rw [hp] at e1
      have hma : m b = .row e k fz fl sz es := (hf b (by simp [foot, ho, hp, svAts, ptrIds1])).trans hM
      have e2 : RP ρ m b k i off (a.eval x) := e1
      simp only [RP, hma] at e2
      obtain ⟨g, n, cc, hg, hv⟩ := e2.2.2 trivial hi
      obtain ⟨ad, n', c', get, h1, hn, hnc, hl, hfl, hmm, hr⟩ := row_slv hm hma
      obtain ⟨ad', ha, _, hcell⟩ := hmm (by intro e; rw [e] at hi; simp at hi)
      rw [hg, ha] at h1
      simp only [Value.slice.injEq, Option.some.injEq] at h1
      obtain ⟨rfl, rfl, rfl⟩ := h1
      have hei : es[i]? = some es[i] := List.getElem?_eq_getElem hi
      have hlen := hl i _ hei
      have hd : es.getD i [] = es[i] := by rw [List.getD_eq_getElem?_getD, hei]; rfl
      rw [hd]
      obtain ⟨u, hu, hr⟩ := load_fin (w := w) (S := S) (ρ := ρ) (m := m) hT hok (ad := ⟨g, i * sz + off, none⟩) (cs := es[i]) (off := off) (by omega) (fun j y hj hy => by
        have hy' := hcell i _ _ y hei hy
        rw [addr_add0] at hy'
        exact ⟨_, by rw [Addr.add_mid, Nat.add_assoc]; exact hy', (hr i _ _ y hei hy).one, .ofCV (hr i _ _ y hei hy)⟩)
      exact ⟨u, run a w _ _ hv hu, hr⟩
    · cases h
  · rename_i sz cs off hp
    obtain ⟨hc, h⟩ := chk_some h
    have hc := Nat.le_of_ble_eq_true hc
    refine ⟨_, _, h, .of_pure fun S w ρ m a w0 inn hx hf hm => ?_⟩
    have e1 := hx x mx; rw [hp] at e1
    have e2 : CV S w (.roe sz cs off) (a.eval x) := e1
    generalize hu : a.eval x = u at e2
    cases e2 with
    | @roe _ _ _ ad get hs hb hmm hr =>
      obtain ⟨u, hu', hr'⟩ := load_fin (w := w) (S := S) (ρ := ρ) (m := m) hT hok (ad := ad.add off) (cs := cs) (off := off) (by omega) (fun j y hj hy => ⟨_, by rw [Addr.add_add]; exact hmm _ y hy, (hr _ y hy).one, .ofCV (hr _ y hy)⟩)
      exact ⟨u, run a w _ _ hu hu', hr'⟩
  · rename_i g off hp
    obtain ⟨hc, h⟩ := chk_some h
    simp only [decide_eq_true_eq] at hc
    refine ⟨_, _, h, .of_pure fun S w ρ m a w0 inn hx hf hm => ?_⟩
    have e1 := hx x mx; rw [hp] at e1
    have e2 : CV S w (.gp g off) (a.eval x) := e1
    generalize hu : a.eval x = u at e2
    cases e2
    obtain ⟨u, hu', hr'⟩ := load_fin (w := w) (S := S) (ρ := ρ) (m := m) hT hok (ad := ⟨g, off, none⟩) (cs := E.G g) (off := off) hc (fun j y hj hy => by
      obtain ⟨_, h2⟩ := hm.glob.glob g (by intro e; rw [e] at hy; simp at hy)
      obtain ⟨u, hu, hcv⟩ := h2 _ _ hy
      exact ⟨u, by rw [Addr.add_mid]; exact hu, hcv.one, .ofCV hcv⟩)
    exact ⟨u, run a w _ _ hu hu', hr'⟩
  · cases h

/-! ### addresses -/
theorem o_fieldAddr (hT : TOK P E.T) {t : TypeId} {x : Operand} {j : Nat} (ho : o.op = .fieldAddr t x j) (h : vop E f c o s M nx K = some r) : ∃ v ef, K v ef = some r ∧ Good E P o s M nx v ef := by
  unfold vop at h; rw [ho] at h
  dsimp only at h
  obtain ⟨hc, h⟩ := chk_some h
  simp only [Bool.and_eq_true, Nat.blt_eq, decide_eq_true_eq] at hc
  obtain ⟨⟨⟨hok, hag⟩, hj⟩, hl⟩ := hc
  obtain ⟨fs, hu, hfo⟩ := tok_struct hT hok hag hl
  obtain ⟨_, hff⟩ := fieldsOk_get hfo
  have hgo : (E.T t).offs[j]? = some ((E.T t).offs.getD j (0, 0)) := by rw [List.getD_eq_getElem?_getD, List.getElem?_eq_getElem hj]; rfl
  obtain ⟨fd, hfd, h1, h2, h3, h4⟩ := hff j _ hgo
  have mx : x ∈ o.op.operands.toList := by rw [ho]; simp [Op.operands]
  have run : ∀ (a : Act) w ad, a.eval x = .pointer (some ad) → (execOp a.eval o).run P w = .ok (.value (.pointer (some (ad.add ((E.T t).offs.getD j (0, 0)).1)))) w := by
    intro a w ad hv
    have hsz := size_run hT h3 w
    rw [h2] at hsz h4
    have hfd' : fs[j]? = some fd := by simpa using hfd
    unfold execOp; rw [ho]; dsimp only
    rw [hv, h1]
    simp [Instr.fieldAt, run_underlying hu, hfd', Instr.sureAddr, fieldPlace, hsz, h4]
  split at h
  · rename_i b k i off hp
    refine ⟨_, _, h, .of_pure fun S w ρ m a w0 inn hx hf hm => ?_⟩
    have e1 := hx x mx; rw [hp] at e1
    have e2 : RP ρ m b k i off (a.eval x) := e1
    obtain ⟨ad, hv⟩ := RP.ptr e2
    refine ⟨_, run a w ad hv, ?_⟩
    show RP ρ m b k i _ _
    rw [hv] at e2
    unfold RP at e2 ⊢
    split
    · rename_i cs hma
      rw [hma] at e2
      obtain ⟨g, hg, hv2⟩ := e2
      simp only [Value.pointer.injEq, Option.some.injEq] at hv2
      exact ⟨g, hg, by rw [hv2, Addr.add_mid]⟩
    · rename_i hma
      rw [hma] at e2
      refine ⟨e2.1, ⟨_, rfl⟩, fun hk hi => ?_⟩
      obtain ⟨g, n, cc, hg, hv2⟩ := e2.2.2 hk hi
      simp only [Value.pointer.injEq, Option.some.injEq] at hv2
      exact ⟨g, n, cc, hg, by rw [hv2, Addr.add_mid, Nat.add_assoc]⟩
    · rename_i hma
      rw [hma] at e2
      exact e2.elim
  · rename_i sz cs off hp
    refine ⟨_, _, h, .of_pure fun S w ρ m a w0 inn hx hf hm => ?_⟩
    have e1 := hx x mx; rw [hp] at e1
    have e2 : CV S w (.roe sz cs off) (a.eval x) := e1
    generalize hu : a.eval x = u at e2
    cases e2 with
    | @roe _ _ _ ad get hs hb hmm hr =>
      refine ⟨_, run a w _ hu, ?_⟩
      rw [Addr.add_add]
      exact CV.roe get hs hb hmm hr
  · rename_i g off hp
    refine ⟨_, _, h, .of_pure fun S w ρ m a w0 inn hx hf hm => ?_⟩
    have e1 := hx x mx; rw [hp] at e1
    have e2 : CV S w (.gp g off) (a.eval x) := e1
    generalize hu : a.eval x = u at e2
    cases e2
    refine ⟨_, run a w _ hu, ?_⟩
    rw [Addr.add_mid]
    exact CV.gp (S := S) (w := w)
  · cases h

theorem o_indexAddr (hT : TOK P E.T) {t : TypeId} {x y : Operand} (ho : o.op = .indexAddr t x y) (h : vop E f c o s M nx K = some r) : ∃ v ef, K v ef = some r ∧ Good E P o s M nx v ef := by
  unfold vop at h; rw [ho] at h
  dsimp only at h
  have mx : x ∈ o.op.operands.toList := by rw [ho]; simp [Op.operands]
  have my : y ∈ o.op.operands.toList := by rw [ho]; simp [Op.operands]
  split at h
  · rename_i q n hy
    have eyOf : ∀ S w ρ m (a : Act), (∀ x ∈ o.op.operands.toList, RS S w ρ m (opnd s x) (a.eval x)) → a.eval y = .int q n := by
      intro S w ρ m a hx
      have e := hx y my; rw [hy] at e; exact e.one_v.1
    have runS : ∀ (a : Act) w ad len cap e, (E.T e).ok = true → P.underlying t = some (.slice e) → a.eval x = .slice (some ad) len cap → a.eval y = .int q n → 0 ≤ n → n < len → (execOp a.eval o).run P w = .ok (.value (.pointer (some (ad.add (n.toNat * (E.T e).size))))) w := by
      intro a w ad len cap e hoke hu hv hyv h0 h1
      unfold execOp; rw [ho]; dsimp only
      rw [hv, hyv, Sem.run_bind, run_indexAt_slice _ _ _ _ _ _ _ (by rw [elem_of hu]; exact hu), if_pos ⟨h0, h1⟩, elem_of hu, size_run hT hoke]
      rfl
    have runA : ∀ (a : Act) w ad, (E.T t).ok = true → (E.T t).agg = true → 1 < (E.T t).len → a.eval x = .pointer (some ad) → a.eval y = .int q n → 0 ≤ n → n < (E.T t).len → (execOp a.eval o).run P w = .ok (.value (.pointer (some (ad.add (n.toNat * (E.T (E.T t).elem).size))))) w := by
      intro a w ad hok hag hl hv hyv h0 h1
      obtain ⟨hu, he⟩ := tok_array hT hok hag (by omega)
      have e1 : P.elem t = (E.T t).elem := by simp [Program.elem, hu]
      have e2 : P.arrayLen t = (E.T t).len := by simp [Program.arrayLen, hu]
      unfold execOp; rw [ho]; dsimp only
      rw [hv, hyv, Sem.run_bind, run_indexAt_array _ _ _ _ _ (by rw [e1, e2]; exact hu), if_pos ⟨h0, by rw [e2]; exact h1⟩, e1, size_run hT he]
      rfl
    split at h
    · rename_i fl sz es hp
      obtain ⟨hc, h⟩ := chk_some h
      obtain ⟨h0, h⟩ := chk_some h
      obtain ⟨h1, h⟩ := chk_some h
      have h := eta_some h
      simp only [Bool.and_eq_true, decide_eq_true_eq, beq_iff_eq] at hc h0 h1
      obtain ⟨hu, he⟩ := tok_slice hT hc.1.1 hc.1.2
      refine ⟨_, _, h, .of_pure fun S w ρ m a w0 inn hx hf hm => ?_⟩
      have e1 := hx x mx; rw [hp] at e1
      obtain ⟨ad, nn, cc, get, hv, hn, hnc, hl, hfl, hmm, hr⟩ := slv_cv.2 (show CV S w (.ro fl sz es) (a.eval x) from e1)
      have hlt : n.toNat < es.length := by omega
      obtain ⟨ad', rfl, hb, hcell⟩ := hmm (by intro e; rw [e] at hlt; simp at hlt)
      have hei : es[n.toNat]? = some es[n.toNat] := List.getElem?_eq_getElem hlt
      refine ⟨_, runS a w ad' nn cc _ he hu hv (eyOf S w ρ m a hx) h0 (by omega), ?_⟩
      have hd : es.getD n.toNat [] = es[n.toNat] := by rw [List.getD_eq_getElem?_getD, hei]; rfl
      rw [hd, ← hc.2, ← Addr.add_zero' (ad'.add (n.toNat * sz))]
      exact CV.roe (S := S) (w := w) (fun j => get n.toNat j) (hl _ _ hei) (by rw [block_add]; exact hb) (fun j y hy => by rw [Addr.add_add]; exact hcell _ _ _ _ hei hy) (fun j y hy => hr _ _ _ _ hei hy)
    · rename_i b k hp
      split at h
      · rename_i e fl sz es hrow
        obtain ⟨hc, h⟩ := chk_some h
        obtain ⟨h0, h⟩ := chk_some h
        obtain ⟨h1, h⟩ := chk_some h
        simp only [Bool.and_eq_true, decide_eq_true_eq, beq_iff_eq] at hc h0 h1
        obtain ⟨hu, he⟩ := tok_slice hT hc.1.1 hc.1.2
        refine ⟨_, _, h, .of_pure fun S w ρ m a w0 inn hx hf hm => ?_⟩
        have e1 := hx x mx; rw [hp] at e1
        obtain ⟨fz, hr⟩ := rowOf_some hrow
        have hma := (hf b (by simp [foot, ho, hp, svAts, ownId])).trans hr
        have e2 : RA S w ρ m (.own b k) (a.eval x) := e1
        simp only [RA, hma] at e2
        have hv := e2.2.2 trivial
        have hlt : n.toNat < es.length := by omega
        have hb := hm.box b
        rw [hma] at hb
        obtain ⟨_, _, _, xs, h3, _⟩ := hb
        rcases h3.2 with ⟨ad0, hv3, hn⟩ | ⟨g, cap, cur, hv3, _⟩
        · omega
        · refine ⟨_, runS a w ⟨g, 0, none⟩ _ cap _ he hu (hv.trans hv3) (eyOf S w ρ m a hx) h0 (by omega), ?_⟩
          show RP ρ m b k n.toNat 0 _
          simp only [RP, hma]
          refine ⟨Nat.le_refl _, ⟨_, rfl⟩, fun _ _ => ⟨g, _, cap, hv3, ?_⟩⟩
          rw [addr_add0, hc.2, Nat.add_zero]
      · cases h
    · rename_i b k i off hp
      obtain ⟨hc, h⟩ := chk_some h
      obtain ⟨h0, h⟩ := chk_some h
      obtain ⟨h1, h⟩ := chk_some h
      simp only [Bool.and_eq_true, decide_eq_true_eq, beq_iff_eq] at hc h0 h1
      refine ⟨_, _, h, .of_pure fun S w ρ m a w0 inn hx hf hm => ?_⟩
      have e1 := hx x mx; rw [hp] at e1
      have e2 : RP ρ m b k i off (a.eval x) := e1
      obtain ⟨ad, hv⟩ := RP.ptr e2
      refine ⟨_, runA a w ad hc.1.1 hc.1.2 hc.2 hv (eyOf S w ρ m a hx) h0 h1, ?_⟩
      show RP ρ m b k i _ _
      rw [hv] at e2
      unfold RP at e2 ⊢
      split
      · rename_i cs hma
        rw [hma] at e2
        obtain ⟨g, hg, hv2⟩ := e2
        simp only [Value.pointer.injEq, Option.some.injEq] at hv2
        exact ⟨g, hg, by rw [hv2, Addr.add_mid]⟩
      · rename_i hma
        rw [hma] at e2
        refine ⟨e2.1, ⟨_, rfl⟩, fun hk hi => ?_⟩
        obtain ⟨g, n, cc, hg, hv2⟩ := e2.2.2 hk hi
        simp only [Value.pointer.injEq, Option.some.injEq] at hv2
        exact ⟨g, n, cc, hg, by rw [hv2, Addr.add_mid, Nat.add_assoc]⟩
      · rename_i hma
        rw [hma] at e2
        exact e2.elim
    · rename_i g off hp
      obtain ⟨hc, h⟩ := chk_some h
      obtain ⟨h0, h⟩ := chk_some h
      obtain ⟨h1, h⟩ := chk_some h
      simp only [Bool.and_eq_true, decide_eq_true_eq, beq_iff_eq] at hc h0 h1
      refine ⟨_, _, h, .of_pure fun S w ρ m a w0 inn hx hf hm => ?_⟩
      have e1 := hx x mx; rw [hp] at e1
      have e2 : CV S w (.gp g off) (a.eval x) := e1
      generalize hu : a.eval x = u at e2
      cases e2
      refine ⟨_, runA a w _ hc.1.1 hc.1.2 hc.2 hu (eyOf S w ρ m a hx) h0 h1, ?_⟩
      rw [Addr.add_mid]
      exact CV.gp (S := S) (w := w)
    · rename_i fl sz es hp
      obtain ⟨hc, h⟩ := chk_some h
      obtain ⟨h0, h⟩ := chk_some h
      obtain ⟨h1, h⟩ := chk_some h
      have h := eta_some h
      simp only [Bool.and_eq_true, decide_eq_true_eq, beq_iff_eq] at hc h0 h1
      obtain ⟨hu, he⟩ := tok_slice hT hc.1.1 hc.1.2
      refine ⟨_, _, h, .of_pure fun S w ρ m a w0 inn hx hf hm => ?_⟩
      have e1 := hx x mx; rw [hp] at e1
      obtain ⟨ad, nn, cc, get, hv, hn, hnc, hl, hfl, hmm, hr⟩ := fix_slv (show CV S w (.fix fl sz es) (a.eval x) from e1)
      have hlt : n.toNat < es.length := by omega
      obtain ⟨ad', rfl, hb, hcell⟩ := hmm (by intro e; rw [e] at hlt; simp at hlt)
      have hei : es[n.toNat]? = some es[n.toNat] := List.getElem?_eq_getElem hlt
      refine ⟨_, runS a w ad' nn cc _ he hu hv (eyOf S w ρ m a hx) h0 (by omega), ?_⟩
      have hd : es.getD n.toNat [] = es[n.toNat] := by rw [List.getD_eq_getElem?_getD, hei]; rfl
      rw [hd, ← hc.2, ← Addr.add_zero' (ad'.add (n.toNat * sz))]
      exact CV.roe (S := S) (w := w) (fun j => get n.toNat j) (hl _ _ hei) (by rw [block_add]; exact hb) (fun j y hy => by rw [Addr.add_add]; exact hcell _ _ _ _ hei hy) (fun j y hy => hr _ _ _ _ hei hy)
    · rename_i b k lo hi hp
      split at h
      · rename_i e fl sz es hrow
        obtain ⟨hc, h⟩ := chk_some h
        obtain ⟨h0, h⟩ := chk_some h
        obtain ⟨h1, h⟩ := chk_some h
        simp only [Bool.and_eq_true, decide_eq_true_eq, beq_iff_eq] at hc h0 h1
        obtain ⟨hu, he⟩ := tok_slice hT hc.1.1 hc.1.2
        refine ⟨_, _, h, .of_pure fun S w ρ m a w0 inn hx hf hm => ?_⟩
        have e1 := hx x mx; rw [hp] at e1
        obtain ⟨fz, hr⟩ := rowOf_some hrow
        have hma := (hf b (by simp [foot, ho, hp, svAts, ownId])).trans hr
        have e2 : RA S w ρ m (.part b k lo hi) (a.eval x) := e1
        simp only [RA, hma] at e2
        obtain ⟨q1, q2, ad, n', cc, ad', q3, q4, q5⟩ := e2.2.2 trivial
        have hb := hm.box b
        rw [hma] at hb
        obtain ⟨_, _, _, xs, h3, _⟩ := hb
        rcases h3.2 with ⟨ad0, hv3, hn⟩ | ⟨g, cap, cur, hv3, hcap, _, hnc, _⟩
        · omega
        · rw [q3] at hv3
          simp only [Value.slice.injEq] at hv3
          obtain ⟨rfl, rfl, rfl⟩ := hv3
          have e3 : ad' = some ⟨g, lo * sz, none⟩ := by rw [q5 (by omega)]; simp [addr_add0]
          subst e3
          refine ⟨_, runS a w ⟨g, lo * sz, none⟩ _ _ _ he hu q4 (eyOf S w ρ m a hx) h0 (by omega), ?_⟩
          show RP ρ m b k (lo + n.toNat) 0 _
          simp only [RP, hma]
          refine ⟨Nat.le_refl _, ⟨_, rfl⟩, fun _ _ => ⟨g, _, _, q3, ?_⟩⟩
          rw [Addr.add_mid, hc.2, Nat.add_zero, Nat.add_mul]
      · cases h
    · cases h
  · cases h
end
end Go.Vi
