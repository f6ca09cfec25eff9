/- THE VALUE INTERPRETER: builtins, assignments, things built. No project text. -/
import Derived.Test.YtfbdceccefmloabVi12
import Derived.Laws.Small
set_option linter.unusedVariables false
set_option linter.unusedSimpArgs false
namespace Go.Vi
open Go.RowKit
variable {R : Type}
theorem get_flat {α : Type} (n sz : Nat) (get : Nat → Nat → α) (i j : Nat) (hi : i < n) (hj : j < sz) : ((List.range (n * sz)).map fun p => get (p / sz) (p % sz))[i * sz + j]? = some (get i j) := by
  have h1 : i * sz + j < n * sz := by
    have : i * sz + sz ≤ n * sz := by rw [← Nat.succ_mul]; exact Nat.mul_le_mul_right _ hi
    omega
  rw [List.getElem?_map, List.getElem?_range h1]
  have h2 : (i * sz + j) / sz = i := by rw [Nat.mul_comm, Nat.mul_add_div (by omega), Nat.div_eq_of_lt hj]; omega
  have h3 : (i * sz + j) % sz = j := by rw [Nat.mul_comm, Nat.mul_add_mod, Nat.mod_eq_of_lt hj]
  simp [h2, h3]
theorem flat_get {α : Type} (n sz : Nat) (get : Nat → Nat → α) (p : Nat) (u : α) (h : ((List.range (n * sz)).map fun p => get (p / sz) (p % sz))[p]? = some u) : p / sz < n ∧ p % sz < sz ∧ u = get (p / sz) (p % sz) ∧ p = p / sz * sz + p % sz := by
  rw [List.getElem?_map, Option.map_eq_some_iff] at h
  obtain ⟨q, hq, rfl⟩ := h
  have hp : p < n * sz := by simpa using (List.getElem?_eq_some_iff.1 hq).1
  rw [List.getElem?_range hp] at hq
  obtain rfl := Option.some.inj hq
  have hsz : 0 < sz := by
    rcases Nat.eq_zero_or_pos sz with h | h
    · subst h; omega
    · exact h
  exact ⟨(Nat.div_lt_iff_lt_mul hsz).2 hp, Nat.mod_lt _ hsz, rfl, by rw [Nat.mul_comm, Nat.div_add_mod]⟩
theorem arr_of {α : Type} {x : Array α} {l : List α} (h : x.toList = l) : x = l.toArray := by subst h; simp
section
variable {E : Env} {P : Program} {w0 : World} {inn : Inn} {S : Nat → Prop} {ρ : Loc} {m : Mem} {w : World} {o : Oper} {s : TS} {M : List Box} {nx : Nat} {v : Sv} {ef : Eff} {K : Sv → Eff → Option R} {r : R} {f : Nat} {c : Orc}
/-- A slice's cells, one behind the other. -/
theorem SlV.news {fl : Bool} {sz : Nat} {ys : List (List At)} {x : Value} (h : SlV (fun _ => True) S w fl sz ys x) (h0 : 0 < sz ∨ ys = []) :
    ∃ news : List Value, news.length = ys.length * sz ∧ (∀ u ∈ news, u.oneCell' = true) ∧ ((∃ c, x = .slice none 0 c ∧ ys.length = 0 ∧ news = []) ∨ ∃ ad c, x = .slice (some ad) ys.length c ∧ ∀ j u, news[j]? = some u → w.cell? (ad.add j) = some u) ∧
      ∀ (i : Nat) e (j : Nat) z, ys[i]? = some e → e[j]? = some z → ∃ u, news[i * sz + j]? = some u ∧ CV S w z u := by
  obtain ⟨a, n, c, get, rfl, hn, hnc, hl, hf, hm, hr⟩ := h
  have key : ∀ p u, ((List.range (ys.length * sz)).map fun p => get (p / sz) (p % sz))[p]? = some u → ∃ e z, ys[p / sz]? = some e ∧ e[p % sz]? = some z ∧ u = get (p / sz) (p % sz) ∧ p = p / sz * sz + p % sz := by
    intro p u hp
    obtain ⟨h1, h2, h3, h4⟩ := flat_get _ _ _ _ _ hp
    have hy := List.getElem?_eq_getElem h1
    exact ⟨_, (ys[p / sz])[p % sz]'(by rw [hl _ _ hy]; exact h2), hy, List.getElem?_eq_getElem _, h3, h4⟩
  refine ⟨(List.range (ys.length * sz)).map fun p => get (p / sz) (p % sz), by simp, fun u hu => ?_, ?_, fun i e j z he hz => ?_⟩
  · obtain ⟨p, hp⟩ := List.mem_iff_getElem?.1 hu
    obtain ⟨e, z, h1, h2, h3, _⟩ := key p u hp
    rw [h3]; exact (hr _ _ _ _ h1 h2).one
  · cases a with
    | none =>
      cases ys with
      | nil => exact .inl ⟨c, by simp [hn], rfl, by simp⟩
      | cons y ys => obtain ⟨ad, h, _⟩ := hm (by simp); cases h
    | some ad =>
      refine .inr ⟨ad, c, by rw [hn], fun p u hp => ?_⟩
      obtain ⟨e, z, h1, h2, h3, h4⟩ := key p u hp
      cases ys with
      | nil => simp at h1
      | cons y ys =>
        obtain ⟨ad', h, _, hc⟩ := hm (by simp)
        obtain rfl := Option.some.inj h
        rw [h4, h3]
        have := hc _ _ _ _ h1 h2
        rw [← h4] at this ⊢
        exact this
  · have hi := (List.getElem?_eq_some_iff.1 he).1
    have hj : j < sz := by rw [← hl _ _ he]; exact (List.getElem?_eq_some_iff.1 hz).1
    exact ⟨_, get_flat _ _ _ _ _ hi hj, hr _ _ _ _ he hz⟩
theorem allStor_spec {fl : Bool} {es : List (List At)} (h : allStor fl es = true) {e : List At} {x : At} (he : e ∈ es) (hx : x ∈ e) : storable fl x = true :=
  List.all_eq_true.1 (List.all_eq_true.1 h e he) x hx
theorem storable_isV {x : At} (h : storable true x = true) : isV x = true := by cases x <;> first | rfl | simp [storable] at h

theorem append_mr (hm : MR E w0 inn S ρ m w) {a e k sz : Nat} {fl : Bool} {es ys : List (List At)} {vold v' : Value} {w' : World} {xs news : List Value} {b : Box}
    (hb : (m a = .gone ∧ vold = .slice none 0 0 ∧ es = []) ∨ (m a = b ∧ ∃ k', k' < k ∧ b = .row e k' false fl sz es ∧ vold = ρ a)) (hsz : 0 < sz)
    (hlen : ∀ (i : Nat) e', (es ++ ys)[i]? = some e' → e'.length = sz) (hflat : fl = true → ∀ (i : Nat) e', (es ++ ys)[i]? = some e' → ∀ x ∈ e', isV x = true)
    (hxl : xs.length = es.length * sz) (hx : ∀ (i : Nat) e' (j : Nat) z, es[i]? = some e' → e'[j]? = some z → ∃ u, xs[i * sz + j]? = some u ∧ CV S w z u)
    (hn : ∀ (i : Nat) e' (j : Nat) z, ys[i]? = some e' → e'[j]? = some z → ∃ u, news[i * sz + j]? = some u ∧ CV S w z u)
    (ho : w'.ownsRow 0 e sz v' (es.length + ys.length) (xs ++ news)) (hg : w.grownBy w' (blk vold)) (hv : ∀ g, blk v' = some g → blk vold = some g ∨ (w.heap.size ≤ g ∧ g < w'.heap.size)) :
    MR E w0 inn S (fun x => if x = a then v' else ρ x) (fun x => if x = a then .row e k false fl sz (es ++ ys) else m x) w' ∧ Kp S S w w' ∧
    Le ρ m (fun x => if x = a then v' else ρ x) (fun x => if x = a then .row e k false fl sz (es ++ ys) else m x) := by
  refine hm.step (row := blk vold) hg (fun g h => ?_) (fun h => ?_) rfl ?_ (fun g h => ?_) (fun hk hl => ?_)
  · rcases hb with ⟨h1, h2, h3⟩ | ⟨h1, k', h2, h3, h4⟩
    · rw [h2] at h; simp [blk] at h
    · exact ⟨by rw [h1, h3]; simp, by rw [← h4]; exact h⟩
  · rcases hb with ⟨h1, h2, h3⟩ | ⟨h1, k', h2, h3, h4⟩
    · exact absurd h1 h
    · rw [h1, h3]; rfl
  · rcases hb with ⟨h1, h2, h3⟩ | ⟨h1, k', h2, h3, h4⟩
    · rw [h1]; trivial
    · rw [h1, h3]; exact ⟨_, _, _, _, _, rfl, .inl h2⟩
  · rcases hb with ⟨h1, h2, h3⟩ | ⟨h1, k', h2, h3, h4⟩
    · rcases hv g h with h5 | h5
      · rw [h2] at h5; simp [blk] at h5
      · exact .inr h5
    · rcases hv g h with h5 | h5
      · exact .inl ⟨by rw [← h4]; exact h5, by rw [h1, h3]; simp⟩
      · exact .inr h5
  · refine ⟨hsz, hlen, hflat, xs ++ news, by dsimp only; rw [if_pos rfl, List.length_append]; exact ho, fun i e' j z he hz => ?_⟩
    rw [List.getElem?_append] at he
    split at he
    · rename_i hi
      obtain ⟨u, hu, hc⟩ := hx i e' j z he hz
      refine ⟨u, ?_, hc.keep hk⟩
      rw [List.getElem?_append_left (by exact (List.getElem?_eq_some_iff.1 hu).1)]
      exact hu
    · rename_i hi
      obtain ⟨u, hu, hc⟩ := hn _ e' j z he hz
      refine ⟨u, ?_, hc.keep hk⟩
      have : es.length * sz ≤ i * sz := Nat.mul_le_mul_right _ (by omega)
      rw [List.getElem?_append_right (by omega), hxl]
      rw [show i * sz + j - es.length * sz = (i - es.length) * sz + j by rw [Nat.sub_mul]; omega]
      exact hu

theorem o_builtin (hT : TOK P E.T) {b : Builtin} {q : Call} (ho : o.op = .call q) (hq : q.callee = .builtin b) (h : vop E f c o s M nx K = some r) (hnx : nx = M.length) : ∃ v ef, K v ef = some r ∧ Good E P o s M nx v ef := by
  unfold vop at h; rw [ho] at h
  dsimp only at h
  rw [hq] at h
  dsimp only at h
  have mem : ∀ x ∈ q.args, x ∈ o.op.operands.toList := by
    intro x hx
    rw [ho]
    simp [Op.operands, Call.operands, hx]
  have run : ∀ (a : Act) w u w', (builtin b q.argTypes o.type (q.args.map fun | .const _ => true | _ => false) (q.args.map a.eval)).run P w = .ok u w' → (execOp a.eval o).run P w = .ok u w' := by
    intro a w u w' hr
    unfold execOp; rw [ho]; dsimp only
    simp only [resolve, hq, Sem.run_bind, Sem.run_pure, Result.andThen_ok, invoke]
    exact hr
  unfold vbuiltin at h
  have fst : ∀ {ts : List Nat}, q.argTypes.toList = ts → q.argTypes = ts.toArray := by rintro ts rfl; simp
  split at h
  · rename_i t x hts hargs
    obtain ⟨hc, h⟩ := chk_some h
    simp only [Bool.and_eq_true] at hc
    have hu := tok_str hT hc.1 hc.2
    obtain ⟨y, hy, hyv⟩ : ∃ y, q.args = #[y] ∧ opnd s y = .one (.v (.string x)) := by
      cases hl : q.args.toList with
      | nil => rw [hl] at hargs; simp at hargs
      | cons y ys => cases ys with
        | nil => rw [hl] at hargs; exact ⟨y, arr_of hl, by simpa using hargs⟩
        | cons z zs => rw [hl] at hargs; simp at hargs
    refine ⟨_, _, h, .of_pure fun S w ρ m a w0 inn hx hf hm => ⟨goInt x.size, run a w _ _ ?_, rs_v rfl⟩⟩
    have e1 := hx y (mem y (by rw [hy]; simp)); rw [hyv] at e1
    rw [hy, fst hts]
    simp [builtin, e1.one_v.1, run_len_string w t o.type x hu]
  · rename_i t x _ hts hargs
    split at h
    · rename_i fl sz es hes
      obtain ⟨hc, h⟩ := chk_some h
      simp only [Bool.and_eq_true] at hc
      obtain ⟨hu, he⟩ := tok_slice hT hc.1 hc.2
      obtain ⟨y, hy, hyv⟩ : ∃ y, q.args = #[y] ∧ opnd s y = .one x := by
        cases hl : q.args.toList with
        | nil => rw [hl] at hargs; simp at hargs
        | cons y ys => cases ys with
          | nil => rw [hl] at hargs; exact ⟨y, arr_of hl, by simpa using hargs⟩
          | cons z zs => rw [hl] at hargs; simp at hargs
      refine ⟨_, _, h, .of_pure fun S w ρ m a w0 inn hx hf hm => ⟨goInt es.length, run a w _ _ ?_, rs_v rfl⟩⟩
      have e1 := hx y (mem y (by rw [hy]; simp)); rw [hyv] at e1
      obtain ⟨ad, n, cc, get, hv, hn, _⟩ := elems_sound hm hes e1 (fun i hi => hf i (by simp [foot, ho, hq, hy, hyv, svAts, hi]))
      rw [hy, fst hts]
      subst hn
      simp [builtin, hv, run_len_slice w t o.type ad es.length cc (by rw [elem_of hu]; exact hu)]
    · cases h
  · rename_i t t' x y hts hargs
    split at h
    · rename_i fl sz ys hes
      obtain ⟨hc, h⟩ := chk_some h
      simp only [Bool.and_eq_true, Bool.or_eq_true, beq_iff_eq, List.isEmpty_iff] at hc
      obtain ⟨⟨⟨⟨⟨hok, hsl⟩, hfl⟩, hsz⟩, hst⟩, rfl⟩ := hc
      obtain ⟨p1, p2, hy, hyv1, hyv2⟩ : ∃ p1 p2, q.args = #[p1, p2] ∧ opnd s p1 = .one x ∧ opnd s p2 = .one y := by
        cases hl : q.args.toList with
        | nil => rw [hl] at hargs; simp at hargs
        | cons p1 ps => cases ps with
          | nil => rw [hl] at hargs; simp at hargs
          | cons p2 zs => cases zs with
            | nil => rw [hl] at hargs; simp only [List.map_cons, List.map_nil, List.cons.injEq, and_true] at hargs; exact ⟨p1, p2, arr_of hl, hargs.1, hargs.2⟩
            | cons z zs => rw [hl] at hargs; simp at hargs
      have hfo : ∀ i, i ∈ ownId x ∨ i ∈ ownId y → i ∈ foot s M o := by
        intro i hi
        simp [foot, ho, hq, hy, hyv1, hyv2, svAts, hi]
      have exec : ∀ (a : Act) w v' w', (Builtin.append_ #[t', t'] o.type #[a.eval p1, a.eval p2]).run P w = .ok v' w' → (execOp a.eval o).run P w = .ok (.value v') w' := by
        intro a w v' w' hr
        refine run a w _ _ ?_
        rw [hy, fst hts]
        simp [builtin, hr]
      have src : ∀ (S : Nat → Prop) w ρ m (a : Act) w0 inn, (∀ x ∈ o.op.operands.toList, RS S w ρ m (opnd s x) (a.eval x)) → (∀ i ∈ foot s M o, m i = memOf M i) → MR E w0 inn S ρ m w → 0 < (E.T (E.T t').elem).size →
          SlV (fun _ => True) S w (E.T (E.T t').elem).flat (E.T (E.T t').elem).size ys (a.eval p2) := by
        intro S w ρ m a w0 inn hx hf hm h0
        have e2 := hx p2 (mem p2 (by rw [hy]; simp)); rw [hyv2] at e2
        have := elems_sound hm hes e2 (fun i hi => hf i (hfo i (.inr hi)))
        obtain ⟨ad, n, cc, get, hv, hn, hnc, hl, hff, hmm, hr⟩ := this
        refine ⟨ad, n, cc, get, hv, hn, hnc, ?_, fun ht i e' he' z hz => ?_, fun hne => ?_, hr⟩
        · rcases hsz with rfl | rfl
          · exact hl
          · intro i e' he'; simp at he'
        · exact storable_isV (by have := allStor_spec hst (List.mem_of_getElem? he') hz; rw [ht] at this; exact this)
        · rcases hsz with rfl | rfl
          · exact hmm hne
          · exact absurd rfl hne
      unfold appendTo at h
      split at h
      · obtain ⟨hc, h⟩ := chk_some h
        obtain ⟨hby, h⟩ := chk_some h
        simp only [Bool.and_eq_true, decide_eq_true_eq] at hc hby
        refine ⟨_, _, h, fun p hp hlt => ?_, fun w0 inn S ρ m a w hx hf hnew hm => ?_⟩
        · simp only [List.mem_singleton] at hp; subst hp; exact absurd hlt (Nat.lt_irrefl _)
        · have hsv := src S w ρ m a w0 inn hx hf hm hc.2
          have e1 := hx p1 (mem p1 (by rw [hy]; simp)); rw [hyv1] at e1
          have e1' : CV S w .nils (a.eval p1) := e1
          have hv1 : a.eval p1 = .slice none 0 0 := by
            generalize a.eval p1 = u at e1'
            cases e1'; rfl
          obtain ⟨news, hl, h1, hxx, hnn⟩ := hsv.news (.inl hc.2)
          obtain ⟨_, _, _, _, _, _, _, hl', hf', _⟩ := hsv
          obtain ⟨v', w', hr, how, hgb, hv⟩ := append_own hT hok hsl hc.2 (ty := o.type) (World.ownsRow_nil w 0 _ _) hxx hl h1 (by simpa using hby) hc.1
          have hgone := hnew (nx, _) (List.mem_singleton.2 rfl) (Nat.le_refl _)
          obtain ⟨h2, h3, h4⟩ := append_mr hm (a := nx) (e := (E.T t').elem) (k := 0) (fl := (E.T (E.T t').elem).flat) (es := []) (ys := ys) (b := .gone) (xs := []) (.inl ⟨hgone, rfl, rfl⟩) hc.2 (by simpa using hl') (by simpa using hf') (by simp) (fun i e' j z he => by simp at he) hnn (by simpa using how) hgb hv
          refine .of_value (exec a w v' w' (by rw [hv1]; exact hr)) ⟨S, _, ?_, h3, h4, h2⟩
          simp only [RS, RS1, RA, upM, if_true]
          refine ⟨Nat.le_refl _, ?_, fun _ => trivial⟩
          rcases how.2 with ⟨e, _⟩ | ⟨_, _, _, e, _⟩ <;> (rw [e]; rfl)
      · rename_i b k _
        split at h
        · rename_i e' k' fz fl' sz' es hM
          obtain ⟨hc, h⟩ := chk_some h
          obtain ⟨hby, h⟩ := chk_some h
          simp only [Bool.and_eq_true, decide_eq_true_eq, Bool.not_eq_true', beq_iff_eq] at hc hby
          obtain ⟨⟨⟨⟨⟨hkk, hfz⟩, hee⟩, hff⟩, hss⟩, hb0⟩ := hc
          refine ⟨_, _, h, fun p hp hlt => ?_, fun w0 inn S ρ m a w hx hf hnew hm => ?_⟩
          · simp only [List.mem_singleton] at hp; subst hp; exact hfo b (.inl (by simp [ownId]))
          · have hma : m b = .row e' k' fz fl' sz' es := (hf b (hfo b (.inl (by simp [ownId])))).trans hM
            have hbx := hm.box b
            rw [hma] at hbx
            obtain ⟨q0, q1, q2, xs, q3, q4⟩ := hbx
            have hsz0 : 0 < (E.T (E.T t').elem).size := by omega
            have hsv := src S w ρ m a w0 inn hx hf hm hsz0
            have e1 := hx p1 (mem p1 (by rw [hy]; simp)); rw [hyv1] at e1
            have e1' : RA S w ρ m (.own b k) (a.eval p1) := e1
            simp only [RA, hma] at e1'
            have hv1 := e1'.2.2 hkk
            obtain ⟨news, hl, h1, hxx, hnn⟩ := hsv.news (.inl hsz0)
            obtain ⟨_, _, _, _, _, _, _, hl', hf', _⟩ := hsv
            subst hee hff hss hkk hfz
            obtain ⟨v', w', hr, how, hgb, hv⟩ := append_own hT hok hsl hsz0 (ty := o.type) q3 hxx hl h1 hby hb0
            obtain ⟨h2, h3, h4⟩ := append_mr hm (a := b) (k := k + 1) (es := es) (ys := ys) (.inr ⟨hma, k, Nat.lt_succ_self k, rfl, rfl⟩) hsz0
              (fun i e' he => by
                rw [List.getElem?_append] at he
                split at he
                · exact q1 _ _ he
                · exact hl' _ _ he)
              (fun ht i e' he => by
                rw [List.getElem?_append] at he
                split at he
                · exact q2 ht _ _ he
                · exact hf' ht _ _ he) q3.1 q4 hnn how hgb hv
            refine .of_value (exec a w v' w' (by rw [hv1]; exact hr)) ⟨S, _, ?_, h3, h4, h2⟩
            simp only [RS, RS1, RA, upM, if_true]
            refine ⟨Nat.le_refl _, ?_, fun _ => trivial⟩
            rcases how.2 with ⟨e, _⟩ | ⟨_, _, _, e, _⟩ <;> (rw [e]; rfl)
        · cases h
      · cases h
    · cases h
  · rename_i ts k p k' p' hargs
    obtain ⟨hc, h⟩ := chk_some h
    obtain ⟨p1, p2, hy, hyv1, hyv2⟩ : ∃ p1 p2, q.args = #[p1, p2] ∧ opnd s p1 = .one (.v (.int k p)) ∧ opnd s p2 = .one (.v (.int k' p')) := by
      cases hl : q.args.toList with
      | nil => rw [hl] at hargs; simp at hargs
      | cons p1 ps => cases ps with
        | nil => rw [hl] at hargs; simp at hargs
        | cons p2 zs => cases zs with
          | nil => rw [hl] at hargs; simp only [List.map_cons, List.map_nil, List.cons.injEq, and_true] at hargs; exact ⟨p1, p2, arr_of hl, hargs.1, hargs.2⟩
          | cons z zs => rw [hl] at hargs; simp at hargs
    refine ⟨_, _, h, .of_pure fun S w ρ m a w0 inn hx hf hm => ⟨_, run a w _ _ ?_, rs_v rfl⟩⟩
    have e1 := hx p1 (mem p1 (by rw [hy]; simp)); rw [hyv1] at e1
    have e2 := hx p2 (mem p2 (by rw [hy]; simp)); rw [hyv2] at e2
    rw [hy]
    simp only [builtin, Sem.run_bind, List.map_toArray, List.map_cons, List.map_nil, e1.one_v.1, e2.one_v.1, run_min_int2, Result.andThen_ok, Sem.run_pure, Bool.cond_decide]
    try rfl
  · rename_i ts k p k' p' hargs
    obtain ⟨hc, h⟩ := chk_some h
    obtain ⟨p1, p2, hy, hyv1, hyv2⟩ : ∃ p1 p2, q.args = #[p1, p2] ∧ opnd s p1 = .one (.v (.int k p)) ∧ opnd s p2 = .one (.v (.int k' p')) := by
      cases hl : q.args.toList with
      | nil => rw [hl] at hargs; simp at hargs
      | cons p1 ps => cases ps with
        | nil => rw [hl] at hargs; simp at hargs
        | cons p2 zs => cases zs with
          | nil => rw [hl] at hargs; simp only [List.map_cons, List.map_nil, List.cons.injEq, and_true] at hargs; exact ⟨p1, p2, arr_of hl, hargs.1, hargs.2⟩
          | cons z zs => rw [hl] at hargs; simp at hargs
    refine ⟨_, _, h, .of_pure fun S w ρ m a w0 inn hx hf hm => ⟨_, run a w _ _ ?_, rs_v rfl⟩⟩
    have e1 := hx p1 (mem p1 (by rw [hy]; simp)); rw [hyv1] at e1
    have e2 := hx p2 (mem p2 (by rw [hy]; simp)); rw [hyv2] at e2
    rw [hy]
    simp only [builtin, Sem.run_bind, List.map_toArray, List.map_cons, List.map_nil, e1.one_v.1, e2.one_v.1, run_max_int2, Result.andThen_ok, Sem.run_pure, Bool.cond_decide]
    try rfl
  · cases h
end
end Go.Vi
