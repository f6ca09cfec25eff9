/- THE VALUE INTERPRETER: builtins, assignments, things built. No project text. -/
import Derived.Test.YtkpdcieoiciapaaDoorVi12
import Derived.Laws.Small
set_option linter.unusedVariables false
set_option linter.unusedSimpArgs false
namespace Go.Vi
open Go.RowKit
variable {R : Type}
theorem get_flat {α : Type} (n sz : Nat) (get : Nat → Nat → α) (i j : Nat) (hi : i < n) (hj : j < sz) : ((List.range (n * sz)).map fun p => get (p / sz) (p % sz))[i * sz + j]? = some (get i j) := by
  have h1 : i * sz + j < n * sz := by
    have : i * sz + sz ≤ n * sz := by rw [← Nat.succ_mul]; exact Nat.mul_le_mul_right _ hi
    omega
  rw [List.getElem?_map, List.getElem?_range h1]
  have h2 : (i * sz + j) / sz = i := by rw [Nat.mul_comm, Nat.mul_add_div (by omega), Nat.div_eq_of_lt hj]; omega
  have h3 : (i * sz + j) % sz = j := by rw [Nat.mul_comm, Nat.mul_add_mod, Nat.mod_eq_of_lt hj]
  simp [h2, h3]
theorem flat_get {α : Type} (n sz : Nat) (get : Nat → Nat → α) (p : Nat) (u : α) (h : ((List.range (n * sz)).map fun p => get (p / sz) (p % sz))[p]? = some u) : p / sz < n ∧ p % sz < sz ∧ u = get (p / sz) (p % sz) ∧ p = p / sz * sz + p % sz := by
  rw [List.getElem?_map, Option.map_eq_some_iff] at h
  obtain ⟨q, hq, rfl⟩ := h
  have hp : p < n * sz := by simpa using (List.getElem?_eq_some_iff.1 hq).1
  rw [List.getElem?_range hp] at hq
  obtain rfl := Option.some.inj hq
  have hsz : 0 < sz := by
    rcases Nat.eq_zero_or_pos sz with h | h
    · subst h; omega
    · exact h
  exact ⟨(Nat.div_lt_iff_lt_mul hsz).2 hp, Nat.mod_lt _ hsz, rfl, by rw [Nat.mul_comm, Nat.div_add_mod]⟩
theorem arr_of {α : Type} {x : Array α} {l : List α} (h : x.toList = l) : x = l.toArray := by subst h; simp
section
variable {E : Env} {P : Program} {w0 : World} {inn : Inn} {S : Nat → Prop} {ρ : Loc} {m : Mem} {w : World} {o : Oper} {s : TS} {M : List Box} {nx : Nat} {v : Sv} {ef : Eff} {K : Sv → Eff → Option R} {r : R} {f : Nat} {c : Orc}
/-- A slice's cells, one behind the other. -/
theorem SlV.news {fl : Bool} {sz : Nat} {ys : List (List At)} {x : Value} (h : SlV (fun _ => True) S w fl sz ys x) (h0 : 0 < sz ∨ ys = []) :
    ∃ news : List Value, news.length = ys.length * sz ∧ (∀ u ∈ news, u.oneCell' = true) ∧ ((∃ c, x = .slice none 0 c ∧ ys.length = 0 ∧ news = []) ∨ ∃ ad c, x = .slice (some ad) ys.length c ∧ ∀ j u, news[j]? = some u → w.cell? (ad.add j) = some u) ∧
      ∀ (i : Nat) e (j : Nat) z, ys[i]? = some e → e[j]? = some z → ∃ u, news[i * sz + j]? = some u ∧ CV S w z u := by
  obtain ⟨a, n, c, get, rfl, hn, hnc, hl, hf, hm, hr⟩ := h
  have key : ∀ p u, ((List.range (ys.length * sz)).map fun p => get (p / sz) (p % sz))[p]? = some u → ∃ e z, ys[p / sz]? = some e ∧ e[p % sz]? = some z ∧ u = get (p / sz) (p % sz) ∧ p = p / sz * sz + p % sz := by
    intro p u hp
    obtain ⟨h1, h2, h3, h4⟩ := flat_get _ _ _ _ _ hp
    have hy := List.getElem?_eq_getElem h1
    exact ⟨_, (ys[p / sz])[p % sz]'(by rw [hl _ _ hy]; exact h2), hy, List.getElem?_eq_getElem _, h3, h4⟩
  refine ⟨(List.range (ys.length * sz)).map fun p => get (p / sz) (p % sz), by simp, fun u hu => ?_, ?_, fun i e j z he hz => ?_⟩
  · obtain ⟨p, hp⟩ := List.mem_iff_getElem?.1 hu
    obtain ⟨e, z, h1, h2, h3, _⟩ := key p u hp
    rw [h3]; exact (hr _ _ _ _ h1 h2).one
  · cases a with
    | none =>
      cases ys with
      | nil => exact .inl ⟨c, by simp [hn], rfl, by simp⟩
      | cons y ys => obtain ⟨ad, h, _⟩ := hm (by simp); cases h
    | some ad =>
      refine .inr ⟨ad, c, by rw [hn], fun p u hp => ?_⟩
      obtain ⟨e, z, h1, h2, h3, h4⟩ := key p u hp
      cases ys with
      | nil => simp at h1
      | cons y ys =>
        obtain ⟨ad', h, _, hc⟩ := hm (by simp)
        obtain rfl := Option.some.inj h
        rw [h4, h3]
        have := hc _ _ _ _ h1 h2
        rw [← h4] at this ⊢
        exact this
  · have hi := (List.getElem?_eq_some_iff.1 he).1
    have hj : j < sz := by rw [← hl _ _ he]; exact (List.getElem?_eq_some_iff.1 hz).1
    exact ⟨_, get_flat _ _ _ _ _ hi hj, hr _ _ _ _ he hz⟩
theorem news_src {tx : TypeId} {e' : TypeId} {sz : Nat} {ys : List (List At)} {x : Value} {news : List Value} (hk : P.underlying tx = some (.slice e')) (hl : news.length = ys.length * sz) (h1 : ∀ u ∈ news, u.oneCell' = true)
    (h : (∃ c, x = .slice none 0 c ∧ ys.length = 0 ∧ news = []) ∨ ∃ ad c, x = .slice (some ad) ys.length c ∧ ∀ j u, news[j]? = some u → w.cell? (ad.add j) = some u) : Src P sz tx x ys.length news w := by
  rcases h with ⟨c, rfl, h2, rfl⟩ | ⟨ad, c, rfl, hc⟩
  · rw [h2]; exact Src.ofNil w hk c
  · exact Src.ofSlice w hk ad _ c news hl hc h1
theorem allStor_spec {fl : Bool} {es : List (List At)} (h : allStor fl es = true) {e : List At} {x : At} (he : e ∈ es) (hx : x ∈ e) : storable fl x = true :=
  List.all_eq_true.1 (List.all_eq_true.1 h e he) x hx
theorem storable_isV {x : At} (h : storable true x = true) : isV x = true := by cases x <;> first | rfl | simp [storable] at h

theorem append_mr (hm : MR E w0 inn S ρ m w) {a e k sz : Nat} {fl : Bool} {es ys : List (List At)} {vold v' : Value} {w' : World} {xs news : List Value} {b : Box}
    (hb : (m a = .gone ∧ blk vold = none) ∨ (m a = b ∧ ∃ k', k' < k ∧ b = .row e k' false fl sz es ∧ vold = ρ a)) (hsz : 0 < sz)
    (hlen : ∀ (i : Nat) e', (es ++ ys)[i]? = some e' → e'.length = sz) (hflat : fl = true → ∀ (i : Nat) e', (es ++ ys)[i]? = some e' → ∀ x ∈ e', isV x = true)
    (hxl : xs.length = es.length * sz) (hx : ∀ (i : Nat) e' (j : Nat) z, es[i]? = some e' → e'[j]? = some z → ∃ u, xs[i * sz + j]? = some u ∧ CV S w z u)
    (hn : ∀ (i : Nat) e' (j : Nat) z, ys[i]? = some e' → e'[j]? = some z → ∃ u, news[i * sz + j]? = some u ∧ CV S w z u)
    (ho : Owns w' e sz v' (es.length + ys.length) (xs ++ news)) (hg : w.grownBy w' (blk vold)) (hv : ∀ g, blk v' = some g → blk vold = some g ∨ (w.heap.size ≤ g ∧ g < w'.heap.size)) :
    MR E w0 inn S (fun x => if x = a then v' else ρ x) (fun x => if x = a then .row e k false fl sz (es ++ ys) else m x) w' ∧ Kp S S w w' ∧
    Le ρ m (fun x => if x = a then v' else ρ x) (fun x => if x = a then .row e k false fl sz (es ++ ys) else m x) := by
  refine hm.step (row := blk vold) hg (fun g h => ?_) (fun h => ?_) rfl ?_ (fun g h => ?_) (fun hk hl => ?_)
  · rcases hb with ⟨h1, h2⟩ | ⟨h1, k', h2, h3, h4⟩
    · rw [h2] at h; cases h
    · exact ⟨by rw [h1, h3]; simp, by rw [← h4]; exact h⟩
  · rcases hb with ⟨h1, h2⟩ | ⟨h1, k', h2, h3, h4⟩
    · exact absurd h1 h
    · rw [h1, h3]; rfl
  · rcases hb with ⟨h1, h2⟩ | ⟨h1, k', h2, h3, h4⟩
    · rw [h1]; trivial
    · rw [h1, h3]; exact ⟨_, _, _, _, _, rfl, .inl h2⟩
  · rcases hb with ⟨h1, h2⟩ | ⟨h1, k', h2, h3, h4⟩
    · rcases hv g h with h5 | h5
      · rw [h2] at h5; cases h5
      · exact .inr h5
    · rcases hv g h with h5 | h5
      · exact .inl ⟨by rw [← h4]; exact h5, by rw [h1, h3]; simp⟩
      · exact .inr h5
  · refine ⟨hsz, hlen, hflat, xs ++ news, by dsimp only; rw [if_pos rfl, List.length_append]; exact ho, fun i e' j z he hz => ?_⟩
    rw [List.getElem?_append] at he
    split at he
    · rename_i hi
      obtain ⟨u, hu, hc⟩ := hx i e' j z he hz
      refine ⟨u, ?_, hc.keep hk⟩
      rw [List.getElem?_append_left (by exact (List.getElem?_eq_some_iff.1 hu).1)]
      exact hu
    · rename_i hi
      obtain ⟨u, hu, hc⟩ := hn _ e' j z he hz
      refine ⟨u, ?_, hc.keep hk⟩
      have : es.length * sz ≤ i * sz := Nat.mul_le_mul_right _ (by omega)
      rw [List.getElem?_append_right (by omega), hxl]
      rw [show i * sz + j - es.length * sz = (i - es.length) * sz + j by rw [Nat.sub_mul]; omega]
      exact hu

/-- Elements written over a row's. -/
theorem put_row {S' : Nat → Prop} {w' : World} {e sz : Nat} {k : Nat} {fl : Bool} {es ys : List (List At)} {xs news : List Value} {hi g cc : Nat} {cur : Array Value} {a : Nat} {n : Nat} (r0 : 0 < sz)
    (r1 : ∀ (i : Nat) e', es[i]? = some e' → e'.length = sz) (r2 : fl = true → ∀ (i : Nat) e', es[i]? = some e' → ∀ x ∈ e', isV x = true)
    (r4 : ∀ (i : Nat) e' (j : Nat) x, es[i]? = some e' → e'[j]? = some x → ∃ u, xs[i * sz + j]? = some u ∧ CV S w x u)
    (hn0 : news.length = ys.length * sz) (hl' : ∀ (i : Nat) e', ys[i]? = some e' → e'.length = sz) (hf' : fl = true → ∀ (i : Nat) e', ys[i]? = some e' → ∀ x ∈ e', isV x = true)
    (hnn : ∀ (i : Nat) e' (j : Nat) z, ys[i]? = some e' → e'[j]? = some z → ∃ u, news[i * sz + j]? = some u ∧ CV S' w' z u) (keep : ∀ x u, CV S w x u → CV S' w' x u)
    (q3 : ρ a = .slice (some ⟨g, 0, none⟩) n cc) (hcap : 0 < cc) (h5 : cc ≤ maxLen) (h4 : n ≤ cc) (hcl : cur.toList.length = cc * sz) (h7 : cur.toList.take (n * sz) = xs) (hw' : w'.heap[g]? = some (.cells (setVs cur.toList (hi * sz) news).toArray e (0, 0)))
    (hfit : hi + ys.length ≤ es.length) (hne : n = es.length := by rfl) : BR S' w' ρ m a (.row e k false fl sz (es.take hi ++ ys ++ es.drop (hi + ys.length))) := by
  subst hne
  have e7 : (hi + ys.length) * sz ≤ es.length * sz := Nat.mul_le_mul_right _ hfit
  have e8 : es.length * sz ≤ cc * sz := Nat.mul_le_mul_right _ h4
  rw [Nat.add_mul] at e7
  have hlen : (es.take hi ++ ys ++ es.drop (hi + ys.length)).length = es.length := by simp; omega
  have get : ∀ (i : Nat) e', (es.take hi ++ ys ++ es.drop (hi + ys.length))[i]? = some e' → (hi ≤ i ∧ i < hi + ys.length ∧ ys[i - hi]? = some e') ∨ ((i < hi ∨ hi + ys.length ≤ i) ∧ es[i]? = some e') := by
    intro i e' he
    rw [List.getElem?_append] at he
    split at he
    · rename_i h1
      rw [List.getElem?_append] at he
      split at he
      · rename_i h2
        rw [List.length_take] at h2
        exact .inr ⟨.inl (by omega), (take_get he).2⟩
      · rename_i h2
        have ht : (es.take hi).length = hi := by rw [List.length_take]; omega
        rw [ht] at he
        rw [List.length_append, ht] at h1
        rw [ht] at h2
        exact .inl ⟨by omega, by omega, he⟩
    · rename_i h1
      have ht : (es.take hi ++ ys).length = hi + ys.length := by simp; omega
      rw [ht] at he h1
      rw [List.getElem?_drop] at he
      exact .inr ⟨.inr (by omega), by rw [show i = hi + ys.length + (i - (hi + ys.length)) by omega]; exact he⟩
  refine ⟨r0, fun i e' he => ?_, fun hfl i e' he x hx => ?_, setVs xs (hi * sz) news, ?_, fun i e' j x he hx => ?_⟩
  · rcases get i e' he with ⟨_, _, h⟩ | ⟨_, h⟩
    · exact hl' _ _ h
    · exact r1 _ _ h
  · rcases get i e' he with ⟨_, _, h⟩ | ⟨_, h⟩
    · exact hf' hfl _ _ h x hx
    · exact r2 hfl _ _ h x hx
  · have hxl : xs.length = es.length * sz := by rw [← h7, List.length_take]; omega
    rw [q3, hlen]
    refine ⟨by rw [setVs_length, hxl], .inr ⟨g, cc, _, rfl, hcap, hw', h4, h5, by simp [setVs_length]; simpa using hcl, ?_⟩⟩
    apply List.ext_getElem?
    intro p
    rw [List.getElem?_take]
    dsimp only
    rw [setVs_get _ _ _ _ (by omega), setVs_get _ _ _ _ (by omega), ← h7, List.getElem?_take]
    split <;> split <;> first | rfl | omega
  · have hxl : xs.length = es.length * sz := by rw [← h7, List.length_take]; omega
    rw [setVs_get _ _ _ _ (by omega)]
    rcases get i e' he with ⟨h1, h2, h⟩ | ⟨h1, h⟩
    · have hj : j < sz := by rw [← hl' _ _ h]; exact (List.getElem?_eq_some_iff.1 hx).1
      obtain ⟨u, hu, hcv⟩ := hnn _ _ _ _ h hx
      have e9 : hi * sz ≤ i * sz := Nat.mul_le_mul_right _ h1
      have e10 : (i - hi) * sz = i * sz - hi * sz := by rw [Nat.sub_mul]
      have e11 : i * sz + sz ≤ (hi + ys.length) * sz := by rw [← Nat.succ_mul]; exact Nat.mul_le_mul_right _ h2
      rw [Nat.add_mul] at e11
      refine ⟨u, ?_, hcv⟩
      rw [if_pos ⟨by omega, by omega⟩, show i * sz + j - hi * sz = (i - hi) * sz + j by omega]
      exact hu
    · have hj : j < sz := by rw [← r1 _ _ h]; exact (List.getElem?_eq_some_iff.1 hx).1
      obtain ⟨u, hu, hcv⟩ := r4 _ _ _ _ h hx
      refine ⟨u, ?_, keep _ _ hcv⟩
      rw [if_neg ?_]
      · exact hu
      · rcases h1 with h1 | h1
        · have : i * sz + sz ≤ hi * sz := by rw [← Nat.succ_mul]; exact Nat.mul_le_mul_right _ h1
          omega
        · have : (hi + ys.length) * sz ≤ i * sz := Nat.mul_le_mul_right _ h1
          rw [Nat.add_mul] at this
          omega
theorem dest_spec {x : At} {a k lo hi sz e : Nat} {fl : Bool} {es : List (List At)} (h : dest M x = some (a, k, lo, hi, fl, sz, es, e)) : M.getD a .gone = .row e k false fl sz es ∧ a ∈ ownId x ∧ ((x = .own a k ∧ lo = 0 ∧ hi = es.length) ∨ x = .part a k lo hi) := by
  unfold dest at h
  split at h
  · rename_i a' k'
    split at h
    · rename_i e' k2 fl' sz' es' hM
      split at h
      · rename_i hk
        simp only [Option.some.injEq, Prod.mk.injEq] at h
        obtain ⟨rfl, rfl, rfl, rfl, rfl, rfl, rfl, rfl⟩ := h
        obtain rfl : k' = k2 := by simpa using hk
        exact ⟨hM, by simp [ownId], .inl ⟨rfl, rfl, rfl⟩⟩
      · cases h
    · cases h
  · rename_i a' k' lo' hi'
    split at h
    · rename_i e' k2 fl' sz' es' hM
      split at h
      · rename_i hk
        simp only [Option.some.injEq, Prod.mk.injEq] at h
        obtain ⟨rfl, rfl, rfl, rfl, rfl, rfl, rfl, rfl⟩ := h
        obtain rfl : k' = k2 := by simpa using hk
        exact ⟨hM, by simp [ownId], .inr rfl⟩
      · cases h
    · cases h
  · cases h
theorem dest_write (hm : MR E w0 inn S ρ m w) {x : At} {u : Value} {a k lo hi sz e : Nat} {fl : Bool} {es ys : List (List At)} {news : List Value} (hd : dest M x = some (a, k, lo, hi, fl, sz, es, e)) (hf : ∀ i ∈ ownId x, m i = memOf M i) (hx : RA S w ρ m x u)
    (hn0 : news.length = ys.length * sz) (hl' : ∀ (i : Nat) e', ys[i]? = some e' → e'.length = sz) (hf' : fl = true → ∀ (i : Nat) e', ys[i]? = some e' → ∀ x ∈ e', isV x = true) (h1 : ∀ u ∈ news, u.oneCell' = true)
    (hnn : ∀ (i : Nat) e' (j : Nat) z, ys[i]? = some e' → e'[j]? = some z → ∃ u, news[i * sz + j]? = some u ∧ CV S w z u) (hle : lo + ys.length ≤ hi) :
    ∃ ad c w', u = .slice ad (hi - lo) c ∧ (∀ b, ad = some b → (storeCells b news).run P w = .ok () w') ∧ (ad = none → w' = w) ∧ (ys = [] → w' = w) ∧ lo ≤ hi ∧ hi ≤ es.length ∧
      ∃ ρ', MR E w0 inn S ρ' (fun x => if x = a then .row e k false fl sz (putAll es lo ys) else m x) w' ∧ Kp S S w w' ∧ Le ρ m ρ' (fun x => if x = a then .row e k false fl sz (putAll es lo ys) else m x) := by
  obtain ⟨hM, hao, hxx⟩ := dest_spec hd
  have hma : m a = .row e k false fl sz es := (hf a hao).trans hM
  have key : lo ≤ hi ∧ hi ≤ es.length ∧ ∃ ad n c ad', ρ a = .slice ad n c ∧ u = .slice ad' (hi - lo) (c - lo) ∧ (lo < c → ad' = ad.map (·.add (lo * sz))) := by
    rcases hxx with ⟨rfl, rfl, rfl⟩ | rfl
    · simp only [RA, hma] at hx
      have hv := hx.2.2 trivial
      obtain ⟨ad, n, c, _, h2, h3, h4, _⟩ := row_slv hm hma
      refine ⟨Nat.zero_le _, Nat.le_refl _, ad, n, c, ad, h2, by rw [hv, h2, h3]; rfl, fun _ => ?_⟩
      cases ad with
      | none => rfl
      | some b => simp [Addr.add_zero']
    · simp only [RA, hma] at hx
      exact hx.2.2 trivial
  obtain ⟨k1, k2, ad, n, c, ad', k3, k4, k5⟩ := key
  have hb := hm.box a
  rw [hma] at hb
  obtain ⟨r0, r1, r2, xs, r3, r4⟩ := hb
  cases ys with
  | nil =>
    have hn : news = [] := List.length_eq_zero_iff.1 (by rw [hn0]; simp)
    subst hn
    have e1 : putAll es lo [] = es := by simp [putAll]
    have hst := hm.step (i := a) (b := .row e k false fl sz (putAll es lo [])) (loc := ρ a) (row := none) (w' := w) ⟨rfl, rfl, rfl, Nat.le_refl _, fun _ _ _ => rfl⟩ (fun g h => by cases h) (fun _ => by rw [hma]; rfl) rfl
      (by rw [hma, e1]; exact ⟨_, _, _, _, _, rfl, .inr ⟨rfl, rfl, rfl⟩⟩) (fun g hg => .inl ⟨hg, by rw [hma]; simp⟩)
      (fun hk hl => by
        rw [e1]
        exact ⟨r0, r1, r2, xs, by dsimp only; rw [if_pos rfl]; exact r3, r4⟩)
    exact ⟨ad', _, w, k4, fun b _ => rfl, fun _ => rfl, fun _ => rfl, k1, k2, _, hst.1, hst.2.1, hst.2.2⟩
  | cons y ys =>
    simp only [List.length_cons] at hle
    rcases r3.2 with ⟨ad0, q1, q2⟩ | ⟨g, cap, cur, q1, hcap, q3, q4, q5, q6, q7⟩
    · omega
    · rw [k3] at q1
      simp only [Value.slice.injEq] at q1
      obtain ⟨rfl, rfl, rfl⟩ := q1
      have ha' : ad' = some ⟨g, lo * sz, none⟩ := by rw [k5 (by omega)]; simp [addr_add0]
      subst ha'
      have hcl : cur.toList.length = c * sz := by simpa using q6
      have e7 : (lo + (ys.length + 1)) * sz ≤ es.length * sz := Nat.mul_le_mul_right _ (by omega)
      have e8 : es.length * sz ≤ c * sz := Nat.mul_le_mul_right _ q4
      rw [Nat.add_mul] at e7
      simp only [List.length_cons] at hn0
      have hfit : lo * sz + news.length ≤ cur.size := by rw [hn0]; simp only [Array.length_toList] at hcl; omega
      have hst0 := run_storeCells_cells (P := P) g (lo * sz) news 0 w (fun j hj => by
          rw [cell_of_row w g _ _ _ (0, 0) q3, Nat.add_zero]
          simp [show lo * sz + j < cur.size by omega]) (fun j hj => by rw [frozen_of_row w g _ _ _ q3]) h1
      rw [Nat.add_zero] at hst0
      have hg' : w.heap[g]? = some (.cells cur.toList.toArray e (0, 0)) := by simpa using q3
      obtain ⟨h4, h5⟩ := heap_setCells g e news (lo * sz) w _ hg'
      have hlen : (putAll es lo (y :: ys)).length = es.length := by simp [putAll]; omega
      have hst := hm.step (i := a) (b := .row e k false fl sz (putAll es lo (y :: ys))) (loc := ρ a) (row := some g) (w' := w.setCells g (lo * sz) news) h5
        (fun g' e => by
          simp only [Option.some.injEq] at e; subst e
          exact ⟨by rw [hma]; simp, by rw [k3, blk_pos hcap]⟩) (fun _ => by rw [hma]; rfl) rfl
        (by rw [hma]; exact ⟨_, _, _, _, _, rfl, .inr ⟨rfl, hlen, rfl⟩⟩) (fun g hg => .inl ⟨hg, by rw [hma]; simp⟩)
        (fun hk hl => put_row r0 r1 r2 r4 (by simpa using hn0) hl' hf' (fun i e' j z he hz => let ⟨u, hu, hcv⟩ := hnn i e' j z he hz; ⟨u, hu, hcv.keep hk⟩) (fun x u h => h.keep hk)
          (by first | exact (if_pos rfl).trans k3 | exact k3) hcap q5 q4 hcl q7 h4 (by simp only [List.length_cons]; omega))
      refine ⟨_, _, _, k4, fun b hb => ?_, fun h => (nomatch h), fun h => (nomatch h), k1, k2, _, hst.1, hst.2.1, hst.2.2⟩
      obtain rfl := Option.some.inj hb
      exact hst0
theorem o_builtin (hT : TOK P E.T) {b : Builtin} {q : Call} (ho : o.op = .call q) (hq : q.callee = .builtin b) (h : vop E f c o s M nx K = some r) (hnx : nx = M.length) : ∃ v ef, K v ef = some r ∧ Good E P o s M nx v ef := by
  unfold vop at h; rw [ho] at h
  dsimp only at h
  rw [hq] at h
  dsimp only at h
  have mem : ∀ x ∈ q.args, x ∈ o.op.operands.toList := by
    intro x hx
    rw [ho]
    simp [Op.operands, Call.operands, hx]
  have run : ∀ (a : Act) w u w', (builtin b q.argTypes o.type (q.args.map fun | .const _ => true | _ => false) (q.args.map a.eval)).run P w = .ok u w' → (execOp a.eval o).run P w = .ok u w' := by
    intro a w u w' hr
    unfold execOp; rw [ho]; dsimp only
    simp only [resolve, hq, Sem.run_bind, Sem.run_pure, Result.andThen_ok, invoke]
    exact hr
  unfold vbuiltin at h
  have fst : ∀ {ts : List Nat}, q.argTypes.toList = ts → q.argTypes = ts.toArray := by rintro ts rfl; simp
  split at h
  · rename_i t x hts hargs
    obtain ⟨hc, h⟩ := chk_some h
    simp only [Bool.and_eq_true] at hc
    have hu := tok_str hT hc.1 hc.2
    obtain ⟨y, hy, hyv⟩ : ∃ y, q.args = #[y] ∧ opnd s y = .one (.v (.string x)) := by
      cases hl : q.args.toList with
      | nil => rw [hl] at hargs; simp at hargs
      | cons y ys => cases ys with
        | nil => rw [hl] at hargs; exact ⟨y, arr_of hl, by simpa using hargs⟩
        | cons z zs => rw [hl] at hargs; simp at hargs
    refine ⟨_, _, h, .of_pure fun S w ρ m a w0 inn hx hf hm => ⟨goInt x.size, run a w _ _ ?_, rs_v rfl⟩⟩
    have e1 := hx y (mem y (by rw [hy]; simp)); rw [hyv] at e1
    rw [hy, fst hts]
    simp [builtin, e1.one_v.1, run_len_string w t o.type x hu]
  · rename_i t x _ hts hargs
    split at h
    · rename_i fl sz es hes
      obtain ⟨hc, h⟩ := chk_some h
      simp only [Bool.and_eq_true] at hc
      obtain ⟨hu, he⟩ := tok_slice hT hc.1 hc.2
      obtain ⟨y, hy, hyv⟩ : ∃ y, q.args = #[y] ∧ opnd s y = .one x := by
        cases hl : q.args.toList with
        | nil => rw [hl] at hargs; simp at hargs
        | cons y ys => cases ys with
          | nil => rw [hl] at hargs; exact ⟨y, arr_of hl, by simpa using hargs⟩
          | cons z zs => rw [hl] at hargs; simp at hargs
      refine ⟨_, _, h, .of_pure fun S w ρ m a w0 inn hx hf hm => ⟨goInt es.length, run a w _ _ ?_, rs_v rfl⟩⟩
      have e1 := hx y (mem y (by rw [hy]; simp)); rw [hyv] at e1
      obtain ⟨ad, n, cc, get, hv, hn, _⟩ := elems_sound hm hes e1 (fun i hi => hf i (by simp [foot, ho, hq, hy, hyv, svAts, hi]))
      rw [hy, fst hts]
      subst hn
      simp [builtin, hv, run_len_slice w t o.type ad es.length cc (by rw [elem_of hu]; exact hu)]
    · cases h
  · rename_i t t' x y hts hargs
    split at h
    · rename_i fl sz ys hes
      obtain ⟨hc, h⟩ := chk_some h
      simp only [Bool.and_eq_true, Bool.or_eq_true, beq_iff_eq, List.isEmpty_iff] at hc
      obtain ⟨⟨⟨⟨⟨⟨hok, hsl⟩, hfl⟩, hsz⟩, hok'⟩, hkind⟩, hst⟩ := hc
      obtain ⟨p1, p2, hy, hyv1, hyv2⟩ : ∃ p1 p2, q.args = #[p1, p2] ∧ opnd s p1 = .one x ∧ opnd s p2 = .one y := by
        cases hl : q.args.toList with
        | nil => rw [hl] at hargs; simp at hargs
        | cons p1 ps => cases ps with
          | nil => rw [hl] at hargs; simp at hargs
          | cons p2 zs => cases zs with
            | nil => rw [hl] at hargs; simp only [List.map_cons, List.map_nil, List.cons.injEq, and_true] at hargs; exact ⟨p1, p2, arr_of hl, hargs.1, hargs.2⟩
            | cons z zs => rw [hl] at hargs; simp at hargs
      have hfo : ∀ i, i ∈ ownId x ∨ i ∈ ownId y → i ∈ foot s M o := by
        intro i hi
        simp [foot, ho, hq, hy, hyv1, hyv2, svAts, hi]
      have exec : ∀ (a : Act) w v' w', (Builtin.append_ #[t, t'] o.type #[a.eval p1, a.eval p2]).run P w = .ok v' w' → (execOp a.eval o).run P w = .ok (.value v') w' := by
        intro a w v' w' hr
        refine run a w _ _ ?_
        rw [hy, fst hts]
        simp [builtin, hr]
      have src : ∀ (S : Nat → Prop) w ρ m (a : Act) w0 inn, (∀ x ∈ o.op.operands.toList, RS S w ρ m (opnd s x) (a.eval x)) → (∀ i ∈ foot s M o, m i = memOf M i) → MR E w0 inn S ρ m w → 0 < (E.T (E.T t).elem).size →
          ∃ news, Src P (E.T (E.T t).elem).size t' (a.eval p2) ys.length news w ∧ (∀ (i : Nat) e', ys[i]? = some e' → e'.length = (E.T (E.T t).elem).size) ∧ ((E.T (E.T t).elem).flat = true → ∀ (i : Nat) e', ys[i]? = some e' → ∀ x ∈ e', isV x = true) ∧
            ∀ (i : Nat) e (j : Nat) z, ys[i]? = some e → e[j]? = some z → ∃ u, news[i * (E.T (E.T t).elem).size + j]? = some u ∧ CV S w z u := by
        intro S w ρ m a w0 inn hx hf hm h0
        have e2 := hx p2 (mem p2 (by rw [hy]; simp)); rw [hyv2] at e2
        have flat : (E.T (E.T t).elem).flat = true → ∀ (i : Nat) e', ys[i]? = some e' → ∀ x ∈ e', isV x = true := fun ht i e' he' z hz =>
          storable_isV (by have := allStor_spec hst (List.mem_of_getElem? he') hz; rw [ht] at this; exact this)
        unfold srcs at hes
        split at hes
        · rename_i b
          simp only [Option.some.injEq, Prod.mk.injEq] at hes
          obtain ⟨rfl, rfl, rfl⟩ := hes
          have hv := e2.one_v.1
          rw [hv]
          simp only [srcOk, Bool.and_eq_true] at hkind
          have hs1 : (E.T (E.T t).elem).size = 1 := Nat.eq_of_beq_eq_true hkind.2
          have hstr := tok_str hT hok' hkind.1
          rw [hs1]
          refine ⟨byteCells b, by simpa using Src.ofString (P := P) w hstr b, fun i e' he' => ?_, flat, fun i e' j z he' hz => ?_⟩
          · rw [List.getElem?_map, Option.map_eq_some_iff] at he'
            obtain ⟨x, _, rfl⟩ := he'; rfl
          · rw [List.getElem?_map, Option.map_eq_some_iff] at he'
            obtain ⟨x, hx, rfl⟩ := he'
            have hj : j = 0 := by
              rcases j with _ | j
              · rfl
              · simp at hz
            subst hj
            simp only [List.getElem?_cons_zero, Option.some.injEq] at hz
            subst hz
            refine ⟨.int .u8 x.toNat, ?_, .v rfl⟩
            rw [Nat.mul_one, Nat.add_zero]
            simp only [byteCells, List.getElem?_map, hx, Option.map_some]
        · rename_i hns
          have := elems_sound hm hes e2 (fun i hi => hf i (hfo i (.inr hi)))
          have hsv : SlV (fun _ => True) S w (E.T (E.T t).elem).flat (E.T (E.T t).elem).size ys (a.eval p2) := by
            obtain ⟨ad, n, cc, get, hv, hn, hnc, hl, hff, hmm, hr⟩ := this
            refine ⟨ad, n, cc, get, hv, hn, hnc, ?_, flat, fun hne => ?_, hr⟩
            · rcases hsz with rfl | rfl
              · exact hl
              · intro i e' he'; simp at he'
            · rcases hsz with rfl | rfl
              · exact hmm hne
              · exact absurd rfl hne
          have hk : ∃ e', P.underlying t' = some (.slice e') := by
            have : (E.T t').isSlice = true := by
              unfold srcOk at hkind
              split at hkind
              · simp [elems] at hes
              · exact hkind
            exact ⟨_, (tok_slice hT hok' this).1⟩
          obtain ⟨e', hk⟩ := hk
          obtain ⟨news, hl, h1, hxx, hnn⟩ := hsv.news (.inl h0)
          obtain ⟨_, _, _, _, _, _, _, hl', hf', _⟩ := hsv
          exact ⟨news, news_src hk hl h1 hxx, hl', hf', hnn⟩
      unfold appendTo at h
      split at h
      · obtain ⟨hc, h⟩ := chk_some h
        obtain ⟨hby, h⟩ := chk_some h
        simp only [Bool.and_eq_true, decide_eq_true_eq] at hc hby
        refine ⟨_, _, h, fun p hp hlt => ?_, fun w0 inn S ρ m a w hx hf hnew hm => ?_⟩
        · simp only [List.mem_singleton] at hp; subst hp; exact absurd hlt (Nat.lt_irrefl _)
        · obtain ⟨news, hsv, hl', hf', hnn⟩ := src S w ρ m a w0 inn hx hf hm hc.2
          have e1 := hx p1 (mem p1 (by rw [hy]; simp)); rw [hyv1] at e1
          have e1' : CV S w .nils (a.eval p1) := e1
          obtain ⟨ad, hv1⟩ : ∃ ad, a.eval p1 = .slice ad 0 0 := by
            generalize a.eval p1 = u at e1'
            cases e1'; exact ⟨_, rfl⟩
          obtain ⟨v', w', hr, how, hgb, hv⟩ := append_src hT hok hsl hc.2 (ty := o.type) (Owns.nil w _ _ ad) hsv (by simpa using hby) hc.1
          have hgone := hnew (nx, _) (List.mem_singleton.2 rfl) (Nat.le_refl _)
          obtain ⟨h2, h3, h4⟩ := append_mr hm (a := nx) (e := (E.T t).elem) (k := 0) (fl := (E.T (E.T t).elem).flat) (es := []) (ys := ys) (b := .gone) (xs := []) (.inl ⟨hgone, blk_zero _ _⟩) hc.2 (by simpa using hl') (by simpa using hf') (by simp) (fun i e' j z he => by simp at he) hnn (by simpa using how) hgb hv
          refine .of_value (exec a w v' w' (by rw [hv1]; exact hr)) ⟨S, _, ?_, h3, h4, h2⟩
          simp only [RS, RS1, RA, upM, if_true]
          refine ⟨Nat.le_refl _, ?_, fun _ => trivial⟩
          rcases how.2 with ⟨_, e, _⟩ | ⟨_, _, _, e, _⟩ <;> (rw [e]; rfl)
      · rename_i fl' sz' es _
        obtain ⟨hc, h⟩ := chk_some h
        obtain ⟨hne, h⟩ := chk_some h
        obtain ⟨hby, h⟩ := chk_some h
        simp only [Bool.and_eq_true, decide_eq_true_eq, beq_iff_eq, Bool.not_eq_true', List.isEmpty_eq_false_iff] at hc hby hne
        obtain ⟨⟨⟨⟨hb0, hs0⟩, hss⟩, hff⟩, hst2⟩ := hc
        refine ⟨_, _, h, fun p hp hlt => ?_, fun w0 inn S ρ m a w hx hf hnew hm => ?_⟩
        · simp only [List.mem_singleton] at hp; subst hp; exact absurd hlt (Nat.lt_irrefl _)
        · obtain ⟨news, hsv, hl', hf', hnn⟩ := src S w ρ m a w0 inn hx hf hm hs0
          have e1 := hx p1 (mem p1 (by rw [hy]; simp)); rw [hyv1] at e1
          have e1' : CV S w (.fix fl' sz' es) (a.eval p1) := e1
          subst hss
          have hfs := (fix_slv e1').mono (B' := fun _ => True) fun _ _ => trivial
          obtain ⟨olds, ol, o1, oxx, onn⟩ := hfs.news (.inl hs0)
          obtain ⟨_, _, _, _, _, _, _, ol', _, _⟩ := hfs
          have hpos : 0 < ys.length := List.length_pos_iff.2 hne
          have hold : ∃ ad, a.eval p1 = .slice ad es.length es.length ∧ (Builtin.firstCells (E.T (E.T t).elem).size es.length (.slice ad es.length es.length)).run P w.drew = .ok olds.toArray w.drew := by
            have hnc : ∃ ad, a.eval p1 = .slice ad es.length es.length := by
              generalize a.eval p1 = u at e1'
              cases e1' with
              | fix get hn hl hf hm hr => subst hn; exact ⟨_, rfl⟩
            obtain ⟨ad, hv⟩ := hnc
            refine ⟨ad, hv, ?_⟩
            rcases oxx with ⟨c, h1, h2, h3⟩ | ⟨ad', c, h1, h2⟩
            · rw [hv] at h1
              simp only [Value.slice.injEq] at h1
              obtain ⟨rfl, _, _⟩ := h1
              subst h3
              exact run_firstCells_none w.drew _ _ _ _
            · rw [hv] at h1
              simp only [Value.slice.injEq] at h1
              obtain ⟨rfl, _, _⟩ := h1
              exact run_firstCells_some w.drew _ _ _ _ _ olds ol (fun j u hu => h2 j u hu)
          obtain ⟨ad, hv1, hold⟩ := hold
          obtain ⟨v', w', hr, how, hgb, hv⟩ := append_new hT hok hsl (ty := o.type) hold ol hsv (by omega) hby hb0
          have hgone := hnew (nx, _) (List.mem_singleton.2 rfl) (Nat.le_refl _)
          obtain ⟨h2, h3, h4⟩ := append_mr hm (a := nx) (e := (E.T t).elem) (k := 0) (fl := (E.T (E.T t).elem).flat) (es := es) (ys := ys) (b := .gone) (xs := olds) (vold := .slice none 0 0) (.inl ⟨hgone, rfl⟩) hs0
            (fun i e' he => by
              rw [List.getElem?_append] at he
              split at he
              · exact ol' _ _ he
              · exact hl' _ _ he)
            (fun ht i e' he z hz => by
              rw [List.getElem?_append] at he
              split at he
              · exact storable_isV (by have := allStor_spec hst2 (List.mem_of_getElem? he) hz; rw [ht] at this; exact this)
              · exact hf' ht _ _ he z hz) ol onn hnn how (hgb _) (fun g hg => .inr (hv g hg))
          refine .of_value (exec a w v' w' (by rw [hv1]; exact hr)) ⟨S, _, ?_, h3, h4, h2⟩
          simp only [RS, RS1, RA, upM, if_true]
          refine ⟨Nat.le_refl _, ?_, fun _ => trivial⟩
          rcases how.2 with ⟨_, e, _⟩ | ⟨_, _, _, e, _⟩ <;> (rw [e]; rfl)
      · rename_i b k _
        split at h
        · rename_i e' k' fz fl' sz' es hM
          obtain ⟨hc, h⟩ := chk_some h
          obtain ⟨hby, h⟩ := chk_some h
          simp only [Bool.and_eq_true, decide_eq_true_eq, Bool.not_eq_true', beq_iff_eq] at hc hby
          obtain ⟨⟨⟨⟨⟨hkk, hfz⟩, hee⟩, hff⟩, hss⟩, hb0⟩ := hc
          refine ⟨_, _, h, fun p hp hlt => ?_, fun w0 inn S ρ m a w hx hf hnew hm => ?_⟩
          · simp only [List.mem_singleton] at hp; subst hp; exact hfo b (.inl (by simp [ownId]))
          · have hma : m b = .row e' k' fz fl' sz' es := (hf b (hfo b (.inl (by simp [ownId])))).trans hM
            have hbx := hm.box b
            rw [hma] at hbx
            obtain ⟨q0, q1, q2, xs, q3, q4⟩ := hbx
            have hsz0 : 0 < (E.T (E.T t).elem).size := by omega
            obtain ⟨news, hsv, hl', hf', hnn⟩ := src S w ρ m a w0 inn hx hf hm hsz0
            have e1 := hx p1 (mem p1 (by rw [hy]; simp)); rw [hyv1] at e1
            have e1' : RA S w ρ m (.own b k) (a.eval p1) := e1
            simp only [RA, hma] at e1'
            have hv1 := e1'.2.2 hkk
            subst hee hff hss hkk hfz
            obtain ⟨v', w', hr, how, hgb, hv⟩ := append_src hT hok hsl hsz0 (ty := o.type) q3 hsv hby hb0
            obtain ⟨h2, h3, h4⟩ := append_mr hm (a := b) (k := k + 1) (es := es) (ys := ys) (.inr ⟨hma, k, Nat.lt_succ_self k, rfl, rfl⟩) hsz0
              (fun i e' he => by
                rw [List.getElem?_append] at he
                split at he
                · exact q1 _ _ he
                · exact hl' _ _ he)
              (fun ht i e' he => by
                rw [List.getElem?_append] at he
                split at he
                · exact q2 ht _ _ he
                · exact hf' ht _ _ he) q3.1 q4 hnn how hgb hv
            refine .of_value (exec a w v' w' (by rw [hv1]; exact hr)) ⟨S, _, ?_, h3, h4, h2⟩
            simp only [RS, RS1, RA, upM, if_true]
            refine ⟨Nat.le_refl _, ?_, fun _ => trivial⟩
            rcases how.2 with ⟨_, e, _⟩ | ⟨_, _, _, e, _⟩ <;> (rw [e]; rfl)
        · cases h
      · rename_i b k hi _
        split at h
        · rename_i e' k' fz fl' sz' es hM
          obtain ⟨hc, h⟩ := chk_some h
          obtain ⟨hfit, h⟩ := chk_some h
          simp only [Bool.and_eq_true, decide_eq_true_eq, Bool.not_eq_true', beq_iff_eq] at hc hfit
          obtain ⟨⟨⟨⟨hkk, hfz⟩, hee⟩, hff⟩, hss⟩ := hc
          refine ⟨_, _, h, fun p hp hlt => ?_, fun w0 inn S ρ m a w hx hf hnew hm => ?_⟩
          · simp only [List.mem_singleton] at hp; subst hp; exact hfo b (.inl (by simp [ownId]))
          · have hma : m b = .row e' k' fz fl' sz' es := (hf b (hfo b (.inl (by simp [ownId])))).trans hM
            have hsz0 : 0 < (E.T (E.T t).elem).size := by
              have hbx := hm.box b
              rw [hma] at hbx
              rw [hss]; exact hbx.1
            obtain ⟨news, hsv, hl', hf', hnn⟩ := src S w ρ m a w0 inn hx hf hm hsz0
            have e1 := hx p1 (mem p1 (by rw [hy]; simp)); rw [hyv1] at e1
            have e1' : RA S w ρ m (.part b k 0 hi) (a.eval p1) := e1
            simp only [RA, hma] at e1'
            obtain ⟨q1, q2, ad, n, cc, ad', q3, q4, q5⟩ := e1'.2.2 hkk
            subst hee hff hss hkk hfz
            have hbx := hm.box b
            rw [hma] at hbx
            obtain ⟨r0, r1, r2, xs, r3, r4⟩ := hbx
            have hpart : ∀ u, (∃ c', u = .slice ad' (hi + ys.length) c' ∧ c' = cc) → RA S w ρ m (.part b k 0 (hi + ys.length)) u := by
              rintro u ⟨c', rfl, rfl⟩
              simp only [RA, hma]
              exact ⟨Nat.le_refl _, rfl, fun _ => ⟨Nat.zero_le _, hfit, ad, n, c', ad', q3, rfl, q5⟩⟩
            rcases r3.2 with ⟨ad0, h1, h2⟩ | ⟨g, cap, cur, h1, hcap, h3, h4, h5, h6, h7⟩
            · -- nothing there, nothing more
              have hy0 : ys = [] := List.length_eq_zero_iff.1 (by omega)
              have he0 : es = [] := List.length_eq_zero_iff.1 h2
              have hhi : hi = 0 := by omega
              subst hy0 he0 hhi
              rw [q3] at h1
              simp only [Value.slice.injEq] at h1
              obtain ⟨rfl, rfl, rfl⟩ := h1
              obtain ⟨ht, he⟩ := tok_slice hT hok hsl
              obtain ⟨i, z, hi', hz, hs, hbb, hzs⟩ := zero_info hT he
              have hn0 : news = [] := List.length_eq_zero_iff.1 (by rw [hsv.newsLen]; simp)
              subst hn0
              have hst := hm.step (i := b) (b := .row (E.T t).elem k false (E.T (E.T t).elem).flat (E.T (E.T t).elem).size []) (loc := ρ b) (row := none) (w' := w) ⟨rfl, rfl, rfl, Nat.le_refl _, fun _ _ _ => rfl⟩ (fun g h => by cases h) (fun _ => by rw [hma]; rfl) rfl
                (by rw [hma]; exact ⟨_, _, _, _, _, rfl, .inr ⟨rfl, rfl, rfl⟩⟩) (fun g hg => .inl ⟨hg, by rw [hma]; simp⟩)
                (fun hk hl => ⟨r0, r1, r2, xs, by dsimp only; rw [if_pos rfl]; exact r3, r4⟩)
              refine .of_value (exec a w (.slice ad' 0 0) w (by rw [q4]; exact run_append_nothing w t t' o.type _ i ht hi' ad' 0 0 (Nat.le_refl _) _ (by rw [hs]; exact hsv))) ⟨S, _, ?_, hst.2.1, hst.2.2, hst.1⟩
              exact RA.keep (hpart _ ⟨0, rfl, rfl⟩) hst.2.1 hst.2.2
            · rw [q3] at h1
              simp only [Value.slice.injEq] at h1
              obtain ⟨rfl, rfl, rfl⟩ := h1
              have ha' : ad' = some ⟨g, 0, none⟩ := by rw [q5 hcap]; simp [addr_add0]
              subst ha'
              obtain ⟨w', hr, hw', hgb⟩ := append_in hT hok hsl (ty := o.type) (hi := hi) hsv h3 h6 (by omega)
              have hcl : cur.toList.length = cc * (E.T (E.T t).elem).size := by simpa using h6
              have hn0 := hsv.newsLen
              have e7 : (hi + ys.length) * (E.T (E.T t).elem).size ≤ es.length * (E.T (E.T t).elem).size := Nat.mul_le_mul_right _ hfit
              have e8 : es.length * (E.T (E.T t).elem).size ≤ cc * (E.T (E.T t).elem).size := Nat.mul_le_mul_right _ h4
              rw [Nat.add_mul] at e7
              have hlen : (es.take hi ++ ys ++ es.drop (hi + ys.length)).length = es.length := by simp; omega
              have hst := hm.step (i := b) (b := .row (E.T t).elem k false (E.T (E.T t).elem).flat (E.T (E.T t).elem).size (es.take hi ++ ys ++ es.drop (hi + ys.length))) (loc := ρ b) (row := some g) (w' := w') hgb
                (fun g' e => by
                  simp only [Option.some.injEq] at e; subst e
                  exact ⟨by rw [hma]; simp, by rw [q3, blk_pos hcap]⟩) (fun _ => by rw [hma]; rfl) rfl
                (by rw [hma]; exact ⟨_, _, _, _, _, rfl, .inr ⟨rfl, hlen, rfl⟩⟩) (fun g hg => .inl ⟨hg, by rw [hma]; simp⟩)
                (fun hk hl => put_row r0 r1 r2 r4 hn0 (fun i e' he => hl' i e' he) hf' (fun i e' j z he hz => let ⟨u, hu, hcv⟩ := hnn i e' j z he hz; ⟨u, hu, hcv.keep hk⟩) (fun x u h => h.keep hk)
                  (by first | exact (if_pos rfl).trans q3 | exact q3) hcap h5 h4 hcl h7 hw' hfit)
              refine .of_value (exec a w _ w' (by rw [q4]; exact hr)) ⟨S, _, ?_, hst.2.1, hst.2.2, hst.1⟩
              exact RA.keep (hpart _ ⟨_, rfl, rfl⟩) hst.2.1 hst.2.2
        · cases h
      · cases h
    · cases h
  · rename_i t x hts hargs
    split at h
    · rename_i a0 k lo hi fl sz es e hd
      obtain ⟨hc, h⟩ := chk_some h
      simp only [Bool.and_eq_true, beq_iff_eq] at hc
      obtain ⟨⟨⟨⟨hok, hsl⟩, hee⟩, hss⟩, hst⟩ := hc
      obtain ⟨hu, he⟩ := tok_slice hT hok hsl
      obtain ⟨y, hy, hyv⟩ : ∃ y, q.args = #[y] ∧ opnd s y = .one x := by
        cases hl : q.args.toList with
        | nil => rw [hl] at hargs; simp at hargs
        | cons y ys => cases ys with
          | nil => rw [hl] at hargs; exact ⟨y, arr_of hl, by simpa using hargs⟩
          | cons z zs => rw [hl] at hargs; simp at hargs
      have hao := (dest_spec hd).2.1
      have hfo : ∀ i, i ∈ ownId x → i ∈ foot s M o := by
        intro i hi
        simp [foot, ho, hq, hy, hyv, svAts, hi]
      refine ⟨_, _, h, fun p hp hlt => ?_, fun w0 inn S ρ m a w hx hf hnew hm => ?_⟩
      · simp only [List.mem_singleton] at hp; subst hp; exact hfo _ hao
      · have e1 := hx y (mem y (by rw [hy]; simp)); rw [hyv] at e1
        subst hee
        obtain ⟨z, hz, hzs, _, hzl, hze⟩ := zero_rl hT he
        have hzl' : ∀ (i : Nat) e', (List.replicate (hi - lo) (E.T (E.T t).elem).zero)[i]? = some e' → e' = (E.T (E.T t).elem).zero := by
          intro i e' h
          rw [List.getElem?_replicate] at h
          split at h
          · exact (Option.some.inj h).symm
          · cases h
        have hk1 : lo ≤ hi := by
          rcases (dest_spec hd).2.2 with ⟨_, h1, h2⟩ | h1
          · omega
          · subst h1
            have hma := (hf a0 (hfo _ hao)).trans (dest_spec hd).1
            have e2 : RA S w ρ m (.part a0 k lo hi) (a.eval y) := e1
            simp only [RA, hma] at e2
            exact (e2.2.2 trivial).1
        have hzc : (Builtin.zeroCells z.cells (hi - lo)).toList = (List.range ((hi - lo) * sz)).map fun p => z.cells[p % sz]! := by
          unfold Builtin.zeroCells
          rw [hzs, ← hss]; simp
        obtain ⟨ad, c, w', hv, hs1, hs2, hs3, _, _, ρ', hm', hk', hl'⟩ := dest_write (P := P) hm (ys := List.replicate (hi - lo) (E.T (E.T t).elem).zero) (news := (Builtin.zeroCells z.cells (hi - lo)).toList) hd (fun i hi => hf i (hfo i hi)) e1
          (by rw [hzc]; simp) (fun i e' he' => by rw [hzl' i e' he', hzl, hss]) (fun hfl i e' he' x hx => by
            rw [hzl' i e' he'] at hx
            have := List.all_eq_true.1 hst x hx
            rw [hfl] at this
            exact storable_isV this)
          (fun u hu => by
            rw [hzc] at hu
            obtain ⟨p, hp, rfl⟩ := List.mem_map.1 hu
            have hp' : p < (hi - lo) * sz := by simpa using hp
            have hs0 : 0 < sz := by
              rcases Nat.eq_zero_or_pos sz with h | h
              · rw [h] at hp'; omega
              · exact h
            have hlt : p % sz < z.cells.size := by rw [hzs, ← hss]; exact Nat.mod_lt _ hs0
            obtain ⟨u, hu, h1, _⟩ := hze (p % sz) _ (List.getElem?_eq_getElem (by rw [hzl, ← hss]; exact Nat.mod_lt _ hs0))
            rw [getElem!_def, hu]; exact h1)
          (fun i e' j zz he' hz' => by
            have hi' : i < hi - lo := by
              have := (List.getElem?_eq_some_iff.1 he').1
              simpa using this
            rw [hzl' i e' he'] at hz'
            obtain ⟨u, hu, h1, h2⟩ := hze j zz hz'
            have hj : j < sz := by rw [hss, ← hzl]; exact (List.getElem?_eq_some_iff.1 hz').1
            refine ⟨u, ?_, ?_⟩
            · rw [hzc, get_flat (hi - lo) sz (fun _ q => z.cells[q]!) i j hi' hj, getElem!_def, hu]
            · have h3 := List.all_eq_true.1 hst zz (List.mem_of_getElem? hz')
              rcases cv_const (S := S) (w := w) h1 with h4 | h4
              · rw [h2, h4] at h3; simp [storable] at h3
              · rw [h2]; exact h4) (by simp; omega)
        refine .of_value (u := .tuple #[]) (w' := w') (run a w _ _ ?_) ⟨S, ρ', ⟨#[], rfl, rfl, fun j x hj => by simp at hj⟩, hk', hl', hm'⟩
        rw [hy, fst hts]
        have hcl : (Builtin.clear_ #[t] o.type #[a.eval y]).run P w = .ok (.tuple #[]) w' := by
          rw [hv]
          rcases Nat.eq_zero_or_pos (hi - lo) with h0 | h0
          · rw [hs3 (by rw [h0]; rfl), h0]
            cases ad <;> simp [Builtin.clear_, run_underlying hu]
          · obtain ⟨n, hn⟩ : ∃ n, hi - lo = n + 1 := ⟨hi - lo - 1, by omega⟩
            cases ad with
            | none =>
              exfalso
              have hsl0 := elems_sound hm (x := x) (fl := fl) (sz := sz) (es := (es.take hi).drop lo) (M := M) (u := a.eval y) (by
                have hM := (dest_spec hd).1
                rcases (dest_spec hd).2.2 with ⟨rfl, rfl, rfl⟩ | rfl
                · show (rowOf M a0 k).map (·.2) = _
                  unfold rowOf; rw [hM]; simp
                · show (rowOf M a0 k).map (fun r => (r.2.1, r.2.2.1, (r.2.2.2.take hi).drop lo)) = _
                  unfold rowOf; rw [hM]; simp) e1 (fun i hi => hf i (hfo i hi))
              obtain ⟨a1, n1, c1, _, g1, g2, g3, _, _, g4, _⟩ := hsl0
              rw [hv] at g1
              simp only [Value.slice.injEq] at g1
              obtain ⟨rfl, rfl, rfl⟩ := g1
              obtain ⟨b, hb, _⟩ := g4 (by intro e; rw [e] at g2; simp at g2; omega)
              cases hb
            | some b =>
              have := hs1 b rfl
              rw [hn] at this ⊢
              simp [Builtin.clear_, run_underlying hu, hz, this]
        simp [builtin, hcl]
    · cases h
  · rename_i t t' x y hts hargs
    split at h
    · rename_i a0 k lo hi fl sz es e fl' sz' ys hd hes
      obtain ⟨hc, h⟩ := chk_some h
      simp only [Bool.and_eq_true, Bool.or_eq_true, beq_iff_eq, List.isEmpty_iff] at hc
      obtain ⟨⟨⟨⟨⟨⟨hok, hsl⟩, hee⟩, hss⟩, hff⟩, hsz⟩, hst⟩ := hc
      obtain ⟨hu, he⟩ := tok_slice hT hok hsl
      obtain ⟨p1, p2, hy, hyv1, hyv2⟩ : ∃ p1 p2, q.args = #[p1, p2] ∧ opnd s p1 = .one x ∧ opnd s p2 = .one y := by
        cases hl : q.args.toList with
        | nil => rw [hl] at hargs; simp at hargs
        | cons p1 ps => cases ps with
          | nil => rw [hl] at hargs; simp at hargs
          | cons p2 zs => cases zs with
            | nil => rw [hl] at hargs; simp only [List.map_cons, List.map_nil, List.cons.injEq, and_true] at hargs; exact ⟨p1, p2, arr_of hl, hargs.1, hargs.2⟩
            | cons z zs => rw [hl] at hargs; simp at hargs
      have hao := (dest_spec hd).2.1
      have hfo : ∀ i, i ∈ ownId x ∨ i ∈ ownId y → i ∈ foot s M o := by
        intro i hi
        simp [foot, ho, hq, hy, hyv1, hyv2, svAts, hi]
      refine ⟨_, _, h, fun p hp hlt => ?_, fun w0 inn S ρ m a w hx hf hnew hm => ?_⟩
      · simp only [List.mem_singleton] at hp; subst hp; exact hfo _ (.inl hao)
      · have e1 := hx p1 (mem p1 (by rw [hy]; simp)); rw [hyv1] at e1
        have e2 := hx p2 (mem p2 (by rw [hy]; simp)); rw [hyv2] at e2
        subst hee
        have hsv0 := elems_sound hm hes e2 (fun i hi => hf i (hfo i (.inr hi)))
        have hk1 : lo ≤ hi := by
          rcases (dest_spec hd).2.2 with ⟨_, h1, h2⟩ | h1
          · omega
          · subst h1
            have hma := (hf a0 (hfo _ (.inl hao))).trans (dest_spec hd).1
            have e2 : RA S w ρ m (.part a0 k lo hi) (a.eval p1) := e1
            simp only [RA, hma] at e2
            exact (e2.2.2 trivial).1
        have hs0 : 0 < sz := by
          have hma := (hf a0 (hfo _ (.inl hao))).trans (dest_spec hd).1
          have hb := hm.box a0
          rw [hma] at hb
          exact hb.1
        have flat : fl = true → ∀ (i : Nat) e', ys[i]? = some e' → ∀ x ∈ e', isV x = true := fun ht i e' he' z hz =>
          storable_isV (by have := allStor_spec hst (List.mem_of_getElem? he') hz; rw [ht] at this; exact this)
        have hsv : SlV (fun _ => True) S w fl sz ys (a.eval p2) := by
          obtain ⟨ad, n, cc, get, hv, hn, hnc, hl, hff', hmm, hr⟩ := hsv0
          refine ⟨ad, n, cc, get, hv, hn, hnc, ?_, flat, fun hne => ?_, hr⟩
          · rcases hsz with rfl | rfl
            · exact hl
            · intro i e' he'; simp at he'
          · rcases hsz with rfl | rfl
            · exact hmm hne
            · exact absurd rfl hne
        obtain ⟨ad2, n2, c2, hv2, hn2, hnc2, hcut⟩ := hsv.cut (l := 0) (hi := min ys.length (hi - lo)) (Nat.zero_le _) (Nat.min_le_left _ _)
        subst hn2
        have et : ((ys.take (min ys.length (hi - lo))).drop 0) = ys.take (hi - lo) := by
          rw [List.drop_zero]
          apply List.ext_getElem?
          intro i
          rw [List.getElem?_take, List.getElem?_take]
          by_cases h : i < ys.length
          · by_cases h' : i < hi - lo
            · rw [if_pos (by omega), if_pos h']
            · rw [if_neg (by omega), if_neg h']
          · rw [List.getElem?_eq_none (by omega)]; simp
        rw [et] at hcut
        obtain ⟨news, nl, n1, nxx, nnn⟩ := hcut.news (.inl hs0)
        obtain ⟨_, _, _, _, _, _, _, cl, cf, _⟩ := hcut
        have htl : (ys.take (hi - lo)).length = min ys.length (hi - lo) := by rw [List.length_take]; omega
        obtain ⟨ad, c, w', hv, hs1, hs2, hs3, _, _, ρ', hm', hk', hl'⟩ := dest_write (P := P) hm (ys := ys.take (hi - lo)) (news := news) hd (fun i hi => hf i (hfo i (.inl hi))) e1 nl cl cf n1 nnn (by rw [htl]; omega)
        refine .of_value (u := goInt (min ys.length (hi - lo) : Nat)) (w' := w') (run a w _ _ ?_) ⟨S, ρ', rs_v (x := goInt (min ys.length (hi - lo) : Nat)) rfl, hk', hl', hm'⟩
        rw [hy, fst hts]
        have hread : (Builtin.firstCells sz (min ys.length (hi - lo)) (a.eval p2)).run P w = .ok news.toArray w := by
          rw [hv2]
          rcases nxx with ⟨cx, g1, g2, g3⟩ | ⟨adx, cx, g1, g2⟩
          · simp only [sliced, Value.slice.injEq] at g1
            rw [g3]
            rw [htl] at g2
            rw [g2]
            cases ad2 with
            | none => exact run_firstCells_none w _ _ _ _
            | some b => exact run_firstCells_some w sz 0 b _ _ [] (by simp) (fun j v hj => by simp at hj)
          · simp only [sliced, Value.slice.injEq] at g1
            obtain ⟨g1, g3, g4⟩ := g1
            have hb : ad2 = some adx := by
              cases ad2 with
              | none => simp at g1
              | some b =>
                by_cases h0 : c2 = 0
                · rw [if_pos h0] at g1; exact g1
                · rw [if_neg h0] at g1
                  simpa [Addr.add_zero'] using g1
            subst hb
            exact run_firstCells_some w sz _ adx _ _ news (by rw [nl, htl]) g2
        have hcp : (Builtin.copy_ #[t, t'] o.type #[a.eval p1, a.eval p2]).run P w = .ok (goInt (min ys.length (hi - lo) : Nat)) w' := by
          have hlo : (Builtin.lenOf (a.eval p2)).run P w = .ok ys.length w := by rw [hv2]; rfl
          have hsr := size_run hT he w
          rw [← hss] at hsr
          rw [Nat.min_def] at hread
          rw [hv]
          cases ad with
          | none =>
            rw [hs2 rfl]
            simp [Builtin.copy_, run_underlying hu, hlo, hsr, hread, Nat.min_def]
          | some b =>
            simp [Builtin.copy_, run_underlying hu, hlo, hsr, hread, hs1 b rfl, Nat.min_def]
        simp [builtin, hcp]
    · cases h
  · rename_i ts k p k' p' hargs
    obtain ⟨hc, h⟩ := chk_some h
    obtain ⟨p1, p2, hy, hyv1, hyv2⟩ : ∃ p1 p2, q.args = #[p1, p2] ∧ opnd s p1 = .one (.v (.int k p)) ∧ opnd s p2 = .one (.v (.int k' p')) := by
      cases hl : q.args.toList with
      | nil => rw [hl] at hargs; simp at hargs
      | cons p1 ps => cases ps with
        | nil => rw [hl] at hargs; simp at hargs
        | cons p2 zs => cases zs with
          | nil => rw [hl] at hargs; simp only [List.map_cons, List.map_nil, List.cons.injEq, and_true] at hargs; exact ⟨p1, p2, arr_of hl, hargs.1, hargs.2⟩
          | cons z zs => rw [hl] at hargs; simp at hargs
    refine ⟨_, _, h, .of_pure fun S w ρ m a w0 inn hx hf hm => ⟨_, run a w _ _ ?_, rs_v rfl⟩⟩
    have e1 := hx p1 (mem p1 (by rw [hy]; simp)); rw [hyv1] at e1
    have e2 := hx p2 (mem p2 (by rw [hy]; simp)); rw [hyv2] at e2
    rw [hy]
    simp only [builtin, Sem.run_bind, List.map_toArray, List.map_cons, List.map_nil, e1.one_v.1, e2.one_v.1, run_min_int2, Result.andThen_ok, Sem.run_pure, Bool.cond_decide]
    try rfl
  · rename_i ts k p k' p' hargs
    obtain ⟨hc, h⟩ := chk_some h
    obtain ⟨p1, p2, hy, hyv1, hyv2⟩ : ∃ p1 p2, q.args = #[p1, p2] ∧ opnd s p1 = .one (.v (.int k p)) ∧ opnd s p2 = .one (.v (.int k' p')) := by
      cases hl : q.args.toList with
      | nil => rw [hl] at hargs; simp at hargs
      | cons p1 ps => cases ps with
        | nil => rw [hl] at hargs; simp at hargs
        | cons p2 zs => cases zs with
          | nil => rw [hl] at hargs; simp only [List.map_cons, List.map_nil, List.cons.injEq, and_true] at hargs; exact ⟨p1, p2, arr_of hl, hargs.1, hargs.2⟩
          | cons z zs => rw [hl] at hargs; simp at hargs
    refine ⟨_, _, h, .of_pure fun S w ρ m a w0 inn hx hf hm => ⟨_, run a w _ _ ?_, rs_v rfl⟩⟩
    have e1 := hx p1 (mem p1 (by rw [hy]; simp)); rw [hyv1] at e1
    have e2 := hx p2 (mem p2 (by rw [hy]; simp)); rw [hyv2] at e2
    rw [hy]
    simp only [builtin, Sem.run_bind, List.map_toArray, List.map_cons, List.map_nil, e1.one_v.1, e2.one_v.1, run_max_int2, Result.andThen_ok, Sem.run_pure, Bool.cond_decide]
    try rfl
  · cases h
end
end Go.Vi
