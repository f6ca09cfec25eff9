/- THE VALUE INTERPRETER: slices read, cut, turned into strings; their length. No project text. -/
import Derived.Test.YtkpdcieoiciapaaDoorVi8
import Derived.Laws.BytesString
set_option linter.unusedVariables false
set_option linter.unusedSimpArgs false
namespace Go.Vi
open Go.RowKit
variable {R : Type}
/-- A slice value and its elements; 'B': of the block that it lies in. -/
def SlV (B S : Nat → Prop) (w : World) (fl : Bool) (sz : Nat) (es : List (List At)) (u : Value) : Prop :=
  ∃ (a : Option Addr) (n c : Nat) (get : Nat → Nat → Value), u = .slice a n c ∧ n = es.length ∧ n ≤ c ∧ (∀ (i : Nat) e, es[i]? = some e → e.length = sz) ∧
    (fl = true → ∀ (i : Nat) e, es[i]? = some e → ∀ x ∈ e, isV x = true) ∧
    (es ≠ [] → ∃ ad : Addr, a = some ad ∧ B ad.block ∧ ∀ (i : Nat) e (j : Nat) x, es[i]? = some e → e[j]? = some x → w.cell? (ad.add (i * sz + j)) = some (get i j)) ∧
    ∀ (i : Nat) e (j : Nat) x, es[i]? = some e → e[j]? = some x → CV S w x (get i j)
section
variable {B S : Nat → Prop} {w : World} {fl : Bool} {sz : Nat} {es : List (List At)} {u : Value}
theorem slv_cv : SlV S S w fl sz es u ↔ CV S w (.ro fl sz es) u := by
  constructor
  · rintro ⟨a, n, c, get, rfl, hn, hc, hl, hf, hm, hr⟩
    exact .ro get hn hc hl hf hm hr
  · intro h
    cases h with
    | ro get hn hc hl hf hm hr => exact ⟨_, _, _, get, rfl, hn, hc, hl, hf, hm, hr⟩
theorem fix_slv (h : CV S w (.fix fl sz es) u) : SlV S S w fl sz es u := by
  cases h with
  | fix get hn hl hf hm hr => exact ⟨_, _, _, get, rfl, hn, Nat.le_refl _, hl, hf, hm, hr⟩
theorem SlV.mono {B' : Nat → Prop} (h : SlV B S w fl sz es u) (hb : ∀ g, B g → B' g) : SlV B' S w fl sz es u := by
  obtain ⟨a, n, c, get, h1, hn, hc, hl, hf, hm, hr⟩ := h
  exact ⟨a, n, c, get, h1, hn, hc, hl, hf, fun h => let ⟨ad, h1, h2, h3⟩ := hm h; ⟨ad, h1, hb _ h2, h3⟩, hr⟩
theorem SlV.nil (c : Nat) (a : Option Addr) : SlV B S w fl sz [] (.slice a 0 c) :=
  ⟨a, 0, c, fun _ _ => undef, rfl, rfl, Nat.zero_le _, fun i e h => by simp at h, fun _ i e h => by simp at h, fun h => absurd rfl h, fun i e j x h => by simp at h⟩
theorem getElem?_cut {α : Type} (l h : Nat) (es : List α) (i : Nat) (x : α) (hx : ((es.take h).drop l)[i]? = some x) : es[l + i]? = some x := by
  rw [List.getElem?_drop, List.getElem?_take] at hx
  split at hx
  · exact hx
  · cases hx
theorem SlV.cut (h : SlV B S w fl sz es u) {l hi : Nat} (h1 : l ≤ hi) (h2 : hi ≤ es.length) : ∃ a n c, u = .slice a n c ∧ n = es.length ∧ n ≤ c ∧ SlV B S w fl sz ((es.take hi).drop l) (sliced a l hi c sz) := by
  obtain ⟨a, n, c, get, rfl, hn, hc, hl, hf, hm, hr⟩ := h
  refine ⟨a, n, c, rfl, hn, hc, _, _, _, fun i j => get (l + i) j, rfl, ?_, by omega, fun i e he => hl _ e (getElem?_cut _ _ _ _ _ he), fun hfl i e he => hf hfl _ e (getElem?_cut _ _ _ _ _ he), fun hne => ?_, fun i e j x he hx => hr _ e j x (getElem?_cut _ _ _ _ _ he) hx⟩
  · simp; omega
  · have hlt : l < hi := by
      rcases Nat.lt_or_ge l hi with h | h
      · exact h
      · exact absurd (by simp; omega : (es.take hi).drop l = []) hne
    obtain ⟨ad, ha, hb, hcell⟩ := hm (by intro e; rw [e] at h2; simp at h2; omega)
    subst ha
    rw [if_neg (by omega)]
    refine ⟨ad.add (l * sz), rfl, by rw [block_add]; exact hb, fun i e j x he hx => ?_⟩
    have := hcell (l + i) e j x (getElem?_cut _ _ _ _ _ he) hx
    rw [Addr.add_add]
    rw [show l * sz + (i * sz + j) = (l + i) * sz + j by rw [Nat.add_mul]; omega]
    exact this
end
theorem take_get {α : Type} {es : List α} {hi i : Nat} {e : α} (h : (es.take hi)[i]? = some e) : i < hi ∧ es[i]? = some e := by
  rw [List.getElem?_take] at h
  split at h
  · exact ⟨by assumption, h⟩
  · cases h
section
variable {E : Env} {P : Program} {w0 : World} {inn : Inn} {S : Nat → Prop} {ρ : Loc} {m : Mem} {w : World} {o : Oper} {s : TS} {M : List Box} {nx : Nat} {v : Sv} {ef : Eff} {K : Sv → Eff → Option R} {r : R} {f : Nat} {c : Orc}
theorem rowOf_some {a k e sz : Nat} {fl : Bool} {es : List (List At)} (h : rowOf M a k = some (e, fl, sz, es)) : ∃ f, memOf M a = .row e k f fl sz es := by
  unfold rowOf at h
  unfold memOf
  split at h
  · rename_i e' k' f fl' sz' es' hq
    split at h
    · rename_i hk
      simp only [Option.some.injEq, Prod.mk.injEq] at h
      obtain ⟨rfl, rfl, rfl, rfl⟩ := h
      obtain rfl : k = k' := by simpa using hk
      exact ⟨f, hq⟩
    · cases h
  · cases h
theorem addr_add0 (g n : Nat) : (⟨g, 0, none⟩ : Addr).add n = ⟨g, n, none⟩ := by rw [Addr.add_mid, Nat.zero_add]
theorem Owns.cells {e sz n cap g : Nat} {xs : List Value} (h : Owns w e sz (.slice (some ⟨g, 0, none⟩) n cap) n xs) : ∀ j u, xs[j]? = some u → w.cell? ((⟨g, 0, none⟩ : Addr).add j) = some u := by
  intro j u hu
  rcases h.2 with ⟨ad, hv, hn⟩ | ⟨g', cap, cur, hv, _, hgg, _, _, _, htake⟩
  · have h1 := h.1
    rw [hn, Nat.zero_mul] at h1
    rw [List.length_eq_zero_iff.1 h1] at hu
    simp at hu
  · simp only [Value.slice.injEq, Option.some.injEq, Addr.mk.injEq, and_true, true_and] at hv
    obtain ⟨rfl, _⟩ := hv
    rw [addr_add0, cell_of_row w g j cur e (0, 0) hgg]
    rw [← htake, List.getElem?_take] at hu
    split at hu
    · simpa using hu
    · cases hu
/-- A row's first elements: a row of the same block. -/
theorem Owns.cut {e sz n hi c : Nat} {v : Value} {ad ad' : Option Addr} {n' : Nat} {xs : List Value} (h : Owns w e sz v n xs) (hv : v = .slice ad n' c) (hle : hi ≤ n) (ha : 0 < c → ad' = ad.map (·.add (0 * sz))) :
    Owns w e sz (.slice ad' hi c) hi (xs.take (hi * sz)) ∧ ∀ g, blk (.slice ad' hi c) = some g → blk v = some g := by
  rcases h.2 with ⟨ad0, h1, h2⟩ | ⟨g, cap, cur, h1, h2, h3, h4, h5, h6, h7⟩
  · rw [hv] at h1
    simp only [Value.slice.injEq] at h1
    obtain ⟨rfl, rfl, rfl⟩ := h1
    obtain rfl : hi = 0 := by omega
    refine ⟨⟨by simp, .inl ⟨ad', rfl, rfl⟩⟩, fun g hg => ?_⟩
    rw [blk_zero] at hg; cases hg
  · rw [hv] at h1
    simp only [Value.slice.injEq] at h1
    obtain ⟨rfl, rfl, rfl⟩ := h1
    have e1 : ad' = some ⟨g, 0, none⟩ := by rw [ha h2]; simp [addr_add0]
    subst e1
    have hs : hi * sz ≤ n' * sz := Nat.mul_le_mul_right _ hle
    refine ⟨⟨by rw [List.length_take, h.1]; omega, .inr ⟨g, c, cur, rfl, h2, h3, by omega, h5, h6, ?_⟩⟩, fun g' hg => ?_⟩
    · rw [← h7, List.take_take]; congr 1; omega
    · rw [hv, blk_pos h2]
      rw [blk_pos h2] at hg; exact hg
theorem row_slv (hm : MR E w0 inn S ρ m w) {a e k sz : Nat} {f fl : Bool} {es : List (List At)} (h : m a = .row e k f fl sz es) : SlV (fun g => blk (ρ a) = some g) S w fl sz es (ρ a) := by
  have hb := hm.box a
  rw [h] at hb
  obtain ⟨h0, h1, h2, xs, h3, h4⟩ := hb
  rcases h3.2 with ⟨ad, hv, hn⟩ | ⟨g, cap, cur, hv, hbg, hg, hnc, hcm, hcs, htake⟩
  · have : es = [] := List.length_eq_zero_iff.1 hn
    subst this
    rw [hv]
    exact SlV.nil 0 ad
  · rw [hv]
    refine ⟨_, _, _, fun i j => (xs[i * sz + j]?).getD undef, rfl, rfl, hnc, h1, h2, fun _ => ⟨_, rfl, blk_pos hbg, fun i e j x he hx => ?_⟩, fun i e j x he hx => ?_⟩
    · obtain ⟨u, hu, _⟩ := h4 i e j x he hx
      dsimp only
      rw [hu]
      rw [hv] at h3
      exact h3.cells _ _ hu
    · obtain ⟨u, hu, hx⟩ := h4 i e j x he hx
      dsimp only
      rw [hu]; exact hx
theorem elems_sound (hm : MR E w0 inn S ρ m w) {x : At} {fl : Bool} {sz : Nat} {es : List (List At)} {u : Value} (h : elems M x = some (fl, sz, es)) (hx : RA S w ρ m x u)
    (hf : ∀ i ∈ ownId x, m i = memOf M i) : SlV (fun _ => True) S w fl sz es u := by
  cases x with
  | ro fl' sz' es' =>
    simp only [elems, Option.some.injEq, Prod.mk.injEq] at h
    obtain ⟨rfl, rfl, rfl⟩ := h
    exact (slv_cv.2 hx).mono fun _ _ => trivial
  | fix fl' sz' es' =>
    simp only [elems, Option.some.injEq, Prod.mk.injEq] at h
    obtain ⟨rfl, rfl, rfl⟩ := h
    have hx' : CV S w (.fix _ _ _) u := hx
    cases hx' with
    | fix get hn hl hf hm hr => exact ⟨_, _, _, get, rfl, hn, Nat.le_refl _, hl, hf, fun h => let ⟨ad, h1, h2, h3⟩ := hm h; ⟨ad, h1, trivial, h3⟩, hr⟩
  | nils =>
    simp only [elems, Option.some.injEq, Prod.mk.injEq] at h
    obtain ⟨rfl, rfl, rfl⟩ := h
    have hx' : CV S w .nils u := hx
    cases hx'
    exact SlV.nil 0 _
  | own a k =>
    simp only [elems, Option.map_eq_some_iff] at h
    obtain ⟨⟨e, fl', sz', es'⟩, h1, h2⟩ := h
    simp only [Prod.mk.injEq] at h2
    obtain ⟨rfl, rfl, rfl⟩ := h2
    obtain ⟨fz, hr⟩ := rowOf_some h1
    have hma := (hf a (by simp [ownId])).trans hr
    simp only [RA, hma] at hx
    rw [hx.2.2 trivial]
    exact (row_slv hm hma).mono fun _ _ => trivial
  | part a k lo hi =>
    simp only [elems, Option.map_eq_some_iff] at h
    obtain ⟨⟨e, fl', sz', es'⟩, h1, h2⟩ := h
    simp only [Prod.mk.injEq] at h2
    obtain ⟨rfl, rfl, rfl⟩ := h2
    obtain ⟨fz, hr⟩ := rowOf_some h1
    have hma := (hf a (by simp [ownId])).trans hr
    simp only [RA, hma] at hx
    obtain ⟨h1, h2, ad, n, cc, ad', hp, hv, hadd⟩ := hx.2.2 trivial
    obtain ⟨a', n', c', h5, hn, hnc, h6⟩ := (row_slv hm hma).cut h1 h2
    rw [hp] at h5
    simp only [Value.slice.injEq] at h5
    obtain ⟨rfl, rfl, rfl⟩ := h5
    rw [hv]
    rcases Nat.lt_or_ge lo cc with hlt | hge
    · rw [hadd hlt]
      simp only [sliced] at h6
      rw [if_neg (by omega)] at h6
      exact h6.mono fun _ _ => trivial
    · have e1 : (es'.take hi).drop lo = [] := by simp; omega
      rw [e1, show hi - lo = 0 by omega]
      exact SlV.nil _ _
  | _ => simp [elems] at h

theorem size_run (hT : TOK P E.T) {t : Nat} (ht : (E.T t).ok = true) (w : World) : (sizeOf t).run P w = .ok (E.T t).size w := by
  obtain ⟨i, d, hi, hu, hs, _⟩ := tok_info hT ht
  rw [← hs]
  clear hs
  simp [sizeOf, typeInfo, hi]
theorem elem_of {t e : Nat} (h : P.underlying t = some (.slice e)) : P.elem t = e := by simp [Program.elem, h]

/-! ### bounds -/
theorem bnd_spec {d : Int} {x : Option Operand} {k : Int → Option R} {r : R} (h : bnd d s x k = some r) :
    ∃ n, k n = some r ∧ ((x = none ∧ n = d) ∨ ∃ y q, x = some y ∧ opnd s y = .one (.v (.int q n))) := by
  unfold bnd at h
  split at h
  · exact ⟨d, h, .inl ⟨rfl, rfl⟩⟩
  · rename_i y
    split at h
    · rename_i q n hq
      exact ⟨n, h, .inr ⟨y, q, rfl, hq⟩⟩
    · cases h
/-- The bounds' values as they run. -/
def BV (d : Int) (x : Option Value) (n : Int) : Prop := (x = none ∧ n = d) ∨ ∃ q, x = some (.int q n)
theorem slice_run {t : TypeId} {e : TypeId} (ht : P.underlying t = some (.slice e)) {sz : Nat} (hs : ∀ w, (sizeOf e).run P w = .ok sz w) {a : Option Addr} {len cap : Nat} {lo hi : Option Value} {l h : Int}
    (hl : BV 0 lo l) (hh : BV len hi h) (h0 : 0 ≤ l) (h1 : l ≤ h) (h2 : h ≤ len) (h3 : len ≤ cap) : (Instr.sliceAt t (.slice a len cap) lo hi none).run P w = .ok (sliced a l.toNat h.toNat cap sz) w := by
  have ht' : P.underlying t = some (.slice (P.elem t)) := by rw [elem_of ht]; exact ht
  have hs' : (sizeOf (P.elem t)).run P w = .ok sz w := by rw [elem_of ht]; exact hs w
  rw [run_sliceAt_slice _ _ _ _ _ _ ht']
  rcases hl with ⟨rfl, rfl⟩ | ⟨q, rfl⟩ <;> rcases hh with ⟨rfl, rfl⟩ | ⟨q', rfl⟩
  · rw [run_slice_all _ _ _ _ _ ht', hs']; simp
  · rw [run_slice_h _ _ _ _ _ ht' _ _ (by omega) (by omega), hs']; simp
  · rw [run_slice_l _ _ _ _ _ ht' _ _ (by omega) (by omega), hs']; simp
  · rw [run_slice_lh _ _ _ _ _ ht' _ _ _ _ (by omega) (by omega) (by omega), hs']; simp
theorem slice_str_run {t : TypeId} (ht : P.underlying t = some .string) {b : ByteArray} {lo hi : Option Value} {l h : Int}
    (hl : BV 0 lo l) (hh : BV b.size hi h) (h0 : 0 ≤ l) (h1 : l ≤ h) (h2 : h ≤ b.size) : (Instr.sliceAt t (.string b) lo hi none).run P w = .ok (.string (b.extract l.toNat h.toNat)) w := by
  rw [run_sliceAt_string _ _ _ _ _ _ ht]
  rcases hl with ⟨rfl, rfl⟩ | ⟨q, rfl⟩ <;> rcases hh with ⟨rfl, rfl⟩ | ⟨q', rfl⟩
  · rw [run_slice_string_all _ _ _ ht]; simp
  · rw [run_slice_string_h _ _ _ ht _ _ (by omega) (by omega)]; simp
  · rw [run_slice_string_l _ _ _ ht _ _ (by omega) (by omega)]; simp
  · rw [run_slice_string _ _ _ _ _ _ _ ht (by omega) (by omega) (by omega)]
theorem bv_of {d n : Int} {x : Option Operand} {a : Act} (h : (x = none ∧ n = d) ∨ ∃ y q, x = some y ∧ opnd s y = .one (.v (.int q n))) (hx : ∀ y, x = some y → RS S w ρ m (opnd s y) (a.eval y)) : BV d (x.map a.eval) n := by
  rcases h with ⟨rfl, rfl⟩ | ⟨y, q, rfl, hy⟩
  · exact .inl ⟨rfl, rfl⟩
  · have h1 := hx y rfl
    rw [hy] at h1
    exact .inr ⟨q, by simp [h1.one_v.1]⟩

/-- Bounds past the length, within the room. -/
theorem slice_run_in {t : TypeId} {e : TypeId} (ht : P.underlying t = some (.slice e)) {sz : Nat} (hs : ∀ w, (sizeOf e).run P w = .ok sz w) {ad : Option Addr} {len cap : Nat} {lo hi : Option Value} {l h : Int}
    (hl : BV 0 lo l) (hh : BV len hi h) (h0 : 0 ≤ l) (h1 : l ≤ h) (h2 : h ≤ cap) (h3 : len ≤ cap) : (Instr.sliceAt t (.slice ad len cap) lo hi none).run P w = .ok (sliced ad l.toNat h.toNat cap sz) w := by
  have ht' : P.underlying t = some (.slice (P.elem t)) := by rw [elem_of ht]; exact ht
  have hs' : (sizeOf (P.elem t)).run P w = .ok sz w := by rw [elem_of ht]; exact hs w
  rw [run_sliceAt_slice _ _ _ _ _ _ ht']
  rcases hl with ⟨rfl, rfl⟩ | ⟨q, rfl⟩ <;> rcases hh with ⟨rfl, rfl⟩ | ⟨q', rfl⟩
  · rw [run_slice_all _ _ _ _ _ ht', hs']; simp
  · rw [run_slice_h _ _ _ _ _ ht' _ _ (by omega) (by omega), hs']; simp
  · rw [run_slice_l _ _ _ _ _ ht' _ _ (by omega) (by omega), hs']; simp
  · rw [run_slice_lh _ _ _ _ _ ht' _ _ _ _ (by omega) (by omega) (by omega), hs']; simp
theorem slice3_run {t : TypeId} {e : TypeId} (ht : P.underlying t = some (.slice e)) {sz : Nat} (hs : ∀ w, (sizeOf e).run P w = .ok sz w) {ad : Option Addr} {n cc : Nat} {lo hi mx : Option Value} {l h m' : Int}
    (hl : BV 0 lo l) (hh : ∃ q, hi = some (.int q h)) (hm : ∃ q, mx = some (.int q m')) (h0 : 0 ≤ l) (h1 : l ≤ h) (h2 : h ≤ m') (h3 : m' ≤ cc) : (Instr.sliceAt t (.slice ad n cc) lo hi mx).run P w = .ok (sliced ad l.toNat h.toNat m'.toNat sz) w := by
  have ht' : P.underlying t = some (.slice (P.elem t)) := by rw [elem_of ht]; exact ht
  have hs' : (sizeOf (P.elem t)).run P w = .ok sz w := by rw [elem_of ht]; exact hs w
  rw [run_sliceAt_slice _ _ _ _ _ _ ht']
  obtain ⟨q1, rfl⟩ := hh
  obtain ⟨q2, rfl⟩ := hm
  rcases hl with ⟨rfl, rfl⟩ | ⟨q, rfl⟩
  · rw [run_slice_hm _ _ _ _ _ ht' _ _ _ _ (by omega) (by omega) (by omega), hs']; simp
  · rw [run_slice_lhm _ _ _ _ _ ht' _ _ _ _ _ _ (by omega) (by omega) (by omega) (by omega), hs']; simp
theorem slice3_zero {t : TypeId} {e : TypeId} (ht : P.underlying t = some (.slice e)) {sz : Nat} (hs : ∀ w, (sizeOf e).run P w = .ok sz w) {ad : Option Addr} {n cc : Nat} {k k' : IntKind} :
    (Instr.sliceAt t (.slice ad n cc) none (some (.int k 0)) (some (.int k' 0))).run P w = .ok (.slice ad 0 0) w := by
  rw [slice3_run ht hs (.inl ⟨rfl, rfl⟩) ⟨_, rfl⟩ ⟨_, rfl⟩ (Int.le_refl _) (Int.le_refl _) (Int.le_refl _) (by omega)]
  simp [sliced]
/-- A row cut to the part that is named, or not. -/
theorem cut_good {b : Bool} {x : Sv} (h : cutOne b M x K = some r) (hfo : ∀ a k hi, x = .one (.part a k 0 hi) → a ∈ foot s M o)
    (H : ∀ (S : Nat → Prop) (w : World) (ρ : Loc) (m : Mem) (a : Act) (w0 : World) (inn : Inn), (∀ x ∈ o.op.operands.toList, RS S w ρ m (opnd s x) (a.eval x)) →
      (∀ i ∈ foot s M o, m i = memOf M i) → MR E w0 inn S ρ m w → ∃ u, (execOp a.eval o).run P w = .ok (.value u) w ∧ RS S w ρ m x u) : ∃ v ef, K v ef = some r ∧ Good E P o s M nx v ef := by
  unfold cutOne at h
  split at h
  · rename_i a0 k hi
    split at h
    · rename_i e k' fl sz es hM
      obtain ⟨hkk, h1⟩ := chk_some h
      clear h
      have hkk : k = k' := by simpa using hkk
      subst hkk
      have h := h1
      have hf0 := hfo a0 k hi rfl
      refine ⟨_, _, h, fun p hp hlt => ?_, fun w0 inn S ρ m a w hx hf hnew hm => ?_⟩
      · simp only [List.mem_singleton] at hp; subst hp; exact hf0
      · have hma : m a0 = .row e k false fl sz es := (hf a0 hf0).trans hM
        obtain ⟨u, hr, hx'⟩ := H S w ρ m a w0 inn hx hf hm
        have e2 : RA S w ρ m (.part a0 k 0 hi) u := hx'
        simp only [RA, hma] at e2
        obtain ⟨q1, q2, ad, n, cc, ad', q3, q4, q5⟩ := e2.2.2 trivial
        have hb := hm.box a0
        rw [hma] at hb
        obtain ⟨r0, r1, r2, xs, r3, r4⟩ := hb
        obtain ⟨c1, c2⟩ := r3.cut q3 q2 q5
        simp only [Nat.sub_zero] at q4
        rw [← q4] at c1 c2
        have hst := hm.step (i := a0) (b := .row e (k + 1) false fl sz (es.take hi)) (loc := u) (row := none) (w' := w) ⟨rfl, rfl, rfl, Nat.le_refl _, fun _ _ _ => rfl⟩ (fun g h => by cases h) (fun _ => by rw [hma]; rfl) rfl
          (by rw [hma]; exact ⟨_, _, _, _, _, rfl, .inl (Nat.lt_succ_self k)⟩) (fun g hg => .inl ⟨c2 g hg, by rw [hma]; simp⟩)
          (fun hk hl => ⟨r0, fun i e' he' => r1 i e' (take_get he').2, fun hfl i e' he' => r2 hfl i e' (take_get he').2, xs.take (hi * sz), by
            dsimp only
            rw [if_pos rfl, List.length_take, Nat.min_eq_left q2]; exact c1, fun i e' j x he' hx' => by
              obtain ⟨u', hu', hcv⟩ := r4 i e' j x (take_get he').2 hx'
              refine ⟨u', ?_, hcv⟩
              have hj : j < sz := by rw [← r1 i e' (take_get he').2]; exact (List.getElem?_eq_some_iff.1 hx').1
              have : i * sz + sz ≤ hi * sz := by rw [← Nat.succ_mul]; exact Nat.mul_le_mul_right _ (take_get he').1
              rw [List.getElem?_take_of_lt (by omega)]; exact hu'⟩)
        refine .of_value hr ⟨S, _, ?_, hst.2.1, hst.2.2, hst.1⟩
        simp only [RS, RS1, RA, upM, if_true]
        exact ⟨Nat.le_refl _, e2.2.1, fun _ => trivial⟩
    · cases h
  · exact ⟨_, _, h, .of_pure fun S w ρ m a w0 inn hx hf hm => H S w ρ m a w0 inn hx hf hm⟩
theorem o_slice (hT : TOK P E.T) {t : TypeId} {x : Operand} {lo hi : Option Operand} (ho : o.op = .slice t x lo hi none) (h : vop E f c o s M nx K = some r) : ∃ v ef, K v ef = some r ∧ Good E P o s M nx v ef := by
  unfold vop at h; rw [ho] at h
  dsimp only at h
  obtain ⟨hc, h⟩ := chk_some h
  simp only [Bool.and_eq_true, Bool.or_eq_true] at hc
  have mx : x ∈ o.op.operands.toList := by rw [ho]; simp [Op.operands]
  have ml : ∀ y, lo = some y → y ∈ o.op.operands.toList := by rw [ho]; rintro y rfl; simp [Op.operands]
  have mh : ∀ y, hi = some y → y ∈ o.op.operands.toList := by rw [ho]; rintro y rfl; simp [Op.operands]
  have run : ∀ (a : Act) w u z, a.eval x = u → (Instr.sliceAt t u (lo.map a.eval) (hi.map a.eval) none).run P w = .ok z w → (execOp a.eval o).run P w = .ok (.value z) w := by
    intro a w u z hu hr
    unfold execOp; rw [ho]; dsimp only
    rw [hu, Sem.run_bind, Option.map_none, hr]; rfl
  split at h
  · rename_i b hp
    obtain ⟨hstr, h⟩ := chk_some h
    have hu := tok_str hT hc.1 hstr
    obtain ⟨l, h, hl⟩ := bnd_spec h
    obtain ⟨hh, h, hhi⟩ := bnd_spec h
    obtain ⟨h0, h⟩ := chk_some h
    obtain ⟨h1, h⟩ := chk_some h
    obtain ⟨h2, h⟩ := chk_some h
    simp only [decide_eq_true_eq] at h0 h1 h2
    refine ⟨_, _, h, .of_pure fun S w ρ m a w0 inn hx hf hm => ⟨_, run a w _ _ ?_ (slice_str_run hu (bv_of hl fun y hy => hx y (ml y hy)) (bv_of hhi fun y hy => hx y (mh y hy)) h0 h1 h2), rs_v rfl⟩⟩
    have e1 := hx x mx
    rw [hp] at e1
    exact e1.one_v.1
  · rename_i fl sz es hp
    obtain ⟨hsl, h⟩ := chk_some h
    simp only [Bool.and_eq_true, beq_iff_eq] at hsl
    obtain ⟨hu, he⟩ := tok_slice hT hc.1 hsl.1
    obtain ⟨l, h, hl⟩ := bnd_spec h
    obtain ⟨hh, h, hhi⟩ := bnd_spec h
    obtain ⟨h0, h⟩ := chk_some h
    obtain ⟨h1, h⟩ := chk_some h
    obtain ⟨h2, h⟩ := chk_some h
    simp only [decide_eq_true_eq] at h0 h1 h2
    refine ⟨_, _, h, .of_pure fun S w ρ m a w0 inn hx hf hm => ?_⟩
    have e1 := hx x mx
    rw [hp] at e1
    obtain ⟨ad, n, cc, hv, hn, hnc, hcut⟩ := (slv_cv.2 (show CV S w (.ro fl sz es) (a.eval x) from e1)).cut (l := l.toNat) (hi := hh.toNat) (by omega) (by omega)
    subst hn
    exact ⟨_, run a w _ _ hv (slice_run hu (sz := sz) (fun w => by rw [hsl.2]; exact size_run hT he w) (bv_of hl fun y hy => hx y (ml y hy)) (bv_of hhi fun y hy => hx y (mh y hy)) h0 h1 h2 hnc), slv_cv.1 hcut⟩
  · rename_i b k hp
    split at h
    · rename_i e fl sz es hrow
      obtain ⟨hsl, h⟩ := chk_some h
      simp only [Bool.and_eq_true, beq_iff_eq] at hsl
      obtain ⟨hu, he⟩ := tok_slice hT hc.1 hsl.1
      obtain ⟨l, h, hl⟩ := bnd_spec h
      obtain ⟨hh, h, hhi⟩ := bnd_spec h
      obtain ⟨h0, h⟩ := chk_some h
      obtain ⟨h1, h⟩ := chk_some h
      obtain ⟨h2, h⟩ := chk_some h
      simp only [decide_eq_true_eq] at h0 h1 h2
      obtain ⟨fz, hr⟩ := rowOf_some hrow
      refine cut_good h (fun a' k' hi' he => ?_) (fun S w ρ m a w0 inn hx hf hm => ?_)
      · simp only [Sv.one.injEq, At.part.injEq] at he
        obtain ⟨rfl, _⟩ := he
        simp [foot, ho, hp, svAts, ownId]
      · have e1 := hx x mx
        rw [hp] at e1
        have hma := (hf b (by simp [foot, ho, hp, svAts, ownId])).trans hr
        have hsv := row_slv hm hma
        have e2 : RA S w ρ m (.own b k) (a.eval x) := e1
        simp only [RA, hma] at e2
        have hv := e2.2.2 trivial
        obtain ⟨ad, n, cc, hv2, hn, hnc, hcut⟩ := hsv.cut (l := l.toNat) (hi := hh.toNat) (by omega) (by omega)
        subst hn
        refine ⟨_, run a w _ _ (hv.trans hv2) (slice_run hu (sz := sz) (fun w => by rw [hsl.2]; exact size_run hT he w) (bv_of hl fun y hy => hx y (ml y hy)) (bv_of hhi fun y hy => hx y (mh y hy)) h0 h1 (by omega) hnc), ?_⟩
        show RA S w ρ m (.part b k l.toNat hh.toNat) _
        simp only [RA, hma]
        refine ⟨Nat.le_refl _, rfl, fun _ => ⟨by omega, by omega, _, _, _, _, hv2, rfl, fun hlt => ?_⟩⟩
        rw [if_neg (by omega)]
    · cases h
  · rename_i b k lo' hi' hp
    split at h
    · rename_i e fl sz es hrow
      obtain ⟨hsl, h⟩ := chk_some h
      simp only [Bool.and_eq_true, beq_iff_eq] at hsl
      obtain ⟨hu, he⟩ := tok_slice hT hc.1 hsl.1
      obtain ⟨l, h, hl⟩ := bnd_spec h
      obtain ⟨hh, h, hhi⟩ := bnd_spec h
      obtain ⟨h0, h⟩ := chk_some h
      obtain ⟨h1, h⟩ := chk_some h
      obtain ⟨h2, h⟩ := chk_some h
      simp only [decide_eq_true_eq] at h0 h1 h2
      obtain ⟨fz, hr⟩ := rowOf_some hrow
      refine cut_good h (fun a' k' hi' he => ?_) (fun S w ρ m a w0 inn hx hf hm => ?_)
      · simp only [Sv.one.injEq, At.part.injEq] at he
        obtain ⟨rfl, _⟩ := he
        simp [foot, ho, hp, svAts, ownId]
      · have e1 := hx x mx
        rw [hp] at e1
        have hma := (hf b (by simp [foot, ho, hp, svAts, ownId])).trans hr
        have e2 : RA S w ρ m (.part b k lo' hi') (a.eval x) := e1
        simp only [RA, hma] at e2
        obtain ⟨q1, q2, ad, n, cc, ad', q3, q4, q5⟩ := e2.2.2 trivial
        have hnn : n = es.length ∧ n ≤ cc := by
          obtain ⟨_, _, _, _, r1, r2, r3, _⟩ := row_slv hm hma
          rw [q3] at r1
          simp only [Value.slice.injEq] at r1
          obtain ⟨rfl, rfl, rfl⟩ := r1
          exact ⟨r2, r3⟩
        refine ⟨_, run a w _ _ q4 (slice_run_in hu (sz := sz) (fun w => by rw [hsl.2]; exact size_run hT he w) (bv_of hl fun y hy => hx y (ml y hy)) (bv_of hhi fun y hy => hx y (mh y hy)) h0 h1 (by omega) (by omega)), ?_⟩
        show RA S w ρ m (.part b k (lo' + l.toNat) (lo' + hh.toNat)) _
        simp only [RA, hma]
        refine ⟨Nat.le_refl _, rfl, fun _ => ⟨by omega, by omega, ad, n, cc, (if cc - lo' = l.toNat then ad' else ad'.map (·.add (l.toNat * sz))), q3, ?_, fun hlt => ?_⟩⟩
        · simp only [sliced, Value.slice.injEq, true_and]; omega
        · rw [if_neg (by omega), q5 (by omega)]
          cases ad with
          | none => rfl
          | some a => simp only [Option.map_some, Addr.add_add]; congr 2; rw [Nat.add_mul]
    · cases h
  · cases h
theorem o_slice3 (hT : TOK P E.T) {t : TypeId} {x : Operand} {lo hi : Option Operand} {mx : Operand} (ho : o.op = .slice t x lo hi (some mx)) (h : vop E f c o s M nx K = some r) : ∃ v ef, K v ef = some r ∧ Good E P o s M nx v ef := by
  unfold vop at h; rw [ho] at h
  dsimp only at h
  obtain ⟨hc, h⟩ := chk_some h
  simp only [Bool.and_eq_true] at hc
  obtain ⟨hu, he⟩ := tok_slice hT hc.1 hc.2
  have m1 : x ∈ o.op.operands.toList := by rw [ho]; simp [Op.operands]
  have ml : ∀ y, lo = some y → y ∈ o.op.operands.toList := by rw [ho]; rintro y rfl; simp [Op.operands]
  have mh : ∀ y, hi = some y → y ∈ o.op.operands.toList := by rw [ho]; rintro y rfl; simp [Op.operands]
  have mm : mx ∈ o.op.operands.toList := by rw [ho]; simp [Op.operands]
  have run : ∀ (a : Act) w u z, a.eval x = u → (Instr.sliceAt t u (lo.map a.eval) (hi.map a.eval) (some (a.eval mx))).run P w = .ok z w → (execOp a.eval o).run P w = .ok (.value z) w := by
    intro a w u z hu hr
    unfold execOp; rw [ho]; dsimp only
    rw [hu, Sem.run_bind, Option.map_some, hr]; rfl
  split at h
  · rename_i y hp
    split at h
    · rename_i fl sz es hes
      have sl : ∀ S w ρ m (a : Act) w0 inn, (∀ x ∈ o.op.operands.toList, RS S w ρ m (opnd s x) (a.eval x)) → (∀ i ∈ foot s M o, m i = memOf M i) → MR E w0 inn S ρ m w → SlV (fun _ => True) S w fl sz es (a.eval x) := by
        intro S w ρ m a w0 inn hx hf hm
        have e1 := hx x m1
        rw [hp] at e1
        exact elems_sound hm hes e1 (fun i hi => hf i (by simp [foot, ho, hp, svAts, hi]))
      split at h
      · rename_i hn
        refine ⟨_, _, h, .of_pure fun S w ρ m a w0 inn hx hf hm => ?_⟩
        obtain ⟨ad, n, cc, get, hv, _⟩ := sl S w ρ m a w0 inn hx hf hm
        unfold isNil3 at hn
        split at hn
        · rename_i k k'
          refine ⟨.slice ad 0 0, run a w _ _ hv ?_, CV.nils (S := S) (w := w)⟩
          exact slice3_zero (sz := (E.T (E.T t).elem).size) hu (fun w => size_run hT he w)
        · cases hn
      · obtain ⟨hsz, h⟩ := chk_some h
        have hsz : sz = (E.T (E.T t).elem).size := by simpa using hsz
        obtain ⟨l, h, hl⟩ := bnd_spec h
        split at h
        · rename_i hx1
          obtain ⟨hh, h, hhi⟩ := bnd_spec h
          obtain ⟨m', h, hmx⟩ := bnd_spec h
          obtain ⟨h0, h⟩ := chk_some h
          obtain ⟨h1, h⟩ := chk_some h
          obtain ⟨h2, h⟩ := chk_some h
          obtain ⟨h3, h⟩ := chk_some h
          simp only [decide_eq_true_eq] at h0 h1 h2 h3
          have rn : ∀ S w ρ m (a : Act) w0 inn, (∀ x ∈ o.op.operands.toList, RS S w ρ m (opnd s x) (a.eval x)) → (∀ i ∈ foot s M o, m i = memOf M i) → MR E w0 inn S ρ m w →
              ∃ ad n cc, a.eval x = .slice ad n cc ∧ n = es.length ∧ (execOp a.eval o).run P w = .ok (.value (sliced ad l.toNat hh.toNat m'.toNat sz)) w := by
            intro S w ρ m a w0 inn hx hf hm
            obtain ⟨ad, n, cc, get, hv, hn, hnc, _⟩ := sl S w ρ m a w0 inn hx hf hm
            refine ⟨ad, n, cc, hv, hn, run a w _ _ hv ?_⟩
            have b1 := bv_of (d := 0) (m := m) hl fun y hy => hx y (ml y hy)
            have b2 := bv_of (d := 0) (m := m) hhi fun y hy => hx y (mh y (by rw [← hy]))
            have b3 := bv_of (d := 0) (m := m) hmx fun y hy => hx y (by rw [show y = mx from (Option.some.inj hy).symm]; exact mm)
            exact slice3_run hu (sz := sz) (fun w => by rw [hsz]; exact size_run hT he w) b1 (b2.resolve_left (by simp)) (b3.resolve_left (by simp)) h0 h1 h2 (by omega)
          have fix : ∀ (_ : h = h), K (.one (.fix fl sz ((es.take hh.toNat).drop l.toNat))) [] = some r → (∀ S w ρ m (a : Act) w0 inn, (∀ x ∈ o.op.operands.toList, RS S w ρ m (opnd s x) (a.eval x)) → (∀ i ∈ foot s M o, m i = memOf M i) → MR E w0 inn S ρ m w → SlV S S w fl sz es (a.eval x)) → hh = m' →
              ∃ v ef, K v ef = some r ∧ Good E P o s M nx v ef := by
            intro _ hk hs hhm
            subst hhm
            refine ⟨_, _, hk, .of_pure fun S w ρ m a w0 inn hx hf hm => ?_⟩
            obtain ⟨ad, n, cc, hv, hn, hr⟩ := rn S w ρ m a w0 inn hx hf hm
            refine ⟨_, hr, ?_⟩
            obtain ⟨ad', n', c', hv', hn', hnc', hcut⟩ := (hs S w ρ m a w0 inn hx hf hm).cut (l := l.toNat) (hi := hh.toNat) (by omega) (by omega)
            rw [hv] at hv'
            simp only [Value.slice.injEq] at hv'
            obtain ⟨rfl, rfl, rfl⟩ := hv'
            obtain ⟨a2, n2, c2, get, e2, hn2, hc2, hl2, hf2, hm2, hr2⟩ := hcut
            simp only [sliced, Value.slice.injEq] at e2
            obtain ⟨e3, e4, e5⟩ := e2
            show CV S w (.fix _ _ _) (sliced ad l.toNat hh.toNat hh.toNat sz)
            simp only [sliced]
            refine .fix get (by omega) hl2 hf2 (fun hne => ?_) hr2
            have hlt : l.toNat < hh.toNat := by
              rcases Nat.lt_or_ge l.toNat hh.toNat with h | h
              · exact h
              · exact absurd (by simp; omega : (es.take hh.toNat).drop l.toNat = []) hne
            rw [if_neg (by omega)]
            rw [if_neg (by omega)] at e3
            rw [e3]; exact hm2 hne
          split at h
          · rename_i hcc _ _ _
            obtain ⟨hhm, h⟩ := chk_some h
            refine fix rfl h (fun S w ρ m a w0 inn hx hf hm => ?_) (by simpa using hhm)
            simp only [elems, Option.some.injEq, Prod.mk.injEq] at hes
            obtain ⟨rfl, rfl, rfl⟩ := hes
            have e1 := hx x m1
            rw [hp] at e1
            exact slv_cv.2 e1
          · obtain ⟨hhm, h⟩ := chk_some h
            refine fix rfl h (fun S w ρ m a w0 inn hx hf hm => ?_) (by simpa using hhm)
            simp only [elems, Option.some.injEq, Prod.mk.injEq] at hes
            obtain ⟨rfl, rfl, rfl⟩ := hes
            have e1 := hx x m1
            rw [hp] at e1
            have e1' : CV S w (.fix _ _ _) (a.eval x) := e1
            generalize a.eval x = u at e1'
            cases e1' with
            | fix get hn hl hf hm hr => exact ⟨_, _, _, get, rfl, hn, Nat.le_refl _, hl, hf, hm, hr⟩
          · refine ⟨_, _, h, .of_pure fun S w ρ m a w0 inn hx hf hm => ?_⟩
            obtain ⟨ad, n, cc, hv, hn, hr⟩ := rn S w ρ m a w0 inn hx hf hm
            exact ⟨_, hr, trivial⟩
        · cases h
    · cases h
  · cases h

/-! ### bytes to a string -/
theorem strOf_spec {get : Nat → Nat → Value} : ∀ {es : List (List At)} {bs : List UInt8} , strOf es = some bs → (∀ (i : Nat) e (j : Nat) x, es[i]? = some e → e[j]? = some x → CV S w x (get i j)) →
    ∃ ns : List Int, ns.length = es.length ∧ ns.map (fun n => UInt8.ofNat n.toNat) = bs ∧ ∀ (i : Nat) n, ns[i]? = some n → get i 0 = .int .u8 n ∧ ∃ x, es[i]? = some [x]
  | [], bs, h, hr => by
    obtain rfl := Option.some.inj h
    exact ⟨[], rfl, rfl, fun i n h => by simp at h⟩
  | e :: es, bs, h, hr => by
    unfold strOf at h
    split at h
    · rename_i h1; cases h1
    · rename_i n es' h1
      simp only [List.cons.injEq] at h1
      obtain ⟨rfl, rfl⟩ := h1
      split at h
      · rename_i bs' hq
        obtain rfl := Option.some.inj h
        obtain ⟨ns, h1, h2, h3⟩ := strOf_spec (get := fun i j => get (i + 1) j) hq (fun i e j x hi hj => hr (i + 1) e j x (by simpa using hi) hj)
        refine ⟨n :: ns, by simp [h1], by simp [h2], fun i k hk => ?_⟩
        cases i with
        | zero =>
          have hg : CV S w (.v (.int .u8 n)) (get 0 0) := hr 0 _ 0 _ rfl rfl
          simp only [List.getElem?_cons_zero, Option.some.injEq] at hk
          subst hk
          generalize get 0 0 = z at hg
          cases hg
          exact ⟨rfl, _, rfl⟩
        | succ i => simpa using h3 i k (by simpa using hk)
      · cases h
    · cases h
theorem fold_bytes (ns : List Int) : ∀ (b : ByteArray), (ns.foldl (fun r n => r.push (UInt8.ofNat n.toNat)) b).data.toList = b.data.toList ++ ns.map (fun n => UInt8.ofNat n.toNat) := by
  induction ns with
  | nil => intro b; simp
  | cons n ns ih => intro b; rw [List.foldl_cons, ih]; simp [ByteArray.push]
theorem o_convert (hT : TOK P E.T) {src dst : TypeId} {x : Operand} (ho : o.op = .convert src dst x) (h : vop E f c o s M nx K = some r) : ∃ v ef, K v ef = some r ∧ Good E P o s M nx v ef := by
  unfold vop at h; rw [ho] at h
  dsimp only at h
  have mx : x ∈ o.op.operands.toList := by rw [ho]; simp [Op.operands]
  have run : ∀ (a : Act) w u z, a.eval x = u → (convert src dst u).run P w = .ok z w → (execOp a.eval o).run P w = .ok (.value z) w := by
    intro a w u z hu hr
    unfold execOp; rw [ho]; dsimp only
    rw [hu, Sem.run_bind, hr]; rfl
  split at h
  · rename_i q n hp
    split at h
    · rename_i k hk
      obtain ⟨hc, h⟩ := chk_some h
      simp only [Bool.and_eq_true] at hc
      obtain ⟨_, _, _, hs, _⟩ := tok_info hT hc.1
      have hd := tok_kind hT hc.2 hk
      refine ⟨_, _, h, .of_pure fun S w ρ m a w0 inn hx hf hm => ⟨.int k (k.wrap n), run a w (.int q n) _ ?_ ?_, rs_v rfl⟩⟩
      · have e1 := hx x mx; rw [hp] at e1; exact e1.one_v.1
      · simp [convert, run_underlying hs, run_underlying hd, Conv.intToInt]
    · cases h
  · rename_i b hp
    obtain ⟨hc, h⟩ := chk_some h
    simp only [Bool.and_eq_true] at hc
    obtain ⟨_, _, _, hs, _⟩ := tok_info hT hc.1.1
    have hd := tok_str hT hc.1.2 hc.2
    refine ⟨_, _, h, .of_pure fun S w ρ m a w0 inn hx hf hm => ⟨.string b, run a w (.string b) _ ?_ ?_, rs_v rfl⟩⟩
    · have e1 := hx x mx; rw [hp] at e1; exact e1.one_v.1
    · simp [convert, run_underlying hs, run_underlying hd]
  · rename_i y _ _ hp
    obtain ⟨hc, h⟩ := chk_some h
    simp only [Bool.and_eq_true, beq_iff_eq] at hc
    obtain ⟨hs, he⟩ := tok_slice hT hc.1.1.1.2 hc.1.2
    have hd := tok_str hT hc.1.1.1.1 hc.1.1.2
    have hek := tok_kind hT he hc.2
    split at h
    · rename_i fl sz es hes
      split at h
      · rename_i bs hbs
        refine ⟨_, _, h, .of_pure fun S w ρ m a w0 inn hx hf hm => ?_⟩
        have e1 := hx x mx; rw [hp] at e1
        obtain ⟨ad, n, cc, get, hv, hn, hnc, hl, hfl, hmm, hr⟩ := elems_sound hm hes e1 (fun i hi => hf i (by simpa [foot, ho, hp, svAts] using hi))
        refine ⟨.string ⟨bs.toArray⟩, run a w _ _ hv ?_, rs_v rfl⟩
        rw [run_convert_bytes_string w src dst _ _ _ _ hs hek hd]
        obtain ⟨ns, h1, h2, h3⟩ := strOf_spec hbs hr
        cases es with
        | nil =>
          obtain rfl : ns = [] := List.length_eq_zero_iff.1 h1
          subst hn
          obtain rfl : bs = [] := h2.symm
          cases ad with
          | none => rfl
          | some ad => 
            exact run_bytesToString w ad 0 cc [] (by rfl)
        | cons e0 es0 =>
          obtain ⟨ad', ha, _, hcell⟩ := hmm (by simp)
          subst ha
          have hl1 : ∀ (i : Nat) nn, ns[i]? = some nn → w.cell? (ad'.add i) = some (.int .u8 nn) := by
            intro i nn hi
            obtain ⟨hg, x, hxe⟩ := h3 i nn hi
            have hsz := hl i _ hxe
            simp only [List.length_singleton] at hsz
            have := hcell i _ 0 x hxe rfl
            rw [← hsz, Nat.mul_one, Nat.add_zero, hg] at this
            exact this
          rw [run_bytesToString w ad' n cc ns (by
            have := run_loadCells_list (P := P) w ad' (ns.map (Value.int .u8)) (fun j v hj => by
              rw [List.getElem?_map, Option.map_eq_some_iff] at hj
              obtain ⟨nn, hnn, rfl⟩ := hj
              exact hl1 j nn hnn)
            simpa [h1, hn] using this)]
          congr 2
          exact data_eq (by rw [fold_bytes]; simp [h2])
      · cases h
    · cases h
  · cases h
end
end Go.Vi
