/- THE VALUE INTERPRETER: slices read, cut, turned into strings; their length. No project text. -/
import Derived.Test.YtfbdceccefmloabVi8
import Derived.Laws.BytesString
set_option linter.unusedVariables false
set_option linter.unusedSimpArgs false
namespace Go.Vi
open Go.RowKit
variable {R : Type}
/-- A slice value and its elements; 'B': of the block that it lies in. -/
def SlV (B S : Nat → Prop) (w : World) (fl : Bool) (sz : Nat) (es : List (List At)) (u : Value) : Prop :=
  ∃ (a : Option Addr) (n c : Nat) (get : Nat → Nat → Value), u = .slice a n c ∧ n = es.length ∧ n ≤ c ∧ (∀ (i : Nat) e, es[i]? = some e → e.length = sz) ∧
    (fl = true → ∀ (i : Nat) e, es[i]? = some e → ∀ x ∈ e, isV x = true) ∧
    (es ≠ [] → ∃ ad : Addr, a = some ad ∧ B ad.block ∧ ∀ (i : Nat) e (j : Nat) x, es[i]? = some e → e[j]? = some x → w.cell? (ad.add (i * sz + j)) = some (get i j)) ∧
    ∀ (i : Nat) e (j : Nat) x, es[i]? = some e → e[j]? = some x → CV S w x (get i j)
section
variable {B S : Nat → Prop} {w : World} {fl : Bool} {sz : Nat} {es : List (List At)} {u : Value}
theorem slv_cv : SlV S S w fl sz es u ↔ CV S w (.ro fl sz es) u := by
  constructor
  · rintro ⟨a, n, c, get, rfl, hn, hc, hl, hf, hm, hr⟩
    exact .ro get hn hc hl hf hm hr
  · intro h
    cases h with
    | ro get hn hc hl hf hm hr => exact ⟨_, _, _, get, rfl, hn, hc, hl, hf, hm, hr⟩
theorem SlV.mono {B' : Nat → Prop} (h : SlV B S w fl sz es u) (hb : ∀ g, B g → B' g) : SlV B' S w fl sz es u := by
  obtain ⟨a, n, c, get, h1, hn, hc, hl, hf, hm, hr⟩ := h
  exact ⟨a, n, c, get, h1, hn, hc, hl, hf, fun h => let ⟨ad, h1, h2, h3⟩ := hm h; ⟨ad, h1, hb _ h2, h3⟩, hr⟩
theorem SlV.nil (c : Nat) (a : Option Addr) : SlV B S w fl sz [] (.slice a 0 c) :=
  ⟨a, 0, c, fun _ _ => undef, rfl, rfl, Nat.zero_le _, fun i e h => by simp at h, fun _ i e h => by simp at h, fun h => absurd rfl h, fun i e j x h => by simp at h⟩
theorem getElem?_cut {α : Type} (l h : Nat) (es : List α) (i : Nat) (x : α) (hx : ((es.take h).drop l)[i]? = some x) : es[l + i]? = some x := by
  rw [List.getElem?_drop, List.getElem?_take] at hx
  split at hx
  · exact hx
  · cases hx
theorem SlV.cut (h : SlV B S w fl sz es u) {l hi : Nat} (h1 : l ≤ hi) (h2 : hi ≤ es.length) : ∃ a n c, u = .slice a n c ∧ n = es.length ∧ n ≤ c ∧ SlV B S w fl sz ((es.take hi).drop l) (sliced a l hi c sz) := by
  obtain ⟨a, n, c, get, rfl, hn, hc, hl, hf, hm, hr⟩ := h
  refine ⟨a, n, c, rfl, hn, hc, _, _, _, fun i j => get (l + i) j, rfl, ?_, by omega, fun i e he => hl _ e (getElem?_cut _ _ _ _ _ he), fun hfl i e he => hf hfl _ e (getElem?_cut _ _ _ _ _ he), fun hne => ?_, fun i e j x he hx => hr _ e j x (getElem?_cut _ _ _ _ _ he) hx⟩
  · simp; omega
  · have hlt : l < hi := by
      rcases Nat.lt_or_ge l hi with h | h
      · exact h
      · exact absurd (by simp; omega : (es.take hi).drop l = []) hne
    obtain ⟨ad, ha, hb, hcell⟩ := hm (by intro e; rw [e] at h2; simp at h2; omega)
    subst ha
    rw [if_neg (by omega)]
    refine ⟨ad.add (l * sz), rfl, by rw [block_add]; exact hb, fun i e j x he hx => ?_⟩
    have := hcell (l + i) e j x (getElem?_cut _ _ _ _ _ he) hx
    rw [Addr.add_add]
    rw [show l * sz + (i * sz + j) = (l + i) * sz + j by rw [Nat.add_mul]; omega]
    exact this
end
section
variable {E : Env} {P : Program} {w0 : World} {inn : Inn} {S : Nat → Prop} {ρ : Loc} {m : Mem} {w : World} {o : Oper} {s : TS} {M : List Box} {nx : Nat} {v : Sv} {ef : Eff} {K : Sv → Eff → Option R} {r : R} {f : Nat} {c : Orc}
theorem rowOf_some {a k e sz : Nat} {fl : Bool} {es : List (List At)} (h : rowOf M a k = some (e, fl, sz, es)) : ∃ f, memOf M a = .row e k f fl sz es := by
  unfold rowOf at h
  unfold memOf
  split at h
  · rename_i e' k' f fl' sz' es' hq
    split at h
    · rename_i hk
      simp only [Option.some.injEq, Prod.mk.injEq] at h
      obtain ⟨rfl, rfl, rfl, rfl⟩ := h
      obtain rfl : k = k' := by simpa using hk
      exact ⟨f, hq⟩
    · cases h
  · cases h
theorem row_slv (hm : MR E w0 inn S ρ m w) {a e k sz : Nat} {f fl : Bool} {es : List (List At)} (h : m a = .row e k f fl sz es) : SlV (fun g => blk (ρ a) = some g) S w fl sz es (ρ a) := by
  have hb := hm.box a
  rw [h] at hb
  obtain ⟨h0, h1, h2, xs, h3, h4⟩ := hb
  rcases h3.2 with ⟨hv, hn⟩ | ⟨g, cap, cur, hv, hbg, hg, hnc, hcm, hcs, htake⟩
  · have : es = [] := List.length_eq_zero_iff.1 hn
    subst this
    rw [hv]
    exact SlV.nil 0 none
  · rw [hv]
    refine ⟨_, _, _, fun i j => (xs[i * sz + j]?).getD undef, rfl, rfl, hnc, h1, h2, fun _ => ⟨_, rfl, rfl, fun i e j x he hx => ?_⟩, fun i e j x he hx => ?_⟩
    · obtain ⟨u, hu, _⟩ := h4 i e j x he hx
      dsimp only
      rw [hu]
      rw [hv] at h3
      exact h3.cells (g := g) rfl _ _ hu
    · obtain ⟨u, hu, hx⟩ := h4 i e j x he hx
      dsimp only
      rw [hu]; exact hx
theorem addr_add0 (g n : Nat) : (⟨g, 0, none⟩ : Addr).add n = ⟨g, n, none⟩ := by rw [Addr.add_mid, Nat.zero_add]
theorem elems_sound (hm : MR E w0 inn S ρ m w) {x : At} {fl : Bool} {sz : Nat} {es : List (List At)} {u : Value} (h : elems M x = some (fl, sz, es)) (hx : RA S w ρ m x u)
    (hf : ∀ i ∈ ownId x, m i = memOf M i) : SlV (fun _ => True) S w fl sz es u := by
  cases x with
  | ro fl' sz' es' =>
    simp only [elems, Option.some.injEq, Prod.mk.injEq] at h
    obtain ⟨rfl, rfl, rfl⟩ := h
    exact (slv_cv.2 hx).mono fun _ _ => trivial
  | nils =>
    simp only [elems, Option.some.injEq, Prod.mk.injEq] at h
    obtain ⟨rfl, rfl, rfl⟩ := h
    have hx' : CV S w .nils u := hx
    cases hx'
    exact SlV.nil 0 none
  | own a k =>
    simp only [elems, Option.map_eq_some_iff] at h
    obtain ⟨⟨e, fl', sz', es'⟩, h1, h2⟩ := h
    simp only [Prod.mk.injEq] at h2
    obtain ⟨rfl, rfl, rfl⟩ := h2
    obtain ⟨fz, hr⟩ := rowOf_some h1
    have hma := (hf a (by simp [ownId])).trans hr
    simp only [RA, hma] at hx
    rw [hx.2.2 trivial]
    exact (row_slv hm hma).mono fun _ _ => trivial
  | part a k lo hi =>
    simp only [elems, Option.map_eq_some_iff] at h
    obtain ⟨⟨e, fl', sz', es'⟩, h1, h2⟩ := h
    simp only [Prod.mk.injEq] at h2
    obtain ⟨rfl, rfl, rfl⟩ := h2
    obtain ⟨fz, hr⟩ := rowOf_some h1
    have hma := (hf a (by simp [ownId])).trans hr
    simp only [RA, hma] at hx
    obtain ⟨h1, h2, ad, cc, hv, hcc, hp⟩ := hx.2.2 trivial
    obtain ⟨a', n, c', h5, hn, hnc, h6⟩ := (row_slv hm hma).cut h1 h2
    rw [hv]
    obtain ⟨a2, n2, c2, get, e2, hn2, hc2, hl2, hf2, hm2, hr2⟩ := h6
    simp only [sliced, Value.slice.injEq] at e2
    refine ⟨_, _, _, get, rfl, by omega, hcc, hl2, hf2, fun hne => ?_, hr2⟩
    have hlt : lo < hi := by
      rcases Nat.lt_or_ge lo hi with h | h
      · exact h
      · exact absurd (by simp; omega : (es'.take hi).drop lo = []) hne
    obtain ⟨g, n3, c3, e3, rfl⟩ := hp hlt
    obtain ⟨ad2, h7, h8, h9⟩ := hm2 hne
    refine ⟨_, rfl, trivial, ?_⟩
    rw [e3] at h5
    simp only [Value.slice.injEq] at h5
    obtain ⟨rfl, rfl, rfl⟩ := h5
    rw [if_neg (by omega), h7] at e2
    simp only [Option.map_some, Option.some.injEq] at e2
    have e4 : (⟨g, lo * sz', none⟩ : Addr) = ad2 := by
      rw [← e2.1, addr_add0]
    rw [e4]; exact h9
  | _ => simp [elems] at h

theorem size_run (hT : TOK P E.T) {t : Nat} (ht : (E.T t).ok = true) (w : World) : (sizeOf t).run P w = .ok (E.T t).size w := by
  obtain ⟨i, d, hi, hu, hs, _⟩ := tok_info hT ht
  rw [← hs]
  clear hs
  simp [sizeOf, typeInfo, hi]
theorem elem_of {t e : Nat} (h : P.underlying t = some (.slice e)) : P.elem t = e := by simp [Program.elem, h]

/-! ### bounds -/
theorem bnd_spec {d : Int} {x : Option Operand} {k : Int → Option R} {r : R} (h : bnd d s x k = some r) :
    ∃ n, k n = some r ∧ ((x = none ∧ n = d) ∨ ∃ y q, x = some y ∧ opnd s y = .one (.v (.int q n))) := by
  unfold bnd at h
  split at h
  · exact ⟨d, h, .inl ⟨rfl, rfl⟩⟩
  · rename_i y
    split at h
    · rename_i q n hq
      exact ⟨n, h, .inr ⟨y, q, rfl, hq⟩⟩
    · cases h
/-- The bounds' values as they run. -/
def BV (d : Int) (x : Option Value) (n : Int) : Prop := (x = none ∧ n = d) ∨ ∃ q, x = some (.int q n)
theorem slice_run {t : TypeId} {e : TypeId} (ht : P.underlying t = some (.slice e)) {sz : Nat} (hs : ∀ w, (sizeOf e).run P w = .ok sz w) {a : Option Addr} {len cap : Nat} {lo hi : Option Value} {l h : Int}
    (hl : BV 0 lo l) (hh : BV len hi h) (h0 : 0 ≤ l) (h1 : l ≤ h) (h2 : h ≤ len) (h3 : len ≤ cap) : (Instr.sliceAt t (.slice a len cap) lo hi none).run P w = .ok (sliced a l.toNat h.toNat cap sz) w := by
  have ht' : P.underlying t = some (.slice (P.elem t)) := by rw [elem_of ht]; exact ht
  have hs' : (sizeOf (P.elem t)).run P w = .ok sz w := by rw [elem_of ht]; exact hs w
  rw [run_sliceAt_slice _ _ _ _ _ _ ht']
  rcases hl with ⟨rfl, rfl⟩ | ⟨q, rfl⟩ <;> rcases hh with ⟨rfl, rfl⟩ | ⟨q', rfl⟩
  · rw [run_slice_all _ _ _ _ _ ht', hs']; simp
  · rw [run_slice_h _ _ _ _ _ ht' _ _ (by omega) (by omega), hs']; simp
  · rw [run_slice_l _ _ _ _ _ ht' _ _ (by omega) (by omega), hs']; simp
  · rw [run_slice_lh _ _ _ _ _ ht' _ _ _ _ (by omega) (by omega) (by omega), hs']; simp
theorem slice_str_run {t : TypeId} (ht : P.underlying t = some .string) {b : ByteArray} {lo hi : Option Value} {l h : Int}
    (hl : BV 0 lo l) (hh : BV b.size hi h) (h0 : 0 ≤ l) (h1 : l ≤ h) (h2 : h ≤ b.size) : (Instr.sliceAt t (.string b) lo hi none).run P w = .ok (.string (b.extract l.toNat h.toNat)) w := by
  rw [run_sliceAt_string _ _ _ _ _ _ ht]
  rcases hl with ⟨rfl, rfl⟩ | ⟨q, rfl⟩ <;> rcases hh with ⟨rfl, rfl⟩ | ⟨q', rfl⟩
  · rw [run_slice_string_all _ _ _ ht]; simp
  · rw [run_slice_string_h _ _ _ ht _ _ (by omega) (by omega)]; simp
  · rw [run_slice_string_l _ _ _ ht _ _ (by omega) (by omega)]; simp
  · rw [run_slice_string _ _ _ _ _ _ _ ht (by omega) (by omega) (by omega)]
theorem bv_of {d n : Int} {x : Option Operand} {a : Act} (h : (x = none ∧ n = d) ∨ ∃ y q, x = some y ∧ opnd s y = .one (.v (.int q n))) (hx : ∀ y, x = some y → RS S w ρ m (opnd s y) (a.eval y)) : BV d (x.map a.eval) n := by
  rcases h with ⟨rfl, rfl⟩ | ⟨y, q, rfl, hy⟩
  · exact .inl ⟨rfl, rfl⟩
  · have h1 := hx y rfl
    rw [hy] at h1
    exact .inr ⟨q, by simp [h1.one_v.1]⟩

theorem o_slice (hT : TOK P E.T) {t : TypeId} {x : Operand} {lo hi : Option Operand} (ho : o.op = .slice t x lo hi none) (h : vop E f c o s M nx K = some r) : ∃ v ef, K v ef = some r ∧ Good E P o s M nx v ef := by
  unfold vop at h; rw [ho] at h
  dsimp only at h
  obtain ⟨hc, h⟩ := chk_some h
  simp only [Bool.and_eq_true, Bool.or_eq_true] at hc
  have mx : x ∈ o.op.operands.toList := by rw [ho]; simp [Op.operands]
  have ml : ∀ y, lo = some y → y ∈ o.op.operands.toList := by rw [ho]; rintro y rfl; simp [Op.operands]
  have mh : ∀ y, hi = some y → y ∈ o.op.operands.toList := by rw [ho]; rintro y rfl; simp [Op.operands]
  have run : ∀ (a : Act) w u z, a.eval x = u → (Instr.sliceAt t u (lo.map a.eval) (hi.map a.eval) none).run P w = .ok z w → (execOp a.eval o).run P w = .ok (.value z) w := by
    intro a w u z hu hr
    unfold execOp; rw [ho]; dsimp only
    rw [hu, Sem.run_bind, Option.map_none, hr]; rfl
  split at h
  · rename_i b hp
    obtain ⟨hstr, h⟩ := chk_some h
    have hu := tok_str hT hc.1 hstr
    obtain ⟨l, h, hl⟩ := bnd_spec h
    obtain ⟨hh, h, hhi⟩ := bnd_spec h
    obtain ⟨h0, h⟩ := chk_some h
    obtain ⟨h1, h⟩ := chk_some h
    obtain ⟨h2, h⟩ := chk_some h
    simp only [decide_eq_true_eq] at h0 h1 h2
    refine ⟨_, _, h, .of_pure fun S w ρ m a w0 inn hx hf hm => ⟨_, run a w _ _ ?_ (slice_str_run hu (bv_of hl fun y hy => hx y (ml y hy)) (bv_of hhi fun y hy => hx y (mh y hy)) h0 h1 h2), rs_v rfl⟩⟩
    have e1 := hx x mx
    rw [hp] at e1
    exact e1.one_v.1
  · rename_i fl sz es hp
    obtain ⟨hsl, h⟩ := chk_some h
    simp only [Bool.and_eq_true, beq_iff_eq] at hsl
    obtain ⟨hu, he⟩ := tok_slice hT hc.1 hsl.1
    obtain ⟨l, h, hl⟩ := bnd_spec h
    obtain ⟨hh, h, hhi⟩ := bnd_spec h
    obtain ⟨h0, h⟩ := chk_some h
    obtain ⟨h1, h⟩ := chk_some h
    obtain ⟨h2, h⟩ := chk_some h
    simp only [decide_eq_true_eq] at h0 h1 h2
    refine ⟨_, _, h, .of_pure fun S w ρ m a w0 inn hx hf hm => ?_⟩
    have e1 := hx x mx
    rw [hp] at e1
    obtain ⟨ad, n, cc, hv, hn, hnc, hcut⟩ := (slv_cv.2 (show CV S w (.ro fl sz es) (a.eval x) from e1)).cut (l := l.toNat) (hi := hh.toNat) (by omega) (by omega)
    subst hn
    exact ⟨_, run a w _ _ hv (slice_run hu (sz := sz) (fun w => by rw [hsl.2]; exact size_run hT he w) (bv_of hl fun y hy => hx y (ml y hy)) (bv_of hhi fun y hy => hx y (mh y hy)) h0 h1 h2 hnc), slv_cv.1 hcut⟩
  · rename_i b k hp
    split at h
    · rename_i e fl sz es hrow
      obtain ⟨hsl, h⟩ := chk_some h
      simp only [Bool.and_eq_true, beq_iff_eq] at hsl
      obtain ⟨hu, he⟩ := tok_slice hT hc.1 hsl.1
      obtain ⟨l, h, hl⟩ := bnd_spec h
      obtain ⟨hh, h, hhi⟩ := bnd_spec h
      obtain ⟨h0, h⟩ := chk_some h
      obtain ⟨h1, h⟩ := chk_some h
      obtain ⟨h2, h⟩ := chk_some h
      simp only [decide_eq_true_eq] at h0 h1 h2
      refine ⟨_, _, h, .of_pure fun S w ρ m a w0 inn hx hf hm => ?_⟩
      have e1 := hx x mx
      rw [hp] at e1
      obtain ⟨fz, hr⟩ := rowOf_some hrow
      have hma := (hf b (by simp [foot, ho, hp, svAts, ownId])).trans hr
      have hsv := row_slv hm hma
      have e2 : RA S w ρ m (.own b k) (a.eval x) := e1
      simp only [RA, hma] at e2
      have hv := e2.2.2 trivial
      obtain ⟨ad, n, cc, hv2, hn, hnc, hcut⟩ := hsv.cut (l := l.toNat) (hi := hh.toNat) (by omega) (by omega)
      subst hn
      refine ⟨_, run a w _ _ (hv.trans hv2) (slice_run hu (sz := sz) (fun w => by rw [hsl.2]; exact size_run hT he w) (bv_of hl fun y hy => hx y (ml y hy)) (bv_of hhi fun y hy => hx y (mh y hy)) h0 h1 h2 hnc), ?_⟩
      show RA S w ρ m (.part b k l.toNat hh.toNat) _
      simp only [RA, hma]
      refine ⟨Nat.le_refl _, rfl, fun _ => ⟨by omega, by omega, _, _, rfl, by omega, fun hlt => ?_⟩⟩
      have hb := hm.box b
      rw [hma] at hb
      obtain ⟨_, _, _, xs, h3, _⟩ := hb
      rcases h3.2 with ⟨hv3, hn⟩ | ⟨g, cap, cur, hv3, _⟩
      · omega
      · rw [hv2] at hv3
        simp only [Value.slice.injEq] at hv3
        obtain ⟨rfl, _, rfl⟩ := hv3
        refine ⟨g, _, _, hv2, ?_⟩
        rw [if_neg (by omega)]
        simp only [Option.map_some, Option.some.injEq]
        rw [addr_add0]
    · cases h
  · cases h

/-! ### bytes to a string -/
theorem strOf_spec {get : Nat → Nat → Value} : ∀ {es : List (List At)} {bs : List UInt8} , strOf es = some bs → (∀ (i : Nat) e (j : Nat) x, es[i]? = some e → e[j]? = some x → CV S w x (get i j)) →
    ∃ ns : List Int, ns.length = es.length ∧ ns.map (fun n => UInt8.ofNat n.toNat) = bs ∧ ∀ (i : Nat) n, ns[i]? = some n → get i 0 = .int .u8 n ∧ ∃ x, es[i]? = some [x]
  | [], bs, h, hr => by
    obtain rfl := Option.some.inj h
    exact ⟨[], rfl, rfl, fun i n h => by simp at h⟩
  | e :: es, bs, h, hr => by
    unfold strOf at h
    split at h
    · rename_i h1; cases h1
    · rename_i n es' h1
      simp only [List.cons.injEq] at h1
      obtain ⟨rfl, rfl⟩ := h1
      split at h
      · rename_i bs' hq
        obtain rfl := Option.some.inj h
        obtain ⟨ns, h1, h2, h3⟩ := strOf_spec (get := fun i j => get (i + 1) j) hq (fun i e j x hi hj => hr (i + 1) e j x (by simpa using hi) hj)
        refine ⟨n :: ns, by simp [h1], by simp [h2], fun i k hk => ?_⟩
        cases i with
        | zero =>
          have hg : CV S w (.v (.int .u8 n)) (get 0 0) := hr 0 _ 0 _ rfl rfl
          simp only [List.getElem?_cons_zero, Option.some.injEq] at hk
          subst hk
          generalize get 0 0 = z at hg
          cases hg
          exact ⟨rfl, _, rfl⟩
        | succ i => simpa using h3 i k (by simpa using hk)
      · cases h
    · cases h
theorem fold_bytes (ns : List Int) : ∀ (b : ByteArray), (ns.foldl (fun r n => r.push (UInt8.ofNat n.toNat)) b).data.toList = b.data.toList ++ ns.map (fun n => UInt8.ofNat n.toNat) := by
  induction ns with
  | nil => intro b; simp
  | cons n ns ih => intro b; rw [List.foldl_cons, ih]; simp [ByteArray.push]
theorem o_convert (hT : TOK P E.T) {src dst : TypeId} {x : Operand} (ho : o.op = .convert src dst x) (h : vop E f c o s M nx K = some r) : ∃ v ef, K v ef = some r ∧ Good E P o s M nx v ef := by
  unfold vop at h; rw [ho] at h
  dsimp only at h
  have mx : x ∈ o.op.operands.toList := by rw [ho]; simp [Op.operands]
  have run : ∀ (a : Act) w u z, a.eval x = u → (convert src dst u).run P w = .ok z w → (execOp a.eval o).run P w = .ok (.value z) w := by
    intro a w u z hu hr
    unfold execOp; rw [ho]; dsimp only
    rw [hu, Sem.run_bind, hr]; rfl
  split at h
  · rename_i q n hp
    split at h
    · rename_i k hk
      obtain ⟨hc, h⟩ := chk_some h
      simp only [Bool.and_eq_true] at hc
      obtain ⟨_, _, _, hs, _⟩ := tok_info hT hc.1
      have hd := tok_kind hT hc.2 hk
      refine ⟨_, _, h, .of_pure fun S w ρ m a w0 inn hx hf hm => ⟨.int k (k.wrap n), run a w (.int q n) _ ?_ ?_, rs_v rfl⟩⟩
      · have e1 := hx x mx; rw [hp] at e1; exact e1.one_v.1
      · simp [convert, run_underlying hs, run_underlying hd, Conv.intToInt]
    · cases h
  · rename_i b hp
    obtain ⟨hc, h⟩ := chk_some h
    simp only [Bool.and_eq_true] at hc
    obtain ⟨_, _, _, hs, _⟩ := tok_info hT hc.1.1
    have hd := tok_str hT hc.1.2 hc.2
    refine ⟨_, _, h, .of_pure fun S w ρ m a w0 inn hx hf hm => ⟨.string b, run a w (.string b) _ ?_ ?_, rs_v rfl⟩⟩
    · have e1 := hx x mx; rw [hp] at e1; exact e1.one_v.1
    · simp [convert, run_underlying hs, run_underlying hd]
  · rename_i y _ _ hp
    obtain ⟨hc, h⟩ := chk_some h
    simp only [Bool.and_eq_true, beq_iff_eq] at hc
    obtain ⟨hs, he⟩ := tok_slice hT hc.1.1.1.2 hc.1.2
    have hd := tok_str hT hc.1.1.1.1 hc.1.1.2
    have hek := tok_kind hT he hc.2
    split at h
    · rename_i fl sz es hes
      split at h
      · rename_i bs hbs
        refine ⟨_, _, h, .of_pure fun S w ρ m a w0 inn hx hf hm => ?_⟩
        have e1 := hx x mx; rw [hp] at e1
        obtain ⟨ad, n, cc, get, hv, hn, hnc, hl, hfl, hmm, hr⟩ := elems_sound hm hes e1 (fun i hi => hf i (by simpa [foot, ho, hp, svAts] using hi))
        refine ⟨.string ⟨bs.toArray⟩, run a w _ _ hv ?_, rs_v rfl⟩
        rw [run_convert_bytes_string w src dst _ _ _ _ hs hek hd]
        obtain ⟨ns, h1, h2, h3⟩ := strOf_spec hbs hr
        cases es with
        | nil =>
          obtain rfl : ns = [] := List.length_eq_zero_iff.1 h1
          subst hn
          obtain rfl : bs = [] := h2.symm
          cases ad with
          | none => rfl
          | some ad => 
            exact run_bytesToString w ad 0 cc [] (by rfl)
        | cons e0 es0 =>
          obtain ⟨ad', ha, _, hcell⟩ := hmm (by simp)
          subst ha
          have hl1 : ∀ (i : Nat) nn, ns[i]? = some nn → w.cell? (ad'.add i) = some (.int .u8 nn) := by
            intro i nn hi
            obtain ⟨hg, x, hxe⟩ := h3 i nn hi
            have hsz := hl i _ hxe
            simp only [List.length_singleton] at hsz
            have := hcell i _ 0 x hxe rfl
            rw [← hsz, Nat.mul_one, Nat.add_zero, hg] at this
            exact this
          rw [run_bytesToString w ad' n cc ns (by
            have := run_loadCells_list (P := P) w ad' (ns.map (Value.int .u8)) (fun j v hj => by
              rw [List.getElem?_map, Option.map_eq_some_iff] at hj
              obtain ⟨nn, hnn, rfl⟩ := hj
              exact hl1 j nn hnn)
            simpa [h1, hn] using this)]
          congr 2
          exact data_eq (by rw [fold_bytes]; simp [h2])
      · cases h
    · cases h
  · cases h
end
end Go.Vi
