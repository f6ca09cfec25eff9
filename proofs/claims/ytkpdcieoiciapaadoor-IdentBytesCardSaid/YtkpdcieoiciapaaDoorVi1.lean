/- THE VALUE INTERPRETER: how its values stand in the model's memory, and what keeps them so. No project text. -/
import Derived.Test.YtkpdcieoiciapaaDoorVi0
import Derived.Below
import Derived.Deep.Slices
import Derived.Deep.MidRow
import Derived.Laws.AppendOwn
import Derived.Laws.OwnMore
import Derived.Laws.Slices
set_option linter.unusedVariables false
set_option linter.unusedSimpArgs false
namespace Go.Vi
open Go.RowKit

/-- A closed value: what it leads to lies in blocks of S, which nobody writes. -/
inductive CV (S : Nat → Prop) (w : World) : At → Value → Prop
  | v {x : Value} (h : x.oneCell' = true) : CV S w (.v x) x
  | ro {fl : Bool} {sz : Nat} {es : List (List At)} {a : Option Addr} {n c : Nat} (get : Nat → Nat → Value) (hn : n = es.length) (hc : n ≤ c)
      (hl : ∀ (i : Nat) e, es[i]? = some e → e.length = sz)
      (hf : fl = true → ∀ (i : Nat) e, es[i]? = some e → ∀ x ∈ e, isV x = true)
      (hm : es ≠ [] → ∃ ad : Addr, a = some ad ∧ S ad.block ∧ ∀ (i : Nat) e (j : Nat) x, es[i]? = some e → e[j]? = some x → w.cell? (ad.add (i * sz + j)) = some (get i j))
      (hr : ∀ (i : Nat) e (j : Nat) x, es[i]? = some e → e[j]? = some x → CV S w x (get i j)) : CV S w (.ro fl sz es) (.slice a n c)
  | nils {a : Option Addr} : CV S w .nils (.slice a 0 0)
  | fix {fl : Bool} {sz : Nat} {es : List (List At)} {a : Option Addr} {n : Nat} (get : Nat → Nat → Value) (hn : n = es.length)
      (hl : ∀ (i : Nat) e, es[i]? = some e → e.length = sz)
      (hf : fl = true → ∀ (i : Nat) e, es[i]? = some e → ∀ x ∈ e, isV x = true)
      (hm : es ≠ [] → ∃ ad : Addr, a = some ad ∧ S ad.block ∧ ∀ (i : Nat) e (j : Nat) x, es[i]? = some e → e[j]? = some x → w.cell? (ad.add (i * sz + j)) = some (get i j))
      (hr : ∀ (i : Nat) e (j : Nat) x, es[i]? = some e → e[j]? = some x → CV S w x (get i j)) : CV S w (.fix fl sz es) (.slice a n n)
  | err {t : TypeId} {v : Value} : CV S w .err (.iface t v)
  | unk {k : IntKind} {n : Int} : CV S w (.unk k) (.int k n)
  | roe {sz off : Nat} {cs : List At} {ad : Addr} (get : Nat → Value) (hs : cs.length = sz) (hb : S ad.block)
      (hm : ∀ (j : Nat) x, cs[j]? = some x → w.cell? (ad.add j) = some (get j))
      (hr : ∀ (j : Nat) x, cs[j]? = some x → CV S w x (get j)) : CV S w (.roe sz cs off) (.pointer (some (ad.add off)))
  | gp {g off : Nat} : CV S w (.gp g off) (.pointer (some ⟨g, off, none⟩))
  | fn {f : Nat} : CV S w (.fn f []) (.func (.func f) #[] #[])

theorem CV.one {S : Nat → Prop} {w : World} {x : At} {v : Value} (h : CV S w x v) : v.oneCell' = true := by
  cases h with
  | v h => exact h
  | _ => rfl

/-- The world grows, S grows; the blocks of S stay. -/
structure Kp (S S' : Nat → Prop) (w w' : World) : Prop where
  sub : ∀ g, S g → S' g
  same : ∀ g, S g → w'.heap[g]? = w.heap[g]?
theorem Kp.refl (S : Nat → Prop) (w : World) : Kp S S w w := ⟨fun _ h => h, fun _ _ => rfl⟩
theorem Kp.trans {S S' S'' : Nat → Prop} {w w' w'' : World} (h : Kp S S' w w') (k : Kp S' S'' w' w'') : Kp S S'' w w'' :=
  ⟨fun g hg => k.sub g (h.sub g hg), fun g hg => (k.same g (h.sub g hg)).trans (h.same g hg)⟩
theorem block_add (a : Addr) (n : Nat) : (a.add n).block = a.block := by unfold Addr.add; split <;> rfl
theorem Kp.cell {S S' : Nat → Prop} {w w' : World} (h : Kp S S' w w') {a : Addr} (ha : S a.block) : w'.cell? a = w.cell? a :=
  World.cell?_of_block (h.same _ ha)
theorem CV.keep {S S' : Nat → Prop} {w w' : World} {x : At} {v : Value} (h : CV S w x v) (k : Kp S S' w w') : CV S' w' x v := by
  induction h with
  | v h => exact .v h
  | ro get hn hc hl hf hm hr ih =>
    refine .ro get hn hc hl hf (fun hne => ?_) ih
    obtain ⟨ad, ha, hS, hcell⟩ := hm hne
    exact ⟨ad, ha, k.sub _ hS, fun i e j x hi hj => by rw [k.cell (by rw [block_add]; exact hS)]; exact hcell i e j x hi hj⟩
  | nils => exact .nils
  | fix get hn hl hf hm hr ih =>
    refine .fix get hn hl hf (fun hne => ?_) ih
    obtain ⟨ad, ha, hS, hcell⟩ := hm hne
    exact ⟨ad, ha, k.sub _ hS, fun i e j x hi hj => by rw [k.cell (by rw [block_add]; exact hS)]; exact hcell i e j x hi hj⟩
  | err => exact .err
  | unk => exact .unk
  | roe get hs hb hm hr ih => exact .roe get hs (k.sub _ hb) (fun j x hj => by rw [k.cell (by rw [block_add]; exact hb)]; exact hm j x hj) ih
  | gp => exact .gp
  | fn => exact .fn

abbrev Mem := Nat → Box
abbrev Loc := Nat → Value   -- where a box stands: a variable's address, a row's slice value

/-- An address, among captured values. -/
def RP (ρ : Loc) (m : Mem) (a k i off : Nat) (v : Value) : Prop := match m a with
  | .var _ => ∃ g, ρ a = .pointer (some ⟨g, 0, none⟩) ∧ v = .pointer (some ⟨g, off, none⟩)
  | .row _ k' _ _ sz es => k ≤ k' ∧ (∃ ad, v = .pointer (some ad)) ∧ (k = k' → i < es.length → ∃ g n c, ρ a = .slice (some ⟨g, 0, none⟩) n c ∧ v = .pointer (some ⟨g, i * sz + off, none⟩))
  | .gone => False
def RA (S : Nat → Prop) (w : World) (ρ : Loc) (m : Mem) : At → Value → Prop
  | .own a k, v => match m a with
    | .row _ k' _ _ _ _ => k ≤ k' ∧ v.oneCell' = true ∧ (k = k' → v = ρ a)
    | _ => False
  | .part a k lo hi, v => match m a with
    | .row _ k' _ _ sz es => k ≤ k' ∧ v.oneCell' = true ∧ (k = k' → lo ≤ hi ∧ hi ≤ es.length ∧ ∃ ad n c ad', ρ a = .slice ad n c ∧ v = .slice ad' (hi - lo) (c - lo) ∧ (lo < c → ad' = ad.map (·.add (lo * sz))))
    | _ => False
  | .ptr a k i off, v => RP ρ m a k i off v
  | .fn f caps, v => ∃ vs : Array Value, v = .func (.func f) #[] vs ∧ vs.size = caps.length ∧ ∀ (j : Nat) x, caps[j]? = some x → ∃ u, vs[j]? = some u ∧ (match x with
    | .ptr a k i off => RP ρ m a k i off u
    | x => CV S w x u)
  | .fresh _ _ _ _, v => v = undef
  | .bad, _ => True
  | x, v => CV S w x v
def RL (S : Nat → Prop) (w : World) (ρ : Loc) (m : Mem) (cs : List At) (vs : Array Value) : Prop :=
  vs.size = cs.length ∧ ∀ (j : Nat) x, cs[j]? = some x → ∃ u, vs[j]? = some u ∧ u.oneCell' = true ∧ RA S w ρ m x u
def RS1 (S : Nat → Prop) (w : World) (ρ : Loc) (m : Mem) : Sv → Value → Prop
  | .one x, v => RA S w ρ m x v
  | .agg cs, v => ∃ vs, v = .agg vs ∧ RL S w ρ m cs vs
  | .tup _, _ => False
def RS (S : Nat → Prop) (w : World) (ρ : Loc) (m : Mem) : Sv → Value → Prop
  | .tup xs, v => ∃ vs : Array Value, v = .tuple vs ∧ vs.size = xs.length ∧ ∀ (j : Nat) x, xs[j]? = some x → ∃ u, vs[j]? = some u ∧ RS1 S w ρ m x u
  | x, v => RS1 S w ρ m x v

/-- A row of the call's own: nothing at all, or a block of its own with room. -/
def Owns (w : World) (e : TypeId) (size : Nat) (v : Value) (n : Nat) (xs : List Value) : Prop :=
  xs.length = n * size ∧
  ((∃ ad, v = .slice ad 0 0 ∧ n = 0) ∨
   ∃ g cap cur, v = .slice (some ⟨g, 0, none⟩) n cap ∧ 0 < cap ∧ w.heap[g]? = some (.cells cur e (0, 0)) ∧ n ≤ cap ∧ cap ≤ maxLen ∧ cur.size = cap * size ∧ cur.toList.take (n * size) = xs)
theorem Owns.of {w : World} {b : Nat} {e : TypeId} {size n : Nat} {v : Value} {xs : List Value} (h : w.ownsRow b e size v n xs) : Owns w e size v n xs := by
  refine ⟨h.1, ?_⟩
  rcases h.2 with ⟨h1, h2⟩ | ⟨g, cap, cur, h1, h2, h3, h4, h5, h6, h7⟩
  · exact .inl ⟨_, h1, h2⟩
  · rcases Nat.eq_zero_or_pos cap with h0 | h0
    · obtain rfl : n = 0 := by omega
      subst h0
      exact .inl ⟨_, h1, rfl⟩
    · exact .inr ⟨g, cap, cur, h1, h0, h3, h4, h5, h6, h7⟩
theorem Owns.nil (w : World) (e : TypeId) (size : Nat) (a : Option Addr) : Owns w e size (.slice a 0 0) 0 [] := ⟨by simp, .inl ⟨_, rfl, rfl⟩⟩
/-- A box as it stands. -/
def BR (S : Nat → Prop) (w : World) (ρ : Loc) (m : Mem) (a : Nat) : Box → Prop
  | .var cs => ∃ g vs t, ρ a = .pointer (some ⟨g, 0, none⟩) ∧ w.heap[g]? = some (.cells vs t (0, 0)) ∧ RL S w ρ m cs vs
  | .row e _ _ fl sz es => 0 < sz ∧ (∀ (i : Nat) e', es[i]? = some e' → e'.length = sz) ∧ (fl = true → ∀ (i : Nat) e', es[i]? = some e' → ∀ x ∈ e', isV x = true) ∧
      ∃ xs, Owns w e sz (ρ a) es.length xs ∧ ∀ (i : Nat) e' (j : Nat) x, es[i]? = some e' → e'[j]? = some x → ∃ u, xs[i * sz + j]? = some u ∧ CV S w x u
  | .gone => True
def blk : Value → Option Nat
  | .pointer (some a) => some a.block
  | .slice (some a) _ (_ + 1) => some a.block
  | _ => none
theorem blk_pos {a : Addr} {n c : Nat} (h : 0 < c) : blk (.slice (some a) n c) = some a.block := by
  obtain ⟨c, rfl⟩ : ∃ d, c = d + 1 := ⟨c - 1, by omega⟩
  rfl
theorem blk_zero (a : Option Addr) (n : Nat) : blk (.slice a n 0) = none := by cases a <;> rfl
theorem blk_slice {a : Addr} {n c g : Nat} (h : blk (.slice (some a) n c) = some g) : a.block = g ∧ 0 < c := by
  cases c with
  | zero => cases h
  | succ c => exact ⟨Option.some.inj h, Nat.succ_pos c⟩
def frz : Box → Bool | .row _ _ f _ _ _ => f | _ => false

/-- 'i': the blocks of the caller's own that were handed over; 's': the blocks that nobody wrote from the start. -/
structure Inn where
  i : Nat → Prop
  s : Nat → Prop
/-- Old memory: 'inn': the blocks of the caller's own that were handed over. -/
structure Frm (w0 : World) (inn : Nat → Prop) (w : World) : Prop where
  os : w.os = w0.os
  tape : w.tape = w0.tape
  output : w.output = w0.output
  size : w0.heap.size ≤ w.heap.size
  block : ∀ g, g < w0.heap.size → ¬ inn g → w.heap[g]? = w0.heap[g]?
structure GOK (E : Env) (S : Nat → Prop) (w : World) : Prop where
  glob : ∀ g, E.G g ≠ [] → S g ∧ ∀ (j : Nat) x, (E.G g)[j]? = some x → ∃ u, w.cell? ⟨g, j, none⟩ = some u ∧ CV S w x u
  exact : ∀ g cs, E.X g = some cs → S g ∧ ∃ t k, w.heap[g]? = some (.cells cs t k)
structure MR (E : Env) (w0 : World) (inn : Inn) (S : Nat → Prop) (ρ : Loc) (m : Mem) (w : World) : Prop where
  box : ∀ a, BR S w ρ m a (m a)
  sep : ∀ a b g, m a ≠ .gone → m b ≠ .gone → frz (m a) = false → frz (m b) = false → blk (ρ a) = some g → blk (ρ b) = some g → a = b
  apart : ∀ a g, m a ≠ .gone → frz (m a) = false → blk (ρ a) = some g → ¬ S g ∧ (w0.heap.size ≤ g ∨ inn.i g)
  froz : ∀ a g, frz (m a) = true → blk (ρ a) = some g → S g
  stab : ∀ g, S g → g < w.heap.size
  old : ∀ g, S g → g < w0.heap.size → inn.s g ∨ inn.i g
  frm : Frm w0 inn.i w
  glob : GOK E S w

/-- The views of the boxes go on: nothing that an atom may name turns behind its back. -/
def Vw (b b' : Box) (r r' : Value) : Prop := match b with
  | .row _ k _ _ sz es => ∃ e' k' f' fl' es', b' = .row e' k' f' fl' sz es' ∧ (k < k' ∨ (k = k' ∧ es'.length = es.length ∧ r' = r))
  | .var _ => ∃ cs', b' = .var cs' ∧ r' = r
  | .gone => True
def Le (ρ : Loc) (m : Mem) (ρ' : Loc) (m' : Mem) : Prop := ∀ a, Vw (m a) (m' a) (ρ a) (ρ' a)
theorem Vw.refl (b : Box) (r : Value) : Vw b b r r := by
  cases b with
  | row e k f fl sz es => exact ⟨e, k, f, fl, es, rfl, .inr ⟨rfl, rfl, rfl⟩⟩
  | var cs => exact ⟨cs, rfl, rfl⟩
  | gone => trivial
theorem Le.refl (ρ : Loc) (m : Mem) : Le ρ m ρ m := fun a => Vw.refl _ _
theorem Vw.trans {b b' b'' : Box} {r r' r'' : Value} (h : Vw b b' r r') (k : Vw b' b'' r' r'') : Vw b b'' r r'' := by
  cases b with
  | row e k0 f fl sz es =>
    obtain ⟨e', k', f', fl', es', rfl, h⟩ := h
    obtain ⟨e2, k2, f2, fl2, es2, rfl, k⟩ := k
    refine ⟨e2, k2, f2, fl2, es2, rfl, ?_⟩
    rcases h with h | ⟨h1, h2, h3⟩ <;> rcases k with k | ⟨k1, k2, k3⟩
    · left; omega
    · left; omega
    · left; omega
    · right; exact ⟨by omega, by omega, by rw [k3, h3]⟩
  | var cs =>
    obtain ⟨cs', rfl, h⟩ := h
    obtain ⟨cs2, rfl, k⟩ := k
    exact ⟨cs2, rfl, by rw [k, h]⟩
  | gone => trivial
theorem Le.trans {ρ ρ' ρ'' : Loc} {m m' m'' : Mem} (h : Le ρ m ρ' m') (k : Le ρ' m' ρ'' m'') : Le ρ m ρ'' m'' := fun a => (h a).trans (k a)

section
variable {S S' : Nat → Prop} {w w' : World} {ρ ρ' : Loc} {m m' : Mem}
theorem RP.keep {a k i off : Nat} {v : Value} (h : RP ρ m a k i off v) (l : Le ρ m ρ' m') : RP ρ' m' a k i off v := by
  have hl := l a
  unfold RP at h ⊢
  cases hb : m a with
  | var cs =>
    rw [hb] at hl h
    obtain ⟨cs', hb', hr⟩ := hl
    rw [hb', hr]; exact h
  | row e k0 f fl sz es =>
    rw [hb] at hl h
    obtain ⟨e', k', f', fl', es', hb', hv⟩ := hl
    rw [hb']
    dsimp only at h ⊢
    rcases hv with hv | ⟨h1, h2, h3⟩
    · exact ⟨by omega, h.2.1, fun e => by omega⟩
    · subst h1
      exact ⟨h.1, h.2.1, fun e hi => by rw [h3]; exact h.2.2 e (by omega)⟩
  | gone => rw [hb] at h; exact h.elim
theorem RA.keep {x : At} {v : Value} (h : RA S w ρ m x v) (k : Kp S S' w w') (l : Le ρ m ρ' m') : RA S' w' ρ' m' x v := by
  cases x with
  | own a kk =>
    have hl := l a
    simp only [RA] at h ⊢
    cases hb : m a with
    | row e k0 f fl sz es =>
      rw [hb] at hl h
      obtain ⟨e', k', f', fl', es', hb', hv⟩ := hl
      rw [hb']
      dsimp only at h ⊢
      rcases hv with hv | ⟨h1, h2, h3⟩
      · exact ⟨by omega, h.2.1, fun e => by omega⟩
      · subst h1; exact ⟨h.1, h.2.1, fun e => by rw [h3]; exact h.2.2 e⟩
    | var cs => rw [hb] at h; exact h.elim
    | gone => rw [hb] at h; exact h.elim
  | part a kk lo hi =>
    have hl := l a
    simp only [RA] at h ⊢
    cases hb : m a with
    | row e k0 f fl sz es =>
      rw [hb] at hl h
      obtain ⟨e', k', f', fl', es', hb', hv⟩ := hl
      rw [hb']
      dsimp only at h ⊢
      rcases hv with hv | ⟨h1, h2, h3⟩
      · exact ⟨by omega, h.2.1, fun e => by omega⟩
      · subst h1; exact ⟨h.1, h.2.1, fun e => by rw [h3, h2]; exact h.2.2 e⟩
    | var cs => rw [hb] at h; exact h.elim
    | gone => rw [hb] at h; exact h.elim
  | ptr a kk i off => exact RP.keep h l
  | fn f caps =>
    obtain ⟨vs, hv, hs, hc⟩ := h
    refine ⟨vs, hv, hs, fun j x hj => ?_⟩
    obtain ⟨u, hu, hx⟩ := hc j x hj
    refine ⟨u, hu, ?_⟩
    cases x with
    | ptr a k i off => exact RP.keep hx l
    | _ => exact CV.keep hx k
  | fresh => exact h
  | bad => trivial
  | v x => exact CV.keep h k
  | ro fl sz es => exact CV.keep h k
  | nils => exact CV.keep h k
  | fix fl sz es => exact CV.keep h k
  | err => exact CV.keep h k
  | unk q => exact CV.keep h k
  | roe sz cs off => exact CV.keep h k
  | gp g off => exact CV.keep h k
theorem RL.keep {cs : List At} {vs : Array Value} (h : RL S w ρ m cs vs) (k : Kp S S' w w') (l : Le ρ m ρ' m') : RL S' w' ρ' m' cs vs :=
  ⟨h.1, fun j x hj => let ⟨u, hu, h1, hx⟩ := h.2 j x hj; ⟨u, hu, h1, hx.keep k l⟩⟩
theorem RS1.keep {x : Sv} {v : Value} (h : RS1 S w ρ m x v) (k : Kp S S' w w') (l : Le ρ m ρ' m') : RS1 S' w' ρ' m' x v := by
  cases x with
  | one x => exact RA.keep h k l
  | agg cs => obtain ⟨vs, hv, h⟩ := h; exact ⟨vs, hv, h.keep k l⟩
  | tup xs => exact h
theorem RS.keep {x : Sv} {v : Value} (h : RS S w ρ m x v) (k : Kp S S' w w') (l : Le ρ m ρ' m') : RS S' w' ρ' m' x v := by
  cases x with
  | one x => exact RS1.keep (x := .one x) h k l
  | agg cs => exact RS1.keep (x := .agg cs) h k l
  | tup xs =>
    obtain ⟨vs, hv, hs, h⟩ := h
    exact ⟨vs, hv, hs, fun j x hj => let ⟨u, hu, hx⟩ := h j x hj; ⟨u, hu, hx.keep k l⟩⟩
theorem RA.ofCV {x : At} {v : Value} (h : CV S w x v) : RA S w ρ m x v := by
  cases h with
  | v h => exact .v h
  | ro get hn hc hl hf hm hr => exact .ro get hn hc hl hf hm hr
  | nils => exact .nils
  | fix get hn hl hf hm hr => exact .fix get hn hl hf hm hr
  | err => exact .err
  | unk => exact .unk
  | roe get hs hb hm hr => exact .roe get hs hb hm hr
  | gp => exact .gp
  | fn => exact ⟨#[], rfl, rfl, fun j x hj => by simp at hj⟩
end
end Go.Vi
