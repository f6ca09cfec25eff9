/- THE VALUE INTERPRETER: a law's walk. No project text. -/
import Derived.Test.YtkpdcieoiciapaaDoorVi23
import Derived.OpenShut
import Derived.IntWalk
import Derived.LaidMore
set_option linter.unusedVariables false
set_option linter.unusedSimpArgs false
namespace Go.Vi
open Go.RowKit
section
variable {E : Env} {P : Program}
def allOf (w : World) : Nat → Prop := fun g => g < w.heap.size
theorem mr_start {w : World} {ρ : Loc} (hG : GOK E (allOf w) w) : MR E w (InnOf (allOf w) ρ (memOf [])) (allOf w) ρ (memOf []) w := by
  have hg : ∀ a, memOf [] a = .gone := fun a => rfl
  refine ⟨fun a => by rw [hg]; trivial, fun a b g h => absurd (hg a) h, fun a g h => absurd (hg a) h, fun a g h => (by rw [hg] at h; cases h), fun g h => h, fun g h _ => .inl h, ⟨rfl, rfl, rfl, Nat.le_refl _, fun _ _ _ => rfl⟩, hG⟩
/-- A LAW's WALK. -/
theorem law_walk' {g : Nat} {args : List Sv} {M2 : List Box} (h : CallAt E P g args [] (.one (.v (.bool true))) M2) {w : World} {us : Array Value} (hs : us.size = args.length)
    (ha : ∀ (j : Nat) x, args[j]? = some x → ∃ u, us[j]? = some u ∧ RS (allOf w) w (fun _ => undef) (memOf []) x u) (hG : GOK E (allOf w) w) :
    Calls P g us w (fun e w' => e = .returned (.bool true) ∧ Below w.heap.size w w') := by
  obtain ⟨_, h2⟩ := h
  refine Calls.mono (h2 w (allOf w) (fun _ => undef) us hs ha (mr_start hG)) ?_
  rintro e w' ⟨u, S', ρ', rfl, _, hr, hm, _, _⟩
  refine ⟨by rw [hr.one_v.1], ⟨hm.frm.os, hm.frm.tape, hm.frm.output, hm.frm.size, fun k hk => hm.frm.block k hk ?_⟩⟩
  rintro ⟨a, h1, _⟩
  exact h1 rfl
theorem gok_none {w : World} {S : Nat → Prop} (h : ∀ g, E.G g = []) (h2 : ∀ g, E.X g = none) : GOK E S w := ⟨fun g hg => absurd (h g) hg, fun g cs hg => by rw [h2 g] at hg; cases hg⟩
/-- A slice of whole numbers that came in. -/
theorem rs_ints {w : World} {ρ : Loc} {m : Mem} {k : IntKind} {a : Option Addr} {len cap : Nat} {zs : List Int}
    (h : (a = none ∧ len = 0 ∧ cap = 0 ∧ zs = []) ∨ ∃ x, a = some x ∧ len ≤ cap ∧ cap ≤ maxLen ∧ zs.length = cap ∧ (∀ i, i < zs.length → w.cell? (x.add i) = some (.int k (zs.getD i 0))) ∧ ∀ n ∈ zs, (Lit.int k n).wf = true) :
    RS (allOf w) w ρ m (.one (.ro true 1 ((zs.take len).map fun z => [.v (.int k z)]))) (.slice a len cap) := by
  have hn : len = ((zs.take len).map fun z => [At.v (.int k z)]).length := by
    rcases h with ⟨_, h, _, h2⟩ | ⟨x, _, h1, _, h2, _⟩
    · subst h; simp
    · simp; omega
  have hget : ∀ (i : Nat) e, ((zs.take len).map fun z => [At.v (.int k z)])[i]? = some e → i < len ∧ i < zs.length ∧ e = [At.v (.int k (zs.getD i 0))] := by
    intro i e he
    rw [List.getElem?_map, Option.map_eq_some_iff] at he
    obtain ⟨z, hz, rfl⟩ := he
    have hi := (List.getElem?_eq_some_iff.1 hz).1
    rw [List.length_take] at hi
    have hi : i < len ∧ i < zs.length := ⟨by omega, by omega⟩
    rw [List.getElem?_take_of_lt hi.1] at hz
    exact ⟨hi.1, hi.2, by rw [List.getD_eq_getElem?_getD, hz]; rfl⟩
  refine CV.ro (S := allOf w) (w := w) (fun i _ => .int k (zs.getD i 0)) hn ?_ (fun i e he => by rw [(hget i e he).2.2]; rfl) (fun _ i e he x hx => by rw [(hget i e he).2.2] at hx; simp at hx; subst hx; rfl) (fun hne => ?_) (fun i e j x he hx => ?_)
  · rcases h with ⟨_, h, _, _⟩ | ⟨x, _, h, _⟩ <;> omega
  · rcases h with ⟨_, h, _, h2⟩ | ⟨x, h0, h1, _, h2, h3, _⟩
    · subst h; simp at hne
    · have hcell : ∀ (i : Nat) e (j : Nat) y, ((zs.take len).map fun z => [At.v (.int k z)])[i]? = some e → e[j]? = some y → w.cell? (x.add (i * 1 + j)) = some (.int k (zs.getD i 0)) := by
        intro i e j y he hy
        obtain ⟨q1, q2, rfl⟩ := hget i e he
        have hj : j = 0 := by
          rcases j with _ | j
          · rfl
          · simp at hy
        subst hj
        rw [Nat.mul_one, Nat.add_zero]
        exact h3 i q2
      refine ⟨x, h0, ?_, hcell⟩
      have hlen : 0 < len := by
        rcases Nat.eq_zero_or_pos len with h | h
        · subst h; simp at hne
        · exact h
      have := h3 0 (by omega)
      unfold allOf
      unfold World.cell? at this
      rw [block_add] at this
      split at this
      · rename_i hq; exact (Array.getElem?_eq_some_iff.1 hq).1
      · cases this
  · obtain ⟨_, _, rfl⟩ := hget i e he
    have hj : j = 0 := by
      rcases j with _ | j
      · rfl
      · simp at hx
    subst hj
    simp at hx
    subst hx
    exact .v rfl
def Rel (w : World) (args : List Sv) (us : List Value) : Prop := ∀ (j : Nat) x, args[j]? = some x → ∃ u, us.toArray[j]? = some u ∧ RS (allOf w) w (fun _ => undef) (memOf []) x u
theorem rel_nil {w : World} : Rel w [] [] := fun j x h => by simp at h
theorem rel_cons {w : World} {x : Sv} {u : Value} {args : List Sv} {us : List Value} (h : RS (allOf w) w (fun _ => undef) (memOf []) x u) (r : Rel w args us) : Rel w (x :: args) (u :: us) := by
  intro j y hj
  cases j with
  | zero => simp only [List.getElem?_cons_zero, Option.some.injEq] at hj; subst hj; exact ⟨u, by simp, h⟩
  | succ j => obtain ⟨u', h1, h2⟩ := r j y (by simpa using hj); exact ⟨u', by simpa using h1, h2⟩
theorem law_walk {g : Nat} {args : List Sv} {M2 : List Box} (h : CallAt E P g args [] (.one (.v (.bool true))) M2) {w : World} {us : List Value} (hs : us.length = args.length) (ha : Rel w args us) (hG : GOK E (allOf w) w) :
    Calls P g us.toArray w (fun e w' => e = .returned (.bool true) ∧ Below w.heap.size w w') := law_walk' h (by simpa using hs) ha hG
/-- The cells of a row of bools. -/
theorem bools_of {H : Type} {enc : TypeId × Value → H} {w : World} {base : Nat} {sp : Nat → Bool} {held : Bool} {fuel : Nat} {t e n : Nat} {cs : List Value} {x : DataW H × List MemPlace} (hu : P.underlying t = some (.array n e)) (he : P.underlying e = some .bool) (hc : P.cellsOf e = 1) (hc2 : P.cellsOf t = n)
    (h : DataW.trod enc P w base sp held fuel t cs = some x) {bs : List Bool} (hx : x.1 = .agg (bs.map fun b => .lit (.bool b))) : cs = bs.map .bool := by
  obtain ⟨xs, m, rfl, rfl, hlen, hn, hel⟩ := DataW.trod_array hu h
  simp only [DataW.agg.injEq] at hx
  have hbl : bs.length = n := by rw [← hn, ← List.length_map (f := fun x : DataW H × List MemPlace => x.1) (as := xs), hx, List.length_map]
  rw [hc2] at hlen
  apply List.ext_getElem?
  intro j
  rcases Nat.lt_or_ge j n with hj | hj
  · have h1 := hel j hj
    have hxj : xs[j]? = some xs[j] := List.getElem?_eq_getElem (by omega)
    rw [hxj] at h1
    obtain ⟨b, h2, h3⟩ := DataW.trod_bool he h1
    rw [hc, Nat.mul_one] at h2
    have h4 : cs[j]? = some (.bool b) := by
      have : (List.take 1 (List.drop j cs))[0]? = some (.bool b) := by rw [h2]; rfl
      rw [List.getElem?_take_of_lt (by omega), List.getElem?_drop] at this
      simpa using this
    have h5 : (xs.map fun x => x.1)[j]? = some (DataW.lit (.bool b)) := by rw [List.getElem?_map, hxj, h3]; rfl
    rw [hx, List.getElem?_map, Option.map_eq_some_iff] at h5
    obtain ⟨b', h6, h7⟩ := h5
    simp only [DataW.lit.injEq, Lit.bool.injEq] at h7
    rw [h4, List.getElem?_map, h6, h7]; rfl
  · rw [List.getElem?_eq_none (by omega), List.getElem?_eq_none (by simp; omega)]
theorem row_len {w : World} {k : IntKind} {a : Option Addr} {len cap : Nat} {zs : List Int}
    (h : (a = none ∧ len = 0 ∧ cap = 0 ∧ zs = []) ∨ ∃ x, a = some x ∧ len ≤ cap ∧ cap ≤ maxLen ∧ zs.length = cap ∧ (∀ i, i < zs.length → w.cell? (x.add i) = some (.int k (zs.getD i 0))) ∧ ∀ n ∈ zs, (Lit.int k n).wf = true) : (zs.take len).length ≤ maxLen := by
  rcases h with ⟨_, _, _, h⟩ | ⟨x, _, h1, h2, h3, _⟩
  · subst h; simp
  · rw [List.length_take]; omega
/-! ### functions, told by what they take -/
abbrev iv (a : Int) : Sv := .one (.v (.int .i64 a))
abbrev uv (a : Int) : Sv := .one (.v (.int .u8 a))
abbrev bv (a : Bool) : Sv := .one (.v (.bool a))
abbrev sv (a : ByteArray) : Sv := .one (.v (.string a))
/-- A slice of whole numbers. -/
def esI (l : List Int) : List (List At) := l.map fun z => [.v (.int .i64 z)]
abbrev rv (l : List Int) : Sv := .one (.ro true 1 (esI l))
abbrev Tr := Tree (Sv × List Box)
def Fi (r : Int → Tr) (a : List Sv) (M : List Box) : Tr := match a, M with | [.one (.v (.int .i64 a))], [] => r a | _, _ => .no
def Fu (r : Int → Tr) (a : List Sv) (M : List Box) : Tr := match a, M with | [.one (.v (.int .u8 a))], [] => r a | _, _ => .no
def Fii (r : Int → Int → Tr) (a : List Sv) (M : List Box) : Tr := match a, M with | [.one (.v (.int .i64 a)), .one (.v (.int .i64 b))], [] => r a b | _, _ => .no
def Fs (r : ByteArray → Tr) (a : List Sv) (M : List Box) : Tr := match a, M with | [.one (.v (.string a))], [] => r a | _, _ => .no
def F0 (r : Tr) (a : List Sv) (M : List Box) : Tr := match a, M with | [], [] => r | _, _ => .no
def Fr (r : List (List At) → Tr) (a : List Sv) (M : List Box) : Tr := match a, M with | [.one (.ro true 1 es)], [] => r es | _, _ => .no
/-- What is told of the program, once. -/
structure Known (E : Env) (P : Program) : Prop where
  tok : TOK P E.T
  mo : P.follows .mixedOrders = true
  ng : ∀ (g : Nat) fn, P.funcs[g]? = some fn → fn.name ≠ "runtime.NumGoroutine"
theorem tst_t {R : Type} {b : Bool} {x y : Option R} (h : b = true) : tst b x y = x := by rw [h]; rfl
theorem tst_f {R : Type} {b : Bool} {x y : Option R} (h : b = false) : tst b x y = y := by rw [h]; rfl
theorem chk_t {R : Type} {b : Bool} {x : Option R} (h : b = true) : chk b x = x := by rw [h]; rfl
theorem noLo_ok {L : Nat} {a : Code} : LoopOK E P noLo L a := fun s M e s' M' t h => by cases h
variable {c : Orc} {g : Nat} {lo : Lo}
def loopsAt (P : Program) (g : Nat) : List Code := match P.funcs[g]? with | some fn => (match fn.body with | some b => loopsOf b | none => []) | none => []
def ntmpsAt (P : Program) (g : Nat) : Nat := match P.funcs[g]? with | some fn => fn.ntmps | none => 0
theorem loops_of (h : ∀ a ∈ loopsAt P g, LoopOK E P lo (ntmpsAt P g) a) : ∀ fn b, P.funcs[g]? = some fn → fn.body = some b → ∀ a ∈ loopsOf b, LoopOK E P lo fn.ntmps a := by
  intro fn b h1 h2 a ha
  have := h a (by unfold loopsAt; rw [h1]; dsimp only; rw [h2]; exact ha)
  unfold ntmpsAt at this
  rw [h1] at this
  exact this
theorem loops_no : ∀ fn b, P.funcs[g]? = some fn → fn.body = some b → ∀ a ∈ loopsOf b, LoopOK E P noLo fn.ntmps a := fun _ _ _ _ _ _ => noLo_ok
theorem ok_i (T : Known E P) (hc : CallOK E P c) {r : Int → Tr} (h : ∀ a x, (r a).eval = some x → ∃ lo n, (∀ fn b, P.funcs[g]? = some fn → fn.body = some b → ∀ a ∈ loopsOf b, LoopOK E P lo fn.ntmps a) ∧ vstep E P lo n c g [iv a] [] = some x) : CallOK E P (over c g (Fi r)) :=
  over_ok T.tok T.mo T.ng hc fun args M x hx => by
    unfold Fi at hx; split at hx
    · exact h _ _ hx
    · cases hx
theorem ok_u (T : Known E P) (hc : CallOK E P c) {r : Int → Tr} (h : ∀ a x, (r a).eval = some x → ∃ lo n, (∀ fn b, P.funcs[g]? = some fn → fn.body = some b → ∀ a ∈ loopsOf b, LoopOK E P lo fn.ntmps a) ∧ vstep E P lo n c g [uv a] [] = some x) : CallOK E P (over c g (Fu r)) :=
  over_ok T.tok T.mo T.ng hc fun args M x hx => by
    unfold Fu at hx; split at hx
    · exact h _ _ hx
    · cases hx
theorem ok_ii (T : Known E P) (hc : CallOK E P c) {r : Int → Int → Tr} (h : ∀ a b x, (r a b).eval = some x → ∃ lo n, (∀ fn b, P.funcs[g]? = some fn → fn.body = some b → ∀ a ∈ loopsOf b, LoopOK E P lo fn.ntmps a) ∧ vstep E P lo n c g [iv a, iv b] [] = some x) : CallOK E P (over c g (Fii r)) :=
  over_ok T.tok T.mo T.ng hc fun args M x hx => by
    unfold Fii at hx; split at hx
    · exact h _ _ _ hx
    · cases hx
theorem ok_s (T : Known E P) (hc : CallOK E P c) {r : ByteArray → Tr} (h : ∀ a x, (r a).eval = some x → ∃ lo n, (∀ fn b, P.funcs[g]? = some fn → fn.body = some b → ∀ a ∈ loopsOf b, LoopOK E P lo fn.ntmps a) ∧ vstep E P lo n c g [sv a] [] = some x) : CallOK E P (over c g (Fs r)) :=
  over_ok T.tok T.mo T.ng hc fun args M x hx => by
    unfold Fs at hx; split at hx
    · exact h _ _ hx
    · cases hx
theorem ok_0 (T : Known E P) (hc : CallOK E P c) {r : Tr} (h : ∀ x, r.eval = some x → ∃ lo n, (∀ fn b, P.funcs[g]? = some fn → fn.body = some b → ∀ a ∈ loopsOf b, LoopOK E P lo fn.ntmps a) ∧ vstep E P lo n c g [] [] = some x) : CallOK E P (over c g (F0 r)) :=
  over_ok T.tok T.mo T.ng hc fun args M x hx => by
    unfold F0 at hx; split at hx
    · exact h _ hx
    · cases hx
theorem ok_r (T : Known E P) (hc : CallOK E P c) {r : List (List At) → Tr} (h : ∀ es x, (r es).eval = some x → ∃ lo n, (∀ fn b, P.funcs[g]? = some fn → fn.body = some b → ∀ a ∈ loopsOf b, LoopOK E P lo fn.ntmps a) ∧ vstep E P lo n c g [.one (.ro true 1 es)] [] = some x) : CallOK E P (over c g (Fr r)) :=
  over_ok T.tok T.mo T.ng hc fun args M x hx => by
    unfold Fr at hx; split at hx
    · exact h _ _ hx
    · cases hx
/-- A law's walk, out of its run. -/
theorem call_at (T : Known E P) (hc : CallOK E P c) {args : List Sv} {M : List Box} {x : Sv × List Box} {n : Nat} (hlo : ∀ fn b, P.funcs[g]? = some fn → fn.body = some b → ∀ a ∈ loopsOf b, LoopOK E P lo fn.ntmps a) (h : vstep E P lo n c g args M = some x) : CallAt E P g args M x.1 x.2 :=
  vstep_ok T.tok T.mo T.ng hc hlo args M x.1 x.2 h
/-! ### rows of whole numbers -/
def vals (es : List (List At)) : List Int := es.map fun e => intA (e.getD 0 .bad)
def areI (es : List (List At)) : Bool := es.all (okRow [.i .i64])
theorem vals_esI (l : List Int) : vals (esI l) = l := by
  unfold vals esI
  rw [List.map_map]
  conv => rhs; rw [← List.map_id l]
  rfl
theorem areI_esI (l : List Int) : areI (esI l) = true := by
  unfold areI esI
  rw [List.all_map]
  exact List.all_eq_true.2 fun x _ => rfl
theorem areI_get {es : List (List At)} (h : areI es = true) {i : Nat} (hi : i < es.length) : okRow [.i .i64] (es.getD i []) = true := by
  rw [List.getD_eq_getElem?_getD, List.getElem?_eq_getElem hi]
  exact List.all_eq_true.1 h _ (List.getElem_mem hi)
theorem vals_get (es : List (List At)) (i : Nat) : intA ((es.getD i []).getD 0 .bad) = (vals es).getD i 0 := by
  unfold vals
  rw [List.getD_eq_getElem?_getD (l := es), List.getD_eq_getElem?_getD (l := es.map _), List.getElem?_map]
  cases es[i]? <;> rfl
theorem vals_length (es : List (List At)) : (vals es).length = es.length := by simp [vals]

theorem esI_length (l : List Int) : (esI l).length = l.length := by simp [esI]
theorem esI_get {l : List Int} {i : Nat} (h : i < l.length) : (esI l).getD i [] = [.v (.int .i64 (l.getD i 0))] := by
  simp [esI, h]
theorem intA_esI (l : List Int) (i : Nat) : intA (((esI l).getD i []).getD 0 .bad) = l.getD i 0 := by
  rcases Nat.lt_or_ge i l.length with h | h
  · rw [esI_get h]; rfl
  · rw [List.getD_eq_getElem?_getD (l := esI l), List.getElem?_eq_none (by rw [esI_length]; exact h), List.getD_eq_getElem?_getD (l := l), List.getElem?_eq_none h]; rfl
theorem okRow_esI {l : List Int} {i : Nat} (h : i < l.length) : okRow [.i .i64] ((esI l).getD i []) = true := by rw [esI_get h]; rfl
end
end Go.Vi
