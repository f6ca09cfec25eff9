/- THE VALUE INTERPRETER: opening the arguments of a row; the wrap that keeps a laid condition and the world's shape. No project text. -/
import Derived.Test.YtkpdcieoiciapaaDoorVi26
import Derived.HandedShaped
import Derived.Shelf.Vars
import Derived.OpenShut
import Derived.ChangeSame
import Derived.WideShapes
import Derived.LaidMore
import Derived.MakeChecks
set_option linter.unusedVariables false
set_option linter.unusedSimpArgs false
namespace Go.Vi
open Go Go.WideShapes Go.ChangeShapes
theorem returnsIn_both {H : Type} {enc : TypeId × Value → H} {a : Assume} {C : Checked} {os : Os} {f : FuncId} {fn : Func} {s : ChangeSpec} {conds : List PathCond} {apart fresh handsOn again : Bool} {X : World → Array Value → Prop}
    (hX : ∀ (w w' : World) (args : Array Value), w.heap = w'.heap → X w args → X w' args)
    (own : ownKnob C.prog.godebug = none) (started : os.Started) (noInit : C.prog.inits.idxOf? f = none) (hfn : C.prog.funcs[f]? = some fn)
    (witness : ∃ (w : World) (tape : Tape) (i : Input), w.os = os ∧ (w.forCall tape i).Shaped C.prog ∧ i.vars = [] ∧ Input.okWide C.prog (w.forCall tape i) .any w.heap.size f i ∧
      ((s.pre enc C.prog fn conds apart (w.forCall tape i).memory i.args ∧ X (w.forCall tape i).memory i.args) ∧ sizedMet enc C.prog fn (OpenSpec.ofChange s) apart (w.forCall tape i).memory i.args) ∧ a.holds C.prog (lone (Frame.enter C.prog f i.args .normal) [] (w.forCall tape i)))
    (contract : ∀ (W : World) (base : Nat) (args : Array Value) (ds gs : List (DataW H)) (before : List MemPlace),
      (∀ (j : Nat) t v, fn.params[j]? = some t → args[j]? = some v → Value.okWide C.prog W .any base t v) →
      DataW.Whole enc C.prog fn.params.toList s.vars apart W args.toList ds gs before →
      conds.all (PathCond.test C.prog ⟨fn.params.toList, ds, s.plain.varTypes C.prog, gs⟩) = true →
      (DataW.weightsEach C.prog (fn.params.toList ++ s.plain.varTypes C.prog) (ds ++ gs)).all (· ≤ reachBytes) = true → X W args →
      W.ShapedOpen C.prog →
      Calls C.prog f args W fun e W' => ∃ v, e = .returned v ∧ s.post enc C.prog fn apart fresh handsOn again W args v W') :
    ReturnsInHanded a C os f .any (fun w args => (s.pre enc C.prog fn conds apart w args ∧ X w args) ∧ sizedMet enc C.prog fn (OpenSpec.ofChange s) apart w args) (s.post enc C.prog fn apart fresh handsOn again) := by
  refine returnsInHanded_of_calls own started noInit witness ?_
  intro w tape i _ hsh _ hok hpre hholds
  obtain ⟨_, _, _, fn', hfn', _, _, _, _, hval⟩ := hok
  have e : fn' = fn := Option.some.inj (hfn'.symm.trans hfn)
  subst e
  obtain ⟨⟨⟨ds, gs, before, hw, hc⟩, hx⟩, hz⟩ := hpre
  have hw' := DataW.Whole.of_heap (w' := w.forCall tape i) (by rfl) hw
  refine (contract (w.forCall tape i) w.heap.size i.args ds gs before hval hw' hc (hz.weights hw) (hX _ _ _ (by rfl) hx) hsh).mono fun e W' ⟨v, he, hp⟩ => ?_
  subst he
  exact ChangeSpec.post_blind hp

/-- The plain cells of a type that is made of plain cells alone. -/
def flatFs (g : TypeId → Option (List CK)) (P : Program) : Nat → List Field → Option (List CK)
  | _, [] => some []
  | off, f :: fs => match f.offset == off, g f.type with
    | true, some ks => match ks.length == P.cellsOf f.type, flatFs g P (off + ks.length) fs with
      | true, some r => some (ks ++ r)
      | _, _ => none
    | _, _ => none
def flatOf (P : Program) : Nat → TypeId → Option (List CK)
  | 0, _ => none
  | n + 1, t => match P.underlying t with
    | some (.int k) => some [.i k]
    | some .bool => some [.b]
    | some .string => some [.s]
    | some (.struct fs) => match flatFs (flatOf P n) P 0 fs.toList with
      | some ks => match ks.length == P.cellsOf t with | true => some ks | false => none
      | none => none
    | _ => none
def isCK : CK → Value → Prop
  | .i k, v => ∃ n, v = .int k n ∧ (Lit.int k n).wf = true
  | .b, v => ∃ b, v = .bool b
  | .s, v => ∃ s : ByteArray, v = .string s ∧ s.size ≤ maxLen
inductive CKs : List CK → List Value → Prop
  | nil : CKs [] []
  | cons {k : CK} {v : Value} {ks : List CK} {vs : List Value} (h : isCK k v) (r : CKs ks vs) : CKs (k :: ks) (v :: vs)
theorem CKs.len {ks : List CK} {vs : List Value} (h : CKs ks vs) : vs.length = ks.length := by induction h with | nil => rfl | cons _ _ ih => simp [ih]
theorem CKs.app {ks ks' : List CK} {vs vs' : List Value} (h : CKs ks vs) (h' : CKs ks' vs') : CKs (ks ++ ks') (vs ++ vs') := by induction h with | nil => exact h' | cons h _ ih => exact .cons h ih
section
variable {H : Type} {enc : TypeId × Value → H} {P : Program} {w : World} {base : Nat} {sp : Nat → Bool} {held : Bool}
theorem flatFs_open {g : TypeId → Option (List CK)} {cs : List Value} (hg : ∀ t ks x m (c : List Value), g t = some ks → DataW.trod enc P w base sp held m t c = some x → CKs ks c) :
    ∀ (fs : List Field) (off : Nat) (ks : List CK), flatFs g P off fs = some ks → cs.length = off + ks.length →
      (∀ f ∈ fs, ∃ m x, DataW.trod enc P w base sp held m f.type ((cs.drop f.offset).take (P.cellsOf f.type)) = some x) → CKs ks (cs.drop off) := by
  intro fs
  induction fs with
  | nil =>
    intro off ks h hl _
    simp only [flatFs, Option.some.injEq] at h
    subst h
    rw [List.drop_eq_nil_of_le (by simp at hl; omega)]
    exact .nil
  | cons f fs ih =>
    intro off ks h hl hf
    unfold flatFs at h
    split at h
    · rename_i k1 h1 h2
      split at h
      · rename_i r h3 h4
        simp only [Option.some.injEq] at h
        subst h
        have e1 : f.offset = off := by simpa using h1
        have e3 : k1.length = P.cellsOf f.type := by simpa using h3
        obtain ⟨m, x, hx⟩ := hf f (List.mem_cons_self ..)
        have a := hg _ _ _ _ _ h2 hx
        rw [e1, ← e3] at a
        have b := ih _ _ h4 (by rw [hl, List.length_append]; omega) (fun f' h' => hf f' (List.mem_cons_of_mem _ h'))
        have := a.app b
        rw [← List.drop_drop, List.take_append_drop] at this
        exact this
      · cases h
    · cases h
theorem flatOf_open : ∀ (n : Nat) (t : TypeId) (ks : List CK) (x : DataW H × List MemPlace) (m : Nat) (c : List Value), flatOf P n t = some ks → DataW.trod enc P w base sp held m t c = some x → CKs ks c := by
  intro n
  induction n with
  | zero => intro t ks x m c h; cases h
  | succ n ih =>
    intro t ks x m c h hx
    unfold flatOf at h
    split at h
    · rename_i k hu
      cases h
      obtain ⟨z, rfl, _, hw⟩ := DataW.trod_int hu hx
      exact .cons ⟨z, rfl, hw⟩ .nil
    · rename_i hu
      cases h
      obtain ⟨b, rfl, _⟩ := DataW.trod_bool hu hx
      exact .cons ⟨b, rfl⟩ .nil
    · rename_i hu
      cases h
      obtain ⟨s, rfl, _, hs⟩ := DataW.trod_string hu hx
      exact .cons ⟨s, rfl, hs⟩ .nil
    · rename_i fs hu
      split at h
      · rename_i ks' hks
        split at h
        · rename_i hl
          cases h
          obtain ⟨xs, n', _, _, hcl, hlen, hf⟩ := DataW.trod_struct hu hx
          have := flatFs_open (cs := c) (fun t ks x m c h h' => ih t ks x m c h h') fs.toList 0 ks hks (by rw [hcl]; simp at hl; omega) (fun f hmem => by
            obtain ⟨i, hi⟩ := List.getElem?_of_mem hmem
            have hi' : fs[i]? = some f := by simpa using hi
            have h1 := hf i f hi'
            have hlt : i < xs.length := by rw [hlen]; exact (Array.getElem?_eq_some_iff.1 hi').1
            exact ⟨n', xs[i], by rw [h1, List.getElem?_eq_getElem hlt]⟩)
          simpa using this
        · cases h
      · cases h
    · cases h
def atV : Value → At := fun v => .v v
theorem CKs.one {ks : List CK} {vs : List Value} (h : CKs ks vs) : ∀ (j : Nat) v, vs[j]? = some v → v.oneCell' = true := by
  induction h with
  | nil => intro j v h; simp at h
  | cons h _ ih =>
    intro j v hj
    cases j with
    | zero =>
      simp only [List.getElem?_cons_zero, Option.some.injEq] at hj
      subst hj
      rename_i k _ _ _ _
      cases k with
      | i k => obtain ⟨n, rfl, _⟩ := h; rfl
      | b => obtain ⟨n, rfl⟩ := h; rfl
      | s => obtain ⟨n, rfl, _⟩ := h; rfl
    | succ j => exact ih j v (by simpa using hj)
/-- A struct of plain cells that came in. -/
theorem open_flat {n : Nat} {t : TypeId} {fs : Array Field} {ks : List CK} {r : Reach} {b0 : Nat} {v : Value} {d : DataW H} {p : List MemPlace} (hu : P.underlying t = some (.struct fs)) (hk : flatOf P n t = some ks)
    (hval : Value.okWide P w r b0 t v) (h : DataW.Trod enc P w base sp held t v d p) : ∃ vs, v = .agg vs ∧ CKs ks vs.toList := by
  obtain ⟨cs, rfl, _⟩ := okWide_struct hu hval
  obtain ⟨m, hm⟩ := h
  exact ⟨cs, rfl, flatOf_open n t ks _ m _ hk (by simpa [Value.cells] using hm)⟩
theorem CKs.c_i {k : IntKind} {ks : List CK} {vs : List Value} (h : CKs (.i k :: ks) vs) : ∃ z vs', vs = .int k z :: vs' ∧ (Lit.int k z).wf = true ∧ CKs ks vs' := by
  cases h with | cons h r => obtain ⟨z, rfl, hz⟩ := h; exact ⟨z, _, rfl, hz, r⟩
theorem CKs.c_b {ks : List CK} {vs : List Value} (h : CKs (.b :: ks) vs) : ∃ z vs', vs = .bool z :: vs' ∧ CKs ks vs' := by
  cases h with | cons h r => obtain ⟨z, rfl⟩ := h; exact ⟨z, _, rfl, r⟩
theorem CKs.c_s {ks : List CK} {vs : List Value} (h : CKs (.s :: ks) vs) : ∃ z vs', vs = .string z :: vs' ∧ z.size ≤ maxLen ∧ CKs ks vs' := by
  cases h with | cons h r => obtain ⟨z, rfl, hz⟩ := h; exact ⟨z, _, rfl, hz, r⟩
theorem CKs.c_n {vs : List Value} (h : CKs [] vs) : vs = [] := by cases h; rfl
end
theorem rs_agg {S : Nat → Prop} {w : World} {ρ : Loc} {m : Mem} {us : List Value} (h : ∀ (j : Nat) v, us[j]? = some v → v.oneCell' = true) : RS S w ρ m (.agg (us.map At.v)) (.agg us.toArray) := by
  refine ⟨us.toArray, rfl, by simp, fun j x hj => ?_⟩
  rw [List.getElem?_map, Option.map_eq_some_iff] at hj
  obtain ⟨u, hu, rfl⟩ := hj
  exact ⟨u, by simpa using hu, h j u hu, CV.v (h j u hu)⟩
end Go.Vi
namespace Go.Vi
open Go
/-- What one listed variable reads as. -/
theorem laidVars_at {P : Program} {w : World} : ∀ (l : List (String × DataW Unit)) (ps : List MemPlace), DataW.LaidVars P w l ps → ∀ (i : Nat) n d, l[i]? = some (n, d) →
    ∃ g t cs fuel p, P.globalNamed n = some g ∧ (P.globals[g]?).map (·.type) = some t ∧ w.var? P n = some cs ∧ DataW.trod (fun _ => ()) P w 0 (fun _ => true) false fuel t cs.toList = some (d, p) := by
  intro l
  induction l with
  | nil => intro ps _ i n d h; simp at h
  | cons x r ih =>
    obtain ⟨n0, d0⟩ := x
    rintro ps ⟨g, t, cs, fuel, p, q, h1, h2, h3, h4, h5, _⟩ i n d h
    cases i with
    | zero =>
      simp only [List.getElem?_cons_zero, Option.some.injEq, Prod.mk.injEq] at h
      obtain ⟨rfl, rfl⟩ := h
      exact ⟨g, t, cs, fuel, p, h1, h2, h3, h4⟩
    | succ i => exact ih q h5 i n d (by simpa using h)
theorem laid_at {P : Program} {w : World} {l : List (String × DataW Unit)} (hp : (l.all fun x => x.2.handleName?.isNone) = true) (h : laidMetH P l w) (i : Nat) {n : String} {d : DataW Unit} (hi : l[i]? = some (n, d)) {g t : Nat}
    (hg : P.globalNamed n = some g) (ht : (P.globals[g]?).map (·.type) = some t) : ∃ cs fuel p, w.var? P n = some cs ∧ DataW.trod (fun _ => ()) P w 0 (fun _ => true) false fuel t cs.toList = some (d, p) := by
  rw [MakeChecks.laidMetH_plain _ _ _ hp] at h
  obtain ⟨ps, hv, _⟩ := h
  obtain ⟨g0, t0, cs, fuel, p, h1, h2, h3, h4⟩ := laidVars_at l ps hv i n d hi
  obtain rfl := Option.some.inj (hg.symm.trans h1)
  obtain rfl := Option.some.inj (ht.symm.trans h2)
  exact ⟨cs, fuel, p, h3, h4⟩
theorem var_block {P : Program} {w : World} {n : String} {g : Nat} {cs : Array Value} (hg : P.globalNamed n = some g) (h : w.var? P n = some cs) : g < w.heap.size ∧ ∃ t k, w.heap[g]? = some (.cells cs t k) := by
  simp only [World.var?, hg, Option.bind_some] at h
  split at h
  · rename_i c t k hb
    cases h
    exact ⟨(Array.getElem?_eq_some_iff.1 hb).1, t, k, hb⟩
  · cases h
/-- The cells of a laid row of whole numbers. -/
theorem ints_of {H : Type} {enc : TypeId × Value → H} {P : Program} {w : World} {base : Nat} {sp : Nat → Bool} {held : Bool} {fuel : Nat} {t e n : Nat} {k : IntKind} {cs : List Value} {x : DataW H × List MemPlace} (hu : P.underlying t = some (.array n e)) (he : P.underlying e = some (.int k)) (hc : P.cellsOf e = 1) (hc2 : P.cellsOf t = n)
    (h : DataW.trod enc P w base sp held fuel t cs = some x) {bs : List Int} (hx : x.1 = .agg (bs.map fun b => .lit (.int k b))) : cs = bs.map (.int k) := by
  obtain ⟨xs, m, rfl, rfl, hlen, hn, hel⟩ := DataW.trod_array hu h
  simp only [DataW.agg.injEq] at hx
  have hbl : bs.length = n := by rw [← hn, ← List.length_map (f := fun x : DataW H × List MemPlace => x.1) (as := xs), hx, List.length_map]
  rw [hc2] at hlen
  apply List.ext_getElem?
  intro j
  rcases Nat.lt_or_ge j n with hj | hj
  · have h1 := hel j hj
    have hxj : xs[j]? = some xs[j] := List.getElem?_eq_getElem (by omega)
    rw [hxj] at h1
    obtain ⟨b, h2, h3, _⟩ := DataW.trod_int he h1
    rw [hc, Nat.mul_one] at h2
    have h4 : cs[j]? = some (.int k b) := by
      have : (List.take 1 (List.drop j cs))[0]? = some (.int k b) := by rw [h2]; rfl
      rw [List.getElem?_take_of_lt (by omega), List.getElem?_drop] at this
      simpa using this
    have h5 : (xs.map fun x => x.1)[j]? = some (DataW.lit (.int k b)) := by rw [List.getElem?_map, hxj, h3]; rfl
    rw [hx, List.getElem?_map, Option.map_eq_some_iff] at h5
    obtain ⟨b', h6, h7⟩ := h5
    simp only [DataW.lit.injEq, Lit.int.injEq] at h7
    rw [h4, List.getElem?_map, h6, h7.2]; rfl
  · rw [List.getElem?_eq_none (by omega), List.getElem?_eq_none (by simp; omega)]
end Go.Vi
