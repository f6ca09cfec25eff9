/- THE VALUE INTERPRETER, DEFINITIONS. A small interpreter on pure values, to be proved sound for the model's 'Calls' once (Vi1, Vi2 ..). No project text. -/
import Derived.Calls
import Derived.Orders
import Derived.Laws.Sem
set_option linter.unusedVariables false
namespace Go.Vi

/-- What one cell, or one temporary, holds ('nils': a slice of length and capacity 0; 'fix': a slice with no room behind it; 'err': an interface that is not nil; 'unk': some number). -/
inductive At where
  | v (x : Value)
  | ro (fl : Bool) (sz : Nat) (es : List (List At))
  | nils
  | own (a k : Nat)
  | part (a k lo hi : Nat)
  | ptr (a k i off : Nat)
  | roe (sz : Nat) (cs : List At) (off : Nat)
  | gp (g off : Nat)
  | fn (f : Nat) (caps : List At)
  | fresh (e : Nat) (fl : Bool) (sz : Nat) (es : List (List At))
  | fix (fl : Bool) (sz : Nat) (es : List (List At))
  | err
  | unk (k : IntKind)
  | bad
inductive Sv where
  | one (x : At)
  | agg (cs : List At)
  | tup (vs : List Sv)
/-- A block of the call's own: a variable, or a row of elements ('k': its version; 'frz': nobody writes it any more). -/
inductive Box where
  | var (cs : List At)
  | row (e k : Nat) (frz fl : Bool) (sz : Nat) (es : List (List At))
  | gone

/-- The kind of a plain cell. -/
inductive CK where | i (k : IntKind) | b | s
  deriving DecidableEq
/-- What a cell of a row's element looks like. -/
inductive SK where | i (k : IntKind) | b | s | ro (fl : Bool) (sz : Nat) | any
/-- What is told of a type. 'cells': of each cell that is a slice: its element type, whether its elements are flat, their size. -/
structure TI where
  ok : Bool := false
  size : Nat := 0
  bytes : Nat := 0
  agg : Bool := false
  flat : Bool := false
  kind : Option IntKind := none
  str : Bool := false
  isBool : Bool := false
  isIface : Bool := false
  eqck : List CK := []
  elem : Nat := 0
  len : Nat := 0
  isSlice : Bool := false
  zero : List At := []
  offs : List (Nat × Nat) := []
  cells : List (Option (Nat × Bool × Nat)) := []
  shape : List SK := []
/-- What is told of the program: the types, the package-level variables that are only read, which functions hand back rows of their own, which nil slices become rows of the call's own. -/
structure Env where
  T : Nat → TI
  G : Nat → List At
  adopt : Nat → Bool
  X : Nat → Option (Array Value) := fun _ => none   -- of package-level variables: the whole block
  mat : Nat → List (Nat × Nat × Nat × Bool × Nat)   -- of a function: temporary, cell, element type, flat, size
  move : Nat → Bool := fun _ => false   -- which functions take over the rows that they are handed
  cut : Nat → List Nat := fun _ => []   -- of a function: the temporaries at which a row is cut to the part that they name
  live : Nat → Nat → Option (List Nat) := fun _ _ => none   -- of a function and a loop: the temporaries that are read again

variable {R : Type}
/-- A check that must hold. -/
def chk (b : Bool) (x : Option R) : Option R := match b with | true => x | false => none
/-- A test. -/
def tst (b : Bool) (x y : Option R) : Option R := match b with | true => x | false => y

def ofConst1 : Value → At
  | .slice none 0 0 => .nils
  | .slice _ _ _ => .bad
  | .func (.func f) a b => match a.toList, b.toList with | [], [] => .fn f [] | _, _ => .bad
  | .func _ _ _ => .bad
  | .agg _ | .tuple _ => .bad
  | x => .v x
def ofConst : Value → Sv
  | .agg cs => match cs.toList.all (·.oneCell') with | true => .agg (cs.toList.map ofConst1) | false => .one .bad
  | .tuple _ => .one .bad
  | x => .one (ofConst1 x)
/-- Temporaries, by number: what was put last stands first. -/
abbrev TS := List (Nat × Sv)
def lookT : TS → Nat → Sv
  | [], _ => .one .bad
  | (d, v) :: r, t => match Nat.beq d t with | true => v | false => lookT r t
def opnd (s : TS) : Operand → Sv
  | .tmp t => lookT s t
  | .const c => ofConst c
  | .global g => .one (.gp g 0)
  | .func f => .one (.fn f [])
def put (L : Nat) (s : TS) (d : Option Tmp) (v : Sv) : TS := match d with | some d => (match Nat.blt d L with | true => (d, v) :: s | false => s) | none => s

def Sv.cells : Sv → List At
  | .one x => [x]
  | .agg cs => cs
  | .tup _ => []
def isV : At → Bool | .v _ => true | _ => false
/-- May it stand in a row: a plain value, or (where the elements aren't flat) a slice that is only read. -/
def storable (fl : Bool) : At → Bool
  | .v _ => true
  | .ro _ _ _ | .nils => !fl
  | _ => false
def setCells (cs : List At) (off : Nat) : List At → List At
  | [] => cs
  | x :: xs => setCells (cs.set off x) (off + 1) xs
def takeAt (agg : Bool) (size off : Nat) (cs : List At) : Sv := match agg with
  | true => .agg ((cs.drop off).take size)
  | false => .one (cs.getD off .bad)

def okA : SK → At → Bool
  | .i k, .v (.int k' _) => decide (k' = k)
  | .b, .v (.bool _) => true
  | .s, .v (.string _) => true
  | .ro fl sz, .ro fl' sz' _ => fl' == fl && sz' == sz
  | .any, _ => true
  | _, _ => false
def intA : At → Int | .v (.int _ z) => z | _ => 0
def boolA : At → Bool | .v (.bool z) => z | _ => false
def strA : At → ByteArray | .v (.string z) => z | _ => ⟨#[]⟩
def rowA : At → List (List At) | .ro _ _ es => es | _ => []
def etaA : SK → At → At
  | .i k, x => .v (.int k (intA x))
  | .b, x => .v (.bool (boolA x))
  | .s, x => .v (.string (strA x))
  | .ro fl sz, x => .ro fl sz (rowA x)
  | .any, x => x
def okRow : List SK → List At → Bool
  | [], [] => true
  | k :: ks, x :: xs => okA k x && okRow ks xs
  | _, _ => false
def etaRow : List SK → List At → Nat → List At
  | [], _, _ => []
  | k :: ks, e, j => etaA k (e.getD j .bad) :: etaRow ks e (j + 1)
/-- A row's element, its cells laid out. -/
def eta (sh : List SK) (e : List At) (K : List At → Option R) : Option R := match sh with
  | [] => K e
  | sh => chk (okRow sh e) (K (etaRow sh e 0))
def bytesEq (x y : ByteArray) : Bool := x.data.toList == y.data.toList
/-- '==' of two plain cells of a kind. -/
def eqV : CK → Value → Value → Option Bool
  | .i q, .int k a, .int k' b => match decide (k = q) && decide (k' = q) with | true => some (a == b) | false => none
  | .b, .bool a, .bool b => some (a == b)
  | .s, .string a, .string b => some (bytesEq a b)
  | _, _, _ => none
def eqCells : List CK → List At → List At → Option Bool
  | [], [], [] => some true
  | c :: cs, .v x :: xs, .v y :: ys => match eqV c x y, eqCells cs xs ys with
    | some a, some b => some (a && b)
    | _, _ => none
  | _, _, _ => none

def andI (k : IntKind) (a b : Int) : Int := k.wrap ((BitVec.ofInt k.bits a &&& BitVec.ofInt k.bits b).toNat : Int)
def orI (k : IntKind) (a b : Int) : Int := k.wrap ((BitVec.ofInt k.bits a ||| BitVec.ofInt k.bits b).toNat : Int)
def xorI (k : IntKind) (a b : Int) : Int := k.wrap ((BitVec.ofInt k.bits a ^^^ BitVec.ofInt k.bits b).toNat : Int)
def shlI (k : IntKind) (a b : Int) : Int := k.wrap (a * 2 ^ (min b.toNat k.bits))
def shrI (k : IntKind) (a b : Int) : Int := a.fdiv (2 ^ (min b.toNat k.bits))
/-- Operators on plain values: the value, and what must hold. -/
def binV (op : BinOp) : Value → Value → (Value → Option R) → Option R
  | .int k a, .int k' b, K => match op with
    | .shl => chk (decide (0 ≤ b)) (K (.int k (shlI k a b)))
    | .shr => chk (decide (0 ≤ b)) (K (.int k (shrI k a b)))
    | .add => chk (decide (k = k')) (K (.int k (k.wrap (a + b))))
    | .sub => chk (decide (k = k')) (K (.int k (k.wrap (a - b))))
    | .mul => chk (decide (k = k')) (K (.int k (k.wrap (a * b))))
    | .quo => chk (decide (k = k')) (chk (b != 0) (K (.int k (k.wrap (a.tdiv b)))))
    | .rem => chk (decide (k = k')) (chk (b != 0) (K (.int k (a.tmod b))))
    | .and => chk (decide (k = k')) (K (.int k (andI k a b)))
    | .or => chk (decide (k = k')) (K (.int k (orI k a b)))
    | .xor => chk (decide (k = k')) (K (.int k (xorI k a b)))
    | .andNot => none
    | .eql => chk (decide (k = k')) (K (.bool (a == b)))
    | .neq => chk (decide (k = k')) (K (.bool (a != b)))
    | .lss => chk (decide (k = k')) (K (.bool (decide (a < b))))
    | .leq => chk (decide (k = k')) (K (.bool (decide (a ≤ b))))
    | .gtr => chk (decide (k = k')) (K (.bool (decide (a > b))))
    | .geq => chk (decide (k = k')) (K (.bool (decide (a ≥ b))))
  | .string a, .string b, K => match op with
    | .add => chk (decide (a.size + b.size ≤ 9223372036854775807)) (K (.string (a ++ b)))
    | .eql => K (.bool (bytesEq a b))
    | .neq => K (.bool (!(bytesEq a b)))
    | .lss => K (.bool (Op.bytesLess a.data.toList b.data.toList))
    | .geq => K (.bool (!(Op.bytesLess a.data.toList b.data.toList)))
    | .leq => K (.bool (Op.bytesLess a.data.toList b.data.toList || bytesEq a b))
    | .gtr => K (.bool (!(Op.bytesLess a.data.toList b.data.toList || bytesEq a b)))
    | _ => none
  | _, _, _ => none

/-- An own row, read: its element type, flatness, size, elements. -/
def rowOf (M : List Box) (a k : Nat) : Option (Nat × Bool × Nat × List (List At)) := match M.getD a .gone with
  | .row e k' _ fl sz es => match k == k' with | true => some (e, fl, sz, es) | false => none
  | _ => none
/-- A slice's elements. -/
def elems (M : List Box) : At → Option (Bool × Nat × List (List At))
  | .ro fl sz es => some (fl, sz, es)
  | .fix fl sz es => some (fl, sz, es)
  | .nils => some (true, 0, [])
  | .own a k => (rowOf M a k).map (·.2)
  | .part a k lo hi => (rowOf M a k).map fun r => (r.2.1, r.2.2.1, (r.2.2.2.take hi).drop lo)
  | _ => none
def ownId : At → List Nat | .own a _ => [a] | .part a _ _ _ => [a] | _ => []
def ownIds : List At → List Nat | [] => [] | x :: xs => ownId x ++ ownIds xs
/-- What an operation changes: boxes anew, boxes turned. -/
abbrev Eff := List (Nat × Box)
def upd (M : List Box) (a : Nat) (b : Box) : List Box := match Nat.blt a M.length with | true => M.set a b | false => M ++ (List.replicate (a - M.length) .gone ++ [b])
def apply (M : List Box) : Eff → List Box
  | [] => M
  | (a, b) :: es => apply (upd M a b) es
def freezeAll (M : List Box) : List Nat → Eff
  | [] => []
  | a :: as => match M.getD a .gone with
    | .row e k _ fl sz es => (a, .row e k true fl sz es) :: freezeAll M as
    | _ => freezeAll M as

/-! ### calls -/
def ptrIds1 : At → List Nat | .ptr a _ _ _ => [a] | _ => []
def ptrIds : At → List Nat
  | .ptr a _ _ _ => [a]
  | .fn _ caps => caps.flatMap ptrIds1
  | _ => []
def svAts : Sv → List At
  | .one x => [x]
  | .agg cs => cs
  | .tup _ => []
def addNew (l : List Nat) : List Nat → List Nat
  | [] => l
  | x :: xs => match l.contains x with | true => addNew l xs | false => addNew (l ++ [x]) xs
def boxIds : Box → List Nat
  | .var cs => cs.flatMap fun x => ownId x ++ ptrIds x
  | _ => []
/-- The boxes that a call's arguments lead to. -/
def reach (M : List Box) (args : List Sv) : List Nat :=
  let l1 := addNew [] ((args.flatMap svAts).flatMap ptrIds)
  let l2 := addNew l1 (l1.flatMap fun a => boxIds (M.getD a .gone))
  addNew l2 (l2.flatMap fun a => boxIds (M.getD a .gone))
def posOf (a : Nat) : List Nat → Nat → Option Nat
  | [], _ => none
  | b :: bs, i => match b == a with | true => some i | false => posOf a bs (i + 1)
/-- Boxes numbered anew ('r'), from version 0 on; what leads to others is closed: rows by value. -/
def nrmCaps (r : Nat → Option Nat) (M : List Box) : List At → Option (List At)
  | [] => some []
  | .ptr a k i off :: xs => match r a, M.getD a .gone, nrmCaps r M xs with
    | some b, .var _, some ys => some (.ptr b 0 i off :: ys)
    | _, _, _ => none
  | x :: xs => match nrmCaps r M xs with
    | some ys => some (x :: ys)
    | none => none
def nrmA (r : Nat → Option Nat) (M : List Box) (c : Option (Nat × Bool × Nat)) : At → At
  | .own a k => match rowOf M a k with
    | some (_, fl, sz, es) => match r a with | some b => .own b 0 | none => .ro fl sz es
    | none => .bad
  | .part a k lo hi => match rowOf M a k with
    | some (_, fl, sz, es) => match r a with | some b => .part b 0 lo hi | none => .ro fl sz ((es.take hi).drop lo)
    | none => .bad
  | .ptr a k i off => match r a with
    | some b => match M.getD a .gone with
      | .var _ => .ptr b 0 i off
      | .row _ k' _ _ _ _ => match k == k' with | true => .ptr b 0 i off | false => .bad
      | .gone => .bad
    | none => .bad
  | .fn g caps => match nrmCaps r M caps with | some cs => .fn g cs | none => .bad
  | .nils => match c with | some (_, fl, sz) => .ro fl sz [] | none => .nils
  | .fix fl sz es => .ro fl sz es
  | x => x
def nrmL (r : Nat → Option Nat) (M : List Box) : List (Option (Nat × Bool × Nat)) → List At → List At
  | c :: cs, x :: xs => nrmA r M c x :: nrmL r M cs xs
  | [], x :: xs => nrmA r M none x :: nrmL r M [] xs
  | _, [] => []
def nrmS (r : Nat → Option Nat) (M : List Box) (t : TI) : Sv → Sv
  | .one x => .one (nrmA r M (t.cells.getD 0 none) x)
  | .agg cs => .agg (nrmL r M t.cells cs)
  | .tup _ => .one .bad
def nrmB (r : Nat → Option Nat) (M : List Box) : Box → Box
  | .var cs => .var (nrmL r M [] cs)
  | .row e _ fz fl sz es => .row e 0 fz fl sz es
  | .gone => .gone
/-- And back: box j as box (h j).1, from version (h j).2 on. -/
def shCaps (h : Nat → Nat × Nat) : List At → List At
  | [] => []
  | .ptr a k i off :: xs => .ptr (h a).1 (k + (h a).2) i off :: shCaps h xs
  | x :: xs => x :: shCaps h xs
def shA (h : Nat → Nat × Nat) : At → At
  | .own a k => .own (h a).1 (k + (h a).2)
  | .part a k lo hi => .part (h a).1 (k + (h a).2) lo hi
  | .ptr a k i off => .ptr (h a).1 (k + (h a).2) i off
  | .fn f caps => .fn f (shCaps h caps)
  | x => x
def shS1 (h : Nat → Nat × Nat) : Sv → Sv
  | .one x => .one (shA h x)
  | .agg cs => .agg (cs.map (shA h))
  | .tup _ => .one .bad
def shS (h : Nat → Nat × Nat) : Sv → Sv
  | .tup vs => .tup (vs.map (shS1 h))
  | x => shS1 h x
def shB (h : Nat → Nat × Nat) (v : Nat) : Box → Box
  | .var cs => .var (cs.map (shA h))
  | .row e k fz fl sz es => .row e (k + v) fz fl sz es
  | .gone => .gone
def shift (ids : List Nat) (M : List Box) (nx j : Nat) : Nat × Nat := match ids[j]? with
  | some a => (a, match M.getD a .gone with | .row _ k _ _ _ _ => k + 1 | _ => 0)
  | none => (nx + (j - ids.length), 0)
def backAll (h : Nat → Nat × Nat) : List Box → Nat → Eff
  | [], _ => []
  | b :: bs, j => ((h j).1, shB h (h j).2 b) :: backAll h bs (j + 1)
def argsN (E : Env) (r : Nat → Option Nat) (M : List Box) : List Nat → List Sv → List Sv
  | t :: ts, x :: xs => nrmS r M (E.T t) x :: argsN E r M ts xs
  | [], x :: xs => nrmS r M {} x :: argsN E r M [] xs
  | _, [] => []
def boxOwn : Box → List Nat
  | .var cs => ownIds cs
  | _ => []
/-- The rows that go by value. -/
def bvOf (M : List Box) (ids : List Nat) (args : List Sv) : List Nat :=
  ((args.flatMap fun x => ownIds (svAts x)) ++ ids.flatMap fun a => boxOwn (M.getD a .gone)).filter fun a => !ids.contains a
def plainA (M : List Box) : At → Bool
  | .v _ | .nils | .gp _ _ => true
  | .fn _ caps => caps.isEmpty
  | .own j _ => match M.getD j .gone with | .row _ _ _ fl _ _ => fl | _ => false
  | _ => false
def flatBox : Box → Bool | .row _ _ false fl _ _ => fl | _ => false
def nodupB : List Nat → Bool
  | [] => true
  | x :: xs => !xs.contains x && nodupB xs
def plainS1 (M : List Box) : Sv → Bool
  | .one x => plainA M x
  | .agg cs => cs.all (plainA M)
  | .tup _ => false
def plainS (M : List Box) : Sv → Bool
  | .tup vs => vs.all (plainS1 M)
  | x => plainS1 M x
/-- A result by cases. -/
inductive Tree (α : Type) where
  | ok (x : α)
  | no
  | br (b : Bool) (x y : Tree α)
def Tree.go {α : Type} : Tree α → (α → Option R) → Option R
  | .ok x, K => K x
  | .no, _ => none
  | .br b x y, K => tst b (x.go K) (y.go K)
def Tree.eval {α : Type} (t : Tree α) : Option α := t.go some
abbrev Orc := Nat → List Sv → List Box → Tree (Sv × List Box)
def isRw : Box → Bool | .row _ _ _ _ _ _ => true | _ => false
/-- With the rows that are handed over. -/
def reachE (b : Bool) (M : List Box) (args : List Sv) : List Nat := match b with
  | true => addNew (reach M args) ((args.flatMap fun x => ownIds (svAts x)).filter fun a => isRw (M.getD a .gone))
  | false => reach M args
def callTo (E : Env) (c : Orc) (g : Nat) (ts : List Nat) (args : List Sv) (M : List Box) (nx : Nat) (K : Sv → Eff → Option R) : Option R :=
  let ids := reachE (E.move g) M args
  let r := fun a => posOf a ids 0
  chk (ids.all (fun a => Nat.blt a nx) && nodupB ids) <| (c g (argsN E r M ts args) (ids.map fun a => nrmB r M (M.getD a .gone))).go fun x =>
    let h := shift ids M nx
    match ids.isEmpty && x.2.all flatBox && plainS x.2 x.1 with
    | true => K (shS h x.1) (backAll h x.2 0)
    | false => K (shS h x.1) (freezeAll M (bvOf M ids args) ++ backAll h x.2 0)

/-! ### one operation -/
/-- A value that may be stored. -/
def okS : Sv → Bool
  | .one .bad | .one (.fresh _ _ _ _) | .tup _ => false
  | _ => true
def capOk : At → Bool
  | .ptr _ _ _ _ | .v _ | .ro _ _ _ | .nils | .roe _ _ _ | .gp _ _ => true
  | .fn _ caps => caps.isEmpty
  | _ => false
def intOf? : Sv → Option Int
  | .one (.v (.int _ n)) => some n
  | _ => none
/-- A slice expression's bounds. -/
def bnd (d : Int) (s : TS) : Option Operand → (Int → Option R) → Option R
  | none, K => K d
  | some x, K => match opnd s x with
    | .one (.v (.int _ n)) => K n
    | _ => none
def byteAt (s : ByteArray) (i : Nat) : Int := ((s.data.toList.getD i 0).toNat : Int)
def arrOffs (n sz e : Nat) : List (Nat × Nat) := (List.range n).map fun j => (j * sz, e)
def fillParts (offs : List (Nat × Nat)) (s : TS) : List (Nat × Operand) → List At → List At
  | [], cs => cs
  | (j, x) :: ps, cs => fillParts offs s ps (setCells cs (offs.getD j (0, 0)).1 (opnd s x).cells)
def fillRow (sz : Nat) (s : TS) : List (Nat × Operand) → List (List At) → List (List At)
  | [], es => es
  | (j, x) :: ps, es => fillRow sz s ps (es.set j (opnd s x).cells)
def allStor (fl : Bool) (es : List (List At)) : Bool := es.all fun e => e.all (storable fl)
/-- A new row, or the source's own where the row of the call's own grows. -/
def appendTo (e : Nat) (fl : Bool) (sz bytes : Nat) (base : At) (xs : List (List At)) (M : List Box) (nx : Nat) (K : Sv → Eff → Option R) : Option R :=
  match base with
  | .nils => chk (decide (0 < bytes) && decide (0 < sz)) (chk (decide (xs.length * bytes ≤ 140737488355328)) (K (.one (.own nx 0)) [(nx, .row e 0 false fl sz xs)]))
  | .fix fl' sz' es => chk (decide (0 < bytes) && decide (0 < sz) && (sz == sz') && (fl == fl') && allStor fl es) (chk (!xs.isEmpty) (chk (decide ((es.length + xs.length) * bytes ≤ 140737488355328)) (K (.one (.own nx 0)) [(nx, .row e 0 false fl sz (es ++ xs))])))
  | .own a k => match M.getD a .gone with
    | .row e' k' frz fl' sz' es => chk (k == k' && !frz && (e == e') && (fl == fl') && (sz == sz') && decide (0 < bytes)) (
        chk (decide ((es.length + xs.length) * bytes ≤ 140737488355328)) (K (.one (.own a (k + 1))) [(a, .row e (k + 1) false fl sz (es ++ xs))]))
    | _ => none
  | .part a k 0 hi => match M.getD a .gone with
    | .row e' k' frz fl' sz' es => chk (k == k' && !frz && (e == e') && (fl == fl') && (sz == sz')) (
        chk (decide (hi + xs.length ≤ es.length)) (K (.one (.part a k 0 (hi + xs.length))) [(a, .row e k false fl sz (es.take hi ++ xs ++ es.drop (hi + xs.length)))]))
    | _ => none
  | _ => none
/-- What is appended, copied: a string's bytes, too. -/
def srcs (M : List Box) : At → Option (Bool × Nat × List (List At))
  | .v (.string b) => some (true, 1, b.data.toList.map fun x => [.v (.int .u8 x.toNat)])
  | x => elems M x
/-- A part that may be written: the row, from where, to where. -/
def dest : List Box → At → Option (Nat × Nat × Nat × Nat × Bool × Nat × List (List At) × Nat)
  | M, .own a k => match M.getD a .gone with
    | .row e k' false fl sz es => match k == k' with | true => some (a, k, 0, es.length, fl, sz, es, e) | false => none
    | _ => none
  | M, .part a k lo hi => match M.getD a .gone with
    | .row e k' false fl sz es => match k == k' with | true => some (a, k, lo, hi, fl, sz, es, e) | false => none
    | _ => none
  | _, _ => none
def putAll (es : List (List At)) (i : Nat) (xs : List (List At)) : List (List At) := es.take i ++ xs ++ es.drop (i + xs.length)
def srcOk (E : Env) (t t' : Nat) (y : At) : Bool := match y with
  | .v _ => (E.T t').str && Nat.beq (E.T (E.T t).elem).size 1
  | _ => (E.T t').isSlice
def vbuiltin (E : Env) (b : Builtin) (ts : List Nat) (args : List Sv) (M : List Box) (nx : Nat) (K : Sv → Eff → Option R) : Option R :=
  match b, ts, args with
  | .len, [t], [.one (.v (.string x))] => chk ((E.T t).ok && (E.T t).str) <| K (.one (.v (.int .i64 x.size))) []
  | .len, [t], [.one x] => match elems M x with
    | some (_, _, es) => chk ((E.T t).ok && (E.T t).isSlice) <| K (.one (.v (.int .i64 es.length))) []
    | none => none
  | .append, [t, t'], [.one x, .one y] =>
    let e := (E.T t).elem
    match srcs M y with
    | some (fl, sz, xs) => chk ((E.T t).ok && (E.T t).isSlice && (fl == (E.T e).flat || xs.isEmpty) && ((sz == (E.T e).size) || xs.isEmpty) && (E.T t').ok && srcOk E t t' y && allStor (E.T e).flat xs) (appendTo e (E.T e).flat (E.T e).size (E.T e).bytes x xs M nx K)
    | none => none
  | .clear, [t], [.one x] => match dest M x with
    | some (a, k, lo, hi, fl, sz, es, e) => chk ((E.T t).ok && (E.T t).isSlice && (e == (E.T t).elem) && (sz == (E.T e).size) && (E.T e).zero.all (storable fl)) (K (.tup []) [(a, .row e k false fl sz (putAll es lo (List.replicate (hi - lo) (E.T e).zero)))])
    | none => none
  | .copy, [t, t'], [.one x, .one y] => match dest M x, elems M y with
    | some (a, k, lo, hi, fl, sz, es, e), some (fl', sz', ys) => chk ((E.T t).ok && (E.T t).isSlice && (e == (E.T t).elem) && (sz == (E.T e).size) && (fl == fl' || ys.isEmpty) && (sz == sz' || ys.isEmpty) && allStor fl ys)
        (K (.one (.v (.int .i64 (min ys.length (hi - lo) : Nat)))) [(a, .row e k false fl sz (putAll es lo (ys.take (hi - lo))))])
    | _, _ => none
  | .min, _, [.one (.v (.int k a)), .one (.v (.int k' b))] => chk (decide (k = k')) (K (.one (.v (.int k (bif decide (b < a) then b else a)))) [])
  | .max, _, [.one (.v (.int k a)), .one (.v (.int k' b))] => chk (decide (k = k')) (K (.one (.v (.int k (bif decide (a < b) then b else a)))) [])
  | _, _, _ => none
/-- The slices of nil that become rows of the call's own. -/
def matCells (nx : Nat) : List (Nat × Nat × Nat × Bool × Nat) → Nat → List At → List At × Eff
  | [], _, cs => (cs, [])
  | (d, j, e, fl, sz) :: hs, t, cs => match d == t && decide (0 < sz) with
    | true => match cs.getD j .bad with
      | .nils => match matCells (nx + 1) hs t (cs.set j (.own nx 0)) with
        | (cs', ef) => (cs', (nx, .row e 0 false fl sz []) :: ef)
      | _ => matCells nx hs t cs
    | false => matCells nx hs t cs
def matOne (nx : Nat) (hs : List (Nat × Nat × Nat × Bool × Nat)) (d : Option Nat) (x : Sv) (K : Sv → Eff → Option R) : Option R :=
  match x, d with
  | .one .nils, some t => match matCells nx hs t [.nils] with
    | (cs, ef) => K (.one (cs.getD 0 .bad)) ef
  | x, _ => K x []
def strOf : List (List At) → Option (List UInt8)
  | [] => some []
  | [.v (.int .u8 n)] :: es => match strOf es with
    | some bs => some (UInt8.ofNat n.toNat :: bs)
    | none => none
  | _ => none
/-- A row cut to the part that is named. -/
def cutOne (b : Bool) (M : List Box) (x : Sv) (K : Sv → Eff → Option R) : Option R := match b, x with
  | true, .one (.part a k 0 hi) => match M.getD a .gone with
    | .row e k' false fl sz es => chk (k == k') (K (.one (.own a (k + 1))) [(a, .row e (k + 1) false fl sz (es.take hi))])
    | _ => none
  | _, x => K x []
def isNil3 (s : TS) : Option Operand → Option Operand → Operand → Bool
  | none, some (.const (.int _ 0)), .const (.int _ 0) => true
  | _, _, _ => false
def isConst : Operand → Bool | .const _ => true | _ => false
def vop (E : Env) (f : Nat) (c : Orc) (o : Oper) (s : TS) (M : List Box) (nx : Nat) (K : Sv → Eff → Option R) : Option R :=
  match o.op with
  | .move x => K (opnd s x) []
  | .assign x => match o.dst with
    | some d => match (E.cut f).contains d with
      | true => cutOne true M (opnd s x) K
      | false => matOne nx (E.mat f) o.dst (opnd s x) K
    | none => matOne nx (E.mat f) o.dst (opnd s x) K
  | .pick x a b => match opnd s x with
    | .one (.v (.bool t)) => match opnd s a, opnd s b with
      | .one (.v (.bool p)), .one (.v (.bool q)) => K (.one (.v (.bool (bif t then p else q)))) []
      | p, q => tst t (K p []) (K q [])
    | _ => none
  | .alloc t => match matCells nx (E.mat f) (o.dst.getD 0) (E.T t).zero with
    | (cs, ef) => chk (E.T t).ok (K (.one (.ptr (nx + ef.length) 0 0 0)) (ef ++ [(nx + ef.length, .var cs)]))
  | .box _ x => match opnd s x with
    | .tup _ => none
    | y => chk (okS y) <| match matCells nx (E.mat f) (o.dst.getD 0) y.cells with
      | (cs, ef) => K (.one (.ptr (nx + ef.length) 0 0 0)) (ef ++ [(nx + ef.length, .var cs)])
  | .build t ps => match Nat.beq (E.T t).len 0 with
    | true => chk ((E.T t).ok && (E.T t).agg && decide ((E.T t).len = 0) && ps.toList.all fun p => okS (opnd s p.2) && Nat.blt p.1 (E.T t).offs.length && (opnd s p.2).cells.length == (E.T ((E.T t).offs.getD p.1 (0, 0)).2).size && Nat.ble (((E.T t).offs.getD p.1 (0, 0)).1 + (opnd s p.2).cells.length) (E.T t).size) (K (.agg (fillParts (E.T t).offs s ps.toList (E.T t).zero)) [])
    | false =>
      let e := (E.T t).elem
      chk ((E.T t).ok && (E.T t).agg && Nat.ble ((E.T t).len * (E.T e).size) (E.T t).size && ps.toList.all fun p => okS (opnd s p.2) && Nat.blt p.1 (E.T t).len && (opnd s p.2).cells.length == (E.T e).size) (K (.agg (fillParts (arrOffs (E.T t).len (E.T e).size e) s ps.toList (E.T t).zero)) [])
  | .buildSlice t n ps =>
    let e := (E.T t).elem
    let es := fillRow (E.T e).size s ps.toList (List.replicate n (E.T e).zero)
    chk ((E.T t).ok && (E.T t).isSlice && allStor (E.T e).flat es && decide (0 < (E.T e).size) && Nat.ble (n * (E.T e).size) 16777216 && ps.toList.all fun p => okS (opnd s p.2) && Nat.blt p.1 n && (opnd s p.2).cells.length == (E.T e).size) (K (.one (.own nx 0)) [(nx, .row e 0 false (E.T e).flat (E.T e).size es)])
  | .load t x => chk (E.T t).ok (match opnd s x with
    | .one (.ptr a k i off) => match M.getD a .gone with
      | .var cs => chk (Nat.ble (off + (E.T t).size) cs.length) (K (takeAt (E.T t).agg (E.T t).size off cs) [])
      | .row e k' _ _ sz es => chk (k == k' && Nat.ble (off + (E.T t).size) sz) (chk (decide (i < es.length)) (eta (E.T e).shape (es.getD i []) fun e => K (takeAt (E.T t).agg (E.T t).size off e) []))
      | .gone => none
    | .one (.roe sz cs off) => chk (Nat.ble (off + (E.T t).size) sz) (K (takeAt (E.T t).agg (E.T t).size off cs) [])
    | .one (.gp g off) => chk (decide (off + (E.T t).size ≤ (E.G g).length)) (K (takeAt (E.T t).agg (E.T t).size off (E.G g)) [])
    | _ => none)
  | .store t x y => match opnd s x with
    | .one (.ptr a k i off) => chk ((E.T t).ok && okS (opnd s y) && (opnd s y).cells.length == (E.T t).size) (match M.getD a .gone with
      | .var cs => chk (Nat.ble (off + (E.T t).size) cs.length) (K (.one .bad) [(a, .var (setCells cs off (opnd s y).cells))])
      | .row e k' frz fl sz es => chk (k == k' && !frz && Nat.ble (off + (E.T t).size) sz && (opnd s y).cells.all (storable fl)) (chk (decide (i < es.length)) (
          K (.one .bad) [(a, .row e k' frz fl sz (es.set i (setCells (es.getD i []) off (opnd s y).cells)))]))
      | .gone => none)
    | _ => none
  | .nilCheck x => match opnd s x with
    | .one (.ptr a k i off) => K (.one (.ptr a k i off)) []
    | .one (.roe sz cs off) => K (.one (.roe sz cs off)) []
    | .one (.gp g off) => K (.one (.gp g off)) []
    | .one (.fn g caps) => K (.one (.fn g caps)) []
    | _ => none
  | .binOp op t x y _ => match opnd s x, opnd s y with
    | .one (.v (.bool a)), .one (.v (.bool b)) => chk ((E.T t).ok && (E.T t).isBool) (match op with
      | .eql => K (.one (.v (.bool (a == b)))) []
      | .neq => K (.one (.v (.bool (!(a == b))))) []
      | _ => none)
    | .one .err, .one (.v .nilIface) => chk ((E.T t).ok && (E.T t).isIface) (match op with
      | .eql => K (.one (.v (.bool false))) []
      | .neq => K (.one (.v (.bool true))) []
      | _ => none)
    | .one (.v .nilIface), .one (.v .nilIface) => chk ((E.T t).ok && (E.T t).isIface && isConst y) (match op with
      | .eql => K (.one (.v (.bool true))) []
      | .neq => K (.one (.v (.bool false))) []
      | _ => none)
    | .one (.v a), .one (.v b) => binV op a b fun r => K (.one (.v r)) []
    | .agg xs, .agg ys => chk ((E.T t).ok && !(E.T t).eqck.isEmpty) <| match op with
      | .eql => match eqCells (E.T t).eqck xs ys with | some b => K (.one (.v (.bool b))) [] | none => none
      | .neq => match eqCells (E.T t).eqck xs ys with | some b => K (.one (.v (.bool (!b)))) [] | none => none
      | _ => none
    | _, _ => none
  | .unOp op _ x => match op, opnd s x with
    | .not, .one (.v (.bool b)) => K (.one (.v (.bool (!b)))) []
    | .neg, .one (.v (.int k n)) => K (.one (.v (.int k (k.wrap (0 - n))))) []
    | _, _ => none
  | .convert src dst x => match opnd s x with
    | .one (.v (.int _ n)) => match (E.T dst).kind with
      | some k => chk ((E.T src).ok && (E.T dst).ok) <| K (.one (.v (.int k (k.wrap n)))) []
      | none => none
    | .one (.v (.string b)) => chk ((E.T src).ok && (E.T dst).ok && (E.T dst).str) (K (.one (.v (.string b))) [])
    | .one y => chk ((E.T dst).ok && (E.T src).ok && (E.T dst).str && (E.T src).isSlice && ((E.T (E.T src).elem).kind == some .u8)) (match elems M y with
      | some (_, _, es) => match strOf es with
        | some bs => K (.one (.v (.string ⟨bs.toArray⟩))) []
        | none => none
      | none => none)
    | _ => none
  | .makeFunc (.func g) first caps => match first.toList with
    | [] => chk (caps.toList.all fun x => match opnd s x with | .one y => capOk y | _ => false) <| K (.one (.fn g (caps.toList.map fun x => match opnd s x with | .one y => y | _ => .bad))) []
    | _ => none
  | .slice t x lo hi none => chk ((E.T t).ok && ((E.T t).isSlice || (E.T t).str)) (match opnd s x with
    | .one (.v (.string b)) => chk (E.T t).str <| bnd 0 s lo fun l => bnd b.size s hi fun h => chk (decide (0 ≤ l)) (chk (decide (l ≤ h)) (chk (decide (h ≤ b.size)) (K (.one (.v (.string (b.extract l.toNat h.toNat)))) [])))
    | .one (.ro fl sz es) => chk ((E.T t).isSlice && (sz == (E.T (E.T t).elem).size)) <| bnd 0 s lo fun l => bnd es.length s hi fun h => chk (decide (0 ≤ l)) (chk (decide (l ≤ h)) (chk (decide (h ≤ es.length)) (K (.one (.ro fl sz ((es.take h.toNat).drop l.toNat))) [])))
    | .one (.own a k) => match rowOf M a k with
      | some (_, _, sz, es) => chk ((E.T t).isSlice && (sz == (E.T (E.T t).elem).size)) <| bnd 0 s lo fun l => bnd es.length s hi fun h => chk (decide (0 ≤ l)) (chk (decide (l ≤ h)) (chk (decide (h ≤ es.length)) (cutOne ((E.cut f).contains (o.dst.getD 0)) M (.one (.part a k l.toNat h.toNat)) K)))
      | none => none
    | .one (.part a k lo' hi') => match rowOf M a k with
      | some (_, _, sz, es) => chk ((E.T t).isSlice && (sz == (E.T (E.T t).elem).size)) <| bnd 0 s lo fun l => bnd (hi' - lo' : Nat) s hi fun h => chk (decide (0 ≤ l)) (chk (decide (l ≤ h)) (chk (decide (lo' + h.toNat ≤ es.length)) (cutOne ((E.cut f).contains (o.dst.getD 0)) M (.one (.part a k (lo' + l.toNat) (lo' + h.toNat))) K)))
      | none => none
    | _ => none)
  | .slice t x lo hi (some mx) => chk ((E.T t).ok && (E.T t).isSlice) (match opnd s x with
    | .one y => match elems M y with
      | some (fl, sz, es) => match isNil3 s lo hi mx with
        | true => K (.one .nils) []
        | false => chk (sz == (E.T (E.T t).elem).size) <| bnd 0 s lo fun l => match hi with
          | some hx => bnd 0 s (some hx) fun h => bnd 0 s (some mx) fun m => chk (decide (0 ≤ l)) (chk (decide (l ≤ h)) (chk (decide (h ≤ m)) (chk (decide (m ≤ es.length)) (match (E.cut f).contains (o.dst.getD 0), y with
            | true, .ro _ _ _ => chk (h == m) (K (.one (.fix fl sz ((es.take h.toNat).drop l.toNat))) [])
            | true, .fix _ _ _ => chk (h == m) (K (.one (.fix fl sz ((es.take h.toNat).drop l.toNat))) [])
            | _, _ => K (.one .bad) []))))
          | none => none
      | none => none
    | _ => none)
  | .makeSlice t x y => match opnd s x, opnd s y with
    | .one (.v (.int _ l)), .one (.v (.int _ c)) =>
      let e := (E.T t).elem
      chk ((E.T t).ok && (E.T t).isSlice && decide (0 < (E.T e).size) && decide (0 < (E.T e).bytes) && (E.T e).zero.all (storable (E.T e).flat)) (chk (decide (0 ≤ l)) (chk (decide (l ≤ c)) (chk (decide (c * (E.T e).bytes ≤ 140737488355328)) (K (.one (.own nx 0)) [(nx, .row e 0 false (E.T e).flat (E.T e).size (List.replicate l.toNat (E.T e).zero))]))))
    | _, _ => none
  | .field t x j => match opnd s x with
    | .agg cs => chk ((E.T t).ok && (E.T t).agg && Nat.blt j (E.T t).offs.length && decide ((E.T t).len = 0)) (chk (Nat.ble (((E.T t).offs.getD j (0, 0)).1 + (E.T ((E.T t).offs.getD j (0, 0)).2).size) cs.length) (K (takeAt (E.T ((E.T t).offs.getD j (0, 0)).2).agg (E.T ((E.T t).offs.getD j (0, 0)).2).size ((E.T t).offs.getD j (0, 0)).1 cs) []))
    | _ => none
  | .fieldAddr t x j => chk ((E.T t).ok && (E.T t).agg && Nat.blt j (E.T t).offs.length && decide ((E.T t).len = 0)) (match opnd s x with
    | .one (.ptr a k i off) => K (.one (.ptr a k i (off + ((E.T t).offs.getD j (0, 0)).1))) []
    | .one (.roe sz cs off) => K (.one (.roe sz cs (off + ((E.T t).offs.getD j (0, 0)).1))) []
    | .one (.gp g off) => K (.one (.gp g (off + ((E.T t).offs.getD j (0, 0)).1))) []
    | _ => none)
  | .indexAddr t x y => match opnd s y with
    | .one (.v (.int _ n)) => match opnd s x with
      | .one (.ro _ sz es) => chk ((E.T t).ok && (E.T t).isSlice && (sz == (E.T (E.T t).elem).size)) (chk (decide (0 ≤ n)) (chk (decide (n < es.length)) (eta (E.T (E.T t).elem).shape (es.getD n.toNat []) fun e => K (.one (.roe sz e 0)) [])))
      | .one (.own a k) => match rowOf M a k with
        | some (_, _, sz, es) => chk ((E.T t).ok && (E.T t).isSlice && (sz == (E.T (E.T t).elem).size)) (chk (decide (0 ≤ n)) (chk (decide (n < es.length)) (K (.one (.ptr a k n.toNat 0)) [])))
        | none => none
      | .one (.ptr a k i off) => chk ((E.T t).ok && (E.T t).agg && decide (1 < (E.T t).len)) (chk (decide (0 ≤ n)) (chk (decide (n < (E.T t).len)) (K (.one (.ptr a k i (off + n.toNat * (E.T (E.T t).elem).size))) [])))
      | .one (.gp g off) => chk ((E.T t).ok && (E.T t).agg && decide (1 < (E.T t).len)) (chk (decide (0 ≤ n)) (chk (decide (n < (E.T t).len)) (K (.one (.gp g (off + n.toNat * (E.T (E.T t).elem).size))) [])))
      | .one (.fix _ sz es) => chk ((E.T t).ok && (E.T t).isSlice && (sz == (E.T (E.T t).elem).size)) (chk (decide (0 ≤ n)) (chk (decide (n < es.length)) (eta (E.T (E.T t).elem).shape (es.getD n.toNat []) fun e => K (.one (.roe sz e 0)) [])))
      | .one (.part a k lo hi) => match rowOf M a k with
        | some (_, _, sz, _) => chk ((E.T t).ok && (E.T t).isSlice && (sz == (E.T (E.T t).elem).size)) (chk (decide (0 ≤ n)) (chk (decide (n.toNat < hi - lo)) (K (.one (.ptr a k (lo + n.toNat) 0)) [])))
        | none => none
      | _ => none
    | _ => none
  | .index t x y => match opnd s x, opnd s y with
    | .one (.v (.string b)), .one (.v (.int _ n)) => chk ((E.T t).ok && (E.T t).str) <| chk (decide (0 ≤ n)) (chk (decide (n < b.size)) (K (.one (.v (.int .u8 (byteAt b n.toNat)))) []))
    | .agg cs, .one (.v (.int _ n)) => chk ((E.T t).ok && (E.T t).agg && decide (1 < (E.T t).len)) (chk (decide (0 ≤ n)) (chk (decide (n < (E.T t).len)) (chk (Nat.ble ((E.T t).len * (E.T (E.T t).elem).size) cs.length) (K (takeAt (E.T (E.T t).elem).agg (E.T (E.T t).elem).size (n.toNat * (E.T (E.T t).elem).size) cs) []))))
    | _, _ => none
  | .extract x j => match opnd s x with
    | .tup vs => match vs[j]? with | some v => K v [] | none => none
    | _ => none
  | .call q => match q.callee with
    | .builtin b => vbuiltin E b q.argTypes.toList (q.args.toList.map (opnd s)) M nx K
    | .value (.func g) => callTo E c g q.argTypes.toList (q.args.toList.map (opnd s)) M nx K
    | .value x => match opnd s x with
      | .one (.fn g caps) => callTo E c g q.argTypes.toList (q.args.toList.map (opnd s) ++ caps.map Sv.one) M nx K
      | _ => none
    | _ => none
  | _ => none

/-! ### regions, code, functions -/
/-- Which boxes an operation looks at. -/
def foot (s : TS) (M : List Box) (o : Oper) : List Nat :=
  match o.op with
  | .load _ x => (svAts (opnd s x)).flatMap ptrIds1
  | .store _ x _ => (svAts (opnd s x)).flatMap ptrIds1
  | .indexAddr _ x _ | .slice _ x _ _ _ | .convert _ _ x | .assign x => (svAts (opnd s x)).flatMap ownId
  | .call q => match q.callee with
    | .builtin _ => q.args.toList.flatMap fun x => (svAts (opnd s x)).flatMap ownId
    | .value x =>
      let args := q.args.toList.map (opnd s) ++ (match opnd s x with | .one (.fn _ caps) => caps.map Sv.one | _ => [])
      reach M args ++ bvOf M (reach M args) args
    | _ => []
  | _ => []
/-- What it looks at, and what it turns. -/
def footE (s : TS) (M : List Box) (o : Oper) (ef : Eff) : List Nat × List Nat := (foot s M o, ef.map (·.1))
def disj (a b : List Nat) : Bool := a.all fun x => !b.contains x
/-- Of two operations that no order binds, neither looks at what the other writes. -/
def drawOk (ops : List Oper) (fs : List (List Nat × List Nat)) : Bool :=
  let b := Region.before ops.toArray
  let l := (ops.zip fs).zipIdx
  l.all fun ((oj, fj), j) => l.all fun ((oi, fi), i) => !(decide (i < j)) || (b.getD j 0).testBit i ||
    (disj fi.2 fj.1 && disj fi.2 fj.2 && disj fj.2 fi.1 && oi.apart ops.toArray oj)
/-- No operation waits for one that stands behind it. -/
def edgesOk (ops : List Oper) : Bool := ops.zipIdx.all fun (o, j) => o.after.all fun e => !(Region.binds .any e) || Nat.blt e.on j
/-- What stands where an operation was passed over: nothing. -/
def skp : Sv := .one (.fresh 0 false 0 [])
/-- The operations in the text's order. 'ops': the whole region, for the guards; 'L': how many temporaries there are. -/
def vops (E : Env) (f : Nat) (c : Orc) (L : Nat) (ops : List Oper) : List Oper → List (List Nat × List Nat) → TS → List Box → (List (List Nat × List Nat) → TS → List Box → Option R) → Option R
  | [], fs, s, M, K => K fs.reverse s M
  | o :: rest, fs, s, M, K => match o.guard with
    | none => vop E f c o s M M.length fun v ef => vops E f c L ops rest (footE s M o ef :: fs) (put L s o.dst v) (apply M ef) K
    | some (j, want) => match (ops.getD j default).dst with
      | some d => match lookT s d with
        | .one (.v (.bool t)) =>
          let run := fun s => vop E f c o s M M.length fun v ef => vops E f c L ops rest (footE s M o ef :: fs) (put L s o.dst v) (apply M ef) K
          let skip := fun s => vops E f c L ops rest (([], []) :: fs) (put L s o.dst skp) M K
          tst t (match want with | true => run ((d, .one (.v (.bool true))) :: s) | false => skip ((d, .one (.v (.bool true))) :: s))
            (match want with | true => skip ((d, .one (.v (.bool false))) :: s) | false => run ((d, .one (.v (.bool false))) :: s))
        | .one (.fresh _ _ _ _) => vops E f c L ops rest (([], []) :: fs) (put L s o.dst skp) M K
        | _ => none
      | none => none
/-- What is known behind a test. -/
def known (s : TS) (x : Operand) (b : Bool) : TS := match x with | .tmp t => (t, .one (.v (.bool b))) :: s | _ => s
/-- Behind a round: versions from 0 on, no block of the round's own. -/
def lowIds (N : Nat) (a : Nat) : Option Nat := match Nat.blt a N with | true => some a | false => none
inductive Ex where | normal | exit (id : Nat) | ret
abbrev Kont (R : Type) := Ex → TS → List Box → Option R
/-- Of the temporaries, those that are read again. -/
def keepT (l : List Nat) (s : TS) : TS := l.map fun i => (i, lookT s i)
def keepL (l : Option (List Nat)) (s : TS) : TS := match l with | some l => keepT l s | none => s
def nrmT (r : Nat → Option Nat) (M : List Box) (s : TS) : TS := s.map fun p => (p.1, nrmS r M {} p.2)
/-- A loop's name: its first region's number. -/
def firstId : Code → Nat
  | .region id _ _ => id
  | .seq a b => match firstId a with | 0 => firstId b | n => n
  | .cond _ a b => match firstId a with | 0 => firstId b | n => n
  | .block _ a => firstId a
  | .loop a => firstId a
  | _ => 0
abbrev Lo := Code → TS → List Box → Option (Tree (Ex × TS × List Box))
def noLo : Lo := fun _ _ _ => none
def iter (l : Option (List Nat)) (body : Kont R → TS → List Box → Option R) (N : Nat) : Nat → Kont R → TS → List Box → Option R
  | 0, _, _, _ => none
  | m + 1, K, s, M => body (fun e s' M' => match e with
      | .normal => iter l body N m K (keepL l (nrmT (lowIds N) M' s')) ((M'.take N).map (nrmB (lowIds N) M'))
      | e => K e s' M') s M
def vx (E : Env) (f : Nat) (c : Orc) (lo : Lo) (n L : Nat) : Code → Kont R → TS → List Box → Option R
  | .skip, K, s, M => K .normal s M
  | .region _ ops d, K, s, M => vops E f c L ops.toList ops.toList [] s M fun fs s' M' => chk (match d with | true => edgesOk ops.toList && drawOk ops.toList fs | false => true) (K .normal s' M')
  | .seq a b, K, s, M => vx E f c lo n L a (fun e s' M' => match e with
      | .normal => vx E f c lo n L b K s' M'
      | e => K e s' M') s M
  | .cond x a b, K, s, M => match opnd s x with
    | .one (.v (.bool t)) => tst t (vx E f c lo n L a K (known s x true) M) (vx E f c lo n L b K (known s x false) M)
    | _ => none
  | .block id a, K, s, M => vx E f c lo n L a (fun e s' M' => match e with
      | .exit j => match j == id with | true => K .normal s' M' | false => K (.exit j) s' M'
      | e => K e s' M') s M
  | .loop a, K, s, M => match lo a (keepL (E.live f (firstId a)) (nrmT (lowIds M.length) M s)) (M.map (nrmB (lowIds M.length) M)) with
    | some t => t.go fun x => K x.1 x.2.1 x.2.2
    | none => iter (E.live f (firstId a)) (fun K' s' M' => vx E f c lo n L a K' s' M') M.length n K (keepL (E.live f (firstId a)) (nrmT (lowIds M.length) M s)) (M.map (nrmB (lowIds M.length) M))
  | .exit id, K, s, M => K (.exit id) s M
  | .label _, K, s, M => K .normal s M
  | .ret, K, s, M => K .ret s M
  | _, _, _, _ => none
/-- A loop by itself: how it ends. -/
def vloop (E : Env) (f : Nat) (c : Orc) (lo : Lo) (n L : Nat) (a : Code) (N m : Nat) (s : TS) (M : List Box) : Option (Ex × TS × List Box) :=
  iter (E.live f (firstId a)) (fun K' s' M' => vx E f c lo n L a K' s' M') N m (fun e s M => some (e, keepL (E.live f (100000 + firstId a)) s, M)) s M
def loopsOf : Code → List Code
  | .seq a b => loopsOf a ++ loopsOf b
  | .cond _ a b => loopsOf a ++ loopsOf b
  | .block _ a => loopsOf a
  | .loop a => a :: loopsOf a
  | _ => []
def cellVal (E : Env) (M : List Box) (s : TS) (t ty : Nat) : Option Sv := match lookT s t with
  | .one (.ptr a _ _ off) => match M.getD a .gone with
    | .var cs => match (E.T ty).ok && Nat.ble (off + (E.T ty).size) cs.length with | true => some (takeAt (E.T ty).agg (E.T ty).size off cs) | false => none
    | _ => none
  | _ => none
def resVal (E : Env) (M : List Box) (s : TS) : ResultVar → Sv
  | .tmp t => lookT s t
  | .cell t ty => match cellVal E M s t ty with | some v => v | none => .one .bad
def resOne (E : Env) (M : List Box) (s : TS) : ResultVar → Bool
  | .tmp _ => true
  | .cell t ty => match cellVal E M s t ty with | some _ => true | none => false
def resOk (E : Env) (M : List Box) (s : TS) (fn : Func) : Bool := fn.results.toList.all (resOne E M s) && Nat.beq fn.results.toList.length fn.resultTypes.toList.length
def resVals (E : Env) (r : Nat → Option Nat) (M : List Box) (s : TS) : List ResultVar → List Nat → List Sv
  | x :: xs, t :: ts => nrmS r M (E.T t) (resVal E M s x) :: resVals E r M s xs ts
  | _, _ => []
def oneOf : List Sv → Sv
  | [x] => x
  | xs => .tup xs
def rowIds (m : Nat) (M : List Box) : List Nat → List Nat
  | [] => []
  | a :: as => match Nat.ble m a, M.getD a .gone with
    | true, .row _ _ false _ _ _ => a :: rowIds m M as
    | _, _ => rowIds m M as
/-- The rows of a function's own that become its caller's own. -/
def newIds (ad : Bool) (m : Nat) (M : List Box) (rs : List Sv) : List Nat := match ad with
  | true => addNew [] (rowIds m M ((rs.flatMap fun x => ownIds (svAts x)) ++ (M.take m).flatMap boxOwn))
  | false => []
def outIds (m : Nat) (new : List Nat) (a : Nat) : Option Nat := match Nat.blt a m with | true => some a | false => posOf a new m
/-- A function's loop, by its first region. -/
def lcode (P : Program) (g k : Nat) : Code := match P.funcs[g]? with
  | some fn => match fn.body with
    | some b => ((loopsOf b).find? fun a => Nat.beq (firstId a) k).getD .skip
    | none => .skip
  | none => .skip
/-- One round. -/
def vround (E : Env) (f : Nat) (c : Orc) (lo : Lo) (n L : Nat) (a : Code) (N m : Nat) (s : TS) (M : List Box) : Option (Ex × TS × List Box) :=
  vx E f c lo n L a (fun e s' M' => match e with
    | .normal => iter (E.live f (firstId a)) (fun K' s' M' => vx E f c lo n L a K' s' M') N m (fun e s M => some (e, keepL (E.live f (100000 + firstId a)) s, M)) (keepL (E.live f (firstId a)) (nrmT (lowIds N) M' s')) ((M'.take N).map (nrmB (lowIds N) M'))
    | e => some (e, keepL (E.live f (100000 + firstId a)) s', M')) s M
theorem vloop_succ (E : Env) (f : Nat) (c : Orc) (lo : Lo) (n L : Nat) (a : Code) (N m : Nat) (s : TS) (M : List Box) : vloop E f c lo n L a N (m + 1) s M = vround E f c lo n L a N m s M := rfl
/-- What a function hands back. -/
def vret (E : Env) (g : Nat) (fn : Func) (M : List Box) : Kont (Sv × List Box) := fun e s M' => match e with
  | .exit _ => none
  | _ =>
    let new := newIds (E.adopt g) M.length M' (fn.results.toList.map (resVal E M' s))
    let r := outIds M.length new
    chk (resOk E M' s fn) (some (oneOf (resVals E r M' s fn.results.toList fn.resultTypes.toList), (M'.take M.length).map (nrmB r M') ++ new.map fun a => nrmB r M' (M'.getD a .gone)))
def argS (i : Nat) : List Sv → TS
  | [] => []
  | x :: xs => (i, x) :: argS (i + 1) xs
/-- One function, its calls by an oracle; 'n' bounds the rounds of each loop. -/
def vstep (E : Env) (P : Program) (lo : Lo) (n : Nat) (c : Orc) (g : Nat) (args : List Sv) (M : List Box) : Option (Sv × List Box) := match P.funcs[g]? with
  | some fn => match fn.body with
    | some b => chk (Nat.ble args.length fn.ntmps) (vx E g c lo n fn.ntmps b (vret E g fn M) (argS 0 args) M)
    | none => none
  | none => none
/-- An oracle, told one more function. -/
def over (c : Orc) (g : Nat) (F : List Sv → List Box → Tree (Sv × List Box)) : Orc := fun g' args M => match Nat.beq g' g with
  | true => F args M
  | false => c g' args M
def noOrc : Orc := fun _ _ _ => .no
end Go.Vi
