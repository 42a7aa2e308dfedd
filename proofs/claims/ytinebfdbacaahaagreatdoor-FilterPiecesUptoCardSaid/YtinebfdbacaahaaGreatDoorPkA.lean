/- Part PkA of the proof: Lib AbsA AbsG0 AbsB AbsC AbsD AbsE AbsF AbsG AbsH AbsI. -/
import Derived.Lib.Split
import Derived.Lib.SplitLaws
import Derived.Lib.IndexBytes
import Derived.Lib.Join
import Derived.Orders
import Derived.Test.YtinebfdbacaahaaGreatDoorRows
import Derived.Maps.AppendAt
import Derived.Below
import Derived.Laws.IdiomStrings
import Derived.Laws.BytesArg
import Derived.Lib.Strings
set_option linter.unusedSimpArgs false
set_option linter.unusedVariables false
set_option linter.unusedSectionVars false
set_option linter.unnecessarySimpa false

/- Plain functions on texts, beside the library's. -/
namespace Go.Abs
open Go

def consHead (b : UInt8) : List (List UInt8) → List (List UInt8)
  | [] => [[b]]
  | h :: t => (b :: h) :: t
/-- A text cut at each byte c. -/
def splitC (c : UInt8) : List UInt8 → List (List UInt8)
  | [] => [[]]
  | x :: l => if x = c then [] :: splitC c l else consHead x (splitC c l)
theorem splitC_ne (c : UInt8) : ∀ l, splitC c l ≠ []
  | [] => by simp [splitC]
  | x :: l => by
    simp only [splitC]
    split
    · simp
    · cases h : splitC c l <;> simp [consHead]
theorem splitK_head {b c : UInt8} (h : b ≠ c) : ∀ (k : Nat) (l : List UInt8), Lib.splitK [c] 0 k (b :: l) = consHead b (Lib.splitK [c] 0 k l)
  | 0, l => rfl
  | k + 1, l => by
    have hp : ([c].isPrefixOf (b :: l)) = false := by simp [List.isPrefixOf]; exact fun e => h e.symm
    have hi : Lib.index (b :: l) [c] = if Lib.index l [c] == -1 then -1 else Lib.index l [c] + 1 := by
      rw [Lib.index, hp]; rfl
    unfold Lib.splitK
    rw [hi]
    have hge := Lib.index_ge l [c]
    by_cases hm : (Lib.index l [c] == -1) = true
    · rw [if_pos hm, if_pos hm]
      rfl
    · have hne : Lib.index l [c] ≠ -1 := fun e => hm (by rw [e]; rfl)
      have h0 : 0 ≤ Lib.index l [c] := by omega
      have h1 : ¬ (Lib.index l [c] + 1 == -1) = true := fun e => by have := beq_iff_eq.1 e; omega
      rw [if_neg hm, if_neg hm, if_neg h1]
      have e1 : (Lib.index l [c] + 1).toNat = (Lib.index l [c]).toNat + 1 := by omega
      rw [e1]
      simp only [consHead, List.length_cons, List.length_nil, Nat.add_zero, List.take_succ_cons, List.drop_succ_cons]
theorem split_C (c : UInt8) : ∀ l : List UInt8, Lib.split l [c] = splitC c l
  | [] => by
    unfold Lib.split
    rw [Lib.count_one]
    rfl
  | x :: l => by
    have ih := split_C c l
    unfold Lib.split at ih ⊢
    rw [Lib.count_one] at ih ⊢
    by_cases h : x = c
    · subst h
      rw [List.count_cons_self]
      have hi : Lib.index (x :: l) [x] = 0 := by
        rw [Lib.index, if_pos (by simp [List.isPrefixOf])]
      unfold Lib.splitK
      rw [hi, if_neg (by decide)]
      simp only [splitC, if_true, Int.toNat_zero, Nat.zero_add, List.take_zero, List.length_cons, List.length_nil, List.drop_succ_cons, List.drop_zero]
      rw [ih]
    · rw [List.count_cons_of_ne (by simpa using h), splitK_head h, ih]
      simp only [splitC, if_neg h]
theorem splitC_len (c : UInt8) : ∀ l, (splitC c l).length ≤ l.length + 1
  | [] => by simp [splitC]
  | x :: l => by
    have := splitC_len c l
    simp only [splitC]
    split
    · simp; omega
    · cases h : splitC c l <;> simp [consHead, h] at *; omega
end Go.Abs

/- The abstract interpreter: data, values, compiled code, the compiler, the evaluator. No theorem about the model here. -/
namespace Go.Abs

/-- DATA: pointer-free values. 'nils': the nil slice, known as such. 'any': one cell of which nothing is known. -/
inductive DV where
  | bool (b : Bool)
  | int (k : IntKind) (n : Int)
  | flt (k : FloatKind) (b : Nat)
  | cpx (k : FloatKind) (re im : Nat)
  | str (l : List UInt8)
  | nils (sz : Nat)
  | slice (sz : Nat) (es : List DV)
  | iface (t : TypeId) (v : DV)
  | nili
  | nilp
  | agg (cs : List DV)
  | tup (vs : List DV)
  | any
  deriving Repr, Inhabited

def DV.cells : DV → List DV
  | .agg cs => cs
  | x => [x]

/-- ABSTRACT VALUES: data; a slice of the call's own that may be appended to (token t, element type e); a pointer to cells that never change; a pointer into a box; a function value with captured boxes; anything. -/
inductive AV where
  | d (x : DV)
  | sl (t : Nat) (e : TypeId) (sz : Nat) (es : List DV)
  | ep (cs : List DV)
  | bp (b off : Nat)
  | fn (f : FuncId) (caps : List (Nat × Nat))
  | junk
  deriving Repr, Inhabited

inductive Box where
  | cells (cs : List AV)
  | bld (l : List UInt8)
  deriving Repr, Inhabited

inductive Opd where
  | t (i : Nat)
  | d (x : DV)
  | fn (f : FuncId)
  deriving Repr, Inhabited

inductive Cv where
  | int (k : IntKind)
  | str
  | sb
  | bs
  | i2f (k : FloatKind)
  | f2i (k : IntKind)
  deriving Repr, Inhabited

inductive BOp where
  | add | sub | mul | quo | rem | and | or | xor | andNot | shl | shr | eql | neq | lss | leq | gtr | geq
  deriving Repr, Inhabited, DecidableEq

def BOp.go : BOp → BinOp
  | .add => .add | .sub => .sub | .mul => .mul | .quo => .quo | .rem => .rem | .and => .and | .or => .or | .xor => .xor | .andNot => .andNot
  | .shl => .shl | .shr => .shr | .eql => .eql | .neq => .neq | .lss => .lss | .leq => .leq | .gtr => .gtr | .geq => .geq

def BOp.of : BinOp → Option BOp
  | .add => some .add | .sub => some .sub | .mul => some .mul | .quo => some .quo | .rem => some .rem | .and => some .and | .or => some .or | .xor => some .xor
  | .andNot => some .andNot | .shl => some .shl | .shr => some .shr | .eql => some .eql | .neq => some .neq | .lss => some .lss | .leq => some .leq
  | .gtr => some .gtr | .geq => some .geq

/-- One-operand and two-operand operations on data, of their own kinds: the parts of a complex number; a complex number of its parts; a comparison of an interface value with the literal nil. -/
inductive U1 where
  | re | im
  deriving Repr, Inhabited, DecidableEq
inductive U2 where
  | cpx | eqn | nen
  deriving Repr, Inhabited, DecidableEq

inductive Rhs where
  | mv (x : Opd)
  | pick (c a b : Opd)
  | alloc (zs : List DV)
  | allocB
  | box (n : Nat) (x : Opd)
  | build (zero : List DV) (parts : List (Nat × Nat × Opd))
  | mks (own : Option TypeId) (sz len : Nat) (zero : List DV) (parts : List (Nat × Opd))
  | ld (agg : Bool) (n : Nat) (a : Opd)
  | st (n : Nat) (a x : Opd)
  | nck (x : Opd)
  | bin (op : BOp) (x y : Opd)
  | binb (op : BOp) (x y : Opd)
  | not (x : Opd)
  | neg (x : Opd)
  | conv (c : Cv) (x : Opd)
  | sls (x : Opd) (lo hi : Option Opd)
  | slc (sz : Nat) (x : Opd) (lo hi : Option Opd)
  | fad (x : Opd) (off : Nat)
  | fld (agg : Bool) (off n : Nat) (x : Opd)
  | iad (sz : Nat) (x i : Opd)
  | iaa (len sz : Nat) (x i : Opd)
  | ixs (x i : Opd)
  | len (x : Opd)
  | lenS (x : Opd)
  | app (e : TypeId) (sz : Nat) (x y : Opd)
  | mn (x y : Opd)
  | mx (x y : Opd)
  | call (pure : Bool) (f : FuncId) (args : List Opd)
  | callv (pure : Bool) (x : Opd) (args : List Opd)
  | mkf (f : FuncId) (caps : List Opd)
  | ext (x : Opd) (i : Nat)
  | u1 (f : U1) (x : Opd)
  | u2 (f : U2) (x y : Opd)
  | mif (t : TypeId) (x : Opd)
  deriving Repr, Inhabited

structure Ins where
  dst : Option Nat
  g : Option (Nat × Bool)
  r : Rhs
  deriving Repr, Inhabited

inductive AC where
  | skip
  | seq (a b : AC)
  | reg (l : List Ins)
  | cond (c : Opd) (a b : AC)
  | block (id : Nat) (b : AC)
  | loop (b : AC)
  | exit (id : Nat)
  | ret
  deriving Repr, Inhabited

inductive RV where
  | t (i : Nat)
  | cell (i : Nat) (agg : Bool) (n : Nat)
  deriving Repr, Inhabited

structure AFun where
  nt : Nat
  res : List RV
  body : AC
  deriving Repr, Inhabited

/- THE COMPILER -/

def ofCell : Value → Option DV
  | .bool b => some (.bool b)
  | .int k n => some (.int k n)
  | .float k b => some (.flt k b)
  | .complex k a b => some (.cpx k a b)
  | .string s => some (.str s.data.toList)
  | .pointer none => some .nilp
  | .slice none 0 0 => some (.nils 0)
  | .nilIface => some .nili
  | _ => none

def ofVal : Value → Option DV
  | .agg cs => (cs.toList.mapM ofCell).map .agg
  | v => ofCell v

def cOpd : Operand → Option Opd
  | .tmp t => some (.t t)
  | .const v => (ofVal v).map .d
  | .func f => some (.fn f)
  | .global _ => none

/-- An operand that need not be there. -/
def cOpdO : Option Operand → Option (Option Opd)
  | none => some none
  | some l => (cOpd l).map some

def isAggT (P : Program) (t : TypeId) : Bool :=
  match P.underlying t with
  | some (.struct _) => true
  | some (.array ..) => true
  | _ => false

def isNilOp : Operand → Bool
  | .const .nilIface => true
  | _ => false

/-- The type is there. -/
def tOk (P : Program) (t : TypeId) : Bool :=
  match P.underlying t with
  | some _ => true
  | none => false

def isBuilder (P : Program) (t : TypeId) : Bool :=
  t == 82 &&
  match P.info? t with
  | some i =>
    (match i.desc with | .named n _ => n == "strings.Builder" | _ => false) &&
    (match i.zero with | some (.agg cs) => (match cs.toList with | [.pointer none, .slice none 0 0] => true | _ => false) | _ => false)
  | none => false

def isU8 (P : Program) (t : TypeId) : Bool :=
  match P.underlying t with
  | some (.int .u8) => true
  | _ => false

def zeroD (P : Program) (t : TypeId) : Option DV :=
  match P.info? t with
  | some i => i.zero.bind ofVal
  | none => none

/-- A type of cells: its zero value is known, of as many cells as the type says. -/
def zeroCs (P : Program) (t : TypeId) : Option (List DV) :=
  match zeroD P t with
  | some z => if z.cells.length = P.cellsOf t then some z.cells else none
  | none => none

def ownsDst (own : List Nat) : Option Nat → Bool
  | some d => own.contains d
  | none => false

/-- 'own': the temporaries that stand as an append's first operand. 'pu': a call must be pure. -/
def cOp (P : Program) (own : List Nat) (pu : Bool) (o : Oper) : Option Rhs :=
  match o.op with
  | .move x | .assign x => (cOpd x).map .mv
  | .pick c a b => do pure (.pick (← cOpd c) (← cOpd a) (← cOpd b))
  | .alloc e => if isBuilder P e then some .allocB else (zeroCs P e).map .alloc
  | .box e x => if isBuilder P e then none else if P.cellsOf e = 0 then none else do pure (.box (P.cellsOf e) (← cOpd x))
  | .build t parts => do
    let z ← zeroCs P t
    match P.underlying t with
    | some (.struct fields) => do
      let ps ← parts.toList.mapM fun (i, x) => do
        let f ← fields[i]?
        pure (f.offset, P.cellsOf f.type, ← cOpd x)
      if fields.all (fun f => tOk P f.type) then some (.build z ps) else none
    | _ => none
  | .buildSlice t len parts =>
    match P.underlying t with
    | some (.slice e) => do
      let z ← zeroCs P e
      let ps ← parts.toList.mapM fun (i, x) => do pure (i, ← cOpd x)
      if len * P.cellsOf e ≤ 2 ^ 20 ∧ 0 < P.cellsOf e then some (.mks (if ownsDst own o.dst then some e else none) (P.cellsOf e) len z ps) else none
    | _ => none
  | .load t a => if tOk P t && (isAggT P t || P.cellsOf t == 1) then (cOpd a).map (.ld (isAggT P t) (P.cellsOf t)) else none
  | .store t a x => if tOk P t then do pure (.st (P.cellsOf t) (← cOpd a) (← cOpd x)) else none
  | .nilCheck x => (cOpd x).map .nck
  | .binOp op t x y _ => do
    let op ← BOp.of op
    match P.underlying t with
    | some (.int _) => do pure (.bin op (← cOpd x) (← cOpd y))
    | some .string => do pure (.bin op (← cOpd x) (← cOpd y))
    | some .bool => do pure (.binb op (← cOpd x) (← cOpd y))
    | some (.float _) => do pure (.bin op (← cOpd x) (← cOpd y))
    | some (.interface _) =>
      if isNilOp x || isNilOp y then
        match op with
        | .eql => do pure (.u2 .eqn (← cOpd x) (← cOpd y))
        | .neq => do pure (.u2 .nen (← cOpd x) (← cOpd y))
        | _ => none
      else none
    | _ => none
  | .unOp op _ x =>
    match op with
    | .not => (cOpd x).map .not
    | .neg => (cOpd x).map .neg
    | _ => none
  | .convert s d x =>
    match P.underlying s, P.underlying d with
    | some (.int _), some (.int k) => (cOpd x).map (.conv (.int k))
    | some (.int _), some (.float k) => (cOpd x).map (.conv (.i2f k))
    | some (.float _), some (.int k) => (cOpd x).map (.conv (.f2i k))
    | some .string, some .string => (cOpd x).map (.conv .str)
    | some .string, some (.slice e) => if isU8 P e && tOk P e then (cOpd x).map (.conv .sb) else none
    | some (.slice e), some .string => if isU8 P e then (cOpd x).map (.conv .bs) else none
    | _, _ => none
  | .slice t x lo hi none => do
    let x ← cOpd x
    let lo ← cOpdO lo
    let hi ← cOpdO hi
    match P.underlying t with
    | some .string => some (.sls x lo hi)
    | some (.slice e) => if tOk P e ∧ 0 < P.cellsOf e then some (.slc (P.cellsOf e) x lo hi) else none
    | _ => none
  | .fieldAddr s x f =>
    match P.underlying s with
    | some (.struct fields) => do
      let f ← fields[f]?
      if tOk P f.type ∧ 0 < P.cellsOf f.type then (cOpd x).map (.fad · f.offset) else none
    | _ => none
  | .field s x f =>
    match P.underlying s with
    | some (.struct fields) => do
      let f ← fields[f]?
      if tOk P f.type ∧ 0 < P.cellsOf f.type then (cOpd x).map (.fld (isAggT P f.type) f.offset (P.cellsOf f.type)) else none
    | _ => none
  | .indexAddr t x i =>
    match P.underlying t with
    | some (.slice e) => if tOk P e ∧ 0 < P.cellsOf e then do pure (.iad (P.cellsOf e) (← cOpd x) (← cOpd i)) else none
    | some (.array n e) => if tOk P e ∧ 0 < P.cellsOf e then do pure (.iaa n (P.cellsOf e) (← cOpd x) (← cOpd i)) else none
    | _ => none
  | .index t x i =>
    match P.underlying t with
    | some .string => do pure (.ixs (← cOpd x) (← cOpd i))
    | _ => none
  | .extract x i => (cOpd x).map (.ext · i)
  | .makeInterface t x =>
    match P.underlying t with
    | some (.interface _) => none
    | none => none
    | _ => (cOpd x).map (.mif t)
  | .makeFunc (.func f) first captured => if first.size = 0 then do pure (.mkf f (← captured.toList.mapM cOpd)) else none
  | .call c =>
    match c.callee with
    | .value (.func f) => do pure (.call pu f (← c.args.toList.mapM cOpd))
    | .value (.tmp t) => do pure (.callv pu (.t t) (← c.args.toList.mapM cOpd))
    | .builtin .len =>
      match c.argTypes.toList, c.args.toList with
      | [t], [x] =>
        match P.underlying t with
        | some .string => (cOpd x).map .lenS
        | some (.slice _) => (cOpd x).map .len
        | _ => none
      | _, _ => none
    | .builtin .append =>
      match c.argTypes.toList, c.args.toList with
      | [t, t'], [x, y] =>
        match P.underlying t with
        | some (.slice e) => do
          let _ ← zeroCs P e
          if t' = t ∧ 0 < P.cellsOf e ∧ P.bytesOf e ≤ 1024 then pure (.app e (P.cellsOf e) (← cOpd x) (← cOpd y)) else none
        | _ => none
      | _, _ => none
    | .builtin .real => match c.args.toList with | [x] => (cOpd x).map (.u1 .re) | _ => none
    | .builtin .imag => match c.args.toList with | [x] => (cOpd x).map (.u1 .im) | _ => none
    | .builtin .complex => match c.args.toList with | [x, y] => do pure (.u2 .cpx (← cOpd x) (← cOpd y)) | _ => none
    | .builtin .min => match c.args.toList with | [x, y] => do pure (.mn (← cOpd x) (← cOpd y)) | _ => none
    | .builtin .max => match c.args.toList with | [x, y] => do pure (.mx (← cOpd x) (← cOpd y)) | _ => none
    | _ => none
  | _ => none

def cGuard (ops : Array Oper) : Option (Nat × Bool) → Option (Option (Nat × Bool))
  | none => some none
  | some (j, want) => match (ops[j]?).bind (·.dst) with | some d => some (some (d, want)) | none => none

def Opd.reads : Opd → List Nat
  | .t i => [i]
  | _ => []

def Rhs.opds : Rhs → List Opd
  | .u1 _ x | .mv x | .box _ x | .nck x | .not x | .neg x | .conv _ x | .fad x _ | .fld _ _ _ x | .len x | .lenS x | .ext x _ | .mif _ x | .ld _ _ x => [x]
  | .pick c a b => [c, a, b]
  | .alloc _ | .allocB => []
  | .build _ ps => ps.map (·.2.2)
  | .mks _ _ _ _ ps => ps.map (·.2)
  | .st _ a x => [a, x]
  | .u2 _ x y => [x, y]
  | .bin _ x y | .binb _ x y | .iad _ x y | .iaa _ _ x y | .ixs x y | .app _ _ x y | .mn x y | .mx x y => [x, y]
  | .sls x lo hi | .slc _ x lo hi => x :: (lo.toList ++ hi.toList)
  | .call _ _ l => l
  | .callv _ x l => x :: l
  | .mkf _ l => l

def Rhs.reads (r : Rhs) : List Nat := r.opds.flatMap Opd.reads
def Ins.reads (i : Ins) : List Nat := i.r.reads ++ (match i.g with | some (j, _) => [j] | none => [])

/-- Changes the boxes' list (a new box). -/
def Rhs.isA : Rhs → Bool
  | .alloc _ | .allocB | .box .. => true
  | _ => false
/-- Changes the tokens. -/
def Rhs.isT : Rhs → Bool
  | .app .. => true
  | .mks (some _) .. => true
  | _ => false
/-- May stand in the first part of a drawn region. -/
def Rhs.free : Rhs → Bool
  | .st .. => false
  | .call p _ _ => p
  | .callv p _ _ => p
  | _ => true

def full (b : Array Nat) (j : Nat) : Bool := b.getD j 0 % 2 ^ j == 2 ^ j - 1

/-- How many operations stand in the first part: all from there on come behind all before them. -/
def splitK (b : Array Nat) : Nat → Nat
  | 0 => 0
  | n + 1 => if full b n then splitK b n else n + 1

def edgesOk (ops : Array Oper) : Bool :=
  ops.zipIdx.all fun (o, i) => o.after.all fun e => !Region.binds .any e || decide (e.on < i)

/-- The first part is in single assignment, and what it reads of itself comes before. -/
def ssaOk (b : Array Nat) (l : List Ins) (k : Nat) : Bool :=
  (List.range k).all fun i =>
    match l[i]? with
    | none => false
    | some x =>
      x.r.free &&
      (List.range k).all fun j =>
        match l[j]? with
        | none => false
        | some y =>
          match y.dst with
          | none => true
          | some d => (i == j || x.dst != some d) && (!(x.reads.contains d) || (decide (j < i) && (b.getD i 0).testBit j))

/-- Those of the first part that turn the boxes' list stand in one chain; so do those that turn the tokens. -/
def chainOk (b : Array Nat) (l : List Ins) (k : Nat) (p : Rhs → Bool) : Bool :=
  (List.range k).all fun i => (List.range i).all fun j =>
    match l[i]?, l[j]? with
    | some x, some y => !(p x.r && p y.r) || (b.getD i 0).testBit j
    | _, _ => false

def drawOk (ops : Array Oper) (l : List Ins) : Bool :=
  let b := Region.before ops
  let k := splitK b ops.size
  edgesOk ops && ssaOk b l k && chainOk b l k Rhs.isA && chainOk b l k Rhs.isT

def cIns (P : Program) (own : List Nat) (ops : Array Oper) (pu : Bool) (o : Oper) : Option Ins :=
  match cGuard ops o.guard, cOp P own pu o with
  | some g, some r => some { dst := o.dst, g, r }
  | _, _ => none

def cList (P : Program) (own : List Nat) (ops : Array Oper) (k : Nat) : Nat → List Oper → Option (List Ins)
  | _, [] => some []
  | i, o :: rest =>
    match cIns P own ops (decide (i < k)) o, cList P own ops k (i + 1) rest with
    | some x, some xs => some (x :: xs)
    | _, _ => none

def cRegion (P : Program) (own : List Nat) (ops : Array Oper) (draw : Bool) : Option (List Ins) :=
  if draw then
    match cList P own ops (splitK (Region.before ops) ops.size) 0 ops.toList with
    | some l => if drawOk ops l then some l else none
    | none => none
  else cList P own ops 0 0 ops.toList

def cCode (P : Program) (own : List Nat) : Code → Option AC
  | .skip => some .skip
  | .region _ ops draw => (cRegion P own ops draw).map .reg
  | .seq a b => do pure (.seq (← cCode P own a) (← cCode P own b))
  | .cond c a b => do pure (.cond (← cOpd c) (← cCode P own a) (← cCode P own b))
  | .block id b => do pure (.block id (← cCode P own b))
  | .loop b => do pure (.loop (← cCode P own b))
  | .exit id => some (.exit id)
  | .ret => some .ret
  | _ => none

/-- The temporaries that an append takes as its first operand. -/
def ownOps : List Oper → List Nat
  | [] => []
  | o :: r =>
    (match o.op with
     | .call { callee := .builtin .append, args, .. } => (match args.toList with | .tmp t :: _ => [t] | _ => [])
     | _ => []) ++ ownOps r
def ownCode : Code → List Nat
  | .region _ ops _ => ownOps ops.toList
  | .seq a b | .cond _ a b => ownCode a ++ ownCode b
  | .block _ b | .loop b | .scope b => ownCode b
  | _ => []

def cRes (P : Program) : ResultVar → Option RV
  | .tmp t => some (.t t)
  | .cell a t => if tOk P t && (isAggT P t || P.cellsOf t == 1) then some (.cell a (isAggT P t) (P.cellsOf t)) else none

def cFun (P : Program) (fn : Func) : Option AFun :=
  match fn.body with
  | none => none
  | some c => do
    let body ← cCode P (ownCode c) c
    let res ← fn.results.toList.mapM (cRes P)
    pure { nt := fn.ntmps, res, body }

/- THE EVALUATOR -/

abbrev Env := List AV

def getE : Env → Nat → AV
  | [], _ => .junk
  | x :: _, 0 => x
  | _ :: l, i + 1 => getE l i
def setE : Env → Nat → AV → Env
  | [], _, _ => []
  | _ :: l, 0, v => v :: l
  | x :: l, i + 1, v => x :: setE l i v
def putE (e : Env) (dst : Option Nat) (v : AV) : Env :=
  match dst with
  | some d => setE e d v
  | none => e

def Opd.ev (e : Env) : Opd → AV
  | .t i => getE e i
  | .d x => .d x
  | .fn f => .fn f []

/-- What is data of a value. -/
def AV.dv : AV → Option DV
  | .d x => some x
  | .sl _ _ sz es => some (.slice sz es)
  | _ => none

/-- Data that is no tuple. -/
def AV.dvc : AV → Option DV
  | .d (.tup _) => none
  | x => x.dv

def canon1 : DV → DV
  | .nils _ => .slice 0 []
  | .slice _ [] => .slice 0 []
  | x => x
def canon2 : DV → DV
  | .agg cs => .agg (cs.map canon1)
  | x => canon1 x
def canon : DV → DV
  | .tup vs => .tup (vs.map canon2)
  | x => canon2 x

def dvs : List AV → Option (List DV)
  | [] => some []
  | x :: l => match x.dv, dvs l with | some y, some ys => some (y :: ys) | _, _ => none

def evL (e : Env) : List Opd → List AV
  | [] => []
  | x :: l => x.ev e :: evL e l

def maxLenN : Nat := 1073741824

/-- Two-operand operations on data. -/
def evBin : BOp → DV → DV → Option DV
  | .shl, .int k a, .int _ b => if b < 0 then none else some (.int k (k.wrap (a * 2 ^ (min b.toNat k.bits))))
  | .shr, .int k a, .int _ b => if b < 0 then none else some (.int k (a.fdiv (2 ^ (min b.toNat k.bits))))
  | .add, .int k a, .int k' b => if k = k' then some (.int k (k.wrap (a + b))) else none
  | .sub, .int k a, .int k' b => if k = k' then some (.int k (k.wrap (a - b))) else none
  | .mul, .int k a, .int k' b => if k = k' then some (.int k (k.wrap (a * b))) else none
  | .quo, .int k a, .int k' b => if k = k' ∧ b ≠ 0 then some (.int k (k.wrap (a.tdiv b))) else none
  | .rem, .int k a, .int k' b => if k = k' ∧ b ≠ 0 then some (.int k (a.tmod b)) else none
  | .and, .int k a, .int k' b => if k = k' then some (.int k (k.wrap (BitVec.ofInt k.bits a &&& BitVec.ofInt k.bits b).toNat)) else none
  | .or, .int k a, .int k' b => if k = k' then some (.int k (k.wrap (BitVec.ofInt k.bits a ||| BitVec.ofInt k.bits b).toNat)) else none
  | .eql, .int k a, .int k' b => if k = k' then some (.bool (a == b)) else none
  | .neq, .int k a, .int k' b => if k = k' then some (.bool (a != b)) else none
  | .lss, .int k a, .int k' b => if k = k' then some (.bool (a < b)) else none
  | .leq, .int k a, .int k' b => if k = k' then some (.bool (a ≤ b)) else none
  | .gtr, .int k a, .int k' b => if k = k' then some (.bool (a > b)) else none
  | .geq, .int k a, .int k' b => if k = k' then some (.bool (a ≥ b)) else none
  | .add, .str a, .str b => if a.length + b.length ≤ maxLenN then some (.str (a ++ b)) else none
  | .eql, .flt k a, .flt k' b => if k = k' then some (.bool (k.format.order a b == some .eq)) else none
  | .neq, .flt k a, .flt k' b => if k = k' then some (.bool (k.format.order a b != some .eq)) else none
  | .lss, .flt k a, .flt k' b => if k = k' then some (.bool (k.format.order a b == some .lt)) else none
  | .leq, .flt k a, .flt k' b => if k = k' then some (.bool (k.format.order a b == some .lt || k.format.order a b == some .eq)) else none
  | .gtr, .flt k a, .flt k' b => if k = k' then some (.bool (k.format.order a b == some .gt)) else none
  | .geq, .flt k a, .flt k' b => if k = k' then some (.bool (k.format.order a b == some .gt || k.format.order a b == some .eq)) else none
  | .eql, .str a, .str b => some (.bool (a == b))
  | .neq, .str a, .str b => some (.bool !(a == b))
  | .lss, .str a, .str b => some (.bool (Op.bytesLess a b))
  | .leq, .str a, .str b => some (.bool (Op.bytesLess a b || a == b))
  | .gtr, .str a, .str b => some (.bool !(Op.bytesLess a b || a == b))
  | .geq, .str a, .str b => some (.bool !(Op.bytesLess a b))
  | _, _, _ => none
def evBinB : BOp → DV → DV → Option DV
  | .eql, .bool a, .bool b => some (.bool (a == b))
  | .neq, .bool a, .bool b => some (.bool !(a == b))
  | _, _, _ => none

def evU1 : U1 → DV → Option DV
  | .re, .cpx k a _ => some (.flt k a)
  | .im, .cpx k _ b => some (.flt k b)
  | _, _ => none
def evU2 : U2 → DV → DV → Option DV
  | .cpx, .flt k a, .flt k' b => if k = k' then some (.cpx k a b) else none
  | .eqn, .nili, .nili => some (.bool true)
  | .eqn, .nili, .iface _ _ => some (.bool false)
  | .eqn, .iface _ _, .nili => some (.bool false)
  | .nen, .nili, .nili => some (.bool false)
  | .nen, .nili, .iface _ _ => some (.bool true)
  | .nen, .iface _ _, .nili => some (.bool true)
  | _, _, _ => none

def bytesD (l : List UInt8) : List DV := l.map fun b => .int .u8 b.toNat
/-- The bytes of data that are bytes. -/
def dBytes : List DV → Option (List UInt8)
  | [] => some []
  | .int .u8 n :: l => if 0 ≤ n ∧ n < 256 then (match dBytes l with | some r => some (UInt8.ofNat n.toNat :: r) | none => none) else none
  | _ => none

def evConv : Cv → DV → Option DV
  | .int k, .int _ n => some (.int k (k.wrap n))
  | .i2f k, .int _ n => some (.flt k (k.nearest n))
  | .f2i k, .flt s b =>
    match (s.decode b).toInt .zero with
    | some n => if k.min ≤ n ∧ n ≤ k.max then some (.int k n) else none
    | none => none
  | .str, .str l => some (.str l)
  | .sb, .str l => if l.length ≤ maxLenN then some (.slice 1 (bytesD l)) else none
  | .bs, .nils _ => some (.str [])
  | .bs, .slice sz es => if sz = 1 ∨ es = [] then (dBytes es).map .str else none
  | _, _ => none

/-- The cells of a part put into a row. -/
def setCells : List DV → Nat → List DV → List DV
  | cs, _, [] => cs
  | cs, o, x :: xs => setCells (cs.set o x) (o + 1) xs

def fillD (e : Env) : List DV → List (Nat × Nat × Opd) → Option (List DV)
  | cs, [] => some cs
  | cs, (off, n, x) :: ps =>
    match (x.ev e).dvc with
    | some v => if (canon2 v).cells.length = n ∧ off + n ≤ cs.length then fillD e (setCells cs off (canon2 v).cells) ps else none
    | none => none

/-- The elements of a literal: each place's element. -/
def fillE (e : Env) (sz : Nat) : List DV → List (Nat × Opd) → Option (List DV)
  | es, [] => some es
  | es, (i, x) :: ps =>
    match (x.ev e).dvc with
    | some v => if (canon2 v).cells.length = sz ∧ i < es.length then fillE e sz (es.set i (canon2 v)) ps else none
    | none => none

def aggOf (agg : Bool) (cs : List DV) : Option DV :=
  if agg then some (.agg cs) else match cs with | [x] => some x | _ => none

def zeroEl (sz : Nat) (zero : List DV) : DV := match zero with | [x] => if sz = 1 then canon1 x else .agg (zero.map canon1) | _ => .agg (zero.map canon1)

def asNat : AV → Option Nat
  | .d (.int .i64 n) => if 0 ≤ n then some n.toNat else none
  | _ => none
def asIx : AV → Option Nat
  | .d (.int _ n) => if 0 ≤ n then some n.toNat else none
  | _ => none

/-- A slice's elements, with their size in cells; of the nil slice any size. -/
def elemsOf (sz : Nat) : AV → Option (List DV)
  | .d (.nils _) => some []
  | .d (.slice s es) => if s = sz ∨ es = [] then some es else none
  | .sl _ _ s es => if s = sz then some es else none
  | _ => none

def bound (e : Env) (dflt : Nat) : Option Opd → Option Nat
  | none => some dflt
  | some x => asIx (x.ev e)

def optAV (o : Option AV) (bs : List Box) (tau : List Nat) : Option (AV × List Box × List Nat) :=
  match o with
  | some v => some (v, bs, tau)
  | none => none
def optDV (o : Option DV) (bs : List Box) (tau : List Nat) : Option (AV × List Box × List Nat) :=
  match o with
  | some v => some (.d v, bs, tau)
  | none => none

def evApp (e : TypeId) (sz : Nat) (tau : List Nat) (x : AV) (ys : List DV) : Option (AV × List Nat) :=
  match x with
  | .d (.nils _) => if ys.length ≤ maxLenN then some (.sl tau.length e sz ys, tau ++ [ys.length]) else none
  | .sl t e' sz' es =>
    if e' = e ∧ sz' = sz ∧ tau[t]? = some es.length ∧ es.length + ys.length ≤ maxLenN then
      some (.sl t e sz (es ++ ys), tau.set t (es.length + ys.length))
    else none
  | _ => none

abbrev Orc := FuncId → List AV → List Box → Option (DV × List Box)

/-- The place of a box among those that are handed on; it is put behind if it isn't there. -/
def idxB (b : Nat) : List Nat → Nat → Nat × Bool
  | [], i => (i, false)
  | x :: l, i => if x = b then (i, true) else idxB b l (i + 1)

/-- An argument as the callee sees it, and the boxes handed on. -/
def argV (ps : List Nat) : AV → Option (AV × List Nat)
  | .d x => some (.d (canon2 x), ps)
  | .sl _ _ sz es => some (.d (canon1 (.slice sz es)), ps)
  | .ep cs => some (.ep cs, ps)
  | .bp b off => match idxB b ps 0 with | (i, true) => some (.bp i off, ps) | (i, false) => some (.bp i off, ps ++ [b])
  | .fn f [] => some (.fn f [], ps)
  | _ => none
def argVs (ps : List Nat) : List AV → Option (List AV × List Nat)
  | [] => some ([], ps)
  | x :: l =>
    match argV ps x with
    | some (y, ps) => (match argVs ps l with | some (ys, ps) => some (y :: ys, ps) | none => none)
    | none => none
def boxOut : Box → Option Box
  | .cells cs => match dvs cs with | some l => some (.cells (l.map .d)) | none => none
  | .bld l => some (.bld l)
def boxesOut (bs : List Box) : List Nat → Option (List Box)
  | [] => some []
  | b :: l =>
    match (match bs[b]? with | some x => boxOut x | none => none), boxesOut bs l with
    | some x, some xs => some (x :: xs)
    | _, _ => none
def boxesIn (bs : List Box) : List Nat → List Box → List Box
  | b :: l, x :: xs => boxesIn (bs.set b x) l xs
  | _, _ => bs

def capAVs (caps : List (Nat × Nat)) : List AV := caps.map fun (b, o) => .bp b o

def evCall (O : Orc) (pu : Bool) (f : FuncId) (args : List AV) (bs : List Box) (tau : List Nat) : Option (AV × List Box × List Nat) :=
  match argVs [] args with
  | some (vs, []) => (match O f vs [] with | some (r, _) => some (.d r, bs, tau) | none => none)
  | some (vs, ps) =>
    if pu then none else
    match boxesOut bs ps with
    | some xs => (match O f vs xs with | some (r, ys) => some (.d r, boxesIn bs ps ys, tau) | none => none)
    | none => none
  | none => none

def evLd (agg : Bool) (n : Nat) (bs : List Box) : AV → Option AV
  | .ep cs => if n ≤ cs.length then (match aggOf agg (cs.take n) with | some x => some (.d x) | none => none) else none
  | .bp b off =>
    match bs[b]? with
    | some (.cells cs) =>
      if agg then (if off + n ≤ cs.length then (match dvs ((cs.drop off).take n) with | some l => some (.d (.agg l)) | none => none) else none)
      else if n = 1 then (match cs[off]? with | some v => some v | none => none) else none
    | _ => none
  | _ => none

def setAVs : List AV → Nat → List AV → List AV
  | cs, _, [] => cs
  | cs, o, x :: xs => setAVs (cs.set o x) (o + 1) xs

/-- What is stored: the cells of a value. -/
def stCells (n : Nat) : AV → Option (List AV)
  | .d (.tup _) => none
  | .d x => if x.cells.length = n then some (x.cells.map .d) else none
  | .sl t e sz es => if n = 1 then some [.sl t e sz es] else none
  | _ => none

def evSt (n : Nat) (bs : List Box) (a x : AV) : Option (List Box) :=
  match a with
  | .bp b off =>
    match bs[b]?, stCells n x with
    | some (.cells cs), some vs => if off + n ≤ cs.length then some (bs.set b (.cells (setAVs cs off vs))) else none
    | _, _ => none
  | _ => none

def pickV (b : Bool) (x y : AV) : AV := if b then x else y

def evMn (mx : Bool) : DV → DV → Option DV
  | .int .i64 x, .int .i64 y => some (.int .i64 (if mx then (if x < y then y else x) else (if y < x then y else x)))
  | _, _ => none

def evR (O : Orc) (e : Env) (bs : List Box) (tau : List Nat) : Rhs → Option (AV × List Box × List Nat)
  | .mv x => some (x.ev e, bs, tau)
  | .pick c a b => match c.ev e with | .d (.bool v) => some (pickV v (a.ev e) (b.ev e), bs, tau) | _ => none
  | .alloc zs => some (.bp bs.length 0, bs ++ [.cells (zs.map .d)], tau)
  | .allocB => some (.bp bs.length 0, bs ++ [.bld []], tau)
  | .box n x => match stCells n (x.ev e) with | some cs => some (.bp bs.length 0, bs ++ [.cells cs], tau) | none => none
  | .build z ps => match fillD e z ps with | some cs => some (.d (.agg cs), bs, tau) | none => none
  | .mks own sz n z ps =>
    match fillE e sz (List.replicate n (zeroEl sz z)) ps with
    | some es => (match own with | some t => some (.sl tau.length t sz es, bs, tau ++ [n]) | none => some (.d (.slice sz es), bs, tau))
    | none => none
  | .ld agg n a => optAV (evLd agg n bs (a.ev e)) bs tau
  | .st n a x => match evSt n bs (a.ev e) (x.ev e) with | some bs' => some (.junk, bs', tau) | none => none
  | .nck x => match x.ev e with | .bp b o => some (.bp b o, bs, tau) | .ep cs => some (.ep cs, bs, tau) | .fn f c => some (.fn f c, bs, tau) | _ => none
  | .bin op x y => match (x.ev e), (y.ev e) with | .d a, .d b => optDV (evBin op a b) bs tau | _, _ => none
  | .binb op x y => match (x.ev e), (y.ev e) with | .d a, .d b => optDV (evBinB op a b) bs tau | _, _ => none
  | .not x => match x.ev e with | .d (.bool b) => some (.d (.bool !b), bs, tau) | _ => none
  | .neg x => match x.ev e with | .d (.int k n) => some (.d (.int k (k.wrap (0 - n))), bs, tau) | _ => none
  | .conv c x => match (x.ev e).dv with | some v => optDV (evConv c v) bs tau | _ => none
  | .sls x lo hi =>
    match x.ev e with
    | .d (.str l) =>
      match bound e 0 lo, bound e l.length hi with
      | some i, some j => if i ≤ j ∧ j ≤ l.length then some (.d (.str ((l.take j).drop i)), bs, tau) else none
      | _, _ => none
    | _ => none
  | .slc sz x lo hi =>
    match elemsOf sz (x.ev e) with
    | some es =>
      match bound e 0 lo, bound e es.length hi with
      | some i, some j => if i ≤ j ∧ j ≤ es.length then some (.d (.slice sz ((es.take j).drop i)), bs, tau) else none
      | _, _ => none
    | none => none
  | .fad x off => match x.ev e with | .ep cs => some (.ep (cs.drop off), bs, tau) | .bp b o => some (.bp b (o + off), bs, tau) | _ => none
  | .fld agg off n x =>
    match x.ev e with
    | .d (.agg cs) => if off + n ≤ cs.length then optDV (aggOf agg ((cs.drop off).take n)) bs tau else none
    | _ => none
  | .iad sz x i =>
    match elemsOf sz (x.ev e), asIx (i.ev e) with
    | some es, some k => (match es[k]? with | some v => some (.ep v.cells, bs, tau) | none => none)
    | _, _ => none
  | .iaa n sz x i =>
    match x.ev e, asIx (i.ev e) with
    | .bp b o, some k => if k < n then some (.bp b (o + k * sz), bs, tau) else none
    | _, _ => none
  | .ixs x i =>
    match x.ev e, asIx (i.ev e) with
    | .d (.str l), some k => (match l[k]? with | some c => some (.d (.int .u8 c.toNat), bs, tau) | none => none)
    | _, _ => none
  | .lenS x => match x.ev e with | .d (.str l) => some (.d (.int .i64 l.length), bs, tau) | _ => none
  | .len x =>
    match x.ev e with
    | .d (.nils _) => some (.d (.int .i64 0), bs, tau)
    | .d (.slice _ es) => some (.d (.int .i64 es.length), bs, tau)
    | .sl _ _ _ es => some (.d (.int .i64 es.length), bs, tau)
    | _ => none
  | .app t sz x y =>
    match elemsOf sz (y.ev e) with
    | some ys => (match evApp t sz tau (x.ev e) ys with | some (v, tau) => some (v, bs, tau) | none => none)
    | none => none
  | .mn x y => match x.ev e, y.ev e with | .d a, .d b => optDV (evMn false a b) bs tau | _, _ => none
  | .mx x y => match x.ev e, y.ev e with | .d a, .d b => optDV (evMn true a b) bs tau | _, _ => none
  | .call pu f l => evCall O pu f (evL e l) bs tau
  | .callv pu x l => match x.ev e with | .fn f caps => evCall O pu f (evL e l ++ capAVs caps) bs tau | _ => none
  | .mkf f caps => match evCaps (evL e caps) with | some l => some (.fn f l, bs, tau) | none => none
  | .ext x i => match x.ev e with | .d (.tup vs) => (match vs[i]? with | some v => some (.d v, bs, tau) | none => none) | _ => none
  | .u1 f x => match (x.ev e) with | .d a => optDV (evU1 f a) bs tau | _ => none
  | .u2 f x y => match (x.ev e), (y.ev e) with | .d a, .d b => optDV (evU2 f a b) bs tau | _, _ => none
  | .mif t x => match (x.ev e).dv with | some v => some (.d (.iface t (canon2 v)), bs, tau) | none => none
where
  evCaps : List AV → Option (List (Nat × Nat))
    | [] => some []
    | .bp b o :: l => match evCaps l with | some r => some ((b, o) :: r) | none => none
    | _ => none

/-- What stands where an operation was passed over. -/
abbrev und : AV := .d (.tup [])
/-- An instruction under its guard. -/
def evG (O : Orc) (e : Env) (bs : List Box) (tau : List Nat) (g : Option (Nat × Bool)) (r : Rhs) : Option (AV × List Box × List Nat) :=
  match g with
  | none => evR O e bs tau r
  | some (j, want) =>
    match getE e j with
    | .d (.bool b) => if b = want then evR O e bs tau r else some (und, bs, tau)
    | .d (.tup []) => some (und, bs, tau)
    | _ => none

abbrev St := Env × List Box × List Nat

def evIs (O : Orc) : List Ins → Env → List Box → List Nat → Option St
  | [], e, bs, tau => some (e, bs, tau)
  | i :: l, e, bs, tau =>
    match evG O e bs tau i.g i.r with
    | some (v, bs, tau) => evIs O l (putE e i.dst v) bs tau
    | none => none

inductive Ex where
  | nrm
  | ex (id : Nat)
  | rt
  deriving Repr, Inhabited

abbrev Res := Option (Ex × Env × List Box × List Nat)

def bindN (r : Res) (k : Env → List Box → List Nat → Res) : Res :=
  match r with
  | some (.nrm, e, bs, tau) => k e bs tau
  | some (x, e, bs, tau) => some (x, e, bs, tau)
  | none => none

def outBlock (id : Nat) (r : Res) : Res :=
  match r with
  | some (.ex id', e, bs, tau) => if id' = id then some (.nrm, e, bs, tau) else some (.ex id', e, bs, tau)
  | r => r

def clr (n : Nat) : AV → AV
  | .bp b o => if n ≤ b then .junk else .bp b o
  | .fn f caps => if caps.all (fun p => decide (p.1 < n)) then .fn f caps else .junk
  | x => x

def clrE (n : Nat) : Env → Env
  | [] => []
  | x :: l => clr n x :: clrE n l

def loopN (f : Env → List Box → List Nat → Res) : Nat → Env → List Box → List Nat → Res
  | 0, _, _, _ => none
  | n + 1, e, bs, tau => bindN (f e bs tau) fun e' bs' tau' => loopN f n (clrE bs.length e') (bs'.take bs.length) tau'

def den (O : Orc) (L : Nat) : AC → Env → List Box → List Nat → Res
  | .skip, e, bs, tau => some (.nrm, e, bs, tau)
  | .seq a b, e, bs, tau => bindN (den O L a e bs tau) fun e bs tau => den O L b e bs tau
  | .reg l, e, bs, tau => match evIs O l e bs tau with | some (e, bs, tau) => some (.nrm, e, bs, tau) | none => none
  | .cond c a b, e, bs, tau => match c.ev e with | .d (.bool v) => if v then den O L a e bs tau else den O L b e bs tau | _ => none
  | .block id b, e, bs, tau => outBlock id (den O L b e bs tau)
  | .loop b, e, bs, tau => loopN (den O L b) L e bs tau
  | .exit id, e, bs, tau => some (.ex id, e, bs, tau)
  | .ret, e, bs, tau => some (.rt, e, bs, tau)

def resV (e : Env) (bs : List Box) : RV → Option DV
  | .t i => (getE e i).dv
  | .cell i agg n => match evLd agg n bs (getE e i) with | some v => v.dv | none => none
def resVs (e : Env) (bs : List Box) : List RV → Option (List DV)
  | [] => some []
  | r :: l => match resV e bs r, resVs e bs l with | some x, some xs => some (x :: xs) | _, _ => none
def resOne : List DV → DV
  | [x] => canon x
  | l => canon (.tup l)

def finish (res : List RV) (n : Nat) (r : Res) : Option (DV × List Box) :=
  match r with
  | some (.ex _, _, _, _) => none
  | some (_, e, bs, _) =>
    match resVs e bs res, boxesOut bs (List.range n) with
    | some l, some xs => some (resOne l, xs)
    | _, _ => none
  | none => none

def entry (nt : Nat) (args : List AV) : Env := args ++ List.replicate (nt - args.length) .junk

/-- A table of functions whose contracts are proved by hand; a table of compiled functions. -/
structure Tab where
  prim : FuncId → Option (List AV → List Box → Option (DV × List Box))
  fns : FuncId → Option AFun

def runN (T : Tab) : Nat → Orc
  | 0 => fun _ _ _ => none
  | n + 1 => fun f args bs =>
    match T.prim f with
    | some p => p args bs
    | none =>
      match T.fns f with
      | some fn => finish fn.res bs.length (den (runN T n) n fn.body (entry fn.nt args) bs [])
      | none => none
end Go.Abs

/- The package's variables that a library function reads: what they hold, and that they never change. -/
namespace Go.Abs
open Go

mutual
/-- The cells of a table of integers. -/
def cellsD : DataW Unit → List Value
  | .lit (.int k n) => [.int k n]
  | .agg ps => cellsDs ps
  | _ => []
def cellsDs : List (DataW Unit) → List Value
  | [] => []
  | d :: l => cellsD d ++ cellsDs l
end
def globTabs : List (Nat × List Value) :=
  [(3, cellsD Go.Proofs.YtinebfdbacaahaaGreatDoor.Rows.laid_unicode_utf8_first), (4, cellsD Go.Proofs.YtinebfdbacaahaaGreatDoor.Rows.laid_unicode_utf8_acceptRanges),
   (5, cellsD Go.Proofs.YtinebfdbacaahaaGreatDoor.Rows.laid_internal_strconv_uint64pow10), (7, cellsD Go.Proofs.YtinebfdbacaahaaGreatDoor.Rows.laid_math_bits_deBruijn32tab),
   (8, cellsD Go.Proofs.YtinebfdbacaahaaGreatDoor.Rows.laid_math_bits_deBruijn64tab)]
/-- bytealg.MaxLen is some number; strconv.ErrSyntax and ErrRange are some errors; the tables hold what is laid. -/
structure GlobOK (m : Addr → Option Value) : Prop where
  maxLen : ∃ n, m ⟨0, 0, none⟩ = some (.int .i64 n)
  errSyntax : ∃ t p, m ⟨1, 0, none⟩ = some (.iface t p)
  errRange : ∃ t p, m ⟨2, 0, none⟩ = some (.iface t p)
  tabs : ∀ x ∈ globTabs, ∀ i v, x.2[i]? = some v → m ⟨x.1, i, none⟩ = some v
theorem GlobOK.mono {m m' : Addr → Option Value} (h : ∀ a v, m a = some v → m' a = some v) (k : GlobOK m) : GlobOK m' where
  maxLen := by obtain ⟨n, h0⟩ := k.maxLen; exact ⟨n, h _ _ h0⟩
  errSyntax := by obtain ⟨t, p, h0⟩ := k.errSyntax; exact ⟨t, p, h _ _ h0⟩
  errRange := by obtain ⟨t, p, h0⟩ := k.errRange; exact ⟨t, p, h _ _ h0⟩
  tabs x hx i v hv := h _ _ (k.tabs x hx i v hv)
end Go.Abs

/- The relation between abstract states and the model's: data, values, boxes, tokens, the world. -/
namespace Go.Abs
open Go

theorem addr_add_zero (a : Addr) : a.add 0 = a := by simp [Addr.add]
theorem addr_add_block (a : Addr) (n : Nat) : (a.add n).block = a.block := by unfold Addr.add; split <;> rfl
theorem addr_add_add (a : Addr) (i j : Nat) : (a.add i).add j = a.add (i + j) := by
  unfold Addr.add
  by_cases hi : i = 0 <;> by_cases hj : j = 0 <;> simp [hi, hj, Nat.add_assoc]
theorem addr_add_mk (g o n : Nat) : (⟨g, o, none⟩ : Addr).add n = ⟨g, o + n, none⟩ := by
  unfold Addr.add; split <;> simp_all

/- DATA -/
mutual
def DR (m : Addr → Option Value) : DV → Value → Prop
  | .bool b, v => v = .bool b
  | .int k n, v => v = .int k n
  | .flt k b, v => v = .float k b
  | .cpx k a b, v => v = .complex k a b
  | .str l, v => v = .string ⟨l.toArray⟩
  | .nils _, v => v = .slice none 0 0
  | .slice sz es, v => ∃ A c vs, v = .slice A es.length c ∧ es.length ≤ c ∧ DRe m sz es vs ∧ ∀ k u, vs[k]? = some u → ∃ a, A = some a ∧ m (a.add k) = some u
  | .iface t x, v => ∃ u, v = .iface t u ∧ DR m x u
  | .nili, v => v = .nilIface
  | .nilp, v => v = .pointer none
  | .agg cs, v => ∃ vs, v = .agg vs ∧ DRs m cs vs.toList
  | .tup ds, v => ∃ vs, v = .tuple vs ∧ DRt m ds vs.toList
  | .any, v => v.oneCell' = true
def DRs (m : Addr → Option Value) : List DV → List Value → Prop
  | [], vs => vs = []
  | c :: cs, vs => ∃ v r, vs = v :: r ∧ DR m c v ∧ v.oneCell' = true ∧ DRs m cs r
def DRt (m : Addr → Option Value) : List DV → List Value → Prop
  | [], vs => vs = []
  | c :: cs, vs => ∃ v r, vs = v :: r ∧ DR m c v ∧ DRt m cs r
def DRe (m : Addr → Option Value) (sz : Nat) : List DV → List Value → Prop
  | [], vs => vs = []
  | e :: es, vs => ∃ u r, vs = u.cells.toList ++ r ∧ u.cells.size = sz ∧ (∀ x ∈ u.cells.toList, x.oneCell' = true) ∧ DR m e u ∧ DRe m sz es r
end

def Ile (m m' : Addr → Option Value) : Prop := ∀ a v, m a = some v → m' a = some v
theorem Ile.refl (m : Addr → Option Value) : Ile m m := fun _ _ h => h
theorem Ile.trans {a b c : Addr → Option Value} (h : Ile a b) (k : Ile b c) : Ile a c := fun x v e => k x v (h x v e)

mutual
theorem DR.mono {m m' : Addr → Option Value} (h : Ile m m') : ∀ (x : DV) (v : Value), DR m x v → DR m' x v
  | .bool _, _, hx | .int _ _, _, hx | .flt _ _, _, hx | .cpx _ _ _, _, hx | .str _, _, hx | .nils _, _, hx | .nili, _, hx | .nilp, _, hx | .any, _, hx => by
    simpa only [DR] using hx
  | .slice sz es, v, hx => by
    simp only [DR] at hx ⊢
    obtain ⟨A, c, vs, h1, h2, h3, h4⟩ := hx
    exact ⟨A, c, vs, h1, h2, DRe.mono h sz es vs h3, fun k u hk => by obtain ⟨a, ha, hm⟩ := h4 k u hk; exact ⟨a, ha, h _ _ hm⟩⟩
  | .iface t x, v, hx => by
    simp only [DR] at hx ⊢
    obtain ⟨u, h1, h2⟩ := hx
    exact ⟨u, h1, DR.mono h x u h2⟩
  | .agg cs, v, hx => by
    simp only [DR] at hx ⊢
    obtain ⟨vs, h1, h2⟩ := hx
    exact ⟨vs, h1, DRs.mono h cs _ h2⟩
  | .tup ds, v, hx => by
    simp only [DR] at hx ⊢
    obtain ⟨vs, h1, h2⟩ := hx
    exact ⟨vs, h1, DRt.mono h ds _ h2⟩
theorem DRs.mono {m m' : Addr → Option Value} (h : Ile m m') : ∀ (cs : List DV) (vs : List Value), DRs m cs vs → DRs m' cs vs
  | [], vs, hx => by simpa only [DRs] using hx
  | c :: cs, vs, hx => by
    simp only [DRs] at hx ⊢
    obtain ⟨v, r, h1, h2, h3, h4⟩ := hx
    exact ⟨v, r, h1, DR.mono h c v h2, h3, DRs.mono h cs r h4⟩
theorem DRt.mono {m m' : Addr → Option Value} (h : Ile m m') : ∀ (cs : List DV) (vs : List Value), DRt m cs vs → DRt m' cs vs
  | [], vs, hx => by simpa only [DRt] using hx
  | c :: cs, vs, hx => by
    simp only [DRt] at hx ⊢
    obtain ⟨v, r, h1, h2, h4⟩ := hx
    exact ⟨v, r, h1, DR.mono h c v h2, DRt.mono h cs r h4⟩
theorem DRe.mono {m m' : Addr → Option Value} (h : Ile m m') (sz : Nat) : ∀ (cs : List DV) (vs : List Value), DRe m sz cs vs → DRe m' sz cs vs
  | [], vs, hx => by simpa only [DRe] using hx
  | c :: cs, vs, hx => by
    simp only [DRe] at hx ⊢
    obtain ⟨v, r, h1, h2, h3, h4, h5⟩ := hx
    exact ⟨v, r, h1, h2, h3, DR.mono h c v h4, DRe.mono h sz cs r h5⟩
end

/- LISTS OF CELLS, ELEMENTS -/
section
variable {m : Addr → Option Value}
theorem DRs.length : ∀ {cs : List DV} {vs : List Value}, DRs m cs vs → vs.length = cs.length
  | [], vs, h => by simp only [DRs] at h; simp [h]
  | c :: cs, vs, h => by
    simp only [DRs] at h
    obtain ⟨v, r, rfl, _, _, h4⟩ := h
    simp [DRs.length h4]
theorem DRs.one : ∀ {cs : List DV} {vs : List Value}, DRs m cs vs → ∀ v ∈ vs, v.oneCell' = true
  | [], vs, h => by simp only [DRs] at h; simp [h]
  | c :: cs, vs, h => by
    simp only [DRs] at h
    obtain ⟨v, r, rfl, _, h3, h4⟩ := h
    intro u hu
    rcases List.mem_cons.1 hu with rfl | hu
    · exact h3
    · exact DRs.one h4 u hu
theorem DRs.get : ∀ {cs : List DV} {vs : List Value} {i : Nat} {c : DV}, DRs m cs vs → cs[i]? = some c → ∃ v, vs[i]? = some v ∧ DR m c v ∧ v.oneCell' = true
  | [], vs, i, c, _, hi => by simp at hi
  | x :: cs, vs, 0, c, h, hi => by
    simp only [DRs] at h
    obtain ⟨v, r, rfl, h2, h3, h4⟩ := h
    simp at hi
    subst hi
    exact ⟨v, by simp, h2, h3⟩
  | x :: cs, vs, i + 1, c, h, hi => by
    simp only [DRs] at h
    obtain ⟨v, r, rfl, h2, h3, h4⟩ := h
    simp at hi
    obtain ⟨u, hu⟩ := DRs.get h4 hi
    exact ⟨u, by simpa using hu⟩
theorem DRs.take (n : Nat) : ∀ {cs : List DV} {vs : List Value}, DRs m cs vs → DRs m (cs.take n) (vs.take n) := by
  induction n with
  | zero => intro cs vs _; simp [DRs]
  | succ n ih =>
    intro cs vs h
    cases cs with
    | nil => simp only [DRs] at h; subst h; simp [DRs]
    | cons c cs =>
      simp only [DRs] at h
      obtain ⟨v, r, rfl, h2, h3, h4⟩ := h
      simp only [List.take_succ_cons, DRs]
      exact ⟨v, _, rfl, h2, h3, ih h4⟩
theorem DRs.drop (n : Nat) : ∀ {cs : List DV} {vs : List Value}, DRs m cs vs → DRs m (cs.drop n) (vs.drop n) := by
  induction n with
  | zero => intro cs vs h; simpa using h
  | succ n ih =>
    intro cs vs h
    cases cs with
    | nil => simp only [DRs] at h; subst h; simp [DRs]
    | cons c cs =>
      simp only [DRs] at h
      obtain ⟨v, r, rfl, h2, h3, h4⟩ := h
      simp only [List.drop_succ_cons]
      exact ih h4
theorem DRs.append : ∀ {cs ds : List DV} {vs us : List Value}, DRs m cs vs → DRs m ds us → DRs m (cs ++ ds) (vs ++ us)
  | [], ds, vs, us, h, k => by simp only [DRs] at h; subst h; simpa using k
  | c :: cs, ds, vs, us, h, k => by
    simp only [DRs] at h
    obtain ⟨v, r, rfl, h2, h3, h4⟩ := h
    simp only [List.cons_append, DRs]
    exact ⟨v, _, rfl, h2, h3, DRs.append h4 k⟩
theorem DRs.set : ∀ {cs : List DV} {vs : List Value} {i : Nat} {c : DV} {v : Value}, DRs m cs vs → DR m c v → v.oneCell' = true → DRs m (cs.set i c) (vs.set i v)
  | [], vs, i, c, v, h, _, _ => by simp only [DRs] at h; subst h; simp [DRs]
  | x :: cs, vs, 0, c, v, h, hc, hv => by
    simp only [DRs] at h
    obtain ⟨u, r, rfl, h2, h3, h4⟩ := h
    simp only [List.set_cons_zero, DRs]
    exact ⟨v, r, rfl, hc, hv, h4⟩
  | x :: cs, vs, i + 1, c, v, h, hc, hv => by
    simp only [DRs] at h
    obtain ⟨u, r, rfl, h2, h3, h4⟩ := h
    simp only [List.set_cons_succ, DRs]
    exact ⟨u, _, rfl, h2, h3, DRs.set h4 hc hv⟩

theorem DRt.get : ∀ {cs : List DV} {vs : List Value} {i : Nat} {c : DV}, DRt m cs vs → cs[i]? = some c → ∃ v, vs[i]? = some v ∧ DR m c v
  | [], vs, i, c, _, hi => by simp at hi
  | x :: cs, vs, 0, c, h, hi => by
    simp only [DRt] at h
    obtain ⟨v, r, rfl, h2, h4⟩ := h
    simp at hi
    subst hi
    exact ⟨v, by simp, h2⟩
  | x :: cs, vs, i + 1, c, h, hi => by
    simp only [DRt] at h
    obtain ⟨v, r, rfl, h2, h4⟩ := h
    simp at hi
    obtain ⟨u, hu⟩ := DRt.get h4 hi
    exact ⟨u, by simpa using hu⟩

theorem DRe.length {sz : Nat} : ∀ {es : List DV} {vs : List Value}, DRe m sz es vs → vs.length = es.length * sz
  | [], vs, h => by simp only [DRe] at h; simp [h]
  | c :: cs, vs, h => by
    simp only [DRe] at h
    obtain ⟨u, r, rfl, h2, _, _, h5⟩ := h
    have := DRe.length h5
    simp only [List.length_append, Array.length_toList, h2, this, List.length_cons, Nat.succ_mul]
    omega
theorem DRe.one {sz : Nat} : ∀ {es : List DV} {vs : List Value}, DRe m sz es vs → ∀ v ∈ vs, v.oneCell' = true
  | [], vs, h => by simp only [DRe] at h; simp [h]
  | c :: cs, vs, h => by
    simp only [DRe] at h
    obtain ⟨u, r, rfl, h2, h3, _, h5⟩ := h
    intro x hx
    rcases List.mem_append.1 hx with hx | hx
    · exact h3 x hx
    · exact DRe.one h5 x hx
theorem DRe.append {sz : Nat} : ∀ {cs ds : List DV} {vs us : List Value}, DRe m sz cs vs → DRe m sz ds us → DRe m sz (cs ++ ds) (vs ++ us)
  | [], ds, vs, us, h, k => by simp only [DRe] at h; subst h; simpa using k
  | c :: cs, ds, vs, us, h, k => by
    simp only [DRe] at h
    obtain ⟨u, r, rfl, h2, h3, h4, h5⟩ := h
    simp only [List.cons_append, DRe]
    exact ⟨u, r ++ us, by simp [List.append_assoc], h2, h3, h4, DRe.append h5 k⟩
theorem DRe.drop {sz : Nat} (n : Nat) : ∀ {es : List DV} {vs : List Value}, DRe m sz es vs → DRe m sz (es.drop n) (vs.drop (n * sz)) := by
  induction n with
  | zero => intro es vs h; simpa using h
  | succ n ih =>
    intro es vs h
    cases es with
    | nil => simp only [DRe] at h; subst h; simp [DRe]
    | cons c cs =>
      simp only [DRe] at h
      obtain ⟨u, r, rfl, h2, h3, h4, h5⟩ := h
      simp only [List.drop_succ_cons]
      have : (u.cells.toList ++ r).drop ((n + 1) * sz) = r.drop (n * sz) := by
        rw [Nat.succ_mul, Nat.add_comm, ← List.drop_drop, List.drop_left' (by simpa using h2)]
      rw [this]
      exact ih h5
theorem DRe.take {sz : Nat} (n : Nat) : ∀ {es : List DV} {vs : List Value}, DRe m sz es vs → DRe m sz (es.take n) (vs.take (n * sz)) := by
  induction n with
  | zero => intro es vs h; simp [DRe]
  | succ n ih =>
    intro es vs h
    cases es with
    | nil => simp only [DRe] at h; subst h; simp [DRe]
    | cons c cs =>
      simp only [DRe] at h
      obtain ⟨u, r, rfl, h2, h3, h4, h5⟩ := h
      simp only [List.take_succ_cons, DRe]
      refine ⟨u, r.take (n * sz), ?_, h2, h3, h4, ih h5⟩
      rw [Nat.succ_mul, Nat.add_comm, List.take_append, List.take_of_length_le (by simp [h2])]
      simp [h2]
theorem DRe.get {sz : Nat} : ∀ {es : List DV} {vs : List Value} {i : Nat} {c : DV}, DRe m sz es vs → es[i]? = some c →
    ∃ u, (vs.drop (i * sz)).take sz = u.cells.toList ∧ u.cells.size = sz ∧ (∀ x ∈ u.cells.toList, x.oneCell' = true) ∧ DR m c u
  | [], vs, i, c, _, hi => by simp at hi
  | x :: cs, vs, 0, c, h, hi => by
    simp only [DRe] at h
    obtain ⟨u, r, rfl, h2, h3, h4, h5⟩ := h
    simp at hi
    subst hi
    refine ⟨u, ?_, h2, h3, h4⟩
    simp only [Nat.zero_mul, List.drop_zero]
    exact List.take_left' (by simpa using h2)
  | x :: cs, vs, i + 1, c, h, hi => by
    simp only [DRe] at h
    obtain ⟨u, r, rfl, h2, h3, h4, h5⟩ := h
    simp at hi
    obtain ⟨y, hy⟩ := DRe.get h5 hi
    refine ⟨y, ?_, hy.2⟩
    have : (u.cells.toList ++ r).drop ((i + 1) * sz) = r.drop (i * sz) := by
      rw [Nat.succ_mul, Nat.add_comm, ← List.drop_drop, List.drop_left' (by simpa using h2)]
    rw [this]
    exact hy.1

/-- The cells of a value that data describes. -/
theorem DR.cells {x : DV} {v : Value} (h : DR m x v) (h1 : ∀ y ∈ v.cells.toList, y.oneCell' = true) : DRs m x.cells v.cells.toList := by
  cases x
  case agg cs =>
    simp only [DR] at h
    obtain ⟨vs, rfl, hs⟩ := h
    simpa [DV.cells, Value.cells] using hs
  all_goals
    have hv : v.cells = #[v] := by
      cases v <;> first | rfl | (simp [DR] at h; done) | skip
      all_goals simp [DR, Value.oneCell'] at h
    rw [hv] at h1 ⊢
    simp only [DV.cells, DRs]
    exact ⟨v, [], rfl, h, h1 v (by simp), rfl⟩
/-- One cell. -/
theorem DR.ofCell {x : DV} {v : Value} (h : DR m x v) (hc : ∀ cs, x ≠ .agg cs) : v.cells = #[v] := by
  cases x
  case agg cs => exact absurd rfl (hc cs)
  all_goals
    cases v <;> first | rfl | (simp [DR] at h; done) | skip
  all_goals simp [DR, Value.oneCell'] at h
end

theorem DR.any_of_one {m : Addr → Option Value} {v : Value} (h : v.oneCell' = true) : DR m .any v := by simpa [DR] using h

/- WHAT IS KNOWN OF MEMORY -/
inductive Owner where
  | box (b : Nat)
  | tok (t : Nat)
  | row (o : Obj)

structure Mem where
  imm : Addr → Option Value
  own : Nat → Option Owner
  box : Nat → Option Nat
  tokv : Nat → Nat → Option Value
  toke : Nat → Option (TypeId × Nat)

structure Mle (M M' : Mem) : Prop where
  imm : Ile M.imm M'.imm
  box : ∀ b g, M.box b = some g → M'.box b = some g
  tokv : ∀ t n v, M.tokv t n = some v → M'.tokv t n = some v
  toke : ∀ t e, M.toke t = some e → M'.toke t = some e
theorem Mle.refl (M : Mem) : Mle M M := ⟨Ile.refl _, fun _ _ h => h, fun _ _ _ h => h, fun _ _ h => h⟩
theorem Mle.trans {A B C : Mem} (h : Mle A B) (k : Mle B C) : Mle A C :=
  ⟨h.imm.trans k.imm, fun b g e => k.box b g (h.box b g e), fun t n v e => k.tokv t n v (h.tokv t n v e), fun t e x => k.toke t e (h.toke t e x)⟩

def CapsR (M : Mem) : List (Nat × Nat) → List Value → Prop
  | [], vs => vs = []
  | (b, o) :: l, vs => ∃ g r, vs = .pointer (some ⟨g, o, none⟩) :: r ∧ M.box b = some g ∧ CapsR M l r
theorem CapsR.mono {M M' : Mem} (h : Mle M M') : ∀ (l : List (Nat × Nat)) (vs : List Value), CapsR M l vs → CapsR M' l vs
  | [], vs, hx => hx
  | (b, o) :: l, vs, hx => by
    obtain ⟨g, r, h1, h2, h3⟩ := hx
    exact ⟨g, r, h1, h.box _ _ h2, CapsR.mono h l r h3⟩

def AR (M : Mem) : AV → Value → Prop
  | .d x, v => DR M.imm x v
  | .sl t e sz es, v => DR M.imm (.slice sz es) v ∧ M.tokv t es.length = some v ∧ M.toke t = some (e, sz)
  | .ep cs, v => ∃ a vs, v = .pointer (some a) ∧ DRs M.imm cs vs ∧ ∀ k u, vs[k]? = some u → M.imm (a.add k) = some u
  | .bp b off, v => ∃ g, M.box b = some g ∧ v = .pointer (some ⟨g, off, none⟩)
  | .fn f caps, v => ∃ cv : Array Value, v = .func (.func f) #[] cv ∧ CapsR M caps cv.toList
  | .junk, _ => True
theorem AR.mono {M M' : Mem} (h : Mle M M') {x : AV} {v : Value} (hx : AR M x v) : AR M' x v := by
  cases x with
  | d x => exact DR.mono h.imm x v hx
  | sl t e sz es => exact ⟨DR.mono h.imm _ v hx.1, h.tokv _ _ _ hx.2.1, h.toke _ _ hx.2.2⟩
  | ep cs =>
    obtain ⟨a, vs, h1, h2, h3⟩ := hx
    exact ⟨a, vs, h1, DRs.mono h.imm _ _ h2, fun k u e => h.imm _ _ (h3 k u e)⟩
  | bp b off =>
    obtain ⟨g, h1, h2⟩ := hx
    exact ⟨g, h.box _ _ h1, h2⟩
  | fn f caps =>
    obtain ⟨cv, h1, h2⟩ := hx
    exact ⟨cv, h1, CapsR.mono h _ _ h2⟩
  | junk => trivial
/-- Data of a value. -/
theorem AR.dv {M : Mem} {x : AV} {v : Value} {y : DV} (h : AR M x v) (hy : x.dv = some y) : DR M.imm y v := by
  cases x <;> simp [AV.dv] at hy
  case d x => subst hy; exact h
  case sl t e sz es => subst hy; exact h.1

/-- A box's cells. -/
def CR (M : Mem) : List AV → List Value → Prop
  | [], vs => vs = []
  | c :: cs, vs => ∃ v r, vs = v :: r ∧ AR M c v ∧ v.oneCell' = true ∧ CR M cs r
theorem CR.mono {M M' : Mem} (h : Mle M M') : ∀ {cs : List AV} {vs : List Value}, CR M cs vs → CR M' cs vs
  | [], vs, hx => hx
  | c :: cs, vs, hx => by
    obtain ⟨v, r, h1, h2, h3, h4⟩ := hx
    exact ⟨v, r, h1, h2.mono h, h3, CR.mono h h4⟩
theorem CR.length {M : Mem} : ∀ {cs : List AV} {vs : List Value}, CR M cs vs → vs.length = cs.length
  | [], vs, h => by simp only [CR] at h; simp [h]
  | c :: cs, vs, h => by
    obtain ⟨v, r, rfl, _, _, h4⟩ := h
    simp [CR.length h4]
theorem CR.get {M : Mem} : ∀ {cs : List AV} {vs : List Value} {i : Nat} {c : AV}, CR M cs vs → cs[i]? = some c → ∃ v, vs[i]? = some v ∧ AR M c v ∧ v.oneCell' = true
  | [], vs, i, c, _, hi => by simp at hi
  | x :: cs, vs, 0, c, h, hi => by
    obtain ⟨v, r, rfl, h2, h3, h4⟩ := h
    simp at hi
    subst hi
    exact ⟨v, by simp, h2, h3⟩
  | x :: cs, vs, i + 1, c, h, hi => by
    obtain ⟨v, r, rfl, h2, h3, h4⟩ := h
    simp at hi
    obtain ⟨u, hu⟩ := CR.get h4 hi
    exact ⟨u, by simpa using hu⟩
theorem CR.set {M : Mem} : ∀ {cs : List AV} {vs : List Value} {i : Nat} {c : AV} {v : Value}, CR M cs vs → AR M c v → v.oneCell' = true → CR M (cs.set i c) (vs.set i v)
  | [], vs, i, c, v, h, _, _ => by simp only [CR] at h; subst h; simp [CR]
  | x :: cs, vs, 0, c, v, h, hc, hv => by
    obtain ⟨u, r, rfl, h2, h3, h4⟩ := h
    simp only [List.set_cons_zero, CR]
    exact ⟨v, r, rfl, hc, hv, h4⟩
  | x :: cs, vs, i + 1, c, v, h, hc, hv => by
    obtain ⟨u, r, rfl, h2, h3, h4⟩ := h
    simp only [List.set_cons_succ, CR]
    exact ⟨u, _, rfl, h2, h3, CR.set h4 hc hv⟩
theorem CR.of_DRs {M : Mem} : ∀ {cs : List DV} {vs : List Value}, DRs M.imm cs vs → CR M (cs.map .d) vs
  | [], vs, h => by simp only [DRs] at h; subst h; simp [CR]
  | c :: cs, vs, h => by
    simp only [DRs] at h
    obtain ⟨v, r, rfl, h2, h3, h4⟩ := h
    exact ⟨v, r, rfl, h2, h3, CR.of_DRs h4⟩
theorem CR.drop {M : Mem} (n : Nat) : ∀ {cs : List AV} {vs : List Value}, CR M cs vs → CR M (cs.drop n) (vs.drop n) := by
  induction n with
  | zero => intro cs vs h; simpa using h
  | succ n ih =>
    intro cs vs h
    cases cs with
    | nil => simp only [CR] at h; subst h; simp [CR]
    | cons c cs =>
      obtain ⟨v, r, rfl, h2, h3, h4⟩ := h
      simp only [List.drop_succ_cons]
      exact ih h4
theorem CR.take {M : Mem} (n : Nat) : ∀ {cs : List AV} {vs : List Value}, CR M cs vs → CR M (cs.take n) (vs.take n) := by
  induction n with
  | zero => intro cs vs _; simp [CR]
  | succ n ih =>
    intro cs vs h
    cases cs with
    | nil => simp only [CR] at h; subst h; simp [CR]
    | cons c cs =>
      obtain ⟨v, r, rfl, h2, h3, h4⟩ := h
      simp only [List.take_succ_cons, CR]
      exact ⟨v, _, rfl, h2, h3, ih h4⟩
theorem CR.dvs {M : Mem} : ∀ {cs : List AV} {vs : List Value} {ds : List DV}, CR M cs vs → dvs cs = some ds → DRs M.imm ds vs
  | [], vs, ds, h, hd => by simp only [CR] at h; simp [Go.Abs.dvs] at hd; subst h; subst hd; simp [DRs]
  | c :: cs, vs, ds, h, hd => by
    obtain ⟨v, r, rfl, h2, h3, h4⟩ := h
    simp only [Go.Abs.dvs] at hd
    split at hd
    · rename_i y ys hy hys
      cases hd
      simp only [DRs]
      exact ⟨v, r, rfl, h2.dv hy, h3, CR.dvs h4 hys⟩
    · cases hd

/-- A Builder: its two cells; its bytes lie in a row of its own. -/
def BldR (M : Mem) (w : World) (b : Nat) (l : List UInt8) : Prop :=
  ∃ g va vb, M.box b = some g ∧ M.own g = some (.box b) ∧ w.heap[g]? = some (.cells #[va, vb] 82 (0, 0)) ∧
    ((va = .pointer none ∧ vb = .slice none 0 0 ∧ l = []) ∨
     (va = .pointer (some ⟨g, 0, none⟩) ∧ w.ownsRow 0 5 1 vb l.length (l.map fun c => Value.int .u8 c.toNat) ∧ (∀ r, vb.ownBlock = some r → M.own r = some (.box b) ∧ r ≠ g)))

def BoxR (M : Mem) (w : World) (b : Nat) : Box → Prop
  | .cells cs => ∃ g vs ty, M.box b = some g ∧ M.own g = some (.box b) ∧ w.heap[g]? = some (.cells vs ty (0, 0)) ∧ CR M cs vs.toList
  | .bld l => BldR M w b l

def TokR (M : Mem) (w : World) (t n : Nat) : Prop :=
  ∃ v e sz xs, M.tokv t n = some v ∧ M.toke t = some (e, sz) ∧ 0 < sz ∧ w.ownsRow 0 e sz v n xs ∧ (∀ g, v.ownBlock = some g → M.own g = some (.tok t)) ∧
    (∀ g off, v.ownBlock = some g → n * sz ≤ off → M.imm ⟨g, off, none⟩ = none)

structure WR (M : Mem) (bs : List Box) (tau : List Nat) (w : World) : Prop where
  imm : ∀ a v, M.imm a = some v → w.cell? a = some v
  immb : ∀ a v b, M.imm a = some v → M.own a.block ≠ some (.box b)
  box : ∀ b x, bs[b]? = some x → BoxR M w b x
  boxd : ∀ b g, M.box b = some g → b < bs.length
  tok : ∀ t n, tau[t]? = some n → TokR M w t n
  tokd : ∀ t n v, M.tokv t n = some v → ∃ k, tau[t]? = some k ∧ n ≤ k
  toked : ∀ t x, M.toke t = some x → t < tau.length
  row : ∀ g o, M.own g = some (.row o) → w.heap[g]? = some o
  lt : ∀ g o, M.own g = some o → g < w.heap.size
  ownb : ∀ g b, M.own g = some (.box b) → b < bs.length
  ownt : ∀ g t, M.own g = some (.tok t) → t < tau.length
  glob : GlobOK M.imm

/-- The streams, the tape and the system are as they were; no block has gone. -/
structure Ext (w w' : World) : Prop where
  os : w'.os = w.os
  tape : w'.tape = w.tape
  output : w'.output = w.output
  size : w.heap.size ≤ w'.heap.size
theorem Ext.refl (w : World) : Ext w w := ⟨rfl, rfl, rfl, Nat.le_refl _⟩
theorem Ext.trans {a b c : World} (h : Ext a b) (k : Ext b c) : Ext a c :=
  ⟨k.os.trans h.os, k.tape.trans h.tape, k.output.trans h.output, Nat.le_trans h.size k.size⟩

/-- One step of a run: what was known is known, what was put aside is as it was. -/
structure SR (M : Mem) (w : World) (M' : Mem) (w' : World) : Prop where
  le : Mle M M'
  row : ∀ g o, M.own g = some (.row o) → M'.own g = some (.row o)
  rowi : ∀ (a : Addr) v o, M.own a.block = some (.row o) → M'.imm a = some v → M.imm a = some v
  ext : Ext w w'
theorem SR.refl (M : Mem) (w : World) : SR M w M w := ⟨Mle.refl M, fun _ _ h => h, fun _ _ _ _ h => h, Ext.refl w⟩
theorem SR.trans {A B C : Mem} {a b c : World} (h : SR A a B b) (k : SR B b C c) : SR A a C c :=
  ⟨h.le.trans k.le, fun g o e => k.row g o (h.row g o e), fun a v o e f => h.rowi a v o e (k.rowi a v o (h.row _ _ e) f), h.ext.trans k.ext⟩

/- THE FRAME -/
theorem getE_nil (i : Nat) : getE [] i = .junk := by cases i <;> rfl
theorem getE_eq : ∀ (e : Env) (i : Nat), getE e i = e.getD i .junk
  | [], i => by cases i <;> rfl
  | x :: l, 0 => rfl
  | x :: l, i + 1 => by simp [getE, getE_eq l i]
theorem length_setE : ∀ (e : Env) (d : Nat) (v : AV), (setE e d v).length = e.length
  | [], _, _ => rfl
  | _ :: l, 0, _ => rfl
  | _ :: l, i + 1, v => by simp [setE, length_setE l i v]
theorem getE_setE : ∀ (e : Env) (d i : Nat) (v : AV), getE (setE e d v) i = if i = d ∧ d < e.length then v else getE e i
  | [], d, i, v => by simp [setE, getE_nil]
  | x :: l, 0, 0, v => by simp [setE, getE]
  | x :: l, 0, i + 1, v => by simp [setE, getE]
  | x :: l, d + 1, 0, v => by simp [setE, getE]
  | x :: l, d + 1, i + 1, v => by simp [setE, getE, getE_setE l d i v]

def EnvR (M : Mem) (e : Env) (tmps : Array Value) : Prop := e.length = tmps.size ∧ ∀ i, AR M (getE e i) (tmps.getD i undef)
theorem EnvR.mono {M M' : Mem} (h : Mle M M') {e : Env} {tmps : Array Value} (hx : EnvR M e tmps) : EnvR M' e tmps :=
  ⟨hx.1, fun i => (hx.2 i).mono h⟩
theorem EnvR.set {M : Mem} {e : Env} {tmps : Array Value} (h : EnvR M e tmps) {x : AV} {v : Value} (hx : AR M x v) (d : Nat) : EnvR M (setE e d x) (tmps.setIfInBounds d v) := by
  refine ⟨by rw [length_setE, h.1, Array.size_setIfInBounds], fun i => ?_⟩
  rw [getE_setE]
  have hi := h.2 i
  simp only [Array.getD_eq_getD_getElem?] at hi ⊢
  rw [Array.getElem?_setIfInBounds]
  by_cases hd : d = i
  · subst hd
    by_cases hl : d < tmps.size
    · simp [h.1, hl, hx]
    · have hnone : tmps[d]? = none := by simp; omega
      simp only [h.1, hl, and_false, if_false, hnone] at hi ⊢
      simpa using hi
  · have hd' : ¬ i = d := fun e => hd e.symm
    simp only [hd, hd', false_and, if_false]
    exact hi
theorem EnvR.put {M : Mem} {e : Env} {a : Act} (h : EnvR M e a.tmps) {x : AV} {v : Value} (hx : AR M x v) (dst : Option Nat) : EnvR M (putE e dst x) (a.put dst v).tmps := by
  cases dst with
  | none => exact h
  | some d => exact h.set hx d
end Go.Abs

/- How the relation is kept: new blocks, boxes, rows, stores; operands. -/
namespace Go.Abs
open Go

/- OPERANDS -/
theorem ofCell_DR {m : Addr → Option Value} {v : Value} {x : DV} (h : ofCell v = some x) : DR m x v ∧ v.oneCell' = true ∧ x.cells = [x] := by
  unfold ofCell at h
  split at h <;> first | (cases h; refine ⟨?_, rfl, rfl⟩; simp [DR]; done) | (cases h; exact ⟨by simp [DR], rfl, rfl⟩) | cases h
theorem ofCells_DRs {m : Addr → Option Value} : ∀ {vs : List Value} {xs : List DV}, vs.mapM ofCell = some xs → DRs m xs vs
  | [], xs, h => by simp at h; subst h; simp [DRs]
  | v :: vs, xs, h => by
    simp only [List.mapM_cons, Option.bind_eq_bind, Option.pure_def] at h
    cases hv : ofCell v with
    | none => simp [hv] at h
    | some x =>
      simp only [hv, Option.bind_some] at h
      cases hvs : vs.mapM ofCell with
      | none => simp [hvs] at h
      | some ys =>
        simp only [hvs, Option.bind_some, Option.some.injEq] at h
        subst h
        simp only [DRs]
        exact ⟨v, vs, rfl, (ofCell_DR hv).1, (ofCell_DR (m := m) hv).2.1, ofCells_DRs hvs⟩
theorem ofVal_DR {m : Addr → Option Value} {v : Value} {x : DV} (h : ofVal v = some x) : DR m x v ∧ DRs m x.cells v.cells.toList := by
  unfold ofVal at h
  split at h
  · rename_i cs
    cases hc : cs.toList.mapM ofCell with
    | none => simp [hc] at h
    | some xs =>
      simp only [hc, Option.map_some, Option.some.injEq] at h
      subst h
      have := ofCells_DRs (m := m) hc
      exact ⟨by simp only [DR]; exact ⟨cs, rfl, this⟩, by simpa [DV.cells, Value.cells] using this⟩
  · obtain ⟨h1, h2, h3⟩ := ofCell_DR (m := m) h
    refine ⟨h1, h1.cells ?_⟩
    have : v.cells = #[v] := by cases v <;> first | rfl | simp [Value.oneCell'] at h2
    rw [this]
    simpa using h2
theorem opd_sound {M : Mem} {e : Env} {a : Act} (he : EnvR M e a.tmps) {x : Operand} {y : Opd} (h : cOpd x = some y) : AR M (y.ev e) (a.eval x) := by
  cases x with
  | tmp t => cases h; exact he.2 t
  | const v =>
    simp only [cOpd, Option.map_eq_some_iff] at h
    obtain ⟨d, hd, rfl⟩ := h
    exact (ofVal_DR hd).1
  | global g => cases h
  | func f =>
    cases h
    exact ⟨#[], rfl, rfl⟩

/- NEW BLOCKS -/
def HeapSame (w w' : World) : Prop := ∀ (k : Nat) o, w.heap[k]? = some o → w'.heap[k]? = some o
theorem HeapSame.refl (w : World) : HeapSame w w := fun _ _ h => h
theorem HeapSame.trans {a b c : World} (h : HeapSame a b) (k : HeapSame b c) : HeapSame a c := fun i o e => k i o (h i o e)
theorem HeapSame.alloc (w : World) (o : Obj) : HeapSame w (w.alloc o) := fun k x h => by
  have hlt : k < w.heap.size := by
    rcases Nat.lt_or_ge k w.heap.size with h' | h'
    · exact h'
    · simp [Array.getElem?_eq_none h'] at h
  rw [show (w.alloc o).heap[k]? = w.heap[k]? from by show (w.heap.push o)[k]? = _; rw [Array.getElem?_push, if_neg (by omega)]]
  exact h
theorem heap_lt {w : World} {k : Nat} {o : Obj} (h : w.heap[k]? = some o) : k < w.heap.size := by
  rcases Nat.lt_or_ge k w.heap.size with h' | h'
  · exact h'
  · simp [Array.getElem?_eq_none h'] at h
theorem HeapSame.cell {w w' : World} (h : HeapSame w w') {a : Addr} {v : Value} (hv : w.cell? a = some v) : w'.cell? a = some v := by
  unfold World.cell? at hv ⊢
  split at hv
  · rename_i c t f hg
    rw [h _ _ hg]
    exact hv
  · cases hv
theorem cell_lt {w : World} {a : Addr} {v : Value} (h : w.cell? a = some v) : a.block < w.heap.size := by
  unfold World.cell? at h
  split at h
  · rename_i hg; exact heap_lt hg
  · cases h
theorem cell_mk {w : World} {g i : Nat} {vs : Array Value} {ty : TypeId} {fz : Nat × Nat} (h : w.heap[g]? = some (.cells vs ty fz)) : w.cell? ⟨g, i, none⟩ = vs[i]? := by
  simp [World.cell?, h]
theorem HeapSame.ownsRow {w w' : World} (h : HeapSame w w') {b : Nat} {e : TypeId} {sz : Nat} {v : Value} {n : Nat} {xs : List Value} (hr : w.ownsRow b e sz v n xs) : w'.ownsRow b e sz v n xs := by
  obtain ⟨h1, h2⟩ := hr
  refine ⟨h1, h2.imp id ?_⟩
  rintro ⟨g, cap, cur, e1, e2, e3, e4⟩
  exact ⟨g, cap, cur, e1, e2, h _ _ e3, e4⟩
theorem BldR.same {M M' : Mem} {w w' : World} (h : HeapSame w w') (hb : ∀ b g, M.box b = some g → M'.box b = some g) {b : Nat} (ho : ∀ g, M.own g = some (.box b) → M'.own g = some (.box b)) {l : List UInt8} (hx : BldR M w b l) : BldR M' w' b l := by
  obtain ⟨g, va, vb, h1, h2, h3, h4⟩ := hx
  refine ⟨g, va, vb, hb _ _ h1, ho _ h2, h _ _ h3, h4.imp id ?_⟩
  rintro ⟨e1, e2, e3⟩
  exact ⟨e1, h.ownsRow e2, fun r hr => ⟨ho _ (e3 r hr).1, (e3 r hr).2⟩⟩
theorem BoxR.same {M M' : Mem} {w w' : World} (h : HeapSame w w') (hm : Mle M M') {b : Nat} (ho : ∀ g, M.own g = some (.box b) → M'.own g = some (.box b)) {x : Box} (hx : BoxR M w b x) : BoxR M' w' b x := by
  cases x with
  | cells cs =>
    obtain ⟨g, vs, ty, h1, h2, h3, h4⟩ := hx
    exact ⟨g, vs, ty, hm.box _ _ h1, ho _ h2, h _ _ h3, h4.mono hm⟩
  | bld l => exact BldR.same h hm.box ho hx

/-- Nothing known has turned: the world may have grown. -/
theorem WR.same {M : Mem} {bs : List Box} {tau : List Nat} {w w' : World} (h : WR M bs tau w) (hs : HeapSame w w') (hz : w.heap.size ≤ w'.heap.size) : WR M bs tau w' where
  imm a v e := hs.cell (h.imm a v e)
  immb := h.immb
  box b x e := (h.box b x e).same hs (Mle.refl M) (fun _ h => h)
  boxd := h.boxd
  tok t n e := by
    obtain ⟨v, e', sz, xs, h1, h2, h3, h4, h5, h6⟩ := h.tok t n e
    exact ⟨v, e', sz, xs, h1, h2, h3, hs.ownsRow h4, h5, h6⟩
  tokd := h.tokd
  toked := h.toked
  row g o e := hs _ _ (h.row g o e)
  lt g o e := Nat.lt_of_lt_of_le (h.lt g o e) hz
  ownb := h.ownb
  glob := h.glob
  ownt := h.ownt

theorem WR.own_new {M : Mem} {bs : List Box} {tau : List Nat} {w : World} (h : WR M bs tau w) {g : Nat} (hg : w.heap.size ≤ g) : M.own g = none := by
  cases ho : M.own g with
  | none => rfl
  | some o => have := h.lt g o ho; omega
theorem WR.box_new {M : Mem} {bs : List Box} {tau : List Nat} {w : World} (h : WR M bs tau w) {b : Nat} (hb : bs.length ≤ b) : M.box b = none := by
  cases ho : M.box b with
  | none => rfl
  | some o => have := h.boxd b o ho; omega
theorem WR.imm_new {M : Mem} {bs : List Box} {tau : List Nat} {w : World} (h : WR M bs tau w) {a : Addr} (hg : w.heap.size ≤ a.block) : M.imm a = none := by
  cases ho : M.imm a with
  | none => rfl
  | some o => have := cell_lt (h.imm a o ho); omega

/-- A new box. -/
def Mem.addBox (M : Mem) (b g : Nat) : Mem :=
  { M with own := fun k => if k = g then some (.box b) else M.own k, box := fun k => if k = b then some g else M.box k }
theorem Mle.addBox {M : Mem} {b g : Nat} (hb : M.box b = none) : Mle M (M.addBox b g) where
  imm := Ile.refl _
  box b' g' e := by
    simp only [Mem.addBox]
    split
    · subst_vars; rw [hb] at e; cases e
    · exact e
  tokv _ _ _ e := e
  toke _ _ e := e
theorem WR.addBox {M : Mem} {bs : List Box} {tau : List Nat} {w w' : World} (h : WR M bs tau w) (hs : HeapSame w w') {g : Nat} (hg : w.heap.size ≤ g) (hg' : g < w'.heap.size) (hz : w.heap.size ≤ w'.heap.size)
    {x : Box} (hx : BoxR (M.addBox bs.length g) w' bs.length x) : WR (M.addBox bs.length g) (bs ++ [x]) tau w' := by
  have hb := h.box_new (b := bs.length) (Nat.le_refl _)
  have ho := h.own_new hg
  have hm : Mle M (M.addBox bs.length g) := Mle.addBox hb
  have hown : ∀ k o, M.own k = some o → (M.addBox bs.length g).own k = some o := by
    intro k o e
    simp only [Mem.addBox]
    split
    · subst_vars; rw [ho] at e; cases e
    · exact e
  have hown' : ∀ k o, (M.addBox bs.length g).own k = some o → k = g ∧ o = .box bs.length ∨ k ≠ g ∧ M.own k = some o := by
    intro k o e
    simp only [Mem.addBox] at e
    split at e
    · cases e; exact .inl ⟨by assumption, rfl⟩
    · exact .inr ⟨by assumption, e⟩
  have h' := h.same hs hz
  exact {
    imm := h'.imm
    immb := fun a v b e k => by
      rcases hown' _ _ k with ⟨k1, _⟩ | ⟨_, k2⟩
      · have e' : M.imm a = some v := e
        rw [h.imm_new (by omega)] at e'; cases e'
      · exact h.immb a v b e k2
    box := fun b y e => by
      rcases Nat.lt_trichotomy b bs.length with hlt | heq | hgt
      · rw [List.getElem?_append_left hlt] at e
        exact (h'.box b y e).same (HeapSame.refl _) hm (fun k e' => hown _ _ e')
      · subst heq
        simp at e
        subst e
        exact hx
      · rw [List.getElem?_eq_none (by simp; omega)] at e; cases e
    boxd := fun b k e => by
      simp only [Mem.addBox] at e
      split at e
      · simp; omega
      · have := h.boxd b k e; simp; omega
    tok := fun t n e => by
      obtain ⟨v, e', sz, xs, h1, h2, h3, h4, h5, h6⟩ := h'.tok t n e
      exact ⟨v, e', sz, xs, h1, h2, h3, h4, fun k hk => hown _ _ (h5 k hk), h6⟩
    tokd := h.tokd
    toked := h.toked
    row := fun k o e => by
      rcases hown' _ _ e with ⟨_, k1⟩ | ⟨_, k2⟩
      · cases k1
      · exact h'.row k o k2
    lt := fun k o e => by
      rcases hown' _ _ e with ⟨k1, _⟩ | ⟨_, k2⟩
      · omega
      · exact h'.lt k o k2
    ownb := fun k b e => by
      rcases hown' _ _ e with ⟨_, k1⟩ | ⟨_, k2⟩
      · cases k1; simp
      · have := h.ownb k b k2; simp; omega
    glob := h.glob
    ownt := fun k t e => by
      rcases hown' _ _ e with ⟨_, k1⟩ | ⟨_, k2⟩
      · cases k1
      · exact h.ownt k t k2 }
theorem SR.addBox {M : Mem} {bs : List Box} {tau : List Nat} {w w' : World} (h : WR M bs tau w) {g : Nat} (hg : w.heap.size ≤ g) (he : Ext w w') : SR M w (M.addBox bs.length g) w' where
  le := Mle.addBox (h.box_new (Nat.le_refl _))
  row k o e := by
    simp only [Mem.addBox]
    split
    · subst_vars; rw [h.own_new hg] at e; cases e
    · exact e
  rowi _ _ _ _ e := e
  ext := he

theorem Ext.alloc (w : World) (o : Obj) : Ext w (w.alloc o) := ⟨rfl, rfl, rfl, by simp⟩
theorem Ext.drew (w : World) : Ext w w.drew := ⟨rfl, rfl, rfl, Nat.le_refl _⟩

/-- A new row whose first cells never change. -/
def Mem.addImm (M : Mem) (g : Nat) (xs : List Value) : Mem :=
  { M with imm := fun a => if a.block = g ∧ a.spot = none then xs[a.off]? else M.imm a }
theorem WR.immNone {M : Mem} {bs : List Box} {tau : List Nat} {w : World} (h : WR M bs tau w) {g : Nat} (hg : w.heap.size ≤ g) : ∀ a : Addr, a.block = g → M.imm a = none := fun a e => h.imm_new (by omega)
theorem Mle.addImm {M : Mem} {g : Nat} {xs : List Value} (hn : ∀ a : Addr, a.block = g → M.imm a = none) : Mle M (M.addImm g xs) where
  imm a v e := by
    simp only [Mem.addImm]
    split
    · rename_i hc; rw [hn a hc.1] at e; cases e
    · exact e
  box _ _ e := e
  tokv _ _ _ e := e
  toke _ _ e := e
theorem addImm_get {M : Mem} {g : Nat} {xs : List Value} {k : Nat} {u : Value} (h : xs[k]? = some u) : (M.addImm g xs).imm ((⟨g, 0, none⟩ : Addr).add k) = some u := by
  rw [addr_add_mk]
  simpa [Mem.addImm] using h
theorem WR.addImm {M : Mem} {bs : List Box} {tau : List Nat} {w w' : World} (h : WR M bs tau w) (hs : HeapSame w w') {g : Nat} (hg : w.heap.size ≤ g) (hz : w.heap.size ≤ w'.heap.size)
    {xs : List Value} {cur : Array Value} {ty : TypeId} {fz : Nat × Nat} (hc : w'.heap[g]? = some (.cells cur ty fz)) (hx : ∀ (k : Nat) u, xs[k]? = some u → cur[k]? = some u) : WR (M.addImm g xs) bs tau w' := by
  have hm : Mle M (M.addImm g xs) := Mle.addImm (h.immNone hg)
  have h' := h.same hs hz
  exact {
    imm := fun a v e => by
      simp only [Mem.addImm] at e
      split at e
      · rename_i hc'
        obtain ⟨h1, h2⟩ := hc'
        have : a = ⟨g, a.off, none⟩ := by cases a; simp_all
        rw [this, cell_mk hc]
        exact hx _ _ e
      · exact h'.imm a v e
    immb := fun a v b e k => by
      simp only [Mem.addImm] at e
      split at e
      · rename_i hc'
        rw [show (M.addImm g xs).own = M.own from rfl, h.own_new (by omega)] at k; cases k
      · exact h.immb a v b e k
    box := fun b y e => (h'.box b y e).same (HeapSame.refl _) hm (fun _ h => h)
    boxd := h.boxd
    tok := fun t n e => by
      obtain ⟨v, e', sz, ys, h1, h2, h3, h4, h5, h6⟩ := h'.tok t n e
      refine ⟨v, e', sz, ys, h1, h2, h3, h4, h5, fun k off hk ho => ?_⟩
      simp only [Mem.addImm]
      have : k ≠ g := fun e => by subst e; have := h5 _ hk; rw [h.own_new hg] at this; cases this
      simp only [this, false_and, if_false]
      exact h6 k off hk ho
    tokd := h.tokd
    toked := h.toked
    row := h'.row
    lt := h'.lt
    ownb := h.ownb
    glob := h.glob.mono hm.imm
    ownt := h.ownt }
theorem SR.addImm {M : Mem} {bs : List Box} {tau : List Nat} {w w' : World} (h : WR M bs tau w) {g : Nat} (hg : w.heap.size ≤ g) (he : Ext w w') {xs : List Value} : SR M w (M.addImm g xs) w' :=
  ⟨Mle.addImm (h.immNone hg), fun _ _ e => e, fun a v o e f => by
    simp only [Mem.addImm] at f
    split at f
    · rename_i hc; rw [h.own_new (by omega)] at e; cases e
    · exact f, he⟩

/-- A new token over a row. -/
def Mem.addTok (M : Mem) (t : Nat) (g : Option Nat) (n : Nat) (v : Value) (e : TypeId) (sz : Nat) : Mem :=
  { M with own := fun k => if some k = g then some (.tok t) else M.own k
           tokv := fun t' n' => if t' = t ∧ n' = n then some v else M.tokv t' n'
           toke := fun t' => if t' = t then some (e, sz) else M.toke t' }
theorem WR.tokv_new {M : Mem} {bs : List Box} {tau : List Nat} {w : World} (h : WR M bs tau w) {t n : Nat} (ht : tau.length ≤ t) : M.tokv t n = none := by
  cases ho : M.tokv t n with
  | none => rfl
  | some o => obtain ⟨k, hk, _⟩ := h.tokd t n o ho; rw [List.getElem?_eq_none ht] at hk; cases hk
theorem WR.toke_new {M : Mem} {bs : List Box} {tau : List Nat} {w : World} (h : WR M bs tau w) {t : Nat} (ht : tau.length ≤ t) : M.toke t = none := by
  cases ho : M.toke t with
  | none => rfl
  | some o => have := h.toked t o ho; omega
theorem Mle.addTok {M : Mem} {bs : List Box} {tau : List Nat} {w : World} (h : WR M bs tau w) {g : Option Nat} {n : Nat} {v : Value} {e : TypeId} {sz : Nat} : Mle M (M.addTok tau.length g n v e sz) where
  imm := Ile.refl _
  box _ _ e := e
  tokv t' n' u k := by
    simp only [Mem.addTok]
    split
    · rename_i hc; rw [hc.1, h.tokv_new (Nat.le_refl _)] at k; cases k
    · exact k
  toke t' x k := by
    simp only [Mem.addTok]
    split
    · rename_i hc; rw [hc, h.toke_new (Nat.le_refl _)] at k; cases k
    · exact k
/-- The row g (owned by nobody; or no row: the nil slice) goes to a new token. -/
theorem WR.addTok {M : Mem} {bs : List Box} {tau : List Nat} {w : World} (h : WR M bs tau w) {g : Option Nat} (hg : ∀ k, g = some k → M.own k = none ∧ k < w.heap.size) {n : Nat} {v : Value} {e : TypeId} {sz : Nat} {xs : List Value}
    (hsz : 0 < sz) (hv : w.ownsRow 0 e sz v n xs) (hvg : v.ownBlock = g) (hi : ∀ k off, v.ownBlock = some k → n * sz ≤ off → M.imm ⟨k, off, none⟩ = none) :
    WR (M.addTok tau.length g n v e sz) bs (tau ++ [n]) w := by
  have hm : Mle M (M.addTok tau.length g n v e sz) := Mle.addTok h
  have hown : ∀ k o, M.own k = some o → (M.addTok tau.length g n v e sz).own k = some o := by
    intro k o e
    simp only [Mem.addTok]
    split
    · rename_i hc; rw [(hg k hc.symm).1] at e; cases e
    · exact e
  have hown' : ∀ k o, (M.addTok tau.length g n v e sz).own k = some o → some k = g ∧ o = .tok tau.length ∨ M.own k = some o := by
    intro k o e
    simp only [Mem.addTok] at e
    split at e
    · cases e; exact .inl ⟨by assumption, rfl⟩
    · exact .inr e
  exact {
    imm := h.imm
    immb := fun a u b k k' => by
      rcases hown' _ _ k' with ⟨_, k1⟩ | k2
      · cases k1
      · exact h.immb a u b k k2
    box := fun b y k => (h.box b y k).same (HeapSame.refl _) hm (fun _ h => hown _ _ h)
    boxd := h.boxd
    tok := fun t k et => by
      rcases Nat.lt_trichotomy t tau.length with hlt | heq | hgt
      · rw [List.getElem?_append_left hlt] at et
        obtain ⟨u, e', sz', ys, h1, h2, h3, h4, h5, h6⟩ := h.tok t k et
        exact ⟨u, e', sz', ys, hm.tokv _ _ _ h1, hm.toke _ _ h2, h3, h4, fun r hr => hown _ _ (h5 r hr), h6⟩
      · subst heq
        simp at et
        subst et
        refine ⟨v, e, sz, xs, by simp [Mem.addTok], by simp [Mem.addTok], hsz, hv, fun r hr => ?_, hi⟩
        simp [Mem.addTok, ← hvg, hr]
      · rw [List.getElem?_eq_none (by simp; omega)] at et; cases et
    tokd := fun t k u eu => by
      simp only [Mem.addTok] at eu
      split at eu
      · rename_i hc
        refine ⟨n, ?_, by omega⟩
        rw [hc.1]
        simp
      · obtain ⟨r, hr, hk⟩ := h.tokd t k u eu
        exact ⟨r, by rw [List.getElem?_append_left (by rcases Nat.lt_or_ge t tau.length with hl | hl; exact hl; rw [List.getElem?_eq_none hl] at hr; cases hr)]; exact hr, hk⟩
    toked := fun t x ex => by
      simp only [Mem.addTok] at ex
      split at ex
      · simp; omega
      · have := h.toked t x ex; simp; omega
    row := fun k o e => by
      rcases hown' _ _ e with ⟨_, k1⟩ | k2
      · cases k1
      · exact h.row k o k2
    lt := fun k o e => by
      rcases hown' _ _ e with ⟨k1, _⟩ | k2
      · exact (hg k k1.symm).2
      · exact h.lt k o k2
    ownb := fun k b e => by
      rcases hown' _ _ e with ⟨_, k1⟩ | k2
      · cases k1
      · exact h.ownb k b k2
    glob := h.glob
    ownt := fun k t e => by
      rcases hown' _ _ e with ⟨_, k1⟩ | k2
      · cases k1; simp
      · have := h.ownt k t k2; simp; omega }
theorem SR.addTok {M : Mem} {bs : List Box} {tau : List Nat} {w : World} (h : WR M bs tau w) {g : Option Nat} (hg : ∀ k, g = some k → M.own k = none ∧ k < w.heap.size) {n : Nat} {v : Value} {e : TypeId} {sz : Nat} :
    SR M w (M.addTok tau.length g n v e sz) w where
  le := Mle.addTok h
  row k o e := by
    simp only [Mem.addTok]
    split
    · rename_i hc; rw [(hg k hc.symm).1] at e; cases e
    · exact e
  rowi _ _ _ _ e := e
  ext := Ext.refl w
end Go.Abs

/- Stores into boxes; append onto a row of the call's own. -/
namespace Go.Abs
open Go

/- A STORE INTO A BOX -/
theorem setRow_ext (w : World) (g : Nat) (cs : Array Value) : Ext w (w.setRow g cs) := ⟨rfl, rfl, rfl, by simp [World.setRow]⟩
theorem BldR.other {M : Mem} {w w' : World} {b : Nat} {l : List UInt8} (hs : ∀ k o, w.heap[k]? = some o → M.own k = some (.box b) → w'.heap[k]? = some o) (hx : BldR M w b l) : BldR M w' b l := by
  obtain ⟨g, va, vb, h1, h2, h3, h4⟩ := hx
  refine ⟨g, va, vb, h1, h2, hs _ _ h3 h2, h4.imp id ?_⟩
  rintro ⟨e1, e2, e3⟩
  refine ⟨e1, ?_, e3⟩
  obtain ⟨e4, e5⟩ := e2
  refine ⟨e4, e5.imp id ?_⟩
  rintro ⟨r, cap, cur, f1, f2, f3, f4⟩
  exact ⟨r, cap, cur, f1, f2, hs _ _ f3 (e3 r (by rw [f1]; rfl)).1, f4⟩
theorem BoxR.other {M : Mem} {w w' : World} {b : Nat} {x : Box} (hs : ∀ k o, w.heap[k]? = some o → M.own k = some (.box b) → w'.heap[k]? = some o) (hx : BoxR M w b x) : BoxR M w' b x := by
  cases x with
  | cells cs =>
    obtain ⟨g, vs, ty, h1, h2, h3, h4⟩ := hx
    exact ⟨g, vs, ty, h1, h2, hs _ _ h3 h2, h4⟩
  | bld l => exact BldR.other hs hx
/-- Blocks of one box alone have turned. -/
theorem WR.turnBox {M : Mem} {bs : List Box} {tau : List Nat} {w w' : World} (h : WR M bs tau w) {b : Nat} (hs : ∀ k o, w.heap[k]? = some o → M.own k ≠ some (.box b) → w'.heap[k]? = some o) (hz : w.heap.size ≤ w'.heap.size)
    {x : Box} (hb : b < bs.length) (hx : BoxR M w' b x) : WR M (bs.set b x) tau w' where
  imm a v e := by
    have hc := h.imm a v e
    unfold World.cell? at hc ⊢
    split at hc
    · rename_i hg
      rw [hs _ _ hg (h.immb a v b e)]
      exact hc
    · cases hc
  immb := h.immb
  box b' y e := by
    rw [List.getElem?_set] at e
    split at e
    · rename_i hc
      subst hc
      injection e with e
      subst e
      exact hx
    · rename_i hne
      exact (h.box b' y e).other fun k o ho hk => hs k o ho (by rw [hk]; intro e; injection e with e; injection e with e; exact hne e.symm)
  boxd b' g e := by simpa using h.boxd b' g e
  tok t n e := by
    obtain ⟨v, e', sz, xs, h1, h2, h3, h4, h5, h6⟩ := h.tok t n e
    refine ⟨v, e', sz, xs, h1, h2, h3, ?_, h5, h6⟩
    obtain ⟨e4, e5⟩ := h4
    refine ⟨e4, e5.imp id ?_⟩
    rintro ⟨r, cap, cur, f1, f2, f3, f4⟩
    exact ⟨r, cap, cur, f1, f2, hs _ _ f3 (by rw [h5 r (by rw [f1]; rfl)]; intro e; cases e), f4⟩
  tokd := h.tokd
  toked := h.toked
  row g o e := hs _ _ (h.row g o e) (by rw [e]; intro e; cases e)
  lt g o e := Nat.lt_of_lt_of_le (h.lt g o e) hz
  ownb g b' e := by simpa using h.ownb g b' e
  glob := h.glob
  ownt := h.ownt

theorem setAVs_CR {M : Mem} : ∀ {xs : List AV} {us : List Value} {cs : List AV} {vs : List Value} {o : Nat}, CR M xs us → CR M cs vs → o + xs.length ≤ cs.length →
    CR M (setAVs cs o xs) (vs.take o ++ us ++ vs.drop (o + us.length))
  | [], us, cs, vs, o, hx, hc, _ => by
    simp only [CR] at hx
    subst hx
    simpa [setAVs] using hc
  | x :: xs, us, cs, vs, o, hx, hc, hl => by
    obtain ⟨u, r, rfl, h2, h3, h4⟩ := hx
    simp only [setAVs]
    simp only [List.length_cons] at hl
    have := setAVs_CR (o := o + 1) h4 (hc.set (i := o) h2 h3) (by simp; omega)
    have hlen : vs.length = cs.length := hc.length
    have e1 : (vs.set o u).take (o + 1) = vs.take o ++ [u] := by
      rw [List.take_set, List.take_add_one]
      have : vs[o]? = some (vs[o]'(by omega)) := List.getElem?_eq_getElem (by omega)
      rw [this]
      simp only [Option.toList_some]
      rw [List.set_append_right _ _ (by rw [List.length_take]; exact Nat.min_le_left _ _)]
      simp [Nat.min_eq_left (show o ≤ vs.length by omega)]
    have e2 : (vs.set o u).drop (o + 1 + r.length) = vs.drop (o + (r.length + 1)) := by
      rw [List.drop_set_of_lt (by omega)]
      congr 1
      omega
    rw [e1, e2] at this
    simpa using this

theorem stCells_CR {M : Mem} {n : Nat} {x : AV} {v : Value} {cs : List AV} (h : AR M x v) (hs : stCells n x = some cs) :
    CR M cs v.cells.toList ∧ cs.length = n := by
  cases x with
  | d x =>
    have hx : DR M.imm x v := h
    have key : ∀ (hn : x.cells.length = n), CR M (x.cells.map .d) v.cells.toList → (x.cells.map AV.d) = cs → CR M cs v.cells.toList ∧ cs.length = n := by
      intro hn hc he
      subst he
      exact ⟨hc, by simpa using hn⟩
    cases x
    case tup z => simp [stCells] at hs
    case agg ds =>
      simp only [stCells] at hs
      split at hs
      · rename_i hn
        cases hs
        simp only [DR] at hx
        obtain ⟨vs, rfl, hs⟩ := hx
        exact key hn (CR.of_DRs (by simpa [DV.cells, Value.cells] using hs)) rfl
      · cases hs
    all_goals
      simp only [stCells] at hs
      split at hs
      · rename_i hn
        cases hs
        refine key hn (CR.of_DRs (hx.cells ?_)) rfl
        rw [hx.ofCell (by intro cs e; cases e)]
        cases v <;> simp [Value.oneCell'] <;> simp [DR, Value.oneCell'] at hx
      · cases hs
  | sl t e sz es =>
    simp only [stCells] at hs
    split at hs
    · rename_i hn
      cases hs
      obtain ⟨A, c, vs, hv, _⟩ := (show DR M.imm (.slice sz es) v from h.1)
      subst hv
      exact ⟨⟨_, [], rfl, h, rfl, rfl⟩, by simp [hn]⟩
    · cases hs
  | _ => simp [stCells] at hs

/- APPEND -/
section
variable {P : Program} (w : World)
theorem run_append_zero (t ty e : TypeId) (i : TypeInfo) (ht : P.underlying t = some (.slice e)) (hi : P.info? e = some i) (B : Option Addr) (n cap : Nat) (hn : n ≤ cap) (A : Option Addr) (c : Nat) :
    (Builtin.append_ #[t, t] ty #[.slice B n cap, .slice A 0 c]).run P w = .ok (.slice B n cap) w := by
  cases A <;> cases B <;> simp [Builtin.append_, run_underlying ht, sizeOf, typeInfo, hi, Builtin.lenOf, hn, Builtin.firstCells, loadCells, loadCellsFrom, storeCells]
end

def Mem.bump (M : Mem) (t n' : Nat) (v' : Value) (g' : Nat) (xs' : List Value) : Mem :=
  { M with imm := fun a => if a.block = g' ∧ a.spot = none ∧ a.off < xs'.length then xs'[a.off]? else M.imm a
           own := fun k => if k = g' then some (.tok t) else match M.own k with | some (.tok t') => if t' = t then none else some (.tok t') | o => o
           tokv := fun t' m => if t' = t ∧ m = n' then some v' else M.tokv t' m }

theorem ownsRow_at {w : World} {e sz n : Nat} {v : Value} {xs : List Value} {g : Nat} (h : w.ownsRow 0 e sz v n xs) (hg : v.ownBlock = some g) {k : Nat} {u : Value} (hk : xs[k]? = some u) : w.cell? ⟨g, k, none⟩ = some u := by
  have := h.cells hg k u hk
  rwa [addr_add_mk, Nat.zero_add] at this

theorem Mle.bump {M : Mem} {bs : List Box} {tau : List Nat} {w w' : World} (h : WR M bs tau w) {t n n' : Nat} {v' : Value} {g' : Nat} {xs' : List Value} (ht : tau[t]? = some n) (hn : n < n')
    (himm : ∀ a u, M.imm a = some u → w'.cell? a = some u) (hrow : ∀ k u, xs'[k]? = some u → w'.cell? ⟨g', k, none⟩ = some u) : Mle M (M.bump t n' v' g' xs') where
  imm a u e := by
    simp only [Mem.bump]
    split
    · rename_i hc
      obtain ⟨h1, h2, h3⟩ := hc
      have h4 := himm a u e
      have h5 := hrow a.off _ (List.getElem?_eq_getElem h3)
      have : a = ⟨g', a.off, none⟩ := by cases a; simp_all
      rw [← this, h4] at h5
      rw [List.getElem?_eq_getElem h3]
      exact h5.symm
    · exact e
  box _ _ e := e
  tokv t' m u e := by
    simp only [Mem.bump]
    split
    · rename_i hc
      obtain ⟨k, hk, hm⟩ := h.tokd t' m u e
      rw [hc.1, ht] at hk
      cases hk
      omega
    · exact e
  toke _ _ e := e

/-- The token's row has grown: in place, or in a new block. -/
theorem WR.bump {M : Mem} {bs : List Box} {tau : List Nat} {w w' : World} (h : WR M bs tau w) {t n n' : Nat} {v' : Value} {g' : Nat} {xs' : List Value} {e sz : Nat} (ht : tau[t]? = some n) (hn : n < n')
    (hte : M.toke t = some (e, sz)) (hsz : 0 < sz) (hz : w.heap.size ≤ w'.heap.size)
    (hs : ∀ (k : Nat) o, w.heap[k]? = some o → M.own k ≠ some (.tok t) → w'.heap[k]? = some o)
    (himm : ∀ a u, M.imm a = some u → w'.cell? a = some u) (hrow : w'.ownsRow 0 e sz v' n' xs') (hg : v'.ownBlock = some g') (hown : M.own g' = some (.tok t) ∨ w.heap.size ≤ g') (hlt : g' < w'.heap.size)
    (hfree : ∀ off, n' * sz ≤ off → M.imm ⟨g', off, none⟩ = none) : WR (M.bump t n' v' g' xs') bs (tau.set t n') w' := by
  have hcell : ∀ k u, xs'[k]? = some u → w'.cell? ⟨g', k, none⟩ = some u := fun k u hk => ownsRow_at hrow hg hk
  have hm : Mle M (M.bump t n' v' g' xs') := Mle.bump h ht hn himm hcell
  have hlen : xs'.length = n' * sz := hrow.1
  have htl : t < tau.length := by
    rcases Nat.lt_or_ge t tau.length with hl | hl
    · exact hl
    · rw [List.getElem?_eq_none hl] at ht; cases ht
  have hg1 : ∀ o, M.own g' = some o → o = .tok t := by
    intro o ho
    rcases hown with h1 | h1
    · rw [h1] at ho; cases ho; rfl
    · rw [h.own_new h1] at ho; cases ho
  have hk1 : ∀ k o, M.own k = some o → o ≠ .tok t → (M.bump t n' v' g' xs').own k = some o := by
    intro k o ho hne
    simp only [Mem.bump]
    split
    · rename_i hc; subst hc; exact absurd (hg1 o ho) hne
    · rw [ho]
      cases o with
      | tok t' => simp only; rw [if_neg (fun e => hne (by rw [e]))]
      | _ => rfl
  have hk2 : ∀ k o, (M.bump t n' v' g' xs').own k = some o → k = g' ∧ o = .tok t ∨ M.own k = some o ∧ o ≠ .tok t := by
    intro k o ho
    simp only [Mem.bump] at ho
    split at ho
    · cases ho; exact .inl ⟨by assumption, rfl⟩
    · split at ho
      · rename_i t' h'
        split at ho
        · cases ho
        · rename_i hne
          cases ho
          exact .inr ⟨h', by intro e; injection e with e; exact hne e⟩
      · rename_i hno
        refine .inr ⟨ho, ?_⟩
        intro e
        exact hno t (by rw [ho, e])
  have hs' : ∀ (k : Nat) o b, w.heap[k]? = some o → M.own k = some (.box b) → w'.heap[k]? = some o := fun k o b ho hk => hs k o ho (by rw [hk]; intro e; cases e)
  exact {
    imm := fun a u ea => by
      simp only [Mem.bump] at ea
      split at ea
      · rename_i hc
        have : a = ⟨g', a.off, none⟩ := by cases a; simp_all
        rw [this]
        exact hcell _ _ ea
      · exact himm a u ea
    immb := fun a u b ea hb => by
      rcases hk2 _ _ hb with ⟨_, h1⟩ | ⟨h1, _⟩
      · cases h1
      · simp only [Mem.bump] at ea
        split at ea
        · rename_i hc; rw [hc.1] at h1; have := hg1 _ h1; cases this
        · exact h.immb a u b ea h1
    box := fun b y eb => by
      have h1 := (h.box b y eb).other (w' := w') (fun k o ho hk => hs' k o b ho hk)
      exact h1.same (HeapSame.refl _) hm (fun k hb => hk1 _ _ hb (by intro e; cases e))
    boxd := h.boxd
    tok := fun t' m em => by
      rw [List.getElem?_set] at em
      split at em
      · rename_i hc
        subst hc
        injection em with em
        subst em
        refine ⟨v', e, sz, xs', by simp [Mem.bump], hm.toke _ _ hte, hsz, hrow, fun r hr => ?_, fun r off hr ho => ?_⟩
        · rw [hg] at hr; cases hr; simp [Mem.bump]
        · rw [hg] at hr
          cases hr
          simp only [Mem.bump]
          rw [if_neg (by simp [hlen]; omega)]
          exact hfree off ho
      · rename_i hne
        obtain ⟨u, e', sz', ys, h1, h2, h3, h4, h5, h6⟩ := h.tok t' m em
        have hne2 : ∀ r, u.ownBlock = some r → r ≠ g' := fun r hr e' => by
          subst e'
          have := hg1 _ (h5 r hr)
          injection this with this
          exact hne this.symm
        refine ⟨u, e', sz', ys, hm.tokv _ _ _ h1, hm.toke _ _ h2, h3, ?_, fun r hr => hk1 _ _ (h5 r hr) (by intro e; injection e with e; exact hne e.symm), fun r off hr ho => ?_⟩
        · obtain ⟨e4, e5⟩ := h4
          refine ⟨e4, e5.imp id ?_⟩
          rintro ⟨r, cap, cur, f1, f2, f3, f4⟩
          exact ⟨r, cap, cur, f1, f2, hs _ _ f3 (by rw [h5 r (by rw [f1]; rfl)]; intro e; injection e with e; injection e with e; exact hne e.symm), f4⟩
        · simp only [Mem.bump]
          rw [if_neg (fun hc => hne2 r hr hc.1)]
          exact h6 r off hr ho
    tokd := fun t' m u eu => by
      simp only [Mem.bump] at eu
      split at eu
      · rename_i hc
        refine ⟨n', ?_, by omega⟩
        rw [hc.1]
        simp [htl]
      · obtain ⟨k, hk, hmk⟩ := h.tokd t' m u eu
        by_cases hc : t' = t
        · subst hc
          rw [ht] at hk
          cases hk
          exact ⟨n', by simp [htl], by omega⟩
        · exact ⟨k, by rw [List.getElem?_set_ne (fun e => hc e.symm)]; exact hk, hmk⟩
    toked := fun t' x ex => by simpa using h.toked t' x ex
    row := fun k o eo => by
      rcases hk2 _ _ eo with ⟨_, h1⟩ | ⟨h1, _⟩
      · cases h1
      · exact hs _ _ (h.row k o h1) (by rw [h1]; intro e; cases e)
    lt := fun k o eo => by
      rcases hk2 _ _ eo with ⟨h1, _⟩ | ⟨h1, _⟩
      · omega
      · exact Nat.lt_of_lt_of_le (h.lt k o h1) hz
    ownb := fun k b eo => by
      rcases hk2 _ _ eo with ⟨_, h1⟩ | ⟨h1, _⟩
      · cases h1
      · exact h.ownb k b h1
    glob := h.glob.mono hm.imm
    ownt := fun k t' eo => by
      rcases hk2 _ _ eo with ⟨_, h1⟩ | ⟨h1, _⟩
      · cases h1; simpa using htl
      · simpa using h.ownt k t' h1 }
theorem SR.bump {M : Mem} {bs : List Box} {tau : List Nat} {w w' : World} (h : WR M bs tau w) {t n n' : Nat} {v' : Value} {g' : Nat} {xs' : List Value} (ht : tau[t]? = some n) (hn : n < n')
    (himm : ∀ a u, M.imm a = some u → w'.cell? a = some u) (hrow : ∀ k u, xs'[k]? = some u → w'.cell? ⟨g', k, none⟩ = some u) (hown : M.own g' = some (.tok t) ∨ w.heap.size ≤ g') (he : Ext w w') : SR M w (M.bump t n' v' g' xs') w' where
  le := Mle.bump h ht hn himm hrow
  row k o e := by
    simp only [Mem.bump]
    split
    · rename_i hc
      subst hc
      rcases hown with h1 | h1
      · rw [h1] at e; cases e
      · rw [h.own_new h1] at e; cases e
    · rw [e]
  rowi a v o e f := by
    simp only [Mem.bump] at f
    split at f
    · rename_i hc
      rw [hc.1] at e
      rcases hown with h1 | h1
      · rw [h1] at e; cases e
      · rw [h.own_new h1] at e; cases e
    · exact f
  ext := he
theorem bump_get {M : Mem} {t n' : Nat} {v' : Value} {g' : Nat} {xs' : List Value} {k : Nat} {u : Value} (h : xs'[k]? = some u) : (M.bump t n' v' g' xs').imm ((⟨g', 0, none⟩ : Addr).add k) = some u := by
  rw [addr_add_mk]
  have hl : k < xs'.length := by
    rcases Nat.lt_or_ge k xs'.length with hl | hl
    · exact hl
    · rw [List.getElem?_eq_none hl] at h; cases h
  rw [List.getElem?_eq_getElem hl] at h
  injection h with h
  simp [Mem.bump, hl, h]
end Go.Abs

/- The instructions one by one: what the model does is what the evaluator says. First part. -/
namespace Go.Abs
open Go

/-- The operation runs, and what it leaves is what the evaluator left. -/
def ROK (P : Program) (o : Oper) (a : Act) (w : World) (M : Mem) (av : AV) (bs : List Box) (tau : List Nat) : Prop :=
  ∃ nx w' M' v, (execOp a.eval o).run P w = .ok nx w' ∧ (nx = .value v ∨ nx = .skip ∧ v = undef) ∧ SR M w M' w' ∧ WR M' bs tau w' ∧ AR M' av v

section
variable {P : Program} {o : Oper} {a : Act} {w : World} {M : Mem} {bs : List Box} {tau : List Nat} {e : Env}

theorem ROK.same (hw : WR M bs tau w) {av : AV} {v : Value} (hr : (execOp a.eval o).run P w = .ok (.value v) w) (ha : AR M av v) : ROK P o a w M av bs tau :=
  ⟨_, w, M, v, hr, .inl rfl, SR.refl M w, hw, ha⟩

theorem rok_mv (hw : WR M bs tau w) (he : EnvR M e a.tmps) {x : Operand} {y : Opd} (ho : o.op = .move x ∨ o.op = .assign x) (hx : cOpd x = some y) : ROK P o a w M (y.ev e) bs tau :=
  ROK.same hw (by rcases ho with ho | ho <;> simp [execOp, ho]) (opd_sound he hx)

theorem rok_pick (hw : WR M bs tau w) (he : EnvR M e a.tmps) {c x y : Operand} {c' x' y' : Opd} (ho : o.op = .pick c x y) (hc : cOpd c = some c') (hx : cOpd x = some x') (hy : cOpd y = some y') {b : Bool}
    (hb : c'.ev e = .d (.bool b)) : ROK P o a w M (pickV b (x'.ev e) (y'.ev e)) bs tau := by
  have h1 := opd_sound he hc
  rw [hb] at h1
  have h1 : a.eval c = .bool b := h1
  refine ROK.same (v := if b then a.eval x else a.eval y) hw (by simp [execOp, ho, h1, asBool]) ?_
  cases b
  · exact opd_sound he hy
  · exact opd_sound he hx

/- ALLOCATIONS -/
theorem zeroCs_spec {t : TypeId} {zs : List DV} (h : zeroCs P t = some zs) : ∃ i z, P.info? t = some i ∧ i.zero = some z ∧ (∀ m, DRs m zs z.cells.toList) ∧ zs.length = i.size ∧ P.cellsOf t = i.size := by
  unfold zeroCs at h
  split at h
  · rename_i z hz
    split at h
    · rename_i hl
      cases h
      unfold zeroD at hz
      split at hz
      · rename_i i hi
        cases hzz : i.zero with
        | none => simp [hzz] at hz
        | some v =>
          simp only [hzz, Option.bind_some] at hz
          have hc : P.cellsOf t = i.size := by simp [Program.cellsOf, hi]
          exact ⟨i, v, hi, hzz, fun m => (ofVal_DR hz).2, by rw [hl, hc], hc⟩
      · cases hz
    · cases h
  · cases h

theorem run_newVar (w : World) (t : TypeId) (v : Value) : (newVar t v).run P w = .ok ⟨w.heap.size, 0, none⟩ (w.alloc (.cells v.cells t)) := by
  simp only [newVar, newRow, newObj, Sem.run_bind, Sem.run, Result.andThen_ok, Sem.run_pure]
  rfl
theorem heap_new (w : World) (o : Obj) : (w.alloc o).heap[w.heap.size]? = some o := by
  show (w.heap.push o)[w.heap.size]? = some o
  simp

theorem new_box (hw : WR M bs tau w) {cs : List AV} {vs : Array Value} {t : TypeId} (hc : CR M cs vs.toList) :
    ∃ M', SR M w M' (w.alloc (.cells vs t)) ∧ WR M' (bs ++ [.cells cs]) tau (w.alloc (.cells vs t)) ∧ M'.box bs.length = some w.heap.size := by
  have hm : Mle M (M.addBox bs.length w.heap.size) := Mle.addBox (hw.box_new (Nat.le_refl _))
  refine ⟨M.addBox bs.length w.heap.size, SR.addBox hw (Nat.le_refl _) (Ext.alloc _ _), hw.addBox (HeapSame.alloc _ _) (Nat.le_refl _) (by simp) (by simp) ?_, by simp [Mem.addBox]⟩
  exact ⟨w.heap.size, vs, t, by simp [Mem.addBox], by simp [Mem.addBox], heap_new _ _, hc.mono hm⟩

theorem rok_alloc (hw : WR M bs tau w) {t : TypeId} {zs : List DV} (ho : o.op = .alloc t) (hz : zeroCs P t = some zs) : ROK P o a w M (.bp bs.length 0) (bs ++ [.cells (zs.map .d)]) tau := by
  obtain ⟨i, z, hi, hzz, hd, _, _⟩ := zeroCs_spec hz
  obtain ⟨M', h1, h2, h3⟩ := new_box (t := t) (vs := z.cells) hw (CR.of_DRs (hd M.imm))
  refine ⟨.value (.pointer (some ⟨w.heap.size, 0, none⟩)), _, M', .pointer (some ⟨w.heap.size, 0, none⟩), ?_, .inl rfl, h1, h2, ⟨_, h3, rfl⟩⟩
  simp [execOp, ho, Instr.alloc, zeroValue, typeInfo, hi, hzz, run_newVar]

theorem rok_allocB (hw : WR M bs tau w) {t : TypeId} (ho : o.op = .alloc t) (hz : isBuilder P t = true) : ROK P o a w M (.bp bs.length 0) (bs ++ [.bld []]) tau := by
  unfold isBuilder at hz
  simp only [Bool.and_eq_true, beq_iff_eq] at hz
  obtain ⟨rfl, hz⟩ := hz
  split at hz
  · rename_i i hi
    simp only [Bool.and_eq_true] at hz
    obtain ⟨_, hz⟩ := hz
    split at hz
    · rename_i cs hzz
      split at hz
      · rename_i hcs
        have hcs' : cs = #[.pointer none, .slice none 0 0] := by
          apply Array.ext'
          simpa using hcs
        subst hcs'
        have hm : Mle M (M.addBox bs.length w.heap.size) := Mle.addBox (hw.box_new (Nat.le_refl _))
        refine ⟨.value (.pointer (some ⟨w.heap.size, 0, none⟩)), w.alloc (.cells #[.pointer none, .slice none 0 0] 82), M.addBox bs.length w.heap.size, .pointer (some ⟨w.heap.size, 0, none⟩), ?_, .inl rfl,
          SR.addBox hw (Nat.le_refl _) (Ext.alloc _ _), hw.addBox (HeapSame.alloc _ _) (Nat.le_refl _) (by simp) (by simp) ?_, ⟨_, by simp [Mem.addBox], rfl⟩⟩
        · simp [execOp, ho, Instr.alloc, zeroValue, typeInfo, hi, hzz, run_newVar, Value.cells]
        · exact ⟨w.heap.size, _, _, by simp [Mem.addBox], by simp [Mem.addBox], heap_new _ _, .inl ⟨rfl, rfl, rfl⟩⟩
      · cases hz
    · cases hz
  · cases hz

theorem rok_box (hw : WR M bs tau w) (he : EnvR M e a.tmps) {t : TypeId} {x : Operand} {x' : Opd} {n : Nat} {cs : List AV} (ho : o.op = .box t x) (hx : cOpd x = some x') (hs : stCells n (x'.ev e) = some cs) :
    ROK P o a w M (.bp bs.length 0) (bs ++ [.cells cs]) tau := by
  obtain ⟨h1, h2⟩ := stCells_CR (opd_sound he hx) hs
  obtain ⟨M', h3, h4, h5⟩ := new_box (t := t) (vs := (a.eval x).cells) hw h1
  refine ⟨.value (.pointer (some ⟨w.heap.size, 0, none⟩)), _, M', .pointer (some ⟨w.heap.size, 0, none⟩), ?_, .inl rfl, h3, h4, ⟨_, h5, rfl⟩⟩
  simp [execOp, ho, Instr.box, run_newVar]

/- LOADS AND STORES -/
theorem tOk_spec {t : TypeId} (h : tOk P t = true) : ∃ d i, P.underlying t = some d ∧ P.info? t = some i ∧ P.cellsOf t = i.size := by
  unfold tOk at h
  split at h
  · rename_i d hd
    cases hi : P.info? t with
    | none => simp [Program.underlying, hi] at hd
    | some i => exact ⟨d, i, hd, rfl, by simp [Program.cellsOf, hi]⟩
  · cases h
theorem run_isAgg {t : TypeId} (h : tOk P t = true) (w : World) : (isAgg t).run P w = .ok (isAggT P t) w := by
  obtain ⟨d, i, hd, _, _⟩ := tOk_spec h
  simp only [isAgg, Sem.run_bind, run_underlying hd, Result.andThen_ok, isAggT, hd]
  cases d <;> rfl
theorem run_sizeOf {t : TypeId} (h : tOk P t = true) (w : World) : (sizeOf t).run P w = .ok (P.cellsOf t) w := by
  obtain ⟨d, i, _, hi, hc⟩ := tOk_spec h
  simp [sizeOf, typeInfo, hi, hc]

/-- A variable's cells are loaded. -/
theorem run_loadVar_cells {t : TypeId} (h : tOk P t = true) (w : World) (ad : Addr) (us : List Value) (hn : us.length = P.cellsOf t) (hc : ∀ j v, us[j]? = some v → w.cell? (ad.add j) = some v) (h1 : isAggT P t = false → P.cellsOf t = 1) :
    ∃ v, (loadVar t ad).run P w = .ok v w ∧ (isAggT P t = true ∧ v = .agg us.toArray ∨ isAggT P t = false ∧ us = [v]) := by
  have hl := run_loadCells_list (P := P) w ad us hc
  rw [hn] at hl
  cases hg : isAggT P t with
  | true => exact ⟨.agg us.toArray, by simp [loadVar, run_isAgg h, hg, run_sizeOf h, hl], .inl ⟨rfl, rfl⟩⟩
  | false =>
    have hone := h1 hg
    match us, hn.trans hone with
    | [u], _ =>
      refine ⟨u, ?_, .inr ⟨rfl, rfl⟩⟩
      have := hc 0 u rfl
      rw [addr_add_zero] at this
      simp [loadVar, run_isAgg h, hg, load, Sem.run, this]

theorem aggOf_DR {m : Addr → Option Value} {g : Bool} {cs : List DV} {us : List Value} {x : DV} {v : Value} (hd : DRs m cs us) (hx : aggOf g cs = some x) (hv : g = true ∧ v = .agg us.toArray ∨ g = false ∧ us = [v]) : DR m x v := by
  unfold aggOf at hx
  rcases hv with ⟨rfl, rfl⟩ | ⟨rfl, rfl⟩
  · simp at hx
    subst hx
    simp only [DR]
    exact ⟨_, rfl, by simpa using hd⟩
  · simp at hx
    split at hx
    · cases hx
      simp only [DRs] at hd
      obtain ⟨u, r, e1, h2, _, _⟩ := hd
      injection e1 with e1
      subst e1
      exact h2
    · cases hx

theorem load_sound (hw : WR M bs tau w) {t : TypeId} (ht : tOk P t = true) {x av : AV} {v : Value} (hx : AR M x v) (hl : evLd (isAggT P t) (P.cellsOf t) bs x = some av) (h1 : isAggT P t = false → P.cellsOf t = 1) :
    ∃ ad u, v = .pointer (some ad) ∧ (loadVar t ad).run P w = .ok u w ∧ AR M av u := by
  cases x with
  | ep cs =>
    obtain ⟨ad, vs, rfl, h2, h3⟩ := hx
    simp only [evLd] at hl
    split at hl
    · rename_i hn
      split at hl
      · rename_i y hy
        cases hl
        have hlen := h2.length
        obtain ⟨u, hu, hv⟩ := run_loadVar_cells ht w ad (vs.take (P.cellsOf t)) (by rw [List.length_take, hlen]; omega) (fun j u hj => by
          rw [List.getElem?_take] at hj
          split at hj
          · exact hw.imm _ _ (h3 j u hj)
          · cases hj) h1
        exact ⟨ad, u, rfl, hu, aggOf_DR (h2.take _) hy hv⟩
      · cases hl
    · cases hl
  | bp b off =>
    obtain ⟨g, hg, rfl⟩ := hx
    simp only [evLd] at hl
    split at hl
    · rename_i cs hb
      obtain ⟨g', vs, ty, e1, e2, e3, e4⟩ := hw.box b _ hb
      rw [hg] at e1
      cases e1
      have hlen := e4.length
      split at hl
      · rename_i hagg
        split at hl
        · rename_i hn
          split at hl
          · rename_i l hdl
            cases hl
            obtain ⟨u, hu, hv⟩ := run_loadVar_cells ht w ⟨g, off, none⟩ ((vs.toList.drop off).take (P.cellsOf t)) (by rw [List.length_take, List.length_drop, hlen]; omega) (fun j u hj => by
              rw [List.getElem?_take] at hj
              split at hj
              · rw [List.getElem?_drop] at hj
                rw [addr_add_mk, cell_mk e3]
                simpa using hj
              · cases hj) h1
            refine ⟨_, u, rfl, hu, ?_⟩
            rcases hv with ⟨_, rfl⟩ | ⟨hf, _⟩
            · show DR M.imm (.agg l) _
              simp only [DR]
              exact ⟨_, rfl, by simpa using ((e4.drop off).take _).dvs hdl⟩
            · rw [hagg] at hf; cases hf
          · cases hl
        · cases hl
      · rename_i hagg
        split at hl
        · rename_i hone
          split at hl
          · rename_i c hc
            cases hl
            obtain ⟨u, hu, h5, _⟩ := e4.get hc
            refine ⟨_, u, rfl, ?_, h5⟩
            have : w.cell? ⟨g, off, none⟩ = some u := by rw [cell_mk e3]; simpa using hu
            simp [loadVar, run_isAgg ht, hagg, load, Sem.run, this]
          · cases hl
        · cases hl
    · cases hl
  | _ => simp [evLd] at hl

theorem rok_ld (hw : WR M bs tau w) (he : EnvR M e a.tmps) {t : TypeId} {x : Operand} {x' : Opd} {av : AV} (ho : o.op = .load t x) (ht : tOk P t = true) (h1 : isAggT P t = false → P.cellsOf t = 1) (hx : cOpd x = some x')
    (hl : evLd (isAggT P t) (P.cellsOf t) bs (x'.ev e) = some av) : ROK P o a w M av bs tau := by
  obtain ⟨ad, u, h2, h3, h4⟩ := load_sound hw ht (opd_sound he hx) hl h1
  exact ROK.same hw (by simp [execOp, ho, Instr.loadAt, Instr.sureAddr, h2, h3]) h4

theorem rok_st (hw : WR M bs tau w) (he : EnvR M e a.tmps) {t : TypeId} {x y : Operand} {x' y' : Opd} {bs' : List Box} (ho : o.op = .store t x y) (ht : tOk P t = true) (hx : cOpd x = some x') (hy : cOpd y = some y')
    (hs : evSt (P.cellsOf t) bs (x'.ev e) (y'.ev e) = some bs') : ROK P o a w M .junk bs' tau := by
  have hax := opd_sound he hx
  have hay := opd_sound he hy
  unfold evSt at hs
  split at hs
  · rename_i b off hb
    rw [hb] at hax
    obtain ⟨g, hg, hv⟩ := hax
    split at hs
    · rename_i cs vs' hcs hvs
      split at hs
      · rename_i hn
        cases hs
        obtain ⟨hcr, hlen⟩ := stCells_CR hay hvs
        obtain ⟨g', vs, ty, e1, e2, e3, e4⟩ := hw.box b _ hcs
        rw [hg] at e1
        cases e1
        have hl1 := hcr.length
        have hl2 := e4.length
        have hone : ∀ v ∈ (a.eval y).cells.toList, v.oneCell' = true := by
          intro v hv'
          obtain ⟨i, hi⟩ := List.mem_iff_getElem?.1 hv'
          have hil : i < vs'.length := by
            rw [← hl1]
            rcases Nat.lt_or_ge i (a.eval y).cells.toList.length with h | h
            · exact h
            · rw [List.getElem?_eq_none h] at hi; cases hi
          obtain ⟨u, hu, _, h3⟩ := hcr.get (List.getElem?_eq_getElem hil)
          rw [hi] at hu
          cases hu
          exact h3
        have hrun := run_storeCells_at P g off ty (a.eval y).cells.toList 0 vs w e3 (by simp at hl1 hl2 ⊢; omega) hone
        simp only [Nat.add_zero] at hrun
        refine ⟨.skip, w.setRow g (vs.toList.take off ++ (a.eval y).cells.toList ++ vs.toList.drop (off + (a.eval y).cells.toList.length)).toArray, M, undef, ?_, .inr ⟨rfl, rfl⟩, ⟨Mle.refl M, fun _ _ h => h, fun _ _ _ _ h => h, setRow_ext w g _⟩, ?_, trivial⟩
        · have hsz : (a.eval y).cells.size = P.cellsOf t := by rw [← Array.length_toList]; omega
          simp [execOp, ho, Instr.storeAt, Instr.sureAddr, hv, storeVar, run_sizeOf ht, hsz]
          simp at hrun
          simp [hsz] at hrun
          simp [hrun]
        · refine hw.turnBox (b := b) (fun k o ho hk => ?_) (by simp [World.setRow]) ?_ ?_
          · rw [setRow_other w g k _ (fun e => by subst e; exact hk e2)]
            exact ho
          · exact hw.boxd b g hg
          · refine ⟨g, _, ty, hg, e2, setRow_heap w g vs _ ty _ e3, ?_⟩
            simp only
            exact setAVs_CR hcr e4 (by omega)
      · cases hs
    · cases hs
  · cases hs
end
end Go.Abs

/- The instructions one by one, second part: operators, strings, slices, addresses. -/
namespace Go.Abs
open Go

section
variable {P : Program} {o : Oper} {a : Act} {w : World} {M : Mem} {bs : List Box} {tau : List Nat} {e : Env}

theorem rok_nck (hw : WR M bs tau w) (he : EnvR M e a.tmps) {x : Operand} {x' : Opd} {av : AV} (ho : o.op = .nilCheck x) (hx : cOpd x = some x')
    (hv : (∃ b k, x'.ev e = .bp b k) ∨ (∃ cs, x'.ev e = .ep cs) ∨ (∃ f c, x'.ev e = .fn f c)) (hav : av = x'.ev e) : ROK P o a w M av bs tau := by
  subst hav
  have hax := opd_sound he hx
  refine ROK.same hw ?_ hax
  rcases hv with ⟨b, k, h⟩ | ⟨cs, h⟩ | ⟨f, c, h⟩ <;> rw [h] at hax
  · obtain ⟨g, _, hv⟩ := hax
    simp [execOp, ho, hv]
  · obtain ⟨ad, vs, hv, _⟩ := hax
    simp [execOp, ho, hv]
  · obtain ⟨cv, hv, _⟩ := hax
    simp [execOp, ho, hv]

theorem str_toList (l : List UInt8) : (⟨l.toArray⟩ : ByteArray).toList = l := by rw [ByteArray.toList_eq]
theorem str_append (a b : List UInt8) : (⟨a.toArray⟩ : ByteArray) ++ ⟨b.toArray⟩ = ⟨(a ++ b).toArray⟩ := by
  apply ByteArray.ext
  simp
theorem str_size (l : List UInt8) : (⟨l.toArray⟩ : ByteArray).size = l.length := by simp [ByteArray.size]

theorem run_equalIn_bool (d : Nat) {t : TypeId} (ht : P.underlying t = some .bool) (x y : Bool) (w : World) : (Op.equalIn (d + 1) t (.bool x) (.bool y)).run P w = .ok (x == y) w := by
  simp [Op.equalIn, run_underlying ht]
theorem run_add_str (x y : List UInt8) (h : x.length + y.length ≤ maxLenN) (w : World) : (Op.stringOp .add ⟨x.toArray⟩ ⟨y.toArray⟩).run P w = .ok (.string ⟨(x ++ y).toArray⟩) w := by
  unfold maxLenN at h
  simp only [Op.stringOp, str_size]
  rw [if_neg (by simp only [IntKind.max, IntKind.bits]; simp; omega), str_append]
  rfl
theorem bin_sound {op : BOp} {t : TypeId} {x y r : DV} {u v : Value} {m : Addr → Option Value} (hx : DR m x u) (hy : DR m y v) (hr : evBin op x y = some r) :
    ∃ z, (binOp op.go t u v).run P w = .ok z w ∧ DR m r z ∧ (∀ X Y : Operand, (eqGuard op.go t X Y u v).run P w = .ok () w) := by
  have hg0 : ∀ (k k' : IntKind) (p q : Int) (X Y : Operand), (eqGuard op.go t X Y (.int k p) (.int k' q)).run P w = .ok () w := by
    intro k k' p q X Y
    cases op <;> simp [eqGuard, BOp.go]
  have hg1 : ∀ (p q : ByteArray) (X Y : Operand), (eqGuard op.go t X Y (.string p) (.string q)).run P w = .ok () w := by
    intro p q X Y
    cases op <;> simp [eqGuard, BOp.go]
  have hg2 : ∀ (p q : Bool) (X Y : Operand), (eqGuard op.go t X Y (.bool p) (.bool q)).run P w = .ok () w := by
    intro p q X Y
    cases op <;> simp [eqGuard, BOp.go]
  have hg3 : ∀ (k k' : FloatKind) (p q : Nat) (X Y : Operand), (eqGuard op.go t X Y (.float k p) (.float k' q)).run P w = .ok () w := by
    intro k k' p q X Y
    cases op <;> simp [eqGuard, BOp.go]
  unfold evBin at hr
  split at hr
  all_goals (first | (cases hr; done) | skip)
  all_goals simp only [DR] at hx hy
  all_goals subst hx hy
  all_goals (try split at hr)
  all_goals (first | (cases hr; done) | skip)
  all_goals simp only [Option.some.injEq] at hr
  all_goals subst hr
  all_goals
    first
      | (rename_i hk; obtain ⟨rfl, hk⟩ := hk)
      | (rename_i hk; subst hk)
      | skip
  all_goals refine ⟨_, ?_, by simp only [DR]; rfl, by first | exact hg0 _ _ _ _ | exact hg1 _ _ | exact hg2 _ _ | exact hg3 _ _ _ _⟩
  all_goals
    first
      | (simp [binOp, BOp.go, Op.intArith, Op.intCmp]; done)
      | (simp [binOp, BOp.go, Op.intDiv, *]; done)
      | (simp [binOp, BOp.go, Op.intBits]; done)
      | (simp [binOp, BOp.go, Op.floatCmp]; done)
      | (simp only [binOp, BOp.go, Op.shift]; rw [if_neg (by omega)]; simp; done)
      | (simp [binOp, BOp.go, Op.stringOp]; done)
      | (simp only [binOp, BOp.go, Op.stringOp]; rfl)
      | (simp only [binOp, BOp.go]; exact run_add_str _ _ (by assumption) _)
theorem binb_sound {op : BOp} {t : TypeId} {x y r : DV} {u v : Value} {m : Addr → Option Value} (ht : P.underlying t = some .bool) (hx : DR m x u) (hy : DR m y v) (hr : evBinB op x y = some r) :
    ∃ z, (binOp op.go t u v).run P w = .ok z w ∧ DR m r z ∧ (∀ X Y : Operand, (eqGuard op.go t X Y u v).run P w = .ok () w) := by
  have hg2 : ∀ (p q : Bool) (X Y : Operand), (eqGuard op.go t X Y (.bool p) (.bool q)).run P w = .ok () w := by
    intro p q X Y
    cases op <;> simp [eqGuard, BOp.go]
  unfold evBinB at hr
  split at hr
  all_goals (first | (cases hr; done) | skip)
  all_goals simp only [DR] at hx hy
  all_goals subst hx hy
  all_goals simp only [Option.some.injEq] at hr
  all_goals subst hr
  all_goals refine ⟨_, ?_, by simp only [DR]; rfl, by exact hg2 _ _⟩
  all_goals simp [binOp, BOp.go, Op.equal, Op.maxDepth, run_equalIn_bool 9999 ht]

theorem BOp.of_go {op : BinOp} {p : BOp} (h : BOp.of op = some p) : op = p.go := by
  cases op <;> simp [BOp.of] at h <;> subst h <;> rfl

theorem rok_bin (hw : WR M bs tau w) (he : EnvR M e a.tmps) {op : BinOp} {p : BOp} {t yt : TypeId} {x y : Operand} {x' y' : Opd} {d1 d2 r : DV} (ho : o.op = .binOp op t x y yt) (hop : BOp.of op = some p)
    (hx : cOpd x = some x') (hy : cOpd y = some y') (h1 : x'.ev e = .d d1) (h2 : y'.ev e = .d d2) (hr : evBin p d1 d2 = some r ∨ P.underlying t = some .bool ∧ evBinB p d1 d2 = some r) : ROK P o a w M (.d r) bs tau := by
  have hax := opd_sound he hx
  have hay := opd_sound he hy
  rw [h1] at hax
  rw [h2] at hay
  have hax : DR M.imm d1 (a.eval x) := hax
  have hay : DR M.imm d2 (a.eval y) := hay
  obtain rfl := BOp.of_go hop
  have : ∃ z, (binOp p.go t (a.eval x) (a.eval y)).run P w = .ok z w ∧ DR M.imm r z ∧ (∀ X Y : Operand, (eqGuard p.go t X Y (a.eval x) (a.eval y)).run P w = .ok () w) := by
    rcases hr with hr | ⟨ht, hr⟩
    · exact bin_sound hax hay hr
    · exact binb_sound ht hax hay hr
  obtain ⟨z, h3, h4, h5⟩ := this
  exact ROK.same hw (by simp [execOp, ho, h5, h3]) h4

theorem u1_sound {f : U1} {x r : DV} {u : Value} {m : Addr → Option Value} {ts : Array TypeId} {ty : TypeId} {cs : Array Bool} (hx : DR m x u) (hr : evU1 f x = some r) :
    ∃ z, (builtin (match f with | .re => .real | .im => .imag) ts ty cs #[u]).run P w = .ok (.value z) w ∧ DR m r z := by
  unfold evU1 at hr
  split at hr
  all_goals (first | (cases hr; done) | skip)
  all_goals
    simp only [DR] at hx
    cases hr
    subst hx
    exact ⟨_, rfl, by simp only [DR]⟩
theorem rok_u1 (hw : WR M bs tau w) (he : EnvR M e a.tmps) {f : U1} {ts : Array TypeId} {x : Operand} {x' : Opd} {d r : DV} (ho : o.op = .call { callee := .builtin (match f with | .re => .real | .im => .imag), args := #[x], argTypes := ts })
    (hx : cOpd x = some x') (h1 : x'.ev e = .d d) (hr : evU1 f d = some r) : ROK P o a w M (.d r) bs tau := by
  have hax := opd_sound he hx
  rw [h1] at hax
  obtain ⟨z, h3, h4⟩ := u1_sound (P := P) (w := w) (ts := ts) (ty := o.type) (cs := #[x].map fun | .const _ => true | _ => false) (show DR M.imm d (a.eval x) from hax) hr
  refine ROK.same hw ?_ h4
  simp only [execOp, ho, resolve]
  simp only [Sem.run_bind, Sem.run_pure, Result.andThen_ok, invoke]
  rw [show (#[x] : Array Operand).map a.eval = #[a.eval x] from by simp]
  exact h3
theorem rok_cpx (hw : WR M bs tau w) (he : EnvR M e a.tmps) {ts : Array TypeId} {x y : Operand} {x' y' : Opd} {d1 d2 r : DV} (ho : o.op = .call { callee := .builtin .complex, args := #[x, y], argTypes := ts })
    (hx : cOpd x = some x') (hy : cOpd y = some y') (h1 : x'.ev e = .d d1) (h2 : y'.ev e = .d d2) (hr : evU2 .cpx d1 d2 = some r) : ROK P o a w M (.d r) bs tau := by
  have hax := opd_sound he hx
  have hay := opd_sound he hy
  rw [h1] at hax
  rw [h2] at hay
  have hax : DR M.imm d1 (a.eval x) := hax
  have hay : DR M.imm d2 (a.eval y) := hay
  obtain ⟨k, p, k', q, rfl, rfl⟩ : ∃ k p k' q, d1 = .flt k p ∧ d2 = .flt k' q := by
    cases d1 <;> cases d2 <;> simp only [evU2] at hr <;> first | (cases hr; done) | exact ⟨_, _, _, _, rfl, rfl⟩
  simp only [evU2] at hr
  split at hr
  · rename_i hk
    subst hk
    cases hr
    simp only [DR] at hax hay
    refine ROK.same (v := .complex k p q) hw ?_ (by simp only [AR, DR])
    simp only [execOp, ho, resolve]
    simp only [Sem.run_bind, Sem.run_pure, Result.andThen_ok, invoke]
    rw [show (#[x, y] : Array Operand).map a.eval = #[.float k p, .float k q] from by simp [hax, hay]]
    simp only [builtin]
    show ((do pure (.value (← (if k = k then (pure (.complex k p q) : Sem Value) else stuck "complex: parts of different kinds"))) : Sem Next)).run P w = _
    rw [if_pos rfl]
    rfl
  · cases hr
theorem isNil_spec {x : Operand} (h : isNilOp x = true) : x = .const .nilIface := by
  unfold isNilOp at h
  split at h
  · rfl
  · cases h
theorem run_equalIn_nil (d : Nat) {t : TypeId} {ms : Array (String × TypeId)} (ht : P.underlying t = some (.interface ms)) (w : World) :
    (Op.equalIn (d + 1) t .nilIface .nilIface).run P w = .ok true w ∧ ∀ ti v, (Op.equalIn (d + 1) t .nilIface (.iface ti v)).run P w = .ok false w ∧ (Op.equalIn (d + 1) t (.iface ti v) .nilIface).run P w = .ok false w := by
  refine ⟨?_, fun ti v => ⟨?_, ?_⟩⟩ <;> simp [Op.equalIn, run_underlying ht]
theorem rok_nil (hw : WR M bs tau w) (he : EnvR M e a.tmps) {f : U2} {op : BinOp} {t yt : TypeId} {ms : Array (String × TypeId)} {x y : Operand} {x' y' : Opd} {d1 d2 r : DV} (ho : o.op = .binOp op t x y yt) (hop : op = .eql ∧ f = .eqn ∨ op = .neq ∧ f = .nen)
    (ht : P.underlying t = some (.interface ms)) (hn : (isNilOp x || isNilOp y) = true) (hx : cOpd x = some x') (hy : cOpd y = some y') (h1 : x'.ev e = .d d1) (h2 : y'.ev e = .d d2) (hr : evU2 f d1 d2 = some r) : ROK P o a w M (.d r) bs tau := by
  have hax := opd_sound he hx
  have hay := opd_sound he hy
  rw [h1] at hax
  rw [h2] at hay
  have hax : DR M.imm d1 (a.eval x) := hax
  have hay : DR M.imm d2 (a.eval y) := hay
  have hg0 : (eqGuard op t x y .nilIface .nilIface).run P w = .ok () w := by
    rcases Bool.or_eq_true_iff.1 hn with h | h
    · rw [isNil_spec h]; cases op <;> simp [eqGuard]
    · rw [isNil_spec h]; cases op <;> simp [eqGuard]
  have hg1 : ∀ ti v, (eqGuard op t x y .nilIface (.iface ti v)).run P w = .ok () w := by intro ti v; cases op <;> simp [eqGuard]
  have hg2 : ∀ ti v, (eqGuard op t x y (.iface ti v) .nilIface).run P w = .ok () w := by intro ti v; cases op <;> simp [eqGuard]
  obtain ⟨e0, e12⟩ := run_equalIn_nil (P := P) 9999 ht w
  have e1 := fun ti v => (e12 ti v).1
  have e2 := fun ti v => (e12 ti v).2
  have fin : ∀ (b : Bool) (u v : Value), a.eval x = u → a.eval y = v → (eqGuard op t x y u v).run P w = .ok () w → (binOp op t u v).run P w = .ok (.bool b) w → ROK P o a w M (.d (.bool b)) bs tau := by
    intro b u v hu hv h3 h4
    exact ROK.same (v := .bool b) hw (by simp [execOp, ho, hu, hv, h3, h4]) (by simp only [AR, DR])
  have b0 : ∀ (u v : Value) (b : Bool), (Op.equalIn (9999 + 1) t u v).run P w = .ok b w → (u = .nilIface ∨ ∃ ti z, u = .iface ti z) → (v = .nilIface ∨ ∃ ti z, v = .iface ti z) → (binOp .eql t u v).run P w = .ok (.bool b) w ∧ (binOp .neq t u v).run P w = .ok (.bool !b) w := by
    rintro u v b h (rfl | ⟨ti, z, rfl⟩) (rfl | ⟨ti', z', rfl⟩) <;> constructor <;> simp only [binOp, Op.equal, Op.maxDepth, Sem.run_bind, h, Result.andThen_ok, Sem.run_pure]
  rcases hop with ⟨rfl, rfl⟩ | ⟨rfl, rfl⟩
  all_goals
    cases d1 <;> cases d2 <;> first | (cases hr; done) | skip
  all_goals
    cases hr
    simp only [DR] at hax hay
  · obtain ⟨u, hax, _⟩ := hax
    exact fin _ _ _ hax hay (hg2 _ _) (b0 _ _ _ (e2 _ _) (.inr ⟨_, _, rfl⟩) (.inl rfl)).1
  · obtain ⟨u, hay, _⟩ := hay
    exact fin _ _ _ hax hay (hg1 _ _) (b0 _ _ _ (e1 _ _) (.inl rfl) (.inr ⟨_, _, rfl⟩)).1
  · exact fin _ _ _ hax hay hg0 (b0 _ _ _ e0 (.inl rfl) (.inl rfl)).1
  · obtain ⟨u, hax, _⟩ := hax
    exact fin _ _ _ hax hay (hg2 _ _) (b0 _ _ _ (e2 _ _) (.inr ⟨_, _, rfl⟩) (.inl rfl)).2
  · obtain ⟨u, hay, _⟩ := hay
    exact fin _ _ _ hax hay (hg1 _ _) (b0 _ _ _ (e1 _ _) (.inl rfl) (.inr ⟨_, _, rfl⟩)).2
  · exact fin _ _ _ hax hay hg0 (b0 _ _ _ e0 (.inl rfl) (.inl rfl)).2

theorem rok_not (hw : WR M bs tau w) (he : EnvR M e a.tmps) {t : TypeId} {x : Operand} {x' : Opd} {b : Bool} (ho : o.op = .unOp .not t x) (hx : cOpd x = some x') (h1 : x'.ev e = .d (.bool b)) : ROK P o a w M (.d (.bool !b)) bs tau := by
  have hax := opd_sound he hx
  rw [h1] at hax
  have hax : a.eval x = .bool b := hax
  exact ROK.same (v := .bool !b) hw (by simp [execOp, ho, hax, Op.unary]) rfl
theorem rok_neg (hw : WR M bs tau w) (he : EnvR M e a.tmps) {t : TypeId} {x : Operand} {x' : Opd} {k : IntKind} {n : Int} (ho : o.op = .unOp .neg t x) (hx : cOpd x = some x') (h1 : x'.ev e = .d (.int k n)) :
    ROK P o a w M (.d (.int k (k.wrap (0 - n)))) bs tau := by
  have hax := opd_sound he hx
  rw [h1] at hax
  have hax : a.eval x = .int k n := hax
  exact ROK.same (v := .int k (k.wrap (0 - n))) hw (by simp [execOp, ho, hax, Op.unary, Op.intArith]) rfl

/- CONVERSIONS -/
theorem isU8_spec {t : TypeId} (h : isU8 P t = true) : P.underlying t = some (.int .u8) := by
  unfold isU8 at h
  split at h
  · assumption
  · cases h
theorem rok_conv_int (hw : WR M bs tau w) (he : EnvR M e a.tmps) {s d : TypeId} {x : Operand} {x' : Opd} {k k1 k2 : IntKind} {n : Int} (ho : o.op = .convert s d x) (hs : P.underlying s = some (.int k1)) (hd : P.underlying d = some (.int k))
    (hx : cOpd x = some x') (h1 : AR M (x'.ev e) (a.eval x) → DR M.imm (.int k2 n) (a.eval x)) : ROK P o a w M (.d (.int k (k.wrap n))) bs tau := by
  have hax : a.eval x = .int k2 n := h1 (opd_sound he hx)
  exact ROK.same (v := .int k (k.wrap n)) hw (by simp [execOp, ho, hax, convert, run_underlying hs, run_underlying hd, Conv.intToInt]) rfl
theorem rok_conv_i2f (hw : WR M bs tau w) (he : EnvR M e a.tmps) {s d : TypeId} {x : Operand} {x' : Opd} {k : FloatKind} {k1 k2 : IntKind} {n : Int} (ho : o.op = .convert s d x) (hs : P.underlying s = some (.int k1)) (hd : P.underlying d = some (.float k)) (hx : cOpd x = some x')
    (h1 : AR M (x'.ev e) (a.eval x) → DR M.imm (.int k2 n) (a.eval x)) : ROK P o a w M (.d (.flt k (k.nearest n))) bs tau := by
  have h := h1 (opd_sound he hx)
  simp only [DR] at h
  exact ROK.same (v := .float k (k.nearest n)) hw (by simp [execOp, ho, convert, run_underlying hs, run_underlying hd, h, Conv.intToFloat]) rfl
theorem rok_conv_f2i (hw : WR M bs tau w) (he : EnvR M e a.tmps) {s d : TypeId} {x : Operand} {x' : Opd} {k : IntKind} {k1 k2 : FloatKind} {b : Nat} {n : Int} (ho : o.op = .convert s d x) (hs : P.underlying s = some (.float k1)) (hd : P.underlying d = some (.int k)) (hx : cOpd x = some x')
    (h1 : AR M (x'.ev e) (a.eval x) → DR M.imm (.flt k2 b) (a.eval x)) (hn : (k2.decode b).toInt .zero = some n) (hr : k.min ≤ n ∧ n ≤ k.max) : ROK P o a w M (.d (.int k n)) bs tau := by
  have h := h1 (opd_sound he hx)
  simp only [DR] at h
  exact ROK.same (v := .int k n) hw (by simp [execOp, ho, convert, run_underlying hs, run_underlying hd, h, Conv.floatToInt, hn, hr]) rfl
theorem rok_conv_str (hw : WR M bs tau w) (he : EnvR M e a.tmps) {s d : TypeId} {x : Operand} {x' : Opd} {l : List UInt8} (ho : o.op = .convert s d x) (hs : P.underlying s = some .string) (hd : P.underlying d = some .string)
    (hx : cOpd x = some x') (h1 : AR M (x'.ev e) (a.eval x) → DR M.imm (.str l) (a.eval x)) : ROK P o a w M (.d (.str l)) bs tau := by
  have hax : a.eval x = .string ⟨l.toArray⟩ := h1 (opd_sound he hx)
  exact ROK.same (v := .string ⟨l.toArray⟩) hw (by simp [execOp, ho, hax, convert, run_underlying hs, run_underlying hd]) rfl

theorem bytesD_DRe {m : Addr → Option Value} : ∀ (l : List UInt8), DRe m 1 (bytesD l) (l.map fun b => Value.int .u8 b.toNat)
  | [] => by simp [bytesD, DRe]
  | b :: l => by
    simp only [bytesD, List.map_cons, DRe]
    exact ⟨.int .u8 b.toNat, _, rfl, rfl, by simp [Value.cells, Value.oneCell'], rfl, bytesD_DRe l⟩
theorem rok_conv_sb (hw : WR M bs tau w) (he : EnvR M e a.tmps) {s d t : TypeId} {x : Operand} {x' : Opd} {l : List UInt8} (ho : o.op = .convert s d x) (hs : P.underlying s = some .string) (hd : P.underlying d = some (.slice t)) (ht : isU8 P t = true)
    (hx : cOpd x = some x') (h1 : AR M (x'.ev e) (a.eval x) → DR M.imm (.str l) (a.eval x)) : ROK P o a w M (.d (.slice 1 (bytesD l))) bs tau := by
  have hax : a.eval x = .string ⟨l.toArray⟩ := h1 (opd_sound he hx)
  have hrun := run_bytes_of_string (P := P) w s d t ⟨l.toArray⟩ hs hd (isU8_spec ht)
  rw [str_size] at hrun
  have hs1 : HeapSame w (w.drew.alloc (.cells (bytesRow ⟨l.toArray⟩ (grownCap w l.length 0 t)) t ((bytesRow ⟨l.toArray⟩ (grownCap w l.length 0 t)).size, (bytesRow ⟨l.toArray⟩ (grownCap w l.length 0 t)).size + 1))) :=
    HeapSame.alloc w.drew _
  have hc := heap_new w.drew (.cells (bytesRow ⟨l.toArray⟩ (grownCap w l.length 0 t)) t ((bytesRow ⟨l.toArray⟩ (grownCap w l.length 0 t)).size, (bytesRow ⟨l.toArray⟩ (grownCap w l.length 0 t)).size + 1))
  refine ⟨_, _, M.addImm w.heap.size (l.map fun b => Value.int .u8 b.toNat), .slice (some ⟨w.heap.size, 0, none⟩) l.length (grownCap w l.length 0 t), by simp only [execOp, ho, hax, Sem.run_bind, hrun, Result.andThen_ok]; rfl, .inl rfl,
    SR.addImm hw (Nat.le_refl _) ((Ext.drew w).trans (Ext.alloc _ _)), hw.addImm hs1 (Nat.le_refl _) (by simp) hc ?_, ?_⟩
  · intro k u hk
    simp only [bytesRow]
    rw [Array.getElem?_append_left (by
      simp
      rcases Nat.lt_or_ge k l.length with h | h
      · exact h
      · rw [List.getElem?_eq_none (by simpa using h)] at hk; cases hk)]
    simpa using hk
  · show DR _ (.slice 1 (bytesD l)) _
    simp only [DR]
    refine ⟨some ⟨w.heap.size, 0, none⟩, grownCap w l.length 0 t, _, by simp [bytesD], by simpa [bytesD] using grownCap_ge w l.length 0 t, bytesD_DRe l, fun k u hk => ⟨_, rfl, addImm_get hk⟩⟩

theorem dBytes_DRe {m : Addr → Option Value} : ∀ {es : List DV} {l : List UInt8} {vs : List Value}, dBytes es = some l → DRe m 1 es vs → vs = l.map (fun b => Value.int .u8 b.toNat) ∧ es.length = l.length
  | [], l, vs, h, hd => by simp [dBytes] at h; subst h; simp only [DRe] at hd; simp [hd]
  | x :: es, l, vs, h, hd => by
    unfold dBytes at h
    split at h
    · rename_i heq; cases heq
    · rename_i n rest heq
      cases heq
      split at h
      · rename_i hn
        split at h
        · rename_i r hr
          cases h
          simp only [DRe] at hd
          obtain ⟨u, q, rfl, h2, h3, h4, h5⟩ := hd
          simp only [DR] at h4
          subst h4
          obtain ⟨e1, e2⟩ := dBytes_DRe hr h5
          subst e1
          refine ⟨?_, by simp [e2]⟩
          simp only [Value.cells, List.map_cons, List.cons_append, List.nil_append, List.cons.injEq, and_true]
          have : ((UInt8.ofNat n.toNat).toNat : Int) = n := by
            rw [UInt8.toNat_ofNat']
            omega
          rw [this]
        · cases h
      · cases h
    · cases h
theorem rok_conv_bs (hw : WR M bs tau w) (he : EnvR M e a.tmps) {s d t : TypeId} {x : Operand} {x' : Opd} {l : List UInt8} {y : DV} (ho : o.op = .convert s d x) (hs : P.underlying s = some (.slice t)) (hd : P.underlying d = some .string) (ht : isU8 P t = true)
    (hx : cOpd x = some x') (h1 : AR M (x'.ev e) (a.eval x) → DR M.imm y (a.eval x)) (hy : evConv .bs y = some (.str l)) : ROK P o a w M (.d (.str l)) bs tau := by
  have hax := h1 (opd_sound he hx)
  have h8 := isU8_spec ht
  have hnil : ∀ (n c : Nat), (convert s d (.slice none n c)).run P w = .ok (.string ByteArray.empty) w := fun n c => run_convert_bytes_nil w s t hs h8 n c d hd
  have fin : (convert s d (a.eval x)).run P w = .ok (.string ⟨l.toArray⟩) w → ROK P o a w M (.d (.str l)) bs tau := fun h =>
    ROK.same (v := .string ⟨l.toArray⟩) hw (by simp [execOp, ho, h]) rfl
  unfold evConv at hy
  split at hy
  all_goals (first | (cases hy; done) | skip)
  all_goals rename_i h; first | (cases h; done) | skip
  · cases hy
    have hax : a.eval x = .slice none 0 0 := hax
    exact fin (by rw [hax]; exact hnil 0 0)
  · rename_i sz es
    split at hy
    case isFalse => cases hy
    rename_i hsz
    have hax : DR M.imm (.slice 1 es) (a.eval x) := by
      rcases hsz with rfl | rfl
      · exact hax
      · obtain ⟨A, c, vs, e1, e2, e3, e4⟩ := hax
        exact ⟨A, c, vs, e1, e2, by simpa only [DRe] using e3, e4⟩
    cases hb : dBytes es with
    | none => simp [hb] at hy
    | some l' =>
      simp only [hb, Option.map_some, Option.some.injEq, DV.str.injEq] at hy
      subst hy
      simp only [DR] at hax
      obtain ⟨A, c, vs, e1, e2, e3, e4⟩ := hax
      obtain ⟨e5, e6⟩ := dBytes_DRe hb e3
      apply fin
      rw [e1]
      cases A with
      | none =>
        have : l' = [] := by
          cases l' with
          | nil => rfl
          | cons q r =>
            obtain ⟨ad, h, _⟩ := e4 0 (.int .u8 q.toNat) (by rw [e5]; rfl)
            cases h
        subst this
        exact hnil _ _
      | some ad =>
        rw [e6]
        refine run_convert_bytes_back w s d t ad c l' hs h8 hd fun j hj => ?_
        obtain ⟨ad', h, hm⟩ := e4 j (.int .u8 (l'[j]).toNat) (by rw [e5]; simp [hj])
        cases h
        exact hw.imm _ _ hm
end
end Go.Abs

/- The instructions one by one, third part: slices, fields, indexes, lengths, tuples, interfaces, closures. -/
namespace Go.Abs
open Go

section
variable {P : Program} {o : Oper} {a : Act} {w : World} {M : Mem} {bs : List Box} {tau : List Nat} {e : Env}

theorem asIx_spec {x : AV} {v : Value} {n : Nat} (h : AR M x v) (hx : asIx x = some n) : ∃ k, v = .int k (n : Int) := by
  cases x with
  | d x =>
    cases x <;> simp [asIx] at hx
    rename_i k m
    obtain ⟨h0, rfl⟩ := hx
    have h : v = .int k m := h
    exact ⟨k, by rw [h]; congr 1; omega⟩
  | _ => simp [asIx] at hx

/-- A bound of a slice expression. -/
theorem run_sliceBound {k : IntKind} {i y : Nat} (h : i ≤ y) (c : BoundsCode) (w : World) : (Instr.sliceBound (.int k (i : Int)) y c).run P w = .ok i w := by
  simp [Instr.sliceBound, asIntOf, h]
theorem bound_spec (he : EnvR M e a.tmps) {x : Option Operand} {x' : Option Opd} (hx : cOpdO x = some x') {dflt n : Nat} (hb : bound e dflt x' = some n) :
    (x = none ∧ x' = none ∧ n = dflt) ∨ (∃ y k, x = some y ∧ a.eval y = .int k (n : Int)) := by
  cases x with
  | none => simp [cOpdO] at hx; subst hx; simp [bound] at hb; exact .inl ⟨rfl, rfl, hb.symm⟩
  | some y =>
    simp only [cOpdO, Option.map_eq_some_iff] at hx
    obtain ⟨y', hy, rfl⟩ := hx
    simp only [bound] at hb
    obtain ⟨k, hk⟩ := asIx_spec (opd_sound he hy) hb
    exact .inr ⟨y, k, rfl, hk⟩
theorem run_sliceBounds (he : EnvR M e a.tmps) {isS : Bool} {len cap i j : Nat} {lo hi : Option Operand} {lo' hi' : Option Opd} (hlo : cOpdO lo = some lo')
    (hhi : cOpdO hi = some hi') (h1 : bound e 0 lo' = some i) (h2 : bound e len hi' = some j) (hij : i ≤ j) (hjl : j ≤ len) (hlc : len ≤ cap) (w : World) :
    (Instr.sliceBounds isS len cap (lo.map a.eval) (hi.map a.eval) none).run P w = .ok (i, j, cap) w := by
  rcases bound_spec he hlo h1 with ⟨rfl, rfl, rfl⟩ | ⟨y, k, rfl, hk⟩ <;> rcases bound_spec he hhi h2 with ⟨rfl, rfl, rfl⟩ | ⟨y', k', rfl, hk'⟩
  · simp [Instr.sliceBounds]
  · cases isS <;> simp [Instr.sliceBounds, hk', run_sliceBound (show j ≤ cap by omega)]
  · cases isS <;> simp [Instr.sliceBounds, hk, run_sliceBound hij]
  · cases isS <;> simp [Instr.sliceBounds, hk, hk', run_sliceBound hij, run_sliceBound (show j ≤ cap by omega)]

theorem str_extract (l : List UInt8) (i j : Nat) : (⟨l.toArray⟩ : ByteArray).extract i j = ⟨((l.take j).drop i).toArray⟩ := by
  rw [Lib.extract_eq]
  congr 2
  simp [List.drop_take]

theorem rok_sls (hw : WR M bs tau w) (he : EnvR M e a.tmps) {t : TypeId} {x : Operand} {x' : Opd} {lo hi : Option Operand} {lo' hi' : Option Opd} {l : List UInt8} {i j : Nat} (ho : o.op = .slice t x lo hi none) (ht : P.underlying t = some .string)
    (hx : cOpd x = some x') (hlo : cOpdO lo = some lo') (hhi : cOpdO hi = some hi')
    (h1 : x'.ev e = .d (.str l)) (hi1 : bound e 0 lo' = some i) (hi2 : bound e l.length hi' = some j) (hij : i ≤ j) (hjl : j ≤ l.length) : ROK P o a w M (.d (.str ((l.take j).drop i))) bs tau := by
  have hax := opd_sound he hx
  rw [h1] at hax
  have hax : a.eval x = .string ⟨l.toArray⟩ := hax
  have hb := run_sliceBounds (P := P) (isS := false) he hlo hhi hi1 hi2 hij hjl (Nat.le_refl _) w
  refine ROK.same (v := .string ⟨((l.take j).drop i).toArray⟩) hw ?_ rfl
  simp [execOp, ho, Instr.sliceAt, Instr.slice, run_underlying ht, hax, str_size, hb, str_extract]

/-- A slice's elements and where they lie. -/
theorem elemsOf_spec {x : AV} {v : Value} {sz : Nat} {es : List DV} (h : AR M x v) (hx : elemsOf sz x = some es) :
    ∃ A c vs, v = .slice A es.length c ∧ es.length ≤ c ∧ DRe M.imm sz es vs ∧ ∀ (k : Nat) u, vs[k]? = some u → ∃ ad, A = some ad ∧ M.imm (ad.add k) = some u := by
  cases x with
  | d x =>
    cases x <;> simp [elemsOf] at hx
    · subst hx
      have h : v = .slice none 0 0 := h
      exact ⟨none, 0, [], h, Nat.le_refl _, by simp [DRe], fun k u hk => by simp at hk⟩
    · obtain ⟨hx, rfl⟩ := hx
      rcases hx with rfl | rfl
      · exact h
      · obtain ⟨A, c, vs, h1, h2, h3, h4⟩ := h
        exact ⟨A, c, vs, h1, h2, by simpa only [DRe] using h3, h4⟩
  | sl t e' s es' =>
    simp [elemsOf] at hx
    obtain ⟨rfl, rfl⟩ := hx
    exact h.1
  | _ => simp [elemsOf] at hx

theorem rok_slc (hw : WR M bs tau w) (he : EnvR M e a.tmps) {t t' : TypeId} {x : Operand} {x' : Opd} {lo hi : Option Operand} {lo' hi' : Option Opd} {es : List DV} {i j : Nat} (ho : o.op = .slice t x lo hi none) (ht : P.underlying t = some (.slice t'))
    (ht' : tOk P t' = true) (hx : cOpd x = some x') (hlo : cOpdO lo = some lo') (hhi : cOpdO hi = some hi')
    (h1 : elemsOf (P.cellsOf t') (x'.ev e) = some es) (hi1 : bound e 0 lo' = some i) (hi2 : bound e es.length hi' = some j) (hij : i ≤ j) (hjl : j ≤ es.length) : ROK P o a w M (.d (.slice (P.cellsOf t') ((es.take j).drop i))) bs tau := by
  obtain ⟨A, c, vs, h2, h3, h4, h5⟩ := elemsOf_spec (opd_sound he hx) h1
  have hb := run_sliceBounds (P := P) (isS := true) he hlo hhi hi1 hi2 hij hjl h3 w
  refine ROK.same (v := .slice (if c = i then A else A.map (·.add (i * P.cellsOf t'))) (j - i) (c - i)) hw ?_ ?_
  · simp [execOp, ho, Instr.sliceAt, Instr.slice, run_underlying ht, h2, hb, run_sizeOf ht']
  · show DR M.imm (.slice _ _) _
    simp only [DR]
    refine ⟨_, _, (vs.take (j * P.cellsOf t')).drop (i * P.cellsOf t'), by rw [List.length_drop, List.length_take, Nat.min_eq_left hjl], by rw [List.length_drop, List.length_take, Nat.min_eq_left hjl]; omega, (h4.take j).drop i, ?_⟩
    intro k u hk
    rw [List.getElem?_drop, List.getElem?_take] at hk
    split at hk
    · rename_i hlt
      obtain ⟨ad, rfl, hm⟩ := h5 _ u hk
      by_cases hci : c = i
      · exfalso
        have : j = i := by omega
        subst this
        omega
      · rw [if_neg hci]
        exact ⟨_, rfl, by rw [addr_add_add]; exact hm⟩
    · cases hk

/- FIELDS, INDEXES -/
theorem rok_fad (hw : WR M bs tau w) (he : EnvR M e a.tmps) {s : TypeId} {x : Operand} {x' : Opd} {n : Nat} {fs : Array Field} {f : Field} {av : AV} (ho : o.op = .fieldAddr s x n) (hs : P.underlying s = some (.struct fs)) (hf : fs[n]? = some f) (hft : tOk P f.type = true) (hfs : 0 < P.cellsOf f.type)
    (hx : cOpd x = some x') (hv : (∃ cs, x'.ev e = .ep cs ∧ av = .ep (cs.drop f.offset)) ∨ (∃ b k, x'.ev e = .bp b k ∧ av = .bp b (k + f.offset))) : ROK P o a w M av bs tau := by
  have hax := opd_sound he hx
  have hn : ¬ P.cellsOf f.type = 0 := by omega
  rcases hv with ⟨cs, h1, rfl⟩ | ⟨b, k, h1, rfl⟩ <;> rw [h1] at hax
  · obtain ⟨ad, vs, h2, h3, h4⟩ := hax
    refine ROK.same (v := .pointer (some (ad.add f.offset))) hw ?_ ⟨ad.add f.offset, vs.drop f.offset, rfl, h3.drop _, fun k u hk => ?_⟩
    · simp [execOp, ho, Instr.fieldAt, run_underlying hs, hf, Instr.sureAddr, h2, fieldPlace, run_sizeOf hft, hn]
    · rw [List.getElem?_drop] at hk
      rw [addr_add_add]
      exact h4 _ u hk
  · obtain ⟨g, h2, h3⟩ := hax
    refine ROK.same (v := .pointer (some ⟨g, k + f.offset, none⟩)) hw ?_ ⟨g, h2, rfl⟩
    simp [execOp, ho, Instr.fieldAt, run_underlying hs, hf, Instr.sureAddr, h3, fieldPlace, run_sizeOf hft, hn, addr_add_mk]

theorem rok_fld (hw : WR M bs tau w) (he : EnvR M e a.tmps) {s : TypeId} {x : Operand} {x' : Opd} {n : Nat} {fs : Array Field} {f : Field} {cs : List DV} {r : DV} (ho : o.op = .field s x n) (hs : P.underlying s = some (.struct fs)) (hf : fs[n]? = some f) (hft : tOk P f.type = true)
    (hx : cOpd x = some x') (h1 : x'.ev e = .d (.agg cs)) (hr : aggOf (isAggT P f.type) ((cs.drop f.offset).take (P.cellsOf f.type)) = some r) : ROK P o a w M (.d r) bs tau := by
  have hax := opd_sound he hx
  rw [h1] at hax
  have hax : DR M.imm (.agg cs) (a.eval x) := hax
  simp only [DR] at hax
  obtain ⟨vs, h2, h3⟩ := hax
  cases hg : isAggT P f.type with
  | true =>
    refine ROK.same (v := .agg (vs.extract f.offset (f.offset + P.cellsOf f.type))) hw ?_ (aggOf_DR ((h3.drop f.offset).take (P.cellsOf f.type)) hr (.inl ⟨hg, ?_⟩))
    · simp [execOp, ho, Instr.field, run_underlying hs, hf, asAgg, h2, part, run_isAgg hft, hg, run_sizeOf hft]
    · congr 1
      apply Array.ext'
      simp [List.take_drop]
  | false =>
    rw [hg] at hr
    unfold aggOf at hr
    simp only [Bool.false_eq_true, if_false] at hr
    split at hr
    · rename_i c hc
      cases hr
      have hlen := congrArg List.length hc
      simp at hlen
      obtain ⟨u, hu, h4, _⟩ := h3.get (i := f.offset) (c := r) (by
        have := congrArg (fun (l : List DV) => l[0]?) hc
        simp only [List.getElem?_take, List.getElem?_drop] at this
        split at this
        · simpa using this
        · simp at this)
      have hu' : vs[f.offset]? = some u := by simpa using hu
      exact ROK.same hw (by simp [execOp, ho, Instr.field, run_underlying hs, hf, asAgg, h2, part, run_isAgg hft, hg, hu']) h4
    · cases hr

theorem rok_iad (hw : WR M bs tau w) (he : EnvR M e a.tmps) {t t' : TypeId} {x i : Operand} {x' i' : Opd} {es : List DV} {k : Nat} {v : DV} (ho : o.op = .indexAddr t x i) (ht : P.underlying t = some (.slice t')) (ht' : tOk P t' = true)
    (hx : cOpd x = some x') (hi : cOpd i = some i') (h1 : elemsOf (P.cellsOf t') (x'.ev e) = some es) (h2 : asIx (i'.ev e) = some k) (hv : es[k]? = some v) (hsz : 0 < P.cellsOf t') : ROK P o a w M (.ep v.cells) bs tau := by
  obtain ⟨A, c, vs, h3, h4, h5, h6⟩ := elemsOf_spec (opd_sound he hx) h1
  obtain ⟨q, h7⟩ := asIx_spec (opd_sound he hi) h2
  have hk : k < es.length := by
    rcases Nat.lt_or_ge k es.length with h | h
    · exact h
    · rw [List.getElem?_eq_none h] at hv; cases hv
  obtain ⟨u, h8, h9, h10, h11⟩ := h5.get hv
  have hA : ∃ ad, A = some ad := by
    have hl := h5.length
    have : k * P.cellsOf t' < vs.length := by
      rw [hl]
      exact Nat.mul_lt_mul_of_pos_right hk hsz
    obtain ⟨ad, h, _⟩ := h6 _ _ (List.getElem?_eq_getElem this)
    exact ⟨ad, h⟩
  obtain ⟨ad, rfl⟩ := hA
  refine ROK.same (v := .pointer (some (ad.add (k * P.cellsOf t')))) hw ?_ ⟨_, u.cells.toList, rfl, h11.cells h10, fun j z hj => ?_⟩
  · simp [execOp, ho, Instr.indexAt, h7, asIntOf, run_underlying ht, h3, run_sizeOf ht', hk]
  · rw [← h8, List.getElem?_take] at hj
    split at hj
    · rw [List.getElem?_drop] at hj
      obtain ⟨ad', h, hm⟩ := h6 _ _ hj
      cases h
      rw [addr_add_add]
      exact hm
    · cases hj

theorem rok_iaa (hw : WR M bs tau w) (he : EnvR M e a.tmps) {t t' : TypeId} {n : Nat} {x i : Operand} {x' i' : Opd} {b off k : Nat} (ho : o.op = .indexAddr t x i) (ht : P.underlying t = some (.array n t')) (ht' : tOk P t' = true)
    (hx : cOpd x = some x') (hi : cOpd i = some i') (h1 : x'.ev e = .bp b off) (h2 : asIx (i'.ev e) = some k) (hk : k < n) : ROK P o a w M (.bp b (off + k * P.cellsOf t')) bs tau := by
  have hax := opd_sound he hx
  rw [h1] at hax
  obtain ⟨g, h3, h4⟩ := hax
  obtain ⟨q, h7⟩ := asIx_spec (opd_sound he hi) h2
  refine ROK.same (v := .pointer (some ⟨g, off + k * P.cellsOf t', none⟩)) hw ?_ ⟨g, h3, rfl⟩
  simp [execOp, ho, Instr.indexAt, h7, asIntOf, run_underlying ht, h4, Instr.sureAddr, run_sizeOf ht', hk, addr_add_mk]

theorem rok_ixs (hw : WR M bs tau w) (he : EnvR M e a.tmps) {t : TypeId} {x i : Operand} {x' i' : Opd} {l : List UInt8} {k : Nat} {c : UInt8} (ho : o.op = .index t x i) (ht : P.underlying t = some .string)
    (hx : cOpd x = some x') (hi : cOpd i = some i') (h1 : x'.ev e = .d (.str l)) (h2 : asIx (i'.ev e) = some k) (hc : l[k]? = some c) : ROK P o a w M (.d (.int .u8 c.toNat)) bs tau := by
  have hax := opd_sound he hx
  rw [h1] at hax
  have hax : a.eval x = .string ⟨l.toArray⟩ := hax
  obtain ⟨q, h7⟩ := asIx_spec (opd_sound he hi) h2
  have hg : (⟨l.toArray⟩ : ByteArray)[k]? = some c := by
    have hl : k < l.length := by
      rcases Nat.lt_or_ge k l.length with h | h
      · exact h
      · rw [List.getElem?_eq_none h] at hc; cases hc
    have hs : k < (⟨l.toArray⟩ : ByteArray).size := by rw [str_size]; exact hl
    rw [getElem?_pos (⟨l.toArray⟩ : ByteArray) k hs]
    rw [List.getElem?_eq_getElem hl] at hc
    simpa [ByteArray.getElem_eq_getElem_data] using hc
  refine ROK.same (v := .int .u8 c.toNat) hw ?_ rfl
  simp [execOp, ho, Instr.index, h7, asIntOf, run_underlying ht, hax, hg]

/- LENGTHS, LEAST, GREATEST -/
theorem rok_len (hw : WR M bs tau w) (he : EnvR M e a.tmps) {t ty : TypeId} {x : Operand} {x' : Opd} {n : Nat} (ho : o.op = .call { callee := .builtin .len, args := #[x], argTypes := #[t] }) (_hty : ty = o.type)
    (hx : cOpd x = some x') (h1 : (P.underlying t = some .string ∧ ∃ l, x'.ev e = .d (.str l) ∧ n = l.length) ∨ (∃ t', P.underlying t = some (.slice t') ∧ ∃ sz es, elemsOf sz (x'.ev e) = some es ∧ n = es.length)) :
    ROK P o a w M (.d (.int .i64 n)) bs tau := by
  have hax := opd_sound he hx
  refine ROK.same (v := .int .i64 n) hw ?_ rfl
  rcases h1 with ⟨ht, l, h2, rfl⟩ | ⟨t', ht, sz, es, h2, rfl⟩
  · rw [h2] at hax
    have hax : a.eval x = .string ⟨l.toArray⟩ := hax
    simp [execOp, ho, resolve, invoke, builtin, Builtin.len_, run_underlying ht, hax, goInt, str_size]
  · obtain ⟨A, c, vs, h3, _⟩ := elemsOf_spec hax h2
    simp [execOp, ho, resolve, invoke, builtin, Builtin.len_, run_underlying ht, h3, goInt]

theorem evMn_spec {mx : Bool} {d1 d2 r : DV} (h : evMn mx d1 d2 = some r) : ∃ p q, d1 = .int .i64 p ∧ d2 = .int .i64 q ∧ r = .int .i64 (if mx then (if p < q then q else p) else (if q < p then q else p)) := by
  unfold evMn at h
  split at h
  · cases h; exact ⟨_, _, rfl, rfl, rfl⟩
  · cases h
theorem rok_mnmx (hw : WR M bs tau w) (he : EnvR M e a.tmps) {mx : Bool} {ts : Array TypeId} {x y : Operand} {x' y' : Opd} {d1 d2 r : DV} (ho : o.op = .call { callee := .builtin (if mx then .max else .min), args := #[x, y], argTypes := ts })
    (hx : cOpd x = some x') (hy : cOpd y = some y') (h1 : x'.ev e = .d d1) (h2 : y'.ev e = .d d2) (hr : evMn mx d1 d2 = some r) : ROK P o a w M (.d r) bs tau := by
  have hax := opd_sound he hx
  have hay := opd_sound he hy
  rw [h1] at hax
  rw [h2] at hay
  have hax : DR M.imm d1 (a.eval x) := hax
  have hay : DR M.imm d2 (a.eval y) := hay
  obtain ⟨p, q, rfl, rfl, rfl⟩ := evMn_spec hr
  simp only [DR] at hax hay
  cases mx
  · refine ROK.same (v := .int .i64 (if q < p then q else p)) hw ?_ rfl
    simp at ho
    simp [execOp, ho, resolve, invoke, builtin, Builtin.min_, hax, hay, Builtin.min2]
  · refine ROK.same (v := .int .i64 (if p < q then q else p)) hw ?_ rfl
    simp at ho
    simp [execOp, ho, resolve, invoke, builtin, Builtin.max_, hax, hay, Builtin.max2]

/- TUPLES, INTERFACES, CLOSURES -/
theorem rok_ext (hw : WR M bs tau w) (he : EnvR M e a.tmps) {x : Operand} {x' : Opd} {i : Nat} {vs : List DV} {v : DV} (ho : o.op = .extract x i) (hx : cOpd x = some x') (h1 : x'.ev e = .d (.tup vs)) (hv : vs[i]? = some v) : ROK P o a w M (.d v) bs tau := by
  have hax := opd_sound he hx
  rw [h1] at hax
  have hax : DR M.imm (.tup vs) (a.eval x) := hax
  simp only [DR] at hax
  obtain ⟨us, h2, h3⟩ := hax
  obtain ⟨u, h4, h5⟩ := h3.get hv
  have h4' : us[i]? = some u := by simpa using h4
  exact ROK.same hw (by simp [execOp, ho, Instr.extract, h2, h4']) h5

theorem DR_canon1 {m : Addr → Option Value} {x : DV} {v : Value} (h : DR m x v) : DR m (canon1 x) v := by
  cases x <;> first | exact h | skip
  · simp only [canon1, DR] at h ⊢
    exact ⟨none, 0, [], h, Nat.le_refl _, by simp [DRe], fun k u hk => by simp at hk⟩
  · rename_i sz es
    cases es with
    | nil =>
      obtain ⟨A, c, vs, h1, h2, h3, h4⟩ := h
      exact ⟨A, c, vs, h1, h2, by simpa only [DRe] using h3, h4⟩
    | cons e es => exact h
theorem DRs_canon1 {m : Addr → Option Value} : ∀ {cs : List DV} {vs : List Value}, DRs m cs vs → DRs m (cs.map canon1) vs
  | [], vs, h => by simpa [DRs] using h
  | c :: cs, vs, h => by
    simp only [DRs] at h
    obtain ⟨v, r, h1, h2, h3, h4⟩ := h
    simp only [List.map_cons, DRs]
    exact ⟨v, r, h1, DR_canon1 h2, h3, DRs_canon1 h4⟩
theorem DR_canon2 {m : Addr → Option Value} {x : DV} {v : Value} (h : DR m x v) : DR m (canon2 x) v := by
  cases x <;> first | exact DR_canon1 h | skip
  simp only [canon2, DR] at h ⊢
  obtain ⟨vs, h1, h2⟩ := h
  exact ⟨vs, h1, DRs_canon1 h2⟩
theorem DRt_canon2 {m : Addr → Option Value} : ∀ {cs : List DV} {vs : List Value}, DRt m cs vs → DRt m (cs.map canon2) vs
  | [], vs, h => by simpa [DRt] using h
  | c :: cs, vs, h => by
    simp only [DRt] at h
    obtain ⟨v, r, h1, h2, h4⟩ := h
    simp only [List.map_cons, DRt]
    exact ⟨v, r, h1, DR_canon2 h2, DRt_canon2 h4⟩
theorem DR_canon {m : Addr → Option Value} {x : DV} {v : Value} (h : DR m x v) : DR m (canon x) v := by
  cases x <;> first | exact DR_canon2 h | skip
  simp only [canon, DR] at h ⊢
  obtain ⟨vs, h1, h2⟩ := h
  exact ⟨vs, h1, DRt_canon2 h2⟩

theorem rok_mif (hw : WR M bs tau w) (he : EnvR M e a.tmps) {t : TypeId} {d : TypeDesc} {x : Operand} {x' : Opd} {v : DV} (ho : o.op = .makeInterface t x) (ht : P.underlying t = some d) (hd : ∀ ms, d ≠ .interface ms)
    (hx : cOpd x = some x') (hv : (x'.ev e).dv = some v) : ROK P o a w M (.d (.iface t (canon2 v))) bs tau := by
  have hax := (opd_sound he hx).dv hv
  refine ROK.same (v := .iface t (a.eval x)) hw ?_ ?_
  · cases d <;> first | exact absurd rfl (hd _) | simp [execOp, ho, Instr.makeInterface, run_underlying ht]
  · show DR M.imm (.iface t _) _
    simp only [DR]
    exact ⟨_, rfl, DR_canon2 hax⟩

theorem evCaps_spec (he : EnvR M e a.tmps) : ∀ {xs : List Operand} {xs' : List Opd} {l : List (Nat × Nat)}, xs.mapM cOpd = some xs' → evR.evCaps (evL e xs') = some l → CapsR M l (xs.map a.eval)
  | [], xs', l, h, hl => by
    simp at h
    subst h
    simp [evL, evR.evCaps] at hl
    subst hl
    rfl
  | x :: xs, xs', l, h, hl => by
    simp only [List.mapM_cons, Option.bind_eq_bind, Option.pure_def] at h
    cases hx : cOpd x with
    | none => simp [hx] at h
    | some x' =>
      simp only [hx, Option.bind_some] at h
      cases hxs : xs.mapM cOpd with
      | none => simp [hxs] at h
      | some ys =>
        simp only [hxs, Option.bind_some, Option.some.injEq] at h
        subst h
        have hax := opd_sound he hx
        simp only [evL] at hl
        cases hv : x'.ev e with
        | bp b off =>
          rw [hv] at hax hl
          simp only [evR.evCaps] at hl
          cases hr : evR.evCaps (evL e ys) with
          | none => simp [hr] at hl
          | some r =>
            simp only [hr, Option.some.injEq] at hl
            subst hl
            obtain ⟨g, h1, h2⟩ := hax
            exact ⟨g, xs.map a.eval, by simp [h2], h1, evCaps_spec he hxs hr⟩
        | _ => rw [hv] at hl; simp [evR.evCaps] at hl
theorem rok_mkf (hw : WR M bs tau w) (he : EnvR M e a.tmps) {f : FuncId} {first caps : Array Operand} {caps' : List Opd} {l : List (Nat × Nat)} (ho : o.op = .makeFunc (.func f) first caps) (hf : first.size = 0) (hc : caps.toList.mapM cOpd = some caps')
    (hl : evR.evCaps (evL e caps') = some l) : ROK P o a w M (.fn f l) bs tau := by
  have h0 : first = #[] := Array.eq_empty_of_size_eq_zero hf
  subst h0
  refine ROK.same (v := .func (.func f) #[] (caps.map a.eval)) hw (by simp [execOp, ho, Instr.makeFunc]) ⟨_, rfl, ?_⟩
  simpa using evCaps_spec he hc hl
end
end Go.Abs

/- The instructions, fourth part: literals and append. -/
namespace Go.Abs
open Go

theorem DR.cells1 {m : Addr → Option Value} {x : DV} {v : Value} (h : DR m x v) (hx : ∀ z, x ≠ .tup z) : DRs m x.cells v.cells.toList := by
  cases x
  case tup z => exact absurd rfl (hx z)
  case agg ds =>
    simp only [DR] at h
    obtain ⟨vs, rfl, hs⟩ := h
    simpa [DV.cells, Value.cells] using hs
  all_goals
    refine h.cells ?_
    rw [h.ofCell (by intro cs e; cases e)]
    cases v <;> simp [Value.oneCell'] <;> simp [DR, Value.oneCell'] at h
theorem dvc_spec {M : Mem} {x : AV} {v : Value} {y : DV} (h : AR M x v) (hy : x.dvc = some y) : DR M.imm y v ∧ ∀ z, y ≠ .tup z := by
  unfold AV.dvc at hy
  split at hy
  · cases hy
  · rename_i hne
    refine ⟨h.dv hy, fun z e => ?_⟩
    subst e
    cases x with
    | d x => simp [AV.dv] at hy; subst hy; exact hne _ rfl
    | sl t e sz es => simp [AV.dv] at hy
    | _ => simp [AV.dv] at hy
theorem canon2_tup {x : DV} (h : ∀ z, x ≠ .tup z) : ∀ z, canon2 x ≠ .tup z := by
  intro z
  cases x with
  | tup vs => exact (h _ rfl).elim
  | slice sz es => cases es <;> simp [canon2, canon1]
  | _ => simp [canon2, canon1]

/-- The model's way to put cells into a row. -/
theorem foldl_put (off : Nat) : ∀ (us : List Value) (k : Nat) (cs : Array Value), off + k + us.length ≤ cs.size →
    ((us.zipIdx k).foldl (fun (cs : Array Value) (p : Value × Nat) => cs.setIfInBounds (off + p.2) p.1) cs).toList = cs.toList.take (off + k) ++ us ++ cs.toList.drop (off + k + us.length)
  | [], k, cs, _ => by simp
  | u :: us, k, cs, h => by
    simp only [List.length_cons] at h
    simp only [List.zipIdx_cons, List.foldl_cons]
    rw [foldl_put off us (k + 1) _ (by simp; omega)]
    have hlt : off + k < cs.toList.length := by simp; omega
    simp only [Array.toList_setIfInBounds]
    have e1 : (cs.toList.set (off + k) u).take (off + (k + 1)) = cs.toList.take (off + k) ++ [u] := by
      rw [List.take_set, show off + (k + 1) = (off + k) + 1 from by omega, List.take_add_one, List.getElem?_eq_getElem hlt]
      simp only [Option.toList_some]
      rw [List.set_append_right _ _ (by rw [List.length_take]; exact Nat.min_le_left _ _)]
      simp [Nat.min_eq_left (show off + k ≤ cs.size by simp at hlt; omega)]
    have e2 : (cs.toList.set (off + k) u).drop (off + (k + 1) + us.length) = cs.toList.drop (off + k + (us.length + 1)) := by
      rw [List.drop_set_of_lt (by omega)]
      congr 1
      omega
    rw [e1, e2]
    simp
theorem put_toList (us : Array Value) (off : Nat) (cs : Array Value) (h : off + us.size ≤ cs.size) :
    (us.zipIdx.foldl (fun (cs : Array Value) (x : Value × Nat) => match x with | (c, j) => cs.setIfInBounds (off + j) c) cs).toList = cs.toList.take off ++ us.toList ++ cs.toList.drop (off + us.size) := by
  have := foldl_put off us.toList 0 cs (by simpa using h)
  simp only [Nat.add_zero, Array.length_toList] at this
  rw [← this, ← Array.foldl_toList]
  congr 1
  simp

theorem setCells_DRs {m : Addr → Option Value} : ∀ {xs : List DV} {us : List Value} {cs : List DV} {vs : List Value} {o : Nat}, DRs m xs us → DRs m cs vs → o + xs.length ≤ cs.length →
    DRs m (setCells cs o xs) (vs.take o ++ us ++ vs.drop (o + us.length))
  | [], us, cs, vs, o, hx, hc, _ => by
    simp only [DRs] at hx
    subst hx
    simpa [setCells] using hc
  | x :: xs, us, cs, vs, o, hx, hc, hl => by
    simp only [DRs] at hx
    obtain ⟨u, r, rfl, h2, h3, h4⟩ := hx
    simp only [setCells]
    simp only [List.length_cons] at hl
    have := setCells_DRs (o := o + 1) h4 (hc.set (i := o) h2 h3) (by simp; omega)
    have hlen : vs.length = cs.length := hc.length
    have e1 : (vs.set o u).take (o + 1) = vs.take o ++ [u] := by
      rw [List.take_set, List.take_add_one, List.getElem?_eq_getElem (show o < vs.length by omega)]
      simp only [Option.toList_some]
      rw [List.set_append_right _ _ (by rw [List.length_take]; exact Nat.min_le_left _ _)]
      simp [Nat.min_eq_left (show o ≤ vs.length by omega)]
    have e2 : (vs.set o u).drop (o + 1 + r.length) = vs.drop (o + (r.length + 1)) := by
      rw [List.drop_set_of_lt (by omega)]
      congr 1
      omega
    rw [e1, e2] at this
    simpa using this
theorem length_setCells : ∀ (xs cs : List DV) (o : Nat), (setCells cs o xs).length = cs.length
  | [], cs, o => rfl
  | x :: xs, cs, o => by simp [setCells, length_setCells xs]

theorem DRe.set {m : Addr → Option Value} {sz : Nat} : ∀ {es : List DV} {vs : List Value} {i : Nat} {x : DV} {u : Value}, DRe m sz es vs → DR m x u → u.cells.size = sz → (∀ y ∈ u.cells.toList, y.oneCell' = true) → i < es.length →
    DRe m sz (es.set i x) (vs.take (i * sz) ++ u.cells.toList ++ vs.drop (i * sz + sz))
  | [], vs, i, x, u, _, _, _, _, hi => by simp at hi
  | c :: cs, vs, 0, x, u, h, hx, hu, h1, _ => by
    simp only [DRe] at h
    obtain ⟨y, r, rfl, h2, h3, h4, h5⟩ := h
    simp only [List.set_cons_zero, DRe, Nat.zero_mul, List.take_zero, List.nil_append, Nat.zero_add]
    refine ⟨u, r, ?_, hu, h1, hx, h5⟩
    rw [List.drop_left' (by simpa using h2)]
  | c :: cs, vs, i + 1, x, u, h, hx, hu, h1, hi => by
    simp only [DRe] at h
    obtain ⟨y, r, rfl, h2, h3, h4, h5⟩ := h
    have ih := DRe.set (i := i) h5 hx hu h1 (by simpa using hi)
    simp only [List.set_cons_succ, DRe]
    refine ⟨y, _, ?_, h2, h3, h4, ih⟩
    have e1 : (y.cells.toList ++ r).take ((i + 1) * sz) = y.cells.toList ++ r.take (i * sz) := by
      rw [Nat.succ_mul, Nat.add_comm, List.take_append, List.take_of_length_le (by simp [h2])]
      simp [h2]
    have e2 : (y.cells.toList ++ r).drop ((i + 1) * sz + sz) = r.drop (i * sz + sz) := by
      rw [Nat.succ_mul, show i * sz + sz + sz = sz + (i * sz + sz) from by omega, ← List.drop_drop, List.drop_left' (by simpa using h2)]
    rw [e1, e2]
    simp

section
variable {P : Program} {o : Oper} {a : Act} {w : World} {M : Mem} {bs : List Box} {tau : List Nat} {e : Env}

/-- A struct's literal. -/
theorem fill_build (he : EnvR M e a.tmps) {fs : Array Field} : ∀ {parts : List (Nat × Operand)} {ps : List (Nat × Nat × Opd)} {zs cs : List DV} {zero : Array Value},
    (parts.mapM fun (p : Nat × Operand) => do
      let f ← fs[p.1]?
      pure (f.offset, P.cellsOf f.type, ← cOpd p.2)) = some ps → fillD e zs ps = some cs → DRs M.imm zs zero.toList →
    ∃ cells, Instr.fill (fun i => (fs.map fun f => (f.offset, P.cellsOf f.type))[i]?) zero (parts.map fun p => (p.1, a.eval p.2)) = some cells ∧ DRs M.imm cs cells.toList
  | [], ps, zs, cs, zero, h, hf, hz => by
    simp at h
    subst h
    simp [fillD] at hf
    subst hf
    exact ⟨zero, rfl, hz⟩
  | (i, x) :: parts, ps, zs, cs, zero, h, hf, hz => by
    simp only [List.mapM_cons, Option.bind_eq_bind, Option.pure_def] at h
    cases hfi : fs[i]? with
    | none => simp [hfi] at h
    | some f =>
      cases hx : cOpd x with
      | none => simp [hfi, hx] at h
      | some x' =>
        simp only [hfi, hx, Option.bind_some] at h
        cases hps : (parts.mapM fun (p : Nat × Operand) => (fs[p.1]?).bind fun f => (cOpd p.2).bind fun y => some (f.offset, P.cellsOf f.type, y)) with
        | none => simp [hps] at h
        | some ps' =>
          simp only [hps, Option.bind_some, Option.some.injEq] at h
          subst h
          simp only [fillD] at hf
          split at hf
          · rename_i v hv
            split at hf
            · rename_i hc
              obtain ⟨hc1, hc2⟩ := hc
              obtain ⟨h1, h2⟩ := dvc_spec (opd_sound he hx) hv
              have h3 := (DR_canon2 h1).cells1 (canon2_tup h2)
              have hlen := h3.length
              have hzl := hz.length
              rw [hc1] at hlen
              simp only [Array.length_toList] at hlen hzl
              have hput := put_toList (a.eval x).cells f.offset zero (by omega)
              have hnew : DRs M.imm (setCells zs f.offset (canon2 v).cells) ((a.eval x).cells.zipIdx.foldl (fun (cs : Array Value) (x : Value × Nat) => match x with | (c, j) => cs.setIfInBounds (f.offset + j) c) zero).toList := by
                rw [hput]
                have := setCells_DRs h3 hz (o := f.offset) (by omega)
                simpa using this
              obtain ⟨cells, h4, h5⟩ := fill_build he (parts := parts) (by simpa only [Option.bind_eq_bind, Option.pure_def] using hps) hf hnew
              refine ⟨cells, ?_, h5⟩
              simp only [List.map_cons, Instr.fill, Array.getElem?_map, hfi, Option.map_some]
              rw [if_neg (by simp [hlen]; omega)]
              simpa only [Array.getElem?_map] using h4
            · cases hf
          · cases hf

theorem run_places {fs : Array Field} (h : fs.all (fun f => tOk P f.type) = true) (w : World) :
    (fs.mapM (fun f => do pure (f.offset, ← sizeOf f.type)) : Sem (Array (Nat × Nat))).run P w = .ok (fs.map fun f => (f.offset, P.cellsOf f.type)) w := by
  rw [Array.mapM_eq_mapM_toList]
  have key : ∀ (l : List Field), (∀ f ∈ l, tOk P f.type = true) → (l.mapM (fun f => do pure (f.offset, ← sizeOf f.type)) : Sem (List (Nat × Nat))).run P w = .ok (l.map fun f => (f.offset, P.cellsOf f.type)) w := by
    intro l
    induction l with
    | nil => intro _; simp
    | cons f l ih =>
      intro hl
      simp only [List.mapM_cons, Sem.run_bind, run_sizeOf (hl f (by simp)), Result.andThen_ok, Sem.run_pure, ih (fun g hg => hl g (by simp [hg])), List.map_cons]
  have := key fs.toList (fun f hf => by
    rw [Array.all_eq_true_iff_forall_mem] at h
    exact h f (by simpa using hf))
  rw [map_eq_pure_bind, Sem.run_bind, this]
  simp only [Result.andThen_ok, Sem.run_pure]
  congr 1
  apply Array.ext'
  simp

theorem run_zeroValue {t : TypeId} {i : TypeInfo} {z : Value} (hi : P.info? t = some i) (hz : i.zero = some z) (w : World) : (zeroValue t).run P w = .ok z w := by
  simp [zeroValue, typeInfo, hi, hz]
theorem run_newRow (w : World) (t : TypeId) (cs : Array Value) : (newRow t cs).run P w = .ok ⟨w.heap.size, 0, none⟩ (w.alloc (.cells cs t)) := by
  simp only [newRow, newObj, Sem.run_bind, Sem.run, Result.andThen_ok, Sem.run_pure]
  rfl

theorem rok_build (hw : WR M bs tau w) (he : EnvR M e a.tmps) {t : TypeId} {parts : Array (Nat × Operand)} {fs : Array Field} {z cs : List DV} {ps : List (Nat × Nat × Opd)} (ho : o.op = .build t parts) (hz : zeroCs P t = some z) (ht : P.underlying t = some (.struct fs))
    (hps : (parts.toList.mapM fun (p : Nat × Operand) => do
      let f ← fs[p.1]?
      pure (f.offset, P.cellsOf f.type, ← cOpd p.2)) = some ps) (hall : fs.all (fun f => tOk P f.type) = true) (hf : fillD e z ps = some cs) : ROK P o a w M (.d (.agg cs)) bs tau := by
  obtain ⟨i, zv, hi, hzz, hd, _, _⟩ := zeroCs_spec hz
  obtain ⟨cells, h1, h2⟩ := fill_build he hps hf (hd M.imm)
  refine ROK.same (v := .agg cells) hw ?_ (by show DR M.imm (.agg cs) _; simp only [DR]; exact ⟨cells, rfl, h2⟩)
  have hp : ((parts.map fun (x : Nat × Operand) => match x with | (i, x) => (i, a.eval x)).toList) = parts.toList.map fun p => (p.1, a.eval p.2) := by simp
  simp only [execOp, ho, Instr.build, Sem.run_bind, run_zeroValue hi hzz, run_underlying ht, run_places hall, Result.andThen_ok, hp, h1, Sem.run_pure]

/- SLICES' LITERALS -/
theorem zeros_toList (zero : Array Value) (sz : Nat) (hz : zero.size = sz) : ∀ n : Nat, ((Array.range (n * sz)).map fun i => zero[i % zero.size]!).toList = (List.replicate n zero.toList).flatten := by
  have one : (List.range sz).map (fun i => zero[i % zero.size]!) = zero.toList := by
    apply List.ext_getElem?
    intro i
    by_cases hi : i < sz
    · simp only [List.getElem?_map, List.getElem?_range hi, Option.map_some, hz, Nat.mod_eq_of_lt hi]
      rw [getElem!_pos zero i (by omega)]
      simp [show i < zero.size by omega]
    · rw [List.getElem?_eq_none (by simp; omega), List.getElem?_eq_none (by simp; omega)]
  intro n
  induction n with
  | zero => simp
  | succ n ih =>
    simp only [Array.toList_map, Array.toList_range] at ih ⊢
    rw [Nat.succ_mul, Nat.add_comm, List.range_add, List.map_append, one, List.map_map]
    simp only [List.replicate_succ, List.flatten_cons]
    congr 1
    rw [← ih]
    apply List.map_congr_left
    intro i _
    simp [hz]

theorem zeroEl_one {m : Addr → Option Value} {sz : Nat} {zero : List DV} {zv : List Value} (h : DRs m zero zv) (hl : zero.length = sz) :
    ∃ u : Value, zv = u.cells.toList ∧ u.cells.size = sz ∧ (∀ x ∈ u.cells.toList, x.oneCell' = true) ∧ DR m (zeroEl sz zero) u := by
  have hlen := h.length
  have hone := h.one
  have agg : ∃ u : Value, zv = u.cells.toList ∧ u.cells.size = sz ∧ (∀ x ∈ u.cells.toList, x.oneCell' = true) ∧ DR m (.agg (zero.map canon1)) u :=
    ⟨.agg zv.toArray, by simp [Value.cells], by simp [Value.cells, hlen, hl], by simpa [Value.cells] using hone, by simp only [DR]; exact ⟨_, rfl, by simpa using DRs_canon1 h⟩⟩
  unfold zeroEl
  split
  · rename_i x
    split
    · rename_i h1
      simp only [DRs] at h
      obtain ⟨u, r, rfl, h2, h3, rfl⟩ := h
      have hu : u.cells = #[u] := by cases u <;> first | rfl | simp [Value.oneCell'] at h3
      exact ⟨u, by rw [hu], by rw [hu]; simpa using h1.symm, by rw [hu]; simpa using h3, DR_canon1 h2⟩
    · exact agg
  · exact agg
theorem zeroEl_DRe {m : Addr → Option Value} {sz : Nat} {zero : List DV} {zv : List Value} (h : DRs m zero zv) (hl : zero.length = sz) : ∀ n : Nat, DRe m sz (List.replicate n (zeroEl sz zero)) (List.replicate n zv).flatten
  | 0 => by simp [DRe]
  | n + 1 => by
    obtain ⟨u, h1, h2, h3, h4⟩ := zeroEl_one h hl
    simp only [List.replicate_succ, DRe, List.flatten_cons]
    exact ⟨u, _, by rw [← h1], h2, h3, h4, zeroEl_DRe h hl n⟩

theorem fill_slice (he : EnvR M e a.tmps) {sz : Nat} : ∀ {parts : List (Nat × Operand)} {ps : List (Nat × Opd)} {zs es : List DV} {zero : Array Value},
    (parts.mapM fun (p : Nat × Operand) => do pure (p.1, ← cOpd p.2)) = some ps → fillE e sz zs ps = some es → DRe M.imm sz zs zero.toList →
    ∃ cells, Instr.fill (fun i => some (i * sz, sz)) zero (parts.map fun p => (p.1, a.eval p.2)) = some cells ∧ DRe M.imm sz es cells.toList ∧ es.length = zs.length
  | [], ps, zs, es, zero, h, hf, hz => by
    simp at h
    subst h
    simp [fillE] at hf
    subst hf
    exact ⟨zero, rfl, hz, rfl⟩
  | (i, x) :: parts, ps, zs, es, zero, h, hf, hz => by
    simp only [List.mapM_cons, Option.bind_eq_bind, Option.pure_def] at h
    cases hx : cOpd x with
    | none => simp [hx] at h
    | some x' =>
      simp only [hx, Option.bind_some] at h
      cases hps : (parts.mapM fun (p : Nat × Operand) => (cOpd p.2).bind fun y => some (p.1, y)) with
      | none => simp [hps] at h
      | some ps' =>
        simp only [hps, Option.bind_some, Option.some.injEq] at h
        subst h
        simp only [fillE] at hf
        split at hf
        · rename_i v hv
          split at hf
          · rename_i hc
            obtain ⟨hc1, hc2⟩ := hc
            obtain ⟨h1, h2⟩ := dvc_spec (opd_sound he hx) hv
            have h3 := (DR_canon2 h1).cells1 (canon2_tup h2)
            have hlen := h3.length
            have hzl := hz.length
            rw [hc1] at hlen
            simp only [Array.length_toList] at hlen hzl
            have hle : i * sz + sz ≤ zs.length * sz := by
              rw [← Nat.succ_mul]
              exact Nat.mul_le_mul_right _ hc2
            have hput := put_toList (a.eval x).cells (i * sz) zero (by omega)
            have hnew : DRe M.imm sz (zs.set i (canon2 v)) ((a.eval x).cells.zipIdx.foldl (fun (cs : Array Value) (x : Value × Nat) => match x with | (c, j) => cs.setIfInBounds (i * sz + j) c) zero).toList := by
              rw [hput, hlen]
              exact hz.set (DR_canon2 h1) hlen h3.one hc2
            obtain ⟨cells, h4, h5, h6⟩ := fill_slice he (parts := parts) (by simpa only [Option.bind_eq_bind, Option.pure_def] using hps) hf hnew
            refine ⟨cells, ?_, h5, by simpa using h6⟩
            simp only [List.map_cons, Instr.fill]
            rw [if_neg (by simp [hlen]; omega)]
            exact h4
          · cases hf
        · cases hf

theorem run_mks (he : EnvR M e a.tmps) {t t' : TypeId} {n : Nat} {parts : Array (Nat × Operand)} {z es : List DV} {ps : List (Nat × Opd)} (ht : P.underlying t = some (.slice t')) (hz : zeroCs P t' = some z) (hsz : 0 < P.cellsOf t')
    (hps : (parts.toList.mapM fun (p : Nat × Operand) => do pure (p.1, ← cOpd p.2)) = some ps) (hn : n * P.cellsOf t' ≤ 2 ^ 20) (hf : fillE e (P.cellsOf t') (List.replicate n (zeroEl (P.cellsOf t') z)) ps = some es) (w : World) :
    ∃ cells : Array Value, (Instr.buildSlice t n (parts.map fun (x : Nat × Operand) => match x with | (i, x) => (i, a.eval x))).run P w = .ok (.slice (some ⟨w.heap.size, 0, none⟩) n n) (w.alloc (.cells cells t')) ∧ DRe M.imm (P.cellsOf t') es cells.toList ∧ es.length = n := by
  obtain ⟨i, zv, hi, hzz, hd, hl, hc⟩ := zeroCs_spec hz
  have hzs := hd M.imm
  have hzl := hzs.length
  rw [hl, ← hc] at hzl
  simp only [Array.length_toList] at hzl
  obtain ⟨cells, h1, h2, h3⟩ := fill_slice he (zero := (Array.range (n * P.cellsOf t')).map fun i => zv.cells[i % zv.cells.size]!) hps hf (by
    rw [zeros_toList zv.cells _ hzl]
    exact zeroEl_DRe hzs (by rw [hl, hc]) n)
  refine ⟨cells, ?_, h2, by simpa using h3⟩
  have hp : ((parts.map fun (x : Nat × Operand) => match x with | (i, x) => (i, a.eval x)).toList) = parts.toList.map fun p => (p.1, a.eval p.2) := by simp
  have hts : (sizeOf t').run P w = .ok (P.cellsOf t') w := by simp [sizeOf, typeInfo, hi, hc]
  have h24 : ¬ (n * P.cellsOf t' > 2 ^ 24) := by omega
  simp only [Instr.buildSlice, Sem.run_bind, run_underlying ht, Result.andThen_ok, hts]
  rw [if_neg h24]
  by_cases h0 : n * P.cellsOf t' = 0
  · have hn0 : n = 0 := by
      rcases Nat.mul_eq_zero.1 h0 with h | h
      · exact h
      · omega
    subst hn0
    have e0 : ((Array.range (0 * P.cellsOf t')).map fun i => zv.cells[i % zv.cells.size]!) = ((Array.range (0 * P.cellsOf t')).map fun i => (#[] : Array Value)[i % (#[] : Array Value).size]!) := by simp
    rw [e0] at h1
    rw [if_pos h0]
    simp only [Sem.run_bind, Sem.run_pure, Result.andThen_ok, hp, h1, run_newRow]
  · rw [if_neg h0]
    simp only [Sem.run_bind, Sem.run_pure, Result.andThen_ok, run_zeroValue hi hzz, hp, h1, run_newRow]

theorem rok_mks (hw : WR M bs tau w) (he : EnvR M e a.tmps) {t t' : TypeId} {n : Nat} {parts : Array (Nat × Operand)} {z es : List DV} {ps : List (Nat × Opd)} (ho : o.op = .buildSlice t n parts) (ht : P.underlying t = some (.slice t')) (hz : zeroCs P t' = some z) (hsz : 0 < P.cellsOf t')
    (hps : (parts.toList.mapM fun (p : Nat × Operand) => do pure (p.1, ← cOpd p.2)) = some ps) (hn : n * P.cellsOf t' ≤ 2 ^ 20) (hf : fillE e (P.cellsOf t') (List.replicate n (zeroEl (P.cellsOf t') z)) ps = some es) :
    ROK P o a w M (.d (.slice (P.cellsOf t') es)) bs tau ∧ ROK P o a w M (.sl tau.length t' (P.cellsOf t') es) bs (tau ++ [n]) := by
  obtain ⟨cells, h1, h2, h3⟩ := run_mks he ht hz hsz hps hn hf w
  have hs := HeapSame.alloc w (.cells cells t')
  have hc := heap_new w (.cells cells t')
  have hw1 := hw.addImm hs (Nat.le_refl _) (by simp) hc (xs := cells.toList) (fun k u hk => by simpa using hk)
  have hs1 : SR M w (M.addImm w.heap.size cells.toList) (w.alloc (.cells cells t')) := SR.addImm hw (Nat.le_refl _) (Ext.alloc _ _)
  have hrun : (execOp a.eval o).run P w = .ok (.value (.slice (some ⟨w.heap.size, 0, none⟩) n n)) (w.alloc (.cells cells t')) := by
    simp only [execOp, ho, Sem.run_bind, h1, Result.andThen_ok, Sem.run_pure]
  have hd : DR (M.addImm w.heap.size cells.toList).imm (.slice (P.cellsOf t') es) (.slice (some ⟨w.heap.size, 0, none⟩) n n) := by
    simp only [DR]
    exact ⟨some ⟨w.heap.size, 0, none⟩, n, cells.toList, by rw [h3], by omega, DRe.mono hs1.le.imm _ _ _ h2, fun k u hk => ⟨_, rfl, addImm_get hk⟩⟩
  refine ⟨⟨_, _, _, _, hrun, .inl rfl, hs1, hw1, hd⟩, ?_⟩
  have hlen := h2.length
  simp only [Array.length_toList] at hlen
  rw [h3] at hlen
  have hown : (w.alloc (.cells cells t')).ownsRow 0 t' (P.cellsOf t') (.slice (some ⟨w.heap.size, 0, none⟩) n n) n cells.toList := by
    refine ⟨by simpa using hlen, .inr ⟨w.heap.size, n, cells, rfl, Nat.zero_le _, hc, Nat.le_refl _, ?_, hlen, ?_⟩⟩
    · unfold maxLen
      have : n * 1 ≤ n * P.cellsOf t' := Nat.mul_le_mul_left _ hsz
      omega
    · have : n * P.cellsOf t' = cells.toList.length := by simpa using hlen.symm
      rw [this, List.take_length]
  have hg : ∀ k, some w.heap.size = some k → (M.addImm w.heap.size cells.toList).own k = none ∧ k < (w.alloc (.cells cells t')).heap.size := by
    intro k hk
    cases hk
    exact ⟨hw.own_new (Nat.le_refl _), by simp⟩
  refine ⟨_, _, _, _, hrun, .inl rfl, hs1.trans (SR.addTok hw1 hg (n := n) (v := .slice (some ⟨w.heap.size, 0, none⟩) n n) (e := t') (sz := P.cellsOf t')), hw1.addTok hg hsz hown rfl ?_, ?_, ?_, ?_⟩
  · intro k off hk ho
    simp [Value.ownBlock] at hk
    subst hk
    simp only [Mem.addImm, and_self, if_true]
    exact List.getElem?_eq_none (by simp; omega)
  · exact DR.mono (Mle.addTok hw1).imm _ _ hd
  · simp [Mem.addTok, h3]
  · simp [Mem.addTok]
end
end Go.Abs

/- The instructions, fifth part: append. -/
namespace Go.Abs
open Go

section
variable {P : Program} {o : Oper} {a : Act} {w : World} {M : Mem} {bs : List Box} {tau : List Nat} {e : Env}

theorem run_app {t : TypeId} {x y : Operand} (ho : o.op = .call { callee := .builtin .append, args := #[x, y], argTypes := #[t, t] }) {u : Value} {w' : World} (h : (Builtin.append_ #[t, t] o.type #[a.eval x, a.eval y]).run P w = .ok u w') :
    (execOp a.eval o).run P w = .ok (.value u) w' := by
  simp [execOp, ho, resolve, invoke, builtin, h]

theorem DRe_nil_of_length {m : Addr → Option Value} {sz : Nat} {es : List DV} {vs : List Value} (h : DRe m sz es vs) (h0 : es = []) : vs = [] := by
  subst h0
  simpa [DRe] using h

/-- Onto nothing: a new row. -/
theorem app_new (hw : WR M bs tau w) {t t' : TypeId} {z : List DV} {ys : List DV} {A : Option Addr} {c : Nat} {vs : List Value} (ty : TypeId) (ht : P.underlying t = some (.slice t')) (hz : zeroCs P t' = some z) (hsz : 0 < P.cellsOf t') (hby : P.bytesOf t' ≤ 1024)
    (hne : ys ≠ []) (hle : ys.length ≤ maxLenN) (hvs : DRe M.imm (P.cellsOf t') ys vs) (hA : ∀ (k : Nat) u, vs[k]? = some u → ∃ ad, A = some ad ∧ M.imm (ad.add k) = some u) :
    ∃ u w' M', (Builtin.append_ #[t, t] ty #[.slice none 0 0, .slice A ys.length c]).run P w = .ok u w' ∧ SR M w M' w' ∧ WR M' bs (tau ++ [ys.length]) w' ∧ AR M' (.sl tau.length t' (P.cellsOf t') ys) u := by
  obtain ⟨i, zv, hi, hzz, hd, hl, hc⟩ := zeroCs_spec hz
  have hzl := (hd M.imm).length
  rw [hl] at hzl
  simp only [Array.length_toList] at hzl
  have hlen := hvs.length
  have hpos : 0 < ys.length := List.length_pos_iff.2 hne
  obtain ⟨ad, rfl⟩ : ∃ ad, A = some ad := by
    have : 0 < vs.length := by rw [hlen]; exact Nat.mul_pos hpos hsz
    obtain ⟨ad, h, _⟩ := hA 0 _ (List.getElem?_eq_getElem this)
    exact ⟨ad, h⟩
  have hbi : P.bytesOf t' = i.bytes := by simp [Program.bytesOf, hi]
  have hmax : ys.length ≤ 1073741824 := hle
  have hbytes : ys.length * i.bytes ≤ 1073741824 * 1024 := Nat.mul_le_mul hmax (by omega)
  have hrun := run_append_nil (P := P) w t ty t' i zv ht hi hzz ad ys.length c vs (by rw [hlen, hc]) (fun j v hj => by
    obtain ⟨ad', h, hm⟩ := hA j v hj
    cases h
    exact hw.imm _ _ hm) hpos (by omega) (by omega)
  have hs : HeapSame w (w.drew.alloc (.cells (vs.toArray ++ Builtin.zeroCells zv.cells (grownCap w ys.length 0 t' - ys.length)) t')) := HeapSame.alloc w.drew _
  have hcell := heap_new w.drew (.cells (vs.toArray ++ Builtin.zeroCells zv.cells (grownCap w ys.length 0 t' - ys.length)) t')
  have hx : ∀ (k : Nat) u, vs[k]? = some u → (vs.toArray ++ Builtin.zeroCells zv.cells (grownCap w ys.length 0 t' - ys.length))[k]? = some u := fun k u hk => by
    rw [Array.getElem?_append_left (by
      rcases Nat.lt_or_ge k vs.length with h | h
      · simpa using h
      · rw [List.getElem?_eq_none h] at hk; cases hk)]
    simpa using hk
  have hw1 := hw.addImm hs (g := w.heap.size) (Nat.le_refl _) (by simp) hcell hx
  have hs1 : SR M w (M.addImm w.heap.size vs) _ := SR.addImm hw (Nat.le_refl _) ((Ext.drew w).trans (Ext.alloc w.drew (.cells (vs.toArray ++ Builtin.zeroCells zv.cells (grownCap w ys.length 0 t' - ys.length)) t')))
  have hge := grownCap_ge w ys.length 0 t'
  have hcm : grownCap w ys.length 0 t' ≤ maxLen := grownCap_le_maxLen w ys.length 0 t' (by unfold maxLen; omega)
  have hd1 : DR (M.addImm w.heap.size vs).imm (.slice (P.cellsOf t') ys) (.slice (some ⟨w.heap.size, 0, none⟩) ys.length (grownCap w ys.length 0 t')) := by
    simp only [DR]
    exact ⟨some ⟨w.heap.size, 0, none⟩, _, vs, rfl, hge, DRe.mono hs1.le.imm _ _ _ hvs, fun k u hk => ⟨_, rfl, addImm_get hk⟩⟩
  have hown : (w.drew.alloc (.cells (vs.toArray ++ Builtin.zeroCells zv.cells (grownCap w ys.length 0 t' - ys.length)) t')).ownsRow 0 t' (P.cellsOf t') (.slice (some ⟨w.heap.size, 0, none⟩) ys.length (grownCap w ys.length 0 t')) ys.length vs := by
    refine ⟨hlen, .inr ⟨w.heap.size, _, _, rfl, Nat.zero_le _, hcell, hge, hcm, ?_, ?_⟩⟩
    · simp only [Array.size_append, List.size_toArray, size_zeroCells, hzl, hlen, hc, ← Nat.add_mul]
      congr 1
      omega
    · rw [← hlen]
      simp
  have hg : ∀ k, some w.heap.size = some k → (M.addImm w.heap.size vs).own k = none ∧ k < (w.drew.alloc (.cells (vs.toArray ++ Builtin.zeroCells zv.cells (grownCap w ys.length 0 t' - ys.length)) t')).heap.size := by
    intro k hk
    cases hk
    exact ⟨hw.own_new (Nat.le_refl _), by simp⟩
  refine ⟨_, _, _, hrun, hs1.trans (SR.addTok hw1 hg (n := ys.length) (v := .slice (some ⟨w.heap.size, 0, none⟩) ys.length (grownCap w ys.length 0 t')) (e := t') (sz := P.cellsOf t')), hw1.addTok hg hsz hown rfl ?_, ?_, ?_, ?_⟩
  · intro k off hk ho
    simp [Value.ownBlock] at hk
    subst hk
    simp only [Mem.addImm, and_self, if_true]
    exact List.getElem?_eq_none (by omega)
  · exact DR.mono (Mle.addTok hw1).imm _ _ hd1
  · simp [Mem.addTok]
  · simp [Mem.addTok]

/-- Onto a row of the call's own: more than nothing. -/
theorem app_more (hw : WR M bs tau w) {t t' : TypeId} {z : List DV} {xs ys : List DV} {tk : Nat} {v : Value} {A : Option Addr} {c : Nat} {vs : List Value} (ty : TypeId) (ht : P.underlying t = some (.slice t')) (hz : zeroCs P t' = some z) (hsz : 0 < P.cellsOf t') (hby : P.bytesOf t' ≤ 1024)
    (hx : AR M (.sl tk t' (P.cellsOf t') xs) v) (htk : tau[tk]? = some xs.length)
    (hne : ys ≠ []) (hle : xs.length + ys.length ≤ maxLenN) (hvs : DRe M.imm (P.cellsOf t') ys vs) (hA : ∀ (k : Nat) u, vs[k]? = some u → ∃ ad, A = some ad ∧ M.imm (ad.add k) = some u) :
    ∃ u w' M', (Builtin.append_ #[t, t] ty #[v, .slice A ys.length c]).run P w = .ok u w' ∧ SR M w M' w' ∧ WR M' bs (tau.set tk (xs.length + ys.length)) w' ∧ AR M' (.sl tk t' (P.cellsOf t') (xs ++ ys)) u := by
  obtain ⟨i, zv, hi, hzz, hd, hl, hc⟩ := zeroCs_spec hz
  have hzl := (hd M.imm).length
  rw [hl] at hzl
  simp only [Array.length_toList] at hzl
  have hlen := hvs.length
  have hpos : 0 < ys.length := List.length_pos_iff.2 hne
  obtain ⟨ad, rfl⟩ : ∃ ad, A = some ad := by
    have : 0 < vs.length := by rw [hlen]; exact Nat.mul_pos hpos hsz
    obtain ⟨ad, h, _⟩ := hA 0 _ (List.getElem?_eq_getElem this)
    exact ⟨ad, h⟩
  have hbi : P.bytesOf t' = i.bytes := by simp [Program.bytesOf, hi]
  have hmax : xs.length + ys.length ≤ 1073741824 := hle
  have hbytes : (xs.length + ys.length) * i.bytes ≤ 1073741824 * 1024 := Nat.mul_le_mul hmax (by omega)
  obtain ⟨hx1, hx2, hx3⟩ := hx
  obtain ⟨v', e', sz', us, k1, k2, _, k4, k5, k6⟩ := hw.tok tk _ htk
  rw [hx2] at k1
  cases k1
  rw [hx3] at k2
  cases k2
  have hnews : ∀ (j : Nat) u, vs[j]? = some u → w.cell? (ad.add j) = some u := fun j u hj => by
    obtain ⟨ad', h, hm⟩ := hA j u hj
    cases h
    exact hw.imm _ _ hm
  have h1 := hvs.one
  have huslen : us.length = xs.length * P.cellsOf t' := k4.1
  -- what is known of the row's cells is what the relation says
  have hus : DRe M.imm (P.cellsOf t') xs us := by
    simp only [DR] at hx1
    obtain ⟨A0, c0, us0, e1, e2, e3, e4⟩ := hx1
    have : us0 = us := by
      apply List.ext_getElem?
      intro k
      have hl0 := e3.length
      by_cases hk : k < us0.length
      · have h5 := List.getElem?_eq_getElem hk
        obtain ⟨ad0, h6, h7⟩ := e4 k _ h5
        have h8 := hw.imm _ _ h7
        subst h6
        have hkk : k < us.length := by rw [huslen, ← hl0]; exact hk
        have h9 := List.getElem?_eq_getElem hkk
        have h10 := k4.cells (g := ad0.block) (by rw [e1]; rfl) k _ h9
        have hblk : ad0 = ⟨ad0.block, 0, none⟩ := by
          rcases k4.2 with ⟨q, _⟩ | ⟨g, cap, cur, q, _⟩
          · rw [e1] at q; cases q
          · rw [e1] at q; cases q; rfl
        rw [← hblk, h8] at h10
        rw [h5, h9]
        exact h10
      · rw [List.getElem?_eq_none (by omega), List.getElem?_eq_none (by rw [huslen, ← hl0]; omega)]
    subst this
    exact e3
  have hall : DRe M.imm (P.cellsOf t') (xs ++ ys) (us ++ vs) := hus.append hvs
  have hlall : (us ++ vs).length = (xs.length + ys.length) * P.cellsOf t' := by rw [List.length_append, huslen, hlen, Nat.add_mul]
  have htl : tk < tau.length := by
    rcases Nat.lt_or_ge tk tau.length with h | h
    · exact h
    · rw [List.getElem?_eq_none h] at htk; cases htk
  -- the end, whatever has become of the row
  have fin : ∀ (u : Value) (w' : World) (g' : Nat), (Builtin.append_ #[t, t] ty #[v, .slice (some ad) ys.length c]).run P w = .ok u w' → Ext w w' →
      (∀ (k : Nat) o, w.heap[k]? = some o → M.own k ≠ some (.tok tk) → w'.heap[k]? = some o) → (∀ a u, M.imm a = some u → w'.cell? a = some u) →
      (∃ cap, u = .slice (some ⟨g', 0, none⟩) (xs.length + ys.length) cap ∧ xs.length + ys.length ≤ cap) → w'.ownsRow 0 t' (P.cellsOf t') u (xs.length + ys.length) (us ++ vs) → (M.own g' = some (.tok tk) ∨ w.heap.size ≤ g') → g' < w'.heap.size →
      (∀ off, (xs.length + ys.length) * P.cellsOf t' ≤ off → M.imm ⟨g', off, none⟩ = none) →
      ∃ u w' M', (Builtin.append_ #[t, t] ty #[v, .slice (some ad) ys.length c]).run P w = .ok u w' ∧ SR M w M' w' ∧ WR M' bs (tau.set tk (xs.length + ys.length)) w' ∧ AR M' (.sl tk t' (P.cellsOf t') (xs ++ ys)) u := by
    rintro u w' g' hrun hext hsame himm ⟨cap, rfl, hcap⟩ hrow hown hlt hfree
    have hsr := SR.bump hw (n' := xs.length + ys.length) (v' := .slice (some ⟨g', 0, none⟩) (xs.length + ys.length) cap) (xs' := us ++ vs) htk (by omega) himm (fun k u hk => ownsRow_at hrow rfl hk) hown hext
    refine ⟨_, _, _, hrun, hsr, hw.bump htk (by omega) hx3 hsz hext.size hsame himm hrow rfl hown hlt hfree, ?_, ?_, hsr.le.toke _ _ hx3⟩
    · show DR _ (.slice _ (xs ++ ys)) _
      simp only [DR]
      exact ⟨some ⟨g', 0, none⟩, cap, us ++ vs, by simp, by simpa using hcap, DRe.mono hsr.le.imm _ _ _ hall, fun k u hk => ⟨_, rfl, bump_get hk⟩⟩
    · simp [Mem.bump]
  have hge := fun old => grownCap_ge w (xs.length + ys.length) old t'
  have hcm := fun old => grownCap_le_maxLen w (xs.length + ys.length) old t' (by unfold maxLen; omega)
  -- a new block
  have newb : ∀ (old : Nat), (Builtin.append_ #[t, t] ty #[v, .slice (some ad) ys.length c]).run P w = .ok (.slice (some ⟨w.heap.size, 0, none⟩) (xs.length + ys.length) (grownCap w (xs.length + ys.length) old t'))
        (w.drew.alloc (.cells ((us ++ vs).toArray ++ Builtin.zeroCells zv.cells (grownCap w (xs.length + ys.length) old t' - (xs.length + ys.length))) t')) →
      ∃ u w' M', (Builtin.append_ #[t, t] ty #[v, .slice (some ad) ys.length c]).run P w = .ok u w' ∧ SR M w M' w' ∧ WR M' bs (tau.set tk (xs.length + ys.length)) w' ∧ AR M' (.sl tk t' (P.cellsOf t') (xs ++ ys)) u := by
    intro old hrun
    have hs : HeapSame w (w.drew.alloc (.cells ((us ++ vs).toArray ++ Builtin.zeroCells zv.cells (grownCap w (xs.length + ys.length) old t' - (xs.length + ys.length))) t')) := HeapSame.alloc w.drew _
    refine fin _ _ w.heap.size hrun ((Ext.drew w).trans (Ext.alloc _ _)) (fun k o h _ => hs k o h) (fun a u h => hs.cell (hw.imm a u h)) ⟨_, rfl, hge old⟩ ?_ (.inr (Nat.le_refl _)) (by simp) (fun off _ => hw.imm_new (Nat.le_refl _))
    refine ⟨hlall, .inr ⟨w.heap.size, _, _, rfl, Nat.zero_le _, heap_new w.drew _, hge old, hcm old, ?_, ?_⟩⟩
    · rw [Array.size_append, List.size_toArray, size_zeroCells, hzl, hlall, hc, ← Nat.add_mul]
      congr 1
      have := hge old
      omega
    · simp only [Array.toList_append]
      exact List.take_left' (by simpa using hlall)
  rcases k4.2 with ⟨rfl, h0⟩ | ⟨g, cap, cur, rfl, _, hg, hnc, hcap, hcs, htake⟩
  · have hus0 : us = [] := List.eq_nil_of_length_eq_zero (by rw [huslen, h0]; simp)
    have hrun := run_append_nil (P := P) w t ty t' i zv ht hi hzz ad ys.length c vs (by rw [hlen, hc]) hnews hpos (by omega) (by have : ys.length * i.bytes ≤ 1073741824 * 1024 := Nat.mul_le_mul (by omega) (by omega); omega)
    refine newb 0 ?_
    rw [hus0, h0, Nat.zero_add, List.nil_append]
    exact hrun
  · by_cases hroom : xs.length + ys.length ≤ cap
    · have hfit : xs.length * i.size + vs.length ≤ cur.size := by
        rw [hlen, hcs, hc, ← Nat.add_mul]
        exact Nat.mul_le_mul_right _ hroom
      have hrun := run_append_room (P := P) w t ty t' i ht hi g xs.length cap cur hg ad ys.length c vs (by rw [hlen, hc]) hnews h1 hroom hfit
      have hown := k5 g rfl
      have hrow : (w.setRow g (cur.toList.take (xs.length * i.size) ++ vs ++ cur.toList.drop (xs.length * i.size + vs.length)).toArray).ownsRow 0 t' (P.cellsOf t') (.slice (some ⟨g, 0, none⟩) (xs.length + ys.length) cap) (xs.length + ys.length) (us ++ vs) := by
        refine ⟨hlall, .inr ⟨g, cap, _, rfl, Nat.zero_le _, setRow_heap w g cur _ t' _ hg, hroom, hcap, ?_, ?_⟩⟩
        · simp only [List.size_toArray, List.length_append, List.length_take, List.length_drop, Array.length_toList]
          omega
        · rw [← hc, htake, ← hlall]
          exact List.take_left
      refine fin _ _ g hrun (setRow_ext w g _) (fun k o h hk => ?_) (fun a u h => ?_) ⟨cap, rfl, hroom⟩ hrow (.inl hown) ?_ (fun off ho => k6 g off rfl (Nat.le_trans (Nat.mul_le_mul_right _ (by omega)) ho))
      · rw [setRow_other w g k _ (fun e => hk (by rw [e]; exact hown))]
        exact h
      · by_cases hb : a.block = g
        · have hcell := hw.imm a u h
          have hsp : a = ⟨g, a.off, none⟩ := by
            cases a with
            | mk b off sp =>
              simp only at hb
              subst hb
              cases sp with
              | none => rfl
              | some s => simp [World.cell?, hg] at hcell
          have hlt : a.off < us.length := by
            rcases Nat.lt_or_ge a.off us.length with h' | h'
            · exact h'
            · have := k6 g a.off rfl (by rw [← huslen]; exact h')
              rw [← hsp, h] at this
              cases this
          have h2 := ownsRow_at hrow rfl (k := a.off) (u := us[a.off]) (by rw [List.getElem?_append_left hlt]; exact List.getElem?_eq_getElem hlt)
          have h3 := ownsRow_at k4 rfl (k := a.off) (u := us[a.off]) (List.getElem?_eq_getElem hlt)
          rw [hsp] at hcell ⊢
          rw [h3] at hcell
          rw [h2, hcell]
        · rw [World.cell?_of_block (setRow_other w g a.block _ hb)]
          exact hw.imm a u h
      · have := hw.lt g _ hown
        simpa [World.setRow] using this
    · have holds : ∀ (j : Nat) u, us[j]? = some u → w.cell? ((⟨g, 0, none⟩ : Addr).add j) = some u := k4.cells (g := g) rfl
      have hrun := run_append_grow (P := P) w t ty t' i zv ht hi hzz ⟨g, 0, none⟩ xs.length cap us (by rw [huslen, hc]) holds ad ys.length c vs (by rw [hlen, hc]) hnews (by omega) (by omega) (growslice_fits (by omega) (by omega))
      refine newb cap ?_
      rw [hrun]
      simp

theorem rok_app (hw : WR M bs tau w) (he : EnvR M e a.tmps) {t t' : TypeId} {x y : Operand} {x' y' : Opd} {z ys : List DV} {v : AV} {tau' : List Nat} (ho : o.op = .call { callee := .builtin .append, args := #[x, y], argTypes := #[t, t] })
    (ht : P.underlying t = some (.slice t')) (hz : zeroCs P t' = some z) (hsz : 0 < P.cellsOf t') (hby : P.bytesOf t' ≤ 1024) (hx : cOpd x = some x') (hy : cOpd y = some y')
    (h1 : elemsOf (P.cellsOf t') (y'.ev e) = some ys) (h2 : evApp t' (P.cellsOf t') tau (x'.ev e) ys = some (v, tau')) : ROK P o a w M v bs tau' := by
  obtain ⟨A, c, vs, h3, h4, h5, h6⟩ := elemsOf_spec (opd_sound he hy) h1
  have hax := opd_sound he hx
  obtain ⟨i, zv, hi, hzz, hd, hl, hc⟩ := zeroCs_spec hz
  have fin : (∃ u w' M', (Builtin.append_ #[t, t] o.type #[a.eval x, .slice A ys.length c]).run P w = .ok u w' ∧ SR M w M' w' ∧ WR M' bs tau' w' ∧ AR M' v u) → ROK P o a w M v bs tau' := by
    rintro ⟨u, w', M', k1, k2, k3, k4⟩
    exact ⟨_, w', M', u, run_app ho (by rw [h3]; exact k1), .inl rfl, k2, k3, k4⟩
  apply fin
  unfold evApp at h2
  split at h2
  · rename_i s hxn
    rw [hxn] at hax
    have hax : a.eval x = .slice none 0 0 := hax
    rw [hax]
    split at h2
    · rename_i hle
      cases h2
      by_cases hne : ys = []
      · subst hne
        have hrun := run_append_zero (P := P) w t o.type t' i ht hi none 0 0 (Nat.le_refl _) A c
        have hrow : w.ownsRow 0 t' (P.cellsOf t') (.slice none 0 0) 0 [] := World.ownsRow_nil w 0 t' _
        have hg : ∀ k, (none : Option Nat) = some k → M.own k = none ∧ k < w.heap.size := fun k h => by cases h
        refine ⟨_, w, _, hrun, SR.addTok hw hg (n := 0) (v := .slice none 0 0) (e := t') (sz := P.cellsOf t'), hw.addTok hg hsz hrow rfl (fun k off h => by cases h), ?_, by simp [Mem.addTok], by simp [Mem.addTok]⟩
        simp only [DR]
        exact ⟨none, 0, [], rfl, Nat.le_refl _, by simp [DRe], fun k u hk => by simp at hk⟩
      · exact app_new hw o.type ht hz hsz hby hne hle h5 h6
    · cases h2
  · rename_i tk e' sz' xs hxs
    rw [hxs] at hax
    split at h2
    · rename_i hcond
      obtain ⟨rfl, rfl, htk, hle⟩ := hcond
      cases h2
      by_cases hne : ys = []
      · subst hne
        obtain ⟨hx1, hx2, hx3⟩ := hax
        have hx1' := hx1
        simp only [DR] at hx1'
        obtain ⟨A0, c0, us, e1, e2, e3, e4⟩ := hx1'
        have hrun := run_append_zero (P := P) w t o.type e' i ht hi A0 xs.length c0 e2 A c
        have htl : tk < tau.length := by
          rcases Nat.lt_or_ge tk tau.length with h | h
          · exact h
          · rw [List.getElem?_eq_none h] at htk; cases htk
        have hset : tau.set tk (xs.length + ([] : List DV).length) = tau := by
          apply List.ext_getElem?
          intro k
          by_cases hk : tk = k
          · subst hk
            rw [List.getElem?_set_self htl, htk]
            rfl
          · rw [List.getElem?_set_ne hk]
        rw [hset]
        refine ⟨_, w, M, by rw [e1]; exact hrun, SR.refl M w, hw, ?_⟩
        rw [List.append_nil, ← e1]
        exact ⟨hx1, hx2, hx3⟩
      · exact app_more hw o.type ht hz hsz hby hax htk hne hle h5 h6
    · cases h2
  · cases h2
end
end Go.Abs
