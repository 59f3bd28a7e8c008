/-
  AmDefs: a part of the abstract machine that stands for runs of the program in the model: no statement of the seat is in it.
-/
import GoSem.Dispatch
import GoSem.Core.Machine
import GoSem.Machine.Return
set_option linter.unusedVariables false
namespace Go.AM

/-- Abstract values. -/
inductive AV where
  | bool (b : Bool)
  | int (k : IntKind) (n : Int)
  | str (s : List UInt8)
  | ptr (i o : Nat)
  | nilp
  | sl (i o len cap : Nat) (ex : Bool) (es : Nat)
  | nils
  | map (i : Nat)
  | nilm
  | fn (f : Nat) (first captured : List AV)
  | nilf
  | ifc (t : Nat) (v : AV)
  | nili
  | agg (cs : List AV)
  | tup (vs : List AV)
  deriving Inhabited

/-- Digits. -/
inductive D8 where
  | d0 | d1 | d2 | d3 | d4 | d5 | d6 | d7
  deriving DecidableEq

/-- Tries of eight branches, keyed by numbers. -/
inductive Tr (α : Type) where
  | leaf
  | node (v : Option α) (c0 c1 c2 c3 c4 c5 c6 c7 : Tr α)

def D8.of (n : Nat) : D8 := match n with
  | 0 => .d0
  | 1 => .d1
  | 2 => .d2
  | 3 => .d3
  | 4 => .d4
  | 5 => .d5
  | 6 => .d6
  | _ => .d7

/-- The digits of a number, with fuel. -/
noncomputable def pathF (f : Nat) : Nat → List D8 :=
  Nat.rec (motive := fun _ => Nat → List D8) (fun _ => []) (fun _ ih n => Nat.rec (motive := fun _ => List D8) [] (fun m _ => D8.of (Nat.mod m 8) :: ih (Nat.div m 8)) n) f
noncomputable def path (n : Nat) : List D8 := pathF (Nat.succ n) n

namespace Tr
variable {α : Type}
def val : Tr α → Option α
  | .leaf => none
  | .node v .. => v
def child (t : Tr α) (d : D8) : Tr α :=
  Tr.casesOn (motive := fun _ => Tr α) t .leaf (fun _ c0 c1 c2 c3 c4 c5 c6 c7 => D8.casesOn (motive := fun _ => Tr α) d c0 c1 c2 c3 c4 c5 c6 c7)
def setVal (t : Tr α) (x : Option α) : Tr α := match t with
  | .leaf => .node x .leaf .leaf .leaf .leaf .leaf .leaf .leaf .leaf
  | .node _ c0 c1 c2 c3 c4 c5 c6 c7 => .node x c0 c1 c2 c3 c4 c5 c6 c7
def setChild (t : Tr α) (d : D8) (c : Tr α) : Tr α :=
  Tr.casesOn (motive := fun _ => Tr α) t
    (D8.casesOn (motive := fun _ => Tr α) d (.node none c .leaf .leaf .leaf .leaf .leaf .leaf .leaf) (.node none .leaf c .leaf .leaf .leaf .leaf .leaf .leaf) (.node none .leaf .leaf c .leaf .leaf .leaf .leaf .leaf) (.node none .leaf .leaf .leaf c .leaf .leaf .leaf .leaf) (.node none .leaf .leaf .leaf .leaf c .leaf .leaf .leaf) (.node none .leaf .leaf .leaf .leaf .leaf c .leaf .leaf) (.node none .leaf .leaf .leaf .leaf .leaf .leaf c .leaf) (.node none .leaf .leaf .leaf .leaf .leaf .leaf .leaf c))
    (fun v c0 c1 c2 c3 c4 c5 c6 c7 => D8.casesOn (motive := fun _ => Tr α) d (.node v c c1 c2 c3 c4 c5 c6 c7) (.node v c0 c c2 c3 c4 c5 c6 c7) (.node v c0 c1 c c3 c4 c5 c6 c7) (.node v c0 c1 c2 c c4 c5 c6 c7) (.node v c0 c1 c2 c3 c c5 c6 c7) (.node v c0 c1 c2 c3 c4 c c6 c7) (.node v c0 c1 c2 c3 c4 c5 c c7) (.node v c0 c1 c2 c3 c4 c5 c6 c))
noncomputable def getP (p : List D8) : Tr α → Option α :=
  List.rec (motive := fun _ => Tr α → Option α) (fun t => t.val) (fun d _ ih t => ih (t.child d)) p
noncomputable def putP (p : List D8) : Tr α → Option α → Tr α :=
  List.rec (motive := fun _ => Tr α → Option α → Tr α) (fun t x => t.setVal x) (fun d _ ih t x => t.setChild d (ih (t.child d) x)) p
noncomputable def get (t : Tr α) (n : Nat) : Option α := getP (path n) t
noncomputable def put (t : Tr α) (n : Nat) (x : Option α) : Tr α := putP (path n) t x
end Tr

/-- Abstract blocks. -/
inductive AB where
  | cells (ex fz : Bool) (e : TypeId) (c : List AV)
  | ro (e : TypeId) (c : List AV)
  | map (es : List (AV × AV × Nat)) (clock : Nat)
  | sit (s : List UInt8) (pos : Nat)
  | mit (m : Option Nat) (since : Nat) (seen : List Nat) (last : Nat)
  deriving Inhabited

structure AH where
  next : Nat
  m : Tr AB

/-- What is held against what. -/
inductive EK where
  | bool | ptr | slice | map | func | iface (ts : List Nat)
  | flat (ks : List Nat)    -- a struct of bools (0), integers (1), strings (2)
  deriving Inhabited

/-- Compiled operations. -/
inductive ABin where
  | arith (op : BinOp)     -- + - * on integers, + on strings
  | div (op : BinOp)
  | bits (op : BinOp)
  | shift (op : BinOp)
  | cmp (op : BinOp)       -- comparisons on integers, strings
  | eqv (neg : Bool) (k : EK)   -- == != on the rest
  deriving Inhabited

inductive AConv where
  | int (k : IntKind)
  | same
  | str2bytes (e : TypeId)
  | bytes2str
  | int2str
  | bytesSame
  | toUnsafe
  | ofUnsafe (t : TypeId) (n : Nat)
  deriving Inhabited

inductive AOp where
  | move (x : Operand)
  | pick (c a b : Operand)
  | alloc (e : TypeId) (zero : List AV)
  | box (e : TypeId) (x : Operand)
  | build (zero : List AV) (parts : List (Nat × Nat × Operand))
  | buildSlice (e : TypeId) (len : Nat) (zero : List AV) (parts : List (Nat × Nat × Operand))
  | load (n : Nat) (isagg : Bool) (x : Operand)
  | store (n : Nat) (x v : Operand)
  | nilCheck (x : Operand)
  | bin (op : ABin) (x y : Operand)
  | un (op : UnOp) (x : Operand)
  | conv (c : AConv) (x : Operand)
  | mkIface (t : TypeId) (x : Operand)
  | mkFunc (f : Nat) (first captured : List Operand)
  | mkMap
  | mkSlice (e : TypeId) (bytes : Nat) (zero : List AV) (len cap : Operand)
  | sliceStr (x : Operand) (lo hi : Option Operand)
  | sliceSl (size : Nat) (x : Operand) (lo hi mx : Option Operand)
  | sliceArr (n size : Nat) (x : Operand) (lo hi mx : Option Operand)
  | fieldAddr (off : Nat) (x : Operand)
  | field (off n : Nat) (isagg : Bool) (x : Operand)
  | idxAddr (size : Nat) (arr : Option Nat) (x i : Operand)
  | idxStr (x i : Operand)
  | idxArr (len size : Nat) (isagg : Bool) (x i : Operand)
  | lookup (ks : Bool) (zero : AV) (m k : Operand) (ok : Bool)
  | mapUpdate (ks : Bool) (m k v : Operand)
  | range (isString : Bool) (x : Operand)
  | next (isString : Bool) (x : Operand)
  | entry (x : Operand)
  | tassert (asserted : TypeId) (ok : Bool) (zero : AV) (x : Operand)
  | extract (x : Operand) (i : Nat)
  | call (f : Operand) (args : List Operand)
  | append (e : TypeId) (size bytes : Nat) (s x : Operand)
  | appendZ (e : TypeId) (size bytes : Nat) (zero : List AV) (s n : Operand)
  | lenOf (k : Nat) (x : Operand)      -- of a string (0), a slice (1), a map (2)
  | lenArr (n : Nat)
  | capOf (x : Operand)
  | copy (size : Nat) (d s : Operand)
  | delete (ks : Bool) (m k : Operand)
  | clear (zero : List AV) (x : Operand)
  | minmax (isMin : Bool) (xs : List Operand)
  | uString (t : TypeId) (p n : Operand)
  | uSliceData (x : Operand)
  | ext (name : String) (args : List Operand)
  | bad (why : String)
  deriving Inhabited

structure AOper where
  dst : Option Nat
  op : AOp
  guard : Option (Nat × Bool)   -- the slot that is asked, and what it must hold
  deriving Inhabited

inductive ACode where
  | skip
  | seq (a b : ACode)
  | cond (c : Operand) (a b : ACode)
  | region (ops : List AOper)
  | draw (ops : List AOper) (conf : List (Nat × Nat))
  | block (id : Nat) (c : ACode)
  | loop (c : ACode)
  | exit (id : Nat)
  | ret
  | bad (why : String)
  deriving Inhabited

inductive ARes where
  | tmp (t : Nat)
  | cell (t n : Nat) (isagg : Bool)
  deriving Inhabited

structure AFun where
  ntmps : Nat
  res : List ARes
  body : ACode
  deriving Inhabited

/-! ## Compilation -/
section comp
variable (P : Program)

def avOf : Value → Option AV
  | .bool b => some (.bool b)
  | .int k n => some (.int k n)
  | .string s => some (.str s.data.toList)
  | .pointer none => some .nilp
  | .slice none 0 0 => some .nils
  | .map none => some .nilm
  | .nilFunc => some .nilf
  | .nilIface => some .nili
  | _ => none

def avsOf : List Value → Option (List AV)
  | [] => some []
  | v :: vs => match avOf v, avsOf vs with
    | some a, some as => some (a :: as)
    | _, _ => none

/-- A constant, whole. -/
def avWhole : Value → Option AV
  | .agg cs => (avsOf cs.toList).map .agg
  | .tuple vs => if vs.size = 0 then some (.tup []) else none
  | v => avOf v

def zeroOf (t : TypeId) : Option (List AV) := do
  let i ← P.info? t
  let z ← i.zero
  avsOf z.cells.toList
def zeroVal (t : TypeId) : Option AV := do
  let i ← P.info? t
  let z ← i.zero
  avWhole z
def sizeQ (t : TypeId) : Option Nat := (P.info? t).map (·.size)
def bytesQ (t : TypeId) : Option Nat := (P.info? t).map (·.bytes)
def aggQ (t : TypeId) : Option Bool := (P.underlying t).map fun | .struct _ | .array _ _ => true | _ => false
def elemQ (t : TypeId) : Option TypeId := match P.underlying t with | some (.slice e) => some e | _ => none

/-- The kinds of a struct's fields, each of one cell, one behind the other, all of them scalars that count. -/
def flatKs : Nat → List Field → Option (List Nat)
  | _, [] => some []
  | i, f :: r => if f.name = "_" ∨ f.offset ≠ i then none else
    match P.underlying f.type, flatKs (i + 1) r with
    | some .bool, some l => some (0 :: l)
    | some (.int _), some l => some (1 :: l)
    | some .string, some l => some (2 :: l)
    | _, _ => none

/-- The types that are integers beneath. -/
def intTypes : List Nat := (List.range P.types.size).filter fun u => match P.info? u, P.underlying u with
  | some i, some (.int _) => i.comparable
  | _, _ => false

def eqKind (t : TypeId) : Option EK :=
  match P.underlying t with
  | some .bool => some .bool
  | some (.pointer e) => match sizeQ P e with
    | some (_ + 1) => some .ptr
    | _ => none
  | some (.slice _) => some .slice
  | some (.map _ _) => some .map
  | some (.func _ _ _) => some .func
  | some (.interface _) => some (.iface (intTypes P))
  | some (.struct fs) => if P.stoodInHeld t = false ∧ P.eqGuardType P.depth t = false then (flatKs P 0 fs.toList).map .flat else none
  | _ => none

def compBin (op : BinOp) (t : TypeId) : Option ABin :=
  match P.underlying t with
  | some (.int _) => match op with
    | .add | .sub | .mul => some (.arith op)
    | .quo | .rem => some (.div op)
    | .and | .or | .xor | .andNot => some (.bits op)
    | .shl | .shr => some (.shift op)
    | .eql | .neq | .lss | .leq | .gtr | .geq => some (.cmp op)
  | some .string => match op with
    | .add => some (.arith op)
    | .eql | .neq | .lss | .leq | .gtr | .geq => some (.cmp op)
    | _ => none
  | some _ => match op with
    | .eql => (eqKind P t).map (.eqv false)
    | .neq => (eqKind P t).map (.eqv true)
    | _ => none
  | none => none

def isU8 (t : TypeId) : Bool := match P.underlying t with
  | some (.int .u8) => true
  | _ => false

def compConv (s d : TypeId) : Option AConv :=
  match P.underlying s, P.underlying d with
  | some (.int _), some (.int k) => some (.int k)
  | some .string, some .string => some .same
  | some .string, some (.slice e) => if isU8 P e = true then some (.str2bytes e) else none
  | some (.slice e), some .string => if isU8 P e = true then some .bytes2str else none
  | some (.int _), some .string => some .int2str
  | some (.slice _), some (.slice e) => if s = d ∧ isU8 P e = true then some .bytesSame else none
  | some (.pointer t), some .unsafePointer => if sizeQ P t = some 0 ∨ sizeQ P t = none then none else some .toUnsafe
  | some .unsafePointer, some (.pointer t) => match sizeQ P t with
    | some (n + 1) => some (.ofUnsafe t (n + 1))
    | _ => none
  | _, _ => none

def compParts (places : Nat → Option (Nat × Nat)) : List (Nat × Operand) → Option (List (Nat × Nat × Operand))
  | [] => some []
  | (i, x) :: r => match places i, compParts places r with
    | some (o, n), some r => some ((o, n, x) :: r)
    | _, _ => none

/-- integers: false; strings: true -/
def keyKind (t : TypeId) : Option Bool := match P.underlying t with
  | some (.int _) => some false
  | some .string => some true
  | _ => none

def compOpB : Op → Program → Option AOp
  | .move x | .assign x => fun P => some (.move x)
  | .pick c a b => fun P => some (.pick c a b)
  | .alloc e => fun P => (zeroOf P e).map (.alloc e)
  | .box e x => fun P => some (.box e x)
  | .build t ps => fun P => do
    let z ← zeroOf P t
    match P.underlying t with
    | some (.struct fs) => (if (fs.toList.all fun f => (sizeQ P f.type).isSome) = true then
        (compParts (fun i => do let f ← fs[i]?; let n ← sizeQ P f.type; pure (f.offset, n)) ps.toList).map (.build z)
      else none)
    | some (.array _ e) => do
      let n ← sizeQ P e
      let parts ← compParts (fun i => some (i * n, n)) ps.toList
      pure (.build z parts)
    | _ => none
  | .buildSlice t len ps => fun P => do
    let e ← elemQ P t
    let n ← sizeQ P e
    let z ← zeroOf P e
    let parts ← compParts (fun i => some (i * n, n)) ps.toList
    if z.length = n ∧ 0 < n ∧ len * n ≤ 2 ^ 24 then pure (.buildSlice e len z parts) else none
  | .load t x => fun P => do pure (.load (← sizeQ P t) (← aggQ P t) x)
  | .store t x v => fun P => do pure (.store (← sizeQ P t) x v)
  | .nilCheck x => fun P => some (.nilCheck x)
  | .binOp op t x y _ => fun P => do pure (.bin (← compBin P op t) x y)
  | .unOp op _ x => fun P => some (.un op x)
  | .convert s d x => fun P => do pure (.conv (← compConv P s d) x)
  | .makeInterface t x => fun P => match P.underlying t with
    | some (.interface _) => none
    | some _ => some (.mkIface t x)
    | none => none
  | .makeFunc (.func f) a b => fun P => some (.mkFunc f a.toList b.toList)
  | .makeMap _ r => fun P => match r with
    | none => some .mkMap
    | some _ => none
  | .makeSlice t l c => fun P => do
    let e ← elemQ P t
    let z ← zeroOf P e
    let n ← sizeQ P e
    if z.length = n ∧ 0 < n then pure (.mkSlice e (← bytesQ P e) z l c) else none
  | .slice t x lo hi mx => fun P =>
    match P.underlying t with
    | some .string => if mx.isSome then none else some (.sliceStr x lo hi)
    | some (.slice e) => do pure (.sliceSl (← sizeQ P e) x lo hi mx)
    | some (.array n e) => do pure (.sliceArr n (← sizeQ P e) x lo hi mx)
    | some (.pointer a) => match P.underlying a with
      | some (.array n e) => do pure (.sliceArr n (← sizeQ P e) x lo hi mx)
      | _ => none
    | _ => none
  | .fieldAddr t x i => fun P => match P.underlying t with
    | some (.struct fs) => do
      let f ← fs[i]?
      if (← sizeQ P f.type) = 0 then none else pure (.fieldAddr f.offset x)
    | _ => none
  | .field t x i => fun P => match P.underlying t with
    | some (.struct fs) => do
      let f ← fs[i]?
      pure (.field f.offset (← sizeQ P f.type) (← aggQ P f.type) x)
    | _ => none
  | .indexAddr t x i => fun P => match P.underlying t with
    | some (.slice e) => do pure (.idxAddr (← sizeQ P e) none x i)
    | some (.array n e) => do pure (.idxAddr (← sizeQ P e) (some n) x i)
    | _ => none
  | .index t x i => fun P => match P.underlying t with
    | some .string => some (.idxStr x i)
    | some (.array n e) => do pure (.idxArr n (← sizeQ P e) (← aggQ P e) x i)
    | _ => none
  | .lookup t m k ok => fun P => match P.underlying t with
    | some (.map kt e) => match keyKind P kt with
      | some ks => (zeroVal P e).map fun z => .lookup ks z m k ok
      | none => none
    | _ => none
  | .mapUpdate t m k v => fun P => match P.underlying t with
    | some (.map kt _) => (keyKind P kt).map fun ks => .mapUpdate ks m k v
    | _ => none
  | .range t x => fun P => match P.underlying t with
    | some .string => some (.range true x)
    | some (.map _ _) => some (.range false x)
    | _ => none
  | .next x s => fun P => some (.next s x)
  | .entry x => fun P => some (.entry x)
  | .typeAssert x _ t ok => fun P => match P.underlying t with
    | some (.interface _) => none
    | some _ => do pure (.tassert t ok (← zeroVal P t) x)
    | none => none
  | .extract x i => fun P => some (.extract x i)
  | .call c => fun P => match c.callee with
    | .value (.func f) => match P.funcs[f]? with
      | some fn => if fn.body.isSome then some (.call (.func f) c.args.toList) else if fn.origin = "" then some (.ext fn.name c.args.toList) else none
      | none => none
    | .value f => some (.call f c.args.toList)
    | .invoke _ _ => none
    | .builtin b => match b, c.args.toList with
      | .append, [s, x] => do
        let t ← c.argTypes[0]?
        let e ← elemQ P t
        let u ← c.argTypes[1]?
        let n ← sizeQ P e
        let z ← zeroOf P e
        if n = 0 ∨ z.length ≠ n then none else
        match P.underlying u with
        | some (.int _) => pure (.appendZ e n (← bytesQ P e) z s x)
        | some _ => pure (.append e n (← bytesQ P e) s x)
        | none => none
      | .len, [x] => do
        let t ← c.argTypes[0]?
        match P.underlying t with
        | some (.array n _) => pure (.lenArr n)
        | some (.pointer a) => match P.underlying a with
          | some (.array n _) => pure (.lenArr n)
          | _ => none
        | some .string => pure (.lenOf 0 x)
        | some (.slice _) => pure (.lenOf 1 x)
        | some (.map _ _) => pure (.lenOf 2 x)
        | _ => none
      | .cap, [x] => do
        let t ← c.argTypes[0]?
        match P.underlying t with
        | some (.slice _) => pure (.capOf x)
        | _ => none
      | .copy, [d, s] => do
        let t ← c.argTypes[0]?
        let e ← elemQ P t
        pure (.copy (← sizeQ P e) d s)
      | .delete, [m, k] => do
        let t ← c.argTypes[0]?
        match P.underlying t with
        | some (.map kt _) => (keyKind P kt).map fun ks => .delete ks m k
        | _ => none
      | .clear, [x] => do
        let t ← c.argTypes[0]?
        match P.underlying t with
        | some (.map _ _) => pure (.clear [] x)
        | some (.slice e) => do pure (.clear (← zeroOf P e) x)
        | _ => none
      | .min, xs => some (.minmax true xs)
      | .max, xs => some (.minmax false xs)
      | .unsafeString, [p, n] => do
        let pt ← c.argTypes[0]?
        match P.underlying pt with
        | some (.pointer t) => if sizeQ P t = some 1 then pure (.uString t p n) else none
        | _ => none
      | .unsafeSliceData, [x] => some (.uSliceData x)
      | _, _ => none
  | _ => fun P => none

def compOp (o : Oper) : Option AOp := compOpB o.op P

def compOper (ops : Array Oper) (o : Oper) : Option AOper :=
  match o.guard with
  | none => match compOp P o with
    | some op => some ⟨o.dst, op, none⟩
    | none => some ⟨o.dst, .bad o.pos, none⟩
  | some (j, b) => match (ops[j]?).bind (·.dst), compOp P o with
    | some d, some op => some ⟨o.dst, op, some (d, b)⟩
    | some d, none => some ⟨o.dst, .bad o.pos, some (d, b)⟩
    | _, _ => none

def compOps (ops : Array Oper) : List Oper → Option (List AOper)
  | [] => some []
  | o :: r => match compOper P ops o, compOps ops r with
    | some a, some r => some (a :: r)
    | _, _ => none

/-! ### drawn regions: what is checked ahead of any run -/
inductive Kd where
  | pure | read | alloc | eff
  deriving DecidableEq

def kindOf : AOp → Kd
  | .load .. | .lookup .. | .entry _ | .lenOf .. | .sliceArr .. => .read
  | .ext name _ => if name = "internal/abi.NoEscape" then .pure else .read
  | .conv c _ => match c with
    | .bytes2str | .toUnsafe | .ofUnsafe .. => .read
    | .str2bytes _ => .alloc
    | .bytesSame => .eff
    | _ => .pure
  | .alloc .. | .box .. | .buildSlice .. | .mkMap | .mkSlice .. => .alloc
  | .range s _ => if s then .alloc else .eff
  | .store .. | .mapUpdate .. | .next .. | .append .. | .appendZ .. | .copy .. | .delete .. | .clear .. | .uString .. | .call .. | .bad _ => .eff
  | _ => .pure

def tmpsOf : List Operand → List Nat
  | [] => []
  | .tmp t :: r => t :: tmpsOf r
  | _ :: r => tmpsOf r

/-- The slots that an operation reads. -/
def reads (o : Oper) (g : Option (Nat × Bool)) : List Nat :=
  tmpsOf o.op.operands.toList ++ (match g with | some (d, _) => [d] | none => [])

def apartT (x y : Option Nat) (rx ry : List Nat) : Bool :=
  (match x with | some d => !ry.contains d && y != some d | none => true) && (match y with | some d => !rx.contains d | none => true)

/-- what stands before: a hint, held against the edges -/
def befOk (bef : List Nat) : Nat → List Oper → Bool
  | _, [] => true
  | j, o :: r => (o.after.toList.all fun e => !Region.binds .any e || decide (e.on < j)) &&
      (bef.getD j 0 == o.after.toList.foldl (fun s e => if Region.binds .any e then s ||| 2 ^ e.on ||| bef.getD e.on 0 else s) 0) && befOk bef (j + 1) r

structure Look where
  dst : Option Nat
  rd : List Nat
  kd : Kd

def looks : List Oper → List AOper → List Look
  | o :: r, a :: s => ⟨a.dst, reads o a.guard, kindOf a.op⟩ :: looks r s
  | _, _ => []

/-- the pairs (i, j), i ahead of j in the text, unordered: what they owe; the pairs (read, eff) that must be looked at in the run -/
def pairsFor (bj : Nat) (y : Look) (j : Nat) : Nat → List Look → Option (List (Nat × Nat))
  | _, [] => some []
  | i, x :: r => match pairsFor bj y j (i + 1) r with
    | none => none
    | some l => if bj.testBit i then some l else
      if !apartT x.dst y.dst x.rd y.rd then none else
      match x.kd, y.kd with
      | .eff, .eff => none
      | .eff, .read => some ((j, i) :: l)
      | .read, .eff => some ((i, j) :: l)
      | _, _ => some l

def pairsAll (bef : List Nat) (all : List Look) : Nat → List Look → Option (List (Nat × Nat))
  | _, [] => some []
  | j, y :: r => match pairsFor (bef.getD j 0) y j 0 (all.take j), pairsAll bef all (j + 1) r with
    | some a, some b => some (a ++ b)
    | _, _ => none

def compCode : Code → ACode
  | .skip => .skip
  | .seq a b => .seq (compCode a) (compCode b)
  | .cond c a b => .cond c (compCode a) (compCode b)
  | .region _ ops d => match compOps P ops ops.toList with
    | some l => if d then
        if befOk (Region.before ops).toList 0 ops.toList then
          match pairsAll (Region.before ops).toList (looks ops.toList l) 0 (looks ops.toList l) with
          | some conf => .draw l conf
          | none => .bad "draw"
        else .bad "before"
      else .region l
    | none => .bad "region"
  | .block id c => .block id (compCode c)
  | .loop c => .loop (compCode c)
  | .exit id => .exit id
  | .ret => .ret
  | .scope _ => .bad "scope"
  | .label _ => .bad "label"
  | .goto _ => .bad "goto"
  | .rangeFunc .. => .bad "rangeFunc"
  | .refuse w => .bad w

def compRes : List ResultVar → Option (List ARes)
  | [] => some []
  | .tmp t :: r => (compRes r).map (.tmp t :: ·)
  | .cell t e :: r => do
    let n ← sizeQ P e
    let g ← aggQ P e
    let r ← compRes r
    pure (.cell t n g :: r)

def compFun (f : Func) : Option AFun := do
  let b ← f.body
  let rs ← compRes P f.results.toList
  pure ⟨f.ntmps, rs, compCode P b⟩
end comp
end Go.AM
