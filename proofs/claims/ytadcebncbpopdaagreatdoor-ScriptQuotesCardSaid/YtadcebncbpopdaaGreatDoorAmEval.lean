/-
  AmEval: a part of the abstract machine that stands for runs of the program in the model: no statement of the seat is in it.
-/
import Derived.Test.YtadcebncbpopdaaGreatDoorAmDefs
import GoSem.Core.Utf8
set_option linter.unusedVariables false
noncomputable section
namespace Go.AM

abbrev Tm := Tr AV

mutual
def AV.beq : AV → AV → Bool
  | .bool a, .bool b => a == b
  | .int k a, .int l b => k == l && a == b
  | .str a, .str b => a == b
  | .ptr i o, .ptr j p => i == j && o == p
  | .nilp, .nilp => true
  | .sl i o n c x e, .sl j p m d y f => i == j && o == p && n == m && c == d && x == y && e == f
  | .nils, .nils => true
  | .map i, .map j => i == j
  | .nilm, .nilm => true
  | .fn f a b, .fn g c d => f == g && AV.beqs a c && AV.beqs b d
  | .nilf, .nilf => true
  | .ifc t v, .ifc u w => t == u && AV.beq v w
  | .nili, .nili => true
  | .agg a, .agg b => AV.beqs a b
  | .tup a, .tup b => AV.beqs a b
  | _, _ => false
def AV.beqs : List AV → List AV → Bool
  | [], [] => true
  | a :: as, b :: bs => AV.beq a b && AV.beqs as bs
  | _, _ => false
end

def AV.cells : AV → List AV
  | .agg cs => cs
  | v => [v]
def AV.one : AV → Bool
  | .agg _ | .tup _ => false
  | _ => true

namespace AH
def get (h : AH) (i : Nat) : Option AB := h.m.get i
def set (h : AH) (i : Nat) (b : AB) : AH := { h with m := h.m.put i (some b) }
def del (h : AH) (i : Nat) : AH := { h with m := h.m.put i none }
def new (h : AH) (b : AB) : AH := ⟨h.next + 1, h.m.put h.next (some b)⟩
end AH

/-- How many globals the program has. -/
def NG : Nat := 8

def opnd (tm : Tm) : Operand → Option AV
  | .tmp t => tm.get t
  | .const v => avWhole v
  | .global g => match Nat.blt g NG with
    | true => some (.ptr g 0)
    | false => none
  | .func f => some (.fn f [] [])

def opnds (tm : Tm) : List Operand → Option (List AV)
  | [] => some []
  | x :: r => match opnd tm x, opnds tm r with
    | some v, some vs => some (v :: vs)
    | _, _ => none

/-- n cells from o on -/
def cut (c : List AV) (o n : Nat) : Option (List AV) := if o + n ≤ c.length then some ((c.drop o).take n) else none
def paste (c : List AV) (o : Nat) (vs : List AV) : Option (List AV) := if o + vs.length ≤ c.length then some (c.take o ++ vs ++ c.drop (o + vs.length)) else none

def AB.cs : AB → Option (List AV)
  | .cells _ _ _ c => some c
  | .ro _ c => some c
  | _ => none
def readCells (h : AH) (i o n : Nat) : Option (List AV) :=
  match h.get i with
  | some b => match b.cs with
    | some c => cut c o n
    | none => none
  | none => none
def writeCells (h : AH) (i o : Nat) (vs : List AV) : Option AH :=
  match h.get i with
  | some (.cells ex false e c) => match paste c o vs with
    | some c' => if vs.all AV.one then some (h.set i (.cells ex false e c')) else none
    | none => none
  | _ => none

def partOf (g : Bool) (cs : List AV) (o n : Nat) : Option AV :=
  if g then (cut cs o n).map .agg else cs[o]?

def loadA (h : AH) (n : Nat) (g : Bool) : AV → Option AV
  | .ptr i o => match readCells h i o (if g then n else 1) with
    | some cs => if g then some (.agg cs) else cs.head?
    | none => none
  | _ => none

def fillA (cells : List AV) : List (Nat × Nat × AV) → Option (List AV)
  | [] => some cells
  | (o, n, v) :: r => if v.cells.length = n then match paste cells o v.cells with
    | some c => fillA c r
    | none => none
    else none

def partVals (tm : Tm) : List (Nat × Nat × Operand) → Option (List (Nat × Nat × AV))
  | [] => some []
  | (o, n, x) :: r => match opnd tm x, partVals tm r with
    | some v, some r => some ((o, n, v) :: r)
    | _, _ => none

def repl (n : Nat) (z : List AV) : List AV := match n with | 0 => [] | n + 1 => z ++ repl n z

def arithA (op : BinOp) (x y : AV) : Option AV :=
  match x, y with
  | .int k a, .int l b => if k = l then match op with
    | .add => some (.int k (k.wrap (a + b)))
    | .sub => some (.int k (k.wrap (a - b)))
    | .mul => some (.int k (k.wrap (a * b)))
    | _ => none else none
  | .str a, .str b => match op with
    | .add => if a.length + b.length < 2 ^ 62 then some (.str (a ++ b)) else none
    | _ => none
  | _, _ => none
def divA (op : BinOp) (x y : AV) : Option AV :=
  match x, y with
  | .int k a, .int l b => if k = l ∧ b ≠ 0 then match op with
    | .quo => some (.int k (k.wrap (a.tdiv b)))
    | .rem => some (.int k (a.tmod b))
    | _ => none else none
  | _, _ => none
def bitsA (op : BinOp) (x y : AV) : Option AV :=
  match x, y with
  | .int k a, .int l b => if k = l then match op with
      | .and => some (.int k (k.wrap (BitVec.ofInt k.bits a &&& BitVec.ofInt k.bits b).toNat))
      | .or => some (.int k (k.wrap (BitVec.ofInt k.bits a ||| BitVec.ofInt k.bits b).toNat))
      | .xor => some (.int k (k.wrap (BitVec.ofInt k.bits a ^^^ BitVec.ofInt k.bits b).toNat))
      | .andNot => some (.int k (k.wrap (BitVec.ofInt k.bits a &&& ~~~ BitVec.ofInt k.bits b).toNat))
      | _ => none
    else none
  | _, _ => none
def shiftA (op : BinOp) (x y : AV) : Option AV :=
  match x, y with
  | .int k a, .int _ b => if b < 0 then none else match op with
      | .shl => some (.int k (k.wrap (a * 2 ^ min b.toNat k.bits)))
      | .shr => some (.int k (a.fdiv (2 ^ min b.toNat k.bits)))
      | _ => none
  | _, _ => none
def cmpA (op : BinOp) (x y : AV) : Option AV :=
  match x, y with
  | .int k a, .int l b => if k = l then match op with
    | .eql => some (.bool (a == b))
    | .neq => some (.bool (a != b))
    | .lss => some (.bool (a < b))
    | .leq => some (.bool (a ≤ b))
    | .gtr => some (.bool (a > b))
    | .geq => some (.bool (a ≥ b))
    | _ => none else none
  | .str a, .str b => match op with
    | .eql => some (.bool (a == b))
    | .neq => some (.bool (!(a == b)))
    | .lss => some (.bool (Op.bytesLess a b))
    | .leq => some (.bool (Op.bytesLess a b || a == b))
    | .gtr => some (.bool (!(Op.bytesLess a b || a == b)))
    | .geq => some (.bool (!Op.bytesLess a b))
    | _ => none
  | _, _ => none
def flatEq : List Nat → List AV → List AV → Option Bool
  | [], _, _ => some true
  | 0 :: ks, .bool a :: as, .bool b :: bs => if a == b then flatEq ks as bs else some false
  | 1 :: ks, .int k a :: as, .int l b :: bs => if k = l then (if a == b then flatEq ks as bs else some false) else none
  | 2 :: ks, .str a :: as, .str b :: bs => if a == b then flatEq ks as bs else some false
  | _, _, _ => none

def eqvA (k : EK) (cx : Bool) (x y : AV) : Option Bool :=
  match k with
  | .bool => match x, y with
    | .bool a, .bool b => some (a == b)
    | _, _ => none
  | .ptr => match x, y with
    | .nilp, .nilp => some true
    | .nilp, .ptr .. => some false
    | .ptr .., .nilp => some false
    | .ptr i o, .ptr j p => if i = j then some (o == p) else none
    | _, _ => none
  | .slice => match x, y with
    | .nils, .nils => some true
    | .nils, .sl .. => some false
    | .sl .., .nils => some false
    | _, _ => none
  | .map => match x, y with
    | .nilm, .nilm => some true
    | .nilm, .map _ => some false
    | .map _, .nilm => some false
    | _, _ => none
  | .func => match x, y with
    | .nilf, .nilf => some true
    | .nilf, .fn .. => some false
    | .fn .., .nilf => some false
    | _, _ => none
  | .iface ts => match x, y with
    | .nili, .nili => if cx then some true else none
    | .nili, .ifc .. => some false
    | .ifc .., .nili => some false
    | .ifc t a, .ifc u b => if t = u then (match ts.contains t, a, b with
        | true, .int k a, .int l b => if k = l then some (a == b) else none
        | _, _, _ => none) else some false
    | _, _ => none
  | .flat ks => match x, y with
    | .agg a, .agg b => flatEq ks a b
    | _, _ => none

def binA (op : ABin) (cx : Bool) (x y : AV) : Option AV :=
  match op with
  | .arith op => arithA op x y
  | .div op => divA op x y
  | .bits op => bitsA op x y
  | .shift op => shiftA op x y
  | .cmp op => cmpA op x y
  | .eqv neg k => match eqvA k cx x y with
    | some b => some (.bool (if neg then !b else b))
    | none => none

def unA (op : UnOp) (x : AV) : Option AV :=
  match op, x with
  | .neg, .int k n => some (.int k (k.wrap (0 - n)))
  | .xor, .int k n =>
      let a := BitVec.ofInt k.bits (if k.signed then -1 else k.max)
      let b := BitVec.ofInt k.bits n
      some (.int k (k.wrap (a ^^^ b).toNat))
  | .not, .bool b => some (.bool !b)
  | _, _ => none

def byteOfA : AV → Option UInt8
  | .int .u8 n => some (UInt8.ofNat n.toNat)
  | _ => none
def bytesOfA : List AV → Option (List UInt8)
  | [] => some []
  | v :: vs => match byteOfA v, bytesOfA vs with
    | some b, some bs => some (b :: bs)
    | _, _ => none
def cellsOfBytes (s : List UInt8) : List AV := s.map fun b => .int .u8 b.toNat

def intOfA : AV → Option Int
  | .int _ n => some n
  | _ => none

/-- a bound: none: not given -/
def boundA (x : Option AV) (y dflt : Nat) : Option Nat :=
  match x with
  | none => some dflt
  | some (.int _ i) => if 0 ≤ i ∧ i ≤ y then some i.toNat else none
  | some _ => none

def optOpnd (tm : Tm) : Option Operand → Option (Option AV)
  | none => some none
  | some x => (opnd tm x).map some

/-- bytes of a string or of a slice -/
def textA (h : AH) : AV → Option (List UInt8)
  | .str s => some s
  | .nils => some []
  | .sl i o n _ _ es => if es = 1 then (readCells h i o n).bind bytesOfA else none
  | _ => none

/-- the cells that a slice (or a string) of n elements of this size has -/
def elemsA (h : AH) (size : Nat) : AV → Option (Nat × List AV)
  | .str s => if size = 1 then some (s.length, cellsOfBytes s) else none
  | .nils => some (0, [])
  | .sl i o n _ _ es => if es = size then (readCells h i o (n * size)).map (n, ·) else none
  | _ => none

def sameKey : AV → AV → Option Bool
  | .int k a, .int l b => if k = l then some (a == b) else none
  | .str a, .str b => some (a == b)
  | _, _ => none
def findA (k : AV) : List (AV × AV × Nat) → Nat → Option (Option (Nat × AV))
  | [], _ => some none
  | (k', v, _) :: r, i => match sameKey k k' with
    | some true => some (some (i, v))
    | some false => findA k r (i + 1)
    | none => none
def keyOk : Bool → AV → Bool
  | false, .int .. => true
  | true, .str _ => true
  | _, _ => false

abbrev R := Option (AV × AH)
abbrev CallH := Nat → List AV → AH → R

def cx (x y : Operand) : Bool := (x matches .const _) || (y matches .const _)

def minmaxA (isMin : Bool) : AV → List AV → Option AV
  | v, [] => some v
  | .int k a, .int _ b :: r => minmaxA isMin (.int k (if isMin then (if b < a then b else a) else (if b > a then b else a))) r
  | _, _ :: _ => none

/-! What is found out once for each place in the text is wrapped: the kernel keeps it. -/
structure FP where
  f : Tm → Option AV
structure FR where
  f : Tm → AH → Option AV
structure FA where
  f : Tm → Option (AB × (Nat → AV))
structure FE where
  f : CallH → Tm → AH → R

/-- Operations that look at their operands alone. -/
def evPureB : AOp → FP
  | .move x => ⟨fun tm => opnd tm x⟩
  | .pick c a b => ⟨fun tm => match opnd tm c with
    | some (.bool true) => opnd tm a
    | some (.bool false) => opnd tm b
    | _ => none⟩
  | .build z ps => ⟨fun tm => match partVals tm ps with
    | some vs => (fillA z vs).map .agg
    | none => none⟩
  | .nilCheck x => ⟨fun tm => match opnd tm x with
    | some (.ptr i o) => some (.ptr i o)
    | some (.fn f a b) => some (.fn f a b)
    | some (.ifc t v) => some (.ifc t v)
    | _ => none⟩
  | .bin op x y => ⟨fun tm => match opnd tm x, opnd tm y with
    | some a, some b => binA op (cx x y) a b
    | _, _ => none⟩
  | .un op x => ⟨fun tm => match opnd tm x with
    | some a => unA op a
    | none => none⟩
  | .conv c x => ⟨fun tm => match c, opnd tm x with
    | .int k, some (.int _ n) => some (.int k (k.wrap n))
    | .same, some (.str s) => some (.str s)
    | .int2str, some (.int _ n) => some (.str (Utf8.encode n).data.toList)
    | _, _ => none⟩
  | .mkIface t x => ⟨fun tm => (opnd tm x).map (.ifc t)⟩
  | .mkFunc f a b => ⟨fun tm => match opnds tm a, opnds tm b with
    | some a, some b => some (.fn f a b)
    | _, _ => none⟩
  | .sliceStr x lo hi => ⟨fun tm => match opnd tm x, optOpnd tm lo, optOpnd tm hi with
    | some (.str s), some lo, some hi => match boundA hi s.length s.length with
      | some b => match boundA lo b 0 with
        | some a => some (.str ((s.drop a).take (b - a)))
        | none => none
      | none => none
    | _, _, _ => none⟩
  | .sliceSl size x lo hi mx => ⟨fun tm => match opnd tm x, optOpnd tm lo, optOpnd tm hi, optOpnd tm mx with
    | some (.sl i o n c ex es), some lo, some hi, some mx => if es = size then
      match mx with
      | none => match boundA hi c n with
        | some b => match boundA lo b 0 with
          | some a => some (.sl i (o + a * size) (b - a) (c - a) ex es)
          | none => none
        | none => none
      | some m => match hi, boundA (some m) c 0 with
        | some hi, some m => match boundA (some hi) m 0 with
          | some b => match boundA lo b 0 with
            | some a => some (.sl i (o + a * size) (b - a) (m - a) true es)
            | none => none
          | none => none
        | _, _ => none
      else none
    | some .nils, some lo, some hi, some none => match boundA hi 0 0 with
      | some b => match boundA lo b 0 with
        | some _ => some .nils
        | none => none
      | none => none
    | _, _, _, _ => none⟩
  | .fieldAddr off x => ⟨fun tm => match opnd tm x with
    | some (.ptr i o) => some (.ptr i (o + off))
    | _ => none⟩
  | .field off n g x => ⟨fun tm => match opnd tm x with
    | some (.agg cs) => partOf g cs off n
    | _ => none⟩
  | .idxAddr size arr x i => ⟨fun tm => match arr, opnd tm x, opnd tm i with
    | none, some (.sl b o n _ _ es), some (.int _ i) => if 0 ≤ i ∧ i < n ∧ es = size then some (.ptr b (o + i.toNat * size)) else none
    | some n, some (.ptr b o), some (.int _ i) => if 0 ≤ i ∧ i < n then some (.ptr b (o + i.toNat * size)) else none
    | _, _, _ => none⟩
  | .idxStr x i => ⟨fun tm => match opnd tm x, opnd tm i with
    | some (.str s), some (.int _ i) => if 0 ≤ i then match s[i.toNat]? with
      | some b => some (.int .u8 b.toNat)
      | none => none
      else none
    | _, _ => none⟩
  | .idxArr len size g x i => ⟨fun tm => match opnd tm x, opnd tm i with
    | some (.agg cs), some (.int _ i) => if 0 ≤ i ∧ i < len then partOf g cs (i.toNat * size) size else none
    | _, _ => none⟩
  | .tassert t ok z x => ⟨fun tm => match opnd tm x with
    | some (.ifc u v) => if u = t then some (if ok then .tup [v, .bool true] else v) else if ok then some (.tup [z, .bool false]) else none
    | some .nili => if ok then some (.tup [z, .bool false]) else none
    | _ => none⟩
  | .extract x i => ⟨fun tm => match opnd tm x with
    | some (.tup vs) => vs[i]?
    | _ => none⟩
  | .capOf x => ⟨fun tm => match opnd tm x with
    | some (.sl _ _ _ c true _) => some (.int .i64 c)
    | some .nils => some (.int .i64 0)
    | _ => none⟩
  | .lenArr n => ⟨fun tm => some (.int .i64 n)⟩
  | .minmax isMin xs => ⟨fun tm => match opnds tm xs with
    | some (.int k a :: r) => minmaxA isMin (.int k a) r
    | _ => none⟩
  | .uSliceData x => ⟨fun tm => match opnd tm x with
    | some .nils => some .nilp
    | some (.sl i o _ c _ _) => if 0 < c then some (.ptr i o) else none
    | _ => none⟩
  | .ext _ args => ⟨fun tm => match opnds tm args with
    | some [x] => some x
    | _ => none⟩
  | _ => ⟨fun tm => none⟩

def evPure (tm : Tm) (op : AOp) : Option AV := (evPureB op).f tm

/-- Operations that look at memory and leave it as it is. -/
def evReadB : AOp → FR
  | .load n g x => ⟨fun tm h => match opnd tm x with
    | some p => loadA h n g p
    | none => none⟩
  | .conv c x => ⟨fun tm h => match c, opnd tm x with
    | .bytes2str, some .nils => some (.str [])
    | .bytes2str, some (.sl i o n c x es) => (textA h (.sl i o n c x es)).map .str
    | .toUnsafe, some .nilp => some .nilp
    | .toUnsafe, some (.ptr i o) => match h.get i with
      | some (.cells _ _ _ c) => if o < c.length then some (.ptr i o) else none
      | _ => none
    | .ofUnsafe .., some .nilp => some .nilp
    | .ofUnsafe t n, some (.ptr i o) => match h.get i with
      | some (.cells true _ e c) => if e = t ∧ o = 0 ∧ n ≤ c.length then some (.ptr i o) else none
      | _ => none
    | _, _ => none⟩
  | .sliceArr n size x lo hi mx => ⟨fun tm h => match opnd tm x, optOpnd tm lo, optOpnd tm hi, mx with
    | some (.ptr i o), some lo, some hi, none => match readCells h i o (n * size) with
      | some _ => match boundA hi n n with
        | some b => match boundA lo b 0 with
          | some a => some (.sl i (o + a * size) (b - a) (n - a) true size)
          | none => none
        | none => none
      | none => none
    | _, _, _, _ => none⟩
  | .lookup ks z m k ok => ⟨fun tm h => match opnd tm m, opnd tm k with
    | some m, some k =>
      let es : Option (List (AV × AV × Nat)) := match m with
        | .nilm => some []
        | .map i => match h.get i with
          | some (.map es _) => some es
          | _ => none
        | _ => none
      match es with
      | some es => if keyOk ks k then match findA k es 0 with
        | some (some (_, v)) => some (if ok then .tup [v, .bool true] else v)
        | some none => some (if ok then .tup [z, .bool false] else z)
        | none => none
        else none
      | none => none
    | _, _ => none⟩
  | .entry x => ⟨fun tm h => match opnd tm x with
    | some (.ptr r 0) => match h.get r with
      | some (.mit (some m) _ seen last) => match seen.getLast?, h.get m with
        | some st, some (.map es cl) => if cl = last then match es.find? (fun e => e.2.2 == st) with
          | some e => some (.tup [e.1, e.2.1])
          | none => none
          else none
        | _, _ => none
      | _ => none
    | _ => none⟩
  | .lenOf k x => ⟨fun tm h => match k, opnd tm x with
    | 0, some (.str s) => some (.int .i64 s.length)
    | 1, some (.sl _ _ n _ _ _) => some (.int .i64 n)
    | 1, some .nils => some (.int .i64 0)
    | 2, some .nilm => some (.int .i64 0)
    | 2, some (.map i) => match h.get i with
      | some (.map es _) => some (.int .i64 es.length)
      | _ => none
    | _, _ => none⟩
  | .ext name args => ⟨fun tm h => match opnds tm args with
    | some [b, .int .u8 c] => match textA h b with
      | some b =>
        if name = "internal/bytealg.IndexByte" ∨ name = "internal/bytealg.IndexByteString" then
          match b.findIdx? (· == UInt8.ofNat c.toNat) with
            | some i => some (.int .i64 i)
            | none => some (.int .i64 (-1))
        else if name = "internal/bytealg.CountString" then some (.int .i64 (b.countP (· == UInt8.ofNat c.toNat)))
        else none
      | none => none
    | _ => none⟩
  | _ => ⟨fun tm h => none⟩

def evRead (tm : Tm) (h : AH) (op : AOp) : Option AV := (evReadB op).f tm h

/-- Operations that make one block: the block, and the value over its number. -/
def evAllocB : AOp → FA
  | .alloc e z => ⟨fun tm => some (.cells true false e z, fun i => .ptr i 0)⟩
  | .box e x => ⟨fun tm => match opnd tm x with
    | some v => some (.cells true false e v.cells, fun i => .ptr i 0)
    | none => none⟩
  | .buildSlice e len z ps => ⟨fun tm => match partVals tm ps with
    | some vs => match fillA (repl len z) vs with
      | some cs => some (.cells true false e cs, fun i => .sl i 0 len len true z.length)
      | none => none
    | none => none⟩
  | .mkMap => ⟨fun tm => some (.map [] 0, .map)⟩
  | .mkSlice e bytes z l c => ⟨fun tm => match opnd tm l, opnd tm c with
    | some (.int _ l), some (.int _ c) =>
      if 0 ≤ l ∧ l ≤ c ∧ c * bytes ≤ 2 ^ 40 ∧ c ≤ 2 ^ 40 then some (.cells true false e (repl c.toNat z), fun i => .sl i 0 l.toNat c.toNat true z.length) else none
    | _, _ => none⟩
  | .conv c x => ⟨fun tm => match c, opnd tm x with
    | .str2bytes e, some (.str s) => some (.cells false false e (cellsOfBytes s), fun i => .sl i 0 s.length s.length false 1)
    | _, _ => none⟩
  | .range s x => ⟨fun tm => match s, opnd tm x with
    | true, some (.str s) => some (.sit s 0, fun i => .ptr i 0)
    | _, _ => none⟩
  | _ => ⟨fun tm => none⟩

def evAlloc (tm : Tm) (op : AOp) : Option (AB × (Nat → AV)) := (evAllocB op).f tm

/-- xs is appended (n elements of this size, at least one) -/
def appendA (h : AH) (e size bytes : Nat) (s : AV) (n : Nat) (xs : List AV) : R :=
  if n = 0 then match s with
    | .nils => some (.nils, h)
    | .sl i o l c ex es => some (.sl i o l c ex es, h)
    | _ => none
  else match s with
    | .nils => if n * (bytes + 1) ≤ 2 ^ 40 then some (.sl h.next 0 n n false size, h.new (.cells false false e xs)) else none
    | .sl i o l c ex es => if (l + n) * (bytes + 1) ≤ 2 ^ 40 ∧ es = size then
        if l + n ≤ c then (writeCells h i (o + l * size) xs).map (.sl i o (l + n) c ex es, ·)
        else match readCells h i o (l * size) with
          | some old =>
            if ex then some (.sl h.next 0 (l + n) (l + n) false size, h.new (.cells false false e (old ++ xs)))
            else match h.get i with
              | some (.cells _ false e' _) => if e' = e ∧ xs.all AV.one = true then some (.sl h.next 0 (l + n) (l + n) false size, (h.del i).new (.cells false false e (old ++ xs))) else none
              | _ => none
          | none => none
        else none
    | _ => none

/-- All others. -/
def evEffB : AOp → FE
  | .store n x v => ⟨fun callH tm h => match opnd tm x, opnd tm v with
    | some (.ptr i o), some v => if v.cells.length = n then (writeCells h i o v.cells).map (.tup [], ·) else none
    | _, _ => none⟩
  | .conv c x => ⟨fun callH tm h => match c, opnd tm x with
    | .bytesSame, some (.sl i o n c x es) => match h.get i with
      | some (.cells ex fz e cs) => some (.sl i o n c x es, h.set i (.cells ex fz e cs))
      | _ => none
    | _, _ => none⟩
  | .mapUpdate ks m k v => ⟨fun callH tm h => match opnd tm m, opnd tm k, opnd tm v with
    | some (.map i), some k, some v => match h.get i with
      | some (.map es cl) => if keyOk ks k then match findA k es 0 with
        | some (some (j, _)) => some (.tup [], h.set i (.map (es.modify j fun e => (k, v, e.2.2)) cl))
        | some none => some (.tup [], h.set i (.map (es ++ [(k, v, cl)]) (cl + 1)))
        | none => none
        else none
      | _ => none
    | _, _, _ => none⟩
  | .range s x => ⟨fun callH tm h => match s, opnd tm x with
    | false, some .nilm => some (.ptr h.next 0, h.new (.mit none 0 [] 0))
    | false, some (.map i) => match h.get i with
      | some (.map _ cl) => some (.ptr h.next 0, h.new (.mit (some i) cl [] cl))
      | _ => none
    | _, _ => none⟩
  | .next s x => ⟨fun callH tm h => match opnd tm x with
    | some (.ptr r 0) => match h.get r, s with
      | some (.sit s pos), true =>
        if pos < s.length then
          let d := Utf8.decode ⟨s.toArray⟩ pos
          some (.tup [.bool true, .int .i64 pos, .int .i32 d.1], h.set r (.sit s (pos + d.2)))
        else some (.tup [.bool false], h)
      | some (.mit none _ _ _), false => some (.tup [.bool false], h)
      | some (.mit (some m) since seen last), false => match h.get m with
        | some (.map es cl) =>
          if cl = last ∧ (!seen.isEmpty && !es.isEmpty && es.all fun e => decide (e.2.2 ≥ last)) = false then match es.filter fun e => !seen.contains e.2.2 with
            | [] => some (.tup [.bool false], h)
            | [e] => if e.2.2 < since then some (.tup [.bool true, e.1, e.2.1], h.set r (.mit (some m) since (seen ++ [e.2.2]) cl)) else none
            | _ => none
          else none
        | _ => none
      | _, _ => none
    | _ => none⟩
  | .call f args => ⟨fun callH tm h => match opnd tm f, opnds tm args with
    | some (.fn f a b), some vs => callH f (a ++ vs ++ b) h
    | _, _ => none⟩
  | .append e size bytes s x => ⟨fun callH tm h => match opnd tm s, opnd tm x with
    | some s, some x => match elemsA h size x with
      | some (n, xs) => appendA h e size bytes s n xs
      | none => none
    | _, _ => none⟩
  | .appendZ e size bytes z s n => ⟨fun callH tm h => match opnd tm s, opnd tm n with
    | some s, some (.int _ n) => if 0 ≤ n ∧ n * (bytes + 1) ≤ 2 ^ 40 then appendA h e size bytes s n.toNat (repl n.toNat z) else none
    | _, _ => none⟩
  | .copy size d s => ⟨fun callH tm h => match opnd tm d, opnd tm s with
    | some d, some s => match elemsA h size s with
      | some (m, xs) => match d with
        | .nils => some (.int .i64 0, h)
        | .sl i o n _ _ es => if es = size then (writeCells h i o (xs.take (Nat.min m n * size))).map (.int .i64 ((Nat.min m n : Nat) : Int), ·) else none
        | _ => none
      | none => none
    | _, _ => none⟩
  | .delete ks m k => ⟨fun callH tm h => match opnd tm m, opnd tm k with
    | some .nilm, some k => if keyOk ks k then some (.tup [], h) else none
    | some (.map i), some k => match h.get i with
      | some (.map es cl) => if keyOk ks k then match findA k es 0 with
        | some (some (j, _)) => some (.tup [], h.set i (.map (es.eraseIdx j) cl))
        | some none => some (.tup [], h)
        | none => none
        else none
      | _ => none
    | _, _ => none⟩
  | .clear z x => ⟨fun callH tm h => match opnd tm x with
    | some .nilm | some .nils => some (.tup [], h)
    | some (.map i) => match h.get i with
      | some (.map _ cl) => some (.tup [], h.set i (.map [] cl))
      | _ => none
    | some (.sl i o n _ _ es) => if es = z.length ∧ 0 < es then if n = 0 then some (.tup [], h) else (writeCells h i o (repl n z)).map (.tup [], ·) else none
    | _ => none⟩
  | .uString t p n => ⟨fun callH tm h => match opnd tm p, opnd tm n with
    | some p, some (.int _ n) => if n = 0 then (match p with | .nilp => some (.str [], h) | .ptr .. => some (.str [], h) | _ => none) else match p with
      | .ptr i o => if 0 ≤ n ∧ n ≤ 2 ^ 40 then match h.get i with
          | some (.cells ex _ e c) => if e = t then match cut c o n.toNat with
            | some cs => match bytesOfA cs with
              | some b => some (.str b, h.set i (.cells ex true e c))
              | none => none
            | none => none
            else none
          | _ => none
          else none
      | _ => none
    | _, _ => none⟩
  | _ => ⟨fun callH tm h => none⟩

def evEff (callH : CallH) (tm : Tm) (h : AH) (op : AOp) : R := (evEffB op).f callH tm h

def evOp (callH : CallH) (tm : Tm) (h : AH) (op : AOp) : R :=
  match kindOf op with
  | .pure => match evPure tm op with
    | some v => some (v, h)
    | none => none
  | .read => match evRead tm h op with
    | some v => some (v, h)
    | none => none
  | .alloc => match evAlloc tm op with
    | some (b, f) => some (f h.next, h.new b)
    | none => none
  | .eff => evEff callH tm h op

/-- The same in a drawn region: what operation j makes bears the number base + j. -/
def evAt (callH : CallH) (id : Nat) (tm : Tm) (h : AH) (op : AOp) : R :=
  match kindOf op with
  | .alloc => match evAlloc tm op with
    | some (b, f) => some (f id, h.set id b)
    | none => none
  | _ => evOp callH tm h op

inductive Ex where
  | normal
  | exit (id : Nat)
  | ret

def setT (nt : Nat) (tm : Tm) (d : Option Nat) (v : AV) : Option Tm :=
  match d with
  | none => some tm
  | some d => if d < nt then some (tm.put d (some v)) else none

def guardOk (tm : Tm) : Option (Nat × Bool) → Option Bool
  | none => some true
  | some (d, b) => match tm.get d with
    | some (.bool c) => some (c == b)
    | some (.tup []) => some false
    | _ => none

structure FO where
  f : CallH → Tm → AH → Option (Tm × AH)
def evOpsB (nt : Nat) : List AOper → FO
  | [] => ⟨fun _ tm h => some (tm, h)⟩
  | o :: r => ⟨fun callH tm h => match guardOk tm o.guard with
    | none => none
    | some false => match setT nt tm o.dst (.tup []) with
      | some tm => (evOpsB nt r).f callH tm h
      | none => none
    | some true => match evOp callH tm h o.op with
      | none => none
      | some (v, h) => match setT nt tm o.dst v with
        | some tm => (evOpsB nt r).f callH tm h
        | none => none⟩
def evOps (callH : CallH) (nt : Nat) (l : List AOper) (tm : Tm) (h : AH) : Option (Tm × AH) := (evOpsB nt l).f callH tm h

structure Step where
  on : Bool
  tm : Tm
  h : AH
  h' : AH
  op : AOp
  v : AV

structure FD where
  f : CallH → Nat → Nat → Tm → AH → Option (List Step × Tm × AH)
def evDrawB (nt : Nat) : List AOper → FD
  | [] => ⟨fun _ _ _ tm h => some ([], tm, h)⟩
  | o :: r => ⟨fun callH base j tm h => match guardOk tm o.guard with
    | none => none
    | some false => match setT nt tm o.dst (.tup []) with
      | some tm' => match (evDrawB nt r).f callH base (j + 1) tm' h with
        | some (l, tm2, h2) => some (⟨false, tm, h, h, o.op, .tup []⟩ :: l, tm2, h2)
        | none => none
      | none => none
    | some true => match evAt callH (base + j) tm h o.op with
      | none => none
      | some (v, h') => match setT nt tm o.dst v with
        | some tm' => match (evDrawB nt r).f callH base (j + 1) tm' h' with
          | some (l, tm2, h2) => some (⟨true, tm, h, h', o.op, v⟩ :: l, tm2, h2)
          | none => none
        | none => none⟩
def evDraw (callH : CallH) (nt base : Nat) (j : Nat) (l : List AOper) (tm : Tm) (h : AH) : Option (List Step × Tm × AH) := (evDrawB nt l).f callH base j tm h

def sameV : Option AV → AV → Bool
  | some a, b => AV.beq a b
  | none, _ => false

/-- a read and an eff that are unordered: the read tells the same ahead of it and behind it -/
def stable (steps : List Step) : List (Nat × Nat) → Bool
  | [] => true
  | (r, e) :: l => (match steps[r]?, steps[e]? with
      | some r, some e => if r.on && e.on then sameV (evRead r.tm e.h r.op) r.v && sameV (evRead r.tm e.h' r.op) r.v else true
      | _, _ => false) && stable steps l

def loopN (body : Tm → AH → Option (Ex × Tm × AH)) : Nat → Tm → AH → Option (Ex × Tm × AH)
  | 0, _, _ => none
  | n + 1, t, h => match body t h with
    | some (.normal, t, h) => loopN body n t h
    | r => r

structure FC where
  f : CallH → Tm → AH → Option (Ex × Tm × AH)
def evCodeB (F : Nat) (nt : Nat) : ACode → FC
  | .skip => ⟨fun _ t h => some (.normal, t, h)⟩
  | .seq a b => ⟨fun callH t h => match (evCodeB F nt a).f callH t h with
    | some (.normal, t, h) => (evCodeB F nt b).f callH t h
    | r => r⟩
  | .cond c a b => ⟨fun callH t h => match opnd t c with
    | some (.bool true) => (evCodeB F nt a).f callH t h
    | some (.bool false) => (evCodeB F nt b).f callH t h
    | _ => none⟩
  | .region ops => ⟨fun callH t h => (evOps callH nt ops t h).map (.normal, ·)⟩
  | .draw ops conf => ⟨fun callH t h => match evDraw callH nt h.next 0 ops t { h with next := h.next + ops.length } with
    | some (steps, t, h) => if stable steps conf then some (.normal, t, h) else none
    | none => none⟩
  | .block id c => ⟨fun callH t h => match (evCodeB F nt c).f callH t h with
    | some (.exit j, t, h) => if j = id then some (.normal, t, h) else some (.exit j, t, h)
    | r => r⟩
  | .loop c => ⟨fun callH t h => loopN ((evCodeB F nt c).f callH) F t h⟩
  | .exit id => ⟨fun _ t h => some (.exit id, t, h)⟩
  | .ret => ⟨fun _ t h => some (.ret, t, h)⟩
  | .bad _ => ⟨fun _ _ _ => none⟩
def evCode (F : Nat) (callH : CallH) (nt : Nat) (c : ACode) (t : Tm) (h : AH) : Option (Ex × Tm × AH) := (evCodeB F nt c).f callH t h

def argsTm : Nat → List AV → Tm → Tm
  | _, [], t => t
  | i, v :: vs, t => argsTm (i + 1) vs (t.put i (some v))

def resA (tm : Tm) (h : AH) : List ARes → Option (List AV)
  | [] => some []
  | .tmp t :: r => match tm.get t, resA tm h r with
    | some v, some vs => some (v :: vs)
    | _, _ => none
  | .cell t n g :: r => match (tm.get t).bind (loadA h n g), resA tm h r with
    | some v, some vs => some (v :: vs)
    | _, _ => none

def runFun (F : Nat) (callH : CallH) (a : AFun) (args : List AV) (h : AH) : R :=
  if args.length ≤ a.ntmps then
    match evCode F callH a.ntmps a.body (argsTm 0 args .leaf) h with
    | some (.exit _, _, _) => none
    | some (_, tm, h) => match resA tm h a.res with
      | some [v] => some (v, h)
      | some vs => some (.tup vs, h)
      | none => none
    | none => none
  else none

def acall (F : Nat) (hooks : Nat → Option (List AV → AH → R)) (funs : Nat → Option AFun) : Nat → CallH
  | 0 => fun _ _ _ => none
  | n + 1 => fun f args h => match hooks f with
    | some k => k args h
    | none => match funs f with
      | some a => runFun F (acall F hooks funs n) a args h
      | none => none
end Go.AM
end
