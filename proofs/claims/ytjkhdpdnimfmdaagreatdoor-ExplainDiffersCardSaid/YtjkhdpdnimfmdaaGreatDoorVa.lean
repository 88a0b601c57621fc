/- The abstract machine: an executable reading of the model's code over values by content. -/
import Derived.RangeFuncLeaves
import Derived.OrdersIn
import Derived.Laws.CopyRow
import Derived.ChangeKeysEq
import Derived.Laws.Entries
import Derived.Lib.ConvBytes
set_option linter.unusedVariables false
namespace Go.Vm

/-- a value without an address -/
inductive S where
  | bool (b : Bool) | int (k : IntKind) (n : Int) | str (s : ByteArray)
  | nslice | nptr | nmap | nfunc | niface | undef | fn (f : FuncId)
  | sym (i : Nat)
  deriving DecidableEq, Inhabited

/-- what the symbols stand for -/
class Valu where
  val : Nat → Value
  plain : ∀ i, (∃ k n, val i = .int k n) ∨ (∃ s, val i = .string s) ∨ ∃ b, val i = .bool b
variable [Valu]

def S.val : S → Value
  | .bool b => .bool b | .int k n => .int k n | .str s => .string s
  | .nslice => .slice none 0 0 | .nptr => .pointer none | .nmap => .map none | .nfunc => .nilFunc | .niface => .nilIface
  | .undef => .tuple #[] | .fn f => .func (.func f) #[] #[]
  | .sym i => Valu.val i

/-- a value by content: nothing that it is made of changes any more -/
inductive F where
  | s (x : S)
  | agg (cs : List F)
  | tup (vs : List F)
  | row (wd : Nat) (rs : List (List F))
  | ptr (cs : List F) (j : Nat)
  deriving Inhabited

inductive V where
  | fz (x : F)
  | agg (cs : List V)
  | tup (vs : List V)
  | own (b ver lo len : Nat) (clip : Bool)
  | ptr (b ver i j : Nat)
  | cl (wd : Nat) (rs : List (List F))
  | clo (f : FuncId) (cap : List V)
  | yield (l : Nat)
  | map (m : Nat)
  deriving Inhabited

structure LoopV where
  st : LoopState
  pending : Option Code
  tmps : List V
  ps : List Tmp
  assign : Code
  body : Code

inductive Blk where
  | dead
  | mem (ver : Nat) (fr : Bool) (wd : Nat) (rs : List (List V))
  | map (es : List (F × V))
  | loop (l : LoopV)

abbrev Heap := List Blk

structure TyI where
  desc : TypeDesc
  size : Nat
  bytes : Nat
  zero : List S
  isAgg : Bool

/-- a table by numbers -/
inductive Tab (α : Type) where
  | nil
  | node (l : Tab α) (k : Nat) (v : α) (r : Tab α)
def Tab.get {α : Type} : Tab α → Nat → Option α
  | .nil, _ => none
  | .node l k v r, x => bif Nat.beq x k then some v else bif Nat.blt x k then l.get x else r.get x

structure Env where
  ty : TypeId → Option TyI
  fn : FuncId → Option Func
  pure : FuncId → Bool
  eqT : TypeId → Bool
  glob : Nat → Option (List F)
  ext : FuncId → Option (List S → Option S)
  prim : FuncId → Option (List F → Option F)
  bin : BinOp → S → S → Option S
  eqs : TypeId → List S → List S → Option Bool

/-! ### equality that is sound -/
mutual
def F.beq : F → F → Bool
  | .s x, .s y => decide (x = y)
  | .agg a, .agg b => F.beqL a b
  | .tup a, .tup b => F.beqL a b
  | .row w a, .row w' b => w == w' && F.beqLL a b
  | .ptr a i, .ptr b j => i == j && F.beqL a b
  | _, _ => false
def F.beqL : List F → List F → Bool
  | [], [] => true
  | a :: as, b :: bs => F.beq a b && F.beqL as bs
  | _, _ => false
def F.beqLL : List (List F) → List (List F) → Bool
  | [], [] => true
  | a :: as, b :: bs => F.beqL a b && F.beqLL as bs
  | _, _ => false
end
mutual
def V.beq : V → V → Bool
  | .fz x, .fz y => F.beq x y
  | .agg a, .agg b => V.beqL a b
  | .tup a, .tup b => V.beqL a b
  | .own a b c d e, .own a' b' c' d' e' => a == a' && b == b' && c == c' && d == d' && e == e'
  | .ptr a b c d, .ptr a' b' c' d' => a == a' && b == b' && c == c' && d == d'
  | .cl w a, .cl w' b => w == w' && F.beqLL a b
  | .clo f a, .clo g b => f == g && V.beqL a b
  | .yield l, .yield m => l == m
  | .map l, .map m => l == m
  | _, _ => false
def V.beqL : List V → List V → Bool
  | [], [] => true
  | a :: as, b :: bs => V.beq a b && V.beqL as bs
  | _, _ => false
end
def V.beqLL : List (List V) → List (List V) → Bool
  | [], [] => true
  | a :: as, b :: bs => V.beqL a b && V.beqLL as bs
  | _, _ => false
/-- a memory block that holds just this -/
def Blk.isMem (b : Option Blk) (ver : Nat) (fr : Bool) (wd : Nat) (rs : List (List V)) : Bool :=
  match b with
  | some (.mem v f w r) => v == ver && f == fr && w == wd && V.beqLL r rs
  | _ => false

/-! ### values -/
def sOf : Value → Option S
  | .bool b => some (.bool b)
  | .int k n => some (.int k n)
  | .string s => some (.str s)
  | .slice none 0 0 => some .nslice
  | .pointer none => some .nptr
  | .map none => some .nmap
  | .nilFunc => some .nfunc
  | .nilIface => some .niface
  | _ => none
def vOf (v : Value) : Option V :=
  match v with
  | .agg cs => (cs.toList.mapM sOf).map fun ss => .fz (.agg (ss.map .s))
  | v => (sOf v).map fun s => .fz (.s s)

def unfz : List V → Option (List F)
  | [] => some []
  | .fz x :: r => (unfz r).map (x :: ·)
  | _ :: _ => none
def mkAgg (cs : List V) : V := match unfz cs with | some fs => .fz (.agg fs) | none => .agg cs
def mkTup (cs : List V) : V := match unfz cs with | some fs => .fz (.tup fs) | none => .tup cs

/-- may it lie in one cell -/
def V.one : V → Bool
  | .fz (.s .undef) => false
  | .fz (.s _) | .fz (.row ..) | .fz (.ptr ..) | .own .. | .ptr .. | .cl .. | .clo .. | .yield _ | .map _ => true
  | _ => false
/-- the cells of a value that is stored -/
def V.cells (v : V) : Option (List V) :=
  match v with
  | .fz (.agg cs) => let l := cs.map V.fz; if l.all V.one then some l else none
  | .agg cs => if cs.all V.one then some cs else none
  | v => if v.one then some [v] else none

def zeroV (z : List S) : List V := z.map fun s => .fz (.s s)

def memAt (H : Heap) (b ver : Nat) : Option (Bool × Nat × List (List V)) :=
  match H[b]? with
  | some (.mem v fr wd rs) => if v = ver then some (fr, wd, rs) else none
  | _ => none

def loadC (H : Heap) (a : V) (n : Nat) : Option (List V) :=
  match a with
  | .ptr b ver i j =>
    match memAt H b ver with
    | some (_, _, rs) =>
      match rs[i]? with
      | some r => let c := (r.drop j).take n; if c.length = n then some c else none
      | none => none
    | none => none
  | .fz (.ptr cs j) => let c := (cs.drop j).take n; if c.length = n then some (c.map .fz) else none
  | _ => none

def storeC (H : Heap) (a : V) (cs : List V) : Option Heap :=
  match a with
  | .ptr b ver i j =>
    match H[b]? with
    | some (.mem v false wd rs) =>
      if v = ver then
        match rs[i]? with
        | some r => if 0 < cs.length ∧ j + cs.length ≤ r.length then some (H.set b (.mem v false wd (rs.set i (r.take j ++ cs ++ r.drop (j + cs.length))))) else none
        | none => none
      else none
    | _ => none
  | _ => none

/-- the elements of a slice -/
def rowsOf (H : Heap) : V → Option (Nat × List (List V))
  | .own b ver lo len _ =>
    match memAt H b ver with
    | some (_, wd, rs) => if lo + len ≤ rs.length then some (wd, (rs.drop lo).take len) else none
    | none => none
  | .fz (.row wd rs) => some (wd, rs.map fun r => r.map .fz)
  | .cl wd rs => some (wd, rs.map fun r => r.map .fz)
  | _ => none
def lenV : V → Option Nat
  | .own _ _ _ len _ => some len
  | .fz (.row _ rs) => some rs.length
  | .cl _ rs => some rs.length
  | .fz (.s .nslice) => some 0
  | .fz (.s (.str s)) => some s.size
  | _ => none

def ev (E : Env) (T : List V) : Operand → Option V
  | .tmp t => T[t]?
  | .const v => vOf v
  | .func f => some (.fz (.s (.fn f)))
  | .global g => (E.glob g).map fun cs => .fz (.ptr cs 0)

def intOf : V → Option (IntKind × Int)
  | .fz (.s (.int k n)) => some (k, n)
  | _ => none
def i64 (n : Int) : V := .fz (.s (.int .i64 n))
def bV (b : Bool) : V := .fz (.s (.bool b))

/-! ### operators -/
def arith (op : BinOp) (k : IntKind) (x y : Int) : Option S :=
  match op with
  | .add => some (.int k (k.wrap (x + y)))
  | .sub => some (.int k (k.wrap (x - y)))
  | .mul => some (.int k (k.wrap (x * y)))
  | .quo => if y = 0 then none else some (.int k (k.wrap (x.tdiv y)))
  | .rem => if y = 0 then none else some (.int k (x.tmod y))
  | .and => some (.int k (k.wrap (BitVec.ofInt k.bits x &&& BitVec.ofInt k.bits y).toNat))
  | .or => some (.int k (k.wrap (BitVec.ofInt k.bits x ||| BitVec.ofInt k.bits y).toNat))
  | .xor => some (.int k (k.wrap (BitVec.ofInt k.bits x ^^^ BitVec.ofInt k.bits y).toNat))
  | .eql => some (.bool (x == y))
  | .neq => some (.bool (x != y))
  | .lss => some (.bool (x < y))
  | .leq => some (.bool (x ≤ y))
  | .gtr => some (.bool (x > y))
  | .geq => some (.bool (x ≥ y))
  | _ => none
def binS (op : BinOp) (a b : S) : Option S :=
  match a, b with
  | .int k x, .int k' y =>
    match op with
    | .shl => if y < 0 then none else some (.int k (k.wrap (x * 2 ^ (min y.toNat k.bits))))
    | .shr => if y < 0 then none else some (.int k (x.fdiv (2 ^ (min y.toNat k.bits))))
    | op => if k = k' then arith op k x y else none
  | .str x, .str y =>
    match op with
    | .add => if x.size + y.size ≤ 2 ^ 40 then some (.str (x ++ y)) else none
    | .eql => some (.bool (x.toList == y.toList))
    | .neq => some (.bool !(x.toList == y.toList))
    | .lss => some (.bool (Op.bytesLess x.toList y.toList))
    | .leq => some (.bool (Op.bytesLess x.toList y.toList || x.toList == y.toList))
    | .gtr => some (.bool !(Op.bytesLess x.toList y.toList || x.toList == y.toList))
    | .geq => some (.bool !(Op.bytesLess x.toList y.toList))
    | _ => none
  | _, _ => none
/-- of one kind, and comparable by sight -/
def S.alike : S → S → Bool
  | .int k _, .int k' _ => k == k'
  | .bool _, .bool _ => true
  | .str _, .str _ => true
  | _, _ => false
def scalars : List F → Option (List S)
  | [] => some []
  | .s x :: r => (scalars r).map (x :: ·)
  | _ :: _ => none
def alikeL : List S → List S → Bool
  | [], [] => true
  | a :: as, b :: bs => S.alike a b && alikeL as bs
  | _, _ => false
def isNil : V → Option Bool
  | .fz (.s .nslice) | .fz (.s .nptr) | .fz (.s .nmap) | .fz (.s .nfunc) => some true
  | .fz (.row ..) | .own .. | .ptr .. | .fz (.ptr ..) | .cl .. | .clo .. | .map _ | .fz (.s (.fn _)) => some false
  | _ => none
/-- two values of one such type: is one of them nil, and is the other -/
def nilKind : TypeDesc → V → V → Option Bool
  | .slice _, .fz (.s .nslice), v => match v with | .fz (.s .nslice) => some true | .fz (.row ..) | .own .. | .cl .. => some false | _ => none
  | .slice _, v, .fz (.s .nslice) => match v with | .fz (.row ..) | .own .. | .cl .. => some false | _ => none
  | .pointer _, .fz (.s .nptr), v => match v with | .fz (.s .nptr) => some true | .fz (.ptr ..) | .ptr .. => some false | _ => none
  | .pointer _, v, .fz (.s .nptr) => match v with | .fz (.ptr ..) | .ptr .. => some false | _ => none
  | .bool, .fz (.s (.bool a)), .fz (.s (.bool b)) => some (a == b)
  | _, _, _ => none
def eqV (E : Env) (t : TypeId) (x y : V) : Option Bool :=
  match x, y with
  | .fz (.agg a), .fz (.agg b) =>
    if E.eqT t then
      match scalars a, scalars b, E.ty t with
      | some xs, some ys, some i => if alikeL xs ys && alikeL i.zero xs then some (decide (xs = ys)) else E.eqs t xs ys
      | _, _, _ => none
    else none
  | x, y => match E.ty t with | some i => nilKind i.desc x y | none => none
def binV (E : Env) (op : BinOp) (t : TypeId) (x y : V) : Option V :=
  match x, y with
  | .fz (.s (.int k a)), .fz (.s (.int k' b)) => (binS op (.int k a) (.int k' b)).map fun s => .fz (.s s)
  | .fz (.s (.str a)), .fz (.s (.str b)) => (binS op (.str a) (.str b)).map fun s => .fz (.s s)
  | .fz (.s (.sym i)), .fz (.s b) => (E.bin op (.sym i) b).map fun s => .fz (.s s)
  | .fz (.s a), .fz (.s (.sym j)) => (E.bin op a (.sym j)).map fun s => .fz (.s s)
  | x, y =>
    match op with
    | .eql => (eqV E t x y).map bV
    | .neq => (eqV E t x y).map fun b => bV !b
    | _ => none
def unV (op : UnOp) (x : V) : Option V :=
  match op, x with
  | .not, .fz (.s (.bool b)) => some (bV !b)
  | .neg, .fz (.s (.int k n)) => some (.fz (.s (.int k (k.wrap (0 - n)))))
  | _, _ => none
def kindOfT (E : Env) (t : TypeId) : Option TypeDesc := (E.ty t).map (·.desc)
def convV (E : Env) (src dst : TypeId) (x : V) : Option V :=
  match x with
  | .fz (.s (.int _ n)) =>
    match kindOfT E dst, kindOfT E src with
    | some (.int k), some _ => some (.fz (.s (.int k (k.wrap n))))
    | some .string, some _ => some (.fz (.s (.str (Utf8.encode n))))
    | _, _ => none
  | .fz (.s (.str s)) =>
    match kindOfT E dst, kindOfT E src with
    | some .string, some _ => some x
    | some (.slice e), some .string =>
      match kindOfT E e with
      | some (.int .u8) => if s.size ≤ 2 ^ 40 then some (.fz (.row 1 (s.data.toList.map fun b => [.s (.int .u8 b.toNat)]))) else none
      | _ => none
    | _, _ => none
  | _ => none

/-! ### memory -/
/-- the parts of a struct's or an array's value, laid over zero cells -/
def fillV (place : Nat → Option (Nat × Nat)) (cells : List V) : List (Nat × V) → Option (List V)
  | [] => some cells
  | (i, v) :: rest =>
    match place i, v.cells with
    | some (off, size), some cs => if cs.length = size ∧ off + cs.length ≤ cells.length then fillV place (cells.take off ++ cs ++ cells.drop (off + cs.length)) rest else none
    | _, _ => none
def fillRows (wd : Nat) (rows : List (List V)) : List (Nat × V) → Option (List (List V))
  | [] => some rows
  | (i, v) :: rest =>
    match v.cells with
    | some cs => if cs.length = wd ∧ i < rows.length then fillRows wd (rows.set i cs) rest else none
    | none => none
def sizeT (E : Env) (t : TypeId) : Option Nat := (E.ty t).map (·.size)
def evParts (E : Env) (T : List V) : List (Nat × Operand) → Option (List (Nat × V))
  | [] => some []
  | (i, x) :: r => match ev E T x, evParts E T r with | some v, some l => some ((i, v) :: l) | _, _ => none
def evL (E : Env) (T : List V) : List Operand → Option (List V)
  | [] => some []
  | x :: r => match ev E T x, evL E T r with | some v, some l => some (v :: l) | _, _ => none

/-- a slice's element type: its size, its bytes, its zero cells -/
def elemT (E : Env) (t : TypeId) : Option TyI :=
  match E.ty t with
  | some { desc := .slice e, .. } => E.ty e
  | _ => none
def indexAddrV (E : Env) (H : Heap) (t : TypeId) (x ix : V) : Option V :=
  match intOf ix, E.ty t with
  | some (_, i), some { desc := .slice e, .. } =>
    match E.ty e with
    | some ei =>
      match x with
      | .own b ver lo len _ =>
        match memAt H b ver with
        | some (_, wd, rs) => if 0 ≤ i ∧ i < len ∧ wd = ei.size ∧ lo + len ≤ rs.length then some (.ptr b ver (lo + i.toNat) 0) else none
        | none => none
      | .fz (.row wd rs) => if 0 ≤ i ∧ i < rs.length ∧ wd = ei.size then (rs[i.toNat]?).map fun r => .fz (.ptr r 0) else none
      | .cl wd rs => if 0 ≤ i ∧ i < rs.length ∧ wd = ei.size then (rs[i.toNat]?).map fun r => .fz (.ptr r 0) else none
      | _ => none
    | none => none
  | some (_, i), some { desc := .array n e, .. } =>
    match E.ty e with
    | some ei =>
      if 0 ≤ i ∧ i < n then
        match x with
        | .ptr b ver r j => some (.ptr b ver r (j + i.toNat * ei.size))
        | .fz (.ptr cs j) => some (.fz (.ptr cs (j + i.toNat * ei.size)))
        | _ => none
      else none
    | none => none
  | _, _ => none
def fieldAddrV (E : Env) (t : TypeId) (x : V) (f : Nat) : Option V :=
  match E.ty t with
  | some { desc := .struct fs, .. } =>
    match fs[f]? with
    | some fd =>
      match E.ty fd.type with
      | some fi =>
        if fi.size = 0 then none else
        match x with
        | .ptr b ver r j => some (.ptr b ver r (j + fd.offset))
        | .fz (.ptr cs j) => some (.fz (.ptr cs (j + fd.offset)))
        | _ => none
      | none => none
    | none => none
  | _ => none
def fieldV (E : Env) (t : TypeId) (x : V) (f : Nat) : Option V :=
  match E.ty t, x with
  | some { desc := .struct fs, .. }, .fz (.agg cs) =>
    match fs[f]? with
    | some fd =>
      match E.ty fd.type with
      | some fi => if fi.isAgg then (if fd.offset + fi.size ≤ cs.length then some (.fz (.agg ((cs.drop fd.offset).take fi.size))) else none) else (cs[fd.offset]?).map .fz
      | none => none
    | none => none
  | some { desc := .struct fs, .. }, .agg cs =>
    match fs[f]? with
    | some fd =>
      match E.ty fd.type with
      | some fi => if fi.isAgg then (if fd.offset + fi.size ≤ cs.length then some (mkAgg ((cs.drop fd.offset).take fi.size)) else none) else cs[fd.offset]?
      | none => none
    | none => none
  | _, _ => none
def boundOf (x : Option V) (d : Nat) : Option Nat :=
  match x with
  | none => some d
  | some v => match intOf v with | some (_, n) => if 0 ≤ n then some n.toNat else none | none => none
def sliceV (E : Env) (H : Heap) (t : TypeId) (x : V) (lo hi mx : Option V) : Option V :=
  match E.ty t, lenV x with
  | some ti, some len =>
    match boundOf lo 0, boundOf hi len with
    | some l, some h =>
      if l ≤ h ∧ h ≤ len then
        match ti.desc, x with
        | .string, .fz (.s (.str s)) => if mx.isNone then some (.fz (.s (.str (s.extract l h)))) else none
        | .slice e, x =>
          match E.ty e with
          | some ei =>
            let full : Option Bool := match mx with
              | none => some false
              | some m => match boundOf (some m) 0 with | some m => if m = h then some true else none | none => none
            match full, x with
            | some full, .own b ver lo len clip =>
              match memAt H b ver with
              | some (_, wd, rs) => if wd = ei.size ∧ lo + len ≤ rs.length then some (.own b ver (lo + l) (h - l) (full || (clip && h == len))) else none
              | none => none
            | some false, .fz (.row wd rs) => if wd = ei.size then some (.fz (.row wd ((rs.drop l).take (h - l)))) else none
            | some true, .fz (.row wd rs) => if wd = ei.size then some (.cl wd ((rs.drop l).take (h - l))) else none
            | some full, .cl wd rs => if wd = ei.size ∧ (full ∨ h = rs.length) then some (.cl wd ((rs.drop l).take (h - l))) else none
            | some _, .fz (.s .nslice) => some x
            | _, _ => none
          | none => none
        | _, _ => none
      else none
    | _, _ => none
  | _, _ => none
def indexV (E : Env) (t : TypeId) (x ix : V) : Option V :=
  match E.ty t, x, intOf ix with
  | some { desc := .string, .. }, .fz (.s (.str s)), some (_, i) =>
    if 0 ≤ i then (s[i.toNat]?).map fun b => .fz (.s (.int .u8 b.toNat)) else none
  | some { desc := .array n e, .. }, .fz (.agg cs), some (_, i) =>
    match E.ty e with
    | some ei =>
      if 0 ≤ i ∧ i < n then
        if ei.isAgg then none else (cs[i.toNat * ei.size]?).map .fz
      else none
    | none => none
  | _, _, _ => none

/-- append: the slice, the new rows -/
def appendV (H : Heap) (sz : Nat) (s : V) (new : List (List V)) : Option (V × Heap) :=
  let fresh (old : List (List V)) : Option (V × Heap) :=
    let rs := old ++ new
    if rs.all (fun r => r.length == sz) then some (.own H.length 0 0 rs.length false, H ++ [.mem 0 false sz rs]) else none
  if new.isEmpty then
    match s with
    | .fz (.s .nslice) | .own .. | .fz (.row ..) | .cl .. => some (s, H)
    | _ => none
  else
    match s with
    | .fz (.s .nslice) => fresh []
    | .cl wd rs => if wd = sz then fresh (rs.map fun r => r.map .fz) else none
    | .own b ver lo len clip =>
      match H[b]? with
      | some (.mem v fr wd rs) =>
        if v = ver ∧ wd = sz ∧ lo + len ≤ rs.length then
          if clip then fresh ((rs.drop lo).take len)
          else if !fr && new.all (fun r => r.length == sz) then
            some (.own b (ver + 1) 0 (len + new.length) false, H.set b (.mem (ver + 1) false wd ((rs.drop lo).take len ++ new)))
          else none
        else none
      | _ => none
    | _ => none
def roomy (n bytes : Nat) : Bool := n ≤ 2 ^ 36 && bytes ≤ 2 ^ 10

/-! ### maps -/
def F.keyEq : F → F → Option Bool
  | .s x, .s y => if S.alike x y then some (decide (x = y)) else none
  | .agg a, .agg b =>
    match scalars a, scalars b with
    | some xs, some ys => if alikeL xs ys then some (decide (xs = ys)) else none
    | _, _ => none
  | _, _ => none
def findV (k : F) : List (F × V) → Option (Option (Nat × V))
  | [] => some none
  | (x, v) :: r =>
    match F.keyEq k x with
    | some true => some (some (0, v))
    | some false => (findV k r).map fun o => o.map fun (i, v) => (i + 1, v)
    | none => none
def keyFits (E : Env) (kt : TypeId) (k : F) : Bool :=
  match E.ty kt, k with
  | some { desc := .int q, .. }, .s (.int q' _) => q == q'
  | some { desc := .string, .. }, .s (.str _) => true
  | some { desc := .bool, .. }, .s (.bool _) => true
  | some i, .agg cs => E.eqT kt && (match scalars cs with | some xs => alikeL i.zero xs | none => false)
  | _, _ => false
def zeroOf (E : Env) (t : TypeId) : Option V :=
  match E.ty t with
  | some i => if i.isAgg then some (mkAgg (zeroV i.zero)) else (match i.zero with | [s] => some (.fz (.s s)) | _ => none)
  | none => none
def mapOf (H : Heap) : V → Option (List (F × V))
  | .fz (.s .nmap) => some []
  | .map m => match H[m]? with | some (.map es) => some es | _ => none
  | _ => none
def lookupV (E : Env) (H : Heap) (t : TypeId) (x k : V) (commaOk : Bool) : Option V :=
  match E.ty t, mapOf H x, k with
  | some { desc := .map kt et, .. }, some es, .fz k =>
    if keyFits E kt k && es.all (fun e => keyFits E kt e.1) then
      match findV k es, zeroOf E et with
      | some r, some z =>
        let (v, ok) := match r with | some (_, v) => (v, true) | none => (z, false)
        some (if commaOk then mkTup [v, bV ok] else v)
      | _, _ => none
    else none
  | _, _, _ => none
def mapUpdateV (E : Env) (H : Heap) (t : TypeId) (x k v : V) : Option Heap :=
  match E.ty t, x, k with
  | some { desc := .map kt _, .. }, .map m, .fz k =>
    match H[m]? with
    | some (.map es) =>
      if keyFits E kt k && es.all (fun e => keyFits E kt e.1) then
        match findV k es with
        | some (some (i, _)) => some (H.set m (.map (es.set i (k, v))))
        | some none => some (H.set m (.map (es ++ [(k, v)])))
        | none => none
      else none
    | _ => none
  | _, _, _ => none

/-! ### freezing -/
/-- a value by content; what it leads to is marked: nothing writes there any more -/
def frzRow (fr : Heap → V → Option (F × Heap)) : Heap → List V → Option (List F × Heap)
  | H, [] => some ([], H)
  | H, v :: r => match fr H v with
    | some (x, H) => match frzRow fr H r with | some (l, H) => some (x :: l, H) | none => none
    | none => none
def frzRows (fr : Heap → V → Option (F × Heap)) : Heap → List (List V) → Option (List (List F) × Heap)
  | H, [] => some ([], H)
  | H, v :: r => match frzRow fr H v with
    | some (x, H) => match frzRows fr H r with | some (l, H) => some (x :: l, H) | none => none
    | none => none
def frzV : Nat → Heap → V → Option (F × Heap)
  | 0, _, _ => none
  | n + 1, H, v =>
    match v with
    | .fz x => some (x, H)
    | .cl wd rs => some (.row wd rs, H)
    | .agg cs => match frzRow (frzV n) H cs with | some (l, H) => some (.agg l, H) | none => none
    | .tup cs => match frzRow (frzV n) H cs with | some (l, H) => some (.tup l, H) | none => none
    | .own b ver lo len _ =>
      match H[b]? with
      | some (.mem v _ wd rs) =>
        if v = ver ∧ lo + len ≤ rs.length then
          match frzRows (frzV n) (H.set b (.mem v true wd rs)) ((rs.drop lo).take len) with
          | some (l, H) => some (.row wd l, H)
          | none => none
        else none
      | _ => none
    | .ptr b ver i j =>
      match H[b]? with
      | some (.mem v _ wd rs) =>
        if v = ver then
          match rs[i]? with
          | some r => match frzRow (frzV n) (H.set b (.mem v true wd rs)) r with
            | some (l, H) => some (.ptr l j, H)
            | none => none
          | none => none
        else none
      | _ => none
    | _ => none
-- nothing in it leads to memory
mutual
def F.flat : F → Bool
  | .s _ => true
  | .agg cs => F.flatL cs
  | .tup cs => F.flatL cs
  | _ => false
def F.flatL : List F → Bool
  | [] => true
  | x :: r => F.flat x && F.flatL r
end

/-! ### one operation that calls nothing -/
inductive OpK | quiet | fresh | act
  deriving DecidableEq
def callK (c : Call) : OpK :=
  match c.callee with
  | .builtin .len | .builtin .cap | .builtin .min | .builtin .max => .quiet
  | _ => .act
def opK : Op → OpK
  | .alloc _ | .box .. | .buildSlice .. | .makeSlice .. | .makeMap .. => .fresh
  | .move _ | .assign _ | .pick .. | .build .. | .load .. | .nilCheck _ | .binOp .. | .unOp .. | .convert .. | .makeFunc .. | .slice ..
  | .fieldAddr .. | .field .. | .indexAddr .. | .index .. | .lookup .. | .extract .. => .quiet
  | .call c => callK c
  | _ => .act

def minmax (mx : Bool) : V → List V → Option V
  | v, [] => some v
  | .fz (.s (.int k x)), .fz (.s (.int k' y)) :: r =>
    if k = k' then minmax mx (.fz (.s (.int k (if mx then (if y > x then y else x) else (if y < x then y else x))))) r else none
  | _, _ => none
def optV (E : Env) (T : List V) : Option Operand → Option (Option V)
  | none => some none
  | some x => (ev E T x).map some

def qPick (E : Env) (T : List V) (c a b : Operand) : Option V :=
  match ev E T c with | some (.fz (.s (.bool t))) => if t then ev E T a else ev E T b | _ => none
def qBuildS (E : Env) (i : TyI) (fs : Array Field) (ps : List (Nat × V)) : Option V :=
  match (fillV (fun k => match fs[k]? with | some fd => (sizeT E fd.type).map fun s => (fd.offset, s) | none => none) (zeroV i.zero) ps) with
  | some cs => if fs.all (fun fd => (sizeT E fd.type).isSome) then some (mkAgg cs) else none
  | none => none
def qBuildA (E : Env) (i : TyI) (e : TypeId) (ps : List (Nat × V)) : Option V :=
  match sizeT E e with
  | some sz => (fillV (fun k => some (k * sz, sz)) (zeroV i.zero) ps).map mkAgg
  | none => none
def qBuild (E : Env) (T : List V) (t : TypeId) (parts : Array (Nat × Operand)) : Option V :=
  match E.ty t, evParts E T parts.toList with
  | some i, some ps =>
    match i.desc with
    | .struct fs => qBuildS E i fs ps
    | .array _ e => qBuildA E i e ps
    | _ => none
  | _, _ => none
def one? : Option (List V) → Option V
  | some [v] => some v
  | _ => none
def loadV (H : Heap) (i : TyI) (av : V) : Option V :=
  bif i.isAgg then (loadC H av i.size).map mkAgg else one? (loadC H av 1)
def qLoad (E : Env) (H : Heap) (T : List V) (t : TypeId) (a : Operand) : Option V :=
  match E.ty t, ev E T a with
  | some i, some av => loadV H i av
  | _, _ => none
def qNil (E : Env) (T : List V) (x : Operand) : Option V :=
  match ev E T x with
  | some (.fz (.ptr cs j)) => some (.fz (.ptr cs j))
  | some (.ptr b ver i j) => some (.ptr b ver i j)
  | some (.clo f c) => some (.clo f c)
  | some (.fz (.s (.fn f))) => some (.fz (.s (.fn f)))
  | _ => none
def qBin (E : Env) (T : List V) (op : BinOp) (t : TypeId) (x y : Operand) : Option V :=
  match ev E T x, ev E T y with | some a, some b => binV E op t a b | _, _ => none
def qUn (E : Env) (T : List V) (op : UnOp) (x : Operand) : Option V :=
  match ev E T x with | some a => unV op a | none => none
def qConv (E : Env) (T : List V) (s d : TypeId) (x : Operand) : Option V :=
  match ev E T x with | some a => convV E s d a | none => none
def qFunc (E : Env) (T : List V) (fn : Fn) (first captured : Array Operand) : Option V :=
  match fn with
  | .func f =>
    if first.isEmpty then
      match evL E T captured.toList with
      | some [] => some (.fz (.s (.fn f)))
      | some l => some (.clo f l)
      | none => none
    else none
  | _ => none
def qSlice (E : Env) (H : Heap) (T : List V) (t : TypeId) (x : Operand) (lo hi mx : Option Operand) : Option V :=
  match ev E T x, optV E T lo, optV E T hi, optV E T mx with
  | some v, some l, some h, some m => bif m.isSome && h.isNone then none else sliceV E H t v l h m
  | _, _, _, _ => none
def qFieldAddr (E : Env) (T : List V) (t : TypeId) (x : Operand) (f : Nat) : Option V :=
  match ev E T x with | some v => fieldAddrV E t v f | none => none
def qField (E : Env) (T : List V) (t : TypeId) (x : Operand) (f : Nat) : Option V :=
  match ev E T x with | some v => fieldV E t v f | none => none
def qIndexAddr (E : Env) (H : Heap) (T : List V) (t : TypeId) (x i : Operand) : Option V :=
  match ev E T x, ev E T i with | some v, some k => indexAddrV E H t v k | _, _ => none
def qIndex (E : Env) (T : List V) (t : TypeId) (x i : Operand) : Option V :=
  match ev E T x, ev E T i with | some v, some k => indexV E t v k | _, _ => none
def qLookup (E : Env) (H : Heap) (T : List V) (t : TypeId) (x k : Operand) (ok : Bool) : Option V :=
  match ev E T x, ev E T k with | some v, some q => lookupV E H t v q ok | _, _ => none
def qExtract (E : Env) (T : List V) (t : Operand) (i : Nat) : Option V :=
  match ev E T t with
  | some (.tup vs) => vs[i]?
  | some (.fz (.tup vs)) => (vs[i]?).map .fz
  | _ => none
def lenOfV (H : Heap) (d : Option TypeDesc) (v : V) : Option V :=
  match v, d with
  | .fz (.s (.str s)), some .string => some (i64 s.size)
  | .fz (.s (.str _)), _ => none
  | v, some (.slice _) => (lenV v).map fun (n : Nat) => i64 n
  | v, some (.map _ _) => (mapOf H v).map fun es => i64 (es.length : Nat)
  | _, _ => none
def qLen (E : Env) (H : Heap) (T : List V) (args : List Operand) (t : Option TypeId) : Option V :=
  match args, t with
  | [x], some t => match ev E T x with | some v => lenOfV H (kindOfT E t) v | none => none
  | _, _ => none
def capOfV (d : Option TypeDesc) (v : V) : Option V :=
  match v, d with
  | .fz (.s .nslice), some (.slice _) => some (i64 0)
  | .own _ _ _ len true, some (.slice _) => some (i64 len)
  | .cl _ rs, some (.slice _) => some (i64 rs.length)
  | _, _ => none
def qCap (E : Env) (T : List V) (args : List Operand) (t : Option TypeId) : Option V :=
  match args, t with
  | [x], some t => match ev E T x with | some v => capOfV (kindOfT E t) v | none => none
  | _, _ => none
def qMinmax (E : Env) (T : List V) (mx : Bool) (args : List Operand) : Option V :=
  match evL E T args with | some (v :: r) => (intOf v).bind fun _ => minmax mx v r | _ => none
def qCall (E : Env) (H : Heap) (T : List V) (c : Call) : Option V :=
  match c.callee with
  | .builtin .len => qLen E H T c.args.toList c.argTypes[0]?
  | .builtin .cap => qCap E T c.args.toList c.argTypes[0]?
  | .builtin .max => qMinmax E T true c.args.toList
  | .builtin .min => qMinmax E T false c.args.toList
  | _ => none

/-- operations that leave memory as it is -/
def quietV (E : Env) (H : Heap) (T : List V) (op : Op) : Option V :=
  match op with
  | .move x => ev E T x
  | .assign x => ev E T x
  | .pick c a b => qPick E T c a b
  | .build t parts => qBuild E T t parts
  | .load t a => qLoad E H T t a
  | .nilCheck x => qNil E T x
  | .binOp op t x y _ => qBin E T op t x y
  | .unOp op _ x => qUn E T op x
  | .convert s d x => qConv E T s d x
  | .makeFunc fn first captured => qFunc E T fn first captured
  | .slice t x lo hi mx => qSlice E H T t x lo hi mx
  | .fieldAddr t x f => qFieldAddr E T t x f
  | .field t x f => qField E T t x f
  | .indexAddr t x i => qIndexAddr E H T t x i
  | .index t x i => qIndex E T t x i
  | .lookup t x k ok => qLookup E H T t x k ok
  | .extract t i => qExtract E T t i
  | .call c => qCall E H T c
  | _ => none

def fAlloc (E : Env) (id : Nat) (t : TypeId) : Option (V × Blk) :=
  match E.ty t with | some i => some (.ptr id 0 0 0, .mem 0 false i.zero.length [zeroV i.zero]) | none => none
def fBox (E : Env) (T : List V) (id : Nat) (x : Operand) : Option (V × Blk) :=
  match ev E T x with
  | some v => match v.cells with | some cs => some (.ptr id 0 0 0, .mem 0 false cs.length [cs]) | none => none
  | none => none
def fBuild (E : Env) (T : List V) (id : Nat) (t : TypeId) (len : Nat) (parts : Array (Nat × Operand)) : Option (V × Blk) :=
  match elemT E t, evParts E T parts.toList with
  | some ei, some ps =>
    if len * ei.size ≤ 2 ^ 20 then
      (fillRows ei.size (List.replicate len (zeroV ei.zero)) ps).map fun rs => (.own id 0 0 len true, .mem 0 false ei.size rs)
    else none
  | _, _ => none
def fMake (E : Env) (T : List V) (id : Nat) (t : TypeId) (l c : Operand) : Option (V × Blk) :=
  match elemT E t, ev E T l, ev E T c with
  | some ei, some (.fz (.s (.int .i64 n))), some (.fz (.s (.int .i64 m))) =>
    if 0 ≤ n ∧ n ≤ m ∧ m ≤ 2 ^ 36 ∧ ei.bytes ≤ 2 ^ 10 then
      some (.own id 0 0 n.toNat (n == m), .mem 0 false ei.size (List.replicate n.toNat (zeroV ei.zero)))
    else none
  | _, _, _ => none
/-- operations that only make a block: the value of the new block's number, the block -/
def freshV (E : Env) (T : List V) (id : Nat) (op : Op) : Option (V × Blk) :=
  match op with
  | .alloc t => fAlloc E id t
  | .box _ x => fBox E T id x
  | .buildSlice t len parts => fBuild E T id t len parts
  | .makeSlice t l c => fMake E T id t l c
  | .makeMap _ r => match r with | none => some (.map id, .map []) | some _ => none
  | _ => none

def aStore (E : Env) (H : Heap) (T : List V) (t : TypeId) (a x : Operand) : Option (V × Heap) :=
  match E.ty t, ev E T a, ev E T x with
  | some i, some av, some v =>
    match v.cells with
    | some cs => if cs.length = i.size then (storeC H av cs).map fun H => (.fz (.s .undef), H) else none
    | none => none
  | _, _, _ => none
def aMap (E : Env) (H : Heap) (T : List V) (t : TypeId) (m k x : Operand) : Option (V × Heap) :=
  match ev E T m, ev E T k, ev E T x with
  | some mv, some kv, some v => (mapUpdateV E H t mv kv v).map fun H => (.fz (.s .undef), H)
  | _, _, _ => none
/-- the rows of what is appended or copied -/
def srcRows (H : Heap) (sz : Nat) : V → Option (List (List V))
  | .fz (.s .nslice) => some []
  | xv => match rowsOf H xv with | some (wd, rs) => if wd = sz then some rs else none | none => none
def append1 (H : Heap) (ei : TyI) (sv xv : V) : Option (V × Heap) :=
  match srcRows H ei.size xv, lenV sv with
  | some new, some len => if roomy (len + new.length) ei.bytes && new.all (fun r => r.all V.one) then appendV H ei.size sv new else none
  | _, _ => none
def append0 (H : Heap) (ei : TyI) (sv : V) (n : Int) : Option (V × Heap) :=
  match lenV sv with
  | some len => if 0 ≤ n ∧ roomy (len + n.toNat) ei.bytes then appendV H ei.size sv (List.replicate n.toNat (zeroV ei.zero)) else none
  | none => none
def aAppend (E : Env) (H : Heap) (T : List V) (args : List Operand) (tys : List TypeId) : Option (V × Heap) :=
  match args, tys with
  | [s, x], [t, t'] =>
    match elemT E t, ev E T s, ev E T x, kindOfT E t' with
    | some ei, some sv, some xv, some (.slice _) => append1 H ei sv xv
    | some ei, some sv, some (.fz (.s (.int .i64 n))), some (.int _) => append0 H ei sv n
    | _, _, _, _ => none
  | _, _ => none
def copy1 (H : Heap) (ei : TyI) (dv : V) (src : List (List V)) : Option (V × Heap) :=
  match dv with
  | .own b ver lo len _ =>
    match H[b]? with
    | some (.mem v false wd rs) =>
      if v = ver ∧ wd = ei.size ∧ lo + len ≤ rs.length then
        some (i64 (min src.length len : Nat), H.set b (.mem v false wd (rs.take lo ++ src.take (min src.length len) ++ rs.drop (lo + min src.length len))))
      else none
    | _ => none
  | dv => if src.isEmpty || lenV dv == some 0 then some (i64 0, H) else none
def aCopy (E : Env) (H : Heap) (T : List V) (args : List Operand) (tys : List TypeId) : Option (V × Heap) :=
  match args, tys with
  | [d, x], t :: _ =>
    match elemT E t, ev E T d, ev E T x with
    | some ei, some dv, some xv => match srcRows H ei.size xv with | some src => copy1 H ei dv src | none => none
    | _, _, _ => none
  | _, _ => none
def clear1 (H : Heap) (ei : TyI) (x : V) : Option (V × Heap) :=
  match x with
  | .own b ver lo len _ =>
    if len = 0 then some (.fz (.tup []), H) else
    match H[b]? with
    | some (.mem v false wd rs) =>
      if v = ver ∧ wd = ei.size ∧ lo + len ≤ rs.length then
        some (.fz (.tup []), H.set b (.mem v false wd (rs.take lo ++ List.replicate len (zeroV ei.zero) ++ rs.drop (lo + len))))
      else none
    | _ => none
  | .fz (.s .nslice) => some (.fz (.tup []), H)
  | .fz (.row _ []) => some (.fz (.tup []), H)
  | .cl _ [] => some (.fz (.tup []), H)
  | _ => none
def aClear (E : Env) (H : Heap) (T : List V) (args : List Operand) (tys : List TypeId) : Option (V × Heap) :=
  match args, tys with
  | [x], [t] => match elemT E t, ev E T x with | some ei, some v => clear1 H ei v | _, _ => none
  | _, _ => none
def aCall (E : Env) (H : Heap) (T : List V) (c : Call) : Option (V × Heap) :=
  match c.callee with
  | .builtin .append => aAppend E H T c.args.toList c.argTypes.toList
  | _ => none
/-- operations that write memory, and no call of a function -/
def actV (E : Env) (H : Heap) (T : List V) (op : Op) : Option (V × Heap) :=
  match op with
  | .store t a x => aStore E H T t a x
  | .mapUpdate t m k x => aMap E H T t m k x
  | .insert t m k x => aMap E H T t m k x
  | .call c => aCall E H T c
  | _ => none

end Go.Vm
/- The abstract machine's step. -/
set_option linter.unusedVariables false
namespace Go.Vm

inductive Ex | normal | exit (id : Nat) | goto (l : Nat) | ret
inductive Task
  | code (c : Code) (T : List V) (H : Heap)
  | call (f : FuncId) (args : List V) (H : Heap)
  | round (l : Nat) (args : List V) (H : Heap)
  | pcall (f : FuncId) (args : List F)
inductive Out
  | ex (e : Ex) (T : List V) (H : Heap)
  | val (v : V) (H : Heap)
  | pv (x : F)

def undefV : V := .fz (.s .undef)
def setD (T : List V) (d : Option Tmp) (v : V) : List V := match d with | some d => T.set d v | none => T
/-- is the operation wanted -/
def wantV (ops : Array Oper) (T : List V) (o : Oper) : Option Bool :=
  match o.guard with
  | none => some true
  | some (j, b) =>
    match (ops[j]?).bind (·.dst) with
    | some d => match T[d]? with
      | some (.fz (.s (.bool x))) => some (x == b)
      | some (.fz (.s .undef)) => some false
      | _ => none
    | none => some false

def frzFuel : Nat := 64
/-- a function value is called -/
def valOf : Option Out → Option (V × Heap)
  | some (.val v H) => some (v, H)
  | _ => none
def keepH (x : F) (H H1 : Heap) : Option (V × Heap) := some (.fz x, if x.flat then H else H1)
def callP (E : Env) (rec : Task → Option Out) (H : Heap) (g : FuncId) (args : List V) : Option (V × Heap) :=
  match frzRow (frzV frzFuel) H args with
  | some (xs, H1) =>
    match (E.prim g).bind fun p => p xs with
    | some x => keepH x H H1
    | none => match rec (.pcall g xs) with | some (.pv x) => keepH x H H1 | _ => none
  | none => none
def callX (p : List S → Option S) (H : Heap) (args : List V) : Option (V × Heap) :=
  match (unfz args).bind scalars with
  | some ss => (p ss).map fun s => (.fz (.s s), H)
  | none => none
def callF (E : Env) (rec : Task → Option Out) (H : Heap) (g : FuncId) (args : List V) : Option (V × Heap) :=
  match E.ext g with
  | some p => callX p H args
  | none => bif E.pure g then callP E rec H g args else valOf (rec (.call g args H))
/-- a function value is called -/
def callV (E : Env) (rec : Task → Option Out) (H : Heap) (f : V) (args : List V) : Option (V × Heap) :=
  match f with
  | .fz (.s (.fn g)) => callF E rec H g args
  | .clo g cap => valOf (rec (.call g (args ++ cap) H))
  | .yield l => valOf (rec (.round l args H))
  | _ => none
def actC (E : Env) (rec : Task → Option Out) (H : Heap) (T : List V) (f : Operand) (args : List Operand) : Option (V × Heap) :=
  match ev E T f, evL E T args with
  | some fv, some as => callV E rec H fv as
  | _, _ => none
def actR (E : Env) (rec : Task → Option Out) (H : Heap) (T : List V) (op : Op) : Option (V × Heap) :=
  match op with
  | .call c => match c.callee with | .value f => actC E rec H T f c.args.toList | _ => actV E H T op
  | op => actV E H T op
def opR (E : Env) (rec : Task → Option Out) (H : Heap) (T : List V) (op : Op) : Option (V × Heap) :=
  match opK op with
  | .quiet => (quietV E H T op).map fun v => (v, H)
  | .fresh => (freshV E T H.length op).map fun (v, b) => (v, H ++ [b])
  | .act => actR E rec H T op
def seqR (E : Env) (rec : Task → Option Out) (ops : Array Oper) : List Oper → List V → Heap → Option (List V × Heap)
  | [], T, H => some (T, H)
  | o :: r, T, H =>
    match wantV ops T o with
    | some true =>
      match opR E rec H T o.op with
      | some (v, H) => seqR E rec ops r (setD T o.dst v) H
      | none => none
    | some false => seqR E rec ops r (setD T o.dst undefV) H
    | none => none

/-! ### regions that draw their order -/
/-- what surely comes before each operation -/
def befs (ops : List Oper) : List Nat :=
  ops.foldl (init := []) fun acc o =>
    acc ++ [o.after.foldl (init := 0) fun m e => if Region.binds .any e then m ||| 2 ^ e.on ||| (acc[e.on]?).getD 0 else m]
structure Tr where
  i : Nat
  o : Oper
  T : List V
  want : Bool
  v : V
  st : Nat
  id : Nat
/-- a run in the order of the text: what each operation came to, and memory ahead of each act (the last ones first) -/
def traceR (E : Env) (rec : Task → Option Out) (ops : Array Oper) : List (Nat × Oper) → List V → Heap → List Tr → List Heap → Option (List V × Heap × List Tr × List Heap)
  | [], T, H, tr, G => some (T, H, tr, G)
  | (i, o) :: r, T, H, tr, G =>
    match wantV ops T o with
    | some true =>
      match opK o.op with
      | .quiet => match quietV E H T o.op with
        | some v => traceR E rec ops r (setD T o.dst v) H ({ i, o, T, want := true, v, st := G.length, id := 0 } :: tr) G
        | none => none
      | .fresh => match freshV E T H.length o.op with
        | some (v, b) => traceR E rec ops r (setD T o.dst v) (H ++ [b]) ({ i, o, T, want := true, v, st := G.length, id := H.length } :: tr) G
        | none => none
      | .act => match actR E rec H T o.op with
        | some (v, H') => bif Nat.ble H.length H'.length then traceR E rec ops r (setD T o.dst v) H' ({ i, o, T, want := true, v, st := G.length, id := 0 } :: tr) (H :: G) else none
        | none => none
    | some false => traceR E rec ops r (setD T o.dst undefV) H ({ i, o, T, want := false, v := undefV, st := G.length, id := 0 } :: tr) G
    | none => none
/-- does the operation's result stand in this memory -/
def valueAt (E : Env) (H : Heap) (t : Tr) : Bool :=
  if !t.want then true else
  match opK t.o.op with
  | .act => false
  | .quiet => match quietV E H t.T t.o.op with | some v => V.beq v t.v | none => false
  | .fresh =>
    match freshV E t.T t.id t.o.op with
    | some (_, .mem ver fr wd rs) => Blk.isMem (H[t.id]?) ver fr wd rs
    | some (_, .map []) => match H[t.id]? with | some (.map []) => true | _ => false
    | _ => false
def standsFrom (E : Env) (bs : List Nat) (t : Tr) : List Nat → List Heap → Bool
  | _, [] => false
  | [], H :: _ => valueAt E H t
  | e :: acts, H :: G => valueAt E H t && (((bs[e]?).getD 0).testBit t.i || standsFrom E bs t acts G)
/-- does the operation's result stand at each stage at which it may come up -/
def stands (E : Env) (bs : List Nat) (acts : List Nat) (G : List Heap) (t : Tr) : Bool :=
  if !t.want then true else
  (acts.take t.st).all (fun e => ((bs[t.i]?).getD 0).testBit e) &&
  match opK t.o.op with
  | .act => true
  | .fresh => standsFrom E bs t (acts.drop t.st) (G.drop t.st)
  | .quiet => match acts.drop t.st with
    | [] => true
    | e :: acts => ((bs[e]?).getD 0).testBit t.i || standsFrom E bs t acts (G.drop (t.st + 1))
def isAct (o : Oper) : Bool := opK o.op == .act
/-- the order in which a region is tried: each operation as soon as may be, an act behind all that need not wait for it -/
def placed (bs : List Nat) (acts : List Nat) (i : Nat) : Nat := (acts.filter fun e => ((bs[i]?).getD 0).testBit e).length
def stageOps (bs : List Nat) (acts : List Nat) (z : List (Nat × Oper)) (k : Nat) : List (Nat × Oper) :=
  (z.filter fun p => !isAct p.2 && placed bs acts p.1 == k) ++ (z.filter fun p => isAct p.2 && placed bs acts p.1 == k)
def orderR (bs : List Nat) (l : List Oper) : List (Nat × Oper) :=
  let z := (List.range l.length).zip l
  let acts := (z.filter fun p => isAct p.2).map (·.1)
  (List.range (acts.length + 1)).flatMap (stageOps bs acts z)
def drawT (E : Env) (rec : Task → Option Out) (ops : Array Oper) (l : List Oper) (T : List V) (H : Heap) : Option (List V × Heap × List Tr) :=
  let bs := befs l
  match traceR E rec ops (orderR bs l) T H [] [] with
  | some (T', H', tr, G) =>
    let G := (H' :: G).reverse
    let acts := (tr.reverse.filter fun t => t.want && isAct t.o).map (·.i)
    if tr.all (stands E bs acts G) then some (T', H', tr) else none
  | none => none
def drawR (E : Env) (rec : Task → Option Out) (ops : Array Oper) (l : List Oper) (T : List V) (H : Heap) : Option (List V × Heap) :=
  match drawT E rec ops l T H with | some (T, H, _) => some (T, H) | none => none

/-! what is asked of a region's text, once -/
def tmpsOf (l : List Operand) : List Tmp := l.filterMap fun | .tmp t => some t | _ => none
def readsOf (ops : Array Oper) (o : Oper) : List Tmp :=
  tmpsOf o.op.operands.toList ++ (match o.guard with | some (j, _) => ((ops[j]?).bind (·.dst)).toList | none => [])
/-- what they write and read keeps apart -/
def apartOk (ops : Array Oper) (x y : Oper) : Bool :=
  (match x.dst with | some d => !(readsOf ops y).contains d && y.dst != some d | none => true) &&
  (match y.dst with | some d => !(readsOf ops x).contains d | none => true)
/-- writers and readers of one temporary are in order; acts are in order -/
def pairOk (ops : Array Oper) (bs : List Nat) (i j : Nat) (x y : Oper) : Bool :=
  ((bs[j]?).getD 0).testBit i || (!(isAct x && isAct y) && apartOk ops x y)
/-- an order in which nothing comes ahead of what must be before it, and nothing twice -/
def orderOk (bs : List Nat) : List Nat → Bool
  | [] => true
  | a :: r => !r.contains a && r.all (fun b => !((bs[a]?).getD 0).testBit b) && orderOk bs r
def closure (bs : List Nat) (y : Oper) : Nat := y.after.foldl (init := 0) fun m e => if Region.binds .any e then m ||| 2 ^ e.on ||| ((bs[e.on]?).getD 0) else m
def edgesOk (bs : List Nat) (j : Nat) (y : Oper) : Bool :=
  y.after.all (fun e => !Region.binds .any e || Nat.blt e.on j) && Nat.beq ((bs[j]?).getD 0) (closure bs y)
def opOk (y : Oper) : Bool := match y.op with | .defer _ | .select .. | .go _ => false | _ => true
def chainOk (ops : Array Oper) (l : List Oper) : Bool :=
  let bs := befs l
  let z := (List.range l.length).zip l
  let q := (orderR bs l).map (·.1)
  (z.all fun (j, y) => edgesOk bs j y && opOk y && (z.all fun (i, x) => !Nat.blt i j || pairOk ops bs i j x y)) &&
  orderOk bs q && (List.range l.length).all (q.contains ·)
def isStore (o : Oper) : Bool := (match o.op with | .store .. => true | _ => false) && o.dst.isNone && o.guard.isNone
/-- two stores at the end that are in no order -/
def twoTail (ops : Array Oper) : Bool :=
  let l := ops.toList
  let m := l.length - 2
  Nat.ble 2 l.length &&
  (match l[m]?, l[m + 1]? with
   | some x, some y => isStore x && isStore y && y.after.all (fun e => !Region.binds .any e || Nat.blt e.on m)
   | _, _ => false)
def tailOk1 (ops : Array Oper) (bs : List Nat) (z : List (Nat × Oper)) (m : Nat) (x : Oper) : Bool :=
  x.after.all (fun e => !Region.binds .any e || Nat.blt e.on m) &&
  z.all fun (i, o) => (closure bs x).testBit i || (!isAct o && apartOk ops o x)
def twoOk (ops : Array Oper) : Bool :=
  let l := ops.toList
  let m := l.length - 2
  let bs := befs (l.take m)
  let z := (List.range m).zip (l.take m)
  chainOk ops (l.take m) &&
  (match l[m]?, l[m + 1]? with
   | some x, some y => tailOk1 ops bs z m x && tailOk1 ops bs z m y
   | _, _ => false)
def drawnOk (ops : Array Oper) : Bool := bif twoTail ops then twoOk ops else chainOk ops ops.toList
def seqOk (ops : Array Oper) : Bool := ops.all opOk
def codeOk : Code → Bool
  | .region _ ops draw => bif draw then drawnOk ops else seqOk ops
  | .seq a b => codeOk a && codeOk b
  | .cond _ a b => codeOk a && codeOk b
  | .block _ c => codeOk c
  | .loop c => codeOk c
  | .scope c => codeOk c
  | .rangeFunc _ _ a b => codeOk a && codeOk b
  | _ => true
/-- the block that a store writes -/
def storedIn (E : Env) (T : List V) (o : Oper) : Option Nat :=
  match o.op with
  | .store _ a _ => match ev E T a with | some (.ptr b _ _ _) => some b | _ => none
  | _ => none
def sameIn (b : Nat) (H1 H2 : Heap) : Bool := match H1[b]? with | some (.mem v fr wd rs) => Blk.isMem (H2[b]?) v fr wd rs | _ => false
def tailAt (E : Env) (cx cy : Nat) (Hx Hy Hxy : Heap) (t : Tr) : Bool :=
  let a := cx.testBit t.i
  let b := cy.testBit t.i
  (a || valueAt E Hx t) && (b || valueAt E Hy t) && (a || b || valueAt E Hxy t)
def stored (E : Env) (H : Heap) (T : List V) (o : Oper) : Option Heap := match actV E H T o.op with | some (_, H) => some H | none => none
def twoR (E : Env) (rec : Task → Option Out) (ops : Array Oper) (T : List V) (H : Heap) : Option (List V × Heap) :=
  let l := ops.toList
  let m := l.length - 2
  let bs := befs (l.take m)
  match drawT E rec ops (l.take m) T H, l[m]?, l[m + 1]? with
  | some (T, H, tr), some x, some y =>
    match storedIn E T x, storedIn E T y, stored E H T x, stored E H T y with
    | some bx, some by_, some Hx, some Hy =>
      match stored E Hx T y, stored E Hy T x with
      | some H1, some H2 =>
        if sameIn bx H1 H2 && sameIn by_ H1 H2 && tr.all (tailAt E (closure bs x) (closure bs y) Hx Hy H1) then some (T, H1) else none
      | _, _ => none
    | _, _, _, _ => none
  | _, _, _ => none
def regR (E : Env) (rec : Task → Option Out) (ops : Array Oper) (draw : Bool) (T : List V) (H : Heap) : Option (List V × Heap) :=
  bif draw then (bif twoTail ops then twoR E rec ops T H else drawR E rec ops ops.toList T H) else seqR E rec ops ops.toList T H

/-! ### code -/
def resV (H : Heap) (E : Env) (T : List V) : List ResultVar → Option (List V)
  | [] => some []
  | .tmp t :: r => match T[t]?, resV H E T r with | some v, some l => some (v :: l) | _, _ => none
  | .cell a t :: r =>
    match T[a]?, E.ty t, resV H E T r with
    | some av, some i, some l => match loadV H i av with | some v => some (v :: l) | none => none
    | _, _, _ => none
def oneOr (l : List V) : V := match l with | [v] => v | l => mkTup l
def setPs : List (Tmp × V) → List V → List V
  | [], T => T
  | (t, v) :: r, T => setPs r (T.set t v)

def sSeq (rec : Task → Option Out) (a b : Code) (T : List V) (H : Heap) : Option Out :=
  match rec (.code a T H) with
  | some (.ex .normal T H) => rec (.code b T H)
  | r => r
def sCond (E : Env) (rec : Task → Option Out) (c : Operand) (a b : Code) (T : List V) (H : Heap) : Option Out :=
  match ev E T c with
  | some (.fz (.s (.bool t))) => bif t then rec (.code a T H) else rec (.code b T H)
  | _ => none
def leaveB (id : Nat) : Option Out → Option Out
  | some (.ex (.exit k) T H) => bif Nat.beq k id then some (.ex .normal T H) else some (.ex (.exit k) T H)
  | r => r
def sLoop (rec : Task → Option Out) (c : Code) (T : List V) (H : Heap) : Option Out :=
  match rec (.code c T H) with
  | some (.ex .normal T H) => rec (.code (.loop c) T H)
  | r => r
def sReg (E : Env) (rec : Task → Option Out) (ops : Array Oper) (draw : Bool) (T : List V) (H : Heap) : Option Out :=
  match regR E rec ops draw T H with
  | some (T, H) => some (.ex .normal T H)
  | none => none
def endRange (l : Nat) (T : List V) (H : Heap) : Option Out :=
  match H[l]? with
  | some (.loop r) =>
    if r.st = .busy then none else
    match r.pending with
    | none => some (.ex .normal T (H.set l .dead))
    | some .ret => some (.ex .ret T (H.set l .dead))
    | some (.exit id) => some (.ex (.exit id) T (H.set l .dead))
    | some _ => none
  | _ => none
/-- the iterator is called -/
def callIter (rec : Task → Option Out) (H : Heap) (f : V) (y : V) : Option (V × Heap) :=
  match f with
  | .fz (.s (.fn g)) => valOf (rec (.call g [y] H))
  | .clo g cap => valOf (rec (.call g (y :: cap) H))
  | _ => none
def sRange (E : Env) (rec : Task → Option Out) (f : Operand) (ps : Array Tmp) (assign body : Code) (T : List V) (H : Heap) : Option Out :=
  match ev E T f with
  | some fv =>
    match callIter rec (H ++ [.loop { st := .ready, pending := none, tmps := T, ps := ps.toList, assign, body }]) fv (.yield H.length) with
    | some (_, H') => endRange H.length T H'
    | none => none
  | none => none
def sCode (E : Env) (rec : Task → Option Out) (c : Code) (T : List V) (H : Heap) : Option Out :=
  match c with
  | .skip => some (.ex .normal T H)
  | .label _ => some (.ex .normal T H)
  | .ret => some (.ex .ret T H)
  | .exit id => some (.ex (.exit id) T H)
  | .seq a b => sSeq rec a b T H
  | .cond c a b => sCond E rec c a b T H
  | .block id c => leaveB id (rec (.code c T H))
  | .loop c => sLoop rec c T H
  | .region _ ops draw => sReg E rec ops draw T H
  | .rangeFunc f ps assign body => sRange E rec f ps assign body T H
  | _ => none
def endCall (E : Env) (rs : List ResultVar) : Option Out → Option Out
  | some (.ex .normal T H) => match resV H E T rs with | some l => some (.val (oneOr l) H) | none => none
  | some (.ex .ret T H) => match resV H E T rs with | some l => some (.val (oneOr l) H) | none => none
  | _ => none
def sBody (E : Env) (rec : Task → Option Out) (fn : Func) (args : List V) (H : Heap) : Option Out :=
  match fn.body with
  | some c =>
    if args.length ≤ fn.ntmps then endCall E fn.results.toList (rec (.code c (args ++ List.replicate (fn.ntmps - args.length) undefV) H))
    else none
  | none => none
def sCall (E : Env) (rec : Task → Option Out) (f : FuncId) (args : List V) (H : Heap) : Option Out :=
  match E.fn f with
  | some fn => sBody E rec fn args H
  | none => none
def endP : Option Out → Option Out
  | some (.val v H) => match frzV frzFuel H v with | some (x, _) => some (.pv x) | none => none
  | _ => none
def endRound (l : Nat) (r2 : LoopV) (e : Ex) (H : Heap) : Option Out :=
  match e with
  | .normal => some (.val (bV true) (H.set l (.loop { r2 with st := .ready, pending := none })))
  | .ret => some (.val (bV false) (H.set l (.loop { r2 with st := .done, pending := some .ret })))
  | .exit id => some (.val (bV false) (H.set l (.loop { r2 with st := .done, pending := some (.exit id) })))
  | .goto _ => none
def sBodyR (rec : Task → Option Out) (l : Nat) (body : Code) (r1 : LoopV) (T : List V) (H : Heap) : Option Out :=
  match rec (.code body T (H.set l (.loop { r1 with st := .busy }))) with
  | some (.ex e T H) =>
    match H[l]? with
    | some (.loop r2) => endRound l r2 e H
    | _ => none
  | _ => none
def sAssignR (rec : Task → Option Out) (l : Nat) (r : LoopV) (args : List V) (H : Heap) : Option Out :=
  match rec (.code r.assign (setPs (r.ps.zip args) r.tmps) H) with
  | some (.ex .normal T H) =>
    match H[l]? with
    | some (.loop r1) => if r1.st = .ready then sBodyR rec l r.body r1 T H else none
    | _ => none
  | _ => none
def sRound (rec : Task → Option Out) (l : Nat) (args : List V) (H : Heap) : Option Out :=
  match H[l]? with
  | some (.loop r) => if r.st = .ready ∧ args.length = r.ps.length then sAssignR rec l r args H else none
  | _ => none

def step (E : Env) (rec : Task → Option Out) (t : Task) : Option Out :=
  match t with
  | .code c T H => sCode E rec c T H
  | .call f args H => sCall E rec f args H
  | .pcall f args => endP (rec (.call f (args.map .fz) []))
  | .round l args H => sRound rec l args H

def run (E : Env) : Nat → Task → Option Out
  | 0, _ => none
  | n + 1, t => step E (run E n) t

end Go.Vm
/- How abstract values and memory stand for real ones. -/
set_option linter.unusedVariables false
set_option linter.unusedSectionVars false
namespace Go.Vm
variable [Valu]

abbrev Phi := Nat → Option (Nat × Nat)

/-- by content: every cell that it reads lies in a block of st -/
inductive FRel (w : World) (st : Nat → Prop) : F → Value → Prop
  | s (x : S) : FRel w st (.s x) x.val
  | agg (cs : List F) (vs : Array Value) (hl : cs.length = vs.size) (h : ∀ (i : Nat) c v, cs[i]? = some c → vs[i]? = some v → FRel w st c v) : FRel w st (.agg cs) (.agg vs)
  | tup (cs : List F) (vs : Array Value) (hl : cs.length = vs.size) (h : ∀ (i : Nat) c v, cs[i]? = some c → vs[i]? = some v → FRel w st c v) : FRel w st (.tup cs) (.tuple vs)
  | row (wd : Nat) (rs : List (List F)) (a : Addr) (cap r o : Nat) (g : Nat → Nat → Value) (hc : rs.length ≤ cap)
      (ha : rs ≠ [] → a = ⟨r, o, none⟩ ∧ st r) (hw : ∀ row ∈ rs, row.length = wd)
      (hg : ∀ (i j : Nat) row c, rs[i]? = some row → row[j]? = some c → w.cell? ⟨r, o + (i * wd + j), none⟩ = some (g i j))
      (h : ∀ (i j : Nat) row c, rs[i]? = some row → row[j]? = some c → FRel w st c (g i j)) : FRel w st (.row wd rs) (.slice (some a) rs.length cap)
  | ptr (cs : List F) (j r o : Nat) (g : Nat → Value) (hr : st r)
      (hg : ∀ (i : Nat) c, cs[i]? = some c → w.cell? ⟨r, o + i, none⟩ = some (g i))
      (h : ∀ (i : Nat) c, cs[i]? = some c → FRel w st c (g i)) : FRel w st (.ptr cs j) (.pointer (some ⟨r, o + j, none⟩))

/-- how many cells a block has -/
def cellsSize (w : World) (r : Nat) : Nat := match w.heap[r]? with | some (.cells c _ _) => c.size | _ => 0
/-- a block that nothing of this activation writes -/
def stable (Z : Nat → Prop) (φ : Phi) (H : Heap) (w : World) (r : Nat) : Prop :=
  r < w.heap.size ∧ ¬ Z r ∧ ∀ b o, φ b = some (r, o) → ∃ v wd rs, H[b]? = some (.mem v true wd rs)

inductive VRel (Z : Nat → Prop) (φ : Phi) (H : Heap) (w : World) : V → Value → Prop
  | fz (x : F) (v : Value) (h : FRel w (stable Z φ H w) x v) : VRel Z φ H w (.fz x) v
  | agg (cs : List V) (vs : Array Value) (hl : cs.length = vs.size) (h : ∀ (i : Nat) c v, cs[i]? = some c → vs[i]? = some v → VRel Z φ H w c v) : VRel Z φ H w (.agg cs) (.agg vs)
  | tup (cs : List V) (vs : Array Value) (hl : cs.length = vs.size) (h : ∀ (i : Nat) c v, cs[i]? = some c → vs[i]? = some v → VRel Z φ H w c v) : VRel Z φ H w (.tup cs) (.tuple vs)
  | own (b ver lo len : Nat) (clip : Bool) (v : Value) (hv : ∃ ad m, v = .slice (some ad) len m ∧ len ≤ m ∧ (clip = true → m = len)) (hb : b < H.length)
      (h : ∀ v0 fr wd rs, H[b]? = some (.mem v0 fr wd rs) → ver ≤ v0 ∧ (ver = v0 → ∃ r o a cap, φ b = some (r, o) ∧ v = .slice (some a) len cap ∧ len ≤ cap ∧
        (clip = true → cap = len) ∧ (cap ≠ 0 → a = ⟨r, o + lo * wd, none⟩) ∧ lo + len ≤ rs.length ∧ o + (lo + cap) * wd ≤ cellsSize w r)) : VRel Z φ H w (.own b ver lo len clip) v
  | ptr (b ver i j : Nat) (v : Value) (hv : ∃ ad, v = .pointer (some ad)) (hb : b < H.length)
      (h : ∀ v0 fr wd rs, H[b]? = some (.mem v0 fr wd rs) → ver ≤ v0 ∧ (ver = v0 → ∃ r o, φ b = some (r, o) ∧ v = .pointer (some ⟨r, o + (i * wd + j), none⟩))) : VRel Z φ H w (.ptr b ver i j) v
  | cl (wd : Nat) (rs : List (List F)) (a : Addr) (h : FRel w (stable Z φ H w) (.row wd rs) (.slice (some a) rs.length rs.length)) : VRel Z φ H w (.cl wd rs) (.slice (some a) rs.length rs.length)
  | clo (f : FuncId) (cap : List V) (vs : Array Value) (hl : cap.length = vs.size) (h : ∀ (i : Nat) c v, cap[i]? = some c → vs[i]? = some v → VRel Z φ H w c v) :
      VRel Z φ H w (.clo f cap) (.func (.func f) #[] vs)
  | yield (l : Nat) (v : Value) (hv : ∃ r, v = .func (.yield r) #[] #[]) (hb : l < H.length) (h : ∀ L, H[l]? = some (.loop L) → ∃ r, φ l = some (r, 0) ∧ v = .func (.yield r) #[] #[]) : VRel Z φ H w (.yield l) v
  | map (m : Nat) (v : Value) (hv : ∃ r, v = .map (some r)) (hb : m < H.length) (h : ∀ es, H[m]? = some (.map es) → ∃ r, φ m = some (r, 0) ∧ v = .map (some r)) : VRel Z φ H w (.map m) v

def TRel (Z : Nat → Prop) (φ : Phi) (H : Heap) (w : World) (T : List V) (ts : Array Value) : Prop :=
  T.length = ts.size ∧ ∀ (i : Nat) v x, T[i]? = some v → ts[i]? = some x → VRel Z φ H w v x

/-- a real block is as the abstract one says -/
def ORel (Z : Nat → Prop) (φ : Phi) (H : Heap) (w : World) (o : Nat) : Blk → Obj → Prop
  | .dead, _ => True
  | .mem _ _ wd rs, ob => ∃ c e, ob = .cells c e (0, 0) ∧ (∀ row ∈ rs, row.length = wd) ∧
      (∀ (i j : Nat) row x, rs[i]? = some row → row[j]? = some x → ∃ v, c[o + (i * wd + j)]? = some v ∧ VRel Z φ H w x v)
  | .map es, ob => ∃ en clock, ob = .map en clock ∧ o = 0 ∧ en.size = es.length ∧
      (∀ (i : Nat) k x e, es[i]? = some (k, x) → en[i]? = some e → FRel w (stable Z φ H w) k e.key ∧ VRel Z φ H w x e.val)
  | .loop l, ob => ∃ L : Loop, ob = .loop L ∧ o = 0 ∧ L.state = l.st ∧ L.pending = l.pending ∧ L.params.toList = l.ps ∧ L.assign = l.assign ∧ L.body = l.body ∧
      TRel Z φ H w l.tmps L.tmps ∧ codeOk l.assign = true ∧ codeOk l.body = true

structure HRel (Z : Nat → Prop) (φ : Phi) (H : Heap) (w : World) : Prop where
  inj : ∀ b b' r o o', φ b = some (r, o) → φ b' = some (r, o') → b = b'
  dom : ∀ b r o, φ b = some (r, o) → b < H.length ∧ r < w.heap.size ∧ ¬ Z r
  zlt : ∀ r, Z r → r < w.heap.size
  blk : ∀ (b : Nat) B r o, H[b]? = some B → φ b = some (r, o) → ∃ ob, w.heap[r]? = some ob ∧ ORel Z φ H w o B ob

/-- how a block may become another -/
def Blk.to (same : Prop) : Blk → Blk → Prop
  | _, .dead => True
  | .mem v fr wd rs, .mem v' fr' wd' rs' => v ≤ v' ∧ (v = v' → same ∧ wd' = wd ∧ rs'.length = rs.length)
  | .map _, .map _ => same
  | .loop _, .loop _ => same
  | _, _ => False

structure Ext (Z : Nat → Prop) (φ : Phi) (H : Heap) (w : World) (φ' : Phi) (H' : Heap) (w' : World) : Prop where
  size : w.heap.size ≤ w'.heap.size
  keep : ∀ r, r < w.heap.size → (∀ b o, φ b ≠ some (r, o)) → w'.heap[r]? = w.heap[r]?
  frz : ∀ (b : Nat) v wd rs r o, H[b]? = some (.mem v true wd rs) → φ b = some (r, o) → w'.heap[r]? = w.heap[r]? ∧ φ' b = some (r, o) ∧ ∃ v' wd' rs', H'[b]? = some (.mem v' true wd' rs')
  new : ∀ b r o, φ' b = some (r, o) → (∃ o', φ b = some (r, o')) ∨ w.heap.size ≤ r
  none : ∀ b, b < H.length → φ b = none → φ' b = none
  len : H.length ≤ H'.length
  blk : ∀ (b : Nat) B B', H[b]? = some B → H'[b]? = some B' →
    B.to (∀ r o, φ b = some (r, o) → φ' b = some (r, o) ∧ cellsSize w' r = cellsSize w r) B'
  loops : ∀ (r : Nat) L, w.heap[r]? = some (.loop L) → ∃ L', w'.heap[r]? = some (.loop L')
  os : w'.os = w.os
  tape : w'.tape = w.tape
  output : w'.output = w.output

/-! ### how they last -/
theorem FRel.monoC {w w' : World} {st st' : Nat → Prop} (hs : ∀ r, st r → st' r) (hh : ∀ r, st r → ∀ o v, w.cell? ⟨r, o, none⟩ = some v → w'.cell? ⟨r, o, none⟩ = some v) {x : F} {v : Value} (h : FRel w st x v) : FRel w' st' x v := by
  induction h with
  | s x => exact .s x
  | agg cs vs hl _ ih => exact .agg cs vs hl ih
  | tup cs vs hl _ ih => exact .tup cs vs hl ih
  | row wd rs a cap r o g hc ha hw hg _ ih =>
    refine .row wd rs a cap r o g hc (fun hn => ⟨(ha hn).1, hs _ (ha hn).2⟩) hw (fun i j row c h1 h2 => ?_) ih
    have hn : rs ≠ [] := by rintro rfl; simp at h1
    exact hh _ (ha hn).2 _ _ (hg i j row c h1 h2)
  | ptr cs j r o g hr hg _ ih =>
    exact .ptr cs j r o g (hs _ hr) (fun i c h1 => hh _ hr _ _ (hg i c h1)) ih
theorem cell_same {w w' : World} {r : Nat} (h : w'.heap[r]? = w.heap[r]?) (o : Nat) (v : Value) (hc : w.cell? ⟨r, o, none⟩ = some v) : w'.cell? ⟨r, o, none⟩ = some v := by
  unfold World.cell? at hc ⊢; rw [h]; exact hc
theorem FRel.mono {w w' : World} {st st' : Nat → Prop} (hs : ∀ r, st r → st' r) (hh : ∀ r, st r → w'.heap[r]? = w.heap[r]?) {x : F} {v : Value} (h : FRel w st x v) : FRel w' st' x v :=
  h.monoC hs fun r hr o v => cell_same (hh r hr) o v

/-- what a value's standing takes -/
structure Mv (Z : Nat → Prop) (φ : Phi) (H : Heap) (w : World) (Z' : Nat → Prop) (φ' : Phi) (H' : Heap) (w' : World) : Prop where
  st : ∀ r, stable Z φ H w r → stable Z' φ' H' w' r ∧ ∀ o v, w.cell? ⟨r, o, none⟩ = some v → w'.cell? ⟨r, o, none⟩ = some v
  len : H.length ≤ H'.length
  blk : ∀ (b : Nat) B B', H[b]? = some B → H'[b]? = some B' →
    B.to (∀ r o, φ b = some (r, o) → φ' b = some (r, o) ∧ cellsSize w' r = cellsSize w r) B'

theorem Ext.stable {Z φ H w φ' H' w'} (e : Ext Z φ H w φ' H' w') {r : Nat} (h : stable Z φ H w r) : Vm.stable Z φ' H' w' r ∧ w'.heap[r]? = w.heap[r]? := by
  obtain ⟨h1, h2, h3⟩ := h
  refine ⟨⟨Nat.lt_of_lt_of_le h1 e.size, h2, fun b o hb => ?_⟩, ?_⟩
  · rcases e.new b r o hb with ⟨o', ho⟩ | hge
    · obtain ⟨v, wd, rs, hm⟩ := h3 b o' ho
      exact (e.frz b v wd rs r o' hm ho).2.2
    · omega
  · by_cases hm : ∃ b o, φ b = some (r, o)
    · obtain ⟨b, o, hb⟩ := hm
      obtain ⟨v, wd, rs, hm⟩ := h3 b o hb
      exact (e.frz b v wd rs r o hm hb).1
    · exact e.keep r h1 fun b o hb => hm ⟨b, o, hb⟩

theorem Ext.mv {Z φ H w φ' H' w'} (e : Ext Z φ H w φ' H' w') : Mv Z φ H w Z φ' H' w' :=
  ⟨fun r hr => ⟨(e.stable hr).1, fun o v => cell_same (e.stable hr).2 o v⟩, e.len, e.blk⟩
theorem FRel.mv {Z φ H w Z' φ' H' w'} (e : Mv Z φ H w Z' φ' H' w') {x : F} {v : Value} (h : FRel w (stable Z φ H w) x v) : FRel w' (stable Z' φ' H' w') x v :=
  h.monoC (fun _ hr => (e.st _ hr).1) (fun _ hr => (e.st _ hr).2)
theorem FRel.ext {Z φ H w φ' H' w'} (e : Ext Z φ H w φ' H' w') {x : F} {v : Value} (h : FRel w (stable Z φ H w) x v) : FRel w' (stable Z φ' H' w') x v := h.mv e.mv

theorem VRel.mv {Z φ H w Z' φ' H' w'} (e : Mv Z φ H w Z' φ' H' w') {x : V} {v : Value} (h : VRel Z φ H w x v) : VRel Z' φ' H' w' x v := by
  induction h with
  | fz x v h => exact .fz x v (h.mv e)
  | agg cs vs hl _ ih => exact .agg cs vs hl ih
  | tup cs vs hl _ ih => exact .tup cs vs hl ih
  | own b ver lo len clip v hv hb h =>
    refine .own b ver lo len clip v hv (Nat.lt_of_lt_of_le hb e.len) fun v0 fr wd rs hm => ?_
    obtain ⟨B, hB⟩ : ∃ B, H[b]? = some B := ⟨H[b], by simp [hb]⟩
    have ht := e.blk b B _ hB hm
    cases B <;> simp only [Blk.to] at ht
    rename_i v1 fr1 wd1 rs1
    obtain ⟨hle, hs⟩ := ht
    obtain ⟨h1, h2⟩ := h v1 fr1 wd1 rs1 hB
    refine ⟨Nat.le_trans h1 hle, fun heq => ?_⟩
    obtain ⟨hsame, rfl, hlen⟩ := hs (by omega)
    obtain ⟨r, o, a, cap, hφ, q1, q2, q3, q4, q5, q6⟩ := h2 (by omega)
    exact ⟨r, o, a, cap, (hsame r o hφ).1, q1, q2, q3, q4, by omega, by rw [(hsame r o hφ).2]; exact q6⟩
  | ptr b ver i j v hv hb h =>
    refine .ptr b ver i j v hv (Nat.lt_of_lt_of_le hb e.len) fun v0 fr wd rs hm => ?_
    obtain ⟨B, hB⟩ : ∃ B, H[b]? = some B := ⟨H[b], by simp [hb]⟩
    have ht := e.blk b B _ hB hm
    cases B <;> simp only [Blk.to] at ht
    rename_i v1 fr1 wd1 rs1
    obtain ⟨hle, hs⟩ := ht
    obtain ⟨h1, h2⟩ := h v1 fr1 wd1 rs1 hB
    refine ⟨Nat.le_trans h1 hle, fun heq => ?_⟩
    obtain ⟨hsame, rfl, hlen⟩ := hs (by omega)
    obtain ⟨r, o, hφ, q1⟩ := h2 (by omega)
    exact ⟨r, o, (hsame r o hφ).1, q1⟩
  | cl wd rs a h => exact .cl wd rs a (h.mv e)
  | clo f cap vs hl _ ih => exact .clo f cap vs hl ih
  | yield l v hv hb h =>
    refine .yield l v hv (Nat.lt_of_lt_of_le hb e.len) fun L hL => ?_
    obtain ⟨B, hB⟩ : ∃ B, H[l]? = some B := ⟨H[l], by simp [hb]⟩
    have ht := e.blk l B _ hB hL
    cases B <;> simp only [Blk.to] at ht
    obtain ⟨r, hr, hv⟩ := h _ hB
    exact ⟨r, (ht r 0 hr).1, hv⟩
  | map l v hv hb h =>
    refine .map l v hv (Nat.lt_of_lt_of_le hb e.len) fun L hL => ?_
    obtain ⟨B, hB⟩ : ∃ B, H[l]? = some B := ⟨H[l], by simp [hb]⟩
    have ht := e.blk l B _ hB hL
    cases B <;> simp only [Blk.to] at ht
    obtain ⟨r, hr, hv⟩ := h _ hB
    exact ⟨r, (ht r 0 hr).1, hv⟩

theorem VRel.ext {Z φ H w φ' H' w'} (e : Ext Z φ H w φ' H' w') {x : V} {v : Value} (h : VRel Z φ H w x v) : VRel Z φ' H' w' x v := h.mv e.mv

theorem TRel.mv {Z φ H w Z' φ' H' w'} (e : Mv Z φ H w Z' φ' H' w') {T : List V} {ts : Array Value} (h : TRel Z φ H w T ts) : TRel Z' φ' H' w' T ts :=
  ⟨h.1, fun i v x h1 h2 => (h.2 i v x h1 h2).mv e⟩
theorem TRel.ext {Z φ H w φ' H' w'} (e : Ext Z φ H w φ' H' w') {T : List V} {ts : Array Value} (h : TRel Z φ H w T ts) : TRel Z φ' H' w' T ts := h.mv e.mv

theorem Blk.to_refl (B : Blk) {p : Prop} (hp : p) : B.to p B := by
  cases B <;> simp [Blk.to, hp]
theorem Blk.to_trans {p q r : Prop} (h : p → q → r) {A B C : Blk} (h1 : A.to p B) (h2 : B.to q C) : A.to r C := by
  cases C <;> cases B <;> cases A <;> simp only [Blk.to] at h1 h2 ⊢ <;> try trivial
  · refine ⟨by omega, fun e => ?_⟩
    obtain ⟨a1, a2⟩ := h1
    obtain ⟨b1, b2⟩ := h2
    have := a2 (by omega)
    have := b2 (by omega)
    exact ⟨h (a2 (by omega)).1 (b2 (by omega)).1, by omega, by omega⟩
  · exact h h1 h2
  · exact h h1 h2

theorem Ext.refl (Z φ H w) : Ext Z φ H w φ H w :=
  ⟨Nat.le_refl _, fun _ _ _ => rfl, fun b v wd rs r o hm hb => ⟨rfl, hb, v, wd, rs, hm⟩, fun b r o h => .inl ⟨o, h⟩, fun _ _ h => h, Nat.le_refl _,
   fun b B B' h1 h2 => by rw [h1] at h2; cases h2; exact Blk.to_refl _ (fun r o h => ⟨h, rfl⟩), fun r L h => ⟨L, h⟩, rfl, rfl, rfl⟩

theorem Ext.trans {Z φ H w φ1 H1 w1 φ2 H2 w2} (e : Ext Z φ H w φ1 H1 w1) (f : Ext Z φ1 H1 w1 φ2 H2 w2) : Ext Z φ H w φ2 H2 w2 := by
  refine ⟨Nat.le_trans e.size f.size, fun r hr hn => ?_, fun b v wd rs r o hm hb => ?_, fun b r o hb => ?_, fun b hb hn => f.none b (Nat.lt_of_lt_of_le hb e.len) (e.none b hb hn), Nat.le_trans e.len f.len, fun b B B' h1 h2 => ?_, fun r L hL => ?_, by rw [f.os, e.os], by rw [f.tape, e.tape], by rw [f.output, e.output]⟩
  · rw [f.keep r (Nat.lt_of_lt_of_le hr e.size) (fun b o hb => ?_), e.keep r hr hn]
    rcases e.new b r o hb with ⟨o', h⟩ | h
    · exact hn b o' h
    · omega
  · obtain ⟨a1, a2, v', wd', rs', a3⟩ := e.frz b v wd rs r o hm hb
    obtain ⟨b1, b2, b3⟩ := f.frz b v' wd' rs' r o a3 a2
    exact ⟨by rw [b1, a1], b2, b3⟩
  · rcases f.new b r o hb with ⟨o', h⟩ | h
    · exact e.new b r o' h
    · exact .inr (Nat.le_trans e.size h)
  · obtain ⟨B1, hB1⟩ : ∃ B1, H1[b]? = some B1 := by
      have : b < H.length := by
        rcases Nat.lt_or_ge b H.length with h | h
        · exact h
        · simp [List.getElem?_eq_none h] at h1
      have := Nat.lt_of_lt_of_le this e.len
      exact ⟨H1[b], by simp [this]⟩
    exact Blk.to_trans (fun p q r o h => ⟨(q r o (p r o h).1).1, by rw [(q r o (p r o h).1).2, (p r o h).2]⟩) (e.blk b B B1 h1 hB1) (f.blk b B1 B' hB1 h2)
  · obtain ⟨L', h⟩ := e.loops r L hL
    exact f.loops r L' h

theorem ORel.mv {Z φ H w Z' φ' H' w'} (e : Mv Z φ H w Z' φ' H' w') {o : Nat} {B : Blk} {ob : Obj} (h : ORel Z φ H w o B ob) : ORel Z' φ' H' w' o B ob := by
  cases B with
  | dead => trivial
  | mem v fr wd rs =>
    obtain ⟨c, el, rfl, h1, h2⟩ := h
    exact ⟨c, el, rfl, h1, fun i j row x a b => let ⟨v, p, q⟩ := h2 i j row x a b; ⟨v, p, q.mv e⟩⟩
  | map es =>
    obtain ⟨en, clock, rfl, h0, h1, h2⟩ := h
    exact ⟨en, clock, rfl, h0, h1, fun i k x en a b => let ⟨p, q⟩ := h2 i k x en a b; ⟨p.mv e, q.mv e⟩⟩
  | loop l =>
    obtain ⟨L, rfl, h0, h1, h2, h3, h4, h5, h6, h7⟩ := h
    exact ⟨L, rfl, h0, h1, h2, h3, h4, h5, h6.mv e, h7⟩

theorem ORel.ext {Z φ H w φ' H' w'} (e : Ext Z φ H w φ' H' w') {o : Nat} {B : Blk} {ob : Obj} (h : ORel Z φ H w o B ob) : ORel Z φ' H' w' o B ob := h.mv e.mv

end Go.Vm
/- Memory: what is read, what is written. -/
set_option linter.unusedVariables false
set_option linter.unusedSectionVars false
namespace Go.Vm
variable [Valu]
variable {P : Program} {Z : Nat → Prop} {φ φ' : Phi} {H H' : Heap} {w w' : World}

theorem add_none (r o k : Nat) : (⟨r, o, none⟩ : Addr).add k = ⟨r, o + k, none⟩ := by
  unfold Addr.add; split <;> simp_all

theorem lt_of_get {α : Type} {l : List α} {i : Nat} {x : α} (h : l[i]? = some x) : i < l.length := by
  rcases Nat.lt_or_ge i l.length with h' | h'
  · exact h'
  · simp [List.getElem?_eq_none h'] at h

theorem HRel.change (h : HRel Z φ H w) (e : Ext Z φ H w φ' H' w') (b : Nat)
    (hinj : ∀ b b' r o o', φ' b = some (r, o) → φ' b' = some (r, o') → b = b')
    (hdom : ∀ b r o, φ' b = some (r, o) → b < H'.length ∧ r < w'.heap.size ∧ ¬ Z r)
    (hoth : ∀ (b' : Nat) B r o, b' ≠ b → H'[b']? = some B → φ' b' = some (r, o) → H[b']? = some B ∧ φ b' = some (r, o) ∧ w'.heap[r]? = w.heap[r]?)
    (hb : ∀ B r o, H'[b]? = some B → φ' b = some (r, o) → ∃ ob, w'.heap[r]? = some ob ∧ ORel Z φ' H' w' o B ob) : HRel Z φ' H' w' where
  inj := hinj
  dom := hdom
  zlt := fun r hr => Nat.lt_of_lt_of_le (h.zlt r hr) e.size
  blk := fun b' B r o hB hr => by
    by_cases hbb : b' = b
    · subst hbb; exact hb B r o hB hr
    · obtain ⟨h1, h2, h3⟩ := hoth b' B r o hbb hB hr
      obtain ⟨ob, h4, h5⟩ := h.blk b' B r o h1 h2
      exact ⟨ob, by rw [h3, h4], h5.ext e⟩

/-- a world with the same memory -/
theorem Ext.sameHeap (hh : w'.heap = w.heap) (ho : w'.os = w.os) (ht : w'.tape = w.tape) (hp : w'.output = w.output) : Ext Z φ H w φ H w' :=
  ⟨by rw [hh]; exact Nat.le_refl _, fun _ _ _ => by rw [hh], fun b v wd rs r o hm hb => ⟨by rw [hh], hb, v, wd, rs, hm⟩, fun b r o h => .inl ⟨o, h⟩, fun _ _ h => h, Nat.le_refl _,
   fun b B B' h1 h2 => by rw [h1] at h2; cases h2; exact Blk.to_refl _ (fun r o h => ⟨h, by unfold cellsSize; rw [hh]⟩), fun r L h => ⟨L, by rw [hh]; exact h⟩, ho, ht, hp⟩
theorem HRel.sameHeap (h : HRel Z φ H w) (hh : w'.heap = w.heap) (ho : w'.os = w.os) (ht : w'.tape = w.tape) (hp : w'.output = w.output) : HRel Z φ H w' :=
  ⟨h.inj, fun b r o hb => by rw [hh]; exact h.dom b r o hb, fun r hr => by rw [hh]; exact h.zlt r hr, fun b B r o h1 h2 => by
    obtain ⟨ob, a, b'⟩ := h.blk b B r o h1 h2
    exact ⟨ob, by rw [hh, a], b'.ext (Ext.sameHeap hh ho ht hp)⟩⟩

theorem push_old {ob : Obj} {r : Nat} (h : r < w.heap.size) : (w.alloc ob).heap[r]? = w.heap[r]? := by
  show (w.heap.push ob)[r]? = _; rw [Array.getElem?_push, if_neg (Nat.ne_of_lt h)]
theorem push_new {ob : Obj} : (w.alloc ob).heap[w.heap.size]? = some ob := by
  show (w.heap.push ob)[_]? = _; rw [Array.getElem?_push, if_pos rfl]
theorem push_size {ob : Obj} : (w.alloc ob).heap.size = w.heap.size + 1 := Array.size_push ..
theorem heap_lt {r : Nat} {ob : Obj} (h : w.heap[r]? = some ob) : r < w.heap.size := (Array.getElem?_eq_some_iff.1 h).1

/-- a block that nothing here knows of -/
theorem Ext.alloc (h : HRel Z φ H w) (ob : Obj) : Ext Z φ H w φ H (w.alloc ob) :=
  ⟨by rw [push_size]; omega, fun r hr _ => push_old hr, fun b v wd rs r o hm hb => ⟨push_old (h.dom b r o hb).2.1, hb, v, wd, rs, hm⟩, fun b r o h => .inl ⟨o, h⟩, fun _ _ h => h, Nat.le_refl _,
   fun b B B' h1 h2 => by
    rw [h1] at h2; cases h2
    exact Blk.to_refl _ (fun r o hb => ⟨hb, by unfold cellsSize; rw [push_old (h.dom b r o hb).2.1]⟩), fun r L hL => ⟨L, by rw [push_old (heap_lt hL)]; exact hL⟩, rfl, rfl, rfl⟩
theorem HRel.alloc (h : HRel Z φ H w) (ob : Obj) : HRel Z φ H (w.alloc ob) :=
  ⟨h.inj, fun b r o hb => ⟨(h.dom b r o hb).1, by rw [push_size]; have := (h.dom b r o hb).2.1; omega, (h.dom b r o hb).2.2⟩, fun r hr => by rw [push_size]; have := h.zlt r hr; omega, fun b B r o h1 h2 => by
    obtain ⟨ob', a, b'⟩ := h.blk b B r o h1 h2
    exact ⟨ob', by rw [push_old (heap_lt a), a], b'.ext (Ext.alloc h ob)⟩⟩

def upd (φ : Phi) (b : Nat) (p : Nat × Nat) : Phi := fun b' => if b' = b then some p else φ b'
theorem upd_same (φ : Phi) (b : Nat) (p : Nat × Nat) : upd φ b p b = some p := by simp [upd]
theorem upd_other (φ : Phi) {b b' : Nat} (p : Nat × Nat) (h : b' ≠ b) : upd φ b p b' = φ b' := by simp [upd, h]

/-- a new block of our own -/
theorem Ext.fresh (h : HRel Z φ H w) (B : Blk) (ob : Obj) : Ext Z φ H w (upd φ H.length (w.heap.size, 0)) (H ++ [B]) (w.alloc ob) := by
  have hne : ∀ b r o, φ b = some (r, o) → b ≠ H.length := fun b r o hb => by have := (h.dom b r o hb).1; omega
  refine ⟨by rw [push_size]; omega, fun r hr _ => push_old hr, fun b v wd rs r o hm hb => ⟨push_old (h.dom b r o hb).2.1, by rw [upd_other _ _ (hne b r o hb)]; exact hb, v, wd, rs, ?_⟩,
    fun b r o hb => ?_, fun b hb hn => by rw [upd_other _ _ (by omega)]; exact hn, by simp, fun b B1 B2 h1 h2 => ?_, fun r L hL => ⟨L, by rw [push_old (heap_lt hL)]; exact hL⟩, rfl, rfl, rfl⟩
  · rw [List.getElem?_append_left (lt_of_get hm)]; exact hm
  · by_cases hb' : b = H.length
    · subst hb'; rw [upd_same] at hb; cases hb; exact .inr (Nat.le_refl _)
    · rw [upd_other _ _ hb'] at hb; exact .inl ⟨o, hb⟩
  · rw [List.getElem?_append_left (lt_of_get h1), h1] at h2
    cases h2
    exact Blk.to_refl _ (fun r o hb => ⟨by rw [upd_other _ _ (hne b r o hb)]; exact hb, by unfold cellsSize; rw [push_old (h.dom b r o hb).2.1]⟩)
theorem HRel.fresh (h : HRel Z φ H w) (B : Blk) (ob : Obj) (hB : ORel Z φ H w 0 B ob) : HRel Z (upd φ H.length (w.heap.size, 0)) (H ++ [B]) (w.alloc ob) := by
  have e := Ext.fresh h B ob
  refine h.change e H.length (fun b b' r o o' h1 h2 => ?_) (fun b r o hb => ?_) (fun b B' r o hne hB hb => ?_) (fun B' r o hB' hb => ?_)
  · by_cases hb : b = H.length <;> by_cases hb' : b' = H.length
    · omega
    · subst hb; rw [upd_same] at h1; rw [upd_other _ _ hb'] at h2; cases h1; have := (h.dom _ _ _ h2).2.1; omega
    · subst hb'; rw [upd_same] at h2; rw [upd_other _ _ hb] at h1; cases h2; have := (h.dom _ _ _ h1).2.1; omega
    · rw [upd_other _ _ hb] at h1; rw [upd_other _ _ hb'] at h2; exact h.inj b b' r o o' h1 h2
  · by_cases hb' : b = H.length
    · subst hb'; rw [upd_same] at hb; cases hb; exact ⟨by simp, by rw [push_size]; omega, fun hz => by have := h.zlt _ hz; omega⟩
    · rw [upd_other _ _ hb'] at hb; have := h.dom _ _ _ hb; exact ⟨by simp; omega, by rw [push_size]; omega, this.2.2⟩
  · rw [upd_other _ _ hne] at hb
    have := h.dom _ _ _ hb
    refine ⟨?_, hb, push_old this.2.1⟩
    rwa [List.getElem?_append_left this.1] at hB
  · rw [upd_same] at hb; cases hb
    simp at hB'; subst hB'
    exact ⟨ob, push_new, hB.ext e⟩

theorem setRow_get {r : Nat} {c : Array Value} {c0 : Array Value} {e : TypeId} {f : Nat × Nat} (h : w.heap[r]? = some (.cells c0 e f)) : (w.setRow r c).heap[r]? = some (.cells c e f) :=
  setRow_heap w r c0 c e f h
theorem setRow_other {r k : Nat} {c : Array Value} (h : k ≠ r) : (w.setRow r c).heap[k]? = w.heap[k]? := by
  simp [World.setRow, Array.getElem?_modify, Ne.symm h]
theorem setRow_size {r : Nat} {c : Array Value} : (w.setRow r c).heap.size = w.heap.size := by simp [World.setRow]

/-- a block of our own is written -/
theorem mem_written (h : HRel Z φ H w) {b v wd r o v' o' : Nat} {rs rs' : List (List V)} {c c' : Array Value} {e : TypeId} (hb : H[b]? = some (.mem v false wd rs)) (hφ : φ b = some (r, o))
    (hw : w.heap[r]? = some (.cells c e (0, 0))) (hs : c'.size = c.size) (hv : (v' = v ∧ o' = o ∧ rs'.length = rs.length) ∨ v < v') (hwd : ∀ row ∈ rs', row.length = wd)
    (hrel : ∀ (i j : Nat) row x, rs'[i]? = some row → row[j]? = some x → ∃ u, c'[o' + (i * wd + j)]? = some u ∧ VRel Z φ H w x u) :
    HRel Z (upd φ b (r, o')) (H.set b (.mem v' false wd rs')) (w.setRow r c') ∧ Ext Z φ H w (upd φ b (r, o')) (H.set b (.mem v' false wd rs')) (w.setRow r c') := by
  have hlt := lt_of_get hb
  have e1 : Ext Z φ H w (upd φ b (r, o')) (H.set b (.mem v' false wd rs')) (w.setRow r c') := by
    refine ⟨by rw [setRow_size]; exact Nat.le_refl _, fun k hk hn => setRow_other (fun he => hn b o (he ▸ hφ)), fun b2 v2 wd2 rs2 r2 o2 hm hb2 => ?_, fun b2 r2 o2 hb2 => ?_, fun b2 hb2 hn => ?_, by simp, fun b2 B B' h1 h2 => ?_, fun k L hL => ?_, rfl, rfl, rfl⟩
    · have hne : b2 ≠ b := by rintro rfl; rw [hb] at hm; cases hm
      refine ⟨setRow_other (fun he => hne (h.inj _ _ _ _ _ (he ▸ hb2) hφ)), by rw [upd_other _ _ hne]; exact hb2, v2, wd2, rs2, ?_⟩
      rw [List.getElem?_set_ne (Ne.symm hne)]; exact hm
    · by_cases hb' : b2 = b
      · subst hb'; rw [upd_same] at hb2; cases hb2; exact .inl ⟨o, hφ⟩
      · rw [upd_other _ _ hb'] at hb2; exact .inl ⟨o2, hb2⟩
    · by_cases hb' : b2 = b
      · subst hb'; rw [hφ] at hn; cases hn
      · rw [upd_other _ _ hb']; exact hn
    · by_cases hb' : b2 = b
      · subst hb'
        rw [hb] at h1; cases h1
        rw [List.getElem?_set_self hlt] at h2; cases h2
        refine ⟨by omega, fun heq => ?_⟩
        rcases hv with ⟨_, ho, hl⟩ | hv
        · refine ⟨fun r2 o2 h3 => ?_, rfl, hl⟩
          rw [hφ] at h3; cases h3
          exact ⟨by rw [upd_same, ho], by unfold cellsSize; rw [setRow_get hw, hw]; exact hs⟩
        · omega
      · rw [List.getElem?_set_ne (Ne.symm hb'), h1] at h2; cases h2
        refine Blk.to_refl _ (fun r2 o2 h3 => ⟨by rw [upd_other _ _ hb']; exact h3, ?_⟩)
        unfold cellsSize; rw [setRow_other (fun he => hb' (h.inj _ _ _ _ _ (he ▸ h3) hφ))]
    · by_cases hk : k = r
      · subst hk; rw [hw] at hL; cases hL
      · exact ⟨L, by rw [setRow_other hk]; exact hL⟩
  refine ⟨h.change e1 b (fun b1 b2 r1 o1 o2 h1 h2 => ?_) (fun b2 r2 o2 hb2 => ?_) (fun b2 B r2 o2 hne hB hb2 => ?_) (fun B r2 o2 hB hb2 => ?_), e1⟩
  · by_cases hb1 : b1 = b <;> by_cases hb2 : b2 = b
    · omega
    · subst hb1; rw [upd_same] at h1; rw [upd_other _ _ hb2] at h2; cases h1; exact h.inj _ _ _ _ _ hφ h2
    · subst hb2; rw [upd_same] at h2; rw [upd_other _ _ hb1] at h1; cases h2; exact h.inj _ _ _ _ _ h1 hφ
    · rw [upd_other _ _ hb1] at h1; rw [upd_other _ _ hb2] at h2; exact h.inj _ _ _ _ _ h1 h2
  · rw [setRow_size]
    by_cases hb' : b2 = b
    · subst hb'; rw [upd_same] at hb2; cases hb2; have := h.dom _ _ _ hφ; exact ⟨by simpa using this.1, this.2.1, this.2.2⟩
    · rw [upd_other _ _ hb'] at hb2; have := h.dom _ _ _ hb2; exact ⟨by simpa using this.1, this.2.1, this.2.2⟩
  · rw [upd_other _ _ hne] at hb2
    rw [List.getElem?_set_ne (Ne.symm hne)] at hB
    exact ⟨hB, hb2, setRow_other (fun he => hne (h.inj _ _ _ _ _ (he ▸ hb2) hφ))⟩
  · rw [upd_same] at hb2; cases hb2
    rw [List.getElem?_set_self hlt] at hB; cases hB
    exact ⟨_, setRow_get hw, c', e, rfl, hwd, fun i j row x h1 h2 => let ⟨u, p, q⟩ := hrel i j row x h1 h2; ⟨u, p, q.ext e1⟩⟩
theorem upd_id (φ : Phi) {b : Nat} {p : Nat × Nat} (h : φ b = some p) : upd φ b p = φ := by
  funext b'; by_cases hb : b' = b
  · subst hb; rw [upd_same, h]
  · rw [upd_other _ _ hb]

/-- a block of our own moves to a new place -/
theorem mem_moved (h : HRel Z φ H w) {b v wd r o v' : Nat} {rs rs' : List (List V)} {c' : Array Value} {e : TypeId} (hb : H[b]? = some (.mem v false wd rs)) (hφ : φ b = some (r, o)) (hv : v < v')
    (hwd : ∀ row ∈ rs', row.length = wd)
    (hrel : ∀ (i j : Nat) row x, rs'[i]? = some row → row[j]? = some x → ∃ u, c'[i * wd + j]? = some u ∧ VRel Z φ H w x u) :
    HRel Z (upd φ b (w.heap.size, 0)) (H.set b (.mem v' false wd rs')) (w.alloc (.cells c' e (0, 0))) ∧ Ext Z φ H w (upd φ b (w.heap.size, 0)) (H.set b (.mem v' false wd rs')) (w.alloc (.cells c' e (0, 0))) := by
  have hlt := lt_of_get hb
  have e1 : Ext Z φ H w (upd φ b (w.heap.size, 0)) (H.set b (.mem v' false wd rs')) (w.alloc (.cells c' e (0, 0))) := by
    refine ⟨by rw [push_size]; omega, fun k hk hn => push_old hk, fun b2 v2 wd2 rs2 r2 o2 hm hb2 => ?_, fun b2 r2 o2 hb2 => ?_, fun b2 hb2 hn => ?_, by simp, fun b2 B B' h1 h2 => ?_, fun k L hL => ⟨L, by rw [push_old (heap_lt hL)]; exact hL⟩, rfl, rfl, rfl⟩
    · have hne : b2 ≠ b := by rintro rfl; rw [hb] at hm; cases hm
      refine ⟨push_old (h.dom _ _ _ hb2).2.1, by rw [upd_other _ _ hne]; exact hb2, v2, wd2, rs2, ?_⟩
      rw [List.getElem?_set_ne (Ne.symm hne)]; exact hm
    · by_cases hb' : b2 = b
      · subst hb'; rw [upd_same] at hb2; cases hb2; exact .inr (Nat.le_refl _)
      · rw [upd_other _ _ hb'] at hb2; exact .inl ⟨o2, hb2⟩
    · by_cases hb' : b2 = b
      · subst hb'; rw [hφ] at hn; cases hn
      · rw [upd_other _ _ hb']; exact hn
    · by_cases hb' : b2 = b
      · subst hb'
        rw [hb] at h1; cases h1
        rw [List.getElem?_set_self hlt] at h2; cases h2
        exact ⟨by omega, fun heq => by omega⟩
      · rw [List.getElem?_set_ne (Ne.symm hb'), h1] at h2; cases h2
        refine Blk.to_refl _ (fun r2 o2 h3 => ⟨by rw [upd_other _ _ hb']; exact h3, ?_⟩)
        unfold cellsSize; rw [push_old (h.dom _ _ _ h3).2.1]
  refine ⟨h.change e1 b (fun b1 b2 r1 o1 o2 h1 h2 => ?_) (fun b2 r2 o2 hb2 => ?_) (fun b2 B r2 o2 hne hB hb2 => ?_) (fun B r2 o2 hB hb2 => ?_), e1⟩
  · by_cases hb1 : b1 = b <;> by_cases hb2 : b2 = b
    · omega
    · subst hb1; rw [upd_same] at h1; rw [upd_other _ _ hb2] at h2; cases h1; have := (h.dom _ _ _ h2).2.1; omega
    · subst hb2; rw [upd_same] at h2; rw [upd_other _ _ hb1] at h1; cases h2; have := (h.dom _ _ _ h1).2.1; omega
    · rw [upd_other _ _ hb1] at h1; rw [upd_other _ _ hb2] at h2; exact h.inj _ _ _ _ _ h1 h2
  · rw [push_size]
    by_cases hb' : b2 = b
    · subst hb'; rw [upd_same] at hb2; cases hb2; exact ⟨by simpa using hlt, by omega, fun hz => by have := h.zlt _ hz; omega⟩
    · rw [upd_other _ _ hb'] at hb2; have := h.dom _ _ _ hb2; exact ⟨by simpa using this.1, by omega, this.2.2⟩
  · rw [upd_other _ _ hne] at hb2
    rw [List.getElem?_set_ne (Ne.symm hne)] at hB
    exact ⟨hB, hb2, push_old (h.dom _ _ _ hb2).2.1⟩
  · rw [upd_same] at hb2; cases hb2
    rw [List.getElem?_set_self hlt] at hB; cases hB
    exact ⟨_, push_new, c', e, rfl, hwd, fun i j row x h1 h2 => let ⟨u, p, q⟩ := hrel i j row x h1 h2; ⟨u, by rw [Nat.zero_add]; exact p, q.ext e1⟩⟩

end Go.Vm
/- What the machine does at one operation that calls nothing: values. -/
set_option linter.unusedVariables false
set_option linter.unusedSimpArgs false
set_option linter.unusedSectionVars false
namespace Go.Vm
variable [Valu]

def aggD : TypeDesc → Bool
  | .struct _ | .array _ _ => true
  | _ => false
structure EnvOk (P : Program) (E : Env) : Prop where
  ty : ∀ t i, E.ty t = some i → P.underlying t = some i.desc ∧ ∃ info z, P.info? t = some info ∧ info.size = i.size ∧ info.bytes = i.bytes ∧ info.zero = some z ∧
    i.zero.length = i.size ∧ i.isAgg = aggD i.desc ∧ (i.isAgg = true → z = .agg (i.zero.map S.val).toArray) ∧ (i.isAgg = false → ∃ s, i.zero = [s] ∧ z = s.val) ∧ (∀ s ∈ i.zero, s ≠ .undef)
  eqT : ∀ t i, E.eqT t = true → E.ty t = some i → P.eqGuardType P.depth t = false ∧
    (∀ xs ys w, alikeL i.zero xs = true → alikeL xs ys = true → (Op.equal t (.agg (xs.map S.val).toArray) (.agg (ys.map S.val).toArray)).run P w = .ok (decide (xs = ys)) w) ∧
    (∀ xs e w, alikeL i.zero xs = true → (Instr.checkKey e 10000 t (.agg (xs.map S.val).toArray)).run P w = .ok () w)

  bin : ∀ op a b s, E.bin op a b = some s → (∃ i, a = .sym i) ∨ (∃ j, b = .sym j) → ∀ t o1 o2 w, ((do eqGuard op t o1 o2 a.val b.val; binOp op t a.val b.val : Sem Value)).run P w = .ok s.val w
  eqs : ∀ t i xs ys b, E.eqs t xs ys = some b → E.eqT t = true → E.ty t = some i → ∀ w, (Op.equal t (.agg (xs.map S.val).toArray) (.agg (ys.map S.val).toArray)).run P w = .ok b w

variable {P : Program} {E : Env} {Z : Nat → Prop} {φ φ' : Phi} {H H' : Heap} {w w' : World}

theorem VRel.s (x : S) : VRel Z φ H w (.fz (.s x)) x.val := .fz _ _ (.s x)
theorem VRel.s_inv {x : S} {v : Value} (h : VRel Z φ H w (.fz (.s x)) v) : v = x.val := by
  cases h with | fz _ _ h => cases h; rfl
theorem VRel.fz_inv {x : F} {v : Value} (h : VRel Z φ H w (.fz x) v) : FRel w (stable Z φ H w) x v := by
  cases h with | fz _ _ h => exact h
theorem i64_inv {n : Int} {v : Value} (h : VRel Z φ H w (i64 n) v) : v = .int .i64 n := h.s_inv
theorem VRel.i64 (n : Int) : VRel Z φ H w (i64 n) (.int .i64 n) := .s (.int .i64 n)
theorem VRel.bV (b : Bool) : VRel Z φ H w (bV b) (.bool b) := .s (.bool b)
theorem intOf_inv {x : V} {k : IntKind} {n : Int} {v : Value} (h : intOf x = some (k, n)) (hv : VRel Z φ H w x v) : v = .int k n := by
  unfold intOf at h
  split at h
  · cases h; exact hv.s_inv
  · cases h

theorem sOf_val {v : Value} {s : S} (h : sOf v = some s) : v = s.val := by
  unfold sOf at h
  split at h <;> cases h <;> rfl
theorem mapM_sOf {l : List Value} {ss : List S} (h : l.mapM sOf = some ss) : l = ss.map S.val := by
  induction l generalizing ss with
  | nil => simp at h; subst h; rfl
  | cons v l ih =>
    simp only [List.mapM_cons, Option.pure_def, Option.bind_eq_bind, Option.bind_eq_some_iff, Option.some.injEq] at h
    obtain ⟨s, h1, ss', h2, rfl⟩ := h
    rw [ih h2, sOf_val h1]; rfl
theorem FRel.scalarsAgg {st : Nat → Prop} (ss : List S) : FRel w st (.agg (ss.map .s)) (.agg (ss.map S.val).toArray) := by
  refine .agg _ _ (by simp) fun i c v h1 h2 => ?_
  simp only [List.getElem?_map, Option.map_eq_some_iff] at h1
  simp only [List.getElem?_toArray, List.getElem?_map, Option.map_eq_some_iff] at h2
  obtain ⟨s, h3, rfl⟩ := h1
  obtain ⟨s', h4, rfl⟩ := h2
  rw [h3] at h4; cases h4; exact .s s
theorem vOf_rel {v : Value} {x : V} (h : vOf v = some x) : VRel Z φ H w x v := by
  unfold vOf at h
  split at h
  · rename_i cs
    simp only [Option.map_eq_some_iff] at h
    obtain ⟨ss, h1, rfl⟩ := h
    have := mapM_sOf h1
    have hc : cs = (ss.map S.val).toArray := by rw [← this]
    rw [hc]
    exact .fz _ _ (FRel.scalarsAgg ss)
  · simp only [Option.map_eq_some_iff] at h
    obtain ⟨s, h1, rfl⟩ := h
    rw [sOf_val h1]; exact .s s

/-- lists of values -/
def LRel (Z : Nat → Prop) (φ : Phi) (H : Heap) (w : World) (l : List V) (vs : List Value) : Prop :=
  l.length = vs.length ∧ ∀ (i : Nat) v x, l[i]? = some v → vs[i]? = some x → VRel Z φ H w v x
theorem LRel.nil : LRel Z φ H w [] [] := ⟨rfl, fun i v x h => by simp at h⟩
theorem LRel.cons {v x l vs} (h : VRel Z φ H w v x) (hl : LRel Z φ H w l vs) : LRel Z φ H w (v :: l) (x :: vs) :=
  ⟨by simp [hl.1], fun i v' x' h1 h2 => by cases i with
    | zero => simp at h1 h2; subst h1 h2; exact h
    | succ i => simp at h1 h2; exact hl.2 i _ _ h1 h2⟩
theorem LRel.cons_inv {v l vs} (h : LRel Z φ H w (v :: l) vs) : ∃ x vs', vs = x :: vs' ∧ VRel Z φ H w v x ∧ LRel Z φ H w l vs' := by
  cases vs with
  | nil => exact absurd h.1 (by simp)
  | cons x vs => exact ⟨x, vs, rfl, h.2 0 v x rfl rfl, by have := h.1; simpa using this, fun i v' x' h1 h2 => h.2 (i + 1) v' x' (by simpa using h1) (by simpa using h2)⟩
theorem LRel.append {l l' vs vs'} (h : LRel Z φ H w l vs) (h' : LRel Z φ H w l' vs') : LRel Z φ H w (l ++ l') (vs ++ vs') := by
  induction l generalizing vs with
  | nil => have := h.1; cases vs <;> simp_all
  | cons v l ih => obtain ⟨x, vs, rfl, h1, h2⟩ := h.cons_inv; exact .cons h1 (ih h2)
theorem LRel.ext (e : Ext Z φ H w φ' H' w') {l vs} (h : LRel Z φ H w l vs) : LRel Z φ' H' w' l vs :=
  ⟨h.1, fun i v x h1 h2 => (h.2 i v x h1 h2).ext e⟩
theorem LRel.take {l vs} (n : Nat) (h : LRel Z φ H w l vs) : LRel Z φ H w (l.take n) (vs.take n) :=
  ⟨by simp [h.1], fun i v x h1 h2 => by
    rw [List.getElem?_take] at h1 h2
    split at h1
    · rename_i hi; rw [if_pos hi] at h2; exact h.2 i v x h1 h2
    · cases h1⟩
theorem LRel.drop {l vs} (n : Nat) (h : LRel Z φ H w l vs) : LRel Z φ H w (l.drop n) (vs.drop n) :=
  ⟨by simp [h.1], fun i v x h1 h2 => by rw [List.getElem?_drop] at h1 h2; exact h.2 _ v x h1 h2⟩
theorem LRel.fz_map {fs : List F} {vs : List Value} (hl : fs.length = vs.length) (h : ∀ (i : Nat) c v, fs[i]? = some c → vs[i]? = some v → FRel w (stable Z φ H w) c v) : LRel Z φ H w (fs.map .fz) vs :=
  ⟨by simpa using hl, fun i v x h1 h2 => by
    simp only [List.getElem?_map, Option.map_eq_some_iff] at h1
    obtain ⟨c, h3, rfl⟩ := h1
    exact .fz _ _ (h i c x h3 h2)⟩
theorem LRel.get {l vs} (h : LRel Z φ H w l vs) {i : Nat} {v : V} (hi : l[i]? = some v) : ∃ x, vs[i]? = some x ∧ VRel Z φ H w v x := by
  have hlt := lt_of_get hi
  have : i < vs.length := by rw [← h.1]; exact hlt
  exact ⟨vs[i], by simp [this], h.2 i v _ hi (by simp [this])⟩
theorem LRel.zeroV (z : List S) : LRel Z φ H w (zeroV z) (z.map S.val) := by
  induction z with
  | nil => exact .nil
  | cons s z ih => exact .cons (.s s) ih

theorem unfz_map {l : List V} {fs : List F} (h : unfz l = some fs) : l = fs.map .fz := by
  induction l generalizing fs with
  | nil => simp [unfz] at h; subst h; rfl
  | cons v l ih =>
    cases v <;> simp only [unfz, Option.map_eq_some_iff, reduceCtorEq] at h
    obtain ⟨fs', h1, rfl⟩ := h
    rw [ih h1]; rfl
theorem mkAgg_rel {l : List V} {vs : List Value} (h : LRel Z φ H w l vs) : VRel Z φ H w (mkAgg l) (.agg vs.toArray) := by
  unfold mkAgg
  split
  · rename_i fs hf
    rw [unfz_map hf] at h
    refine .fz _ _ (.agg _ _ (by simpa using h.1) fun i c v h1 h2 => ?_)
    exact (h.2 i (.fz c) v (by simp [h1]) (by simpa using h2)).fz_inv
  · exact .agg _ _ (by simpa using h.1) fun i c v h1 h2 => h.2 i c v h1 (by simpa using h2)
theorem mkTup_rel {l : List V} {vs : List Value} (h : LRel Z φ H w l vs) : VRel Z φ H w (mkTup l) (.tuple vs.toArray) := by
  unfold mkTup
  split
  · rename_i fs hf
    rw [unfz_map hf] at h
    refine .fz _ _ (.tup _ _ (by simpa using h.1) fun i c v h1 h2 => ?_)
    exact (h.2 i (.fz c) v (by simp [h1]) (by simpa using h2)).fz_inv
  · exact .tup _ _ (by simpa using h.1) fun i c v h1 h2 => h.2 i c v h1 (by simpa using h2)

/-- what may lie in a cell lies there whole -/
theorem one_cell {v : V} {x : Value} (ho : v.one = true) (h : VRel Z φ H w v x) : x.oneCell' = true := by
  cases h with
  | fz y x h =>
    cases h with
    | s s =>
      cases s with
      | sym i => rcases Valu.plain i with ⟨k, n, h⟩ | ⟨s, h⟩ | ⟨b, h⟩ <;> simp [S.val, h, Value.oneCell']
      | _ => simp_all [V.one, S.val, Value.oneCell']
    | agg => simp [V.one] at ho
    | tup => simp [V.one] at ho
    | row => rfl
    | ptr => rfl
  | agg => simp [V.one] at ho
  | tup => simp [V.one] at ho
  | own _ _ _ _ _ _ hv => obtain ⟨_, _, rfl, _⟩ := hv; rfl
  | ptr _ _ _ _ _ hv => obtain ⟨_, rfl⟩ := hv; rfl
  | cl => rfl
  | clo => rfl
  | yield _ _ hv => obtain ⟨_, rfl⟩ := hv; rfl
  | map _ _ hv => obtain ⟨_, rfl⟩ := hv; rfl
theorem cells_of_one {x : Value} (h : x.oneCell' = true) : x.cells = #[x] := by
  cases x <;> simp_all [Value.oneCell', Value.cells]
/-- the cells of a value -/
theorem cells_rel {v : V} {x : Value} {cs : List V} (hc : v.cells = some cs) (h : VRel Z φ H w v x) : LRel Z φ H w cs x.cells.toList ∧ ∀ y ∈ x.cells.toList, y.oneCell' = true := by
  have key : ∀ {l : List V} {vs : List Value}, l.all V.one = true → LRel Z φ H w l vs → ∀ y ∈ vs, y.oneCell' = true := by
    intro l vs ha hl y hy
    obtain ⟨i, hi, rfl⟩ := List.getElem_of_mem hy
    have hil : i < l.length := by rw [hl.1]; exact hi
    exact one_cell (List.all_eq_true.1 ha l[i] (List.getElem_mem hil)) (hl.2 i _ _ (by simp [hil]) (by simp [hi]))
  have one1 : ∀ {v : V}, v.one = true → VRel Z φ H w v x → LRel Z φ H w [v] x.cells.toList ∧ ∀ y ∈ x.cells.toList, y.oneCell' = true := by
    intro v ho h
    have hx := one_cell ho h
    rw [cells_of_one hx]
    exact ⟨.cons h .nil, fun y hy => by simp at hy; subst hy; exact hx⟩
  unfold V.cells at hc
  split at hc
  · rename_i l
    simp only at hc
    split at hc
    · rename_i ha
      cases hc
      have := h.fz_inv
      cases this with
      | agg _ vs hl hh =>
        have hl2 : LRel Z φ H w (l.map V.fz) vs.toList := LRel.fz_map (by simpa using hl) fun i c v h1 h2 => hh i c v h1 (by simpa using h2)
        exact ⟨hl2, key ha hl2⟩
    · cases hc
  · rename_i l
    split at hc
    · rename_i ha
      cases hc
      cases h with
      | agg _ vs hl hh =>
        have hl2 : LRel Z φ H w cs vs.toList := ⟨by simpa using hl, fun i c v h1 h2 => hh i c v h1 (by simpa using h2)⟩
        exact ⟨hl2, key ha hl2⟩
    · cases hc
  · split at hc
    · rename_i ho; cases hc; exact one1 ho h
    · cases hc

/-! ### operands -/
structure Base where
  w0 : World
  ng : Nat
/-- what an activation's memory is worth -/
structure SRel (B : Base) (E : Env) (Z : Nat → Prop) (φ : Phi) (H : Heap) (w : World) : Prop where
  h : HRel Z φ H w
  gl : ∀ r, r < B.ng → stable Z φ H w r ∧ w.heap[r]? = B.w0.heap[r]?
structure GlobOk (B : Base) (E : Env) : Prop where
  glob : ∀ g cs, E.glob g = some cs → FRel B.w0 (· < B.ng) (.ptr cs 0) (.pointer (some ⟨g, 0, none⟩))
theorem SRel.ext {B : Base} (hs : SRel B E Z φ H w) (e : Ext Z φ H w φ' H' w') (h : HRel Z φ' H' w') : SRel B E Z φ' H' w' :=
  ⟨h, fun r hr => ⟨(e.stable (hs.gl r hr).1).1, by rw [(e.stable (hs.gl r hr).1).2]; exact (hs.gl r hr).2⟩⟩
theorem ev_rel {B : Base} (hg : GlobOk B E) (hs : SRel B E Z φ H w) {T : List V} {a : Act} (hT : TRel Z φ H w T a.tmps) {x : Operand} {v : V} (h : ev E T x = some v) : VRel Z φ H w v (a.eval x) := by
  cases x with
  | tmp t =>
    simp only [ev] at h
    have hlt : t < a.tmps.size := by rw [← hT.1]; exact lt_of_get h
    have : a.eval (.tmp t) = a.tmps[t] := by simp [Act.eval, Array.getD, hlt]
    rw [this]
    exact hT.2 t v _ h (by simp [hlt])
  | const c => exact vOf_rel h
  | global g =>
    simp only [ev, Option.map_eq_some_iff] at h
    obtain ⟨cs, h1, rfl⟩ := h
    exact .fz _ _ ((hg.glob g cs h1).mono (fun r hr => (hs.gl r hr).1) (fun r hr => (hs.gl r hr).2))
  | func f => simp only [ev, Option.some.injEq] at h; subst h; exact .s (.fn f)
theorem evL_rel {B : Base} (hg : GlobOk B E) (hs : SRel B E Z φ H w) {T : List V} {a : Act} (hT : TRel Z φ H w T a.tmps) {xs : List Operand} {l : List V} (h : evL E T xs = some l) : LRel Z φ H w l (xs.map a.eval) := by
  induction xs generalizing l with
  | nil => simp [evL] at h; subst h; exact .nil
  | cons x xs ih =>
    simp only [evL] at h
    split at h
    · rename_i v l' h1 h2; cases h; exact .cons (ev_rel hg hs hT h1) (ih h2)
    · cases h
end Go.Vm
/- The operations that leave memory as it is. -/
set_option linter.unusedVariables false
set_option linter.unusedSimpArgs false
set_option linter.unusedSectionVars false
namespace Go.Vm
variable [Valu]
variable {P : Program} {E : Env} {Z : Nat → Prop} {φ φ' : Phi} {H H' : Heap} {w w' : World}

def QOk (P : Program) (Z : Nat → Prop) (φ : Phi) (H : Heap) (w : World) (s : Sem Value) (v : V) : Prop :=
  ∃ x w', s.run P w = .ok x w' ∧ VRel Z φ H w' v x ∧ HRel Z φ H w' ∧ Ext Z φ H w φ H w'
theorem QOk.same (h : HRel Z φ H w) {s : Sem Value} {v : V} {x : Value} (hr : s.run P w = .ok x w) (hv : VRel Z φ H w v x) : QOk P Z φ H w s v :=
  ⟨x, w, hr, hv, h, Ext.refl _ _ _ _⟩

theorem memAt_some {b ver : Nat} {fr : Bool} {wd : Nat} {rs : List (List V)} (h : memAt H b ver = some (fr, wd, rs)) : H[b]? = some (.mem ver fr wd rs) := by
  unfold memAt at h
  split at h
  · rename_i v fr' wd' rs' he
    split at h
    · rename_i hv; cases h; subst hv; exact he
    · cases h
  · cases h

/-- n cells at a pointer -/
theorem loadC_rel (h : HRel Z φ H w) {av : V} {n : Nat} {cs : List V} {x : Value} (hv : VRel Z φ H w av x) (hl : loadC H av n = some cs) :
    ∃ r o, x = .pointer (some ⟨r, o, none⟩) ∧ ∃ vs : List Value, vs.length = n ∧ (∀ (j : Nat) v, vs[j]? = some v → w.cell? ⟨r, o + j, none⟩ = some v) ∧ LRel Z φ H w cs vs := by
  unfold loadC at hl
  split at hl
  · rename_i b ver i j
    split at hl
    · rename_i fr wd rs hm
      have hm := memAt_some hm
      split at hl
      · rename_i row hrow
        simp only at hl
        split at hl
        · rename_i hlen
          cases hl
          cases hv with
          | ptr _ _ _ _ _ ho hb hh =>
            obtain ⟨r, o, hφ, rfl⟩ := (hh ver fr wd rs hm).2 rfl
            obtain ⟨ob, hob, c, e, rfl, hwd, hcells⟩ := h.blk b _ r o hm hφ
            have hget : ∀ k, k < n → ∃ x v, row[j + k]? = some x ∧ c[o + (i * wd + (j + k))]? = some v ∧ VRel Z φ H w x v := by
              intro k hk
              have hk2 : j + k < row.length := by rw [List.length_take, List.length_drop] at hlen; omega
              obtain ⟨v, h1, h2⟩ := hcells i (j + k) row row[j + k] hrow (by simp [hk2])
              exact ⟨row[j + k], v, by simp [hk2], h1, h2⟩
            refine ⟨r, o + (i * wd + j), rfl, (List.range n).map (fun k => (c[o + (i * wd + (j + k))]?).getD undef), by simp, fun k v hk => ?_, ?_⟩
            · simp only [List.getElem?_map, Option.map_eq_some_iff] at hk
              obtain ⟨k', h1, rfl⟩ := hk
              have hkn : k < n := by have := lt_of_get h1; simpa using this
              rw [List.getElem?_range hkn] at h1; cases h1
              obtain ⟨x, v, h2, h3, h4⟩ := hget k hkn
              simp only [World.cell?, hob]
              rw [show o + (i * wd + j) + k = o + (i * wd + (j + k)) by omega, h3]
              rfl
            · refine ⟨by simpa using hlen, fun k x v h1 h2 => ?_⟩
              simp only [List.getElem?_map, Option.map_eq_some_iff] at h2
              obtain ⟨k', h3, rfl⟩ := h2
              have hkn : k < n := by have := lt_of_get h3; simpa using this
              rw [List.getElem?_range hkn] at h3; cases h3
              obtain ⟨x', v, h4, h5, h6⟩ := hget k hkn
              rw [List.getElem?_take, if_pos hkn, List.getElem?_drop, h4] at h1
              cases h1
              rw [h5]; exact h6
        · cases hl
      · cases hl
    · cases hl
  · rename_i fs j
    simp only at hl
    split at hl
    · rename_i hlen
      cases hl
      have hf := hv.fz_inv
      cases hf with
      | ptr _ _ r o g hr hg hh =>
        refine ⟨r, o + j, rfl, (List.range n).map (fun k => g (j + k)), by simp, fun k v hk => ?_, ?_⟩
        · simp only [List.getElem?_map, Option.map_eq_some_iff] at hk
          obtain ⟨k', h1, rfl⟩ := hk
          have hkn : k < n := by have := lt_of_get h1; simpa using this
          rw [List.getElem?_range hkn] at h1; cases h1
          have hk2 : j + k < fs.length := by rw [List.length_take, List.length_drop] at hlen; omega
          rw [show o + j + k = o + (j + k) by omega]
          exact hg (j + k) fs[j + k] (by simp [hk2])
        · refine LRel.fz_map (by simpa using hlen) fun k c v h1 h2 => ?_
          simp only [List.getElem?_map, Option.map_eq_some_iff] at h2
          obtain ⟨k', h3, rfl⟩ := h2
          have hkn : k < n := by have := lt_of_get h3; simpa using this
          rw [List.getElem?_range hkn] at h3; cases h3
          rw [List.getElem?_take, if_pos hkn, List.getElem?_drop] at h1
          exact hh (j + k) c h1
    · cases hl
  · cases hl

theorem run_isAgg (hE : EnvOk P E) {t : TypeId} {i : TyI} (ht : E.ty t = some i) : (isAgg t).run P w = .ok i.isAgg w := by
  obtain ⟨h1, info, z, h2, h3, h4, h5, h6, h7, h8, h9⟩ := hE.ty t i ht
  simp only [isAgg, Sem.run_bind, run_underlying h1, Result.andThen]
  rw [h7]
  cases i.desc <;> rfl
theorem run_sizeOf' (hE : EnvOk P E) {t : TypeId} {i : TyI} (ht : E.ty t = some i) : (sizeOf t).run P w = .ok i.size w := by
  obtain ⟨h1, info, z, h2, h3, h4, h5, h6, h7, h8, h9⟩ := hE.ty t i ht
  simp only [sizeOf, Sem.run_bind, run_typeInfo (w := w) h2, Result.andThen, Sem.run_pure, h3]
theorem run_zeroValue' (hE : EnvOk P E) {t : TypeId} {i : TyI} (ht : E.ty t = some i) : ∃ z, (zeroValue t).run P w = .ok z w ∧ z.cells.toList = i.zero.map S.val ∧
    (i.isAgg = true → z = .agg (i.zero.map S.val).toArray) ∧ (i.isAgg = false → ∃ s, i.zero = [s] ∧ z = s.val) := by
  obtain ⟨h1, info, z, h2, h3, h4, h5, h6, h7, h8, h9, h10⟩ := hE.ty t i ht
  refine ⟨z, by simp only [zeroValue, Sem.run_bind, run_typeInfo (w := w) h2, Result.andThen, h5, Sem.run_pure], ?_, h8, h9⟩
  cases ha : i.isAgg with
  | true => rw [h8 ha]; rfl
  | false =>
    obtain ⟨s, hs, rfl⟩ := h9 ha
    have := h10 s (by simp [hs])
    rw [hs]
    cases s with
    | sym i => rcases Valu.plain i with ⟨k, n, h⟩ | ⟨s, h⟩ | ⟨b, h⟩ <;> simp [S.val, h, Value.cells]
    | _ => simp_all [S.val, Value.cells]

theorem loadVar_rel (hE : EnvOk P E) (h : HRel Z φ H w) {t : TypeId} {i : TyI} (ht : E.ty t = some i) {av v : V} {x : Value} (hv : VRel Z φ H w av x) (hl : loadV H i av = some v) :
    ∃ a y, x = .pointer (some a) ∧ (loadVar t a).run P w = .ok y w ∧ VRel Z φ H w v y := by
  unfold loadV at hl
  cases ha : i.isAgg with
  | true =>
    rw [ha, cond_true] at hl
    simp only [Option.map_eq_some_iff] at hl
    obtain ⟨cs, hc, rfl⟩ := hl
    obtain ⟨r, o, rfl, vs, hlen, hcell, hrel⟩ := loadC_rel h hv hc
    refine ⟨_, .agg vs.toArray, rfl, ?_, mkAgg_rel hrel⟩
    simp only [loadVar, Sem.run_bind, run_isAgg hE ht, ha, Result.andThen, if_true, run_sizeOf' hE ht]
    rw [← hlen, run_loadCells_list]
    · rfl
    · intro j v hj
      rw [add_none]; exact hcell j v hj
  | false =>
    rw [ha, cond_false] at hl
    unfold one? at hl
    split at hl
    · rename_i v' hc
      cases hl
      obtain ⟨r, o, rfl, vs, hlen, hcell, hrel⟩ := loadC_rel h hv hc
      obtain ⟨y, vs', rfl, h1, h2⟩ := hrel.cons_inv
      refine ⟨_, y, rfl, ?_, h1⟩
      have := hcell 0 y rfl
      simp only [loadVar, Sem.run_bind, run_isAgg hE ht, ha, Result.andThen, run_load, Nat.add_zero] at this ⊢
      simp [this]
    · cases hl

theorem q_load (hE : EnvOk P E) (h : HRel Z φ H w) {t : TypeId} {i : TyI} (ht : E.ty t = some i) {av v : V} {x : Value} (hv : VRel Z φ H w av x) (hl : loadV H i av = some v) :
    QOk P Z φ H w (Instr.loadAt t x) v := by
  obtain ⟨a, y, rfl, hr, hy⟩ := loadVar_rel hE h ht hv hl
  exact .same h (by simp [Instr.loadAt, Instr.sureAddr, hr]) hy

end Go.Vm
/- The operations that leave memory as it is: operators. -/
set_option linter.unusedVariables false
set_option linter.unusedSimpArgs false
set_option linter.unusedSectionVars false
namespace Go.Vm
variable [Valu]
variable {P : Program} {E : Env} {Z : Nat → Prop} {φ φ' : Phi} {H H' : Heap} {w w' : World}

/-- the operator, behind the look at its operands -/
abbrev binSem (op : BinOp) (t : TypeId) (x y : Operand) (a b : Value) : Sem Value := do eqGuard op t x y a b; binOp op t a b

theorem eqGuard_int (op : BinOp) (t : TypeId) (x y : Operand) (k k' : IntKind) (a b : Int) : (eqGuard op t x y (.int k a) (.int k' b)).run P w = .ok () w := by
  cases op <;> simp [eqGuard]
theorem eqGuard_str (op : BinOp) (t : TypeId) (x y : Operand) (a b : ByteArray) : (eqGuard op t x y (.string a) (.string b)).run P w = .ok () w := by
  cases op <;> simp [eqGuard]

theorem arith_run (op : BinOp) (k : IntKind) (a b : Int) (t : TypeId) {s : S} (h : arith op k a b = some s) (h1 : op ≠ .shl) (h2 : op ≠ .shr) :
    (binOp op t (.int k a) (.int k b)).run P w = .ok s.val w := by
  cases op <;> simp only [arith, Option.some.injEq, reduceCtorEq] at h <;> first
    | (subst h; simp [binOp, Op.intArith, Op.intCmp, Op.intBits, S.val]; done)
    | (split at h
       · cases h
       · rename_i hb; cases h; simp [binOp, Op.intDiv, hb, S.val]; done)
    | (exact absurd rfl h1)
    | (exact absurd rfl h2)
    | cases h
theorem binS_int (op : BinOp) (k k' : IntKind) (a b : Int) (t : TypeId) {s : S} (h : binS op (.int k a) (.int k' b) = some s) :
    (binOp op t (.int k a) (.int k' b)).run P w = .ok s.val w := by
  simp only [binS] at h
  split at h
  · split at h
    · cases h
    · rename_i hb; cases h; simp [binOp, Op.shift, hb, S.val]
  · split at h
    · cases h
    · rename_i hb; cases h; simp [binOp, Op.shift, hb, S.val]
  · rename_i h1 h2
    split at h
    · rename_i hk; subst hk
      exact arith_run op k a b t h (fun e => h1 e) (fun e => h2 e)
    · cases h
theorem binS_str (op : BinOp) (a b : ByteArray) (t : TypeId) {s : S} (h : binS op (.str a) (.str b) = some s) :
    (binOp op t (.string a) (.string b)).run P w = .ok s.val w := by
  simp only [binS] at h
  split at h
  · split at h
    · rename_i hb
      cases h
      have : ¬ (((a.size + b.size : Nat) : Int) > IntKind.i64.max) := by
        have : IntKind.i64.max = 9223372036854775807 := rfl
        rw [this]; omega
      simp only [binOp, Op.stringOp]
      rw [if_neg this]; rfl
    · cases h
  all_goals first
    | (cases h; simp [binOp, Op.stringOp, S.val]; done)
    | cases h

theorem scalars_map {l : List F} {ss : List S} (h : scalars l = some ss) : l = ss.map .s := by
  induction l generalizing ss with
  | nil => simp [scalars] at h; subst h; rfl
  | cons v l ih =>
    cases v <;> simp only [scalars, Option.map_eq_some_iff, reduceCtorEq] at h
    obtain ⟨fs', h1, rfl⟩ := h
    rw [ih h1]; rfl
theorem FRel.scalars_inv {st : Nat → Prop} {ss : List S} {v : Value} (h : FRel w st (.agg (ss.map .s)) v) : v = .agg (ss.map S.val).toArray := by
  cases h with
  | agg _ vs hl hh =>
    congr 1
    apply Array.ext
    · simpa using hl.symm
    · intro i h1 h2
      have h3 : i < ss.length := by simpa using h2
      have := (VRel.fz (Z := fun _ => False) (φ := fun _ => none) (H := []) (w := w) (.s ss[i]) _ ?_).s_inv (v := vs[i])
      · simp [this]
      · have h4 := hh i (.s ss[i]) vs[i] (by simp [h3]) (by simp [h1])
        generalize vs[i] = y at h4 ⊢
        cases h4; exact .s _
theorem eqGuard_agg {t : TypeId} (op : BinOp) (x y : Operand) (a b : Array Value) (hg : P.eqGuardType P.depth t = false) : (eqGuard op t x y (.agg a) (.agg b)).run P w = .ok () w := by
  cases op <;> simp [eqGuard, hg]

theorem eqGuard_one {t : TypeId} (op : BinOp) (o1 o2 : Operand) (a c : Value) (h1 : a.oneCell' = true) (h2 : a ≠ .nilIface) : (eqGuard op t o1 o2 a c).run P w = .ok () w := by
  cases op <;> cases a <;> simp_all [eqGuard, Value.oneCell']
/-- what slices, pointers and bools look like -/
theorem slice_shape {x : V} {a : Value} (hx : VRel Z φ H w x a) (h : match x with | .fz (.row ..) | .own .. | .cl .. => True | _ => False) : ∃ ad n m, a = .slice (some ad) n m := by
  cases hx with
  | fz y v hf => cases hf <;> simp_all
  | own _ _ _ _ _ _ hv => obtain ⟨_, _, h', _⟩ := hv; exact ⟨_, _, _, h'⟩
  | cl => exact ⟨_, _, _, rfl⟩
  | _ => simp at h
theorem ptr_shape {x : V} {a : Value} (hx : VRel Z φ H w x a) (h : match x with | .fz (.ptr ..) | .ptr .. => True | _ => False) : ∃ ad, a = .pointer (some ad) := by
  cases hx with
  | fz y v hf => cases hf <;> simp_all
  | ptr _ _ _ _ _ hv => exact hv
  | _ => simp at h
section
variable {t : TypeId} (d : Nat)
theorem eqn_slice {e : TypeId} (hd : P.underlying t = some (.slice e)) (a b : Option Addr) (n m n' m' : Nat) (h : a = none ∨ b = none) : (Op.equalIn (d + 1) t (.slice a n m) (.slice b n' m')).run P w = .ok (a.isNone && b.isNone) w := by
  rcases h with rfl | rfl
  · simp [Op.equalIn, run_underlying hd]
  · cases a <;> simp [Op.equalIn, run_underlying hd]
theorem eqn_ptr {e : TypeId} (hd : P.underlying t = some (.pointer e)) (a b : Option Addr) (h : a = none ∨ b = none) : (Op.equalIn (d + 1) t (.pointer a) (.pointer b)).run P w = .ok (a.isNone && b.isNone) w := by
  rcases h with rfl | rfl
  · simp [Op.equalIn, run_underlying hd]
  · cases a <;> simp [Op.equalIn, run_underlying hd]
theorem eqn_bool (hd : P.underlying t = some .bool) (a b : Bool) : (Op.equalIn (d + 1) t (.bool a) (.bool b)).run P w = .ok (a == b) w := by
  simp [Op.equalIn, run_underlying hd]
end
theorem equal_of {t : TypeId} {a c : Value} {b : Bool} (h : ∀ d, (Op.equalIn (d + 1) t a c).run P w = .ok b w) : (Op.equal t a c).run P w = .ok b w := h 9999
theorem nilKind_run {t : TypeId} {d : TypeDesc} (hd : P.underlying t = some d) {x y : V} {b : Bool} (h : nilKind d x y = some b) {a c : Value} (hx : VRel Z φ H w x a) (hy : VRel Z φ H w y c) :
    (Op.equal t a c).run P w = .ok b w ∧ a.oneCell' = true ∧ a ≠ .nilIface := by
  unfold nilKind at h
  split at h
  · have ha := hx.s_inv; subst ha
    refine ⟨equal_of fun d => ?_, rfl, by simp [S.val]⟩
    split at h
    · cases h; have hc := hy.s_inv; subst hc
      exact eqn_slice d hd _ _ _ _ _ _ (.inl rfl)
    all_goals first
      | (cases h
         obtain ⟨ad, n, m, rfl⟩ := slice_shape hy (by trivial)
         exact eqn_slice d hd _ _ _ _ _ _ (.inl rfl))
      | cases h
  · have hc := hy.s_inv; subst hc
    split at h
    all_goals first
      | (cases h
         obtain ⟨ad, n, m, rfl⟩ := slice_shape hx (by trivial)
         exact ⟨equal_of fun d => eqn_slice d hd _ _ _ _ _ _ (.inr rfl), rfl, by simp⟩)
      | cases h
  · have ha := hx.s_inv; subst ha
    refine ⟨equal_of fun d => ?_, rfl, by simp [S.val]⟩
    split at h
    · cases h; have hc := hy.s_inv; subst hc
      exact eqn_ptr d hd _ _ (.inl rfl)
    all_goals first
      | (cases h
         obtain ⟨ad, rfl⟩ := ptr_shape hy (by trivial)
         exact eqn_ptr d hd _ _ (.inl rfl))
      | cases h
  · have hc := hy.s_inv; subst hc
    split at h
    all_goals first
      | (cases h
         obtain ⟨ad, rfl⟩ := ptr_shape hx (by trivial)
         exact ⟨equal_of fun d => eqn_ptr d hd _ _ (.inr rfl), rfl, by simp⟩)
      | cases h
  · have ha := hx.s_inv; have hc := hy.s_inv; subst ha hc
    cases h
    exact ⟨equal_of fun d => eqn_bool d hd _ _, rfl, by simp [S.val]⟩
  · cases h

theorem binOp_eql (t : TypeId) {a c : Value} {b : Bool} (h : (Op.equal t a c).run P w = .ok b w) (h1 : a.oneCell' = true ∧ (∀ k n, a ≠ .int k n) ∧ (∀ s, a ≠ .string s) ∧ (∀ k n, a ≠ .float k n) ∧ (∀ k n m, a ≠ .complex k n m) ∨ ∃ x, a = .agg x) :
    (binOp .eql t a c).run P w = .ok (.bool b) w ∧ (binOp .neq t a c).run P w = .ok (.bool !b) w := by
  have hA : ∀ {a : Value}, (Op.equal t a c).run P w = .ok b w → (binOp .eql t a c = (do pure (.bool (← Op.equal t a c)))) → (binOp .neq t a c = (do pure (.bool (!(← Op.equal t a c))))) → (binOp .eql t a c).run P w = .ok (.bool b) w ∧ (binOp .neq t a c).run P w = .ok (.bool !b) w := by
    intro a h e1 e2
    rw [e1, e2]
    constructor <;> simp only [Sem.run_bind, h, Result.andThen, Sem.run_pure]
  refine hA h ?_ ?_
  · rcases h1 with ⟨_, h2, h3, h4, h5⟩ | ⟨x, rfl⟩
    · cases a <;> first | rfl | (exact absurd rfl (h2 _ _)) | (exact absurd rfl (h3 _)) | (exact absurd rfl (h4 _ _)) | (exact absurd rfl (h5 _ _ _))
    · rfl
  · rcases h1 with ⟨_, h2, h3, h4, h5⟩ | ⟨x, rfl⟩
    · cases a <;> first | rfl | (exact absurd rfl (h2 _ _)) | (exact absurd rfl (h3 _)) | (exact absurd rfl (h4 _ _)) | (exact absurd rfl (h5 _ _ _))
    · rfl
theorem eqV_run (hE : EnvOk P E) {t : TypeId} {x y : V} {b : Bool} (h : eqV E t x y = some b) {a c : Value} (hx : VRel Z φ H w x a) (hy : VRel Z φ H w y c)
    (o1 o2 : Operand) :
    (binSem .eql t o1 o2 a c).run P w = .ok (.bool b) w ∧ (binSem .neq t o1 o2 a c).run P w = .ok (.bool !b) w := by
  have two : ∀ {a c : Value}, (∀ op, (eqGuard op t o1 o2 a c).run P w = .ok () w) → ((binOp .eql t a c).run P w = .ok (.bool b) w ∧ (binOp .neq t a c).run P w = .ok (.bool !b) w) →
      (binSem .eql t o1 o2 a c).run P w = .ok (.bool b) w ∧ (binSem .neq t o1 o2 a c).run P w = .ok (.bool !b) w := by
    intro a c h1 h2
    unfold binSem
    exact ⟨by rw [Sem.run_bind, h1]; exact h2.1, by rw [Sem.run_bind, h1]; exact h2.2⟩
  unfold eqV at h
  split at h
  · rename_i fa fb
    split at h
    · rename_i het
      split at h
      · rename_i xs ys i h1 h2 h3
        split at h
        · rename_i hal
          cases h
          rw [Bool.and_eq_true] at hal
          rw [scalars_map h1] at hx
          rw [scalars_map h2] at hy
          rw [hx.fz_inv.scalars_inv, hy.fz_inv.scalars_inv]
          obtain ⟨hg, he, _⟩ := hE.eqT t i het h3
          exact two (fun op => eqGuard_agg op _ _ _ _ hg) (binOp_eql t (he xs ys w hal.2 hal.1) (.inr ⟨_, rfl⟩))
        · rw [scalars_map h1] at hx
          rw [scalars_map h2] at hy
          rw [hx.fz_inv.scalars_inv, hy.fz_inv.scalars_inv]
          obtain ⟨hg, _, _⟩ := hE.eqT t i het h3
          exact two (fun op => eqGuard_agg op _ _ _ _ hg) (binOp_eql t (hE.eqs t i xs ys b h het h3 w) (.inr ⟨_, rfl⟩))
      · cases h
    · cases h
  · split at h
    · rename_i i hi
      obtain ⟨h1, h2, h3⟩ := nilKind_run (hE.ty t i hi).1 h hx hy
      refine two (fun op => eqGuard_one op _ _ _ _ h2 h3) (binOp_eql t h1 (.inl ⟨h2, ?_⟩))
      have hk : ∀ v : Value, (∃ ad n m, v = .slice ad n m) ∨ (∃ ad, v = .pointer ad) ∨ (∃ b, v = .bool b) → (∀ k n, v ≠ .int k n) ∧ (∀ s, v ≠ .string s) ∧ (∀ k n, v ≠ .float k n) ∧ (∀ k n m, v ≠ .complex k n m) := by
        rintro v (⟨_, _, _, rfl⟩ | ⟨_, rfl⟩ | ⟨_, rfl⟩) <;> simp
      apply hk
      unfold nilKind at h
      split at h
      · have ha := hx.s_inv; subst ha; exact .inl ⟨_, _, _, rfl⟩
      · split at h
        all_goals first
          | (obtain ⟨ad, n, m, rfl⟩ := slice_shape hx (by trivial); exact .inl ⟨_, _, _, rfl⟩)
          | cases h
      · have ha := hx.s_inv; subst ha; exact .inr (.inl ⟨_, rfl⟩)
      · split at h
        all_goals first
          | (obtain ⟨ad, rfl⟩ := ptr_shape hx (by trivial); exact .inr (.inl ⟨_, rfl⟩))
          | cases h
      · have ha := hx.s_inv; subst ha; exact .inr (.inr ⟨_, rfl⟩)
      · cases h
    · cases h

theorem q_bin (hE : EnvOk P E) (h : HRel Z φ H w) {op : BinOp} {t : TypeId} {x y v : V} {a c : Value} (hx : VRel Z φ H w x a) (hy : VRel Z φ H w y c) (hl : binV E op t x y = some v) (o1 o2 : Operand) :
    QOk P Z φ H w (binSem op t o1 o2 a c) v := by
  unfold binV at hl
  split at hl
  · rename_i k n k' m
    simp only [Option.map_eq_some_iff] at hl
    obtain ⟨s, h1, rfl⟩ := hl
    have ha := hx.s_inv; have hc := hy.s_inv; subst ha hc
    exact .same h (by unfold binSem; rw [Sem.run_bind]; simp only [S.val]; rw [eqGuard_int]; exact binS_int _ _ _ _ _ _ h1) (.s s)
  · rename_i n m
    simp only [Option.map_eq_some_iff] at hl
    obtain ⟨s, h1, rfl⟩ := hl
    have ha := hx.s_inv; have hc := hy.s_inv; subst ha hc
    exact .same h (by unfold binSem; rw [Sem.run_bind]; simp only [S.val]; rw [eqGuard_str]; exact binS_str _ _ _ _ h1) (.s s)
  · rename_i i s0
    simp only [Option.map_eq_some_iff] at hl
    obtain ⟨s, h1, rfl⟩ := hl
    have ha := hx.s_inv; have hc := hy.s_inv; subst ha hc
    exact .same h (hE.bin op _ _ s h1 (.inl ⟨i, rfl⟩) t o1 o2 w) (.s s)
  · rename_i s0 j _
    simp only [Option.map_eq_some_iff] at hl
    obtain ⟨s, h1, rfl⟩ := hl
    have ha := hx.s_inv; have hc := hy.s_inv; subst ha hc
    exact .same h (hE.bin op _ _ s h1 (.inr ⟨j, rfl⟩) t o1 o2 w) (.s s)
  · split at hl
    · simp only [Option.map_eq_some_iff] at hl
      obtain ⟨b, h1, rfl⟩ := hl
      exact .same h (eqV_run hE h1 hx hy o1 o2).1 (.bV b)
    · simp only [Option.map_eq_some_iff] at hl
      obtain ⟨b, h1, rfl⟩ := hl
      exact .same h (eqV_run hE h1 hx hy o1 o2).2 (.bV !b)
    · cases hl
theorem q_un (h : HRel Z φ H w) {op : UnOp} {x v : V} {a : Value} (hx : VRel Z φ H w x a) (hl : unV op x = some v) : QOk P Z φ H w (Op.unary op a) v := by
  unfold unV at hl
  split at hl
  · have ha := hx.s_inv; subst ha; cases hl
    exact .same h (by simp [Op.unary, S.val]) (.bV _)
  · have ha := hx.s_inv; subst ha; cases hl
    exact .same h (by simp [Op.unary, Op.intArith, S.val]) (.s _)
  · cases hl
end Go.Vm
/- The operations that leave memory as it is: places, slices, conversions. -/
set_option linter.unusedVariables false
set_option linter.unusedSimpArgs false
set_option linter.unusedSectionVars false
namespace Go.Vm
variable [Valu]
variable {P : Program} {E : Env} {Z : Nat → Prop} {φ φ' : Phi} {H H' : Heap} {w w' : World}

/-- memory that has grown -/
theorem Ext.more (h : HRel Z φ H w) (hsz : w.heap.size ≤ w'.heap.size) (hold : ∀ r, r < w.heap.size → w'.heap[r]? = w.heap[r]?) (ho : w'.os = w.os) (ht : w'.tape = w.tape) (hp : w'.output = w.output) : Ext Z φ H w φ H w' :=
  ⟨hsz, fun r hr _ => hold r hr, fun b v wd rs r o hm hb => ⟨hold r (h.dom b r o hb).2.1, hb, v, wd, rs, hm⟩, fun b r o h => .inl ⟨o, h⟩, fun _ _ h => h, Nat.le_refl _,
   fun b B B' h1 h2 => by
    rw [h1] at h2; cases h2
    exact Blk.to_refl _ (fun r o hb => ⟨hb, by unfold cellsSize; rw [hold r (h.dom b r o hb).2.1]⟩), fun r L hL => ⟨L, by rw [hold r (heap_lt hL)]; exact hL⟩, ho, ht, hp⟩
theorem HRel.more (h : HRel Z φ H w) (hsz : w.heap.size ≤ w'.heap.size) (hold : ∀ r, r < w.heap.size → w'.heap[r]? = w.heap[r]?) (ho : w'.os = w.os) (ht : w'.tape = w.tape) (hp : w'.output = w.output) : HRel Z φ H w' :=
  ⟨h.inj, fun b r o hb => ⟨(h.dom b r o hb).1, Nat.lt_of_lt_of_le (h.dom b r o hb).2.1 hsz, (h.dom b r o hb).2.2⟩, fun r hr => Nat.lt_of_lt_of_le (h.zlt r hr) hsz, fun b B r o h1 h2 => by
    obtain ⟨ob', a, b'⟩ := h.blk b B r o h1 h2
    exact ⟨ob', by rw [hold r (heap_lt a), a], b'.ext (Ext.more h hsz hold ho ht hp)⟩⟩

theorem tyK (hE : EnvOk P E) {t : TypeId} {i : TyI} (ht : E.ty t = some i) : (underlying t).run P w = .ok i.desc w := run_underlying (hE.ty t i ht).1 w
theorem kind_ty {t : TypeId} {d : TypeDesc} (h : kindOfT E t = some d) : ∃ i, E.ty t = some i ∧ i.desc = d := by
  simp only [kindOfT, Option.map_eq_some_iff] at h; exact h

/-- a new row that nothing writes -/
theorem FRel.newRow {st : Nat → Prop} {r : Nat} {c : Array Value} {e : TypeId} {f : Nat × Nat} (hr : w.heap[r]? = some (.cells c e f)) (hst : st r) (xs : List S) (cap : Nat) (hcap : xs.length ≤ cap)
    (hc : ∀ (k : Nat) x, xs[k]? = some x → c[k]? = some x.val) : FRel w st (.row 1 (xs.map fun x => [.s x])) (.slice (some ⟨r, 0, none⟩) xs.length cap) := by
  have := FRel.row (w := w) (st := st) 1 (xs.map fun x => [F.s x]) ⟨r, 0, none⟩ cap r 0 (fun i _ => ((xs[i]?).getD .undef).val) (by simpa using hcap) (fun _ => ⟨rfl, hst⟩) (fun row hrow => by
    simp only [List.mem_map] at hrow; obtain ⟨x, _, rfl⟩ := hrow; rfl) (fun i j row y h1 h2 => by
      simp only [List.getElem?_map, Option.map_eq_some_iff] at h1
      obtain ⟨x, h3, rfl⟩ := h1
      have hj : j = 0 := by have := lt_of_get h2; simpa using this
      subst hj
      simp only [World.cell?, hr]
      rw [show 0 + (i * 1 + 0) = i by omega, hc i x h3, h3]; rfl) (fun i j row y h1 h2 => by
      simp only [List.getElem?_map, Option.map_eq_some_iff] at h1
      obtain ⟨x, h3, rfl⟩ := h1
      have hj : j = 0 := by have := lt_of_get h2; simpa using this
      subst hj
      simp at h2; subst h2
      rw [h3]; exact .s x)
  simpa using this

theorem q_conv (hE : EnvOk P E) (h : HRel Z φ H w) {s d : TypeId} {x v : V} {a : Value} (hx : VRel Z φ H w x a) (hl : convV E s d x = some v) : QOk P Z φ H w (convert s d a) v := by
  unfold convV at hl
  split at hl
  · rename_i k n
    have ha := hx.s_inv; subst ha
    split at hl
    · rename_i k' d' h1 h2
      obtain ⟨i, hi, hd⟩ := kind_ty h1
      obtain ⟨j, hj, hd'⟩ := kind_ty h2
      cases hl
      refine .same h (x := .int k' (k'.wrap n)) ?_ (.s _)
      simp only [convert, Sem.run_bind, tyK hE hi, tyK hE hj, Result.andThen, hd, S.val]
      rfl
    · rename_i d' h1 h2
      obtain ⟨i, hi, hd⟩ := kind_ty h1
      obtain ⟨j, hj, hd'⟩ := kind_ty h2
      cases hl
      refine .same h (x := .string (Utf8.encode n)) ?_ (.s (.str _))
      simp only [convert, Sem.run_bind, tyK hE hi, tyK hE hj, Result.andThen, hd, S.val]
      rfl
    · cases hl
  · rename_i str
    have ha := hx.s_inv; subst ha
    split at hl
    · rename_i d' h1 h2
      obtain ⟨i, hi, hd⟩ := kind_ty h1
      obtain ⟨j, hj, hd'⟩ := kind_ty h2
      cases hl
      refine .same h (x := .string str) ?_ (.s (.str _))
      simp only [convert, Sem.run_bind, tyK hE hi, tyK hE hj, Result.andThen, hd, S.val]
      rfl
    · rename_i e h1 h2
      obtain ⟨i, hi, hd⟩ := kind_ty h1
      obtain ⟨j, hj, hd'⟩ := kind_ty h2
      split at hl
      · rename_i h3
        obtain ⟨q, hq, hd3⟩ := kind_ty h3
        split at hl
        · rename_i hsz
          cases hl
          have hcap : str.data.toList.length ≤ grownCap w str.size 0 e := by
            have : str.data.toList.length = str.size := by simp
            rw [this]; unfold grownCap; simp [Question.cut]
          have e1 := (hE.ty _ _ hi).1; rw [hd] at e1
          have e2 := (hE.ty _ _ hq).1; rw [hd3] at e2
          have hold : ∀ r, r < w.heap.size → (Lib.bytesWorld w e str).heap[r]? = w.heap[r]? := Lib.bytesWorld_at_old w e str
          have hm := HRel.more h (w' := Lib.bytesWorld w e str) (by rw [Lib.bytesWorld_size]; omega) hold rfl rfl rfl
          refine ⟨_, _, Lib.run_convert_string_bytes w s d e str (hE.ty _ _ hj).1 e1 e2, ?_, hm, Ext.more h (by rw [Lib.bytesWorld_size]; omega) hold rfl rfl rfl⟩
          have hst : stable Z φ H (Lib.bytesWorld w e str) w.heap.size := ⟨by rw [Lib.bytesWorld_size]; omega, fun hz => by have := h.zlt _ hz; omega, fun b o hb => by have := (h.dom _ _ _ hb).2.1; omega⟩
          have := FRel.newRow (Lib.bytesWorld_at_new w e str) hst (str.data.toList.map fun b => S.int .u8 b.toNat) (grownCap w str.size 0 e) (by simpa using hcap) (fun k x hk => by
            simp only [List.getElem?_map, Option.map_eq_some_iff] at hk
            obtain ⟨b, hb, rfl⟩ := hk
            have hlt := lt_of_get hb
            simp only [Array.length_toList] at hlt
            simp only [Lib.bytesCells, Array.getElem?_append]
            rw [if_pos (by simpa using hlt)]
            simp only [Array.getElem?_map]
            simp only [Array.getElem?_toList] at hb
            rw [hb]; rfl)
          simp only [List.map_map, List.length_map, Array.length_toList] at this
          refine .fz _ _ ?_
          exact this
        · cases hl
      · cases hl
    · cases hl
  · cases hl

theorem q_fieldAddr (hE : EnvOk P E) (h : HRel Z φ H w) {t : TypeId} {x v : V} {f : Nat} {a : Value} (hx : VRel Z φ H w x a) (hl : fieldAddrV E t x f = some v) : QOk P Z φ H w (Instr.fieldAt t a f) v := by
  unfold fieldAddrV at hl
  split at hl
  · rename_i fs sz by_ z ag ht
    split at hl
    · rename_i fd hfd
      split at hl
      · rename_i fi hfi
        split at hl
        · cases hl
        · rename_i hsz
          have hp : ∀ a : Addr, (Instr.fieldAt t (.pointer (some a)) f).run P w = .ok (.pointer (some (a.add fd.offset))) w := by
            intro a
            simp only [Instr.fieldAt, Sem.run_bind, tyK hE ht, Result.andThen, hfd, Instr.sureAddr, Sem.run_pure, fieldPlace, run_sizeOf' hE hfi, Sem.run_ite]
            rw [if_neg hsz]
          split at hl
          · rename_i b ver r j
            cases hl
            cases hx with
            | ptr _ _ _ _ _ hv hb hh =>
              obtain ⟨ad, rfl⟩ := hv
              refine .same h (hp ad) (.ptr _ _ _ _ _ ⟨_, rfl⟩ hb fun v0 fr wd rs hm => ?_)
              obtain ⟨h1, h2⟩ := hh v0 fr wd rs hm
              refine ⟨h1, fun he => ?_⟩
              obtain ⟨rr, o, h3, h4⟩ := h2 he
              cases h4
              exact ⟨rr, o, h3, by rw [add_none]; simp; omega⟩
          · rename_i cs j
            cases hl
            have hf := hx.fz_inv
            cases hf with
            | ptr _ _ r o g hr hg hh =>
              refine .same h (hp _) (.fz _ _ ?_)
              rw [add_none, Nat.add_assoc]
              exact .ptr cs (j + fd.offset) r o g hr hg hh
          · cases hl
      · cases hl
    · cases hl
  · cases hl

theorem q_indexAddr (hE : EnvOk P E) (h : HRel Z φ H w) {t : TypeId} {x ix v : V} {a c : Value} (hx : VRel Z φ H w x a) (hi : VRel Z φ H w ix c) (hl : indexAddrV E H t x ix = some v) : QOk P Z φ H w (Instr.indexAt t a c) v := by
  unfold indexAddrV at hl
  split at hl
  · rename_i k i e sz by_ z ag hix ht
    have hc := intOf_inv hix hi; subst hc
    split at hl
    · rename_i ei hei
      have hp : ∀ (ad : Addr) (n m : Nat), 0 ≤ i → i < n → (Instr.indexAt t (.slice (some ad) n m) (.int k i)).run P w = .ok (.pointer (some (ad.add (i.toNat * ei.size)))) w := by
        intro ad n m h0 h1
        simp only [Instr.indexAt, Sem.run_bind, asIntOf, Sem.run_pure, Result.andThen, tyK hE ht, run_sizeOf' hE hei, Sem.run_ite, h0, h1]
        simp
      split at hl
      · rename_i b ver lo len cl
        split at hl
        · rename_i fr wd rs hm
          have hm := memAt_some hm
          split at hl
          · rename_i hcond
            obtain ⟨h0, h1, rfl, h3⟩ := hcond
            cases hl
            cases hx with
            | own _ _ _ _ _ _ hv hb hh =>
              obtain ⟨r, o, ad, cap, hφ, rfl, q1, q2, q3, q4, q5⟩ := (hh ver fr ei.size rs hm).2 rfl
              have had := q3 (by omega)
              subst had
              refine .same h (hp _ _ _ h0 h1) (.ptr _ _ _ _ _ ⟨_, rfl⟩ hb fun v0 fr' wd' rs' hm' => ?_)
              rw [hm] at hm'; cases hm'
              refine ⟨Nat.le_refl _, fun _ => ⟨r, o, hφ, ?_⟩⟩
              rw [add_none, Nat.add_assoc, ← Nat.add_mul]; simp
          · cases hl
        · cases hl
      · rename_i wd rs
        split at hl
        · rename_i hcond
          obtain ⟨h0, h1, rfl⟩ := hcond
          simp only [Option.map_eq_some_iff] at hl
          obtain ⟨row, hrow, rfl⟩ := hl
          have hf := hx.fz_inv
          cases hf with
          | row _ _ ad cap r o g hcap had hwd hg hh =>
            have hne : rs ≠ [] := by rintro rfl; simp at hrow
            obtain ⟨rfl, hst⟩ := had hne
            refine .same h (hp _ _ _ h0 h1) (.fz _ _ ?_)
            rw [add_none]
            have := FRel.ptr (w := w) (st := stable Z φ H w) row 0 r (o + i.toNat * ei.size) (fun j => g i.toNat j) hst (fun j c hj => by rw [Nat.add_assoc]; exact hg _ j row c hrow hj) (fun j c hj => hh _ j row c hrow hj)
            simpa using this
        · cases hl
      · rename_i wd rs
        split at hl
        · rename_i hcond
          obtain ⟨h0, h1, rfl⟩ := hcond
          simp only [Option.map_eq_some_iff] at hl
          obtain ⟨row, hrow, rfl⟩ := hl
          cases hx with
          | cl _ _ ad hf =>
            generalize hgen : rs.length = n at hf
            cases hf with
            | row _ _ ad cap r o g hcap had hwd hg hh =>
              have hne : rs ≠ [] := by rintro rfl; simp at hrow
              obtain ⟨rfl, hst⟩ := had hne
              refine .same h (hp _ _ _ h0 h1) (.fz _ _ ?_)
              rw [add_none]
              have := FRel.ptr (w := w) (st := stable Z φ H w) row 0 r (o + i.toNat * ei.size) (fun j => g i.toNat j) hst (fun j c hj => by rw [Nat.add_assoc]; exact hg _ j row c hrow hj) (fun j c hj => hh _ j row c hrow hj)
              simpa using this
        · cases hl
      · cases hl
    · cases hl
  · rename_i k i n e sz by_ z ag hix ht
    have hc := intOf_inv hix hi; subst hc
    split at hl
    · rename_i ei hei
      split at hl
      · rename_i hcond
        obtain ⟨h0, h1⟩ := hcond
        have hp : ∀ ad : Addr, (Instr.indexAt t (.pointer (some ad)) (.int k i)).run P w = .ok (.pointer (some (ad.add (i.toNat * ei.size)))) w := by
          intro ad
          simp only [Instr.indexAt, Sem.run_bind, asIntOf, Sem.run_pure, Result.andThen, tyK hE ht, run_sizeOf' hE hei, Sem.run_ite, Instr.sureAddr, h0, h1]
          simp
        split at hl
        · rename_i b ver r j
          cases hl
          cases hx with
          | ptr _ _ _ _ _ hv hb hh =>
            obtain ⟨ad, rfl⟩ := hv
            refine .same h (hp ad) (.ptr _ _ _ _ _ ⟨_, rfl⟩ hb fun v0 fr wd rs hm => ?_)
            obtain ⟨h1, h2⟩ := hh v0 fr wd rs hm
            refine ⟨h1, fun he => ?_⟩
            obtain ⟨rr, o, h3, h4⟩ := h2 he
            cases h4
            exact ⟨rr, o, h3, by rw [add_none]; simp; omega⟩
        · rename_i cs j
          cases hl
          have hf := hx.fz_inv
          cases hf with
          | ptr _ _ r o g hr hg hh =>
            refine .same h (hp _) (.fz _ _ ?_)
            rw [add_none, Nat.add_assoc]
            exact .ptr cs _ r o g hr hg hh
        · cases hl
      · cases hl
    · cases hl
  · cases hl
end Go.Vm
/- The operations that leave memory as it is: slices, parts, lengths. -/
set_option linter.unusedVariables false
set_option linter.unusedSimpArgs false
set_option linter.unusedSectionVars false
namespace Go.Vm
variable [Valu]
variable {P : Program} {E : Env} {Z : Nat → Prop} {φ φ' : Phi} {H H' : Heap} {w w' : World}

/-- an operand that may be missing -/
def OptRel (Z : Nat → Prop) (φ : Phi) (H : Heap) (w : World) : Option V → Option Value → Prop
  | none, none => True
  | some v, some x => VRel Z φ H w v x
  | _, _ => False
theorem bound_inv {x : V} {a : Value} {n d : Nat} (h : boundOf (some x) d = some n) (hx : VRel Z φ H w x a) : ∃ k, a = .int k n := by
  unfold boundOf at h
  simp only at h
  split at h
  · rename_i k m hi
    split at h
    · rename_i h0
      cases h
      exact ⟨k, by rw [intOf_inv hi hx, Int.toNat_of_nonneg h0]⟩
    · cases h
  · cases h
theorem sliceBound_run (k : IntKind) (n y : Nat) (c : BoundsCode) (h : n ≤ y) : (Instr.sliceBound (.int k n) y c).run P w = .ok n w := by
  simp only [Instr.sliceBound, Sem.run_bind, asIntOf, Sem.run_pure, Result.andThen, Sem.run_ite]
  rw [if_pos ⟨Int.natCast_nonneg n, by exact_mod_cast h⟩]; simp
/-- the bounds of a slice expression -/
theorem sliceBounds_run {isS : Bool} {len cap : Nat} {lo hi mx : Option V} {lo' hi' mx' : Option Value} {l h m : Nat} (h1 : OptRel Z φ H w lo lo') (h2 : OptRel Z φ H w hi hi') (h3 : OptRel Z φ H w mx mx')
    (hlo : boundOf lo 0 = some l) (hhi : boundOf hi len = some h) (hm : (mx = none ∧ m = cap) ∨ (∃ v, mx = some v ∧ boundOf (some v) 0 = some m ∧ (hi = none → False))) (hlh : l ≤ h) (hhm : h ≤ m) (hmc : m ≤ cap) :
    (Instr.sliceBounds isS len cap lo' hi' mx').run P w = .ok (l, h, m) w := by
  have hL : (lo' = none ∧ l = 0) ∨ ∃ k, lo' = some (.int k l) := by
    cases lo with
    | none =>
      cases lo' with
      | none => simp only [boundOf, Option.some.injEq] at hlo; exact .inl ⟨rfl, hlo.symm⟩
      | some _ => exact absurd h1 (by simp [OptRel])
    | some v =>
      cases lo' with
      | none => exact absurd h1 (by simp [OptRel])
      | some x => obtain ⟨k, rfl⟩ := bound_inv hlo h1; exact .inr ⟨k, rfl⟩
  have hH : (hi = none ∧ hi' = none ∧ h = len) ∨ ∃ k, hi' = some (.int k h) := by
    cases hi with
    | none =>
      cases hi' with
      | none => simp only [boundOf, Option.some.injEq] at hhi; exact .inl ⟨rfl, rfl, hhi.symm⟩
      | some _ => exact absurd h2 (by simp [OptRel])
    | some v =>
      cases hi' with
      | none => exact absurd h2 (by simp [OptRel])
      | some x => obtain ⟨k, rfl⟩ := bound_inv (d := len) hhi h2; exact .inr ⟨k, rfl⟩
  have hM : (mx' = none ∧ m = cap) ∨ (hi ≠ none ∧ ∃ k, mx' = some (.int k m)) := by
    rcases hm with ⟨rfl, rfl⟩ | ⟨v, rfl, hb, hne⟩
    · cases mx' with
      | some _ => exact absurd h3 (by simp [OptRel])
      | none => exact .inl ⟨rfl, rfl⟩
    · cases mx' with
      | none => exact absurd h3 (by simp [OptRel])
      | some y => obtain ⟨k, rfl⟩ := bound_inv hb h3; exact .inr ⟨hne, k, rfl⟩
  have b1 : ∀ k c, (Instr.sliceBound (.int k m) cap c).run P w = .ok m w := fun k c => sliceBound_run k m cap c hmc
  have b2 : ∀ k c, (Instr.sliceBound (.int k h) m c).run P w = .ok h w := fun k c => sliceBound_run k h m c hhm
  have b3 : ∀ k c, (Instr.sliceBound (.int k l) h c).run P w = .ok l w := fun k c => sliceBound_run k l h c hlh
  rcases hM with ⟨rfl, rfl⟩ | ⟨hne, k3, rfl⟩ <;> rcases hH with ⟨hn, rfl, rfl⟩ | ⟨k2, rfl⟩ <;> rcases hL with ⟨rfl, rfl⟩ | ⟨k1, rfl⟩ <;>
    first
    | exact absurd hn hne
    | (simp only [Instr.sliceBounds, Sem.run_bind, Sem.run_pure, Result.andThen, b1, b2, b3])

theorem FRel.sub {st : Nat → Prop} {wd : Nat} {rs : List (List F)} {a : Addr} {n cap l h m : Nat} (hn : n = rs.length) (hf : FRel w st (.row wd rs) (.slice (some a) n cap)) (hlh : l ≤ h) (hh : h ≤ rs.length) (hhm : h ≤ m) :
    FRel w st (.row wd ((rs.drop l).take (h - l))) (.slice (some (if m = l then a else a.add (l * wd))) (h - l) (m - l)) := by
  subst hn
  generalize hgen : rs.length = n' at hf
  cases hf with
  | row _ _ _ _ r o g hcap had hwd hg hrel =>
    have hlen : ((rs.drop l).take (h - l)).length = h - l := by rw [List.length_take, List.length_drop]; omega
    have hget : ∀ (i : Nat) row, ((rs.drop l).take (h - l))[i]? = some row → rs[l + i]? = some row := by
      intro i row hi
      rw [List.getElem?_take] at hi
      split at hi
      · rwa [List.getElem?_drop] at hi
      · cases hi
    have := FRel.row (w := w) (st := st) wd ((rs.drop l).take (h - l)) (if m = l then a else a.add (l * wd)) (m - l) r (o + l * wd) (fun i j => g (l + i) j) (by rw [hlen]; omega)
      (fun hne => by
        have h1 : 0 < h - l := by
          rcases Nat.eq_zero_or_pos (h - l) with h0 | h0
          · rw [h0] at hne; simp at hne
          · exact h0
        obtain ⟨rfl, hst⟩ := had (by rintro rfl; simp at hh; omega)
        rw [if_neg (by omega), add_none]
        exact ⟨rfl, hst⟩)
      (fun row hrow => hwd row (List.mem_of_mem_drop (List.mem_of_mem_take hrow)))
      (fun i j row c h1 h2 => by
        have := hg (l + i) j row c (hget i row h1) h2
        rw [show o + l * wd + (i * wd + j) = o + ((l + i) * wd + j) by rw [Nat.add_mul]; omega]; exact this)
      (fun i j row c h1 h2 => hrel (l + i) j row c (hget i row h1) h2)
    rwa [hlen] at this

theorem q_slice (hE : EnvOk P E) (h : HRel Z φ H w) {t : TypeId} {x v : V} {lo hi mx : Option V} {a : Value} {lo' hi' mx' : Option Value} (hx : VRel Z φ H w x a) (h1 : OptRel Z φ H w lo lo') (h2 : OptRel Z φ H w hi hi') (h3 : OptRel Z φ H w mx mx')
    (hmx : mx.isSome = true → hi.isSome = true) (hl : sliceV E H t x lo hi mx = some v) : QOk P Z φ H w (Instr.sliceAt t a lo' hi' mx') v := by
  unfold sliceV at hl
  split at hl
  · rename_i ti len ht hlen
    split at hl
    · rename_i l hh hlo hhi
      split at hl
      · rename_i hcond
        obtain ⟨hlh, hhl⟩ := hcond
        split at hl
        · rename_i str hd
          split at hl
          · rename_i hmn
            cases hl
            have ha := hx.s_inv; subst ha
            simp only [lenV, Option.some.injEq] at hlen; subst hlen
            cases mx with
            | some _ => simp at hmn
            | none =>
              cases mx' with
              | some _ => exact absurd h3 (by simp [OptRel])
              | none =>
                refine .same h (x := .string (str.extract l hh)) ?_ (.s (.str _))
                simp only [Instr.sliceAt, Sem.run_bind, tyK hE ht, Result.andThen, hd, Instr.slice, S.val]
                simp only [Option.isSome_none, Bool.false_eq_true, if_false, Sem.run_pure]
                rw [Sem.run_bind, sliceBounds_run (m := str.size) h1 h2 h3 hlo hhi (.inl ⟨rfl, rfl⟩) hlh hhl (Nat.le_refl _)]
                rfl
          · cases hl
        · rename_i e hd
          split at hl
          · rename_i ei hei
            have hrun : ∀ (ao : Option Addr) (cap m : Nat), len ≤ cap → ((mx = none ∧ m = cap) ∨ (∃ v, mx = some v ∧ boundOf (some v) 0 = some m ∧ m = hh)) → (Instr.sliceAt t (.slice ao len cap) lo' hi' mx').run P w =
                .ok (.slice (if m = l then ao else ao.map (·.add (l * ei.size))) (hh - l) (m - l)) w := by
              intro ao cap m hc hm
              simp only [Instr.sliceAt, Sem.run_bind, tyK hE ht, Result.andThen, hd, Instr.slice]
              rw [sliceBounds_run (m := m) h1 h2 h3 hlo hhi ?_ hlh ?_ ?_]
              · simp only [run_sizeOf' hE hei, Sem.run_pure]
              · rcases hm with hm | ⟨v, hv, hb, _⟩
                · exact .inl hm
                · refine .inr ⟨v, hv, hb, fun hn => ?_⟩
                  subst hn; subst hv; simp at hmx
              · rcases hm with ⟨_, rfl⟩ | ⟨v, hv, hb, rfl⟩ <;> omega
              · rcases hm with ⟨_, rfl⟩ | ⟨v, hv, hb, rfl⟩ <;> omega
            -- which of both kinds
            have hfull : ∀ full, (match mx with
              | none => some false
              | some m => match boundOf (some m) 0 with | some m => if m = hh then some true else none | none => none) = some full → (full = false ∧ mx = none) ∨ (full = true ∧ ∃ v, mx = some v ∧ boundOf (some v) 0 = some hh) := by
              intro full hf
              split at hf
              · cases hf; exact .inl ⟨rfl, rfl⟩
              · split at hf
                · split at hf
                  · rename_i hb heq; subst heq; cases hf; exact .inr ⟨rfl, _, rfl, hb⟩
                  · cases hf
                · cases hf
            simp only at hl
            split at hl
            · rename_i full b ver lo0 len0 clip heq
              split at hl
              · rename_i fr wd rs hm
                have hm := memAt_some hm
                split at hl
                · rename_i hcond
                  obtain ⟨rfl, hle⟩ := hcond
                  cases hl
                  simp only [lenV, Option.some.injEq] at hlen; subst hlen
                  cases hx with
                  | own _ _ _ _ _ _ hv hb hhx =>
                    obtain ⟨r, o, ad, cap, hφ, rfl, q1, q2, q3, q4, q5⟩ := (hhx ver fr ei.size rs hm).2 rfl
                    obtain ⟨m, hmk, hm1, hm2, hm3⟩ : ∃ m, ((mx = none ∧ m = cap) ∨ (∃ v, mx = some v ∧ boundOf (some v) 0 = some m ∧ m = hh)) ∧ hh ≤ m ∧ m ≤ cap ∧ ((full || (clip && hh == len0)) = true → m = hh) := by
                      rcases hfull full heq with ⟨rfl, hn⟩ | ⟨rfl, v, hv, hb⟩
                      · refine ⟨cap, .inl ⟨hn, rfl⟩, by omega, Nat.le_refl _, fun hc => ?_⟩
                        simp at hc; have := q2 hc.1; omega
                      · exact ⟨hh, .inr ⟨v, hv, hb, rfl⟩, Nat.le_refl _, by omega, fun _ => rfl⟩
                    refine .same h (hrun _ cap m q1 hmk) ?_
                    have hsome : (if m = l then some ad else Option.map (fun x => x.add (l * ei.size)) (some ad)) = some (if m = l then ad else ad.add (l * ei.size)) := by split <;> rfl
                    rw [hsome]
                    refine .own _ _ _ _ _ _ ⟨_, _, rfl, by omega, fun hc => by have := hm3 hc; omega⟩ hb fun v0 fr' wd' rs' hm' => ?_
                    rw [hm] at hm'; cases hm'
                    refine ⟨Nat.le_refl _, fun _ => ⟨r, o, _, m - l, hφ, rfl, by omega, fun hc => by have := hm3 hc; omega, fun hne => ?_, by omega, ?_⟩⟩
                    · rw [if_neg (by omega), q3 (by omega), add_none, Nat.add_assoc, ← Nat.add_mul]
                    · have : (lo0 + l + (m - l)) * ei.size ≤ (lo0 + cap) * ei.size := Nat.mul_le_mul_right _ (by omega)
                      omega
                · cases hl
              · cases hl
            · rename_i wd rs heq
              rcases hfull _ heq with ⟨_, hn⟩ | ⟨hf, _⟩
              · split at hl
                · rename_i hw
                  subst hw; cases hl
                  simp only [lenV, Option.some.injEq] at hlen; subst hlen
                  have hf := hx.fz_inv
                  obtain ⟨ad, cap, hac, hcap⟩ : ∃ ad cap, a = .slice (some ad) rs.length cap ∧ rs.length ≤ cap := by cases hf with | row _ _ ad cap r o g hc => exact ⟨ad, cap, rfl, hc⟩
                  subst hac
                  refine .same h (hrun _ cap cap hcap (.inl ⟨hn, rfl⟩)) (.fz _ _ ?_)
                  have := FRel.sub (m := cap) rfl hf hlh hhl (by omega)
                  have hsome : ∀ (p : Prop) [Decidable p], (if p then some ad else Option.map (fun x => x.add (l * ei.size)) (some ad)) = some (if p then ad else ad.add (l * ei.size)) := by intro p _; split <;> rfl
                  rw [hsome]; exact this
                · cases hl
              · cases hf
            · rename_i wd rs heq
              rcases hfull _ heq with ⟨hf, _⟩ | ⟨_, v, hv, hb⟩
              · cases hf
              · split at hl
                · rename_i hw
                  subst hw; cases hl
                  simp only [lenV, Option.some.injEq] at hlen; subst hlen
                  have hf := hx.fz_inv
                  obtain ⟨ad, cap, hac, hcap⟩ : ∃ ad cap, a = .slice (some ad) rs.length cap ∧ rs.length ≤ cap := by cases hf with | row _ _ ad cap r o g hc => exact ⟨ad, cap, rfl, hc⟩
                  subst hac
                  have hsub := FRel.sub (m := hh) rfl hf hlh hhl (Nat.le_refl _)
                  have hlen' : ((rs.drop l).take (hh - l)).length = hh - l := by rw [List.length_take, List.length_drop]; omega
                  refine .same h (x := .slice (some (if hh = l then ad else ad.add (l * ei.size))) (hh - l) (hh - l)) ?_ ?_
                  · rw [hrun _ cap hh hcap (.inr ⟨v, hv, hb, rfl⟩)]
                    congr 2; split <;> rfl
                  · have := VRel.cl (Z := Z) (φ := φ) (H := H) (w := w) ei.size ((rs.drop l).take (hh - l)) (if hh = l then ad else ad.add (l * ei.size)) (by rw [hlen']; exact hsub)
                    rwa [hlen'] at this
                · cases hl
            · rename_i full wd rs heq
              split at hl
              · rename_i hw
                obtain ⟨rfl, hfh⟩ := hw
                cases hl
                simp only [lenV, Option.some.injEq] at hlen; subst hlen
                cases hx with
                | cl _ _ ad hf =>
                  obtain ⟨m, hmk, hm1⟩ : ∃ m, ((mx = none ∧ m = rs.length) ∨ (∃ v, mx = some v ∧ boundOf (some v) 0 = some m ∧ m = hh)) ∧ m = hh := by
                    rcases hfull full heq with ⟨rfl, hn⟩ | ⟨rfl, v, hv, hb⟩
                    · exact ⟨rs.length, .inl ⟨hn, rfl⟩, by rcases hfh with h | h; exact absurd h (by simp); exact h.symm⟩
                    · exact ⟨hh, .inr ⟨v, hv, hb, rfl⟩, rfl⟩
                  subst hm1
                  have hsub := FRel.sub (m := m) rfl hf hlh hhl (Nat.le_refl _)
                  have hlen' : ((rs.drop l).take (m - l)).length = m - l := by rw [List.length_take, List.length_drop]; omega
                  refine .same h (x := .slice (some (if m = l then ad else ad.add (l * ei.size))) (m - l) (m - l)) ?_ ?_
                  · rw [hrun _ rs.length m (Nat.le_refl _) hmk]
                    congr 2; split <;> rfl
                  · have := VRel.cl (Z := Z) (φ := φ) (H := H) (w := w) ei.size ((rs.drop l).take (m - l)) (if m = l then ad else ad.add (l * ei.size)) (by rw [hlen']; exact hsub)
                    rwa [hlen'] at this
              · cases hl
            · rename_i full heq
              cases hl
              have ha := hx.s_inv; subst ha
              simp only [lenV, Option.some.injEq] at hlen; subst hlen
              obtain ⟨m, hmk, hm0⟩ : ∃ m, ((mx = none ∧ m = 0) ∨ (∃ v, mx = some v ∧ boundOf (some v) 0 = some m ∧ m = hh)) ∧ m = 0 := by
                rcases hfull full heq with ⟨rfl, hn⟩ | ⟨rfl, v, hv, hb⟩
                · exact ⟨0, .inl ⟨hn, rfl⟩, rfl⟩
                · exact ⟨hh, .inr ⟨v, hv, hb, rfl⟩, by omega⟩
              subst hm0
              have hl0 : l = 0 := by omega
              have hh0 : hh = 0 := by omega
              subst hl0 hh0
              refine .same h (x := .slice none 0 0) ?_ (.s .nslice)
              have := hrun none 0 0 (Nat.le_refl _) hmk
              simpa [S.val] using this
            · cases hl
          · cases hl
        · cases hl
      · cases hl
    · cases hl
  · cases hl

theorem part_rel (hE : EnvOk P E) {t : TypeId} {i : TyI} (ht : E.ty t = some i) {l : List V} {vs : Array Value} (hl : LRel Z φ H w l vs.toList) {off : Nat} {v : V}
    (hv : (if i.isAgg then (if off + i.size ≤ l.length then some (mkAgg ((l.drop off).take i.size)) else none) else l[off]?) = some v) :
    ∃ x, (part t vs off).run P w = .ok x w ∧ VRel Z φ H w v x := by
  cases ha : i.isAgg with
  | true =>
    rw [ha] at hv
    simp only [if_true] at hv
    split at hv
    · cases hv
      have h2 := ((hl.drop off).take i.size)
      refine ⟨.agg (vs.extract off (off + i.size)), ?_, ?_⟩
      · simp only [part, Sem.run_bind, run_isAgg hE ht, ha, Result.andThen, if_true, run_sizeOf' hE ht, Sem.run_pure]
      · have := mkAgg_rel h2
        have he : ((vs.toList.drop off).take i.size).toArray = vs.extract off (off + i.size) := by
          apply Array.ext'
          simp [Array.toList_extract, List.extract]
        rwa [he] at this
    · cases hv
  | false =>
    rw [ha] at hv
    simp only [Bool.false_eq_true, if_false] at hv
    obtain ⟨x, hx, hr⟩ := hl.get hv
    simp only [Array.getElem?_toList] at hx
    exact ⟨x, by simp only [part, Sem.run_bind, run_isAgg hE ht, ha, Result.andThen, Bool.false_eq_true, if_false, hx, Sem.run_pure], hr⟩

theorem q_field (hE : EnvOk P E) (h : HRel Z φ H w) {t : TypeId} {x v : V} {f : Nat} {a : Value} (hx : VRel Z φ H w x a) (hl : fieldV E t x f = some v) : QOk P Z φ H w (Instr.field t a f) v := by
  unfold fieldV at hl
  split at hl
  · rename_i fs sz by_ z ag cs ht
    have hf := hx.fz_inv
    cases hf with
    | agg _ vs hlen hh =>
      have hL : LRel Z φ H w (cs.map V.fz) vs.toList := LRel.fz_map (by simpa using hlen) fun i c v h1 h2 => hh i c v h1 (by simpa using h2)
      split at hl
      · rename_i fd hfd
        split at hl
        · rename_i fi hfi
          have hv : (if fi.isAgg then (if fd.offset + fi.size ≤ (cs.map V.fz).length then some (mkAgg (((cs.map V.fz).drop fd.offset).take fi.size)) else none) else (cs.map V.fz)[fd.offset]?) = some v := by
            split at hl
            · rename_i ha
              rw [if_pos ha]
              split at hl
              · rename_i hle
                cases hl
                rw [if_pos (by simpa using hle)]
                congr 1
                unfold mkAgg
                have : ∀ l : List F, unfz (l.map V.fz) = some l := by
                  intro l; induction l with
                  | nil => rfl
                  | cons x l ih => simp [unfz, ih]
                rw [← List.map_drop, ← List.map_take, this]
              · cases hl
            · rename_i ha
              rw [if_neg ha]
              simpa using hl
          obtain ⟨y, hr, hy⟩ := part_rel (P := P) hE hfi hL hv
          exact .same h (by simp only [Instr.field, Sem.run_bind, tyK hE ht, Result.andThen, hfd, asAgg, Sem.run_pure, hr]) hy
        · cases hl
      · cases hl
  · rename_i fs sz by_ z ag cs ht
    cases hx with
    | agg _ vs hlen hh =>
      have hL : LRel Z φ H w cs vs.toList := ⟨by simpa using hlen, fun i c v h1 h2 => hh i c v h1 (by simpa using h2)⟩
      split at hl
      · rename_i fd hfd
        split at hl
        · rename_i fi hfi
          obtain ⟨y, hr, hy⟩ := part_rel (P := P) hE hfi hL hl
          exact .same h (by simp only [Instr.field, Sem.run_bind, tyK hE ht, Result.andThen, hfd, asAgg, Sem.run_pure, hr]) hy
        · cases hl
      · cases hl
  · cases hl

theorem q_index (hE : EnvOk P E) (h : HRel Z φ H w) {t : TypeId} {x ix v : V} {a c : Value} (hx : VRel Z φ H w x a) (hi : VRel Z φ H w ix c) (hl : indexV E t x ix = some v) : QOk P Z φ H w (Instr.index t a c) v := by
  unfold indexV at hl
  split at hl
  · rename_i sz by_ z ag str k i ht hix
    have hc := intOf_inv hix hi; subst hc
    have ha := hx.s_inv; subst ha
    split at hl
    · rename_i h0
      simp only [Option.map_eq_some_iff] at hl
      obtain ⟨b, hb, rfl⟩ := hl
      refine .same h (x := .int .u8 b.toNat) ?_ (.s _)
      simp only [Instr.index, Sem.run_bind, asIntOf, Sem.run_pure, Result.andThen, tyK hE ht, S.val, if_pos h0, hb]
    · cases hl
  · rename_i n e sz by_ z ag cs k i ht hix
    have hc := intOf_inv hix hi; subst hc
    have hf := hx.fz_inv
    cases hf with
    | agg _ vs hlen hh =>
      split at hl
      · rename_i ei hei
        split at hl
        · rename_i hcond
          split at hl
          · cases hl
          · rename_i ha
            have hL : LRel Z φ H w (cs.map V.fz) vs.toList := LRel.fz_map (by simpa using hlen) fun i c v h1 h2 => hh i c v h1 (by simpa using h2)
            obtain ⟨y, hr, hy⟩ := part_rel (P := P) (off := i.toNat * ei.size) (v := v) hE hei hL (by rw [if_neg ha]; simpa using hl)
            refine .same h ?_ hy
            simp only [Instr.index, Sem.run_bind, asIntOf, Sem.run_pure, Result.andThen, tyK hE ht, Sem.run_ite, if_pos hcond, run_sizeOf' hE hei, hr]
        · cases hl
      · cases hl
  · cases hl
end Go.Vm
