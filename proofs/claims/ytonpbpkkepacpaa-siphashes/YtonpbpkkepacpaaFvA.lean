/-
  AN EVALUATOR OVER ABSTRACT, TYPED STATES. It runs a loaded function's code on values of Lean's own types (whole numbers, Booles, texts, lists, pairs),
  slices as lists, variables and maps as numbered blocks. It is written with continuations, so that the kernel can run it with variables in the data.
  That it is sound over the model stands in the texts behind it. No project text.
-/
import Derived.WalkKit
set_option linter.all false
namespace Go.Ev

/-- Kinds of data. 'opq': one cell of which nothing is said. -/
inductive Kind where
  | int (k : IntKind) | bool | str | opq | unit
  | pair (a b : Kind) | arr (n : Nat) (e : Kind) | sl (e : Kind)
  deriving DecidableEq

@[reducible] def Kind.den : Kind → Type
  | .int _ => Int
  | .bool => Bool
  | .str => ByteArray
  | .opq => Unit
  | .unit => Unit
  | .pair a b => a.den × b.den
  | .arr _ e => List e.den
  | .sl e => List e.den

def Kind.zero : (K : Kind) → K.den
  | .int _ => (0 : Int)
  | .bool => false
  | .str => ByteArray.empty
  | .opq => ()
  | .unit => ()
  | .pair a b => (a.zero, b.zero)
  | .arr n e => List.replicate n e.zero
  | .sl _ => []

/-- How many cells. -/
def Kind.size : Kind → Nat
  | .int _ | .bool | .str | .opq | .sl _ => 1
  | .unit => 0
  | .pair a b => a.size + b.size
  | .arr n e => n * e.size

def Kind.isAgg : Kind → Bool
  | .pair _ _ | .arr _ _ | .unit => true
  | _ => false

def Kind.hasSl : Kind → Bool
  | .sl _ => true
  | .pair a b => a.hasSl || b.hasSl
  | .arr _ e => e.hasSl
  | _ => false

/-- No slices, no cells that nothing is said of. -/
def Kind.flat : Kind → Bool
  | .int _ | .bool | .str | .unit => true
  | .pair a b => a.flat && b.flat
  | .arr _ e => e.flat
  | _ => false

def Kind.dec : (K : Kind) → DecidableEq K.den
  | .int _ => inferInstanceAs (DecidableEq Int)
  | .bool => inferInstanceAs (DecidableEq Bool)
  | .str => inferInstanceAs (DecidableEq ByteArray)
  | .opq => inferInstanceAs (DecidableEq Unit)
  | .unit => inferInstanceAs (DecidableEq Unit)
  | .pair a b => @instDecidableEqProd _ _ a.dec b.dec
  | .arr _ e => @instDecidableEqList _ e.dec
  | .sl e => @instDecidableEqList _ e.dec

inductive Hop where
  | fld (i : Nat)
  | idx (i : Nat)

/-- What a slot holds. 'any': nothing is known. 'p': data. 'pr': a pair of which a part is no data. 'row', 'sub': a slice of a row of our own, and a part of it. 'ptr': into a block. 'vp': the address of data that nobody writes. 'slc': a part of an array variable. -/
inductive AV where
  | any
  | p (K : Kind) (x : K.den)
  | pr (a b : AV)
  | row (id : Nat)
  | sub (id lo len : Nat)
  | ptr (id : Nat) (path : List Hop)
  | vp (K : Kind) (x : K.den)
  | slc (id : Nat) (path : List Hop) (lo len : Nat)
  | mp (id : Nat)
  | nilp
  | tup (vs : List AV)

inductive Blk where
  | var (t : TypeId) (K : Kind) (v : AV)
  | row (t : TypeId) (K : Kind) (xs : List K.den)
  | map (KK KV : Kind) (es : List (KK.den × KV.den))
  | gone
  | free

def Blk.there : Blk → Bool
  | .free => false
  | _ => true

structure St where
  tm : List AV
  hp : List Blk
  m : Nat

inductive TD where
  | prim
  | slice (e : TypeId)
  | array (n : Nat) (e : TypeId)
  | struct (fs : List TypeId)
  | map (k v : TypeId)
  | ptr (e : TypeId)
  | other

def TD.agg : TD → Bool
  | .array _ _ | .struct _ => true
  | _ => false

/-- 'cmp': values of the type may be held against each other by '==', or be a map's keys. -/
structure TI where
  K : Kind
  d : TD
  bytes : Nat
  cmp : Bool

inductive RMode where
  | pure
  | own

/-- A function: which arguments it may write to ('own'; the others are handed over as data); what it does with its arguments and with the blocks that they lead to: what it hands back, and the blocks then (those that were handed over first). -/
structure Entry (A : Type) where
  own : List Bool
  run : List AV → List Blk → (AV → List Blk → Option A) → Option A

inductive Ex where
  | normal
  | exit (id : Nat)
  | ret

/-- A loop's own function: the slots that it does without; what it does with the state at its head. -/
structure Loop (A : Type) where
  dead : List Nat
  run : St → (Ex → St → Option A) → Option A

/-- What package-level variables hold that nobody writes. -/
abbrev GL := List (Nat × ((K : Kind) × K.den))
def glv (gl : GL) (g : Nat) : AV := match gl.lookup g with
  | some q => .vp q.1 q.2
  | none => .any

structure Env (A : Type) where
  ty : List (TypeId × TI)
  gl : GL
  fns : List (FuncId × Entry A)
  lps : List (Nat × Loop A)

variable {A : Type}

def Env.ti (E : Env A) (t : TypeId) (k : TI → Option A) : Option A :=
  match E.ty.lookup t with
  | some i => k i
  | none => none

-- ------------------------------------------------------------ parts of data

def mkPair : AV → AV → AV
  | .p a x, .p b y => .p (.pair a b) (x, y)
  | a, b => .pr a b

def AV.isAny : AV → Bool
  | .any => true
  | _ => false

def AV.isTup : AV → Bool
  | .tup _ => true
  | _ => false

/-- Has it the form of that kind? -/
def AV.fits : AV → Kind → Bool
  | .p K' _, K => decide (K' = K)
  | .pr a b, .pair x y => a.fits x && b.fits y
  | .row _, .sl _ | .sub _ _ _, .sl _ | .slc _ _ _ _, .sl _ | .any, .sl _ => true
  | .ptr _ _, .opq | .vp _ _, .opq | .mp _, .opq | .nilp, .opq | .any, .opq => true
  | _, _ => false

def getK : (K : Kind) → List Hop → K.den → (AV → Option A) → Option A
  | .pair a b => fun path (x : a.den × b.den) k => match path with
    | [] => k (.p (.pair a b) x)
    | .fld 0 :: r => getK a r x.1 k
    | .fld (n + 1) :: r => getK b (.fld n :: r) x.2 k
    | _ => none
  | .arr n e => fun path (l : List e.den) k => match path with
    | [] => k (.p (.arr n e) l)
    | .idx i :: r => (l[i]?).bind fun x => getK e r x k
    | _ => none
  | .int q => fun path x k => match path with | [] => k (.p (.int q) x) | _ => none
  | .bool => fun path x k => match path with | [] => k (.p .bool x) | _ => none
  | .str => fun path x k => match path with | [] => k (.p .str x) | _ => none
  | .opq => fun path x k => match path with | [] => k (.p .opq x) | _ => none
  | .unit => fun path x k => match path with | [] => k (.p .unit x) | _ => none
  | .sl e => fun path x k => match path with | [] => k (.p (.sl e) x) | _ => none

/-- The kind of a part. -/
def kat : Kind → List Hop → Option Kind
  | .pair a b => fun path => match path with
    | [] => some (.pair a b)
    | .fld 0 :: r => kat a r
    | .fld (n + 1) :: r => kat b (.fld n :: r)
    | _ => none
  | .arr n e => fun path => match path with
    | [] => some (.arr n e)
    | .idx _ :: r => kat e r
    | _ => none
  | .int q => fun path => match path with | [] => some (.int q) | _ => none
  | .bool => fun path => match path with | [] => some .bool | _ => none
  | .str => fun path => match path with | [] => some .str | _ => none
  | .opq => fun path => match path with | [] => some .opq | _ => none
  | .unit => fun path => match path with | [] => some .unit | _ => none
  | .sl e => fun path => match path with | [] => some (.sl e) | _ => none

def getV : AV → List Hop → (AV → Option A) → Option A
  | .p K x, path, k => getK K path x k
  | .pr a b, path, k => match path with
    | [] => k (.pr a b)
    | .fld 0 :: r => getV a r k
    | .fld (n + 1) :: r => getV b (.fld n :: r) k
    | _ => none
  | v, path, k => match path with | [] => k v | _ => none

/-- An element written into a list of data. -/
def setIn (n : Nat) (e : Kind) (l : List e.den) (i : Nat) (v : AV) (k : List e.den → Option A) : Option A :=
  match v with
  | .p e' z => if h : e' = e then (if i < n then k (l.set i (h ▸ z)) else none) else none
  | _ => none

def setK : (K : Kind) → List Hop → K.den → AV → (AV → Option A) → Option A
  | .pair a b => fun path (x : a.den × b.den) v k => match path with
    | [] => if v.fits (.pair a b) then k v else none
    | .fld 0 :: r => setK a r x.1 v fun y => k (mkPair y (.p b x.2))
    | .fld (n + 1) :: r => setK b (.fld n :: r) x.2 v fun y => k (mkPair (.p a x.1) y)
    | _ => none
  | .arr n e => fun path (l : List e.den) v k => match path with
    | [] => if v.fits (.arr n e) then k v else none
    | [.idx i] => setIn n e l i v fun l' => k (.p (.arr n e) l')
    | .idx i :: h :: r => (l[i]?).bind fun x => setK e (h :: r) x v fun y => setIn n e l i y fun l' => k (.p (.arr n e) l')
    | _ => none
  | .int q => fun path _ v k => match path with | [] => if v.fits (.int q) then k v else none | _ => none
  | .bool => fun path _ v k => match path with | [] => if v.fits .bool then k v else none | _ => none
  | .str => fun path _ v k => match path with | [] => if v.fits .str then k v else none | _ => none
  | .opq => fun path _ v k => match path with | [] => if v.fits .opq then k v else none | _ => none
  | .unit => fun path _ v k => match path with | [] => if v.fits .unit then k v else none | _ => none
  | .sl e => fun path _ v k => match path with | [] => if v.fits (.sl e) then k v else none | _ => none

/-- 'K': the kind of the whole. -/
def setV : AV → Kind → List Hop → AV → (AV → Option A) → Option A
  | .p K x, _, path, v, k => setK K path x v k
  | .pr a b, K, path, v, k => match K, path with
    | K, [] => if v.fits K then k v else none
    | .pair x _, .fld 0 :: r => setV a x r v fun y => k (mkPair y b)
    | .pair _ x, .fld (n + 1) :: r => setV b x (.fld n :: r) v fun y => k (mkPair a y)
    | _, _ => none
  | _, K, path, v, k => match path with | [] => if v.fits K then k v else none | _ => none

-- ------------------------------------------------------------ numbers

def iand (k : IntKind) (a b : Int) : Int := k.wrap (BitVec.ofInt k.bits a &&& BitVec.ofInt k.bits b).toNat
def ior (k : IntKind) (a b : Int) : Int := k.wrap (BitVec.ofInt k.bits a ||| BitVec.ofInt k.bits b).toNat
def ixor (k : IntKind) (a b : Int) : Int := k.wrap (BitVec.ofInt k.bits a ^^^ BitVec.ofInt k.bits b).toNat
def iandNot (k : IntKind) (a b : Int) : Int := k.wrap (BitVec.ofInt k.bits a &&& ~~~BitVec.ofInt k.bits b).toNat
def shl (k : IntKind) (x y : Int) : Int := k.wrap (x * 2 ^ (min y.toNat k.bits))
def shr (k : IntKind) (x y : Int) : Int := x.fdiv (2 ^ (min y.toNat k.bits))
def imin (x y : Int) : Int := if y < x then y else x
def imax (x y : Int) : Int := if y > x then y else x

def intOp (op : BinOp) (k : IntKind) (a b : Int) (c : AV → Option A) : Option A :=
  match op with
  | .add => c (.p (.int k) (k.wrap (a + b)))
  | .sub => c (.p (.int k) (k.wrap (a - b)))
  | .mul => c (.p (.int k) (k.wrap (a * b)))
  | .quo => if b = 0 then none else c (.p (.int k) (k.wrap (a.tdiv b)))
  | .rem => if b = 0 then none else c (.p (.int k) (a.tmod b))
  | .and => c (.p (.int k) (iand k a b))
  | .or => c (.p (.int k) (ior k a b))
  | .xor => c (.p (.int k) (ixor k a b))
  | .andNot => c (.p (.int k) (iandNot k a b))
  | .eql => c (.p .bool (a == b))
  | .neq => c (.p .bool (a != b))
  | .lss => c (.p .bool (decide (a < b)))
  | .leq => c (.p .bool (decide (a ≤ b)))
  | .gtr => c (.p .bool (decide (a > b)))
  | .geq => c (.p .bool (decide (a ≥ b)))
  | _ => none

def strOp (op : BinOp) (a b : ByteArray) (c : AV → Option A) : Option A :=
  match op with
  | .add => if a.size + b.size ≤ 9223372036854775807 then c (.p .str (a ++ b)) else none
  | .eql => c (.p .bool (a.toList == b.toList))
  | .neq => c (.p .bool (!(a.toList == b.toList)))
  | _ => none

def binK (E : Env A) (op : BinOp) (t : TypeId) (x y : AV) (c : AV → Option A) : Option A :=
  match x, y with
  | .p K x, .p K' y =>
    match K, x, K', y with
    | .int k, x, .int k', y =>
      match op with
      | .shl => if y < 0 then none else c (.p (.int k) (shl k x y))
      | .shr => if y < 0 then none else c (.p (.int k) (shr k x y))
      | op => if k = k' then intOp op k x y c else none
    | .str, x, .str, y => strOp op x y c
    | K, x, K', y =>
      if h : K' = K then E.ti t fun i => if i.cmp && decide (i.K = K) then
        match op with
        | .eql => c (.p .bool (@decide (x = h ▸ y) (K.dec x (h ▸ y))))
        | .neq => c (.p .bool (!(@decide (x = h ▸ y) (K.dec x (h ▸ y)))))
        | _ => none
        else none
      else none
  | _, _ => none

def unK (op : UnOp) (x : AV) (c : AV → Option A) : Option A :=
  match op, x with
  | .not, .p .bool b => c (.p .bool !b)
  | .neg, .p (.int k) n => c (.p (.int k) (k.wrap (0 - n)))
  | .xor, .p (.int k) n => c (.p (.int k) (ixor k (if k.signed then -1 else k.max) n))
  | _, _ => none

/-- A text out of bytes; a text's bytes; a byte of a text. -/
def mkStr (l : List Int) : ByteArray := ⟨(l.map fun n => UInt8.ofNat n.toNat).toArray⟩
def strBytes (s : ByteArray) : List Int := s.data.toList.map fun b => (b.toNat : Int)

-- ------------------------------------------------------------ blocks

def look (sub : List (Nat × Blk)) (id : Nat) (k : Blk → Option A) : Option A :=
  match sub.lookup id with
  | some b => k b
  | none => none

def AV.ids : AV → List Nat
  | .row id | .sub id _ _ | .ptr id _ | .slc id _ _ _ | .mp id => [id]
  | .pr a b => a.ids ++ b.ids
  | _ => []

def Blk.ids : Blk → List Nat
  | .var _ _ v => v.ids
  | _ => []

def AV.ren1 (f : Nat → Option Nat) : AV → AV
  | .row id => match f id with | some i => .row i | none => .any
  | .sub id a b => match f id with | some i => .sub i a b | none => .any
  | .ptr id q => match f id with | some i => .ptr i q | none => .any
  | .slc id q a b => match f id with | some i => .slc i q a b | none => .any
  | .mp id => match f id with | some i => .mp i | none => .any
  | .pr a b => .pr (a.ren1 f) (b.ren1 f)
  | v => v

def AV.ren (f : Nat → Option Nat) : AV → AV
  | .tup vs => .tup (vs.map fun v => v.ren1 f)
  | v => v.ren1 f

def Blk.ren (f : Nat → Option Nat) : Blk → Blk
  | .var t K v => .var t K (v.ren f)
  | b => b

/-- The kind of what an address leads to. -/
def kindAt (sub : List (Nat × Blk)) (id : Nat) (path : List Hop) (k : Kind → Option A) : Option A :=
  look sub id fun
  | .var _ K _ => match kat K path with | some K' => k K' | none => none
  | .row _ K _ => match path with
    | .idx _ :: r => match kat K r with | some K' => k K' | none => none
    | _ => none
  | _ => none

/-- A slice as a list. -/
def listK (sub : List (Nat × Blk)) (v : AV) (k : (K : Kind) → List K.den → Option A) : Option A :=
  match v with
  | .p (.sl K) xs => k K xs
  | .row id => look sub id fun | .row _ K xs => k K xs | _ => none
  | .sub id lo len => look sub id fun | .row _ K xs => k K ((xs.drop lo).take len) | _ => none
  | .slc id path lo len => look sub id fun
    | .var _ _ v => getV v path fun | .p (.arr _ e) l => k e ((l.drop lo).take len) | _ => none
    | _ => none
  | _ => none

/-- As data: what it leads to is read. -/
def pureK (sub : List (Nat × Blk)) : AV → (AV → Option A) → Option A
  | .p K x, k => k (.p K x)
  | .pr a b, k => pureK sub a fun a' => pureK sub b fun b' => match a', b' with
    | .p K x, .p K' y => k (.p (.pair K K') (x, y))
    | _, _ => none
  | .row id, k => listK sub (.row id) fun K xs => k (.p (.sl K) xs)
  | .sub id a b, k => listK sub (.sub id a b) fun K xs => k (.p (.sl K) xs)
  | .slc id q a b, k => listK sub (.slc id q a b) fun K xs => k (.p (.sl K) xs)
  | _, _ => none

-- ------------------------------------------------------------ maps

def mget (K : Kind) {V : Type} : List (K.den × V) → K.den → Option V
  | [], _ => none
  | e :: r, x => if @decide (e.1 = x) (K.dec e.1 x) then some e.2 else mget K r x
def mset (K : Kind) {V : Type} : List (K.den × V) → K.den → V → List (K.den × V)
  | [], x, v => [(x, v)]
  | e :: r, x, v => if @decide (e.1 = x) (K.dec e.1 x) then (x, v) :: r else e :: mset K r x v
def mdel (K : Kind) {V : Type} : List (K.den × V) → K.den → List (K.den × V)
  | [], _ => []
  | e :: r, x => if @decide (e.1 = x) (K.dec e.1 x) then r else e :: mdel K r x

-- ------------------------------------------------------------ operations

def ofValue : Value → AV
  | .int k n => .p (.int k) n
  | .bool b => .p .bool b
  | .string s => .p .str s
  | .pointer none => .nilp
  | _ => .any

abbrev Cont (A : Type) := AV → List (Nat × Blk) → Option A

/-- A value into a slot: a nil slice is a row of our own, with nothing in it. -/
def moveK (E : Env A) (t : TypeId) (ev : Operand → AV) (x : Operand) (fresh : Nat) (k : Cont A) : Option A :=
  match x with
  | .const (.slice none 0 0) => E.ti t fun i => match i.d with
    | .slice e => E.ti e fun j => k (.row fresh) [(fresh, .row e j.K [])]
    | _ => none
  | x => k (ev x) []

def hopOf : Kind → Nat → Hop
  | .arr _ _, i => .idx i
  | _, i => .fld i

/-- Parts laid into a value. -/
def fillK (K : Kind) : List (Nat × AV) → AV → (AV → Option A) → Option A
  | [], v, k => k v
  | (i, x) :: r, v, k => if x.isAny || x.isTup then none else setV v K [hopOf K i] x fun v' => fillK K r v' k

def fillRow (n : Nat) (e : Kind) : List (Nat × AV) → List e.den → (List e.den → Option A) → Option A
  | [], l, k => k l
  | (i, x) :: r, l, k => setIn n e l i x fun l' => fillRow n e r l' k

def asInt (v : AV) (k : Int → Option A) : Option A :=
  match v with
  | .p (.int _) n => k n
  | _ => none

def indexAddrK (E : Env A) (sub : List (Nat × Blk)) (t : TypeId) (x ix : AV) (k : AV → Option A) : Option A :=
  asInt ix fun i => if 0 ≤ i then E.ti t fun ti =>
    match ti.d with
    | .array n _ => if i < (n : Int) then
        match x with
        | .ptr id path => kindAt sub id path fun K => if K = ti.K then k (.ptr id (path ++ [.idx i.toNat])) else none
        | .vp (.arr n' e) l => if .arr n' e = ti.K then (l[i.toNat]?).bind fun y => k (.vp e y) else none
        | _ => none
      else none
    | .slice _ =>
      match x with
      | .p (.sl K) xs => if .sl K = ti.K then (xs[i.toNat]?).bind fun y => k (.vp K y) else none
      | .row id => look sub id fun
        | .row _ K xs => if .sl K = ti.K then (if i < (xs.length : Int) then k (.ptr id [.idx i.toNat]) else none) else none
        | _ => none
      | .sub id lo len => look sub id fun
        | .row _ K _ => if .sl K = ti.K then (if i < (len : Int) then k (.ptr id [.idx (lo + i.toNat)]) else none) else none
        | _ => none
      | .slc id path lo len => look sub id fun
        | .var _ K _ => match kat K path with
          | some (.arr _ e) => if .sl e = ti.K then (if i < (len : Int) then k (.ptr id (path ++ [.idx (lo + i.toNat)])) else none) else none
          | _ => none
        | _ => none
      | _ => none
    | _ => none
  else none

def fieldAddrK (E : Env A) (sub : List (Nat × Blk)) (t : TypeId) (x : AV) (f : Nat) (k : AV → Option A) : Option A :=
  E.ti t fun ti => match ti.d with
  | .struct ts => if f < ts.length then
      match x with
      | .ptr id path => kindAt sub id path fun K => if K = ti.K then k (.ptr id (path ++ [.fld f])) else none
      | .vp K y => if K = ti.K then getK K [.fld f] y fun | .p K' y' => k (.vp K' y') | _ => none else none
      | _ => none
    else none
  | _ => none

def fieldK (E : Env A) (t : TypeId) (x : AV) (f : Nat) (k : AV → Option A) : Option A :=
  E.ti t fun ti => match ti.d with
  | .struct ts => if f < ts.length then (if x.isAny then none else if x.fits ti.K then getV x [.fld f] k else none) else none
  | _ => none

def loadK (sub : List (Nat × Blk)) (a : AV) (k : AV → Option A) : Option A :=
  match a with
  | .vp K x => k (.p K x)
  | .ptr id path => look sub id fun
    | .var _ _ v => getV v path k
    | .row _ K xs => match path with
      | .idx i :: r => (xs[i]?).bind fun y => getK K r y k
      | _ => none
    | _ => none
  | _ => none

def storeK (sub : List (Nat × Blk)) (a v : AV) (k : List (Nat × Blk) → Option A) : Option A :=
  match a with
  | .ptr id path => look sub id fun
    | .var t K old => setV old K path v fun new => k [(id, .var t K new)]
    | .row t K xs => match path with
      | [.idx i] => setIn xs.length K xs i v fun xs' => k [(id, .row t K xs')]
      | .idx i :: h :: r => (xs[i]?).bind fun y => setK K (h :: r) y v fun y' => setIn xs.length K xs i y' fun xs' => k [(id, .row t K xs')]
      | _ => none
    | _ => none
  | _ => none

/-- Bounds of x[lo:hi], as numbers. -/
def lowK (lo : Option AV) (h : Nat) (k : Nat → Option A) : Option A :=
  match lo with
  | none => k 0
  | some v => asInt v fun l => if 0 ≤ l then (if l ≤ (h : Int) then k l.toNat else none) else none
def boundsK (len : Nat) (lo hi : Option AV) (k : Nat → Nat → Option A) : Option A :=
  match hi with
  | none => lowK lo len fun l => k l len
  | some v => asInt v fun h => if 0 ≤ h then (if h ≤ (len : Int) then lowK lo h.toNat fun l => k l h.toNat else none) else none

def sliceK (E : Env A) (sub : List (Nat × Blk)) (t : TypeId) (x : AV) (lo hi : Option AV) (k : AV → Option A) : Option A :=
  E.ti t fun ti => match ti.d with
  | .slice _ =>
    match x with
    | .p (.sl K) xs => if .sl K = ti.K then boundsK xs.length lo hi fun l h => k (.p (.sl K) ((xs.drop l).take (h - l))) else none
    | .row id => look sub id fun | .row _ K xs => if .sl K = ti.K then boundsK xs.length lo hi fun l h => k (.sub id l (h - l)) else none | _ => none
    | .sub id a n => look sub id fun | .row _ K _ => if .sl K = ti.K then boundsK n lo hi fun l h => k (.sub id (a + l) (h - l)) else none | _ => none
    | .slc id path a n => look sub id fun
      | .var _ K _ => match kat K path with
        | some (.arr _ e) => if .sl e = ti.K then boundsK n lo hi fun l h => k (.slc id path (a + l) (h - l)) else none
        | _ => none
      | _ => none
    | _ => none
  | .array n _ =>
    match x with
    | .ptr id path => look sub id fun
      | .var _ K _ => match kat K path with
        | some K' => if K' = ti.K then boundsK n lo hi fun l h => k (.slc id path l (h - l)) else none
        | none => none
      | _ => none
    | _ => none
  | .prim =>
    match x with
    | .p .str s => if .str = ti.K then boundsK s.size lo hi fun l h => k (.p .str (s.extract l h)) else none
    | _ => none
  | _ => none

def lenK (E : Env A) (sub : List (Nat × Blk)) (t : TypeId) (x : AV) (k : AV → Option A) : Option A :=
  E.ti t fun ti => match ti.d with
  | .slice _ =>
    match x with
    | .p (.sl _) xs => k (.p (.int .i64) xs.length)
    | .row id => look sub id fun | .row _ _ xs => k (.p (.int .i64) xs.length) | _ => none
    | .sub id _ n => look sub id fun | .row _ _ _ => k (.p (.int .i64) n) | _ => none
    | .slc id _ _ n => look sub id fun | .var _ _ _ => k (.p (.int .i64) n) | _ => none
    | _ => none
  | .array n _ => k (.p (.int .i64) n)
  | .prim => match x with
    | .p .str s => if .str = ti.K then k (.p (.int .i64) s.size) else none
    | _ => none
  | .map _ _ => match x with
    | .mp id => look sub id fun | .map _ _ es => k (.p (.int .i64) es.length) | _ => none
    | _ => none
  | _ => none

def appendK (E : Env A) (sub : List (Nat × Blk)) (t : TypeId) (s x : AV) (fresh : Nat) (k : Cont A) : Option A :=
  match s with
  | .row id => look sub id fun
    | .row e K xs => E.ti t fun ti => match ti.d with
      | .slice e' => if e' = e then E.ti e fun tj => if K = tj.K then listK sub x fun K' ys =>
          if h : K' = K then (if (xs.length + ys.length) * tj.bytes ≤ 140737488355328 then k (.row fresh) [(id, .gone), (fresh, .row e K (xs ++ (h ▸ ys)))] else none) else none
        else none else none
      | _ => none
    | _ => none
  | _ => none

def makeSliceK (E : Env A) (t : TypeId) (l c : AV) (fresh : Nat) (k : Cont A) : Option A :=
  asInt l fun n => asInt c fun m => E.ti t fun ti => match ti.d with
  | .slice e => E.ti e fun tj => if 0 ≤ n then (if n ≤ m then (if m * tj.bytes ≤ 140737488355328 then k (.row fresh) [(fresh, .row e tj.K (List.replicate n.toNat tj.K.zero))] else none) else none) else none
  | _ => none

/-- Into a part of an array variable, of one cell an element. -/
def copyK (E : Env A) (t : TypeId) (sub : List (Nat × Blk)) (d x : AV) (k : Cont A) : Option A :=
  E.ti t fun ti => match ti.d with
  | .slice _ => listK sub x fun K ys => match d with
    | .slc id path lo len => look sub id fun
      | .var t' KV v => getV v path fun
        | .p (.arr n e) l => if h : K = e then (if .sl e = ti.K then (if e.size = 1 then
            setV v KV path (.p (.arr n e) (l.take lo ++ ((h ▸ ys).take len ++ l.drop (lo + min ys.length len)))) fun v' => k (.p (.int .i64) (min ys.length len : Nat)) [(id, .var t' KV v')]
          else none) else none) else none
        | _ => none
      | _ => none
    | _ => none
  | _ => none

/-- A map type's kinds. -/
def Env.kv (E : Env A) (t : TypeId) (k : Kind → Kind → Option A) : Option A :=
  E.ti t fun i => match i.d with
  | .map a b => E.ti a fun x => E.ti b fun y => if x.cmp && x.K.isAgg && x.K.flat then k x.K y.K else none
  | _ => none

def makeMapK (E : Env A) (t : TypeId) (fresh : Nat) (k : Cont A) : Option A :=
  E.kv t fun kk kv => k (.mp fresh) [(fresh, .map kk kv [])]

def lookupK (E : Env A) (t : TypeId) (sub : List (Nat × Blk)) (m x : AV) (ok : Bool) (k : AV → Option A) : Option A :=
  E.kv t fun kk kv => match m, x with
  | .mp id, .p KK' x => look sub id fun
    | .map KK KV es => if h : KK' = KK then (if kk = KK then (if kv = KV then
        k (if ok then .tup [.p KV ((mget KK es (h ▸ x)).getD KV.zero), .p .bool (mget KK es (h ▸ x)).isSome] else .p KV ((mget KK es (h ▸ x)).getD KV.zero)) else none) else none)
      else none
    | _ => none
  | _, _ => none

def mapUpdateK (E : Env A) (t : TypeId) (sub : List (Nat × Blk)) (m x v : AV) (k : List (Nat × Blk) → Option A) : Option A :=
  E.kv t fun kk _ => match m, x, v with
  | .mp id, .p KK' x, .p KV' v => look sub id fun
    | .map KK KV es => if h : KK' = KK then (if g : KV' = KV then (if kk = KK then k [(id, .map KK KV (mset KK es (h ▸ x) (g ▸ v)))] else none) else none) else none
    | _ => none
  | _, _, _ => none

def deleteK (E : Env A) (t : TypeId) (sub : List (Nat × Blk)) (m x : AV) (k : List (Nat × Blk) → Option A) : Option A :=
  E.kv t fun kk _ => match m, x with
  | .mp id, .p KK' x => look sub id fun
    | .map KK KV es => if h : KK' = KK then (if kk = KK then k [(id, .map KK KV (mdel KK es (h ▸ x)))] else none) else none
    | _ => none
  | _, _ => none

def clearK (sub : List (Nat × Blk)) (m : AV) (k : List (Nat × Blk) → Option A) : Option A :=
  match m with
  | .mp id => look sub id fun | .map KK KV _ => k [(id, .map KK KV [])] | _ => none
  | _ => none

def castL {K K' : Kind} (h : K = K') (ys : List K.den) : List K'.den := h ▸ ys

def isNum : AV → Bool
  | .p (.int _) _ => true
  | _ => false

def convertK (E : Env A) (sub : List (Nat × Blk)) (src dst : TypeId) (x : AV) (_fresh : Nat) (k : Cont A) : Option A :=
  E.ti src fun si => E.ti dst fun ti =>
    bif isNum x then match ti.K, x with
      | .int q, .p (.int _) n => k (.p (.int q) (q.wrap n)) []
      | _, _ => none
    else match ti.K, si.d with
      | .str, .slice e => E.ti e fun ei => listK sub x fun K ys => if h : K = .int .u8 then (if ei.K = .int .u8 then k (.p .str (mkStr (castL h ys))) [] else none) else none
      | _, _ => none

def indexK (E : Env A) (t : TypeId) (x ix : AV) (k : AV → Option A) : Option A :=
  asInt ix fun i => if 0 ≤ i then E.ti t fun ti =>
    match x with
    | .p (.arr n e) l => if .arr n e = ti.K then (l[i.toNat]?).bind fun y => k (.p e y) else none
    | .p .str s => if .str = ti.K then ((strBytes s)[i.toNat]?).bind fun y => k (.p (.int .u8) y) else none
    | _ => none
  else none

def foldInt (f : Int → Int → Int) : List AV → AV → (AV → Option A) → Option A
  | [], v, k => k v
  | x :: r, v, k => match v, x with
    | .p (.int q) a, .p (.int q') b => if q = q' then foldInt f r (.p (.int q) (f a b)) k else none
    | _, _ => none

-- ------------------------------------------------------------ calls

/-- A nil slice handed over is a list with nothing in it. -/
def argV (E : Env A) (t : TypeId) (ev : Operand → AV) (x : Operand) (k : AV → Option A) : Option A :=
  match x with
  | .const (.slice none 0 0) => E.ti t fun i => match i.K with
    | .sl K => k (.p (.sl K) [])
    | _ => none
  | x => k (ev x)

def argsV (E : Env A) (ev : Operand → AV) : List (TypeId × Operand) → (List AV → Option A) → Option A
  | [], k => k []
  | (t, x) :: r, k => argV E t ev x fun v => argsV E ev r fun vs => k (v :: vs)

/-- Handed over: as data, but for what may be written to. -/
def passK (sub : List (Nat × Blk)) : List Bool → List AV → (List AV → Option A) → Option A
  | _, [], k => k []
  | true :: os, v :: vs, k => passK sub os vs fun vs' => k (v :: vs')
  | false :: os, v :: vs, k => pureK sub v fun v' => passK sub os vs fun vs' => k (v' :: vs')
  | [], v :: vs, k => pureK sub v fun v' => passK sub [] vs fun vs' => k (v' :: vs')

/-- The numbers behind what is handed over as data. -/
def pureIds : List Bool → List AV → List Nat
  | _, [] => []
  | true :: os, _ :: vs => pureIds os vs
  | false :: os, v :: vs => v.ids ++ pureIds os vs
  | [], v :: vs => v.ids ++ pureIds [] vs

/-- The blocks that some lead to, in order. -/
def closure (bid : Nat → List Nat) : Nat → List Nat → List Nat → List Nat
  | 0, _, acc => acc
  | _ + 1, [], acc => acc
  | f + 1, id :: r, acc => if acc.contains id then closure bid f r acc else closure bid f (bid id ++ r) (acc ++ [id])

def blkIds (hp : List Blk) (id : Nat) : List Nat := match hp[id]? with | some b => b.ids | none => []
def subIds (sub : List (Nat × Blk)) (id : Nat) : List Nat := match sub.lookup id with | some b => b.ids | none => []

def pos (l : List Nat) (id : Nat) : Option Nat := match l.findIdx? (· == id) with | some i => some i | none => none

/-- May it tell of cells that lie in blocks of others? -/
def AV.hasSl : AV → Bool
  | .p K _ => K.hasSl
  | .pr a b => a.hasSl || b.hasSl
  | .vp _ _ => true
  | .tup vs => vs.any fun | .p K _ => K.hasSl | _ => true
  | _ => false

def Blk.hasSl : Blk → Bool
  | .var _ _ v => v.hasSl
  | .row _ K _ => K.hasSl
  | .map KK KV _ => KK.hasSl || KV.hasSl
  | _ => false

def disjointB (a b : List Nat) : Bool := a.all fun x => !b.contains x

/-- The number that a callee's block has for the caller: 'l': the blocks handed over. -/
def backN (l : List Nat) (fresh i : Nat) : Nat := match l[i]? with | some id => id | none => fresh + (i - l.length)

/-- What was handed over is what the callee made of it; what the callee made comes back under new numbers; if what comes back may lie in what was handed over as data, nobody writes that any more. -/
def callK (E : Env A) (f : FuncId) (args : List AV) (sub : List (Nat × Blk)) (fresh : Nat) (k : Cont A) : Option A :=
  match E.fns.lookup f with
  | none => none
  | some en => passK sub en.own args fun vs =>
    let l := closure (subIds sub) 1000 (vs.flatMap AV.ids) []
    bif disjointB (pureIds en.own args) l && l.all (fun id => ((sub.lookup id).getD .free).there) then
      en.run (vs.map fun v => v.ren (pos l)) (l.map fun id => ((sub.lookup id).getD .gone).ren (pos l)) fun r hp =>
        k (r.ren fun i => some (backN l fresh i)) ((bif r.hasSl || hp.any Blk.hasSl then (pureIds en.own args).map fun id => (id, Blk.gone) else []) ++ hp.zipIdx.map fun q => (backN l fresh q.2, q.1.ren fun i => some (backN l fresh i)))
    else none

-- ------------------------------------------------------------ an operation

def opK (E : Env A) (o : Oper) (ev : Operand → AV) (sub : List (Nat × Blk)) (fresh : Nat) (k : Cont A) : Option A :=
  let v (v : AV) : Option A := k v []
  let u (l : List (Nat × Blk)) : Option A := k .any l
  match o.op with
  | .move x | .assign x => moveK E o.type ev x fresh k
  | .pick c a b => match ev c with
    | .p .bool t => bif t then v (ev a) else v (ev b)
    | _ => none
  | .alloc t => E.ti t fun i => k (.ptr fresh []) [(fresh, .var t i.K (.p i.K i.K.zero))]
  | .box t x => E.ti t fun i => if (ev x).isAny then none else if (ev x).fits i.K then k (.ptr fresh []) [(fresh, .var t i.K (ev x))] else none
  | .build t ps => E.ti t fun i => if i.d.agg then fillK i.K (ps.toList.map fun q => (q.1, ev q.2)) (.p i.K i.K.zero) v else none
  | .buildSlice t n ps => E.ti t fun i => match i.d with
    | .slice e => E.ti e fun j => if n * j.K.size ≤ 16777216 then fillRow n j.K (ps.toList.map fun q => (q.1, ev q.2)) (List.replicate n j.K.zero) fun l => k (.row fresh) [(fresh, .row e j.K l)] else none
    | _ => none
  | .load t a => loadK sub (ev a) fun y => E.ti t fun i => if y.fits i.K then v y else none
  | .store t a x => E.ti t fun i => if (ev x).isAny then none else if (ev x).fits i.K then storeK sub (ev a) (ev x) u else none
  | .nilCheck x => match ev x with
    | .ptr id q => kindAt sub id q fun _ => v (.ptr id q)
    | .vp K y => v (.vp K y)
    | _ => none
  | .binOp op t x y _ => binK E op t (ev x) (ev y) v
  | .unOp op _ x => unK op (ev x) v
  | .convert src dst x => convertK E sub src dst (ev x) fresh k
  | .makeSlice t l c => makeSliceK E t (ev l) (ev c) fresh k
  | .makeMap t r => match r with
    | none => makeMapK E t fresh k
    | some x => asInt (ev x) fun _ => makeMapK E t fresh k
  | .slice t x lo hi none => sliceK E sub t (ev x) (lo.map ev) (hi.map ev) v
  | .fieldAddr t x f => fieldAddrK E sub t (ev x) f v
  | .field t x f => fieldK E t (ev x) f v
  | .indexAddr t x ix => indexAddrK E sub t (ev x) (ev ix) v
  | .index t x ix => indexK E t (ev x) (ev ix) v
  | .lookup t m x ok => lookupK E t sub (ev m) (ev x) ok v
  | .mapUpdate t m x y | .insert t m x y => mapUpdateK E t sub (ev m) (ev x) (ev y) u
  | .extract x i => match ev x with
    | .tup vs => match vs[i]? with | some y => v y | none => none
    | _ => none
  | .call c => match c.callee with
    | .value (.func f) => if c.argTypes.size = c.args.size then argsV E ev (c.argTypes.toList.zip c.args.toList) fun args => callK E f args sub fresh k else none
    | .builtin .len => match c.args.toList, c.argTypes.toList with | [x], t :: _ => lenK E sub t (ev x) v | _, _ => none
    | .builtin .append => match c.args.toList, c.argTypes.toList with | [s, x], [t, t'] => if t' = t then appendK E sub t (ev s) (ev x) fresh k else none | _, _ => none
    | .builtin .copy => match c.args.toList, c.argTypes.toList with | [d, x], [t, _] => copyK E t sub (ev d) (ev x) k | _, _ => none
    | .builtin .min => match c.args.toList with | x :: r => foldInt imin (r.map ev) (ev x) v | _ => none
    | .builtin .max => match c.args.toList with | x :: r => foldInt imax (r.map ev) (ev x) v | _ => none
    | _ => none
  | _ => none

-- ------------------------------------------------------------ states

def St.ev (gl : GL) (s : St) : Operand → AV
  | .tmp t => s.tm.getD t .any
  | .const v => ofValue v
  | .global g => glv gl g
  | _ => .any

def St.put (s : St) (d : Option Tmp) (v : AV) : St :=
  match d with
  | some d => { s with tm := s.tm.set d v }
  | none => s

def hpSet (hp : List Blk) (id : Nat) (b : Blk) : List Blk :=
  if id < hp.length then hp.set id b else hp ++ (List.replicate (id - hp.length) .free ++ [b])

def asg (hp : List Blk) : List (Nat × Blk) → List Blk
  | [] => hp
  | (id, b) :: r => asg (hpSet hp id b) r

def opIds (s : St) (o : Oper) : List Nat := o.op.operands.toList.flatMap fun x => (St.ev [] s x).ids

/-- What an operation may look at. -/
def St.sub (s : St) (o : Oper) : List (Nat × Blk) :=
  (closure (blkIds s.hp) 1000 (opIds s o) []).filterMap fun id => match s.hp[id]? with | some Blk.free => none | some b => some (id, b) | none => none

structure FP where
  r : List Nat
  w : List Nat

def execK (E : Env A) (o : Oper) (s : St) (fps : List FP) (k : St → List FP → Option A) : Option A :=
  opK E o (St.ev E.gl s) (s.sub o) s.hp.length fun v l => k { (s.put o.dst v) with hp := asg s.hp l } (⟨(s.sub o).map (·.1), l.map (·.1)⟩ :: fps)

def opsK (E : Env A) (ops : Array Oper) : List Oper → St → List FP → (St → List FP → Option A) → Option A
  | [], s, fps, k => k s fps
  | o :: r, s, fps, k =>
    match o.guard with
    | none => execK E o s fps fun s' fps' => opsK E ops r s' fps' k
    | some (j, want) =>
      match (ops[j]?).bind (·.dst) with
      | none => none
      | some g =>
        match s.tm[g]? with
        | some (.p .bool b) =>
          let go (t : Bool) (s : St) : Option A :=
            if t = want then execK E o s fps fun s' fps' => opsK E ops r s' fps' k
            else opsK E ops r (s.put o.dst (.tup [])) (⟨[], []⟩ :: fps) k
          bif b then go true (s.put (some g) (.p .bool true)) else go false (s.put (some g) (.p .bool false))
        | some (.tup []) => opsK E ops r (s.put o.dst (.tup [])) (⟨[], []⟩ :: fps) k
        | _ => none

/-- The edges that bind whatever the order. -/
def _root_.Go.Oper.held (o : Oper) : List Edge := o.after.toList.filter fun e => Region.binds .any e

/-- Of each operation those that it waits for, on and on. -/
def waitsFor (ops : List Oper) : List (List Nat) :=
  ops.foldl (fun acc o => acc ++ [o.held.foldl (fun l e => if l.contains e.on then l else l ++ e.on :: ((acc.getD e.on []).filter fun x => !l.contains x)) []]) []

def indepB (ops : Array Oper) (fps : List FP) : Bool :=
  Region.noSelect ops &&
  (List.range ops.size).all fun j => match ops[j]?, fps[j]? with
    | some oj, some fj => (oj.held.all fun e => decide (e.on < j)) &&
      (List.range j).all fun i => ((waitsFor ops.toList).getD j []).contains i || match ops[i]?, fps[i]? with
        | some oi, some fi => oi.apart ops oj && disjointB fi.w (fj.r ++ fj.w) && disjointB fj.w fi.r
        | _, _ => false
    | _, _ => false

def regionK (E : Env A) (ops : Array Oper) (draw : Bool) (s : St) (k : St → Option A) : Option A :=
  opsK E ops ops.toList s [] fun s' fps => bif draw then (bif indepB ops fps.reverse then k s' else none) else k s'

def dsts : Code → List Nat
  | .region _ ops _ => ops.toList.filterMap (·.dst)
  | .seq a b => dsts a ++ dsts b
  | .cond _ a b => dsts a ++ dsts b
  | .block _ c | .loop c | .scope c => dsts c
  | _ => []

def deadOf (c : Code) (s : St) : List Nat := (dsts c).filter fun i => (s.tm.getD i .any).isAny

def canonTm (dead : List Nat) (s : St) : List AV := s.tm.zipIdx.map fun (v, i) => if dead.contains i then AV.any else v
def canonL (dead : List Nat) (s : St) : List Nat := closure (blkIds s.hp) 1000 (List.range s.m ++ (canonTm dead s).flatMap AV.ids) []

/-- Slots that are dead forgotten; blocks that nothing leads to forgotten; the others numbered in order. The first ones ('m') keep their numbers. -/
def canon (dead : List Nat) (s : St) : St :=
  { tm := (canonTm dead s).map fun v => v.ren (pos (canonL dead s)), hp := (canonL dead s).map fun id => (s.hp.getD id .gone).ren (pos (canonL dead s)), m := s.m }

def canonK (dead : List Nat) (s : St) (k : St → Option A) : Option A :=
  bif (canonL dead s).take s.m == List.range s.m then k (canon dead s) else none

def seqC (next : St → (Ex → St → Option A) → Option A) (k : Ex → St → Option A) : Ex → St → Option A
  | .normal, s => next s k
  | x, s => k x s

def blockC (id : Nat) (k : Ex → St → Option A) : Ex → St → Option A
  | .exit j, s => if j = id then k .normal s else k (.exit j) s
  | x, s => k x s

def loopK (step : St → (Ex → St → Option A) → Option A) (dead : List Nat) : Nat → St → (Ex → St → Option A) → Option A
  | 0, _, _ => none
  | f + 1, s, k => step s fun x s' => canonK dead s' fun s' => match x with
    | .normal => loopK step dead f s' k
    | x => k x s'

/-- How many loops. -/
def loops : Code → Nat
  | .seq a b => loops a + loops b
  | .cond _ a b => loops a + loops b
  | .block _ c | .scope c => loops c
  | .loop c => loops c + 1
  | _ => 0

/-- Code whose first loop has that number. -/
def codeK (E : Env A) (j : Nat) : Code → St → (Ex → St → Option A) → Option A
  | .skip => fun s k => k .normal s
  | .region _ ops draw => fun s k => regionK E ops draw s (k .normal)
  | .seq a b => fun s k => codeK E j a s (seqC (codeK E (j + loops a) b) k)
  | .cond c a b => fun s k => match c with
    | .tmp t => match s.tm[t]? with
      | some (.p .bool q) => bif q then codeK E j a (s.put (some t) (.p .bool true)) k else codeK E (j + loops a) b (s.put (some t) (.p .bool false)) k
      | _ => none
    | .const (.bool q) => bif q then codeK E j a s k else codeK E (j + loops a) b s k
    | _ => none
  | .block id c => fun s k => codeK E j c s (blockC id k)
  | .loop _ => fun s k => match E.lps.lookup j with
    | some L => canonK L.dead s fun s => L.run s k
    | none => none
  | .exit id => fun s k => k (.exit id) s
  | .ret => fun s k => k .ret s
  | _ => fun _ _ => none

def resultsK (E : Env A) (s : St) : List ResultVar → (List AV → Option A) → Option A
  | [], k => k []
  | .tmp t :: r, k => resultsK E s r fun vs => k (s.tm.getD t .any :: vs)
  | .cell t ty :: r, k => loadK (s.hp.zipIdx.map fun q => (q.2, q.1)) (s.tm.getD t .any) fun y => E.ti ty fun i => if y.fits i.K then resultsK E s r fun vs => k (y :: vs) else none

def giveK (hp : List (Nat × Blk)) : List RMode → List AV → (List AV → Option A) → Option A
  | [], [], k => k []
  | .pure :: ms, v :: vs, k => pureK hp v fun v' => giveK hp ms vs fun vs' => k (v' :: vs')
  | .own :: ms, v :: vs, k => if v.isTup then none else giveK hp ms vs fun vs' => k (v :: vs')
  | _, _, _ => none

def tupOf : List AV → AV
  | [v] => v
  | vs => .tup vs

/-- The numbers behind what is handed back as data. -/
def viewIds : List RMode → List AV → List Nat
  | .pure :: ms, v :: vs => v.ids ++ viewIds ms vs
  | .own :: ms, _ :: vs => viewIds ms vs
  | _, _ => []

def endK (E : Env A) (fn : Func) (rm : List RMode) (k : AV → List Blk → Option A) : Ex → St → Option A
  | .exit _, _ => none
  | _, s => resultsK E s fn.results.toList fun vs => giveK (s.hp.zipIdx.map fun q => (q.2, q.1)) rm vs fun rs =>
    let l := closure (blkIds s.hp) 1000 (List.range s.m ++ rs.flatMap AV.ids) []
    bif disjointB (viewIds rm vs) l && (l.take s.m == List.range s.m) then k (tupOf (rs.map fun v => v.ren1 (pos l))) (l.map fun id => (s.hp.getD id .gone).ren (pos l)) else none

/-- The form of a slot. -/
inductive Sh where
  | any
  | p (K : Kind)
  | pr (a b : Sh)
  | row (id : Nat)
  | ptr (id : Nat)
  | mp (id : Nat)
  | nilp
  | slc (id : Nat)

@[reducible] def Sh.den : Sh → Type
  | .p K => K.den
  | .pr a b => a.den × b.den
  | .slc _ => Nat × Nat
  | _ => Unit

def Sh.fill : (h : Sh) → h.den → AV
  | .any, _ => .any
  | .p K, x => .p K x
  | .pr a b, x => .pr (a.fill x.1) (b.fill x.2)
  | .row id, _ => .row id
  | .ptr id, _ => .ptr id []
  | .mp id, _ => .mp id
  | .nilp, _ => .nilp
  | .slc id, x => .slc id [] x.1 x.2

def Sh.read : (h : Sh) → AV → Option h.den
  | .any, .any => some ()
  | .p K, .p K' x => if h : K' = K then some (h ▸ x) else none
  | .pr a b, .pr v w => match a.read v, b.read w with
    | some x, some y => some (x, y)
    | _, _ => none
  | .row id, .row id' => if id' = id then some () else none
  | .ptr id, .ptr id' [] => if id' = id then some () else none
  | .mp id, .mp id' => if id' = id then some () else none
  | .nilp, .nilp => some ()
  | .slc id, .slc id' [] lo len => if id' = id then some (lo, len) else none
  | _, _ => none

inductive BSh where
  | var (t : TypeId) (K : Kind) (h : Sh)
  | row (t : TypeId) (K : Kind)
  | map (KK KV : Kind)
  | gone

@[reducible] def BSh.den : BSh → Type
  | .var _ _ h => h.den
  | .row _ K => List K.den
  | .map KK KV => List (KK.den × KV.den)
  | .gone => Unit

def BSh.fill : (h : BSh) → h.den → Blk
  | .var t K h, x => .var t K (h.fill x)
  | .row t K, x => .row t K x
  | .map KK KV, x => .map KK KV x
  | .gone, _ => .gone

def BSh.read : (h : BSh) → Blk → Option h.den
  | .var t K h, .var t' K' v => if t' = t ∧ K' = K then h.read v else none
  | .row t K, .row t' K' x => if h : K' = K then (if t' = t then some (h ▸ x) else none) else none
  | .map KK KV, .map KK' KV' x => if h : KK' = KK then (if g : KV' = KV then some (h ▸ g ▸ x) else none) else none
  | .gone, .gone => some ()
  | _, _ => none

@[reducible] def shDen : List Sh → Type
  | [] => Unit
  | h :: r => h.den × shDen r
@[reducible] def bshDen : List BSh → Type
  | [] => Unit
  | h :: r => h.den × bshDen r

def shFill : (hs : List Sh) → shDen hs → List AV
  | [], _ => []
  | h :: r, x => h.fill x.1 :: shFill r x.2
def bshFill : (hs : List BSh) → bshDen hs → List Blk
  | [], _ => []
  | h :: r, x => h.fill x.1 :: bshFill r x.2

def shRead : (hs : List Sh) → List AV → Option (shDen hs)
  | [], [] => some ()
  | h :: r, v :: vs => match h.read v, shRead r vs with
    | some x, some y => some (x, y)
    | _, _ => none
  | _, _ => none
def bshRead : (hs : List BSh) → List Blk → Option (bshDen hs)
  | [], [] => some ()
  | h :: r, v :: vs => match h.read v, bshRead r vs with
    | some x, some y => some (x, y)
    | _, _ => none
  | _, _ => none

/-- The form of a state at a loop's head. -/
structure Shape where
  tm : List Sh
  hp : List BSh
  m : Nat

@[reducible] def Shape.den (S : Shape) : Type := shDen S.tm × bshDen S.hp
def Shape.fill (S : Shape) (d : S.den) : St := { tm := shFill S.tm d.1, hp := bshFill S.hp d.2, m := S.m }

/-- A loop's entry: the state read as the form says. -/
def loopE (dead : List Nat) (S : Shape) (g : S.den → (Ex → St → Option A) → Option A) : Loop A := ⟨dead, fun s k =>
  if s.m = S.m then match shRead S.tm s.tm, bshRead S.hp s.hp with
    | some x, some y => g (x, y) k
    | _, _ => none else none⟩

/-- An argument of a function that is data. -/
def argD (v : AV) (K : Kind) (k : K.den → Option A) : Option A :=
  match v with
  | .p K' x => if h : K' = K then k (h ▸ x) else none
  | _ => none

def args0 (args : List AV) (g : Option A) : Option A := match args with | [] => g | _ => none
def args1 (args : List AV) (K0 : Kind) (g : K0.den → Option A) : Option A := match args with | [v0] => argD v0 K0 g | _ => none
def args2 (args : List AV) (K0 K1 : Kind) (g : K0.den → K1.den → Option A) : Option A := match args with | [v0, v1] => argD v0 K0 fun a0 => argD v1 K1 fun a1 => g a0 a1 | _ => none
def args3 (args : List AV) (K0 K1 K2 : Kind) (g : K0.den → K1.den → K2.den → Option A) : Option A := match args with | [v0, v1, v2] => argD v0 K0 fun a0 => argD v1 K1 fun a1 => argD v2 K2 fun a2 => g a0 a1 a2 | _ => none
def args4 (args : List AV) (K0 K1 K2 K3 : Kind) (g : K0.den → K1.den → K2.den → K3.den → Option A) : Option A := match args with | [v0, v1, v2, v3] => argD v0 K0 fun a0 => argD v1 K1 fun a1 => argD v2 K2 fun a2 => argD v3 K3 fun a3 => g a0 a1 a2 a3 | _ => none

/-- '==' of data. -/
def deq (K : Kind) (x y : K.den) : Bool := @decide (x = y) (K.dec x y)

/-- A part of code. -/
def codeAt : List Nat → Code → Code
  | [], c => c
  | i :: r, c => match c with
    | .seq a b => codeAt r (if i = 0 then a else b)
    | .cond _ a b => codeAt r (if i = 0 then a else b)
    | .block _ a | .loop a | .scope a => codeAt r a
    | c => c
def bodyOf (f : Func) : Code := f.body.getD .skip

def fnK (E : Env A) (fn : Func) (rm : List RMode) (args : List AV) (hp : List Blk) (k : AV → List Blk → Option A) : Option A :=
  match fn.body with
  | some c => codeK E 0 c { tm := args ++ List.replicate (fn.ntmps - args.length) .any, hp := hp, m := hp.length } (endK E fn rm k)
  | none => none

/-- A function all of whose arguments are data. -/
def pureE (g : List AV → (AV → List Blk → Option A) → Option A) : Entry A := ⟨[], fun args hp k => match hp with | [] => g args k | _ => none⟩

/-- A function that is handed blocks of a form. -/
def ownE (own : List Bool) (S : Shape) (g : S.den → (AV → List Blk → Option A) → Option A) : Entry A := ⟨own, fun args hp k =>
  match shRead S.tm args, bshRead S.hp hp with
  | some x, some y => g (x, y) k
  | _, _ => none⟩

end Go.Ev
