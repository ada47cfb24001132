import Derived.WalkKit
set_option linter.all false
section
/-
  AN EVALUATOR OVER ABSTRACT, TYPED STATES. It runs a loaded function's code on values of Lean's own types (whole numbers, Booles, texts, lists, pairs),
  slices as lists, variables and maps as numbered blocks. It is written with continuations, so that the kernel can run it with variables in the data.
  That it is sound over the model stands in the texts behind it. No project text.
-/
namespace Go.Ev

/-- Kinds of data. 'opq': one cell of which nothing is said. -/
inductive Kind where
  | int (k : IntKind) | bool | str | opq | unit
  | pair (a b : Kind) | arr (n : Nat) (e : Kind) | sl (e : Kind)
  deriving DecidableEq

@[reducible] def Kind.den : Kind → Type
  | .int _ => Int
  | .bool => Bool
  | .str => ByteArray
  | .opq => Unit
  | .unit => Unit
  | .pair a b => a.den × b.den
  | .arr _ e => List e.den
  | .sl e => List e.den

def Kind.zero : (K : Kind) → K.den
  | .int _ => (0 : Int)
  | .bool => false
  | .str => ByteArray.empty
  | .opq => ()
  | .unit => ()
  | .pair a b => (a.zero, b.zero)
  | .arr n e => List.replicate n e.zero
  | .sl _ => []

/-- How many cells. -/
def Kind.size : Kind → Nat
  | .int _ | .bool | .str | .opq | .sl _ => 1
  | .unit => 0
  | .pair a b => a.size + b.size
  | .arr n e => n * e.size

def Kind.isAgg : Kind → Bool
  | .pair _ _ | .arr _ _ | .unit => true
  | _ => false

def Kind.hasSl : Kind → Bool
  | .sl _ => true
  | .pair a b => a.hasSl || b.hasSl
  | .arr _ e => e.hasSl
  | _ => false

/-- No slices, no cells that nothing is said of. -/
def Kind.flat : Kind → Bool
  | .int _ | .bool | .str | .unit => true
  | .pair a b => a.flat && b.flat
  | .arr _ e => e.flat
  | _ => false

def Kind.dec : (K : Kind) → DecidableEq K.den
  | .int _ => inferInstanceAs (DecidableEq Int)
  | .bool => inferInstanceAs (DecidableEq Bool)
  | .str => inferInstanceAs (DecidableEq ByteArray)
  | .opq => inferInstanceAs (DecidableEq Unit)
  | .unit => inferInstanceAs (DecidableEq Unit)
  | .pair a b => @instDecidableEqProd _ _ a.dec b.dec
  | .arr _ e => @instDecidableEqList _ e.dec
  | .sl e => @instDecidableEqList _ e.dec

inductive Hop where
  | fld (i : Nat)
  | idx (i : Nat)

/-- What a slot holds. 'any': nothing is known. 'p': data. 'pr': a pair of which a part is no data. 'row', 'sub': a slice of a row of our own, and a part of it. 'ptr': into a block. 'vp': the address of data that nobody writes. 'slc': a part of an array variable. -/
inductive AV where
  | any
  | p (K : Kind) (x : K.den)
  | pr (a b : AV)
  | row (id : Nat)
  | sub (id lo len : Nat)
  | ptr (id : Nat) (path : List Hop)
  | vp (K : Kind) (x : K.den)
  | slc (id : Nat) (path : List Hop) (lo len : Nat)
  | mp (id : Nat)
  | nilp
  | tup (vs : List AV)

/-- 'ment': a map one of whose entries, that of the key x, is held by the stamp g ('stp'). -/
inductive Blk where
  | var (t : TypeId) (K : Kind) (v : AV)
  | row (t : TypeId) (K : Kind) (xs : List K.den)
  | map (KK KV : Kind) (es : List (KK.den × KV.den))
  | ment (KK KV : Kind) (es : List (KK.den × KV.den)) (x : KK.den) (g : Nat)
  | stp
  | gone
  | free

def Blk.there : Blk → Bool
  | .free => false
  | _ => true

structure St where
  tm : List AV
  hp : List Blk
  m : Nat

inductive TD where
  | prim
  | slice (e : TypeId)
  | array (n : Nat) (e : TypeId)
  | struct (fs : List TypeId)
  | map (k v : TypeId)
  | ptr (e : TypeId)
  | other

def TD.agg : TD → Bool
  | .array _ _ | .struct _ => true
  | _ => false

/-- 'cmp': values of the type may be held against each other by '==', or be a map's keys. -/
structure TI where
  K : Kind
  d : TD
  bytes : Nat
  cmp : Bool

inductive RMode where
  | pure
  | own

/-- A function: which arguments it may write to ('own'; the others are handed over as data); what it does with its arguments and with the blocks that they lead to: what it hands back, and the blocks then (those that were handed over first). -/
structure Entry (A : Type) where
  own : List Bool
  run : List AV → List Blk → (AV → List Blk → Option A) → Option A

inductive Ex where
  | normal
  | exit (id : Nat)
  | ret

/-- A loop's own function: the slots that it does without; what it does with the state at its head. -/
structure Loop (A : Type) where
  dead : List Nat
  run : St → (Ex → St → Option A) → Option A

/-- What package-level variables hold that nobody writes. -/
abbrev GL := List (Nat × ((K : Kind) × K.den))
def glv (gl : GL) (g : Nat) : AV := match gl.lookup g with
  | some q => .vp q.1 q.2
  | none => .any

structure Env (A : Type) where
  ty : List (TypeId × TI)
  gl : GL
  fns : List (FuncId × Entry A)
  lps : List (Nat × Loop A)
  nils : List Nat

variable {A : Type}

def Env.ti (E : Env A) (t : TypeId) (k : TI → Option A) : Option A :=
  match E.ty.lookup t with
  | some i => k i
  | none => none

-- ------------------------------------------------------------ parts of data

def mkPair : AV → AV → AV
  | .p a x, .p b y => .p (.pair a b) (x, y)
  | a, b => .pr a b

def AV.isAny : AV → Bool
  | .any => true
  | _ => false

def AV.isTup : AV → Bool
  | .tup _ => true
  | _ => false

/-- Has it the form of that kind? -/
def AV.fits : AV → Kind → Bool
  | .p K' _, K => decide (K' = K)
  | .pr a b, .pair x y => a.fits x && b.fits y
  | .row _, .sl _ | .sub _ _ _, .sl _ | .slc _ _ _ _, .sl _ | .any, .sl _ => true
  | .ptr _ _, .opq | .vp _ _, .opq | .mp _, .opq | .nilp, .opq | .any, .opq => true
  | _, _ => false

def getK : (K : Kind) → List Hop → K.den → (AV → Option A) → Option A
  | .pair a b => fun path (x : a.den × b.den) k => match path with
    | [] => k (.p (.pair a b) x)
    | .fld 0 :: r => getK a r x.1 k
    | .fld (n + 1) :: r => getK b (.fld n :: r) x.2 k
    | _ => none
  | .arr n e => fun path (l : List e.den) k => match path with
    | [] => k (.p (.arr n e) l)
    | .idx i :: r => (l[i]?).bind fun x => getK e r x k
    | _ => none
  | .int q => fun path x k => match path with | [] => k (.p (.int q) x) | _ => none
  | .bool => fun path x k => match path with | [] => k (.p .bool x) | _ => none
  | .str => fun path x k => match path with | [] => k (.p .str x) | _ => none
  | .opq => fun path x k => match path with | [] => k (.p .opq x) | _ => none
  | .unit => fun path x k => match path with | [] => k (.p .unit x) | _ => none
  | .sl e => fun path x k => match path with | [] => k (.p (.sl e) x) | _ => none

/-- The kind of a part. -/
def kat : Kind → List Hop → Option Kind
  | .pair a b => fun path => match path with
    | [] => some (.pair a b)
    | .fld 0 :: r => kat a r
    | .fld (n + 1) :: r => kat b (.fld n :: r)
    | _ => none
  | .arr n e => fun path => match path with
    | [] => some (.arr n e)
    | .idx _ :: r => kat e r
    | _ => none
  | .int q => fun path => match path with | [] => some (.int q) | _ => none
  | .bool => fun path => match path with | [] => some .bool | _ => none
  | .str => fun path => match path with | [] => some .str | _ => none
  | .opq => fun path => match path with | [] => some .opq | _ => none
  | .unit => fun path => match path with | [] => some .unit | _ => none
  | .sl e => fun path => match path with | [] => some (.sl e) | _ => none

def getV : AV → List Hop → (AV → Option A) → Option A
  | .p K x, path, k => getK K path x k
  | .pr a b, path, k => match path with
    | [] => k (.pr a b)
    | .fld 0 :: r => getV a r k
    | .fld (n + 1) :: r => getV b (.fld n :: r) k
    | _ => none
  | v, path, k => match path with | [] => k v | _ => none

/-- An element written into a list of data. -/
def setIn (n : Nat) (e : Kind) (l : List e.den) (i : Nat) (v : AV) (k : List e.den → Option A) : Option A :=
  match v with
  | .p e' z => if h : e' = e then (if i < n then k (l.set i (h ▸ z)) else none) else none
  | _ => none

def setK : (K : Kind) → List Hop → K.den → AV → (AV → Option A) → Option A
  | .pair a b => fun path (x : a.den × b.den) v k => match path with
    | [] => if v.fits (.pair a b) then k v else none
    | .fld 0 :: r => setK a r x.1 v fun y => k (mkPair y (.p b x.2))
    | .fld (n + 1) :: r => setK b (.fld n :: r) x.2 v fun y => k (mkPair (.p a x.1) y)
    | _ => none
  | .arr n e => fun path (l : List e.den) v k => match path with
    | [] => if v.fits (.arr n e) then k v else none
    | [.idx i] => setIn n e l i v fun l' => k (.p (.arr n e) l')
    | .idx i :: h :: r => (l[i]?).bind fun x => setK e (h :: r) x v fun y => setIn n e l i y fun l' => k (.p (.arr n e) l')
    | _ => none
  | .int q => fun path _ v k => match path with | [] => if v.fits (.int q) then k v else none | _ => none
  | .bool => fun path _ v k => match path with | [] => if v.fits .bool then k v else none | _ => none
  | .str => fun path _ v k => match path with | [] => if v.fits .str then k v else none | _ => none
  | .opq => fun path _ v k => match path with | [] => if v.fits .opq then k v else none | _ => none
  | .unit => fun path _ v k => match path with | [] => if v.fits .unit then k v else none | _ => none
  | .sl e => fun path _ v k => match path with | [] => if v.fits (.sl e) then k v else none | _ => none

/-- 'K': the kind of the whole. -/
def setV : AV → Kind → List Hop → AV → (AV → Option A) → Option A
  | .p K x, _, path, v, k => setK K path x v k
  | .pr a b, K, path, v, k => match K, path with
    | K, [] => if v.fits K then k v else none
    | .pair x _, .fld 0 :: r => setV a x r v fun y => k (mkPair y b)
    | .pair _ x, .fld (n + 1) :: r => setV b x (.fld n :: r) v fun y => k (mkPair a y)
    | _, _ => none
  | _, K, path, v, k => match path with | [] => if v.fits K then k v else none | _ => none

-- ------------------------------------------------------------ numbers

/-- The number, once both others are told: so that the kernel stands still where they aren't. -/
def held (a b x : Int) : Int := match a, b with
  | .ofNat _, .ofNat _ => x
  | .ofNat _, .negSucc _ => x
  | .negSucc _, .ofNat _ => x
  | .negSucc _, .negSucc _ => x
theorem held_eq (a b x : Int) : held a b x = x := by cases a <;> cases b <;> rfl
def iand0 (k : IntKind) (a b : Int) : Int := k.wrap (BitVec.ofInt k.bits a &&& BitVec.ofInt k.bits b).toNat
def iand (k : IntKind) (a b : Int) : Int := held a b (iand0 k a b)
theorem iand_def (k : IntKind) (a b : Int) : iand k a b = iand0 k a b := held_eq a b _
def ior0 (k : IntKind) (a b : Int) : Int := k.wrap (BitVec.ofInt k.bits a ||| BitVec.ofInt k.bits b).toNat
def ior (k : IntKind) (a b : Int) : Int := held a b (ior0 k a b)
theorem ior_def (k : IntKind) (a b : Int) : ior k a b = ior0 k a b := held_eq a b _
def ixor0 (k : IntKind) (a b : Int) : Int := k.wrap (BitVec.ofInt k.bits a ^^^ BitVec.ofInt k.bits b).toNat
def ixor (k : IntKind) (a b : Int) : Int := held a b (ixor0 k a b)
theorem ixor_def (k : IntKind) (a b : Int) : ixor k a b = ixor0 k a b := held_eq a b _
def iandNot0 (k : IntKind) (a b : Int) : Int := k.wrap (BitVec.ofInt k.bits a &&& ~~~BitVec.ofInt k.bits b).toNat
def iandNot (k : IntKind) (a b : Int) : Int := held a b (iandNot0 k a b)
theorem iandNot_def (k : IntKind) (a b : Int) : iandNot k a b = iandNot0 k a b := held_eq a b _
def shl (k : IntKind) (x y : Int) : Int := k.wrap (x * 2 ^ (min y.toNat k.bits))
def shr (k : IntKind) (x y : Int) : Int := x.fdiv (2 ^ (min y.toNat k.bits))
def imin (x y : Int) : Int := if y < x then y else x
def imax (x y : Int) : Int := if y > x then y else x

def intOp (op : BinOp) (k : IntKind) (a b : Int) (c : AV → Option A) : Option A :=
  match op with
  | .add => c (.p (.int k) (k.wrap (a + b)))
  | .sub => c (.p (.int k) (k.wrap (a - b)))
  | .mul => c (.p (.int k) (k.wrap (a * b)))
  | .quo => if b = 0 then none else c (.p (.int k) (k.wrap (a.tdiv b)))
  | .rem => if b = 0 then none else c (.p (.int k) (a.tmod b))
  | .and => c (.p (.int k) (iand k a b))
  | .or => c (.p (.int k) (ior k a b))
  | .xor => c (.p (.int k) (ixor k a b))
  | .andNot => c (.p (.int k) (iandNot k a b))
  | .eql => c (.p .bool (a == b))
  | .neq => c (.p .bool (a != b))
  | .lss => c (.p .bool (decide (a < b)))
  | .leq => c (.p .bool (decide (a ≤ b)))
  | .gtr => c (.p .bool (decide (a > b)))
  | .geq => c (.p .bool (decide (a ≥ b)))
  | _ => none

def strOp (op : BinOp) (a b : ByteArray) (c : AV → Option A) : Option A :=
  match op with
  | .add => if a.size + b.size ≤ 9223372036854775807 then c (.p .str (a ++ b)) else none
  | .eql => c (.p .bool (a.toList == b.toList))
  | .neq => c (.p .bool (!(a.toList == b.toList)))
  | _ => none

def binK (E : Env A) (op : BinOp) (t : TypeId) (x y : AV) (c : AV → Option A) : Option A :=
  match x, y with
  | .p K x, .p K' y =>
    match K, x, K', y with
    | .int k, x, .int k', y =>
      match op with
      | .shl => if y < 0 then none else c (.p (.int k) (shl k x y))
      | .shr => if y < 0 then none else c (.p (.int k) (shr k x y))
      | op => if k = k' then intOp op k x y c else none
    | .str, x, .str, y => strOp op x y c
    | K, x, K', y =>
      if h : K' = K then E.ti t fun i => if i.cmp && decide (i.K = K) then
        match op with
        | .eql => c (.p .bool (@decide (x = h ▸ y) (K.dec x (h ▸ y))))
        | .neq => c (.p .bool (!(@decide (x = h ▸ y) (K.dec x (h ▸ y)))))
        | _ => none
        else none
      else none
  | _, _ => none

def unK (op : UnOp) (x : AV) (c : AV → Option A) : Option A :=
  match op, x with
  | .not, .p .bool b => c (.p .bool !b)
  | .neg, .p (.int k) n => c (.p (.int k) (k.wrap (0 - n)))
  | .xor, .p (.int k) n => c (.p (.int k) (ixor k (if k.signed then -1 else k.max) n))
  | _, _ => none

/-- A text out of bytes; a text's bytes; a byte of a text. -/
def mkStr (l : List Int) : ByteArray := ⟨(l.map fun n => UInt8.ofNat n.toNat).toArray⟩
def strBytes (s : ByteArray) : List Int := s.data.toList.map fun b => (b.toNat : Int)

-- ------------------------------------------------------------ blocks

def look (sub : List (Nat × Blk)) (id : Nat) (k : Blk → Option A) : Option A :=
  match sub.lookup id with
  | some b => k b
  | none => none

def AV.ids : AV → List Nat
  | .row id | .sub id _ _ | .ptr id _ | .slc id _ _ _ | .mp id => [id]
  | .pr a b => a.ids ++ b.ids
  | _ => []

def Blk.ids : Blk → List Nat
  | .var _ _ v => v.ids
  | _ => []

def AV.ren1 (f : Nat → Option Nat) : AV → AV
  | .row id => match f id with | some i => .row i | none => .any
  | .sub id a b => match f id with | some i => .sub i a b | none => .any
  | .ptr id q => match f id with | some i => .ptr i q | none => .any
  | .slc id q a b => match f id with | some i => .slc i q a b | none => .any
  | .mp id => match f id with | some i => .mp i | none => .any
  | .pr a b => .pr (a.ren1 f) (b.ren1 f)
  | v => v

def AV.ren (f : Nat → Option Nat) : AV → AV
  | .tup vs => .tup (vs.map fun v => v.ren1 f)
  | v => v.ren1 f

def Blk.ren (f : Nat → Option Nat) : Blk → Blk
  | .var t K v => .var t K (v.ren f)
  | .ment KK KV es _ _ => .map KK KV es
  | .stp => .gone
  | b => b

/-- The kind of what an address leads to. -/
def kindAt (sub : List (Nat × Blk)) (id : Nat) (path : List Hop) (k : Kind → Option A) : Option A :=
  look sub id fun
  | .var _ K _ => match kat K path with | some K' => k K' | none => none
  | .row _ K _ => match path with
    | .idx _ :: r => match kat K r with | some K' => k K' | none => none
    | _ => none
  | _ => none

/-- A slice as a list. -/
def listK (sub : List (Nat × Blk)) (v : AV) (k : (K : Kind) → List K.den → Option A) : Option A :=
  match v with
  | .p (.sl K) xs => k K xs
  | .row id => look sub id fun | .row _ K xs => k K xs | _ => none
  | .sub id lo len => look sub id fun | .row _ K xs => k K ((xs.drop lo).take len) | _ => none
  | .slc id path lo len => look sub id fun
    | .var _ _ v => getV v path fun | .p (.arr _ e) l => k e ((l.drop lo).take len) | _ => none
    | _ => none
  | _ => none

/-- As data: what it leads to is read. -/
def pureK (sub : List (Nat × Blk)) : AV → (AV → Option A) → Option A
  | .p K x, k => k (.p K x)
  | .pr a b, k => pureK sub a fun a' => pureK sub b fun b' => match a', b' with
    | .p K x, .p K' y => k (.p (.pair K K') (x, y))
    | _, _ => none
  | .row id, k => listK sub (.row id) fun K xs => k (.p (.sl K) xs)
  | .sub id a b, k => listK sub (.sub id a b) fun K xs => k (.p (.sl K) xs)
  | .slc id q a b, k => listK sub (.slc id q a b) fun K xs => k (.p (.sl K) xs)
  | _, _ => none

-- ------------------------------------------------------------ maps

def mget (K : Kind) {V : Type} : List (K.den × V) → K.den → Option V
  | [], _ => none
  | e :: r, x => if @decide (e.1 = x) (K.dec e.1 x) then some e.2 else mget K r x
def mset (K : Kind) {V : Type} : List (K.den × V) → K.den → V → List (K.den × V)
  | [], x, v => [(x, v)]
  | e :: r, x, v => if @decide (e.1 = x) (K.dec e.1 x) then (x, v) :: r else e :: mset K r x v
def mdel (K : Kind) {V : Type} : List (K.den × V) → K.den → List (K.den × V)
  | [], _ => []
  | e :: r, x => if @decide (e.1 = x) (K.dec e.1 x) then r else e :: mdel K r x

-- ------------------------------------------------------------ operations

def ofValue : Value → AV
  | .int k n => .p (.int k) n
  | .bool b => .p .bool b
  | .string s => .p .str s
  | .pointer none => .nilp
  | _ => .any

abbrev Cont (A : Type) := AV → List (Nat × Blk) → Option A

def Env.nilAt (E : Env A) : Option Tmp → Bool
  | some d => E.nils.contains d
  | none => false

/-- A value into a slot: a nil slice is a row of our own, with nothing in it, or (at the slots named for it) data. -/
def moveK (E : Env A) (d : Option Tmp) (t : TypeId) (ev : Operand → AV) (x : Operand) (fresh : Nat) (k : Cont A) : Option A :=
  match x with
  | .const (.slice none 0 0) => E.ti t fun i => match i.d with
    | .slice e => E.ti e fun j => bif E.nilAt d then k (.p (.sl j.K) []) [] else k (.row fresh) [(fresh, .row e j.K [])]
    | _ => none
  | x => k (ev x) []

def hopOf : Kind → Nat → Hop
  | .arr _ _, i => .idx i
  | _, i => .fld i

/-- A nil slice that is written somewhere: data, of the place's kind. -/
def nilAs (K : Option Kind) (x : Operand) (v : AV) : AV :=
  match x, K with
  | .const (.slice none 0 0), some (.sl K) => .p (.sl K) []
  | _, _ => v

/-- Parts laid into a value. -/
def fillK (K : Kind) : List (Nat × AV) → AV → (AV → Option A) → Option A
  | [], v, k => k v
  | (i, x) :: r, v, k => if x.isAny || x.isTup then none else setV v K [hopOf K i] x fun v' => fillK K r v' k

def fillRow (n : Nat) (e : Kind) : List (Nat × AV) → List e.den → (List e.den → Option A) → Option A
  | [], l, k => k l
  | (i, x) :: r, l, k => setIn n e l i x fun l' => fillRow n e r l' k

def asInt (v : AV) (k : Int → Option A) : Option A :=
  match v with
  | .p (.int _) n => k n
  | _ => none

def indexAddrK (E : Env A) (sub : List (Nat × Blk)) (t : TypeId) (x ix : AV) (k : AV → Option A) : Option A :=
  asInt ix fun i => if 0 ≤ i then E.ti t fun ti =>
    match ti.d with
    | .array n _ => if i < (n : Int) then
        match x with
        | .ptr id path => kindAt sub id path fun K => if K = ti.K then k (.ptr id (path ++ [.idx i.toNat])) else none
        | .vp (.arr n' e) l => if .arr n' e = ti.K then (l[i.toNat]?).bind fun y => k (.vp e y) else none
        | _ => none
      else none
    | .slice _ =>
      match x with
      | .p (.sl K) xs => if .sl K = ti.K then (xs[i.toNat]?).bind fun y => k (.vp K y) else none
      | .row id => look sub id fun
        | .row _ K xs => if .sl K = ti.K then (if i < (xs.length : Int) then k (.ptr id [.idx i.toNat]) else none) else none
        | _ => none
      | .sub id lo len => look sub id fun
        | .row _ K _ => if .sl K = ti.K then (if i < (len : Int) then k (.ptr id [.idx (lo + i.toNat)]) else none) else none
        | _ => none
      | .slc id path lo len => look sub id fun
        | .var _ K _ => match kat K path with
          | some (.arr _ e) => if .sl e = ti.K then (if i < (len : Int) then k (.ptr id (path ++ [.idx (lo + i.toNat)])) else none) else none
          | _ => none
        | _ => none
      | _ => none
    | _ => none
  else none

def fieldAddrK (E : Env A) (sub : List (Nat × Blk)) (t : TypeId) (x : AV) (f : Nat) (k : AV → Option A) : Option A :=
  E.ti t fun ti => match ti.d with
  | .struct ts => if f < ts.length then
      match x with
      | .ptr id path => kindAt sub id path fun K => if K = ti.K then k (.ptr id (path ++ [.fld f])) else none
      | .vp K y => if K = ti.K then getK K [.fld f] y fun | .p K' y' => k (.vp K' y') | _ => none else none
      | _ => none
    else none
  | _ => none

def fieldK (E : Env A) (t : TypeId) (x : AV) (f : Nat) (k : AV → Option A) : Option A :=
  E.ti t fun ti => match ti.d with
  | .struct ts => if f < ts.length then (if x.isAny then none else if x.fits ti.K then getV x [.fld f] k else none) else none
  | _ => none

def loadK (sub : List (Nat × Blk)) (a : AV) (k : AV → Option A) : Option A :=
  match a with
  | .vp K x => k (.p K x)
  | .ptr id path => look sub id fun
    | .var _ _ v => getV v path k
    | .row _ K xs => match path with
      | .idx i :: r => (xs[i]?).bind fun y => getK K r y k
      | _ => none
    | _ => none
  | _ => none

def storeK (sub : List (Nat × Blk)) (a v : AV) (k : List (Nat × Blk) → Option A) : Option A :=
  match a with
  | .ptr id path => look sub id fun
    | .var t K old => setV old K path v fun new => k [(id, .var t K new)]
    | .row t K xs => match path with
      | [.idx i] => setIn xs.length K xs i v fun xs' => k [(id, .row t K xs')]
      | .idx i :: h :: r => (xs[i]?).bind fun y => setK K (h :: r) y v fun y' => setIn xs.length K xs i y' fun xs' => k [(id, .row t K xs')]
      | _ => none
    | _ => none
  | _ => none

/-- Bounds of x[lo:hi], as numbers. -/
def lowK (lo : Option AV) (h : Nat) (k : Nat → Option A) : Option A :=
  match lo with
  | none => k 0
  | some v => asInt v fun l => if 0 ≤ l then (if l ≤ (h : Int) then k l.toNat else none) else none
def boundsK (len : Nat) (lo hi : Option AV) (k : Nat → Nat → Option A) : Option A :=
  match hi with
  | none => lowK lo len fun l => k l len
  | some v => asInt v fun h => if 0 ≤ h then (if h ≤ (len : Int) then lowK lo h.toNat fun l => k l h.toNat else none) else none

def sliceK (E : Env A) (sub : List (Nat × Blk)) (t : TypeId) (x : AV) (lo hi : Option AV) (k : AV → Option A) : Option A :=
  E.ti t fun ti => match ti.d with
  | .slice _ =>
    match x with
    | .p (.sl K) xs => if .sl K = ti.K then boundsK xs.length lo hi fun l h => k (.p (.sl K) ((xs.drop l).take (h - l))) else none
    | .row id => look sub id fun | .row _ K xs => if .sl K = ti.K then boundsK xs.length lo hi fun l h => k (.sub id l (h - l)) else none | _ => none
    | .sub id a n => look sub id fun | .row _ K _ => if .sl K = ti.K then boundsK n lo hi fun l h => k (.sub id (a + l) (h - l)) else none | _ => none
    | .slc id path a n => look sub id fun
      | .var _ K _ => match kat K path with
        | some (.arr _ e) => if .sl e = ti.K then boundsK n lo hi fun l h => k (.slc id path (a + l) (h - l)) else none
        | _ => none
      | _ => none
    | _ => none
  | .array n _ =>
    match x with
    | .ptr id path => look sub id fun
      | .var _ K _ => match kat K path with
        | some K' => if K' = ti.K then boundsK n lo hi fun l h => k (.slc id path l (h - l)) else none
        | none => none
      | _ => none
    | _ => none
  | .prim =>
    match x with
    | .p .str s => if .str = ti.K then boundsK s.size lo hi fun l h => k (.p .str (s.extract l h)) else none
    | _ => none
  | _ => none

def lenK (E : Env A) (sub : List (Nat × Blk)) (t : TypeId) (x : AV) (k : AV → Option A) : Option A :=
  E.ti t fun ti => match ti.d with
  | .slice _ =>
    match x with
    | .p (.sl _) xs => k (.p (.int .i64) xs.length)
    | .row id => look sub id fun | .row _ _ xs => k (.p (.int .i64) xs.length) | _ => none
    | .sub id _ n => look sub id fun | .row _ _ _ => k (.p (.int .i64) n) | _ => none
    | .slc id _ _ n => look sub id fun | .var _ _ _ => k (.p (.int .i64) n) | _ => none
    | _ => none
  | .array n _ => k (.p (.int .i64) n)
  | .prim => match x with
    | .p .str s => if .str = ti.K then k (.p (.int .i64) s.size) else none
    | _ => none
  | .map _ _ => match x with
    | .mp id => look sub id fun | .map _ _ es => k (.p (.int .i64) es.length) | _ => none
    | _ => none
  | _ => none

def appendK (E : Env A) (sub : List (Nat × Blk)) (t : TypeId) (s x : AV) (fresh : Nat) (k : Cont A) : Option A :=
  match s with
  | .row id => look sub id fun
    | .row e K xs => E.ti t fun ti => match ti.d with
      | .slice e' => if e' = e then E.ti e fun tj => if K = tj.K then listK sub x fun K' ys =>
          if h : K' = K then (if (xs.length + ys.length) * tj.bytes ≤ 140737488355328 then k (.row fresh) [(id, .gone), (fresh, .row e K (xs ++ (h ▸ ys)))] else none) else none
        else none else none
      | _ => none
    | _ => none
  | _ => none

def makeSliceK (E : Env A) (t : TypeId) (l c : AV) (fresh : Nat) (k : Cont A) : Option A :=
  asInt l fun n => asInt c fun m => E.ti t fun ti => match ti.d with
  | .slice e => E.ti e fun tj => if 0 ≤ n then (if n ≤ m then (if m * tj.bytes ≤ 140737488355328 then k (.row fresh) [(fresh, .row e tj.K (List.replicate n.toNat tj.K.zero))] else none) else none) else none
  | _ => none

/-- Into a part of an array variable, of one cell an element. -/
def copyK (E : Env A) (t : TypeId) (sub : List (Nat × Blk)) (d x : AV) (k : Cont A) : Option A :=
  E.ti t fun ti => match ti.d with
  | .slice _ => listK sub x fun K ys => match d with
    | .slc id path lo len => look sub id fun
      | .var t' KV v => getV v path fun
        | .p (.arr n e) l => if h : K = e then (if .sl e = ti.K then (if e.size = 1 then
            setV v KV path (.p (.arr n e) (l.take lo ++ ((h ▸ ys).take len ++ l.drop (lo + min ys.length len)))) fun v' => k (.p (.int .i64) (min ys.length len : Nat)) [(id, .var t' KV v')]
          else none) else none) else none
        | _ => none
      | _ => none
    | _ => none
  | _ => none

/-- A map type's kinds. -/
def Env.kv (E : Env A) (t : TypeId) (k : Kind → Kind → Option A) : Option A :=
  E.ti t fun i => match i.d with
  | .map a b => E.ti a fun x => E.ti b fun y => if x.cmp && x.K.isAgg && x.K.flat then k x.K y.K else none
  | _ => none

def makeMapK (E : Env A) (t : TypeId) (fresh : Nat) (k : Cont A) : Option A :=
  E.kv t fun kk kv => k (.mp fresh) [(fresh, .map kk kv [])]

def lookupK (E : Env A) (t : TypeId) (sub : List (Nat × Blk)) (m x : AV) (ok : Bool) (k : AV → Option A) : Option A :=
  E.kv t fun kk kv => match m, x with
  | .mp id, .p KK' x => look sub id fun
    | .map KK KV es => if h : KK' = KK then (if kk = KK then (if kv = KV then
        k (if ok then .tup [.p KV ((mget KK es (h ▸ x)).getD KV.zero), .p .bool (mget KK es (h ▸ x)).isSome] else .p KV ((mget KK es (h ▸ x)).getD KV.zero)) else none) else none)
      else none
    | _ => none
  | _, _ => none

def mapUpdateK (E : Env A) (t : TypeId) (sub : List (Nat × Blk)) (m x v : AV) (k : List (Nat × Blk) → Option A) : Option A :=
  E.kv t fun kk _ => match m, x, v with
  | .mp id, .p KK' x, .p KV' v => look sub id fun
    | .map KK KV es => if h : KK' = KK then (if g : KV' = KV then (if kk = KK then k [(id, .map KK KV (mset KK es (h ▸ x) (g ▸ v)))] else none) else none) else none
    | _ => none
  | _, _, _ => none

def deleteK (E : Env A) (t : TypeId) (sub : List (Nat × Blk)) (m x : AV) (k : List (Nat × Blk) → Option A) : Option A :=
  E.kv t fun kk _ => match m, x with
  | .mp id, .p KK' x => look sub id fun
    | .map KK KV es => if h : KK' = KK then (if kk = KK then k [(id, .map KK KV (mdel KK es (h ▸ x)))] else none) else none
    | _ => none
  | _, _ => none

def clearK (E : Env A) (t : TypeId) (sub : List (Nat × Blk)) (m : AV) (k : List (Nat × Blk) → Option A) : Option A :=
  E.kv t fun _ _ => match m with
  | .mp id => look sub id fun | .map KK KV _ => k [(id, .map KK KV [])] | _ => none
  | _ => none

/-- An entry, for an operation and a store: its value, and its stamp. -/
def mapEntryK (E : Env A) (t : TypeId) (sub : List (Nat × Blk)) (m x : AV) (fresh : Nat) (k : Cont A) : Option A :=
  E.kv t fun kk kv => match m, x with
  | .mp id, .p KK' x => look sub id fun
    | .map KK KV es => if h : KK' = KK then (if kk = KK then (if kv = KV then
        k (.tup [.p KV ((mget KK es (h ▸ x)).getD KV.zero), .mp fresh]) [(fresh, .stp), (id, .ment KK KV (mset KK es (h ▸ x) ((mget KK es (h ▸ x)).getD KV.zero)) (h ▸ x) fresh)] else none) else none)
      else none
    | _ => none
  | _, _ => none

def entryStoreK (sub : List (Nat × Blk)) (m s v : AV) (k : List (Nat × Blk) → Option A) : Option A :=
  match m, s, v with
  | .mp id, .mp g, .p KV' v => look sub id fun
    | .ment KK KV es x g' => if g' = g then (if h : KV' = KV then look sub g fun | .stp => k [(id, .map KK KV (mset KK es x (h ▸ v)))] | _ => none else none) else none
    | _ => none
  | _, _, _ => none

def nilB (op : BinOp) (b : Bool) (c : AV → Option A) : Option A :=
  match op with
  | .eql => c (.p .bool b)
  | .neq => c (.p .bool (!b))
  | _ => none

/-- '==' with nil, besides. -/
def binS (E : Env A) (sub : List (Nat × Blk)) (op : BinOp) (t : TypeId) (x y : AV) (c : AV → Option A) : Option A :=
  match y with
  | .nilp => E.ti t fun i => match i.d with
    | .ptr _ => match x with
      | .nilp => nilB op true c
      | .ptr id q => kindAt sub id q fun _ => nilB op false c
      | .vp _ _ => nilB op false c
      | _ => none
    | _ => none
  | y => binK E op t x y c

def castL {K K' : Kind} (h : K = K') (ys : List K.den) : List K'.den := h ▸ ys

def isNum : AV → Bool
  | .p (.int _) _ => true
  | _ => false

def convertK (E : Env A) (sub : List (Nat × Blk)) (src dst : TypeId) (x : AV) (_fresh : Nat) (k : Cont A) : Option A :=
  E.ti src fun si => E.ti dst fun ti =>
    bif isNum x then match ti.K, x with
      | .int q, .p (.int _) n => k (.p (.int q) (q.wrap n)) []
      | _, _ => none
    else match ti.K, si.d with
      | .str, .slice e => E.ti e fun ei => listK sub x fun K ys => if h : K = .int .u8 then (if ei.K = .int .u8 then k (.p .str (mkStr (castL h ys))) [] else none) else none
      | _, _ => none

def indexK (E : Env A) (t : TypeId) (x ix : AV) (k : AV → Option A) : Option A :=
  asInt ix fun i => if 0 ≤ i then E.ti t fun ti =>
    match x with
    | .p (.arr n e) l => if .arr n e = ti.K then (l[i.toNat]?).bind fun y => k (.p e y) else none
    | .p .str s => if .str = ti.K then ((strBytes s)[i.toNat]?).bind fun y => k (.p (.int .u8) y) else none
    | _ => none
  else none

def foldInt (f : Int → Int → Int) : List AV → AV → (AV → Option A) → Option A
  | [], v, k => k v
  | x :: r, v, k => match v, x with
    | .p (.int q) a, .p (.int q') b => if q = q' then foldInt f r (.p (.int q) (f a b)) k else none
    | _, _ => none

-- ------------------------------------------------------------ calls

/-- A nil slice handed over is a list with nothing in it. -/
def argV (E : Env A) (t : TypeId) (ev : Operand → AV) (x : Operand) (k : AV → Option A) : Option A :=
  match x with
  | .const (.slice none 0 0) => E.ti t fun i => match i.K with
    | .sl K => k (.p (.sl K) [])
    | _ => none
  | x => k (ev x)

def argsV (E : Env A) (ev : Operand → AV) : List (TypeId × Operand) → (List AV → Option A) → Option A
  | [], k => k []
  | (t, x) :: r, k => argV E t ev x fun v => argsV E ev r fun vs => k (v :: vs)

/-- Handed over: as data, but for what may be written to. -/
def passK (sub : List (Nat × Blk)) : List Bool → List AV → (List AV → Option A) → Option A
  | _, [], k => k []
  | true :: os, v :: vs, k => passK sub os vs fun vs' => k (v :: vs')
  | false :: os, v :: vs, k => pureK sub v fun v' => passK sub os vs fun vs' => k (v' :: vs')
  | [], v :: vs, k => pureK sub v fun v' => passK sub [] vs fun vs' => k (v' :: vs')

/-- The numbers behind what is handed over as data. -/
def pureIds : List Bool → List AV → List Nat
  | _, [] => []
  | true :: os, _ :: vs => pureIds os vs
  | false :: os, v :: vs => v.ids ++ pureIds os vs
  | [], v :: vs => v.ids ++ pureIds [] vs

/-- The blocks that some lead to, in order. -/
def closure (bid : Nat → List Nat) : Nat → List Nat → List Nat → List Nat
  | 0, _, acc => acc
  | _ + 1, [], acc => acc
  | f + 1, id :: r, acc => if acc.contains id then closure bid f r acc else closure bid f (bid id ++ r) (acc ++ [id])

def blkIds (hp : List Blk) (id : Nat) : List Nat := match hp[id]? with | some b => b.ids | none => []
def subIds (sub : List (Nat × Blk)) (id : Nat) : List Nat := match sub.lookup id with | some b => b.ids | none => []

def pos (l : List Nat) (id : Nat) : Option Nat := match l.findIdx? (· == id) with | some i => some i | none => none

/-- May it tell of cells that lie in blocks of others? -/
def AV.hasSl : AV → Bool
  | .p K _ => K.hasSl
  | .pr a b => a.hasSl || b.hasSl
  | .vp _ _ => true
  | .tup vs => vs.any fun | .p K _ => K.hasSl | _ => true
  | _ => false

def Blk.hasSl : Blk → Bool
  | .var _ _ v => v.hasSl
  | .row _ K _ => K.hasSl
  | .map KK KV _ | .ment KK KV _ _ _ => KK.hasSl || KV.hasSl
  | _ => false

def disjointB (a b : List Nat) : Bool := a.all fun x => !b.contains x

/-- The number that a callee's block has for the caller: 'l': the blocks handed over. -/
def backN (l : List Nat) (fresh i : Nat) : Nat := match l[i]? with | some id => id | none => fresh + (i - l.length)

/-- What was handed over is what the callee made of it; what the callee made comes back under new numbers; if what comes back may lie in what was handed over as data, nobody writes that any more. -/
def callK (E : Env A) (f : FuncId) (args : List AV) (sub : List (Nat × Blk)) (fresh : Nat) (k : Cont A) : Option A :=
  match E.fns.lookup f with
  | none => none
  | some en => passK sub en.own args fun vs =>
    let l := closure (subIds sub) 1000 (vs.flatMap AV.ids) []
    bif disjointB (pureIds en.own args) l && l.all (fun id => ((sub.lookup id).getD .free).there) then
      en.run (vs.map fun v => v.ren (pos l)) (l.map fun id => ((sub.lookup id).getD .gone).ren (pos l)) fun r hp =>
        k (r.ren fun i => some (backN l fresh i)) ((bif r.hasSl || hp.any Blk.hasSl then (pureIds en.own args).map fun id => (id, Blk.gone) else []) ++ hp.zipIdx.map fun q => (backN l fresh q.2, q.1.ren fun i => some (backN l fresh i)))
    else none

-- ------------------------------------------------------------ an operation

def opK (E : Env A) (o : Oper) (ev : Operand → AV) (sub : List (Nat × Blk)) (fresh : Nat) (k : Cont A) : Option A :=
  let v (v : AV) : Option A := k v []
  let u (l : List (Nat × Blk)) : Option A := k .any l
  match o.op with
  | .move x | .assign x => moveK E o.dst o.type ev x fresh k
  | .pick c a b => match ev c with
    | .p .bool t => bif t then v (ev a) else v (ev b)
    | _ => none
  | .alloc t => E.ti t fun i => k (.ptr fresh []) [(fresh, .var t i.K (.p i.K i.K.zero))]
  | .box t x => E.ti t fun i => if (ev x).isAny then none else if (ev x).fits i.K then k (.ptr fresh []) [(fresh, .var t i.K (ev x))] else none
  | .build t ps => E.ti t fun i => if i.d.agg then fillK i.K (ps.toList.map fun q => (q.1, nilAs (kat i.K [hopOf i.K q.1]) q.2 (ev q.2))) (.p i.K i.K.zero) v else none
  | .buildSlice t n ps => E.ti t fun i => match i.d with
    | .slice e => E.ti e fun j => if n * j.K.size ≤ 16777216 then fillRow n j.K (ps.toList.map fun q => (q.1, ev q.2)) (List.replicate n j.K.zero) fun l => k (.row fresh) [(fresh, .row e j.K l)] else none
    | _ => none
  | .load t a => loadK sub (ev a) fun y => E.ti t fun i => if y.fits i.K then v y else none
  | .store t a x => E.ti t fun i => if (nilAs (some i.K) x (ev x)).isAny then none else if (nilAs (some i.K) x (ev x)).fits i.K then storeK sub (ev a) (nilAs (some i.K) x (ev x)) u else none
  | .nilCheck x => match ev x with
    | .ptr id q => kindAt sub id q fun _ => v (.ptr id q)
    | .vp K y => v (.vp K y)
    | _ => none
  | .binOp op t x y _ => binS E sub op t (ev x) (ev y) v
  | .unOp op _ x => unK op (ev x) v
  | .convert src dst x => convertK E sub src dst (ev x) fresh k
  | .makeSlice t l c => makeSliceK E t (ev l) (ev c) fresh k
  | .makeMap t r => match r with
    | none => makeMapK E t fresh k
    | some x => asInt (ev x) fun _ => makeMapK E t fresh k
  | .slice t x lo hi none => sliceK E sub t (ev x) (lo.map ev) (hi.map ev) v
  | .fieldAddr t x f => fieldAddrK E sub t (ev x) f v
  | .field t x f => fieldK E t (ev x) f v
  | .indexAddr t x ix => indexAddrK E sub t (ev x) (ev ix) v
  | .index t x ix => indexK E t (ev x) (ev ix) v
  | .lookup t m x ok => lookupK E t sub (ev m) (ev x) ok v
  | .mapUpdate t m x y | .insert t m x y => mapUpdateK E t sub (ev m) (ev x) (ev y) u
  | .mapEntry t m x => mapEntryK E t sub (ev m) (ev x) fresh k
  | .entryStore _ m s x => entryStoreK sub (ev m) (ev s) (ev x) u
  | .extract x i => match ev x with
    | .tup vs => match vs[i]? with | some y => v y | none => none
    | _ => none
  | .call c => match c.callee with
    | .value (.func f) => if c.argTypes.size = c.args.size then argsV E ev (c.argTypes.toList.zip c.args.toList) fun args => callK E f args sub fresh k else none
    | .builtin .len => match c.args.toList, c.argTypes.toList with | [x], t :: _ => lenK E sub t (ev x) v | _, _ => none
    | .builtin .append => match c.args.toList, c.argTypes.toList with | [s, x], [t, t'] => if t' = t then appendK E sub t (ev s) (ev x) fresh k else none | _, _ => none
    | .builtin .copy => match c.args.toList, c.argTypes.toList with | [d, x], [t, _] => copyK E t sub (ev d) (ev x) k | _, _ => none
    | .builtin .delete => match c.args.toList, c.argTypes.toList with | [m, x], t :: _ => deleteK E t sub (ev m) (ev x) (k (.tup [])) | _, _ => none
    | .builtin .clear => match c.args.toList, c.argTypes.toList with | [m], t :: _ => clearK E t sub (ev m) (k (.tup [])) | _, _ => none
    | .builtin .min => match c.args.toList with | x :: r => foldInt imin (r.map ev) (ev x) v | _ => none
    | .builtin .max => match c.args.toList with | x :: r => foldInt imax (r.map ev) (ev x) v | _ => none
    | _ => none
  | _ => none

-- ------------------------------------------------------------ states

def St.ev (gl : GL) (s : St) : Operand → AV
  | .tmp t => s.tm.getD t .any
  | .const v => ofValue v
  | .global g => glv gl g
  | _ => .any

def St.put (s : St) (d : Option Tmp) (v : AV) : St :=
  match d with
  | some d => { s with tm := s.tm.set d v }
  | none => s

def hpSet (hp : List Blk) (id : Nat) (b : Blk) : List Blk :=
  if id < hp.length then hp.set id b else hp ++ (List.replicate (id - hp.length) .free ++ [b])

def asg (hp : List Blk) : List (Nat × Blk) → List Blk
  | [] => hp
  | (id, b) :: r => asg (hpSet hp id b) r

def opIds (s : St) (o : Oper) : List Nat := o.op.operands.toList.flatMap fun x => (St.ev [] s x).ids

/-- Does it hand a value on, without a look at what it leads to? -/
def _root_.Go.Op.still : Op → Bool
  | .move _ | .assign _ => true
  | _ => false

/-- What an operation may look at. -/
def St.sub (s : St) (o : Oper) : List (Nat × Blk) :=
  (bif o.op.still then [] else closure (blkIds s.hp) 1000 (opIds s o) []).filterMap fun id => match s.hp[id]? with | some Blk.free => none | some b => some (id, b) | none => none

structure FP where
  r : List Nat
  w : List Nat

def execK (E : Env A) (o : Oper) (s : St) (fps : List FP) (k : St → List FP → Option A) : Option A :=
  opK E o (St.ev E.gl s) (s.sub o) s.hp.length fun v l => k { (s.put o.dst v) with hp := asg s.hp l } (⟨(s.sub o).map (·.1), l.map (·.1)⟩ :: fps)

def opsK (E : Env A) (ops : Array Oper) : List Oper → St → List FP → (St → List FP → Option A) → Option A
  | [], s, fps, k => k s fps
  | o :: r, s, fps, k =>
    match o.guard with
    | none => execK E o s fps fun s' fps' => opsK E ops r s' fps' k
    | some (j, want) =>
      match (ops[j]?).bind (·.dst) with
      | none => none
      | some g =>
        match s.tm[g]? with
        | some (.p .bool b) =>
          let go (t : Bool) (s : St) : Option A :=
            if t = want then execK E o s fps fun s' fps' => opsK E ops r s' fps' k
            else opsK E ops r (s.put o.dst (.tup [])) (⟨[], []⟩ :: fps) k
          bif b then go true (s.put (some g) (.p .bool true)) else go false (s.put (some g) (.p .bool false))
        | some (.tup []) => opsK E ops r (s.put o.dst (.tup [])) (⟨[], []⟩ :: fps) k
        | _ => none

/-- The edges that bind whatever the order. -/
def _root_.Go.Oper.held (o : Oper) : List Edge := o.after.toList.filter fun e => Region.binds .any e

/-- Of each operation those that it waits for, on and on. -/
def waitsFor (ops : List Oper) : List (List Nat) :=
  ops.foldl (fun acc o => acc ++ [o.held.foldl (fun l e => if l.contains e.on then l else l ++ e.on :: ((acc.getD e.on []).filter fun x => !l.contains x)) []]) []

def _root_.Go.Op.isLook : Op → Bool
  | .lookup _ _ _ false => true
  | _ => false
def _root_.Go.Op.isEntry : Op → Bool
  | .mapEntry _ _ _ => true
  | _ => false

/-- A value looked up in a map, and an entry of that map taken: whichever comes first, the value is the same. -/
def softB (ops : Array Oper) (fps : List FP) (i j : Nat) : Bool :=
  match ops[i]?, ops[j]?, fps[i]? with
  | some oi, some oj, some fi => oi.op.isLook && oj.op.isEntry && oi.apart ops oj && fi.w.isEmpty &&
      ((List.range ops.size).all fun k => k == j || match ops[k]? with | some ok => !ok.op.isEntry | none => true) &&
      ((List.range ops.size).all fun k => !(decide (i < k) && decide (k < j)) || match fps[k]? with | some fk => disjointB fk.w fi.r | none => false)
  | _, _, _ => false

def indepB (ops : Array Oper) (fps : List FP) : Bool :=
  Region.noSelect ops &&
  (List.range ops.size).all fun j => match ops[j]?, fps[j]? with
    | some oj, some fj => (oj.held.all fun e => decide (e.on < j)) &&
      (List.range j).all fun i => ((waitsFor ops.toList).getD j []).contains i || match ops[i]?, fps[i]? with
        | some oi, some fi => (oi.apart ops oj && disjointB fi.w (fj.r ++ fj.w) && disjointB fj.w fi.r) || softB ops fps i j
        | _, _ => false
    | _, _ => false

def regionK (E : Env A) (ops : Array Oper) (draw : Bool) (s : St) (k : St → Option A) : Option A :=
  opsK E ops ops.toList s [] fun s' fps => bif draw then (bif indepB ops fps.reverse then k s' else none) else k s'

def dsts : Code → List Nat
  | .region _ ops _ => ops.toList.filterMap (·.dst)
  | .seq a b => dsts a ++ dsts b
  | .cond _ a b => dsts a ++ dsts b
  | .block _ c | .loop c | .scope c => dsts c
  | _ => []

def deadOf (c : Code) (s : St) : List Nat := (dsts c).filter fun i => (s.tm.getD i .any).isAny

def canonTm (dead : List Nat) (s : St) : List AV := s.tm.zipIdx.map fun (v, i) => if dead.contains i then AV.any else v
def canonL (dead : List Nat) (s : St) : List Nat := closure (blkIds s.hp) 1000 (List.range s.m ++ (canonTm dead s).flatMap AV.ids) []

/-- Slots that are dead forgotten; blocks that nothing leads to forgotten; the others numbered in order. The first ones ('m') keep their numbers. -/
def canon (dead : List Nat) (s : St) : St :=
  { tm := (canonTm dead s).map fun v => v.ren (pos (canonL dead s)), hp := (canonL dead s).map fun id => (s.hp.getD id .gone).ren (pos (canonL dead s)), m := s.m }

def canonK (dead : List Nat) (s : St) (k : St → Option A) : Option A :=
  bif (canonL dead s).take s.m == List.range s.m then k (canon dead s) else none

def seqC (next : St → (Ex → St → Option A) → Option A) (k : Ex → St → Option A) : Ex → St → Option A
  | .normal, s => next s k
  | x, s => k x s

def blockC (id : Nat) (k : Ex → St → Option A) : Ex → St → Option A
  | .exit j, s => if j = id then k .normal s else k (.exit j) s
  | x, s => k x s

/-- 'dead', 'xdead': the slots that the next round, what comes behind the loop, does without. -/
def loopK (step : St → (Ex → St → Option A) → Option A) (dead xdead : List Nat) : Nat → St → (Ex → St → Option A) → Option A
  | 0, _, _ => none
  | f + 1, s, k => step s fun x s' => match x with
    | .normal => canonK dead s' fun s' => loopK step dead xdead f s' k
    | x => canonK xdead s' fun s' => k x s'

/-- How many loops. -/
def loops : Code → Nat
  | .seq a b => loops a + loops b
  | .cond _ a b => loops a + loops b
  | .block _ c | .scope c => loops c
  | .loop c => loops c + 1
  | _ => 0

/-- Code whose first loop has that number. -/
def codeK (E : Env A) (j : Nat) : Code → St → (Ex → St → Option A) → Option A
  | .skip => fun s k => k .normal s
  | .region _ ops draw => fun s k => regionK E ops draw s (k .normal)
  | .seq a b => fun s k => codeK E j a s (seqC (codeK E (j + loops a) b) k)
  | .cond c a b => fun s k => match c with
    | .tmp t => match s.tm[t]? with
      | some (.p .bool q) => bif q then codeK E j a (s.put (some t) (.p .bool true)) k else codeK E (j + loops a) b (s.put (some t) (.p .bool false)) k
      | _ => none
    | .const (.bool q) => bif q then codeK E j a s k else codeK E (j + loops a) b s k
    | _ => none
  | .block id c => fun s k => codeK E j c s (blockC id k)
  | .loop _ => fun s k => match E.lps.lookup j with
    | some L => canonK L.dead s fun s => L.run s k
    | none => none
  | .exit id => fun s k => k (.exit id) s
  | .ret => fun s k => k .ret s
  | _ => fun _ _ => none

def resultsK (E : Env A) (s : St) : List ResultVar → (List AV → Option A) → Option A
  | [], k => k []
  | .tmp t :: r, k => resultsK E s r fun vs => k (s.tm.getD t .any :: vs)
  | .cell t ty :: r, k => loadK (s.hp.zipIdx.map fun q => (q.2, q.1)) (s.tm.getD t .any) fun y => E.ti ty fun i => if y.fits i.K then resultsK E s r fun vs => k (y :: vs) else none

def giveK (hp : List (Nat × Blk)) : List RMode → List AV → (List AV → Option A) → Option A
  | [], [], k => k []
  | .pure :: ms, v :: vs, k => pureK hp v fun v' => giveK hp ms vs fun vs' => k (v' :: vs')
  | .own :: ms, v :: vs, k => if v.isTup then none else giveK hp ms vs fun vs' => k (v :: vs')
  | _, _, _ => none

def tupOf : List AV → AV
  | [v] => v
  | vs => .tup vs

/-- The numbers behind what is handed back as data. -/
def viewIds : List RMode → List AV → List Nat
  | .pure :: ms, v :: vs => v.ids ++ viewIds ms vs
  | .own :: ms, _ :: vs => viewIds ms vs
  | _, _ => []

def endK (E : Env A) (fn : Func) (rm : List RMode) (k : AV → List Blk → Option A) : Ex → St → Option A
  | .exit _, _ => none
  | _, s => resultsK E s fn.results.toList fun vs => giveK (s.hp.zipIdx.map fun q => (q.2, q.1)) rm vs fun rs =>
    let l := closure (blkIds s.hp) 1000 (List.range s.m ++ rs.flatMap AV.ids) []
    bif disjointB (viewIds rm vs) l && (l.take s.m == List.range s.m) then k (tupOf (rs.map fun v => v.ren1 (pos l))) (l.map fun id => (s.hp.getD id .gone).ren (pos l)) else none

/-- The form of a slot. -/
inductive Sh where
  | any
  | p (K : Kind)
  | pr (a b : Sh)
  | row (id : Nat)
  | ptr (id : Nat)
  | mp (id : Nat)
  | nilp
  | slc (id : Nat)

@[reducible] def Sh.den : Sh → Type
  | .p K => K.den
  | .pr a b => a.den × b.den
  | .slc _ => Nat × Nat
  | _ => Unit

def Sh.fill : (h : Sh) → h.den → AV
  | .any, _ => .any
  | .p K, x => .p K x
  | .pr a b, x => .pr (a.fill x.1) (b.fill x.2)
  | .row id, _ => .row id
  | .ptr id, _ => .ptr id []
  | .mp id, _ => .mp id
  | .nilp, _ => .nilp
  | .slc id, x => .slc id [] x.1 x.2

def Sh.read : (h : Sh) → AV → Option h.den
  | .any, .any => some ()
  | .p K, .p K' x => if h : K' = K then some (h ▸ x) else none
  | .pr a b, .pr v w => match a.read v, b.read w with
    | some x, some y => some (x, y)
    | _, _ => none
  | .row id, .row id' => if id' = id then some () else none
  | .ptr id, .ptr id' [] => if id' = id then some () else none
  | .mp id, .mp id' => if id' = id then some () else none
  | .nilp, .nilp => some ()
  | .slc id, .slc id' [] lo len => if id' = id then some (lo, len) else none
  | _, _ => none

inductive BSh where
  | var (t : TypeId) (K : Kind) (h : Sh)
  | row (t : TypeId) (K : Kind)
  | map (KK KV : Kind)
  | gone

@[reducible] def BSh.den : BSh → Type
  | .var _ _ h => h.den
  | .row _ K => List K.den
  | .map KK KV => List (KK.den × KV.den)
  | .gone => Unit

def BSh.fill : (h : BSh) → h.den → Blk
  | .var t K h, x => .var t K (h.fill x)
  | .row t K, x => .row t K x
  | .map KK KV, x => .map KK KV x
  | .gone, _ => .gone

def BSh.read : (h : BSh) → Blk → Option h.den
  | .var t K h, .var t' K' v => if t' = t ∧ K' = K then h.read v else none
  | .row t K, .row t' K' x => if h : K' = K then (if t' = t then some (h ▸ x) else none) else none
  | .map KK KV, .map KK' KV' x => if h : KK' = KK then (if g : KV' = KV then some (h ▸ g ▸ x) else none) else none
  | .gone, .gone => some ()
  | _, _ => none

@[reducible] def shDen : List Sh → Type
  | [] => Unit
  | h :: r => h.den × shDen r
@[reducible] def bshDen : List BSh → Type
  | [] => Unit
  | h :: r => h.den × bshDen r

def shFill : (hs : List Sh) → shDen hs → List AV
  | [], _ => []
  | h :: r, x => h.fill x.1 :: shFill r x.2
def bshFill : (hs : List BSh) → bshDen hs → List Blk
  | [], _ => []
  | h :: r, x => h.fill x.1 :: bshFill r x.2

def shRead : (hs : List Sh) → List AV → Option (shDen hs)
  | [], [] => some ()
  | h :: r, v :: vs => match h.read v, shRead r vs with
    | some x, some y => some (x, y)
    | _, _ => none
  | _, _ => none
def bshRead : (hs : List BSh) → List Blk → Option (bshDen hs)
  | [], [] => some ()
  | h :: r, v :: vs => match h.read v, bshRead r vs with
    | some x, some y => some (x, y)
    | _, _ => none
  | _, _ => none

/-- The form of a state at a loop's head. -/
structure Shape where
  tm : List Sh
  hp : List BSh
  m : Nat

@[reducible] def Shape.den (S : Shape) : Type := shDen S.tm × bshDen S.hp
def Shape.fill (S : Shape) (d : S.den) : St := { tm := shFill S.tm d.1, hp := bshFill S.hp d.2, m := S.m }

/-- A loop's entry: the state read as the form says. -/
def loopE (dead : List Nat) (S : Shape) (g : S.den → (Ex → St → Option A) → Option A) : Loop A := ⟨dead, fun s k =>
  if s.m = S.m then match shRead S.tm s.tm, bshRead S.hp s.hp with
    | some x, some y => g (x, y) k
    | _, _ => none else none⟩

/-- An argument of a function that is data. -/
def argD (v : AV) (K : Kind) (k : K.den → Option A) : Option A :=
  match v with
  | .p K' x => if h : K' = K then k (h ▸ x) else none
  | _ => none

def args0 (args : List AV) (g : Option A) : Option A := match args with | [] => g | _ => none
def args1 (args : List AV) (K0 : Kind) (g : K0.den → Option A) : Option A := match args with | [v0] => argD v0 K0 g | _ => none
def args2 (args : List AV) (K0 K1 : Kind) (g : K0.den → K1.den → Option A) : Option A := match args with | [v0, v1] => argD v0 K0 fun a0 => argD v1 K1 fun a1 => g a0 a1 | _ => none
def args3 (args : List AV) (K0 K1 K2 : Kind) (g : K0.den → K1.den → K2.den → Option A) : Option A := match args with | [v0, v1, v2] => argD v0 K0 fun a0 => argD v1 K1 fun a1 => argD v2 K2 fun a2 => g a0 a1 a2 | _ => none
def args4 (args : List AV) (K0 K1 K2 K3 : Kind) (g : K0.den → K1.den → K2.den → K3.den → Option A) : Option A := match args with | [v0, v1, v2, v3] => argD v0 K0 fun a0 => argD v1 K1 fun a1 => argD v2 K2 fun a2 => argD v3 K3 fun a3 => g a0 a1 a2 a3 | _ => none

/-- '==' of data. -/
def deq (K : Kind) (x y : K.den) : Bool := @decide (x = y) (K.dec x y)

/-- A part of code. -/
def codeAt : List Nat → Code → Code
  | [], c => c
  | i :: r, c => match c with
    | .seq a b => codeAt r (if i = 0 then a else b)
    | .cond _ a b => codeAt r (if i = 0 then a else b)
    | .block _ a | .loop a | .scope a => codeAt r a
    | c => c
def bodyOf (f : Func) : Code := f.body.getD .skip

def fnK (E : Env A) (fn : Func) (rm : List RMode) (args : List AV) (hp : List Blk) (k : AV → List Blk → Option A) : Option A :=
  match fn.body with
  | some c => codeK E 0 c { tm := args ++ List.replicate (fn.ntmps - args.length) .any, hp := hp, m := hp.length } (endK E fn rm k)
  | none => none

/-- A function all of whose arguments are data. -/
def pureE (g : List AV → (AV → List Blk → Option A) → Option A) : Entry A := ⟨[], fun args hp k => match hp with | [] => g args k | _ => none⟩

/-- A function that is handed blocks of a form. -/
def ownE (own : List Bool) (S : Shape) (g : S.den → (AV → List Blk → Option A) → Option A) : Entry A := ⟨own, fun args hp k =>
  match shRead S.tm args, bshRead S.hp hp with
  | some x, some y => g (x, y) k
  | _, _ => none⟩

end Go.Ev
end

section
/-
  THE EVALUATOR's STATES AGAINST THE MODEL's: what it means that a world holds the data that an abstract state tells; parts of data are parts of cells.
-/
namespace Go.Ev

inductive All2 {α β : Type} (R : α → β → Prop) : List α → List β → Prop where
  | nil : All2 R [] []
  | cons {a : α} {b : β} {as : List α} {bs : List β} : R a b → All2 R as bs → All2 R (a :: as) (b :: bs)

namespace All2
variable {α β : Type} {R S : α → β → Prop}
theorem length {as : List α} {bs : List β} (h : All2 R as bs) : as.length = bs.length := by
  induction h with
  | nil => rfl
  | cons _ _ ih => simp [ih]
theorem imp {as : List α} {bs : List β} (h : All2 R as bs) (f : ∀ a b, a ∈ as → b ∈ bs → R a b → S a b) : All2 S as bs := by
  induction h with
  | nil => exact .nil
  | cons h1 _ ih => exact .cons (f _ _ (by simp) (by simp) h1) (ih fun a b ha hb => f a b (by simp [ha]) (by simp [hb]))
theorem get {as : List α} {bs : List β} (h : All2 R as bs) : ∀ {i : Nat} {a : α}, as[i]? = some a → ∃ b, bs[i]? = some b ∧ R a b := by
  induction h with
  | nil => intro i a h; simp at h
  | cons h1 _ ih =>
    intro i a h
    cases i with
    | zero => simp at h; subst h; exact ⟨_, by simp, h1⟩
    | succ i => simp at h; simpa using ih h
theorem get' {as : List α} {bs : List β} (h : All2 R as bs) : ∀ {i : Nat} {b : β}, bs[i]? = some b → ∃ a, as[i]? = some a ∧ R a b := by
  induction h with
  | nil => intro i a h; simp at h
  | cons h1 _ ih =>
    intro i a h
    cases i with
    | zero => simp at h; subst h; exact ⟨_, by simp, h1⟩
    | succ i => simp at h; simpa using ih h
theorem append {as as' : List α} {bs bs' : List β} (h : All2 R as bs) (h' : All2 R as' bs') : All2 R (as ++ as') (bs ++ bs') := by
  induction h with
  | nil => exact h'
  | cons h1 _ ih => exact .cons h1 ih
theorem drop {as : List α} {bs : List β} (h : All2 R as bs) (n : Nat) : All2 R (as.drop n) (bs.drop n) := by
  induction h generalizing n with
  | nil => simp; exact .nil
  | cons h1 h2 ih => cases n with
    | zero => exact .cons h1 h2
    | succ n => simpa using ih n
theorem take {as : List α} {bs : List β} (h : All2 R as bs) (n : Nat) : All2 R (as.take n) (bs.take n) := by
  induction h generalizing n with
  | nil => simp; exact .nil
  | cons h1 h2 ih => cases n with
    | zero => exact .nil
    | succ n => simpa using All2.cons h1 (ih n)
theorem set {as : List α} {bs : List β} (h : All2 R as bs) (i : Nat) {a : α} {b : β} (hab : R a b) : All2 R (as.set i a) (bs.set i b) := by
  induction h generalizing i with
  | nil => simp; exact .nil
  | cons h1 h2 ih => cases i with
    | zero => exact .cons hab h2
    | succ i => exact .cons h1 (ih i)
theorem of_get {as : List α} {bs : List β} (hl : as.length = bs.length) (h : ∀ (i : Nat) (a : α) (b : β), as[i]? = some a → bs[i]? = some b → R a b) : All2 R as bs := by
  induction as generalizing bs with
  | nil => cases bs with
    | nil => exact .nil
    | cons => simp at hl
  | cons a as ih => cases bs with
    | nil => simp at hl
    | cons b bs => exact .cons (h 0 a b (by simp) (by simp)) (ih (by simpa using hl) fun i x y hx hy => h (i + 1) x y (by simpa using hx) (by simpa using hy))
theorem replicate {a : α} {b : β} (h : R a b) : ∀ n, All2 R (List.replicate n a) (List.replicate n b)
  | 0 => .nil
  | n + 1 => .cons h (replicate h n)
end All2

/-- Where blocks lie. -/
abbrev Place := Nat → Option Nat

/-- Where data is read: 'F': the blocks that nobody writes. -/
structure Cx where
  ρ : Place
  hp : List Blk
  F : Nat → Prop
  w : World

def Blk.live : Blk → Bool
  | .var _ _ _ | .row _ _ _ | .map _ _ _ | .ment _ _ _ _ _ => true
  | _ => false

def Cx.Own (X : Cx) (b : Nat) : Prop := ∃ id blk, X.hp[id]? = some blk ∧ blk.live = true ∧ X.ρ id = some b

/-- Cells as data of a kind. -/
def RP (F : Nat → Prop) (w : World) : (K : Kind) → K.den → List Value → Prop
  | .int k => fun (n : Int) cs => cs = [.int k n]
  | .bool => fun (b : Bool) cs => cs = [.bool b]
  | .str => fun (s : ByteArray) cs => cs = [.string s]
  | .opq => fun _ cs => ∃ v : Value, cs = [v] ∧ v.oneCell' = true
  | .unit => fun _ cs => cs = []
  | .pair a b => fun (x : a.den × b.den) cs => ∃ c1 c2, cs = c1 ++ c2 ∧ RP F w a x.1 c1 ∧ RP F w b x.2 c2
  | .arr n e => fun (l : List e.den) cs => l.length = n ∧ ∃ css, cs = css.flatten ∧ All2 (RP F w e) l css
  | .sl e => fun (l : List e.den) cs => ∃ ao cap, cs = [.slice ao l.length cap] ∧ l.length ≤ cap ∧
      (0 < l.length → ∃ ad css, ao = some ad ∧ F ad.block ∧ All2 (RP F w e) l css ∧ ∀ j v, css.flatten[j]? = some v → w.cell? (ad.add j) = some v)

theorem flatten_length {α : Type} {css : List (List α)} {m : Nat} (h : ∀ c ∈ css, c.length = m) : css.flatten.length = css.length * m := by
  induction css with
  | nil => simp
  | cons c r ih =>
    have h1 := h c (by simp)
    have h2 := ih fun c hc => h c (by simp [hc])
    simp [h1, h2, Nat.add_mul, Nat.add_comm]

theorem RP.length {F : Nat → Prop} {w : World} : ∀ {K : Kind} {x : K.den} {cs : List Value}, RP F w K x cs → cs.length = K.size
  | .int _, _, _, h => by simp [RP] at h; simp [h, Kind.size]
  | .bool, _, _, h => by simp [RP] at h; simp [h, Kind.size]
  | .str, _, _, h => by simp [RP] at h; simp [h, Kind.size]
  | .opq, _, _, h => by obtain ⟨v, rfl, _⟩ := h; simp [Kind.size]
  | .unit, _, _, h => by simp [RP] at h; simp [h, Kind.size]
  | .pair a b, _, _, h => by
    obtain ⟨c1, c2, rfl, h1, h2⟩ := h
    simp [Kind.size, RP.length h1, RP.length h2]
  | .arr n e, _, _, h => by
    obtain ⟨hl, css, rfl, h1⟩ := h
    have h2 : css.flatten.length = css.length * e.size := flatten_length fun c hc => by
      obtain ⟨i, hi⟩ := List.mem_iff_getElem?.1 hc
      obtain ⟨a, _, ha⟩ := h1.get' hi
      exact RP.length ha
    rw [h2, ← h1.length, hl]; rfl
  | .sl e, _, _, h => by obtain ⟨_, _, rfl, _⟩ := h; simp [Kind.size]

theorem RP.one {F : Nat → Prop} {w : World} : ∀ {K : Kind} {x : K.den} {cs : List Value}, RP F w K x cs → ∀ u ∈ cs, u.oneCell' = true
  | .int _, _, _, h => by simp [RP] at h; simp [h, Value.oneCell']
  | .bool, _, _, h => by simp [RP] at h; simp [h, Value.oneCell']
  | .str, _, _, h => by simp [RP] at h; simp [h, Value.oneCell']
  | .opq, _, _, h => by obtain ⟨v, rfl, h1⟩ := h; simp [h1]
  | .unit, _, _, h => by simp [RP] at h; simp [h]
  | .pair a b, _, _, h => by
    obtain ⟨c1, c2, rfl, h1, h2⟩ := h
    intro u hu
    rcases List.mem_append.1 hu with hu | hu
    · exact RP.one h1 u hu
    · exact RP.one h2 u hu
  | .arr n e, _, _, h => by
    obtain ⟨hl, css, rfl, h1⟩ := h
    intro u hu
    obtain ⟨c, hc, hu⟩ := List.mem_flatten.1 hu
    obtain ⟨i, hi⟩ := List.mem_iff_getElem?.1 hc
    obtain ⟨a, _, ha⟩ := h1.get' hi
    exact RP.one ha u hu
  | .sl e, _, _, h => by obtain ⟨_, _, rfl, _⟩ := h; simp [Value.oneCell']

theorem cell?_same {w w' : World} {a : Addr} (h : w'.heap[a.block]? = w.heap[a.block]?) : w'.cell? a = w.cell? a := by
  unfold World.cell?; rw [h]

theorem add_block (a : Addr) (n : Nat) : (a.add n).block = a.block := by unfold Addr.add; split <;> rfl

theorem RP.mono {F F' : Nat → Prop} {w w' : World} (hF : ∀ b, F b → F' b) (hw : ∀ b, F b → w'.heap[b]? = w.heap[b]?) :
    ∀ {K : Kind} {x : K.den} {cs : List Value}, RP F w K x cs → RP F' w' K x cs
  | .int _, _, _, h => h
  | .bool, _, _, h => h
  | .str, _, _, h => h
  | .opq, _, _, h => h
  | .unit, _, _, h => h
  | .pair a b, _, _, h => by
    obtain ⟨c1, c2, rfl, h1, h2⟩ := h
    exact ⟨c1, c2, rfl, RP.mono hF hw h1, RP.mono hF hw h2⟩
  | .arr n e, _, _, h => by
    obtain ⟨hl, css, rfl, h1⟩ := h
    exact ⟨hl, css, rfl, h1.imp fun _ _ _ _ h => RP.mono hF hw h⟩
  | .sl e, _, _, h => by
    obtain ⟨ao, cap, rfl, hcap, h1⟩ := h
    refine ⟨ao, cap, rfl, hcap, fun hl => ?_⟩
    obtain ⟨ad, css, rfl, hf, h2, h3⟩ := h1 hl
    refine ⟨ad, css, rfl, hF _ hf, h2.imp fun _ _ _ _ h => RP.mono hF hw h, fun j v hj => ?_⟩
    rw [cell?_same (w := w) (w' := w') (by rw [add_block]; exact hw _ hf)]
    exact h3 j v hj

/-- The place of a part, in cells, and its kind. -/
def koff : Kind → List Hop → Option (Nat × Kind)
  | K, [] => some (0, K)
  | .pair a _, .fld 0 :: r => koff a r
  | .pair a b, .fld (n + 1) :: r => (koff b (.fld n :: r)).map fun q => (a.size + q.1, q.2)
  | .arr n e, .idx i :: r => if i < n then (koff e r).map fun q => (i * e.size + q.1, q.2) else none
  | _, _ => none

theorem koff_nil (K : Kind) : koff K [] = some (0, K) := by cases K <;> rfl

theorem koff_le : ∀ {K : Kind} {path : List Hop} {off : Nat} {K' : Kind}, koff K path = some (off, K') → off + K'.size ≤ K.size
  | K, [], off, K', h => by rw [koff_nil] at h; simp at h; obtain ⟨rfl, rfl⟩ := h; simp
  | .pair a b, .fld 0 :: r, off, K', h => by
    have := koff_le (K := a) (path := r) (by simpa [koff] using h)
    simp [Kind.size]; omega
  | .pair a b, .fld (n + 1) :: r, off, K', h => by
    simp only [koff, Option.map_eq_some_iff, Prod.exists, Prod.mk.injEq] at h
    obtain ⟨o, k, h, rfl, rfl⟩ := h
    have := koff_le h
    simp [Kind.size]; omega
  | .arr n e, .idx i :: r, off, K', h => by
    simp only [koff] at h
    split at h
    · rename_i hi
      simp only [Option.map_eq_some_iff, Prod.exists, Prod.mk.injEq] at h
      obtain ⟨o, k, h, rfl, rfl⟩ := h
      have := koff_le h
      have h2 : (i + 1) * e.size ≤ n * e.size := Nat.mul_le_mul_right _ hi
      simp [Kind.size, Nat.add_mul] at *; omega
    · cases h
  | .int _, .fld _ :: _, _, _, h => by simp [koff] at h
  | .int _, .idx _ :: _, _, _, h => by simp [koff] at h
  | .bool, .fld _ :: _, _, _, h => by simp [koff] at h
  | .bool, .idx _ :: _, _, _, h => by simp [koff] at h
  | .str, .fld _ :: _, _, _, h => by simp [koff] at h
  | .str, .idx _ :: _, _, _, h => by simp [koff] at h
  | .opq, .fld _ :: _, _, _, h => by simp [koff] at h
  | .opq, .idx _ :: _, _, _, h => by simp [koff] at h
  | .unit, .fld _ :: _, _, _, h => by simp [koff] at h
  | .unit, .idx _ :: _, _, _, h => by simp [koff] at h
  | .sl _, .fld _ :: _, _, _, h => by simp [koff] at h
  | .sl _, .idx _ :: _, _, _, h => by simp [koff] at h
  | .pair _ _, .idx _ :: _, _, _, h => by simp [koff] at h
  | .arr _ _, .fld _ :: _, _, _, h => by simp [koff] at h

/-- A part of a list, and a part replaced. -/
def cut {α : Type} (cs : List α) (off n : Nat) : List α := (cs.drop off).take n
def splice {α : Type} (cs : List α) (off : Nat) (vc : List α) : List α := cs.take off ++ vc ++ cs.drop (off + vc.length)

theorem cut_append_left {α : Type} {a b : List α} {off n : Nat} (h : off + n ≤ a.length) : cut (a ++ b) off n = cut a off n := by
  unfold cut
  rw [List.drop_append_of_le_length (by omega), List.take_append_of_le_length (by simp; omega)]
theorem cut_append_right {α : Type} {a b : List α} {off n : Nat} : cut (a ++ b) (a.length + off) n = cut b off n := by
  unfold cut
  rw [List.drop_length_add_append]
theorem cut_all {α : Type} (a : List α) {n : Nat} (h : n = a.length) : cut a 0 n = a := by subst h; simp [cut]
theorem splice_append_left {α : Type} {a b v : List α} {off : Nat} (h : off + v.length ≤ a.length) : splice (a ++ b) off v = splice a off v ++ b := by
  unfold splice
  rw [List.take_append_of_le_length (by omega), List.drop_append_of_le_length (by omega)]
  simp
theorem splice_append_right {α : Type} {a b v : List α} {off : Nat} : splice (a ++ b) (a.length + off) v = a ++ splice b off v := by
  unfold splice
  rw [List.take_length_add_append, Nat.add_assoc, List.drop_length_add_append]
  simp
theorem splice_all {α : Type} {a v : List α} (h : v.length = a.length) : splice a 0 v = v := by unfold splice; simp [h]

theorem flatten_cut {css : List (List Value)} {m : Nat} (h : ∀ c ∈ css, c.length = m) : ∀ {i : Nat} {c : List Value} {o n : Nat}, css[i]? = some c → o + n ≤ m → cut css.flatten (i * m + o) n = cut c o n := by
  induction css with
  | nil => intro i c o n hi; simp at hi
  | cons d r ih =>
    intro i c o n hi hn
    have hd := h d (by simp)
    cases i with
    | zero =>
      simp at hi; subst hi
      simp only [List.flatten_cons, Nat.zero_mul, Nat.zero_add]
      exact cut_append_left (by omega)
    | succ i =>
      simp at hi
      simp only [List.flatten_cons]
      rw [show (i + 1) * m + o = d.length + (i * m + o) by rw [hd, Nat.add_mul]; omega, cut_append_right]
      exact ih (fun c hc => h c (by simp [hc])) hi hn

theorem flatten_splice {css : List (List Value)} {m : Nat} (h : ∀ c ∈ css, c.length = m) : ∀ {i : Nat} {c v : List Value} {o : Nat}, css[i]? = some c → o + v.length ≤ m →
    splice css.flatten (i * m + o) v = (css.set i (splice c o v)).flatten := by
  induction css with
  | nil => intro i c v o hi; simp at hi
  | cons d r ih =>
    intro i c v o hi hn
    have hd := h d (by simp)
    cases i with
    | zero =>
      simp at hi; subst hi
      simp only [List.flatten_cons, Nat.zero_mul, Nat.zero_add, List.set_cons_zero]
      exact splice_append_left (by omega)
    | succ i =>
      simp at hi
      simp only [List.flatten_cons, List.set_cons_succ]
      rw [show (i + 1) * m + o = d.length + (i * m + o) by rw [hd, Nat.add_mul]; omega, splice_append_right]
      rw [ih (fun c hc => h c (by simp [hc])) hi hn]

theorem All2.lens {F : Nat → Prop} {w : World} {e : Kind} {l : List e.den} {css : List (List Value)} (h : All2 (RP F w e) l css) : ∀ c ∈ css, c.length = e.size := fun c hc => by
  obtain ⟨i, hi⟩ := List.mem_iff_getElem?.1 hc
  obtain ⟨a, _, ha⟩ := h.get' hi
  exact RP.length ha

variable {A : Type}

theorem getK_sound {out : A} : ∀ {K : Kind} {path : List Hop} {x : K.den} {k : AV → Option A}, getK K path x k = some out →
    ∃ (K' : Kind) (y : K'.den), k (.p K' y) = some out ∧ ∀ {F : Nat → Prop} {w : World} {cs : List Value}, RP F w K x cs → ∃ off, koff K path = some (off, K') ∧ RP F w K' y (cut cs off K'.size)
  | .pair a b, path, x, k, h => by
    match path with
    | [] => exact ⟨_, x, by simpa [getK] using h, fun {F w cs} hr => ⟨0, rfl, by rw [cut_all _ (RP.length hr).symm]; exact hr⟩⟩
    | .fld 0 :: r =>
      obtain ⟨K', y, h1, h2⟩ := getK_sound (K := a) (path := r) (x := x.1) (k := k) (by simpa [getK] using h)
      refine ⟨K', y, h1, fun {F w cs} hr => ?_⟩
      obtain ⟨c1, c2, rfl, hr1, hr2⟩ := hr
      obtain ⟨off, ho, hy⟩ := h2 hr1
      have hle := koff_le ho
      exact ⟨off, by simpa [koff] using ho, by rw [cut_append_left (by rw [RP.length hr1]; exact hle)]; exact hy⟩
    | .fld (n + 1) :: r =>
      obtain ⟨K', y, h1, h2⟩ := getK_sound (K := b) (path := .fld n :: r) (x := x.2) (k := k) (by simpa [getK] using h)
      refine ⟨K', y, h1, fun {F w cs} hr => ?_⟩
      obtain ⟨c1, c2, rfl, hr1, hr2⟩ := hr
      obtain ⟨off, ho, hy⟩ := h2 hr2
      exact ⟨a.size + off, by simp [koff, ho], by rw [← RP.length hr1, cut_append_right]; exact hy⟩
    | .idx i :: r => simp [getK] at h
  | .arr n e, path, l, k, h => by
    match path with
    | [] => exact ⟨_, l, by simpa [getK] using h, fun {F w cs} hr => ⟨0, rfl, by rw [cut_all _ (RP.length hr).symm]; exact hr⟩⟩
    | .idx i :: r =>
      simp only [getK, Option.bind_eq_some_iff] at h
      obtain ⟨x, hx, h⟩ := h
      obtain ⟨K', y, h1, h2⟩ := getK_sound h
      refine ⟨K', y, h1, fun {F w cs} hr => ?_⟩
      obtain ⟨hl, css, rfl, hr1⟩ := hr
      obtain ⟨c, hc, hxc⟩ := hr1.get hx
      obtain ⟨off, ho, hy⟩ := h2 hxc
      have hle := koff_le ho
      have hi : i < n := by rw [← hl]; exact (List.getElem?_eq_some_iff.1 hx).1
      exact ⟨i * e.size + off, by simp [koff, hi, ho], by rw [flatten_cut hr1.lens hc hle]; exact hy⟩
    | .fld i :: r => simp [getK] at h
  | .int q, path, x, k, h => by
    match path with
    | [] => exact ⟨_, x, by simpa [getK] using h, fun {F w cs} hr => ⟨0, rfl, by rw [cut_all _ (RP.length hr).symm]; exact hr⟩⟩
    | _ :: _ => simp [getK] at h
  | .bool, path, x, k, h => by
    match path with
    | [] => exact ⟨_, x, by simpa [getK] using h, fun {F w cs} hr => ⟨0, rfl, by rw [cut_all _ (RP.length hr).symm]; exact hr⟩⟩
    | _ :: _ => simp [getK] at h
  | .str, path, x, k, h => by
    match path with
    | [] => exact ⟨_, x, by simpa [getK] using h, fun {F w cs} hr => ⟨0, rfl, by rw [cut_all _ (RP.length hr).symm]; exact hr⟩⟩
    | _ :: _ => simp [getK] at h
  | .opq, path, x, k, h => by
    match path with
    | [] => exact ⟨_, x, by simpa [getK] using h, fun {F w cs} hr => ⟨0, rfl, by rw [cut_all _ (RP.length hr).symm]; exact hr⟩⟩
    | _ :: _ => simp [getK] at h
  | .unit, path, x, k, h => by
    match path with
    | [] => exact ⟨_, x, by simpa [getK] using h, fun {F w cs} hr => ⟨0, rfl, by rw [cut_all _ (RP.length hr).symm]; exact hr⟩⟩
    | _ :: _ => simp [getK] at h
  | .sl e, path, x, k, h => by
    match path with
    | [] => exact ⟨_, x, by simpa [getK] using h, fun {F w cs} hr => ⟨0, rfl, by rw [cut_all _ (RP.length hr).symm]; exact hr⟩⟩
    | _ :: _ => simp [getK] at h

end Go.Ev
end

section
/-
  THE EVALUATOR's STATES AGAINST THE MODEL's, MORE: slots, blocks, whole contexts; what stays when a world goes on.
-/
namespace Go.Ev

/-- Is it a struct's or an array's value? -/
def AV.agg : AV → Bool
  | .p K _ => K.isAgg
  | .pr _ _ => true
  | _ => false

/-- A cell that is no data of its own. -/
def R1 (X : Cx) : AV → Value → Prop
  | .row id, v => match X.hp[id]? with
    | some (.row e K xs) => (X.ρ id = none ∧ xs.length = 0 ∧ v = .slice none 0 0) ∨
        (∃ b cap cur, X.ρ id = some b ∧ v = .slice (some ⟨b, 0, none⟩) xs.length cap ∧ X.w.heap[b]? = some (.cells cur e (0, 0)) ∧ cur.size = cap * K.size ∧ xs.length ≤ cap)
    | some .gone => v.oneCell' = true
    | _ => False
  | .sub id lo len, v => match X.hp[id]? with
    | some (.row _ K xs) => lo + len ≤ xs.length ∧ ∃ ao c, v = .slice ao len c ∧ len ≤ c ∧ (0 < len → ∃ b, X.ρ id = some b ∧ ao = some ⟨b, lo * K.size, none⟩)
    | some .gone => v.oneCell' = true
    | _ => False
  | .ptr id path, v => match X.hp[id]? with
    | some (.var _ K _) => ∃ b off K', X.ρ id = some b ∧ koff K path = some (off, K') ∧ v = .pointer (some ⟨b, off, none⟩)
    | some (.row _ K xs) => ∃ b i r off K', path = .idx i :: r ∧ i < xs.length ∧ X.ρ id = some b ∧ koff K r = some (off, K') ∧ v = .pointer (some ⟨b, i * K.size + off, none⟩)
    | some .gone => v.oneCell' = true
    | _ => False
  | .slc id path lo len, v => match X.hp[id]? with
    | some (.var _ K _) => ∃ b off n e, X.ρ id = some b ∧ koff K path = some (off, .arr n e) ∧ lo + len ≤ n ∧ ∃ ao c, v = .slice ao len c ∧ len ≤ c ∧ (0 < len → ao = some ⟨b, off + lo * e.size, none⟩)
    | some .gone => v.oneCell' = true
    | _ => False
  | .mp id, v => match X.hp[id]? with
    | some (.map _ _ _) => ∃ b, X.ρ id = some b ∧ v = .map (some b)
    | some (.ment _ _ _ _ _) => ∃ b, X.ρ id = some b ∧ v = .map (some b)
    | some .stp => ∃ n : Nat, X.ρ id = some n ∧ v = goInt n
    | some .gone => v.oneCell' = true
    | _ => False
  | .nilp, v => v = .pointer none
  | .vp K x, v => ∃ ad cs, v = .pointer (some ad) ∧ X.F ad.block ∧ RP X.F X.w K x cs ∧ ∀ j u, cs[j]? = some u → X.w.cell? (ad.add j) = some u
  | .any, v => v.oneCell' = true
  | _, _ => False

/-- Cells. -/
def RA (X : Cx) : AV → List Value → Prop
  | .p K x, cs => RP X.F X.w K x cs
  | .pr a b, cs => ∃ c1 c2, cs = c1 ++ c2 ∧ RA X a c1 ∧ RA X b c2
  | av, cs => ∃ v, cs = [v] ∧ R1 X av v

/-- A slot's value, no tuple. -/
def RS0 (X : Cx) (av : AV) (v : Value) : Prop :=
  av.isAny = true ∨ ∃ cs, RA X av cs ∧ ((av.agg = true ∧ v = .agg cs.toArray) ∨ (av.agg = false ∧ cs = [v]))

def RS (X : Cx) (av : AV) (v : Value) : Prop :=
  match av with
  | .tup vs => ∃ us : Array Value, v = .tuple us ∧ All2 (RS0 X) vs us.toList
  | av => RS0 X av v

theorem R1.one {X : Cx} {av : AV} {v : Value} (h : R1 X av v) : v.oneCell' = true := by
  cases av with
  | row id =>
    simp only [R1] at h
    split at h
    · rcases h with ⟨_, _, rfl⟩ | ⟨_, _, _, _, rfl, _⟩ <;> rfl
    · exact h
    · exact h.elim
  | sub id lo len =>
    simp only [R1] at h
    split at h
    · obtain ⟨_, _, _, rfl, _⟩ := h; rfl
    · exact h
    · exact h.elim
  | ptr id path =>
    simp only [R1] at h
    split at h
    · obtain ⟨_, _, _, _, _, rfl⟩ := h; rfl
    · obtain ⟨_, _, _, _, _, _, _, _, _, rfl⟩ := h; rfl
    · exact h
    · exact h.elim
  | slc id path lo len =>
    simp only [R1] at h
    split at h
    · obtain ⟨_, _, _, _, _, _, _, _, _, rfl, _⟩ := h; rfl
    · exact h
    · exact h.elim
  | mp id =>
    simp only [R1] at h
    split at h
    · obtain ⟨_, _, rfl⟩ := h; rfl
    · obtain ⟨_, _, rfl⟩ := h; rfl
    · obtain ⟨_, _, rfl⟩ := h; rfl
    · exact h
    · exact h.elim
  | nilp => simp only [R1] at h; subst h; rfl
  | vp K x => obtain ⟨_, _, rfl, _⟩ := h; rfl
  | any => exact h
  | p K x => exact h.elim
  | pr a b => exact h.elim
  | tup vs => exact h.elim

theorem RA.one {X : Cx} : ∀ {av : AV} {cs : List Value}, RA X av cs → ∀ u ∈ cs, u.oneCell' = true
  | .p K x, cs, h => RP.one h
  | .pr a b, cs, h => by
    obtain ⟨c1, c2, rfl, h1, h2⟩ := h
    intro u hu
    rcases List.mem_append.1 hu with hu | hu
    · exact RA.one h1 u hu
    · exact RA.one h2 u hu
  | .any, cs, h => by obtain ⟨v, rfl, h⟩ := h; intro u hu; simp at hu; subst hu; exact h.one
  | .row _, cs, h => by obtain ⟨v, rfl, h⟩ := h; intro u hu; simp at hu; subst hu; exact h.one
  | .sub _ _ _, cs, h => by obtain ⟨v, rfl, h⟩ := h; intro u hu; simp at hu; subst hu; exact h.one
  | .ptr _ _, cs, h => by obtain ⟨v, rfl, h⟩ := h; intro u hu; simp at hu; subst hu; exact h.one
  | .vp _ _, cs, h => by obtain ⟨v, rfl, h⟩ := h; intro u hu; simp at hu; subst hu; exact h.one
  | .slc _ _ _ _, cs, h => by obtain ⟨v, rfl, h⟩ := h; intro u hu; simp at hu; subst hu; exact h.one
  | .mp _, cs, h => by obtain ⟨v, rfl, h⟩ := h; intro u hu; simp at hu; subst hu; exact h.one
  | .nilp, cs, h => by obtain ⟨v, rfl, h⟩ := h; intro u hu; simp at hu; subst hu; exact h.one
  | .tup _, cs, h => by obtain ⟨v, rfl, h⟩ := h; intro u hu; simp at hu; subst hu; exact h.one

theorem RA.length {X : Cx} : ∀ {av : AV} {K : Kind} {cs : List Value}, av.fits K = true → RA X av cs → cs.length = K.size
  | .p K' x, K, cs, hf, h => by simp [AV.fits] at hf; subst hf; exact RP.length h
  | .pr a b, .pair x y, cs, hf, h => by
    simp [AV.fits] at hf
    obtain ⟨c1, c2, rfl, h1, h2⟩ := h
    simp [Kind.size, RA.length hf.1 h1, RA.length hf.2 h2]
  | .pr a b, .int _, cs, hf, h => by simp [AV.fits] at hf
  | .pr a b, .bool, cs, hf, h => by simp [AV.fits] at hf
  | .pr a b, .str, cs, hf, h => by simp [AV.fits] at hf
  | .pr a b, .opq, cs, hf, h => by simp [AV.fits] at hf
  | .pr a b, .unit, cs, hf, h => by simp [AV.fits] at hf
  | .pr a b, .arr _ _, cs, hf, h => by simp [AV.fits] at hf
  | .pr a b, .sl _, cs, hf, h => by simp [AV.fits] at hf
  | .any, K, cs, hf, h => by obtain ⟨v, rfl, h⟩ := h; cases K <;> simp [AV.fits] at hf <;> rfl
  | .row _, K, cs, hf, h => by obtain ⟨v, rfl, h⟩ := h; cases K <;> simp [AV.fits] at hf <;> rfl
  | .sub _ _ _, K, cs, hf, h => by obtain ⟨v, rfl, h⟩ := h; cases K <;> simp [AV.fits] at hf <;> rfl
  | .ptr _ _, K, cs, hf, h => by obtain ⟨v, rfl, h⟩ := h; cases K <;> simp [AV.fits] at hf <;> rfl
  | .vp _ _, K, cs, hf, h => by obtain ⟨v, rfl, h⟩ := h; cases K <;> simp [AV.fits] at hf <;> rfl
  | .slc _ _ _ _, K, cs, hf, h => by obtain ⟨v, rfl, h⟩ := h; cases K <;> simp [AV.fits] at hf <;> rfl
  | .mp _, K, cs, hf, h => by obtain ⟨v, rfl, h⟩ := h; cases K <;> simp [AV.fits] at hf <;> rfl
  | .nilp, K, cs, hf, h => by obtain ⟨v, rfl, h⟩ := h; cases K <;> simp [AV.fits] at hf <;> rfl
  | .tup _, K, cs, hf, h => by obtain ⟨v, rfl, h⟩ := h; exact h.elim

/-- A kind that is one cell of which there are no parts. -/
theorem fits_agg {av : AV} {K : Kind} (h : av.fits K = true) (ha : av.isAny = false) : av.agg = K.isAgg := by
  cases av <;> cases K <;> simp_all [AV.fits, AV.agg, Kind.isAgg, AV.isAny]
  all_goals (first | rfl | (rename_i h; cases h; rfl) | skip)

theorem RS0.cells {X : Cx} {av : AV} {v : Value} (h : RS0 X av v) (ha : av.isAny = false) : ∃ cs, RA X av cs ∧ v.cells = cs.toArray := by
  rcases h with h | ⟨cs, h1, ⟨_, rfl⟩ | ⟨_, rfl⟩⟩
  · rw [ha] at h; cases h
  · exact ⟨cs, h1, rfl⟩
  · refine ⟨[v], h1, ?_⟩
    have := h1.one v (by simp)
    cases v <;> first | rfl | (simp [Value.oneCell'] at this)

-- ------------------------------------------------------------ parts of what a block holds

variable {A : Type}

theorem RA.single {X : Cx} {av : AV} {cs : List Value} (h1 : ∀ K x, av ≠ .p K x) (h2 : ∀ a b, av ≠ .pr a b) : RA X av cs ↔ ∃ v, cs = [v] ∧ R1 X av v := by
  cases av <;> first | exact Iff.rfl | exact absurd rfl (h1 _ _) | exact absurd rfl (h2 _ _)

theorem getV_sound {out : A} : ∀ {av : AV} {path : List Hop} {k : AV → Option A}, getV av path k = some out →
    ∃ y, k y = some out ∧ ∀ {X : Cx} {K : Kind} {cs : List Value}, av.fits K = true → RA X av cs → ∃ off K', koff K path = some (off, K') ∧ y.fits K' = true ∧ RA X y (cut cs off K'.size)
  | .p K0 x, path, k, h => by
    obtain ⟨K', y, h1, h2⟩ := getK_sound (by simpa [getV] using h)
    refine ⟨_, h1, fun {X K cs} hf hr => ?_⟩
    simp [AV.fits] at hf; subst hf
    obtain ⟨off, ho, hy⟩ := h2 hr
    exact ⟨off, K', ho, by simp [AV.fits], hy⟩
  | .pr a b, path, k, h => by
    match path with
    | [] =>
      refine ⟨_, by simpa [getV] using h, fun {X K cs} hf hr => ⟨0, K, koff_nil K, hf, ?_⟩⟩
      rw [cut_all _ (RA.length hf hr).symm]; exact hr
    | .fld 0 :: r =>
      obtain ⟨y, h1, h2⟩ := getV_sound (av := a) (path := r) (k := k) (by simpa [getV] using h)
      refine ⟨y, h1, fun {X K cs} hf hr => ?_⟩
      cases K <;> simp [AV.fits] at hf
      obtain ⟨c1, c2, rfl, hr1, hr2⟩ := hr
      obtain ⟨off, K', ho, hfy, hy⟩ := h2 hf.1 hr1
      have hle := koff_le ho
      exact ⟨off, K', by simpa [koff] using ho, hfy, by rw [cut_append_left (by rw [RA.length hf.1 hr1]; exact hle)]; exact hy⟩
    | .fld (n + 1) :: r =>
      obtain ⟨y, h1, h2⟩ := getV_sound (av := b) (path := .fld n :: r) (k := k) (by simpa [getV] using h)
      refine ⟨y, h1, fun {X K cs} hf hr => ?_⟩
      cases K <;> simp [AV.fits] at hf
      rename_i Ka Kb
      obtain ⟨c1, c2, rfl, hr1, hr2⟩ := hr
      obtain ⟨off, K', ho, hfy, hy⟩ := h2 hf.2 hr2
      exact ⟨Ka.size + off, K', by simp [koff, ho], hfy, by rw [← RA.length hf.1 hr1, cut_append_right]; exact hy⟩
    | .idx i :: r => simp [getV] at h
  | .any, path, k, h => by
    match path with
    | [] => exact ⟨_, by simpa [getV] using h, fun {X K cs} hf hr => ⟨0, K, koff_nil K, hf, by rw [cut_all _ (RA.length hf hr).symm]; exact hr⟩⟩
    | _ :: _ => simp [getV] at h
  | .row _, path, k, h => by
    match path with
    | [] => exact ⟨_, by simpa [getV] using h, fun {X K cs} hf hr => ⟨0, K, koff_nil K, hf, by rw [cut_all _ (RA.length hf hr).symm]; exact hr⟩⟩
    | _ :: _ => simp [getV] at h
  | .sub _ _ _, path, k, h => by
    match path with
    | [] => exact ⟨_, by simpa [getV] using h, fun {X K cs} hf hr => ⟨0, K, koff_nil K, hf, by rw [cut_all _ (RA.length hf hr).symm]; exact hr⟩⟩
    | _ :: _ => simp [getV] at h
  | .ptr _ _, path, k, h => by
    match path with
    | [] => exact ⟨_, by simpa [getV] using h, fun {X K cs} hf hr => ⟨0, K, koff_nil K, hf, by rw [cut_all _ (RA.length hf hr).symm]; exact hr⟩⟩
    | _ :: _ => simp [getV] at h
  | .vp _ _, path, k, h => by
    match path with
    | [] => exact ⟨_, by simpa [getV] using h, fun {X K cs} hf hr => ⟨0, K, koff_nil K, hf, by rw [cut_all _ (RA.length hf hr).symm]; exact hr⟩⟩
    | _ :: _ => simp [getV] at h
  | .slc _ _ _ _, path, k, h => by
    match path with
    | [] => exact ⟨_, by simpa [getV] using h, fun {X K cs} hf hr => ⟨0, K, koff_nil K, hf, by rw [cut_all _ (RA.length hf hr).symm]; exact hr⟩⟩
    | _ :: _ => simp [getV] at h
  | .mp _, path, k, h => by
    match path with
    | [] => exact ⟨_, by simpa [getV] using h, fun {X K cs} hf hr => ⟨0, K, koff_nil K, hf, by rw [cut_all _ (RA.length hf hr).symm]; exact hr⟩⟩
    | _ :: _ => simp [getV] at h
  | .nilp, path, k, h => by
    match path with
    | [] => exact ⟨_, by simpa [getV] using h, fun {X K cs} hf hr => ⟨0, K, koff_nil K, hf, by rw [cut_all _ (RA.length hf hr).symm]; exact hr⟩⟩
    | _ :: _ => simp [getV] at h
  | .tup _, path, k, h => by
    match path with
    | [] => exact ⟨_, by simpa [getV] using h, fun {X K cs} hf hr => ⟨0, K, koff_nil K, hf, by rw [cut_all _ (RA.length hf hr).symm]; exact hr⟩⟩
    | _ :: _ => simp [getV] at h

theorem mkPair_fits {a b : AV} {x y : Kind} (ha : a.fits x = true) (hb : b.fits y = true) : (mkPair a b).fits (.pair x y) = true := by
  cases a <;> cases b <;> simp_all [mkPair, AV.fits]

theorem mkPair_RA {X : Cx} {a b : AV} {c1 c2 : List Value} (ha : RA X a c1) (hb : RA X b c2) : RA X (mkPair a b) (c1 ++ c2) := by
  unfold mkPair
  split
  · exact ⟨c1, c2, rfl, ha, hb⟩
  · exact ⟨c1, c2, rfl, ha, hb⟩

theorem setIn_sound {out : A} {n : Nat} {e : Kind} {l : List e.den} {i : Nat} {v : AV} {k : List e.den → Option A} (h : setIn n e l i v k = some out) :
    ∃ z : e.den, v = .p e z ∧ i < n ∧ k (l.set i z) = some out := by
  unfold setIn at h
  split at h
  · rename_i e' z
    split at h
    · rename_i he
      subst he
      split at h
      · rename_i hi; exact ⟨z, rfl, hi, h⟩
      · cases h
    · cases h
  · cases h

theorem arr_splice {F : Nat → Prop} {w : World} {e : Kind} {l : List e.den} {css : List (List Value)} (h : All2 (RP F w e) l css) {i : Nat} {c vc : List Value} {off : Nat} {z : e.den}
    (hc : css[i]? = some c) (ho : off + vc.length ≤ e.size) (hz : RP F w e z (splice c off vc)) : ∃ css', splice css.flatten (i * e.size + off) vc = css'.flatten ∧ All2 (RP F w e) (l.set i z) css' :=
  ⟨_, flatten_splice h.lens hc ho, h.set i hz⟩

theorem leaf_set {X : Cx} {K : Kind} {v : AV} {cs vc : List Value} (hf : v.fits K = true) (hl : cs.length = K.size) (hv : RA X v vc) : RA X v (splice cs 0 vc) := by
  rw [splice_all (by rw [RA.length hf hv, hl])]; exact hv

theorem setK_sound {out : A} : ∀ {K : Kind} {path : List Hop} {x : K.den} {v : AV} {k : AV → Option A}, setK K path x v k = some out →
    ∃ y, k y = some out ∧ y.fits K = true ∧ ∀ {X : Cx} {cs vc : List Value}, RP X.F X.w K x cs → RA X v vc → ∃ off K', koff K path = some (off, K') ∧ v.fits K' = true ∧ RA X y (splice cs off vc)
  | .pair a b, path, x, v, k, h => by
    match path with
    | [] =>
      simp only [setK] at h
      split at h
      · rename_i hf; exact ⟨v, h, hf, fun {X cs vc} hr hv => ⟨0, _, rfl, hf, leaf_set hf (RP.length hr) hv⟩⟩
      · cases h
    | .fld 0 :: r =>
      obtain ⟨y, h1, hf, h2⟩ := setK_sound (K := a) (path := r) (x := x.1) (by simpa [setK] using h)
      refine ⟨_, h1, mkPair_fits hf (by simp [AV.fits]), fun {X cs vc} hr hv => ?_⟩
      obtain ⟨c1, c2, rfl, hr1, hr2⟩ := hr
      obtain ⟨off, K', ho, hfv, hy⟩ := h2 hr1 hv
      have hle := koff_le ho
      refine ⟨off, K', by simpa [koff] using ho, hfv, ?_⟩
      rw [splice_append_left (by rw [RP.length hr1, RA.length hfv hv]; exact hle)]
      exact mkPair_RA hy hr2
    | .fld (n + 1) :: r =>
      obtain ⟨y, h1, hf, h2⟩ := setK_sound (K := b) (path := .fld n :: r) (x := x.2) (by simpa [setK] using h)
      refine ⟨_, h1, mkPair_fits (by simp [AV.fits]) hf, fun {X cs vc} hr hv => ?_⟩
      obtain ⟨c1, c2, rfl, hr1, hr2⟩ := hr
      obtain ⟨off, K', ho, hfv, hy⟩ := h2 hr2 hv
      refine ⟨a.size + off, K', by simp [koff, ho], hfv, ?_⟩
      rw [← RP.length hr1, splice_append_right]
      exact mkPair_RA (X := X) (a := .p a x.1) hr1 hy
    | .idx i :: r => simp [setK] at h
  | .arr n e, path, l, v, k, h => by
    match path with
    | [] =>
      simp only [setK] at h
      split at h
      · rename_i hf; exact ⟨v, h, hf, fun {X cs vc} hr hv => ⟨0, _, rfl, hf, leaf_set hf (RP.length hr) hv⟩⟩
      · cases h
    | [.idx i] =>
      simp only [setK] at h
      obtain ⟨z, rfl, hi, h1⟩ := setIn_sound h
      refine ⟨_, h1, by simp [AV.fits], fun {X cs vc} hr hv => ?_⟩
      obtain ⟨hl, css, rfl, hr1⟩ := hr
      obtain ⟨c, hc⟩ : ∃ c, css[i]? = some c := ⟨_, List.getElem?_eq_getElem (by rw [← hr1.length, hl]; exact hi)⟩
      have hvl := RP.length (show RP X.F X.w e z vc from hv)
      have hcl := hr1.lens c (List.mem_of_getElem? hc)
      obtain ⟨css', hs, h2⟩ := arr_splice (z := z) (off := 0) (vc := vc) hr1 hc (by omega) (by rw [splice_all (by omega)]; exact hv)
      exact ⟨i * e.size + 0, e, by simp [koff, hi, koff_nil], by simp [AV.fits], by simp [hl], css', hs, h2⟩
    | .idx i :: hh :: r =>
      simp only [setK, Option.bind_eq_some_iff] at h
      obtain ⟨x, hx, h⟩ := h
      obtain ⟨y, h1, hf, h2⟩ := setK_sound h
      obtain ⟨z, rfl, hi, h3⟩ := setIn_sound h1
      refine ⟨_, h3, by simp [AV.fits], fun {X cs vc} hr hv => ?_⟩
      obtain ⟨hl, css, rfl, hr1⟩ := hr
      obtain ⟨c, hc, hxc⟩ := hr1.get hx
      obtain ⟨off, K', ho, hfv, hy⟩ := h2 hxc hv
      have hle := koff_le ho
      obtain ⟨css', hs, h4⟩ := arr_splice (z := z) hr1 hc (by rw [RA.length hfv hv]; exact hle) hy
      exact ⟨i * e.size + off, K', by simp [koff, hi, ho], hfv, by simp [hl], css', hs, h4⟩
    | .fld i :: r => simp [setK] at h
  | .int q, path, x, v, k, h => by
    match path with
    | [] =>
      simp only [setK] at h
      split at h
      · rename_i hf; exact ⟨v, h, hf, fun {X cs vc} hr hv => ⟨0, _, rfl, hf, leaf_set hf (RP.length hr) hv⟩⟩
      · cases h
    | _ :: _ => simp [setK] at h
  | .bool, path, x, v, k, h => by
    match path with
    | [] =>
      simp only [setK] at h
      split at h
      · rename_i hf; exact ⟨v, h, hf, fun {X cs vc} hr hv => ⟨0, _, rfl, hf, leaf_set hf (RP.length hr) hv⟩⟩
      · cases h
    | _ :: _ => simp [setK] at h
  | .str, path, x, v, k, h => by
    match path with
    | [] =>
      simp only [setK] at h
      split at h
      · rename_i hf; exact ⟨v, h, hf, fun {X cs vc} hr hv => ⟨0, _, rfl, hf, leaf_set hf (RP.length hr) hv⟩⟩
      · cases h
    | _ :: _ => simp [setK] at h
  | .opq, path, x, v, k, h => by
    match path with
    | [] =>
      simp only [setK] at h
      split at h
      · rename_i hf; exact ⟨v, h, hf, fun {X cs vc} hr hv => ⟨0, _, rfl, hf, leaf_set hf (RP.length hr) hv⟩⟩
      · cases h
    | _ :: _ => simp [setK] at h
  | .unit, path, x, v, k, h => by
    match path with
    | [] =>
      simp only [setK] at h
      split at h
      · rename_i hf; exact ⟨v, h, hf, fun {X cs vc} hr hv => ⟨0, _, rfl, hf, leaf_set hf (RP.length hr) hv⟩⟩
      · cases h
    | _ :: _ => simp [setK] at h
  | .sl e, path, x, v, k, h => by
    match path with
    | [] =>
      simp only [setK] at h
      split at h
      · rename_i hf; exact ⟨v, h, hf, fun {X cs vc} hr hv => ⟨0, _, rfl, hf, leaf_set hf (RP.length hr) hv⟩⟩
      · cases h
    | _ :: _ => simp [setK] at h

theorem setV_leaf {out : A} {old v : AV} {K : Kind} {path : List Hop} {k : AV → Option A} (h : path = [] ∧ v.fits K = true ∧ k v = some out) :
    ∃ y, k y = some out ∧ (old.fits K = true → y.fits K = true) ∧ ∀ {X : Cx} {cs vc : List Value}, old.fits K = true → RA X old cs → RA X v vc → ∃ off K', koff K path = some (off, K') ∧ v.fits K' = true ∧ RA X y (splice cs off vc) := by
  obtain ⟨rfl, hf, h⟩ := h
  exact ⟨v, h, fun _ => hf, fun {X cs vc} hfo hr hv => ⟨0, K, koff_nil K, hf, leaf_set hf (RA.length hfo hr) hv⟩⟩

theorem setV_sound {out : A} : ∀ {old : AV} {K : Kind} {path : List Hop} {v : AV} {k : AV → Option A}, setV old K path v k = some out →
    ∃ y, k y = some out ∧ (old.fits K = true → y.fits K = true) ∧ ∀ {X : Cx} {cs vc : List Value}, old.fits K = true → RA X old cs → RA X v vc → ∃ off K', koff K path = some (off, K') ∧ v.fits K' = true ∧ RA X y (splice cs off vc)
  | .p K0 x, K, path, v, k, h => by
    obtain ⟨y, h1, hf, h2⟩ := setK_sound (by simpa [setV] using h)
    exact ⟨y, h1, fun hfo => by simp [AV.fits] at hfo; subst hfo; exact hf, fun {X cs vc} hfo hr hv => by simp [AV.fits] at hfo; subst hfo; exact h2 hr hv⟩
  | .pr a b, K, path, v, k, h => by
    match K, path with
    | K, [] => exact setV_leaf (path := []) (by cases K <;> simp [setV] at h <;> exact ⟨rfl, h.1, h.2⟩)
    | .pair x y', .fld 0 :: r =>
      obtain ⟨y, h1, hf, h2⟩ := setV_sound (old := a) (K := x) (path := r) (by simpa [setV] using h)
      refine ⟨_, h1, fun hfo => by simp [AV.fits] at hfo; exact mkPair_fits (hf hfo.1) hfo.2, fun {X cs vc} hfo hr hv => ?_⟩
      simp [AV.fits] at hfo
      obtain ⟨c1, c2, rfl, hr1, hr2⟩ := hr
      obtain ⟨off, K', ho, hfv, hy⟩ := h2 hfo.1 hr1 hv
      have hle := koff_le ho
      refine ⟨off, K', by simpa [koff] using ho, hfv, ?_⟩
      rw [splice_append_left (by rw [RA.length hfo.1 hr1, RA.length hfv hv]; exact hle)]
      exact mkPair_RA hy hr2
    | .pair x y', .fld (n + 1) :: r =>
      obtain ⟨y, h1, hf, h2⟩ := setV_sound (old := b) (K := y') (path := .fld n :: r) (by simpa [setV] using h)
      refine ⟨_, h1, fun hfo => by simp [AV.fits] at hfo; exact mkPair_fits hfo.1 (hf hfo.2), fun {X cs vc} hfo hr hv => ?_⟩
      simp [AV.fits] at hfo
      obtain ⟨c1, c2, rfl, hr1, hr2⟩ := hr
      obtain ⟨off, K', ho, hfv, hy⟩ := h2 hfo.2 hr2 hv
      refine ⟨x.size + off, K', by simp [koff, ho], hfv, ?_⟩
      rw [← RA.length hfo.1 hr1, splice_append_right]
      exact mkPair_RA hr1 hy
    | .pair _ _, .idx _ :: _ => simp [setV] at h
    | .int _, _ :: _ => simp [setV] at h
    | .bool, _ :: _ => simp [setV] at h
    | .str, _ :: _ => simp [setV] at h
    | .opq, _ :: _ => simp [setV] at h
    | .unit, _ :: _ => simp [setV] at h
    | .arr _ _, _ :: _ => simp [setV] at h
    | .sl _, _ :: _ => simp [setV] at h
  | .any, K, path, v, k, h => setV_leaf (by cases path <;> simp [setV] at h <;> exact ⟨rfl, h.1, h.2⟩)
  | .row _, K, path, v, k, h => setV_leaf (by cases path <;> simp [setV] at h <;> exact ⟨rfl, h.1, h.2⟩)
  | .sub _ _ _, K, path, v, k, h => setV_leaf (by cases path <;> simp [setV] at h <;> exact ⟨rfl, h.1, h.2⟩)
  | .ptr _ _, K, path, v, k, h => setV_leaf (by cases path <;> simp [setV] at h <;> exact ⟨rfl, h.1, h.2⟩)
  | .vp _ _, K, path, v, k, h => setV_leaf (by cases path <;> simp [setV] at h <;> exact ⟨rfl, h.1, h.2⟩)
  | .slc _ _ _ _, K, path, v, k, h => setV_leaf (by cases path <;> simp [setV] at h <;> exact ⟨rfl, h.1, h.2⟩)
  | .mp _, K, path, v, k, h => setV_leaf (by cases path <;> simp [setV] at h <;> exact ⟨rfl, h.1, h.2⟩)
  | .nilp, K, path, v, k, h => setV_leaf (by cases path <;> simp [setV] at h <;> exact ⟨rfl, h.1, h.2⟩)
  | .tup _, K, path, v, k, h => setV_leaf (by cases path <;> simp [setV] at h <;> exact ⟨rfl, h.1, h.2⟩)

end Go.Ev
end

section
/-
  CONTEXTS: what a world holds of an abstract heap; how contexts go on, and what then stays.
-/
namespace Go.Ev

inductive BlkEvo : Blk → Blk → Prop where
  | gone (b : Blk) : BlkEvo b .gone
  | var (t : TypeId) (K : Kind) (v v' : AV) : BlkEvo (.var t K v) (.var t K v')
  | row (e : TypeId) (K : Kind) (xs xs' : List K.den) (h : xs'.length = xs.length) : BlkEvo (.row e K xs) (.row e K xs')
  | map (KK KV : Kind) (es es' : List (KK.den × KV.den)) : BlkEvo (.map KK KV es) (.map KK KV es')
  | mm (KK KV : Kind) (es es' : List (KK.den × KV.den)) (x : KK.den) (g : Nat) : BlkEvo (.map KK KV es) (.ment KK KV es' x g)
  | me (KK KV : Kind) (es es' : List (KK.den × KV.den)) (x : KK.den) (g : Nat) : BlkEvo (.ment KK KV es x g) (.map KK KV es')
  | ee (KK KV : Kind) (es es' : List (KK.den × KV.den)) (x x' : KK.den) (g g' : Nat) : BlkEvo (.ment KK KV es x g) (.ment KK KV es' x' g')
  | stp : BlkEvo .stp .stp

theorem BlkEvo.refl {b : Blk} (h : b ≠ .free) : BlkEvo b b := by
  cases b with
  | var t K v => exact .var ..
  | row e K xs => exact .row _ _ _ _ rfl
  | map KK KV es => exact .map ..
  | ment KK KV es x g => exact .ee ..
  | stp => exact .stp
  | gone => exact .gone _
  | free => exact absurd rfl h

theorem BlkEvo.trans {a b c : Blk} (h : BlkEvo a b) (h' : BlkEvo b c) : BlkEvo a c := by
  cases h' with
  | gone => exact .gone _
  | var t K v v' => cases h with | var => exact .var ..
  | row e K xs xs' hl => cases h with | row _ _ ys _ hl' => exact .row _ _ _ _ (hl.trans hl')
  | map => cases h with | map => exact .map .. | me => exact .me ..
  | mm => cases h with | map => exact .mm .. | me => exact .ee ..
  | me => cases h with | mm => exact .map .. | ee => exact .me ..
  | ee => cases h with | mm => exact .mm .. | ee => exact .ee ..
  | stp => cases h with | stp => exact .stp

theorem BlkEvo.to_not_free {a b : Blk} (h : BlkEvo a b) : b ≠ .free := by cases h <;> simp
theorem BlkEvo.not_free {a b : Blk} (h : BlkEvo a b) : b ≠ .free := by cases h <;> simp

/-- Stamps: each entry has one of its own, below the clock. -/
def BornOK (mes : List MapEntry) (clock : Nat) : Prop := (mes.map (·.born)).Nodup ∧ ∀ n ∈ mes.map (·.born), n < clock

theorem BornOK.nil (clock : Nat) : BornOK [] clock := ⟨List.nodup_nil, fun n h => by cases h⟩
theorem BornOK.same {mes mes' : List MapEntry} {clock : Nat} (h : BornOK mes clock) (e : mes'.map (·.born) = mes.map (·.born)) : BornOK mes' clock := by unfold BornOK; rw [e]; exact h
theorem BornOK.push {mes : List MapEntry} {clock : Nat} (h : BornOK mes clock) (k v : Value) : BornOK (mes ++ [⟨k, v, clock⟩]) (clock + 1) := by
  unfold BornOK
  rw [List.map_append, List.map_cons, List.map_nil]
  refine ⟨List.nodup_append.2 ⟨h.1, by simp, fun a ha b hb => ?_⟩, fun n hn => ?_⟩
  · have := h.2 a ha
    simp at hb; omega
  · rcases List.mem_append.1 hn with hn | hn
    · have := h.2 n hn; omega
    · simp at hn; omega
theorem BornOK.sub {mes mes' : List MapEntry} {clock : Nat} (h : BornOK mes clock) (e : mes'.Sublist mes) : BornOK mes' clock :=
  ⟨(e.map _).nodup h.1, fun n hn => h.2 n ((e.map _).subset hn)⟩

def RB (X : Cx) (id : Nat) : Blk → Prop
  | .var t K v => v.fits K = true ∧ ∃ b cs, X.ρ id = some b ∧ X.w.heap[b]? = some (.cells (List.toArray cs) t (0, 0)) ∧ RA X v cs
  | .row e K xs => (X.ρ id = none ∧ xs.length = 0) ∨ ∃ b cur cap css, X.ρ id = some b ∧ X.w.heap[b]? = some (.cells cur e (0, 0)) ∧ cur.size = cap * K.size ∧
      xs.length ≤ cap ∧ cap ≤ maxLen ∧ All2 (RP X.F X.w K) xs css ∧ css.flatten = cur.toList.take (xs.length * K.size)
  | .map KK KV es => ∃ b mes clock, X.ρ id = some b ∧ X.w.heap[b]? = some (.map mes clock) ∧ All2 (fun e (me : MapEntry) => RS0 X (.p KK e.1) me.key ∧ RS0 X (.p KV e.2) me.val) es mes.toList ∧ BornOK mes.toList clock
  | .ment KK KV es x g => ∃ b mes clock, X.ρ id = some b ∧ X.w.heap[b]? = some (.map mes clock) ∧ All2 (fun e (me : MapEntry) => RS0 X (.p KK e.1) me.key ∧ RS0 X (.p KV e.2) me.val) es mes.toList ∧ BornOK mes.toList clock ∧
      ∃ j e me bg, es[j]? = some e ∧ e.1 = x ∧ mes.toList[j]? = some me ∧ X.hp[g]? = some bg ∧ bg ≠ .free ∧ X.ρ g = some me.born ∧ ∀ v, mset KK es x v = es.set j (x, v)
  | _ => True

structure Ok (X : Cx) : Prop where
  blk : ∀ (id : Nat) (b : Blk), X.hp[id]? = some b → RB X id b
  inj : ∀ (id id' b : Nat) (c c' : Blk), X.hp[id]? = some c → c.live = true → X.hp[id']? = some c' → c'.live = true → X.ρ id = some b → X.ρ id' = some b → id = id'
  fo : ∀ b, X.F b → b < X.w.heap.size ∧ ¬ X.Own b

/-- How the world goes on. -/
structure WEvo (X Y : Cx) : Prop where
  os : Y.w.os = X.w.os
  tape : Y.w.tape = X.w.tape
  output : Y.w.output = X.w.output
  size : X.w.heap.size ≤ Y.w.heap.size
  shape : ∀ (b : Nat) (c : Array Value) (e : TypeId) (f : Nat × Nat), X.w.heap[b]? = some (Obj.cells c e f) → ∃ c' : Array Value, Y.w.heap[b]? = some (Obj.cells c' e f) ∧ c'.size = c.size
  keep : ∀ b, b < X.w.heap.size → ¬ X.Own b → Y.w.heap[b]? = X.w.heap[b]?
  own : ∀ b, b < X.w.heap.size → Y.Own b → X.Own b
  fmono : ∀ b, X.F b → Y.F b
  fnew : ∀ b, Y.F b → X.F b ∨ X.Own b ∨ X.w.heap.size ≤ b

structure HEvo (X Y : Cx) : Prop where
  hp : ∀ (id : Nat) (b : Blk), X.hp[id]? = some b → b ≠ .free → ∃ b', Y.hp[id]? = some b' ∧ BlkEvo b b'
  ρ : ∀ (id : Nat) (b : Blk), X.hp[id]? = some b → b ≠ .free → Y.ρ id = X.ρ id

/-- The first blocks keep their numbers. -/
structure PEvo (m : Nat) (X Y : Cx) : Prop where
  hp : ∀ (id : Nat) (b : Blk), id < m → X.hp[id]? = some b → b ≠ .free → ∃ b', Y.hp[id]? = some b' ∧ BlkEvo b b'
  ρ : ∀ (id : Nat) (b : Blk), id < m → X.hp[id]? = some b → b ≠ .free → Y.ρ id = X.ρ id

theorem HEvo.pevo {X Y : Cx} (h : HEvo X Y) (m : Nat) : PEvo m X Y := ⟨fun id b _ hb hn => h.hp id b hb hn, fun id b _ hb hn => h.ρ id b hb hn⟩

theorem PEvo.refl (m : Nat) (X : Cx) : PEvo m X X := ⟨fun _ b _ h hb => ⟨b, h, .refl hb⟩, fun _ _ _ _ _ => rfl⟩

theorem PEvo.trans {m : Nat} {X Y Z : Cx} (h : PEvo m X Y) (k : PEvo m Y Z) : PEvo m X Z where
  hp := fun id b hm hb hn => by
    obtain ⟨b', h1, h2⟩ := h.hp id b hm hb hn
    obtain ⟨b'', h3, h4⟩ := k.hp id b' hm h1 h2.not_free
    exact ⟨b'', h3, h2.trans h4⟩
  ρ := fun id b hm hb hn => by
    obtain ⟨b', h1, h2⟩ := h.hp id b hm hb hn
    rw [k.ρ id b' hm h1 h2.not_free, h.ρ id b hm hb hn]

theorem WEvo.refl (X : Cx) : WEvo X X := ⟨rfl, rfl, rfl, Nat.le_refl _, fun _ c _ _ h => ⟨c, h, rfl⟩, fun _ _ _ => rfl, fun _ _ h => h, fun _ h => h, fun _ h => .inl h⟩

theorem WEvo.trans {X Y Z : Cx} (h : WEvo X Y) (k : WEvo Y Z) : WEvo X Z where
  os := k.os.trans h.os
  tape := k.tape.trans h.tape
  output := k.output.trans h.output
  size := Nat.le_trans h.size k.size
  shape := fun b c e f hb => by
    obtain ⟨c', h1, h2⟩ := h.shape b c e f hb
    obtain ⟨c'', h3, h4⟩ := k.shape b c' e f h1
    exact ⟨c'', h3, h4.trans h2⟩
  keep := fun b hb ho => by
    rw [k.keep b (Nat.lt_of_lt_of_le hb h.size) (fun ho' => ho (h.own b hb ho')), h.keep b hb ho]
  own := fun b hb ho => h.own b hb (k.own b (Nat.lt_of_lt_of_le hb h.size) ho)
  fmono := fun b hb => k.fmono b (h.fmono b hb)
  fnew := fun b hb => by
    rcases k.fnew b hb with h1 | h1 | h1
    · exact h.fnew b h1
    · rcases Nat.lt_or_ge b X.w.heap.size with h2 | h2
      · exact .inr (.inl (h.own b h2 h1))
      · exact .inr (.inr h2)
    · exact .inr (.inr (Nat.le_trans h.size h1))

theorem HEvo.refl (X : Cx) : HEvo X X := ⟨fun _ b h hb => ⟨b, h, .refl hb⟩, fun _ _ _ _ => rfl⟩

theorem HEvo.trans {X Y Z : Cx} (h : HEvo X Y) (k : HEvo Y Z) : HEvo X Z where
  hp := fun id b hb hn => by
    obtain ⟨b', h1, h2⟩ := h.hp id b hb hn
    obtain ⟨b'', h3, h4⟩ := k.hp id b' h1 h2.not_free
    exact ⟨b'', h3, h2.trans h4⟩
  ρ := fun id b hb hn => by
    obtain ⟨b', h1, h2⟩ := h.hp id b hb hn
    rw [k.ρ id b' h1 h2.not_free, h.ρ id b hb hn]

section
variable {X Y : Cx}

theorem WEvo.foreign (h : WEvo X Y) (fo : ∀ b, X.F b → b < X.w.heap.size ∧ ¬ X.Own b) : ∀ b, X.F b → Y.w.heap[b]? = X.w.heap[b]? := fun b hb => h.keep b (fo b hb).1 (fo b hb).2

theorem RP.evo (h : WEvo X Y) (fo : ∀ b, X.F b → b < X.w.heap.size ∧ ¬ X.Own b) {K : Kind} {x : K.den} {cs : List Value} (hr : RP X.F X.w K x cs) : RP Y.F Y.w K x cs :=
  hr.mono h.fmono (h.foreign fo)

theorem R1.evo (h : WEvo X Y) (k : HEvo X Y) (fo : ∀ b, X.F b → b < X.w.heap.size ∧ ¬ X.Own b) {av : AV} {v : Value} (hr : R1 X av v) : R1 Y av v := by
  have ho := hr.one
  cases av with
  | row id =>
    simp only [R1] at hr ⊢
    split at hr
    · rename_i e K xs heq
      obtain ⟨b', h1, h2⟩ := k.hp id _ heq (by simp)
      have h3 := k.ρ id _ heq (by simp)
      rw [h1]
      cases h2 with
      | gone => exact ho
      | row _ _ _ xs' hl =>
        simp only [h3, hl]
        rcases hr with hr | ⟨b, cap, cur, a1, a2, a3, a4, a7⟩
        · exact .inl hr
        · obtain ⟨c', a5, a6⟩ := h.shape b cur e _ a3
          exact .inr ⟨b, cap, c', a1, a2, a5, a6.trans a4, a7⟩
    · rename_i heq
      obtain ⟨b', h1, h2⟩ := k.hp id _ heq (by simp)
      rw [h1]
      cases h2; exact ho
    · exact hr.elim
  | sub id lo len =>
    simp only [R1] at hr ⊢
    split at hr
    · rename_i e K xs heq
      obtain ⟨b', h1, h2⟩ := k.hp id _ heq (by simp)
      have h3 := k.ρ id _ heq (by simp)
      rw [h1]
      cases h2 with
      | gone => exact ho
      | row _ _ _ xs' hl => simp only [h3, hl]; exact hr
    · rename_i heq
      obtain ⟨b', h1, h2⟩ := k.hp id _ heq (by simp)
      rw [h1]
      cases h2; exact ho
    · exact hr.elim
  | ptr id path =>
    simp only [R1] at hr ⊢
    split at hr
    · rename_i e K xs heq
      obtain ⟨b', h1, h2⟩ := k.hp id _ heq (by simp)
      have h3 := k.ρ id _ heq (by simp)
      rw [h1]
      cases h2 with
      | gone => exact ho
      | var => simp only [h3]; exact hr
    · rename_i e K xs heq
      obtain ⟨b', h1, h2⟩ := k.hp id _ heq (by simp)
      have h3 := k.ρ id _ heq (by simp)
      rw [h1]
      cases h2 with
      | gone => exact ho
      | row _ _ _ xs' hl => simp only [h3, hl]; exact hr
    · rename_i heq
      obtain ⟨b', h1, h2⟩ := k.hp id _ heq (by simp)
      rw [h1]
      cases h2; exact ho
    · exact hr.elim
  | slc id path lo len =>
    simp only [R1] at hr ⊢
    split at hr
    · rename_i e K xs heq
      obtain ⟨b', h1, h2⟩ := k.hp id _ heq (by simp)
      have h3 := k.ρ id _ heq (by simp)
      rw [h1]
      cases h2 with
      | gone => exact ho
      | var => simp only [h3]; exact hr
    · rename_i heq
      obtain ⟨b', h1, h2⟩ := k.hp id _ heq (by simp)
      rw [h1]
      cases h2; exact ho
    · exact hr.elim
  | mp id =>
    simp only [R1] at hr ⊢
    split at hr
    · rename_i e K xs heq
      obtain ⟨b', h1, h2⟩ := k.hp id _ heq (by simp)
      have h3 := k.ρ id _ heq (by simp)
      rw [h1]
      cases h2 with
      | gone => exact ho
      | map => simp only [h3]; exact hr
      | mm => simp only [h3]; exact hr
    · rename_i heq
      obtain ⟨b', h1, h2⟩ := k.hp id _ heq (by simp)
      have h3 := k.ρ id _ heq (by simp)
      rw [h1]
      cases h2 with
      | gone => exact ho
      | me => simp only [h3]; exact hr
      | ee => simp only [h3]; exact hr
    · rename_i heq
      obtain ⟨b', h1, h2⟩ := k.hp id _ heq (by simp)
      have h3 := k.ρ id _ heq (by simp)
      rw [h1]
      cases h2 with
      | gone => exact ho
      | stp => simp only [h3]; exact hr
    · rename_i heq
      obtain ⟨b', h1, h2⟩ := k.hp id _ heq (by simp)
      rw [h1]
      cases h2; exact ho
    · exact hr.elim
  | nilp => exact hr
  | vp K x =>
    obtain ⟨ad, cs, rfl, hf, h1, h2⟩ := hr
    refine ⟨ad, cs, rfl, h.fmono _ hf, h1.evo h fo, fun j u hu => ?_⟩
    rw [cell?_same (w := X.w) (w' := Y.w) (by rw [add_block]; exact h.foreign fo _ hf)]
    exact h2 j u hu
  | any => exact hr
  | p K x => exact hr.elim
  | pr a b => exact hr.elim
  | tup vs => exact hr.elim

theorem RA.evo (h : WEvo X Y) (k : HEvo X Y) (fo : ∀ b, X.F b → b < X.w.heap.size ∧ ¬ X.Own b) : ∀ {av : AV} {cs : List Value}, RA X av cs → RA Y av cs
  | .p K x, cs, hr => RP.evo h fo hr
  | .pr a b, cs, hr => by
    obtain ⟨c1, c2, rfl, h1, h2⟩ := hr
    exact ⟨c1, c2, rfl, RA.evo h k fo h1, RA.evo h k fo h2⟩
  | .any, cs, hr => by obtain ⟨v, rfl, h1⟩ := hr; exact ⟨v, rfl, h1.evo h k fo⟩
  | .row _, cs, hr => by obtain ⟨v, rfl, h1⟩ := hr; exact ⟨v, rfl, h1.evo h k fo⟩
  | .sub _ _ _, cs, hr => by obtain ⟨v, rfl, h1⟩ := hr; exact ⟨v, rfl, h1.evo h k fo⟩
  | .ptr _ _, cs, hr => by obtain ⟨v, rfl, h1⟩ := hr; exact ⟨v, rfl, h1.evo h k fo⟩
  | .vp _ _, cs, hr => by obtain ⟨v, rfl, h1⟩ := hr; exact ⟨v, rfl, h1.evo h k fo⟩
  | .slc _ _ _ _, cs, hr => by obtain ⟨v, rfl, h1⟩ := hr; exact ⟨v, rfl, h1.evo h k fo⟩
  | .mp _, cs, hr => by obtain ⟨v, rfl, h1⟩ := hr; exact ⟨v, rfl, h1.evo h k fo⟩
  | .nilp, cs, hr => by obtain ⟨v, rfl, h1⟩ := hr; exact ⟨v, rfl, h1.evo h k fo⟩
  | .tup _, cs, hr => by obtain ⟨v, rfl, h1⟩ := hr; exact ⟨v, rfl, h1.evo h k fo⟩

theorem RS0.evo (h : WEvo X Y) (k : HEvo X Y) (fo : ∀ b, X.F b → b < X.w.heap.size ∧ ¬ X.Own b) {av : AV} {v : Value} (hr : RS0 X av v) : RS0 Y av v := by
  rcases hr with hr | ⟨cs, h1, h2⟩
  · exact .inl hr
  · exact .inr ⟨cs, h1.evo h k fo, h2⟩

theorem RS.evo (h : WEvo X Y) (k : HEvo X Y) (fo : ∀ b, X.F b → b < X.w.heap.size ∧ ¬ X.Own b) {av : AV} {v : Value} (hr : RS X av v) : RS Y av v := by
  cases av with
  | tup vs =>
    obtain ⟨us, rfl, h1⟩ := hr
    exact ⟨us, rfl, h1.imp fun _ _ _ _ hr => hr.evo h k fo⟩
  | _ => exact RS0.evo h k fo hr

/-- A block of ours that nobody wrote. -/
theorem RB.evo (h : WEvo X Y) (k : HEvo X Y) (fo : ∀ b, X.F b → b < X.w.heap.size ∧ ¬ X.Own b) {id : Nat} {b : Blk} (hρ : Y.ρ id = X.ρ id)
    (hw : b.live = true → ∀ n, X.ρ id = some n → Y.w.heap[n]? = X.w.heap[n]?) (hr : RB X id b) : RB Y id b := by
  cases b with
  | var t K v =>
    obtain ⟨h1, n, cs, h2, h3, h4⟩ := hr
    exact ⟨h1, n, cs, by rw [hρ]; exact h2, by rw [hw rfl n h2]; exact h3, h4.evo h k fo⟩
  | row e K xs =>
    rcases hr with ⟨h1, h2⟩ | ⟨n, cur, cap, css, h1, h2, h3, h4, h5, h6, h7⟩
    · exact .inl ⟨by rw [hρ]; exact h1, h2⟩
    · exact .inr ⟨n, cur, cap, css, by rw [hρ]; exact h1, by rw [hw rfl n h1]; exact h2, h3, h4, h5, h6.imp fun _ _ _ _ hr => RP.evo h fo hr, h7⟩
  | map KK KV es =>
    obtain ⟨n, mes, clock, h1, h2, h3, h4⟩ := hr
    exact ⟨n, mes, clock, by rw [hρ]; exact h1, by rw [hw rfl n h1]; exact h2, h3.imp fun _ _ _ _ hr => ⟨hr.1.evo h k fo, hr.2.evo h k fo⟩, h4⟩
  | ment KK KV es x g =>
    obtain ⟨n, mes, clock, h1, h2, h3, h4, j, e, me, bg, g1, g2, g3, g4, g5, g6, g7⟩ := hr
    obtain ⟨bg', q1, q2⟩ := k.hp g bg g4 g5
    exact ⟨n, mes, clock, by rw [hρ]; exact h1, by rw [hw rfl n h1]; exact h2, h3.imp fun _ _ _ _ hr => ⟨hr.1.evo h k fo, hr.2.evo h k fo⟩, h4, j, e, me, bg', g1, g2, g3, q1, q2.to_not_free, by rw [k.ρ g bg g4 g5]; exact g6, g7⟩
  | stp => trivial
  | gone => trivial
  | free => trivial
end

/-- An own block lies in the heap. -/
theorem Ok.lt {X : Cx} (h : Ok X) {b : Nat} (ho : X.Own b) : b < X.w.heap.size := by
  obtain ⟨id, blk, h1, h2, h3⟩ := ho
  have hb := h.blk id blk h1
  have key : ∀ o, X.w.heap[b]? = some o → b < X.w.heap.size := fun o ho => (Array.getElem?_eq_some_iff.1 ho).1
  cases blk with
  | var t K v => obtain ⟨_, n, cs, h4, h5, _⟩ := hb; rw [h3] at h4; cases h4; exact key _ h5
  | row e K xs =>
    rcases hb with ⟨h4, _⟩ | ⟨n, cur, cap, css, h4, h5, _⟩
    · rw [h3] at h4; cases h4
    · rw [h3] at h4; cases h4; exact key _ h5
  | map KK KV es => obtain ⟨n, mes, clock, h4, h5, _⟩ := hb; rw [h3] at h4; cases h4; exact key _ h5
  | ment KK KV es x g => obtain ⟨n, mes, clock, h4, h5, _⟩ := hb; rw [h3] at h4; cases h4; exact key _ h5
  | stp => simp [Blk.live] at h2
  | gone => simp [Blk.live] at h2
  | free => simp [Blk.live] at h2

/-- The package-level variables hold what is said of them. -/
def GOK (gl : GL) (X : Cx) : Prop := ∀ g, RS X (glv gl g) (.pointer (some ⟨g, 0, none⟩))

theorem GOK.evo {gl : GL} {X Y : Cx} (W : WEvo X Y) (fo : ∀ b, X.F b → b < X.w.heap.size ∧ ¬ X.Own b) (h : GOK gl X) : GOK gl Y := fun g => by
  have h := h g
  unfold glv at h ⊢
  split
  · rename_i q hq
    rw [hq] at h
    simp only at h
    rcases h with h | ⟨cs, h1, h2⟩
    · exact .inl h
    · obtain ⟨v, rfl, ad, cs, rfl, hF, g1, g2⟩ := h1
      refine .inr ⟨_, ⟨_, rfl, ad, cs, rfl, W.fmono _ hF, g1.evo W fo, fun j u hu => ?_⟩, h2⟩
      rw [cell?_same (w := X.w) (w' := Y.w) (by rw [add_block]; exact W.foreign fo _ hF)]
      exact g2 j u hu
  · exact .inl rfl


/-- A state, and the machine's frame and world. -/
structure Rel (gl : GL) (X : Cx) (s : St) (a : Act) : Prop where
  glo : GOK gl X
  defers : a.defers = []
  size : a.tmps.size = s.tm.length
  tm : ∀ (i : Nat) (av : AV), s.tm[i]? = some av → ∃ v, a.tmps[i]? = some v ∧ RS X av v
  hp : X.hp = s.hp
  ok : Ok X

theorem RS.any {X : Cx} (v : Value) : RS X .any v := .inl rfl

theorem RS.int {X : Cx} {k : IntKind} {n : Int} {v : Value} : RS X (.p (.int k) n) v ↔ v = .int k n := by
  constructor
  · rintro (h | ⟨cs, h1, ⟨h, _⟩ | ⟨_, h⟩⟩)
    · cases h
    · cases h
    · subst h; simpa [RA, RP] using h1
  · rintro rfl; exact .inr ⟨_, rfl, .inr ⟨rfl, rfl⟩⟩

theorem RS.bool {X : Cx} {b : Bool} {v : Value} : RS X (.p .bool b) v ↔ v = .bool b := by
  constructor
  · rintro (h | ⟨cs, h1, ⟨h, _⟩ | ⟨_, h⟩⟩)
    · cases h
    · cases h
    · subst h; simpa [RA, RP] using h1
  · rintro rfl; exact .inr ⟨_, rfl, .inr ⟨rfl, rfl⟩⟩

theorem RS.str {X : Cx} {s : ByteArray} {v : Value} : RS X (.p .str s) v ↔ v = .string s := by
  constructor
  · rintro (h | ⟨cs, h1, ⟨h, _⟩ | ⟨_, h⟩⟩)
    · cases h
    · cases h
    · subst h; simpa [RA, RP] using h1
  · rintro rfl; exact .inr ⟨_, rfl, .inr ⟨rfl, rfl⟩⟩

theorem RS.one {X : Cx} {av : AV} {v : Value} (h1 : ∀ K x, av ≠ .p K x) (h2 : ∀ a b, av ≠ .pr a b) (h3 : av ≠ .any) (h4 : ∀ vs, av ≠ .tup vs) : RS X av v ↔ R1 X av v := by
  constructor
  · intro h
    have h : RS0 X av v := by cases av <;> first | exact h | exact absurd rfl (h4 _)
    rcases h with h | ⟨cs, h5, ⟨h, _⟩ | ⟨_, h⟩⟩
    · cases av <;> first | exact absurd rfl h3 | cases h
    · cases av <;> first | exact absurd rfl (h1 _ _) | exact absurd rfl (h2 _ _) | cases h
    · subst h
      obtain ⟨u, hu, h6⟩ := (RA.single h1 h2).1 h5
      simp at hu; subst hu; exact h6
  · intro h
    have : RS0 X av v := .inr ⟨[v], (RA.single h1 h2).2 ⟨v, rfl, h⟩, .inr ⟨by cases av <;> first | rfl | exact absurd rfl (h1 _ _) | exact absurd rfl (h2 _ _), rfl⟩⟩
    cases av <;> first | exact this | exact absurd rfl (h4 _)

theorem Rel.eval {gl : GL} {X : Cx} {s : St} {a : Act} (h : Rel gl X s a) (t : Tmp) : RS X (s.tm.getD t .any) (a.eval (.tmp t)) := by
  show RS X _ (a.tmps.getD t undef)
  cases ht : s.tm[t]? with
  | none => simp [List.getD, ht]; exact RS.any _
  | some av =>
    obtain ⟨v, h1, h2⟩ := h.tm t av ht
    have e1 : s.tm.getD t .any = av := by simp [List.getD, ht]
    have e2 : a.tmps.getD t undef = v := by simp [h1]
    rw [e1, e2]; exact h2

theorem ofValue_RS {X : Cx} (v : Value) : RS X (ofValue v) v := by
  unfold ofValue
  split
  · exact RS.int.2 rfl
  · exact RS.bool.2 rfl
  · exact RS.str.2 rfl
  · exact (RS.one (by simp) (by simp) (by simp) (by simp)).2 rfl
  · exact RS.any _

theorem Rel.ev {gl : GL} {X : Cx} {s : St} {a : Act} (h : Rel gl X s a) (x : Operand) : RS X (St.ev gl s x) (a.eval x) := by
  cases x with
  | tmp t => exact h.eval t
  | const v => exact ofValue_RS v
  | global g => exact h.glo g
  | func f => exact RS.any _

end Go.Ev
end

