import Derived.WalkKit
/- A part of the proof of TopQuiet; no condition. -/
set_option linter.all false
set_option maxRecDepth 100000
namespace Go.Ev
inductive Raw where
 | ptr (a:Addr)
 | sl (a:Addr) (len cap:Nat)
 | mp (n:Nat)
 deriving DecidableEq
inductive Kind where
 | int (k:IntKind)|bool|str|opq|unit
 | pair (a b:Kind)|arr (n:Nat) (e:Kind)|sl (e:Kind)
 deriving DecidableEq
@[reducible] def Kind.den:Kind→Type
 | .int _=>Int
 | .bool=>Bool
 | .str=>ByteArray
 | .opq=>Option Raw
 | .unit=>Unit
 | .pair a b=>a.den×b.den
 | .arr _ e=>List e.den
 | .sl e=>List e.den
def Kind.zero:(K:Kind)→K.den
 | .int _=>(0:Int)
 | .bool=>false
 | .str=>ByteArray.empty
 | .opq=>none
 | .unit=>()
 | .pair a b=>(a.zero,b.zero)
 | .arr n e=>List.replicate n e.zero
 | .sl _=>[]
def Kind.size:Kind→Nat
 | .int _|.bool|.str|.opq|.sl _=>1
 | .unit=>0
 | .pair a b=>a.size+b.size
 | .arr n e=>n*e.size
def Kind.isAgg:Kind→Bool
 | .pair _ _|.arr _ _|.unit=>true
 | _=>false
def Kind.hasSl:Kind→Bool
 | .sl _=>true
 | .pair a b=>a.hasSl||b.hasSl
 | .arr _ e=>e.hasSl
 | _=>false
def Kind.flat:Kind→Bool
 | .int _|.bool|.str|.unit=>true
 | .pair a b=>a.flat&&b.flat
 | .arr _ e=>e.flat
 | _=>false
def Kind.dec:(K:Kind)→DecidableEq K.den
 | .int _=>inferInstanceAs (DecidableEq Int)
 | .bool=>inferInstanceAs (DecidableEq Bool)
 | .str=>inferInstanceAs (DecidableEq ByteArray)
 | .opq=>inferInstanceAs (DecidableEq (Option Raw))
 | .unit=>inferInstanceAs (DecidableEq Unit)
 | .pair a b=>@instDecidableEqProd _ _ a.dec b.dec
 | .arr _ e=>@instDecidableEqList _ e.dec
 | .sl e=>@instDecidableEqList _ e.dec
inductive Hop where
 | fld (i:Nat)
 | idx (i:Nat)
inductive Sh where
 | any
 | p (K:Kind)
 | pr (a b:Sh)
 | row (id:Nat)
 | ptr (id:Nat)
 | mp (id:Nat)
 | nilp
 | slc (id:Nat)
 | sub (id:Nat)
 | np (K:Kind)
 | vp (K:Kind)
 | fn (f:FuncId) (Ks:List (Bool×Kind))
 deriving DecidableEq
@[reducible] def vW:List (Bool×Kind)→Type
 | []=>Unit
 | K::r=>K.2.den×vW r
@[reducible] def Sh.den:Sh→Type
 | .p K=>K.den
 | .pr a b=>a.den×b.den
 | .slc _=>Nat×Nat
 | .sub _=>Nat×Nat
 | .np K=>Option K.den
 | .vp K=>K.den
 | .fn _ Ks=>vW Ks
 | _=>Unit
inductive BSh0 where
 | var (t:TypeId) (K:Kind) (h:Sh)
 | row (t:TypeId) (K:Kind)
 | map (KK KV:Kind)
 deriving DecidableEq
@[reducible] def BSh0.den:BSh0→Type
 | .var _ _ h=>h.den
 | .row _ K=>List K.den
 | .map KK KV=>List (KK.den×KV.den)
@[reducible] def rS:List BSh0→Type
 | []=>Unit
 | h::r=>h.den×rS r
structure OAlt where
 el:Sh
 bl:List BSh0
 deriving DecidableEq
@[reducible] def OAlt.den(a:OAlt):Type:=a.el.den×rS a.bl
inductive OKd where
 | one (a:OAlt)
 | two (a b:OAlt)
 deriving DecidableEq
@[reducible] def OKd.den:OKd→Type
 | .one a=>a.den
 | .two a b=>a.den⊕b.den
abbrev fg:=Bool×((K:Kind)×K.den)
inductive AV where
 | any
 | p (K:Kind) (x:K.den)
 | pr (a b:AV)
 | row (id:Nat)
 | sub (id lo len:Nat)
 | ptr (id:Nat) (path:List Hop)
 | vp (K:Kind) (x:K.den)
 | slc (id:Nat) (path:List Hop) (lo len:Nat)
 | mp (id:Nat)
 | nilp
 | np (K:Kind) (x:Option K.den)
 | fn (f:FuncId) (cs:List fg)
 | tup (vs:List AV)
inductive Blk where
 | var (t:TypeId) (K:Kind) (v:AV)
 | row (t:TypeId) (K:Kind) (xs:List K.den)
 | map (KK KV:Kind) (es:List (KK.den×KV.den))
 | ment (KK KV:Kind) (es:List (KK.den×KV.den)) (x:KK.den) (g:Nat)
 | stp
 | ob (t:TypeId) (K:Kind) (o:OKd) (xs:List o.den) (h:Option (Nat×AV))
 | gone
 | free
def Blk.there:Blk→Bool
 | .free=>false
 | _=>true
def MD:(Ks:List (Bool×Kind))→vW Ks→List fg
 | [],_=>[]
 | K::r,x=>(K.1,⟨K.2,x.1⟩)::MD r x.2
def CB:(Ks:List (Bool×Kind))→List fg→Option (vW Ks)
 | [],[]=>some ()
 | K::r,c::cs=>if c.1=K.1 then(if h:c.2.1=K.2 then(match CB r cs with|some y=>some (h▸c.2.2,y)|none=>none) else none) else none
 | _,_=>none
def Sh.fill:(h:Sh)→h.den→AV
 | .any,_=>.any
 | .p K,x=>.p K x
 | .pr a b,x=>.pr (a.fill x.1) (b.fill x.2)
 | .row id,_=>.row id
 | .ptr id,_=>.ptr id []
 | .mp id,_=>.mp id
 | .nilp,_=>.nilp
 | .slc id,x=>.slc id [] x.1 x.2
 | .sub id,x=>.sub id x.1 x.2
 | .np K,x=>.np K x
 | .vp K,x=>.vp K x
 | .fn f Ks,x=>.fn f (MD Ks x)
def Sh.read:(h:Sh)→AV→Option h.den
 | .any,.any=>some ()
 | .p K,.p K' x=>if h:K'=K then some (h▸x) else none
 | .pr a b,.pr v w=>match a.read v,b.read w with
  | some x,some y=>some (x,y)
  | _,_=>none
 | .row id,.row id'=>if id'=id then some () else none
 | .ptr id,.ptr id' []=>if id'=id then some () else none
 | .mp id,.mp id'=>if id'=id then some () else none
 | .nilp,.nilp=>some ()
 | .slc id,.slc id' [] lo len=>if id'=id then some (lo,len) else none
 | .sub id,.sub id' lo len=>if id'=id then some (lo,len) else none
 | .np K,.np K' o=>if h:K'=K then some (h▸o) else none
 | .vp K,.vp K' o=>if h:K'=K then some (h▸o) else none
 | .fn f Ks,.fn f' cs=>if f'=f then CB Ks cs else none
 | _,_=>none
def BSh0.fill:(h:BSh0)→h.den→Blk
 | .var t K h,x=>.var t K (h.fill x)
 | .row t K,x=>.row t K x
 | .map KK KV,x=>.map KK KV x
def BSh0.read:(h:BSh0)→Blk→Option h.den
 | .var t K h,.var t' K' v=>if t'=t∧K'=K then h.read v else none
 | .row t K,.row t' K' x=>if h:K'=K then(if t'=t then some (h▸x) else none) else none
 | .map KK KV,.map KK' KV' x=>if h:KK'=KK then(if g:KV'=KV then some (h▸g▸x) else none) else none
 | _,_=>none
def fE:(hs:List BSh0)→rS hs→List Blk
 | [],_=>[]
 | h::r,x=>h.fill x.1::fE r x.2
def yl:(hs:List BSh0)→List Blk→Option (rS hs)
 | [],[]=>some ()
 | h::r,v::vs=>match h.read v,yl r vs with
  | some x,some y=>some (x,y)
  | _,_=>none
 | _,_=>none
def OAlt.read(a:OAlt)(v:AV)(l:List Blk):Option a.den:=match a.el.read v,yl a.bl l with
 | some x,some y=>some (x,y)
 | _,_=>none
def OKd.el:(o:OKd)→o.den→AV
 | .one a,x=>a.el.fill x.1
 | .two a _,.inl x=>a.el.fill x.1
 | .two _ b,.inr x=>b.el.fill x.1
def OKd.bl:(o:OKd)→o.den→List Blk
 | .one a,x=>fE a.bl x.2
 | .two a _,.inl x=>fE a.bl x.2
 | .two _ b,.inr x=>fE b.bl x.2
def OKd.read:(o:OKd)→AV→List Blk→Option o.den
 | .one a,v,l=>a.read v l
 | .two a b,v,l=>match a.read v l with
  | some x=>some (.inl x)
  | none=>match b.read v l with
   | some x=>some (.inr x)
   | none=>none
def OKd.caseK{A:Type}:(o:OKd)→o.den→(AV→List Blk→Option A)→Option A
 | .one a,x,k=>k (a.el.fill x.1) (fE a.bl x.2)
 | .two a b,x,k=>match x with
  | .inl y=>k (a.el.fill y.1) (fE a.bl y.2)
  | .inr y=>k (b.el.fill y.1) (fE b.bl y.2)
structure St where
 tm:List AV
 hp:List Blk
 m:Nat
inductive TD where
 | prim
 | slice (e:TypeId)
 | array (n:Nat) (e:TypeId)
 | struct (fs:List TypeId)
 | map (k v:TypeId)
 | ptr (e:TypeId)
 | other
def TD.agg:TD→Bool
 | .array _ _|.struct _=>true
 | _=>false
structure TI where
 K:Kind
 d:TD
 bytes:Nat
 cmp:Bool
inductive RMode where
 | pure
 | own
structure Entry(A:Type) where
 own:List Bool
 run:List AV→List Blk→(AV→List Blk→Option A)→Option A
 ro:Bool
inductive Ex where
 | normal
 | exit (id:Nat)
 | ret
structure Loop(A:Type) where
 dead:List Nat
 run:St→(Ex→St→Option A)→Option A
abbrev GL:=List (Nat×((K:Kind)×K.den))
def eo(gl:GL)(g:Nat):AV:=match gl.lookup g with
 | some q=>.vp q.1 q.2
 | none=>.any
structure Env(A:Type) where
 ty:List (TypeId×TI)
 gl:GL
 fns:List (FuncId×Entry A)
 lps:List (Nat×Loop A)
 nils:List Nat
 mvs:List Nat
 rwf:List (TypeId×List Nat)
 obs:List (TypeId×OKd)
variable{A:Type}
def Env.ti(E:Env A)(t:TypeId)(k:TI→Option A):Option A:=
 match E.ty.lookup t with
 | some i=>k i
 | none=>none
def j5:AV→AV→AV
 | .p a x,.p b y=>.p (.pair a b) (x,y)
 | a,b=>.pr a b
def AV.isAny:AV→Bool
 | .any=>true
 | _=>false
def AV.isTup:AV→Bool
 | .tup _=>true
 | _=>false
def AV.fits:AV→Kind→Bool
 | .p K' _,K=>decide (K'=K)
 | .pr a b,.pair x y=>a.fits x&&b.fits y
 | .row _,.sl _|.sub _ _ _,.sl _|.slc _ _ _ _,.sl _|.any,.sl _=>true
 | .ptr _ _,.opq|.vp _ _,.opq|.mp _,.opq|.nilp,.opq|.any,.opq|.np _ _,.opq|.fn _ _,.opq=>true
 | _,_=>false
def cZ:(K:Kind)→List Hop→K.den→(AV→Option A)→Option A
 | .pair a b=>fun path (x:a.den×b.den) k=>match path with
  | []=>k (.p (.pair a b) x)
  | .fld 0::r=>cZ a r x.1 k
  | .fld (n+1)::r=>cZ b (.fld n::r) x.2 k
  | _=>none
 | .arr n e=>fun path (l:List e.den) k=>match path with
  | []=>k (.p (.arr n e) l)
  | .idx i::r=>(l[i]?).bind fun x=>cZ e r x k
  | _=>none
 | .int q=>fun path x k=>match path with|[]=>k (.p (.int q) x)|_=>none
 | .bool=>fun path x k=>match path with|[]=>k (.p .bool x)|_=>none
 | .str=>fun path x k=>match path with|[]=>k (.p .str x)|_=>none
 | .opq=>fun path x k=>match path with|[]=>k (.p .opq x)|_=>none
 | .unit=>fun path x k=>match path with|[]=>k (.p .unit x)|_=>none
 | .sl e=>fun path x k=>match path with|[]=>k (.p (.sl e) x)|_=>none
def eY:Kind→List Hop→Option Kind
 | .pair a b=>fun path=>match path with
  | []=>some (.pair a b)
  | .fld 0::r=>eY a r
  | .fld (n+1)::r=>eY b (.fld n::r)
  | _=>none
 | .arr n e=>fun path=>match path with
  | []=>some (.arr n e)
  | .idx _::r=>eY e r
  | _=>none
 | .int q=>fun path=>match path with|[]=>some (.int q)|_=>none
 | .bool=>fun path=>match path with|[]=>some .bool|_=>none
 | .str=>fun path=>match path with|[]=>some .str|_=>none
 | .opq=>fun path=>match path with|[]=>some .opq|_=>none
 | .unit=>fun path=>match path with|[]=>some .unit|_=>none
 | .sl e=>fun path=>match path with|[]=>some (.sl e)|_=>none
def bS:AV→List Hop→(AV→Option A)→Option A
 | .p K x,path,k=>cZ K path x k
 | .pr a b,path,k=>match path with
  | []=>k (.pr a b)
  | .fld 0::r=>bS a r k
  | .fld (n+1)::r=>bS b (.fld n::r) k
  | _=>none
 | v,path,k=>match path with|[]=>k v|_=>none
def qg(n:Nat)(e:Kind)(l:List e.den)(i:Nat)(v:AV)(k:List e.den→Option A):Option A:=
 match v with
 | .p e' z=>if h:e'=e then(if i<n then k (l.set i (h▸z)) else none) else none
 | _=>none
def c9:(K:Kind)→List Hop→K.den→AV→(AV→Option A)→Option A
 | .pair a b=>fun path (x:a.den×b.den) v k=>match path with
  | []=>if v.fits (.pair a b) then k v else none
  | .fld 0::r=>c9 a r x.1 v fun y=>k (j5 y (.p b x.2))
  | .fld (n+1)::r=>c9 b (.fld n::r) x.2 v fun y=>k (j5 (.p a x.1) y)
  | _=>none
 | .arr n e=>fun path (l:List e.den) v k=>match path with
  | []=>if v.fits (.arr n e) then k v else none
  | [.idx i]=>qg n e l i v fun l'=>k (.p (.arr n e) l')
  | .idx i::h::r=>(l[i]?).bind fun x=>c9 e (h::r) x v fun y=>qg n e l i y fun l'=>k (.p (.arr n e) l')
  | _=>none
 | .int q=>fun path _ v k=>match path with|[]=>if v.fits (.int q) then k v else none|_=>none
 | .bool=>fun path _ v k=>match path with|[]=>if v.fits .bool then k v else none|_=>none
 | .str=>fun path _ v k=>match path with|[]=>if v.fits .str then k v else none|_=>none
 | .opq=>fun path _ v k=>match path with|[]=>if v.fits .opq then k v else none|_=>none
 | .unit=>fun path _ v k=>match path with|[]=>if v.fits .unit then k v else none|_=>none
 | .sl e=>fun path _ v k=>match path with|[]=>if v.fits (.sl e) then k v else none|_=>none
def p6(K0:Kind)(v:AV):AV:=match v with
 | .vp K x=>if h:K=K0 then .np K0 (some (h▸x)) else v
 | .nilp=>.np K0 none
 | v=>v
def cE:AV→Kind→List Hop→AV→(AV→Option A)→Option A
 | .p K x,_,path,v,k=>c9 K path x v k
 | .pr a b,K,path,v,k=>match K,path with
  | K,[]=>if v.fits K then k v else none
  | .pair x _,.fld 0::r=>cE a x r v fun y=>k (j5 y b)
  | .pair _ x,.fld (n+1)::r=>cE b x (.fld n::r) v fun y=>k (j5 a y)
  | _,_=>none
 | .np K0 _,K,path,v,k=>match path with|[]=>if (p6 K0 v).fits K then k (p6 K0 v) else none|_=>none
 | _,K,path,v,k=>match path with|[]=>if v.fits K then k v else none|_=>none
def held(a b x:Int):Int:=match a,b with
 | .ofNat _,.ofNat _=>x
 | .ofNat _,.negSucc _=>x
 | .negSucc _,.ofNat _=>x
 | .negSucc _,.negSucc _=>x
theorem Cq(a b x:Int):held a b x=x:=by cases a<;>cases b<;>rfl
def Cs(k:IntKind)(a b:Int):Int:=k.wrap (BitVec.ofInt k.bits a &&& BitVec.ofInt k.bits b).toNat
def bL(k:IntKind)(a b:Int):Int:=held a b (Cs k a b)
theorem Ct(k:IntKind)(a b:Int):bL k a b=Cs k a b:=Cq a b _
def vU(k:IntKind)(a b:Int):Int:=k.wrap (BitVec.ofInt k.bits a ||| BitVec.ofInt k.bits b).toNat
def dL(k:IntKind)(a b:Int):Int:=held a b (vU k a b)
theorem vV(k:IntKind)(a b:Int):dL k a b=vU k a b:=Cq a b _
def Cz(k:IntKind)(a b:Int):Int:=k.wrap (BitVec.ofInt k.bits a ^^^ BitVec.ofInt k.bits b).toNat
def bp(k:IntKind)(a b:Int):Int:=held a b (Cz k a b)
theorem CA(k:IntKind)(a b:Int):bp k a b=Cz k a b:=Cq a b _
def Vb(k:IntKind)(a b:Int):Int:=k.wrap (BitVec.ofInt k.bits a &&& ~~~BitVec.ofInt k.bits b).toNat
def Va(k:IntKind)(a b:Int):Int:=held a b (Vb k a b)
theorem Vc(k:IntKind)(a b:Int):Va k a b=Vb k a b:=Cq a b _
def shl(k:IntKind)(x y:Int):Int:=k.wrap (x*2^(min y.toNat k.bits))
def shr(k:IntKind)(x y:Int):Int:=x.fdiv (2^(min y.toNat k.bits))
def cf(x y:Int):Int:=if y<x then y else x
def bi(x y:Int):Int:=if y>x then y else x
def MA(op:BinOp)(k:IntKind)(a b:Int)(c:AV→Option A):Option A:=
 match op with
 | .add=>c (.p (.int k) (k.wrap (a+b)))
 | .sub=>c (.p (.int k) (k.wrap (a-b)))
 | .mul=>c (.p (.int k) (k.wrap (a*b)))
 | .quo=>if b=0 then none else c (.p (.int k) (k.wrap (a.tdiv b)))
 | .rem=>if b=0 then none else c (.p (.int k) (a.tmod b))
 | .and=>c (.p (.int k) (bL k a b))
 | .or=>c (.p (.int k) (dL k a b))
 | .xor=>c (.p (.int k) (bp k a b))
 | .andNot=>c (.p (.int k) (Va k a b))
 | .eql=>c (.p .bool (a==b))
 | .neq=>c (.p .bool (a != b))
 | .lss=>c (.p .bool (decide (a<b)))
 | .leq=>c (.p .bool (decide (a≤b)))
 | .gtr=>c (.p .bool (decide (a>b)))
 | .geq=>c (.p .bool (decide (a≥b)))
 | _=>none
def NN(op:BinOp)(a b:ByteArray)(c:AV→Option A):Option A:=
 match op with
 | .add=>if a.size+b.size≤9223372036854775807 then c (.p .str (a++b)) else none
 | .eql=>c (.p .bool (a.toList==b.toList))
 | .neq=>c (.p .bool (!(a.toList==b.toList)))
 | _=>none
def DU(E:Env A)(op:BinOp)(t:TypeId)(x y:AV)(c:AV→Option A):Option A:=
 match x,y with
 | .p K x,.p K' y=>
  match K,x,K',y with
  | .int k,x,.int k',y=>
   match op with
   | .shl=>if y<0 then none else c (.p (.int k) (shl k x y))
   | .shr=>if y<0 then none else c (.p (.int k) (shr k x y))
   | op=>if k=k' then MA op k x y c else none
  | .str,x,.str,y=>NN op x y c
  | K,x,K',y=>
   if h:K'=K then E.ti t fun i=>if i.cmp&&decide (i.K=K) then
    match op with
    | .eql=>c (.p .bool (@decide (x=h▸y) (K.dec x (h▸y))))
    | .neq=>c (.p .bool (!(@decide (x=h▸y) (K.dec x (h▸y)))))
    | _=>none
    else none
   else none
 | _,_=>none
def NS(op:UnOp)(x:AV)(c:AV→Option A):Option A:=
 match op,x with
 | .not,.p .bool b=>c (.p .bool !b)
 | .neg,.p (.int k) n=>c (.p (.int k) (k.wrap (0-n)))
 | .xor,.p (.int k) n=>c (.p (.int k) (bp k (if k.signed then -1 else k.max) n))
 | _,_=>none
def am(l:List Int):ByteArray:=⟨(l.map fun n=>UInt8.ofNat n.toNat).toArray⟩
def bd(s:ByteArray):List Int:=s.data.toList.map fun b=>(b.toNat:Int)
def look(sub:List (Nat×Blk))(id:Nat)(k:Blk→Option A):Option A:=
 match sub.lookup id with
 | some b=>k b
 | none=>none
def AV.ids:AV→List Nat
 | .row id|.sub id _ _|.ptr id _|.slc id _ _ _|.mp id=>[id]
 | .pr a b=>a.ids++b.ids
 | _=>[]
def Blk.ids:Blk→List Nat
 | .var _ _ v=>v.ids
 | .ob _ _ _ _ (some q)=>q.2.ids
 | _=>[]
def AV.ren1(f:Nat→Option Nat):AV→AV
 | .row id=>match f id with|some i=>.row i|none=>.any
 | .sub id a b=>match f id with|some i=>.sub i a b|none=>.any
 | .ptr id q=>match f id with|some i=>.ptr i q|none=>.any
 | .slc id q a b=>match f id with|some i=>.slc i q a b|none=>.any
 | .mp id=>match f id with|some i=>.mp i|none=>.any
 | .pr a b=>.pr (a.ren1 f) (b.ren1 f)
 | v=>v
def AV.ren(f:Nat→Option Nat):AV→AV
 | .tup vs=>.tup (vs.map fun v=>v.ren1 f)
 | v=>v.ren1 f
def Blk.ren(f:Nat→Option Nat):Blk→Blk
 | .var t K v=>.var t K (v.ren f)
 | .ment KK KV es _ _=>.map KK KV es
 | .stp=>.gone
 | .ob t K o xs h=>.ob t K o xs (h.map fun q=>(q.1,q.2.ren1 f))
 | b=>b
def s7(sub:List (Nat×Blk))(id:Nat)(path:List Hop)(k:Kind→Option A):Option A:=
 look sub id fun
 | .var _ K _=>match eY K path with|some K'=>k K'|none=>none
 | .row _ K _|.ob _ K _ _ _=>match path with
  | .idx _::r=>match eY K r with|some K'=>k K'|none=>none
  | _=>none
 | _=>none
def iD(sub:List (Nat×Blk))(v:AV)(k:(K:Kind)→List K.den→Option A):Option A:=
 match v with
 | .p (.sl K) xs=>k K xs
 | .row id=>look sub id fun|.row _ K xs=>k K xs|_=>none
 | .sub id lo len=>look sub id fun|.row _ K xs=>k K ((xs.drop lo).take len)|_=>none
 | .slc id path lo len=>look sub id fun
  | .var _ _ v=>bS v path fun|.p (.arr _ e) l=>k e ((l.drop lo).take len)|_=>none
  | _=>none
 | _=>none
def cW(sub:List (Nat×Blk)):AV→(AV→Option A)→Option A
 | .p K x,k=>k (.p K x)
 | .pr a b,k=>cW sub a fun a'=>cW sub b fun b'=>match a',b' with
  | .p K x,.p K' y=>k (.p (.pair K K') (x,y))
  | _,_=>none
 | .row id,k=>iD sub (.row id) fun K xs=>k (.p (.sl K) xs)
 | .sub id a b,k=>iD sub (.sub id a b) fun K xs=>k (.p (.sl K) xs)
 | .slc id q a b,k=>iD sub (.slc id q a b) fun K xs=>k (.p (.sl K) xs)
 | _,_=>none
def aY(K:Kind){V:Type}:List (K.den×V)→K.den→Option V
 | [],_=>none
 | e::r,x=>if @decide (e.1=x) (K.dec e.1 x) then some e.2 else aY K r x
def bw(K:Kind){V:Type}:List (K.den×V)→K.den→V→List (K.den×V)
 | [],x,v=>[(x,v)]
 | e::r,x,v=>if @decide (e.1=x) (K.dec e.1 x) then(x,v)::r else e::bw K r x v
def jm(K:Kind){V:Type}:List (K.den×V)→K.den→List (K.den×V)
 | [],_=>[]
 | e::r,x=>if @decide (e.1=x) (K.dec e.1 x) then r else e::jm K r x
def ofValue:Value→AV
 | .int k n=>.p (.int k) n
 | .bool b=>.p .bool b
 | .string s=>.p .str s
 | .pointer none=>.nilp
 | _=>.any
abbrev bX(A:Type):=AV→List (Nat×Blk)→Option A
def Env.nilAt(E:Env A):Option Tmp→Bool
 | some d=>E.nils.contains d
 | none=>false
def Env.nilRow(E:Env A)(e:TypeId)(K:Kind):Blk:=match E.obs.lookup e with
 | some o=>.ob e K o [] none
 | none=>.row e K []
def MR(E:Env A)(d:Option Tmp)(t:TypeId)(ev:Operand→AV)(x:Operand)(fresh:Nat)(k:bX A):Option A:=
 match x with
 | .const (.slice none 0 0)=>E.ti t fun i=>match i.d with
  | .slice e=>E.ti e fun j=>bif E.nilAt d then k (.p (.sl j.K) []) [] else k (.row fresh) [(fresh,E.nilRow e j.K)]
  | _=>none
 | x=>k (ev x) []
def fQ(E:Env A)(fs:List Nat):Kind→List TypeId→Nat→Nat→(AV→List (Nat×Blk)→Option A)→Option A
 | .pair a b,t::ts,i,fr,k=>
  bif fs.contains i||fs.contains (i+100) then E.ti t fun ti=>match ti.d with
   | .slice e=>E.ti e fun j=>if a=.sl j.K then fQ E fs b ts (i+1) (fr+1) fun w l=>k (.pr (.row fr) w) ((fr,E.nilRow e j.K)::l) else none
   | .ptr e=>E.ti e fun j=>if a=.opq then fQ E fs b ts (i+1) fr fun w l=>k (.pr (bif fs.contains (i+100) then .nilp else .np j.K none) w) l else none
   | _=>none
  else fQ E fs b ts (i+1) fr fun w l=>k (j5 (.p a a.zero) w) l
 | K,_,_,_,k=>k (.p K K.zero) []
def tD(E:Env A)(t:TypeId)(i:TI)(fr:Nat)(k:AV→List (Nat×Blk)→Option A):Option A:=
 match E.rwf.lookup t with
 | some fs=>match i.d with
  | .struct ts=>fQ E fs i.K ts 0 fr k
  | _=>none
 | none=>k (.p i.K i.K.zero) []
def pU:Kind→Nat→Hop
 | .arr _ _,i=>.idx i
 | _,i=>.fld i
def gX(K:Option Kind)(x:Operand)(v:AV):AV:=
 match x,K with
 | .const (.slice none 0 0),some (.sl K)=>.p (.sl K) []
 | _,_=>v
def vP(K:Kind):List (Nat×AV)→AV→(AV→Option A)→Option A
 | [],v,k=>k v
 | (i,x)::r,v,k=>if x.isAny||x.isTup then none else cE v K [pU K i] x fun v'=>vP K r v' k
def sT(n:Nat)(e:Kind):List (Nat×AV)→List e.den→(List e.den→Option A)→Option A
 | [],l,k=>k l
 | (i,x)::r,l,k=>qg n e l i x fun l'=>sT n e r l' k
def asInt(v:AV)(k:Int→Option A):Option A:=
 match v with
 | .p (.int _) n=>k n
 | _=>none
def Vi(E:Env A)(sub:List (Nat×Blk))(t:TypeId)(x ix:AV)(k:AV→Option A):Option A:=
 asInt ix fun i=>if 0≤i then E.ti t fun ti=>
  match ti.d with
  | .array n _=>if i<(n:Int) then
    match x with
    | .ptr id path=>s7 sub id path fun K=>if K=ti.K then k (.ptr id (path++[.idx i.toNat])) else none
    | .vp (.arr n' e) l=>if .arr n' e=ti.K then(l[i.toNat]?).bind fun y=>k (.vp e y) else none
    | _=>none
   else none
  | .slice _=>
   match x with
   | .p (.sl K) xs=>if .sl K=ti.K then(xs[i.toNat]?).bind fun y=>k (.vp K y) else none
   | .row id=>look sub id fun
    | .row _ K xs=>if .sl K=ti.K then(if i<(xs.length:Int) then k (.ptr id [.idx i.toNat]) else none) else none
    | .ob _ K _ xs _=>if .sl K=ti.K then(if i<(xs.length:Int) then k (.ptr id [.idx i.toNat]) else none) else none
    | _=>none
   | .sub id lo len=>look sub id fun
    | .row _ K _=>if .sl K=ti.K then(if i<(len:Int) then k (.ptr id [.idx (lo+i.toNat)]) else none) else none
    | _=>none
   | .slc id path lo len=>look sub id fun
    | .var _ K _=>match eY K path with
     | some (.arr _ e)=>if .sl e=ti.K then(if i<(len:Int) then k (.ptr id (path++[.idx (lo+i.toNat)])) else none) else none
     | _=>none
    | _=>none
   | _=>none
  | _=>none
 else none
def UG(E:Env A)(sub:List (Nat×Blk))(t:TypeId)(x:AV)(f:Nat)(k:AV→Option A):Option A:=
 E.ti t fun ti=>match ti.d with
 | .struct ts=>if f<ts.length then
   match x with
   | .ptr id path=>s7 sub id path fun K=>if K=ti.K then k (.ptr id (path++[.fld f])) else none
   | .vp K y=>if K=ti.K then cZ K [.fld f] y fun|.p K' y'=>k (.vp K' y')|_=>none else none
   | _=>none
  else none
 | _=>none
def UH(E:Env A)(t:TypeId)(x:AV)(f:Nat)(k:AV→Option A):Option A:=
 E.ti t fun ti=>match ti.d with
 | .struct ts=>if f<ts.length then(if x.isAny then none else if x.fits ti.K then bS x [.fld f] k else none) else none
 | _=>none
def pZ(sub:List (Nat×Blk))(a:AV)(k:AV→Option A):Option A:=
 match a with
 | .vp K x=>k (.p K x)
 | .np K o=>o.bind fun x=>k (.p K x)
 | .ptr id path=>look sub id fun
  | .var _ _ v=>bS v path k
  | .row _ K xs=>match path with
   | .idx i::r=>(xs[i]?).bind fun y=>cZ K r y k
   | _=>none
  | _=>none
 | _=>none
def tx(sub:List (Nat×Blk))(a v:AV)(k:List (Nat×Blk)→Option A):Option A:=
 match a with
 | .ptr id path=>look sub id fun
  | .var t K old=>cE old K path v fun new=>k [(id,.var t K new)]
  | .row t K xs=>match path with
   | [.idx i]=>qg xs.length K xs i v fun xs'=>k [(id,.row t K xs')]
   | .idx i::h::r=>(xs[i]?).bind fun y=>c9 K (h::r) y v fun y'=>qg xs.length K xs i y' fun xs'=>k [(id,.row t K xs')]
   | _=>none
  | _=>none
 | _=>none
def MM(sub:List (Nat×Blk))(a:AV)(fresh:Nat)(k:bX A):Option A:=
 match a with
 | .ptr id (.idx j::r)=>look sub id fun
  | .ob t K o xs none=>(xs[j]?).bind fun x=>o.caseK x fun v l=>bS (v.ren1 fun i=>some (fresh+i)) r fun y=>
    k y ((id,.ob t K o xs (some (j,v.ren1 fun i=>some (fresh+i))))::l.zipIdx.map fun q=>(fresh+q.2,q.1.ren fun i=>some (fresh+i)))
  | .ob _ _ _ _ (some (j',v))=>if j=j' then bS v r fun y=>k y [] else none
  | _=>pZ sub (.ptr id (.idx j::r)) fun y=>k y []
 | a=>pZ sub a fun y=>k y []
def CH(lo:Option AV)(h:Nat)(k:Nat→Option A):Option A:=
 match lo with
 | none=>k 0
 | some v=>asInt v fun l=>if 0≤l then(if l≤(h:Int) then k l.toNat else none) else none
def i8(len:Nat)(lo hi:Option AV)(k:Nat→Nat→Option A):Option A:=
 match hi with
 | none=>CH lo len fun l=>k l len
 | some v=>asInt v fun h=>if 0≤h then(if h≤(len:Int) then CH lo h.toNat fun l=>k l h.toNat else none) else none
def Xw(E:Env A)(sub:List (Nat×Blk))(t:TypeId)(x:AV)(lo hi:Option AV)(k:AV→Option A):Option A:=
 E.ti t fun ti=>match ti.d with
 | .slice _=>
  match x with
  | .p (.sl K) xs=>if .sl K=ti.K then i8 xs.length lo hi fun l h=>k (.p (.sl K) ((xs.drop l).take (h-l))) else none
  | .row id=>look sub id fun|.row _ K xs=>if .sl K=ti.K then i8 xs.length lo hi fun l h=>k (.sub id l (h-l)) else none|_=>none
  | .sub id a n=>look sub id fun|.row _ K _=>if .sl K=ti.K then i8 n lo hi fun l h=>k (.sub id (a+l) (h-l)) else none|_=>none
  | .slc id path a n=>look sub id fun
   | .var _ K _=>match eY K path with
    | some (.arr _ e)=>if .sl e=ti.K then i8 n lo hi fun l h=>k (.slc id path (a+l) (h-l)) else none
    | _=>none
   | _=>none
  | _=>none
 | .array n _=>
  match x with
  | .ptr id path=>look sub id fun
   | .var _ K _=>match eY K path with
    | some K'=>if K'=ti.K then i8 n lo hi fun l h=>k (.slc id path l (h-l)) else none
    | none=>none
   | _=>none
  | .vp (.arr m e) y=>if .arr m e=ti.K then i8 n lo hi fun l h=>k (.p (.sl e) ((y.drop l).take (h-l))) else none
  | _=>none
 | .prim=>
  match x with
  | .p .str s=>if .str=ti.K then i8 s.size lo hi fun l h=>k (.p .str (s.extract l h)) else none
  | _=>none
 | _=>none
def Vu(E:Env A)(sub:List (Nat×Blk))(t:TypeId)(x:AV)(k:AV→Option A):Option A:=
 E.ti t fun ti=>match ti.d with
 | .slice _=>
  match x with
  | .p (.sl _) xs=>k (.p (.int .i64) xs.length)
  | .row id=>look sub id fun|.row _ _ xs=>k (.p (.int .i64) xs.length)|.ob _ _ _ xs _=>k (.p (.int .i64) xs.length)|_=>none
  | .sub id _ n=>look sub id fun|.row _ _ _=>k (.p (.int .i64) n)|_=>none
  | .slc id _ _ n=>look sub id fun|.var _ _ _=>k (.p (.int .i64) n)|_=>none
  | _=>none
 | .array n _=>k (.p (.int .i64) n)
 | .prim=>match x with
  | .p .str s=>if .str=ti.K then k (.p (.int .i64) s.size) else none
  | _=>none
 | .map _ _=>match x with
  | .mp id=>look sub id fun|.map _ _ es=>k (.p (.int .i64) es.length)|_=>none
  | _=>none
 | _=>none
def yi(E:Env A)(sub:List (Nat×Blk))(t:TypeId)(s x:AV)(fresh:Nat)(k:bX A):Option A:=
 match s with
 | .row id=>look sub id fun
  | .row e K xs=>E.ti t fun ti=>match ti.d with
   | .slice e'=>if e'=e then E.ti e fun tj=>if K=tj.K then iD sub x fun K' ys=>
     if h:K'=K then(if (xs.length+ys.length)*tj.bytes≤140737488355328 then k (.row fresh) [(id,.gone),(fresh,.row e K (xs++(h▸ys)))] else none) else none
    else none else none
   | _=>none
  | _=>none
 | _=>none
def DN(E:Env A)(sub:List (Nat×Blk))(t:TypeId)(id:Nat)(e:TypeId)(K:Kind)(o:OKd)(xs:List o.den)(x:AV)(fresh:Nat)(k:bX A):Option A:=
 match x with
 | .row id2=>look sub id2 fun
  | .ob e2 K2 o2 ys none=>if h:o2=o then(if e2=e∧K2=K∧id2≠id∧0<ys.length then E.ti t fun ti=>match ti.d with
   | .slice e'=>if e'=e then E.ti e fun tj=>if K=tj.K then(if (xs.length+ys.length)*tj.bytes≤140737488355328 then k (.row fresh) [(id,.gone),(id2,.gone),(fresh,.ob e K o (xs++(h▸ys)) none)] else none) else none else none
   | _=>none
   else none) else none
  | _=>none
 | _=>none
def DO(E:Env A)(sub:List (Nat×Blk))(t:TypeId)(s x:AV)(fresh:Nat)(k:bX A):Option A:=
 match s with
 | .row id=>match sub.lookup id with
  | some (.ob e K o xs none)=>DN E sub t id e K o xs x fresh k
  | _=>yi E sub t (.row id) x fresh k
 | s=>yi E sub t s x fresh k
def VJ(E:Env A)(t:TypeId)(l c:AV)(fresh:Nat)(k:bX A):Option A:=
 asInt l fun n=>asInt c fun m=>E.ti t fun ti=>match ti.d with
 | .slice e=>E.ti e fun tj=>if 0≤n then(if n≤m then(if m*tj.bytes≤140737488355328 then k (.row fresh) [(fresh,.row e tj.K (List.replicate n.toNat tj.K.zero))] else none) else none) else none
 | _=>none
def P2(E:Env A)(t:TypeId)(sub:List (Nat×Blk))(d x:AV)(k:bX A):Option A:=
 E.ti t fun ti=>match ti.d with
 | .slice _=>iD sub x fun K ys=>match d with
  | .slc id path lo len=>look sub id fun
   | .var t' KV v=>bS v path fun
    | .p (.arr n e) l=>if h:K=e then(if .sl e=ti.K then(if e.size=1 then
      cE v KV path (.p (.arr n e) (l.take lo++((h▸ys).take len++l.drop (lo+min ys.length len)))) fun v'=>k (.p (.int .i64) (min ys.length len:Nat)) [(id,.var t' KV v')]
     else none) else none) else none
    | _=>none
   | _=>none
  | _=>none
 | _=>none
def Env.kv(E:Env A)(t:TypeId)(k:Kind→Kind→Option A):Option A:=
 E.ti t fun i=>match i.d with
 | .map a b=>E.ti a fun x=>E.ti b fun y=>if x.cmp&&x.K.flat then k x.K y.K else none
 | _=>none
def v7(E:Env A)(t:TypeId)(fresh:Nat)(k:bX A):Option A:=
 E.kv t fun kk kv=>k (.mp fresh) [(fresh,.map kk kv [])]
def MN(E:Env A)(t:TypeId)(sub:List (Nat×Blk))(m x:AV)(ok:Bool)(k:AV→Option A):Option A:=
 E.kv t fun kk kv=>match m,x with
 | .mp id,.p KK' x=>look sub id fun
  | .map KK KV es=>if h:KK'=KK then(if kk=KK then(if kv=KV then
    k (if ok then .tup [.p KV ((aY KK es (h▸x)).getD KV.zero),.p .bool (aY KK es (h▸x)).isSome] else .p KV ((aY KK es (h▸x)).getD KV.zero)) else none) else none)
   else none
  | _=>none
 | _,_=>none
def MP(E:Env A)(t:TypeId)(sub:List (Nat×Blk))(m x v:AV)(k:List (Nat×Blk)→Option A):Option A:=
 E.kv t fun kk _=>match m,x,v with
 | .mp id,.p KK' x,.p KV' v=>look sub id fun
  | .map KK KV es=>if h:KK'=KK then(if g:KV'=KV then(if kk=KK then k [(id,.map KK KV (bw KK es (h▸x) (g▸v)))] else none) else none) else none
  | _=>none
 | _,_,_=>none
def Ql(E:Env A)(t:TypeId)(sub:List (Nat×Blk))(m x:AV)(k:List (Nat×Blk)→Option A):Option A:=
 E.kv t fun kk _=>match m,x with
 | .mp id,.p KK' x=>look sub id fun
  | .map KK KV es=>if h:KK'=KK then(if kk=KK then k [(id,.map KK KV (jm KK es (h▸x)))] else none) else none
  | _=>none
 | _,_=>none
def PT(E:Env A)(t:TypeId)(sub:List (Nat×Blk))(m:AV)(k:List (Nat×Blk)→Option A):Option A:=
 E.kv t fun _ _=>match m with
 | .mp id=>look sub id fun|.map KK KV _=>k [(id,.map KK KV [])]|_=>none
 | _=>none
def PU(E:Env A)(t:TypeId)(sub:List (Nat×Blk))(x:AV)(k:List (Nat×Blk)→Option A):Option A:=
 E.ti t fun ti=>match ti.d with
 | .slice e=>E.ti e fun tj=>match x with
  | .sub id lo n=>look sub id fun
   | .row e' K xs=>if K=tj.K then(if 0<n then(if lo+n≤xs.length then k [(id,.row e' K (xs.take lo++(List.replicate n K.zero++xs.drop (lo+n))))] else none) else none) else none
   | _=>none
  | _=>none
 | _=>none
def Ed(E:Env A)(t:TypeId)(sub:List (Nat×Blk))(x:AV)(k:List (Nat×Blk)→Option A):Option A:=
 match x with
 | .sub id lo n=>PU E t sub (.sub id lo n) k
 | x=>PT E t sub x k
def VK(E:Env A)(t:TypeId)(sub:List (Nat×Blk))(m x:AV)(fresh:Nat)(k:bX A):Option A:=
 E.kv t fun kk kv=>match m,x with
 | .mp id,.p KK' x=>look sub id fun
  | .map KK KV es=>if h:KK'=KK then(if kk=KK then(if kv=KV then
    k (.tup [.p KV ((aY KK es (h▸x)).getD KV.zero),.mp fresh]) [(fresh,.stp),(id,.ment KK KV (bw KK es (h▸x) ((aY KK es (h▸x)).getD KV.zero)) (h▸x) fresh)] else none) else none)
   else none
  | _=>none
 | _,_=>none
def Et(sub:List (Nat×Blk))(m s v:AV)(k:List (Nat×Blk)→Option A):Option A:=
 match m,s,v with
 | .mp id,.mp g,.p KV' v=>look sub id fun
  | .ment KK KV es x g'=>if g'=g then(if h:KV'=KV then look sub g fun|.stp=>k [(id,.map KK KV (bw KK es x (h▸v)))]|_=>none else none) else none
  | _=>none
 | _,_,_=>none
def tg(op:BinOp)(b:Bool)(c:AV→Option A):Option A:=
 match op with
 | .eql=>c (.p .bool b)
 | .neq=>c (.p .bool (!b))
 | _=>none
def DV(E:Env A)(sub:List (Nat×Blk))(op:BinOp)(t:TypeId)(x y:AV)(c:AV→Option A):Option A:=
 match y with
 | .nilp=>E.ti t fun i=>match i.d with
  | .ptr _=>match x with
   | .nilp=>tg op true c
   | .ptr id q=>s7 sub id q fun _=>tg op false c
   | .vp _ _=>tg op false c
   | .np _ o=>tg op o.isNone c
   | _=>none
  | _=>none
 | y=>DU E op t x y c
def aaQ{K K':Kind}(h:K=K')(ys:List K.den):List K'.den:=h▸ys
def Vk:AV→Bool
 | .p (.int _) _=>true
 | _=>false
def P1(E:Env A)(sub:List (Nat×Blk))(src dst:TypeId)(x:AV)(fresh:Nat)(k:bX A):Option A:=
 E.ti src fun si=>E.ti dst fun ti=>
  bif Vk x then match ti.K,x with
   | .int q,.p (.int _) n=>k (.p (.int q) (q.wrap n)) []
   | _,_=>none
  else match x with
  | .p .str s=>match ti.d with
   | .slice e=>E.ti e fun ei=>if ei.K=.int .u8 then(bif E.nils.contains 3000000 then(if s.size≤140737488355328 then k (.row fresh) [(fresh,.row e (.int .u8) (bd s))] else none) else k (.p (.sl (.int .u8)) (bd s)) []) else none
   | _=>none
  | x=>match ti.K,si.d with
   | .str,.slice e=>E.ti e fun ei=>iD sub x fun K ys=>if h:K=.int .u8 then(if ei.K=.int .u8 then k (.p .str (am (aaQ h ys))) [] else none) else none
   | _,_=>none
def Vj(E:Env A)(t:TypeId)(x ix:AV)(k:AV→Option A):Option A:=
 asInt ix fun i=>if 0≤i then E.ti t fun ti=>
  match x with
  | .p (.arr n e) l=>if .arr n e=ti.K then(l[i.toNat]?).bind fun y=>k (.p e y) else none
  | .p .str s=>if .str=ti.K then((bd s)[i.toNat]?).bind fun y=>k (.p (.int .u8) y) else none
  | _=>none
 else none
def sW(f:Int→Int→Int):List AV→AV→(AV→Option A)→Option A
 | [],v,k=>k v
 | x::r,v,k=>match v,x with
  | .p (.int q) a,.p (.int q') b=>if q=q' then sW f r (.p (.int q) (f a b)) k else none
  | _,_=>none
def Pp(E:Env A)(t:TypeId)(ev:Operand→AV)(x:Operand)(k:AV→Option A):Option A:=
 match x with
 | .const (.slice none 0 0)=>E.ti t fun i=>match i.K with
  | .sl K=>k (.p (.sl K) [])
  | _=>none
 | x=>k (ev x)
def lM(E:Env A)(ev:Operand→AV):List (TypeId×Operand)→(List AV→Option A)→Option A
 | [],k=>k []
 | (t,x)::r,k=>Pp E t ev x fun v=>lM E ev r fun vs=>k (v::vs)
def mU(sub:List (Nat×Blk)):List Bool→List AV→(List AV→Option A)→Option A
 | _,[],k=>k []
 | true::os,v::vs,k=>mU sub os vs fun vs'=>k (v::vs')
 | false::os,v::vs,k=>cW sub v fun v'=>mU sub os vs fun vs'=>k (v'::vs')
 | [],v::vs,k=>cW sub v fun v'=>mU sub [] vs fun vs'=>k (v'::vs')
def dS:List Bool→List AV→List Nat
 | _,[]=>[]
 | true::os,_::vs=>dS os vs
 | false::os,v::vs=>v.ids++dS os vs
 | [],v::vs=>v.ids++dS [] vs
def dg(bid:Nat→List Nat):Nat→List Nat→List Nat→List Nat
 | 0,_,acc=>acc
 | _+1,[],acc=>acc
 | f+1,id::r,acc=>if acc.contains id then dg bid f r acc else dg bid f (bid id++r) (acc++[id])
def dZ(hp:List Blk)(id:Nat):List Nat:=match hp[id]? with|some b=>b.ids|none=>[]
def tz(sub:List (Nat×Blk))(id:Nat):List Nat:=match sub.lookup id with|some b=>b.ids|none=>[]
def aG(l:List Nat)(id:Nat):Option Nat:=match l.findIdx? (·==id) with|some i=>some i|none=>none
def AV.hasSl:AV→Bool
 | .p K _=>K.hasSl
 | .pr a b=>a.hasSl||b.hasSl
 | .vp _ _=>true
 | .np _ _=>true
 | .fn _ cs=>!cs.isEmpty
 | .tup vs=>vs.any fun|.p K _=>K.hasSl|.row _=>false|.mp _=>false|.ptr _ _=>false|.nilp=>false|_=>true
 | _=>false
def Blk.hasSl:Blk→Bool
 | .var _ _ v=>v.hasSl
 | .row _ K _=>K.hasSl
 | .map KK KV _|.ment KK KV _ _ _=>KK.hasSl||KV.hasSl
 | .ob _ _ _ _ _=>true
 | _=>false
def dJ(a b:List Nat):Bool:=a.all fun x=>!b.contains x
def bu(l:List Nat)(fresh i:Nat):Nat:=match l[i]? with|some id=>id|none=>fresh+(i-l.length)
def Blk.back(l:List Nat):Blk→Bool
 | .var _ _ v=>!v.isTup&&v.ids.all l.contains
 | .ob _ _ _ _ (some q)=>q.2.ids.all l.contains
 | .ment ..|.stp=>false
 | _=>true
def rV(E:Env A)(f:FuncId)(args:List AV)(sub:List (Nat×Blk))(fresh:Nat)(k:bX A):Option A:=
 match E.fns.lookup f with
 | none=>none
 | some en=>mU sub en.own args fun vs=>
  let l:=dg (tz sub) 1000 (vs.flatMap AV.ids) []
  bif dJ (dS en.own args) l&&l.all (fun id=>((sub.lookup id).getD .free).there) then
   en.run (vs.map fun v=>v.ren (aG l)) (l.map fun id=>((sub.lookup id).getD .gone).ren (aG l)) fun r hp=>
    bif en.ro then(bif l.all (fun id=>((sub.lookup id).getD .free).back l) then
     k (r.ren fun i=>some (bu l fresh i)) ((bif r.hasSl||hp.any Blk.hasSl then(dS en.own args).map fun id=>(id,Blk.gone) else[])++(hp.zipIdx.drop l.length).map fun q=>(bu l fresh q.2,q.1.ren fun i=>some (bu l fresh i))) else none)
    else k (r.ren fun i=>some (bu l fresh i)) ((bif r.hasSl||hp.any Blk.hasSl then(dS en.own args).map fun id=>(id,Blk.gone) else[])++hp.zipIdx.map fun q=>(bu l fresh q.2,q.1.ren fun i=>some (bu l fresh i)))
  else none
def ep(sub:List (Nat×Blk))(v:AV):AV:=match v with
 | .p K x=>.p K x
 | v=>(cW sub v (fun w=>some w)).getD v
def cT(sub:List (Nat×Blk))(v:AV):List Nat:=match v with
 | .p _ _=>[]
 | v=>match cW sub v (fun w=>some w) with|some _=>v.ids|none=>[]
def CY(sub:List (Nat×Blk))(v:AV):Option (Nat×(Σ K:Kind,K.den)):=match v with
 | .ptr id []=>match sub.lookup id with
  | some (.var _ K (.p K' y))=>if K=K' then some (id,⟨K',y⟩) else none
  | _=>none
 | _=>none
def AV.npAt:AV→List Hop→Bool
 | .np _ _,[]=>true
 | .pr a _,.fld 0::r=>a.npAt r
 | .pr _ b,.fld (n+1)::r=>b.npAt (.fld n::r)
 | _,_=>false
def MB(sub:List (Nat×Blk))(a:AV):Bool:=match a with
 | .ptr id path=>match sub.lookup id with
  | some (.var _ _ v)=>v.npAt path
  | _=>false
 | _=>false
def DQ(E:Env A)(t:TypeId)(x:AV)(k:AV→Option A):Option A:=
 E.ti t fun ti=>match ti.K,x with
 | .arr n e,.p (.sl e') xs=>if h:e'=e then(if 0<n then(if n≤xs.length then k (.vp (.arr n e) ((h▸xs).take n)) else none) else none) else none
 | _,_=>none
def gJ(c:fg):AV:=if c.1 then .vp c.2.1 c.2.2 else .p c.2.1 c.2.2
def d3:List AV→(List fg→Option A)→Option A
 | [],k=>k []
 | .p K x::r,k=>d3 r fun cs=>k ((false,⟨K,x⟩)::cs)
 | .vp K x::r,k=>d3 r fun cs=>k ((true,⟨K,x⟩)::cs)
 | _::_,_=>none
def DZ(E:Env A)(sub:List (Nat×Blk))(t:TypeId)(o:OKd)(x:AV)(fresh:Nat)(k:bX A):Option A:=
 E.ti t fun i=>match i.d with
 | .slice e=>E.ti e fun j=>
  let l:=dg (tz sub) 1000 x.ids []
  if x.isAny then none else if x.fits j.K then if j.K.size≤16777216 then
  match o.read (x.ren1 (aG l)) (l.map fun id=>((sub.lookup id).getD .gone).ren (aG l)) with
  | some y=>k (.row fresh) ((l.map fun id=>(id,Blk.gone))++[(fresh,.ob e j.K o [y] none)])
  | none=>none
  else none else none
 | _=>none
def Env.ob(E:Env A)(t:TypeId):Option OKd:=match E.ty.lookup t with
 | some i=>match i.d with
  | .slice e=>E.obs.lookup e
  | _=>none
 | none=>none
def th(E:Env A)(o:Oper)(ev:Operand→AV)(sub:List (Nat×Blk))(fresh:Nat)(k:bX A):Option A:=
 let v (v:AV):Option A:=k v []
 let u (l:List (Nat×Blk)):Option A:=k .any l
 match o.op with
 | .move x|.assign x=>MR E o.dst o.type ev x fresh k
 | .pick c a b=>match ev c with
  | .p .bool t=>bif t then v (ev a) else v (ev b)
  | _=>none
 | .alloc t=>E.ti t fun i=>tD E t i (fresh+1) fun w l=>k (.ptr fresh []) (l++[(fresh,.var t i.K w)])
 | .box t x=>bif E.nilAt o.dst then E.ti t fun i=>(match ev x with
   | .p K y=>if K=i.K then k (.vp K y) [] else none
   | _=>none)
  else E.ti t fun i=>if (ev x).isAny then none else if (ev x).fits i.K then k (.ptr fresh []) [(fresh,.var t i.K (ev x))] else none
 | .build t ps=>E.ti t fun i=>if i.d.agg then tD E t i fresh fun w l=>vP i.K (ps.toList.map fun q=>(q.1,gX (eY i.K [pU i.K q.1]) q.2 (ev q.2))) w (fun v'=>k v' l) else none
 | .buildSlice t n ps=>match E.ob t with
  | some o=>match n,ps.toList with
   | 1,[(0,x)]=>DZ E sub t o (ev x) fresh k
   | _,_=>none
  | none=>E.ti t fun i=>match i.d with
  | .slice e=>E.ti e fun j=>if n*j.K.size≤16777216 then sT n j.K (ps.toList.map fun q=>(q.1,gX (some j.K) q.2 (ep sub (ev q.2)))) (List.replicate n j.K.zero) fun l=>k (.row fresh) (((ps.toList.flatMap fun q=>cT sub (ev q.2)).map fun g=>(g,Blk.gone))++[(fresh,.row e j.K l)]) else none
  | _=>none
 | .load t a=>MM sub (ev a) fresh fun y l=>E.ti t fun i=>if y.fits i.K then k y l else none
 | .store t a x=>match (if MB sub (ev a) then CY sub (ev x) else none) with
  | some (id,d)=>E.ti t fun i=>if (AV.vp d.1 d.2).fits i.K then tx (sub.filter fun q=>![id].contains q.1) (ev a) (.vp d.1 d.2) (fun l=>u ((id,.gone)::l)) else none
  | none=>E.ti t fun i=>if (gX (some i.K) x (ev x)).isAny then none else if (gX (some i.K) x (ev x)).fits i.K then tx sub (ev a) (gX (some i.K) x (ev x)) u else none
 | .nilCheck x=>match ev x with
  | .ptr id q=>s7 sub id q fun _=>v (.ptr id q)
  | .vp K y=>v (.vp K y)
  | .np K o=>o.bind fun y=>v (.vp K y)
  | .fn f cs=>v (.fn f cs)
  | _=>none
 | .binOp op t x y _=>DV E sub op t (ev x) (ev y) v
 | .unOp op _ x=>NS op (ev x) v
 | .convert src dst x=>P1 E sub src dst (ev x) fresh k
 | .sliceToArrayPointer t x=>DQ E t (ev x) v
 | .makeFunc (.func f) first captured=>if first.isEmpty then d3 (captured.toList.map ev) fun cs=>v (.fn f cs) else none
 | .makeSlice t l c=>VJ E t (ev l) (ev c) fresh k
 | .makeMap t r=>match r with
  | none=>v7 E t fresh k
  | some x=>asInt (ev x) fun _=>v7 E t fresh k
 | .slice t x lo hi none=>Xw E sub t (ev x) (lo.map ev) (hi.map ev) v
 | .fieldAddr t x f=>UG E sub t (ev x) f v
 | .field t x f=>UH E t (ev x) f v
 | .indexAddr t x ix=>Vi E sub t (ev x) (ev ix) v
 | .index t x ix=>Vj E t (ev x) (ev ix) v
 | .lookup t m x ok=>MN E t sub (ev m) (ev x) ok v
 | .mapUpdate t m x y|.insert t m x y=>MP E t (sub.filter fun q=>!(cT sub (ev m)++(cT sub (ev x)++cT sub (ev y))).contains q.1) (ep sub (ev m)) (ep sub (ev x)) (ep sub (ev y)) fun l=>u (((cT sub (ev m)++(cT sub (ev x)++cT sub (ev y))).map fun g=>(g,Blk.gone))++l)
 | .mapEntry t m x=>VK E t sub (ev m) (ev x) fresh k
 | .entryStore _ m s x=>Et sub (ev m) (ev s) (ev x) u
 | .extract x i=>match ev x with
  | .tup vs=>match vs[i]? with|some y=>v y|none=>none
  | _=>none
 | .call c=>match c.callee with
  | .value (.func f)=>if c.argTypes.size=c.args.size then lM E ev (c.argTypes.toList.zip c.args.toList) fun args=>rV E f args sub fresh k else none
  | .value (.tmp t)=>match ev (.tmp t) with
   | .fn f cs=>if c.argTypes.size=c.args.size then lM E ev (c.argTypes.toList.zip c.args.toList) fun args=>rV E f (args++cs.map gJ) sub fresh k else none
   | _=>none
  | .builtin .len=>match c.args.toList,c.argTypes.toList with|[x],t::_=>Vu E sub t (ev x) v|_,_=>none
  | .builtin .append=>match c.args.toList,c.argTypes.toList with|[s,x],[t,t']=>if t'=t then DO E sub t (ev s) (ev x) fresh k else none|_,_=>none
  | .builtin .copy=>match c.args.toList,c.argTypes.toList with|[d,x],[t,_]=>P2 E t sub (ev d) (ev x) k|_,_=>none
  | .builtin .delete=>match c.args.toList,c.argTypes.toList with|[m,x],t::_=>Ql E t sub (ev m) (ev x) (k (.tup []))|_,_=>none
  | .builtin .clear=>match c.args.toList,c.argTypes.toList with|[m],t::_=>Ed E t sub (ev m) (k (.tup []))|_,_=>none
  | .builtin .min=>match c.args.toList with|x::r=>sW cf (r.map ev) (ev x) v|_=>none
  | .builtin .max=>match c.args.toList with|x::r=>sW bi (r.map ev) (ev x) v|_=>none
  | _=>none
 | _=>none
def St.ev(gl:GL)(s:St):Operand→AV
 | .tmp t=>s.tm.getD t .any
 | .const v=>ofValue v
 | .global g=>eo gl g
 | .func f=>.fn f []
def St.put(s:St)(d:Option Tmp)(v:AV):St:=
 match d with
 | some d=>{ s with tm:=s.tm.set d v }
 | none=>s
def aC(hp:List Blk)(id:Nat)(b:Blk):List Blk:=
 if id<hp.length then hp.set id b else hp++(List.replicate (id-hp.length) .free++[b])
def aR(hp:List Blk):List (Nat×Blk)→List Blk
 | []=>hp
 | (id,b)::r=>aR (aC hp id b) r
def V6(s:St)(o:Oper):List Nat:=o.op.operands.toList.flatMap fun x=>(St.ev [] s x).ids
def _root_.Go.Op.deep:Op→Bool
 | .call _|.buildSlice _ _ _=>true
 | _=>false
def _root_.Go.Op.still:Op→Bool
 | .move _|.assign _=>true
 | _=>false
def St.sub(s:St)(o:Oper):List (Nat×Blk):=
 (bif o.op.still then[] else bif o.op.deep then dg (dZ s.hp) 1000 (V6 s o) [] else dg (fun _=>[]) 1000 (V6 s o) []).filterMap fun id=>match s.hp[id]? with|some Blk.free=>none|some b=>some (id,b)|none=>none
structure FP where
 r:List Nat
 w:List Nat
def uj(E:Env A)(o:Oper)(s:St)(fps:List FP)(k:St→List FP→Option A):Option A:=
 th E o (St.ev E.gl s) (s.sub o) s.hp.length fun v l=>k { (s.put o.dst v) with hp:=aR s.hp l } (⟨(s.sub o).map (·.1),l.map (·.1)⟩::fps)
def gg(E:Env A)(ops:Array Oper):List Oper→St→List FP→(St→List FP→Option A)→Option A
 | [],s,fps,k=>k s fps
 | o::r,s,fps,k=>
  match o.guard with
  | none=>uj E o s fps fun s' fps'=>gg E ops r s' fps' k
  | some (j,want)=>
   match (ops[j]?).bind (·.dst) with
   | none=>none
   | some g=>
    match s.tm[g]? with
    | some (.p .bool b)=>
     let go (t:Bool) (s:St):Option A:=
      if t=want then uj E o s fps fun s' fps'=>gg E ops r s' fps' k
      else gg E ops r (s.put o.dst (.tup [])) (⟨[],[]⟩::fps) k
     bif b then go true (s.put (some g) (.p .bool true)) else go false (s.put (some g) (.p .bool false))
    | some (.tup [])=>gg E ops r (s.put o.dst (.tup [])) (⟨[],[]⟩::fps) k
    | _=>none
def _root_.Go.Oper.held(o:Oper):List Edge:=o.after.toList.filter fun e=>Region.binds .any e
def hJ(ops:List Oper):List (List Nat):=
 ops.foldl (fun acc o=>acc++[o.held.foldl (fun l e=>if l.contains e.on then l else l++e.on::((acc.getD e.on []).filter fun x=>!l.contains x)) []]) []
def _root_.Go.Op.isLook:Op→Bool
 | .lookup _ _ _ false=>true
 | _=>false
def _root_.Go.Op.isEntry:Op→Bool
 | .mapEntry _ _ _=>true
 | _=>false
def NF(ops:Array Oper)(fps:List FP)(i j:Nat):Bool:=
 match ops[i]?,ops[j]?,fps[i]? with
 | some oi,some oj,some fi=>oi.op.isLook&&oj.op.isEntry&&oi.apart ops oj&&fi.w.isEmpty &&
   ((List.range ops.size).all fun k=>k==j||match ops[k]? with|some ok=>!ok.op.isEntry|none=>true) &&
   ((List.range ops.size).all fun k=>!(decide (i<k)&&decide (k<j))||match fps[k]? with|some fk=>dJ fk.w fi.r|none=>false)
 | _,_,_=>false
def Cv(ops:Array Oper)(fps:List FP):Bool:=
 Region.noSelect ops &&
 (List.range ops.size).all fun j=>match ops[j]?,fps[j]? with
  | some oj,some fj=>(oj.held.all fun e=>decide (e.on<j)) &&
   (List.range j).all fun i=>((hJ ops.toList).getD j []).contains i||match ops[i]?,fps[i]? with
    | some oi,some fi=>(oi.apart ops oj&&dJ fi.w (fj.r++fj.w)&&dJ fj.w fi.r)||NF ops fps i j
    | _,_=>false
  | _,_=>false
def Ni(E:Env A)(ops:Array Oper)(draw:Bool)(s:St)(k:St→Option A):Option A:=
 gg E ops ops.toList s [] fun s' fps=>bif draw then(bif Cv ops fps.reverse then k s' else none) else k s'
def DR(hp:List Blk)(v:AV):AV:=match v with
 | .row id=>match hp[id]? with
  | some (.row _ _ xs)=>.sub id 0 xs.length
  | _=>v
 | v=>v
def gI(dead:List Nat)(s:St):List AV:=s.tm.zipIdx.map fun(v,i)=>if dead.contains i then AV.any else if dead.contains (1000000+i) then DR s.hp v else v
def lS(dead:List Nat)(s:St):List Nat:=dg (dZ s.hp) 1000 ((List.range s.m).flatMap (dZ s.hp)++(gI dead s).flatMap AV.ids) (List.range s.m)
def yu(dead:List Nat)(s:St):St:=
 { tm:=(gI dead s).map fun v=>v.ren (aG (lS dead s)),hp:=(lS dead s).map fun id=>(s.hp.getD id .gone).ren (aG (lS dead s)),m:=s.m }
def lW(kp:List Nat)(s:St)(id:Nat):St:=
 match s.hp[id]? with
 | some (.ob t K o xs (some (j,v)))=>
  let l:=dg (dZ s.hp) 1000 v.ids []
  bif dJ l kp&&dJ l [id] then
   match o.read (v.ren1 (aG l)) (l.map fun i=>(s.hp.getD i .gone).ren (aG l)) with
   | some x=>{ s with hp:=aR s.hp ((l.map fun i=>(i,Blk.gone))++[(id,.ob t K o (xs.set j x) none)]) }
   | none=>s
  else s
 | _=>s
def nL(kp:List Nat)(s:St):St:=(List.range s.hp.length).foldl (lW kp) s
def PJ(dead:List Nat)(s:St)(k:St→Option A):Option A:=
 bif (lS dead s).take s.m==List.range s.m then k (yu dead s) else none
def rW(dead:List Nat)(s:St)(k:St→Option A):Option A:=PJ dead (nL (List.range s.m++(gI dead s).flatMap AV.ids) { s with tm:=gI dead s }) k
def amo(next:St→(Ex→St→Option A)→Option A)(k:Ex→St→Option A):Ex→St→Option A
 | .normal,s=>next s k
 | x,s=>k x s
def PC(id:Nat)(k:Ex→St→Option A):Ex→St→Option A
 | .exit j,s=>if j=id then k .normal s else k (.exit j) s
 | x,s=>k x s
def gd(step:St→(Ex→St→Option A)→Option A)(dead xdead:List Nat):Nat→St→(Ex→St→Option A)→Option A
 | 0,_,_=>none
 | f+1,s,k=>step s fun x s'=>match x with
  | .normal=>rW dead s' fun s'=>gd step dead xdead f s' k
  | x=>rW xdead s' fun s'=>k x s'
def ew:Code→Nat
 | .seq a b=>ew a+ew b
 | .cond _ a b=>ew a+ew b
 | .block _ c|.scope c=>ew c
 | .loop c=>ew c+1
 | _=>0
def Env.closeR(E:Env A)(id:Nat)(s:St):St:=bif E.nils.contains (2000000+id) then nL (List.range s.m) s else s
def bY(E:Env A)(j:Nat):Code→St→(Ex→St→Option A)→Option A
 | .skip=>fun s k=>k .normal s
 | .region id ops draw=>fun s k=>Ni E ops draw (E.closeR id s) (k .normal)
 | .seq a b=>fun s k=>bY E j a s (amo (bY E (j+ew a) b) k)
 | .cond c a b=>fun s k=>match c with
  | .tmp t=>match s.tm[t]? with
   | some (.p .bool q)=>bif q then bY E j a (s.put (some t) (.p .bool true)) k else bY E (j+ew a) b (s.put (some t) (.p .bool false)) k
   | _=>none
  | .const (.bool q)=>bif q then bY E j a s k else bY E (j+ew a) b s k
  | _=>none
 | .block id c=>fun s k=>bY E j c s (PC id k)
 | .loop _=>fun s k=>match E.lps.lookup j with
  | some L=>rW L.dead s fun s=>L.run s k
  | none=>none
 | .exit id=>fun s k=>k (.exit id) s
 | .ret=>fun s k=>k .ret s
 | .label _=>fun s k=>k .normal s
 | .scope c=>fun s k=>bY E j c s k
 | _=>fun _ _=>none
def qc(E:Env A)(s:St):List ResultVar→(List AV→Option A)→Option A
 | [],k=>k []
 | .tmp t::r,k=>qc E s r fun vs=>k (s.tm.getD t .any::vs)
 | .cell t ty::r,k=>pZ (s.hp.zipIdx.map fun q=>(q.2,q.1)) (s.tm.getD t .any) fun y=>E.ti ty fun i=>if y.fits i.K then qc E s r fun vs=>k (y::vs) else none
def pT(hp:List (Nat×Blk)):List RMode→List AV→(List AV→Option A)→Option A
 | [],[],k=>k []
 | .pure::ms,v::vs,k=>cW hp v fun v'=>pT hp ms vs fun vs'=>k (v'::vs')
 | .own::ms,v::vs,k=>if v.isTup then none else pT hp ms vs fun vs'=>k (v::vs')
 | _,_,_=>none
def tB:List AV→AV
 | [v]=>v
 | vs=>.tup vs
def iK:List RMode→List AV→List Nat
 | .pure::ms,v::vs=>v.ids++iK ms vs
 | .own::ms,_::vs=>iK ms vs
 | _,_=>[]
def Env.closeEnd(E:Env A)(fn:Func)(s:St):St:=
 bif E.obs.isEmpty then s else nL (List.range s.m++fn.results.toList.flatMap fun r=>match r with|.tmp t=>(s.tm.getD t .any).ids|.cell t _=>(s.tm.getD t .any).ids) s
def nR(E:Env A)(fn:Func)(rm:List RMode)(k:AV→List Blk→Option A):Ex→St→Option A
 | .exit _,_=>none
 | _,s0=>let s:=E.closeEnd fn s0;qc E s fn.results.toList fun vs=>pT (s.hp.zipIdx.map fun q=>(q.2,q.1)) rm vs fun rs=>
  let l:=dg (dZ s.hp) 1000 ((List.range s.m).flatMap (dZ s.hp)++rs.flatMap AV.ids) (List.range s.m)
  bif dJ (iK rm vs) l&&(l.take s.m==List.range s.m) then k (tB (rs.map fun v=>v.ren1 (aG l))) (l.map fun id=>(s.hp.getD id .gone).ren (aG l)) else none
inductive BSh where
 | var (t:TypeId) (K:Kind) (h:Sh)
 | row (t:TypeId) (K:Kind)
 | map (KK KV:Kind)
 | ob (t:TypeId) (K:Kind) (o:OKd)
 | obh (t:TypeId) (K:Kind) (o:OKd) (h:Sh)
 | gone
@[reducible] def BSh.den:BSh→Type
 | .var _ _ h=>h.den
 | .row _ K=>List K.den
 | .map KK KV=>List (KK.den×KV.den)
 | .ob _ _ o=>List o.den
 | .obh _ _ o h=>List o.den×(Nat×h.den)
 | .gone=>Unit
def BSh.fill:(h:BSh)→h.den→Blk
 | .var t K h,x=>.var t K (h.fill x)
 | .row t K,x=>.row t K x
 | .map KK KV,x=>.map KK KV x
 | .ob t K o,x=>.ob t K o x none
 | .obh t K o h,x=>.ob t K o x.1 (some (x.2.1,h.fill x.2.2))
 | .gone,_=>.gone
def BSh.read:(h:BSh)→Blk→Option h.den
 | .var t K h,.var t' K' v=>if t'=t∧K'=K then h.read v else none
 | .row t K,.row t' K' x=>if h:K'=K then(if t'=t then some (h▸x) else none) else none
 | .map KK KV,.map KK' KV' x=>if h:KK'=KK then(if g:KV'=KV then some (h▸g▸x) else none) else none
 | .ob t K o,.ob t' K' o' x none=>if h:o'=o then(if t'=t∧K'=K then some (h▸x) else none) else none
 | .obh t K o sh,.ob t' K' o' x (some (j,v))=>if h:o'=o then(if t'=t∧K'=K then(match sh.read v with|some y=>some (h▸x,(j,y))|none=>none) else none) else none
 | .gone,.gone=>some ()
 | _,_=>none
@[reducible] def wy:List Sh→Type
 | []=>Unit
 | h::r=>h.den×wy r
@[reducible] def rT:List BSh→Type
 | []=>Unit
 | h::r=>h.den×rT r
def ka:(hs:List Sh)→wy hs→List AV
 | [],_=>[]
 | h::r,x=>h.fill x.1::ka r x.2
def eQ:(hs:List BSh)→rT hs→List Blk
 | [],_=>[]
 | h::r,x=>h.fill x.1::eQ r x.2
def mV:(hs:List Sh)→List AV→Option (wy hs)
 | [],[]=>some ()
 | h::r,v::vs=>match h.read v,mV r vs with
  | some x,some y=>some (x,y)
  | _,_=>none
 | _,_=>none
def lR:(hs:List BSh)→List Blk→Option (rT hs)
 | [],[]=>some ()
 | h::r,v::vs=>match h.read v,lR r vs with
  | some x,some y=>some (x,y)
  | _,_=>none
 | _,_=>none
structure Shape where
 tm:List Sh
 hp:List BSh
 m:Nat
@[reducible] def Shape.den(S:Shape):Type:=wy S.tm×rT S.hp
def Shape.fill(S:Shape)(d:S.den):St:={ tm:=ka S.tm d.1,hp:=eQ S.hp d.2,m:=S.m }
def CG(dead:List Nat)(S:Shape)(g:S.den→(Ex→St→Option A)→Option A):Loop A:=⟨dead,fun s k=>
 if s.m=S.m then match mV S.tm s.tm,lR S.hp s.hp with
  | some x,some y=>g (x,y) k
  | _,_=>none else none⟩
def eP(v:AV)(K:Kind)(k:K.den→Option A):Option A:=
 match v with
 | .p K' x=>if h:K'=K then k (h▸x) else none
 | _=>none
def aan(args:List AV)(g:Option A):Option A:=match args with|[]=>g|_=>none
def nD(args:List AV)(K0:Kind)(g:K0.den→Option A):Option A:=match args with|[v0]=>eP v0 K0 g|_=>none
def rQ(args:List AV)(K0 K1:Kind)(g:K0.den→K1.den→Option A):Option A:=match args with|[v0,v1]=>eP v0 K0 fun a0=>eP v1 K1 fun a1=>g a0 a1|_=>none
def cY(K:Kind)(x y:K.den):Bool:=@decide (x=y) (K.dec x y)
def fU:List Nat→Code→Code
 | [],c=>c
 | i::r,c=>match c with
  | .seq a b=>fU r (if i=0 then a else b)
  | .cond _ a b=>fU r (if i=0 then a else b)
  | .block _ a|.loop a|.scope a=>fU r a
  | c=>c
def eh(f:Func):Code:=f.body.getD .skip
def j6(mvs:List Nat)(m:Nat):List Nat:=(List.range m).map (fun i=>bif mvs.contains i then m+i else i)++mvs.filter fun i=>i<m
def wF(mvs:List Nat)(args:List AV)(hp:List Blk)(n:Nat):St:=
 match mvs with
 | []=>{ tm:=args++List.replicate (n-args.length) .any,hp:=hp,m:=hp.length }
 | mvs=>{ tm:=args.map (fun v=>v.ren (aG (j6 mvs hp.length)))++List.replicate (n-args.length) .any,hp:=(j6 mvs hp.length).map fun id=>(hp.getD id .gone).ren (aG (j6 mvs hp.length)),m:=hp.length }
def fY(E:Env A)(fn:Func)(rm:List RMode)(args:List AV)(hp:List Blk)(k:AV→List Blk→Option A):Option A:=
 match fn.body with
 | some c=>bif (j6 E.mvs hp.length).Nodup then bY E 0 c (wF E.mvs args hp fn.ntmps) (nR E fn rm k) else none
 | none=>none
def jo(g:List AV→(AV→List Blk→Option A)→Option A):Entry A:=⟨[],fun args hp k=>match hp with|[]=>g args k|_=>none,false⟩
def ai(own:List Bool)(S:Shape)(g:S.den→(AV→List Blk→Option A)→Option A):Entry A:=⟨own,fun args hp k=>
 match mV S.tm args,lR S.hp hp with
 | some x,some y=>g (x,y) k
 | _,_=>none,false⟩
def cu(own:List Bool)(S:Shape)(g:S.den→(AV→List Blk→Option A)→Option A):Entry A:=⟨own,fun args hp k=>
 match mV S.tm args,lR S.hp hp with
 | some x,some y=>g (x,y) fun r new=>k r (hp++new)
 | _,_=>none,true⟩
def nC(S:List Sh)(e1 e2:Entry A):Entry A:=⟨e1.own,fun args hp k=>match mV S args with|some _=>e1.run args hp k|none=>e2.run args hp k,e1.ro&&e2.ro⟩
end Go.Ev
namespace Go.Ev
inductive All2{α β:Type}(R:α→β→Prop):List α→List β→Prop where
 | nil:All2 R [] []
 | cons {a:α} {b:β} {as:List α} {bs:List β}:R a b→All2 R as bs→All2 R (a::as) (b::bs)
namespace All2
variable{α β:Type}{R S:α→β→Prop}
theorem length{as:List α}{bs:List β}(h:All2 R as bs):as.length=bs.length:=by
 induction h with
 | nil=>rfl
 | cons _ _ ih=>simp[ih]
theorem imp{as:List α}{bs:List β}(h:All2 R as bs)(f:∀ a b,a∈as→b∈bs→R a b→S a b):All2 S as bs:=by
 induction h with
 | nil=>exact .nil
 | cons h1 _ ih=>exact .cons (f _ _ (by simp) (by simp) h1) (ih fun a b ha hb=>f a b (by simp[ha]) (by simp[hb]))
theorem get{as:List α}{bs:List β}(h:All2 R as bs):∀ {i:Nat} {a:α},as[i]?=some a→∃ b,bs[i]?=some b∧R a b:=by
 induction h with
 | nil=>intro i a h;simp at h
 | cons h1 _ ih=>
  intro i a h
  cases i with
  | zero=>simp at h;subst h;exact⟨_,by simp,h1⟩
  | succ i=>simp at h;simpa using ih h
theorem get'{as:List α}{bs:List β}(h:All2 R as bs):∀ {i:Nat} {b:β},bs[i]?=some b→∃ a,as[i]?=some a∧R a b:=by
 induction h with
 | nil=>intro i a h;simp at h
 | cons h1 _ ih=>
  intro i a h
  cases i with
  | zero=>simp at h;subst h;exact⟨_,by simp,h1⟩
  | succ i=>simp at h;simpa using ih h
theorem append{as as':List α}{bs bs':List β}(h:All2 R as bs)(h':All2 R as' bs'):All2 R (as++as') (bs++bs'):=by
 induction h with
 | nil=>exact h'
 | cons h1 _ ih=>exact .cons h1 ih
theorem drop{as:List α}{bs:List β}(h:All2 R as bs)(n:Nat):All2 R (as.drop n) (bs.drop n):=by
 induction h generalizing n with
 | nil=>simp;exact .nil
 | cons h1 h2 ih=>cases n with
  | zero=>exact .cons h1 h2
  | succ n=>simpa using ih n
theorem take{as:List α}{bs:List β}(h:All2 R as bs)(n:Nat):All2 R (as.take n) (bs.take n):=by
 induction h generalizing n with
 | nil=>simp;exact .nil
 | cons h1 h2 ih=>cases n with
  | zero=>exact .nil
  | succ n=>simpa using All2.cons h1 (ih n)
theorem set{as:List α}{bs:List β}(h:All2 R as bs)(i:Nat){a:α}{b:β}(hab:R a b):All2 R (as.set i a) (bs.set i b):=by
 induction h generalizing i with
 | nil=>simp;exact .nil
 | cons h1 h2 ih=>cases i with
  | zero=>exact .cons hab h2
  | succ i=>exact .cons h1 (ih i)
theorem of_get{as:List α}{bs:List β}(hl:as.length=bs.length)(h:∀ (i:Nat) (a:α) (b:β),as[i]?=some a→bs[i]?=some b→R a b):All2 R as bs:=by
 induction as generalizing bs with
 | nil=>cases bs with
  | nil=>exact .nil
  | cons=>simp at hl
 | cons a as ih=>cases bs with
  | nil=>simp at hl
  | cons b bs=>exact .cons (h 0 a b (by simp) (by simp)) (ih (by simpa using hl) fun i x y hx hy=>h (i+1) x y (by simpa using hx) (by simpa using hy))
theorem replicate{a:α}{b:β}(h:R a b):∀ n,All2 R (List.replicate n a) (List.replicate n b)
 | 0=>.nil
 | n+1=>.cons h (replicate h n)
end All2
abbrev eM:=Nat→Option Nat
structure Cx where
 ρ:eM
 hp:List Blk
 F:Nat→Prop
 w:World
def Blk.live:Blk→Bool
 | .var _ _ _|.row _ _ _|.map _ _ _|.ment _ _ _ _ _|.ob _ _ _ _ _=>true
 | _=>false
def fV:List Nat→Nat
 | []=>0
 | a::l=>2^a*(2*fV l+1)
theorem Wh:∀ {a b x y:Nat},2^a*(2*x+1)=2^b*(2*y+1)→a=b∧x=y
 | 0,0,x,y,h=>by simp at h;omega
 | 0,b+1,x,y,h=>by
  rw[Nat.pow_succ,Nat.mul_comm (2^b) 2,Nat.mul_assoc] at h
  generalize 2^b*(2*y+1)=q at h
  simp at h;omega
 | a+1,0,x,y,h=>by
  rw[Nat.pow_succ,Nat.mul_comm (2^a) 2,Nat.mul_assoc] at h
  generalize 2^a*(2*x+1)=q at h
  simp at h;omega
 | a+1,b+1,x,y,h=>by
  rw[Nat.pow_succ,Nat.mul_comm (2^a) 2,Nat.mul_assoc,Nat.pow_succ,Nat.mul_comm (2^b) 2,Nat.mul_assoc] at h
  obtain⟨h1,h2⟩:=Wh (Nat.eq_of_mul_eq_mul_left (by omega) h)
  exact⟨by omega,h2⟩
theorem Qx:∀ {l m:List Nat},fV l=fV m→l=m
 | [],[],_=>rfl
 | [],b::m,h=>by
  have:=Nat.mul_pos (Nat.pow_pos (n:=b) (show 0<2 by omega)) (show 0<2*fV m+1 by omega)
  simp only[fV] at h;omega
 | a::l,[],h=>by
  have:=Nat.mul_pos (Nat.pow_pos (n:=a) (show 0<2 by omega)) (show 0<2*fV l+1 by omega)
  simp only[fV] at h;omega
 | a::l,b::m,h=>by
  obtain⟨rfl,h2⟩:=Wh h
  rw[Qx h2]
open Classical in
noncomputable def uf(n:Nat):List Nat:=if h:∃ l,fV l=n then h.choose else[]
theorem En(l:List Nat):uf (fV l)=l:=by
 unfold uf
 rw[dif_pos ⟨l,rfl⟩]
 exact Qx (Exists.choose_spec (⟨l,rfl⟩:∃ m,fV m=fV l))
noncomputable def br(p:Nat):Nat:=(uf p).headD 0
noncomputable def bm(p j:Nat):eM:=fun i=>match (uf p).tail[j]? with
 | some q=>match (uf q)[i]? with
  | some (n+1)=>some n
  | _=>none
 | none=>none
def Qy(π:Nat×eM):Nat:=fV ((List.range π.1).map fun i=>match π.2 i with|some n=>n+1|none=>0)
def nQ(root:Nat)(πs:List (Nat×eM)):Nat:=fV (root::πs.map Qy)
theorem MX(root:Nat)(πs:List (Nat×eM)):br (nQ root πs)=root:=by unfold br nQ;rw[En];rfl
theorem CP(root:Nat)(πs:List (Nat×eM))(j i:Nat):bm (nQ root πs) j i=(πs[j]?).bind fun π=>if i<π.1 then π.2 i else none:=by
 unfold bm nQ
 rw[En]
 simp only[List.tail_cons,List.getElem?_map]
 cases πs[j]? with
 | none=>rfl
 | some π=>
  simp only[Option.map_some,Option.bind_some,Qy,En,List.getElem?_map]
  by_cases hi:i<π.1
  ·rw[List.getElem?_range hi,if_pos hi]
   simp only[Option.map_some]
   cases π.2 i<;>rfl
  ·rw[if_neg hi,List.getElem?_eq_none (by simpa using hi)]
   rfl
def Blk.at:Blk→Option Nat→Nat→Prop
 | .var _ _ _,q,b|.row _ _ _,q,b|.map _ _ _,q,b|.ment _ _ _ _ _,q,b=>q=some b
 | .ob _ _ o xs h,q,b=>∃ p,q=some p∧(b=br p∨∃ j x i d,xs[j]?=some x∧(∀ v,h≠some (j,v))∧(o.bl x)[i]?=some d∧bm p j i=some b)
 | _,_,_=>False
def Blk.plain:Blk→Bool
 | .var _ _ _|.row _ _ _|.map _ _ _|.ment _ _ _ _ _=>true
 | _=>false
def Blk.isOb:Blk→Bool
 | .ob _ _ _ _ _=>true
 | _=>false
theorem Blk.at.simple{c:Blk}{q:Option Nat}{b:Nat}(hc:c.isOb=true→q=none)(h:c.at q b):q=some b:=by
 cases c with
 | ob t K o xs oh=>rw[hc rfl] at h;obtain⟨p,h,_⟩:=h;cases h
 | stp=>exact h.elim
 | gone=>exact h.elim
 | free=>exact h.elim
 | _=>exact h
theorem M0{c:Blk}(h:c.plain=true):c.live=true:=by cases c<;>first|rfl|cases h
theorem dc{c:Blk}(h:c.plain=true){q:Option Nat}{b:Nat}:c.at q b↔q=some b:=by cases c<;>first|exact Iff.rfl|cases h
theorem Blk.at.live{c:Blk}{q:Option Nat}{b:Nat}(h:c.at q b):c.live=true:=by cases c<;>first|rfl|exact h.elim
theorem Blk.at_ren{c:Blk}{f:Nat→Option Nat}{q:Option Nat}{b:Nat}:(c.ren f).at q b↔c.at q b:=by
 cases c with
 | ob t K o xs h=>
  constructor
  ·rintro⟨p,h1,h2|⟨j,x,i,d,h3,h4,h5⟩⟩
   ·exact⟨p,h1,.inl h2⟩
   ·exact⟨p,h1,.inr ⟨j,x,i,d,h3,fun v hv=>h4 (v.ren1 f) (by rw[hv];rfl),h5⟩⟩
  ·rintro⟨p,h1,h2|⟨j,x,i,d,h3,h4,h5⟩⟩
   ·exact⟨p,h1,.inl h2⟩
   ·refine⟨p,h1,.inr ⟨j,x,i,d,h3,fun v hv=>?_,h5⟩⟩
    cases h with
    | none=>cases hv
    | some w=>simp only[Option.map_some,Option.some.injEq,Prod.mk.injEq] at hv;exact h4 w.2 (by rw[← hv.1])
 | _=>exact Iff.rfl
def Cx.Own(X:Cx)(b:Nat):Prop:=∃ (id:Nat) (blk:Blk),X.hp[id]?=some blk∧blk.at (X.ρ id) b
def Blk.psame:Blk→Option Nat→Option Nat→Prop
 | .ob _ _ _ _ _,q,q'=>q'.map br=q.map br
 | _,q,q'=>q'=q
theorem Blk.psame.rfl{c:Blk}{q:Option Nat}:c.psame q q:=by cases c<;>exact Eq.refl _
def Raw.val:Raw→Value
 | .ptr a=>.pointer (some a)
 | .sl a len cap=>.slice (some a) len cap
 | .mp n=>.map (some n)
def RP(F:Nat→Prop)(w:World):(K:Kind)→K.den→List Value→Prop
 | .int k=>fun(n:Int) cs=>cs=[.int k n]
 | .bool=>fun(b:Bool) cs=>cs=[.bool b]
 | .str=>fun(s:ByteArray) cs=>cs=[.string s]
 | .opq=>fun(o:Option Raw) cs=>∃ v:Value,cs=[v]∧v.oneCell'=true∧∀ r,o=some r→v=r.val
 | .unit=>fun _ cs=>cs=[]
 | .pair a b=>fun(x:a.den×b.den) cs=>∃ c1 c2,cs=c1++c2∧RP F w a x.1 c1∧RP F w b x.2 c2
 | .arr n e=>fun(l:List e.den) cs=>l.length=n∧∃ css,cs=css.flatten∧All2 (RP F w e) l css
 | .sl e=>fun(l:List e.den) cs=>∃ ao cap,cs=[.slice ao l.length cap]∧l.length≤cap∧
   (0<l.length→∃ ad css,ao=some ad∧F ad.block∧All2 (RP F w e) l css∧∀ j v,css.flatten[j]?=some v→w.cell? (ad.add j)=some v)
theorem eT{α:Type}{css:List (List α)}{m:Nat}(h:∀ c∈css,c.length=m):css.flatten.length=css.length*m:=by
 induction css with
 | nil=>simp
 | cons c r ih=>
  have h1:=h c (by simp)
  have h2:=ih fun c hc=>h c (by simp[hc])
  simp[h1,h2,Nat.add_mul,Nat.add_comm]
theorem RP.length{F:Nat→Prop}{w:World}:∀ {K:Kind} {x:K.den} {cs:List Value},RP F w K x cs→cs.length=K.size
 | .int _,_,_,h=>by simp[RP] at h;simp[h,Kind.size]
 | .bool,_,_,h=>by simp[RP] at h;simp[h,Kind.size]
 | .str,_,_,h=>by simp[RP] at h;simp[h,Kind.size]
 | .opq,_,_,h=>by obtain⟨v,rfl,_⟩:=h;simp[Kind.size]
 | .unit,_,_,h=>by simp[RP] at h;simp[h,Kind.size]
 | .pair a b,_,_,h=>by
  obtain⟨c1,c2,rfl,h1,h2⟩:=h
  simp[Kind.size,RP.length h1,RP.length h2]
 | .arr n e,_,_,h=>by
  obtain⟨hl,css,rfl,h1⟩:=h
  have h2:css.flatten.length=css.length*e.size:=eT fun c hc=>by
   obtain⟨i,hi⟩:=List.mem_iff_getElem?.1 hc
   obtain⟨a,_,ha⟩:=h1.get' hi
   exact RP.length ha
  rw[h2,← h1.length,hl];rfl
 | .sl e,_,_,h=>by obtain⟨_,_,rfl,_⟩:=h;simp[Kind.size]
theorem RP.one{F:Nat→Prop}{w:World}:∀ {K:Kind} {x:K.den} {cs:List Value},RP F w K x cs→∀ u∈cs,u.oneCell'=true
 | .int _,_,_,h=>by simp[RP] at h;simp[h,Value.oneCell']
 | .bool,_,_,h=>by simp[RP] at h;simp[h,Value.oneCell']
 | .str,_,_,h=>by simp[RP] at h;simp[h,Value.oneCell']
 | .opq,_,_,h=>by obtain⟨v,rfl,h1,_⟩:=h;simp[h1]
 | .unit,_,_,h=>by simp[RP] at h;simp[h]
 | .pair a b,_,_,h=>by
  obtain⟨c1,c2,rfl,h1,h2⟩:=h
  intro u hu
  rcases List.mem_append.1 hu with hu|hu
  ·exact RP.one h1 u hu
  ·exact RP.one h2 u hu
 | .arr n e,_,_,h=>by
  obtain⟨hl,css,rfl,h1⟩:=h
  intro u hu
  obtain⟨c,hc,hu⟩:=List.mem_flatten.1 hu
  obtain⟨i,hi⟩:=List.mem_iff_getElem?.1 hc
  obtain⟨a,_,ha⟩:=h1.get' hi
  exact RP.one ha u hu
 | .sl e,_,_,h=>by obtain⟨_,_,rfl,_⟩:=h;simp[Value.oneCell']
theorem nJ{w w':World}{a:Addr}(h:w'.heap[a.block]?=w.heap[a.block]?):w'.cell? a=w.cell? a:=by
 unfold World.cell?;rw[h]
theorem gF(a:Addr)(n:Nat):(a.add n).block=a.block:=by unfold Addr.add;split<;>rfl
theorem RP.mono{F F':Nat→Prop}{w w':World}(hF:∀ b,F b→F' b)(hw:∀ b,F b→w'.heap[b]?=w.heap[b]?) :
  ∀ {K:Kind} {x:K.den} {cs:List Value},RP F w K x cs→RP F' w' K x cs
 | .int _,_,_,h=>h
 | .bool,_,_,h=>h
 | .str,_,_,h=>h
 | .opq,_,_,h=>h
 | .unit,_,_,h=>h
 | .pair a b,_,_,h=>by
  obtain⟨c1,c2,rfl,h1,h2⟩:=h
  exact⟨c1,c2,rfl,RP.mono hF hw h1,RP.mono hF hw h2⟩
 | .arr n e,_,_,h=>by
  obtain⟨hl,css,rfl,h1⟩:=h
  exact⟨hl,css,rfl,h1.imp fun _ _ _ _ h=>RP.mono hF hw h⟩
 | .sl e,_,_,h=>by
  obtain⟨ao,cap,rfl,hcap,h1⟩:=h
  refine⟨ao,cap,rfl,hcap,fun hl=>?_⟩
  obtain⟨ad,css,rfl,hf,h2,h3⟩:=h1 hl
  refine⟨ad,css,rfl,hF _ hf,h2.imp fun _ _ _ _ h=>RP.mono hF hw h,fun j v hj=>?_⟩
  rw[nJ (w:=w) (w':=w') (by rw[gF];exact hw _ hf)]
  exact h3 j v hj
def az:Kind→List Hop→Option (Nat×Kind)
 | K,[]=>some (0,K)
 | .pair a _,.fld 0::r=>az a r
 | .pair a b,.fld (n+1)::r=>(az b (.fld n::r)).map fun q=>(a.size+q.1,q.2)
 | .arr n e,.idx i::r=>if i<n then(az e r).map fun q=>(i*e.size+q.1,q.2) else none
 | _,_=>none
theorem cL(K:Kind):az K []=some (0,K):=by cases K<;>rfl
theorem ga:∀ {K:Kind} {path:List Hop} {off:Nat} {K':Kind},az K path=some (off,K')→off+K'.size≤K.size
 | K,[],off,K',h=>by rw[cL] at h;simp at h;obtain⟨rfl,rfl⟩:=h;simp
 | .pair a b,.fld 0::r,off,K',h=>by
  have:=ga (K:=a) (path:=r) (by simpa[az] using h)
  simp[Kind.size];omega
 | .pair a b,.fld (n+1)::r,off,K',h=>by
  simp only[az,Option.map_eq_some_iff,Prod.exists,Prod.mk.injEq] at h
  obtain⟨o,k,h,rfl,rfl⟩:=h
  have:=ga h
  simp[Kind.size];omega
 | .arr n e,.idx i::r,off,K',h=>by
  simp only[az] at h
  split at h
  ·rename_i hi
   simp only[Option.map_eq_some_iff,Prod.exists,Prod.mk.injEq] at h
   obtain⟨o,k,h,rfl,rfl⟩:=h
   have:=ga h
   have h2:(i+1)*e.size≤n*e.size:=Nat.mul_le_mul_right _ hi
   simp[Kind.size,Nat.add_mul] at *;omega
  ·cases h
 | .int _,.fld _::_,_,_,h=>by simp[az] at h
 | .int _,.idx _::_,_,_,h=>by simp[az] at h
 | .bool,.fld _::_,_,_,h=>by simp[az] at h
 | .bool,.idx _::_,_,_,h=>by simp[az] at h
 | .str,.fld _::_,_,_,h=>by simp[az] at h
 | .str,.idx _::_,_,_,h=>by simp[az] at h
 | .opq,.fld _::_,_,_,h=>by simp[az] at h
 | .opq,.idx _::_,_,_,h=>by simp[az] at h
 | .unit,.fld _::_,_,_,h=>by simp[az] at h
 | .unit,.idx _::_,_,_,h=>by simp[az] at h
 | .sl _,.fld _::_,_,_,h=>by simp[az] at h
 | .sl _,.idx _::_,_,_,h=>by simp[az] at h
 | .pair _ _,.idx _::_,_,_,h=>by simp[az] at h
 | .arr _ _,.fld _::_,_,_,h=>by simp[az] at h
def bM{α:Type}(cs:List α)(off n:Nat):List α:=(cs.drop off).take n
def bJ{α:Type}(cs:List α)(off:Nat)(vc:List α):List α:=cs.take off++vc++cs.drop (off+vc.length)
theorem yz{α:Type}{a b:List α}{off n:Nat}(h:off+n≤a.length):bM (a++b) off n=bM a off n:=by
 unfold bM
 rw[List.drop_append_of_le_length (by omega),List.take_append_of_le_length (by simp;omega)]
theorem yA{α:Type}{a b:List α}{off n:Nat}:bM (a++b) (a.length+off) n=bM b off n:=by
 unfold bM
 rw[List.drop_length_add_append]
theorem cX{α:Type}(a:List α){n:Nat}(h:n=a.length):bM a 0 n=a:=by subst h;simp[bM]
theorem NG{α:Type}{a b v:List α}{off:Nat}(h:off+v.length≤a.length):bJ (a++b) off v=bJ a off v++b:=by
 unfold bJ
 rw[List.take_append_of_le_length (by omega),List.drop_append_of_le_length (by omega)]
 simp
theorem NH{α:Type}{a b v:List α}{off:Nat}:bJ (a++b) (a.length+off) v=a++bJ b off v:=by
 unfold bJ
 rw[List.take_length_add_append,Nat.add_assoc,List.drop_length_add_append]
 simp
theorem wD{α:Type}{a v:List α}(h:v.length=a.length):bJ a 0 v=v:=by unfold bJ;simp[h]
theorem sV{css:List (List Value)}{m:Nat}(h:∀ c∈css,c.length=m):∀ {i:Nat} {c:List Value} {o n:Nat},css[i]?=some c→o+n≤m→bM css.flatten (i*m+o) n=bM c o n:=by
 induction css with
 | nil=>intro i c o n hi;simp at hi
 | cons d r ih=>
  intro i c o n hi hn
  have hd:=h d (by simp)
  cases i with
  | zero=>
   simp at hi;subst hi
   simp only[List.flatten_cons,Nat.zero_mul,Nat.zero_add]
   exact yz (by omega)
  | succ i=>
   simp at hi
   simp only[List.flatten_cons]
   rw[show(i+1)*m+o=d.length+(i*m+o) by rw[hd,Nat.add_mul];omega,yA]
   exact ih (fun c hc=>h c (by simp[hc])) hi hn
theorem Mo{css:List (List Value)}{m:Nat}(h:∀ c∈css,c.length=m):∀ {i:Nat} {c v:List Value} {o:Nat},css[i]?=some c→o+v.length≤m→
  bJ css.flatten (i*m+o) v=(css.set i (bJ c o v)).flatten:=by
 induction css with
 | nil=>intro i c v o hi;simp at hi
 | cons d r ih=>
  intro i c v o hi hn
  have hd:=h d (by simp)
  cases i with
  | zero=>
   simp at hi;subst hi
   simp only[List.flatten_cons,Nat.zero_mul,Nat.zero_add,List.set_cons_zero]
   exact NG (by omega)
  | succ i=>
   simp at hi
   simp only[List.flatten_cons,List.set_cons_succ]
   rw[show(i+1)*m+o=d.length+(i*m+o) by rw[hd,Nat.add_mul];omega,NH]
   rw[ih (fun c hc=>h c (by simp[hc])) hi hn]
theorem All2.lens{F:Nat→Prop}{w:World}{e:Kind}{l:List e.den}{css:List (List Value)}(h:All2 (RP F w e) l css):∀ c∈css,c.length=e.size:=fun c hc=>by
 obtain⟨i,hi⟩:=List.mem_iff_getElem?.1 hc
 obtain⟨a,_,ha⟩:=h.get' hi
 exact RP.length ha
variable{A:Type}
theorem pS{out:A}:∀ {K:Kind} {path:List Hop} {x:K.den} {k:AV→Option A},cZ K path x k=some out→
  ∃ (K':Kind) (y:K'.den),k (.p K' y)=some out∧∀ {F:Nat→Prop} {w:World} {cs:List Value},RP F w K x cs→∃ off,az K path=some (off,K')∧RP F w K' y (bM cs off K'.size)
 | .pair a b,path,x,k,h=>by
  match path with
  | []=>exact⟨_,x,by simpa[cZ] using h,fun {F w cs} hr=>⟨0,rfl,by rw[cX _ (RP.length hr).symm];exact hr⟩⟩
  | .fld 0::r=>
   obtain⟨K',y,h1,h2⟩:=pS (K:=a) (path:=r) (x:=x.1) (k:=k) (by simpa[cZ] using h)
   refine⟨K',y,h1,fun {F w cs} hr=>?_⟩
   obtain⟨c1,c2,rfl,hr1,hr2⟩:=hr
   obtain⟨off,ho,hy⟩:=h2 hr1
   have hle:=ga ho
   exact⟨off,by simpa[az] using ho,by rw[yz (by rw[RP.length hr1];exact hle)];exact hy⟩
  | .fld (n+1)::r=>
   obtain⟨K',y,h1,h2⟩:=pS (K:=b) (path:=.fld n::r) (x:=x.2) (k:=k) (by simpa[cZ] using h)
   refine⟨K',y,h1,fun {F w cs} hr=>?_⟩
   obtain⟨c1,c2,rfl,hr1,hr2⟩:=hr
   obtain⟨off,ho,hy⟩:=h2 hr2
   exact⟨a.size+off,by simp[az,ho],by rw[← RP.length hr1,yA];exact hy⟩
  | .idx i::r=>simp[cZ] at h
 | .arr n e,path,l,k,h=>by
  match path with
  | []=>exact⟨_,l,by simpa[cZ] using h,fun {F w cs} hr=>⟨0,rfl,by rw[cX _ (RP.length hr).symm];exact hr⟩⟩
  | .idx i::r=>
   simp only[cZ,Option.bind_eq_some_iff] at h
   obtain⟨x,hx,h⟩:=h
   obtain⟨K',y,h1,h2⟩:=pS h
   refine⟨K',y,h1,fun {F w cs} hr=>?_⟩
   obtain⟨hl,css,rfl,hr1⟩:=hr
   obtain⟨c,hc,hxc⟩:=hr1.get hx
   obtain⟨off,ho,hy⟩:=h2 hxc
   have hle:=ga ho
   have hi:i<n:=by rw[← hl];exact(List.getElem?_eq_some_iff.1 hx).1
   exact⟨i*e.size+off,by simp[az,hi,ho],by rw[sV hr1.lens hc hle];exact hy⟩
  | .fld i::r=>simp[cZ] at h
 | .int q,path,x,k,h=>by
  match path with
  | []=>exact⟨_,x,by simpa[cZ] using h,fun {F w cs} hr=>⟨0,rfl,by rw[cX _ (RP.length hr).symm];exact hr⟩⟩
  | _::_=>simp[cZ] at h
 | .bool,path,x,k,h=>by
  match path with
  | []=>exact⟨_,x,by simpa[cZ] using h,fun {F w cs} hr=>⟨0,rfl,by rw[cX _ (RP.length hr).symm];exact hr⟩⟩
  | _::_=>simp[cZ] at h
 | .str,path,x,k,h=>by
  match path with
  | []=>exact⟨_,x,by simpa[cZ] using h,fun {F w cs} hr=>⟨0,rfl,by rw[cX _ (RP.length hr).symm];exact hr⟩⟩
  | _::_=>simp[cZ] at h
 | .opq,path,x,k,h=>by
  match path with
  | []=>exact⟨_,x,by simpa[cZ] using h,fun {F w cs} hr=>⟨0,rfl,by rw[cX _ (RP.length hr).symm];exact hr⟩⟩
  | _::_=>simp[cZ] at h
 | .unit,path,x,k,h=>by
  match path with
  | []=>exact⟨_,x,by simpa[cZ] using h,fun {F w cs} hr=>⟨0,rfl,by rw[cX _ (RP.length hr).symm];exact hr⟩⟩
  | _::_=>simp[cZ] at h
 | .sl e,path,x,k,h=>by
  match path with
  | []=>exact⟨_,x,by simpa[cZ] using h,fun {F w cs} hr=>⟨0,rfl,by rw[cX _ (RP.length hr).symm];exact hr⟩⟩
  | _::_=>simp[cZ] at h
theorem Vm:∀ {Ks:List (Bool×Kind)} {cs:List fg} {x:vW Ks},CB Ks cs=some x→cs=MD Ks x
 | [],[],_,_=>rfl
 | (b,K)::r,(b',⟨K',z⟩)::cs,x,h=>by
  simp only[CB] at h
  have hb:b'=b:=by
   by_cases c:b'=b
   ·exact c
   ·rw[if_neg c] at h;cases h
  subst hb
  rw[if_pos rfl] at h
  split at h
  ·rename_i hK
   subst hK
   split at h
   ·rename_i y hy
    cases h
    rw[Vm hy];rfl
   ·cases h
  ·cases h
 | [],_::_,_,h=>by cases h
 | _::_,[],_,h=>by cases h
theorem Sh.read_fill:∀ {h:Sh} {v:AV} {x:h.den},h.read v=some x→v=h.fill x
 | .any,v,x,hr=>by cases v<;>first|rfl|(simp[Sh.read] at hr)
 | .p K,v,x,hr=>by
  cases v<;>simp only[Sh.read] at hr<;>first|(cases hr;done)|skip
  split at hr
  ·rename_i h;subst h;cases hr;rfl
  ·cases hr
 | .pr a b,v,x,hr=>by
  cases v<;>simp only[Sh.read] at hr<;>first|(cases hr;done)|skip
  split at hr
  ·rename_i h1 h2
   cases hr
   simp only[Sh.fill]
   rw[← Sh.read_fill h1,← Sh.read_fill h2]
  ·cases hr
 | .row id,v,x,hr=>by
  cases v<;>simp only[Sh.read] at hr<;>first|(cases hr;done)|skip
  split at hr
  ·rename_i h;subst h;rfl
  ·cases hr
 | .ptr id,v,x,hr=>by
  cases v with
  | ptr id' q=>
   cases q with
   | nil=>
    simp only[Sh.read] at hr
    split at hr
    ·rename_i h;subst h;rfl
    ·cases hr
   | cons=>simp[Sh.read] at hr
  | _=>simp[Sh.read] at hr
 | .mp id,v,x,hr=>by
  cases v<;>simp only[Sh.read] at hr<;>first|(cases hr;done)|skip
  split at hr
  ·rename_i h;subst h;rfl
  ·cases hr
 | .nilp,v,x,hr=>by cases v<;>first|rfl|(simp[Sh.read] at hr)
 | .slc id,v,x,hr=>by
  cases v with
  | slc id' q lo len=>
   cases q with
   | nil=>
    simp only[Sh.read] at hr
    split at hr
    ·rename_i h;subst h;cases hr;rfl
    ·cases hr
   | cons=>simp[Sh.read] at hr
  | _=>simp[Sh.read] at hr
 | .sub id,v,x,hr=>by
  cases v<;>simp only[Sh.read] at hr<;>first|(cases hr;done)|skip
  split at hr
  ·rename_i h;subst h;cases hr;rfl
  ·cases hr
 | .np K,v,x,hr=>by
  cases v<;>simp only[Sh.read] at hr<;>first|(cases hr;done)|skip
  split at hr
  ·rename_i h;subst h;cases hr;rfl
  ·cases hr
 | .vp K,v,x,hr=>by
  cases v<;>simp only[Sh.read] at hr<;>first|(cases hr;done)|skip
  split at hr
  ·rename_i h;subst h;cases hr;rfl
  ·cases hr
 | .fn f Ks,v,x,hr=>by
  cases v<;>simp only[Sh.read] at hr<;>first|(cases hr;done)|skip
  split at hr
  ·rename_i h;subst h;rw[Vm hr];rfl
  ·cases hr
end Go.Ev
namespace Go.Ev
def AV.agg:AV→Bool
 | .p K _=>K.isAgg
 | .pr _ _=>true
 | _=>false
def RV(X:Cx)(c:fg)(u:Value):Prop:=(c.1=false∧∃ ws,RP X.F X.w c.2.1 c.2.2 ws∧((c.2.1.isAgg=true∧u=.agg ws.toArray)∨(c.2.1.isAgg=false∧ws=[u])))∨
 (c.1=true∧∃ ad cs,u=.pointer (some ad)∧X.F ad.block∧RP X.F X.w c.2.1 c.2.2 cs∧∀ j v,cs[j]?=some v→X.w.cell? (ad.add j)=some v)
def ce(w:World)(b:Nat)(cur:Array Value)(e:TypeId):Prop:=∃ fr:Nat×Nat,(fr=(0,0)∨fr=(cur.size,cur.size+1))∧w.heap[b]?=some (.cells cur e fr)
theorem ce.of{w:World}{b:Nat}{cur:Array Value}{e:TypeId}(h:w.heap[b]?=some (.cells cur e (0,0))):ce w b cur e:=⟨_,.inl rfl,h⟩
theorem ce.eq{w:World}{b:Nat}{cur cur':Array Value}{e e':TypeId}(h:ce w b cur e)(h':ce w b cur' e'):cur=cur'∧e=e':=by
 obtain⟨f,_,h⟩:=h;obtain⟨f',_,h'⟩:=h'
 rw[h] at h';cases h';exact⟨rfl,rfl⟩
theorem ce.evo{w w':World}{b:Nat}{cur:Array Value}{e:TypeId}(h:ce w b cur e)(he:w'.heap[b]?=w.heap[b]?):ce w' b cur e:=by
 obtain⟨f,h1,h⟩:=h;exact⟨f,h1,by rw[he];exact h⟩
def R1(X:Cx):AV→Value→Prop
 | .row id,v=>match X.hp[id]? with
  | some (.row e K xs)=>(X.ρ id=none∧xs.length=0∧v=.slice none 0 0)∨
    (∃ b cap cur,X.ρ id=some b∧v=.slice (some ⟨b,0,none⟩) xs.length cap∧ce X.w b cur e∧cur.size=cap*K.size∧xs.length≤cap)
  | some (.ob t K _ xs _)=>(X.ρ id=none∧xs.length=0∧v=.slice none 0 0)∨
    (∃ p cap cur,X.ρ id=some p∧v=.slice (some ⟨br p,0,none⟩) xs.length cap∧X.w.heap[br p]?=some (.cells cur t (0,0))∧cur.size=cap*K.size∧xs.length≤cap)
  | some .gone=>v.oneCell'=true
  | _=>False
 | .sub id lo len,v=>match X.hp[id]? with
  | some (.row _ K xs)=>lo+len≤xs.length∧∃ ao c,v=.slice ao len c∧len≤c∧(0<len→∃ b,X.ρ id=some b∧ao=some ⟨b,lo*K.size,none⟩)
  | some .gone=>v.oneCell'=true
  | _=>False
 | .ptr id path,v=>match X.hp[id]? with
  | some (.var _ K _)=>∃ b off K',X.ρ id=some b∧az K path=some (off,K')∧v=.pointer (some ⟨b,off,none⟩)
  | some (.row _ K xs)=>∃ b i r off K',path=.idx i::r∧i<xs.length∧X.ρ id=some b∧az K r=some (off,K')∧v=.pointer (some ⟨b,i*K.size+off,none⟩)
  | some (.ob _ K _ xs _)=>∃ p i r off K',path=.idx i::r∧i<xs.length∧X.ρ id=some p∧az K r=some (off,K')∧v=.pointer (some ⟨br p,i*K.size+off,none⟩)
  | some .gone=>v.oneCell'=true
  | _=>False
 | .slc id path lo len,v=>match X.hp[id]? with
  | some (.var _ K _)=>∃ b off n e,X.ρ id=some b∧az K path=some (off,.arr n e)∧lo+len≤n∧∃ ao c,v=.slice ao len c∧len≤c∧(0<len→ao=some ⟨b,off+lo*e.size,none⟩)
  | some .gone=>v.oneCell'=true
  | _=>False
 | .mp id,v=>match X.hp[id]? with
  | some (.map _ _ _)=>∃ b,X.ρ id=some b∧v=.map (some b)
  | some (.ment _ _ _ _ _)=>∃ b,X.ρ id=some b∧v=.map (some b)
  | some .stp=>∃ n:Nat,X.ρ id=some n∧v=goInt n
  | some .gone=>v.oneCell'=true
  | _=>False
 | .nilp,v=>v=.pointer none
 | .vp K x,v=>∃ ad cs,v=.pointer (some ad)∧X.F ad.block∧RP X.F X.w K x cs∧∀ j u,cs[j]?=some u→X.w.cell? (ad.add j)=some u
 | .np K o,v=>(o=none∧v=.pointer none)∨∃ x,o=some x∧∃ ad cs,v=.pointer (some ad)∧X.F ad.block∧RP X.F X.w K x cs∧∀ j u,cs[j]?=some u→X.w.cell? (ad.add j)=some u
 | .fn f cs,v=>∃ us:List Value,v=.func (.func f) #[] us.toArray∧All2 (RV X) cs us
 | .any,v=>v.oneCell'=true
 | _,_=>False
def RA(X:Cx):AV→List Value→Prop
 | .p K x,cs=>RP X.F X.w K x cs
 | .pr a b,cs=>∃ c1 c2,cs=c1++c2∧RA X a c1∧RA X b c2
 | av,cs=>∃ v,cs=[v]∧R1 X av v
def aE(X:Cx)(av:AV)(v:Value):Prop:=
 av.isAny=true∨∃ cs,RA X av cs∧((av.agg=true∧v=.agg cs.toArray)∨(av.agg=false∧cs=[v]))
def RS(X:Cx)(av:AV)(v:Value):Prop:=
 match av with
 | .tup vs=>∃ us:Array Value,v=.tuple us∧All2 (aE X) vs us.toList
 | av=>aE X av v
theorem R1.one{X:Cx}{av:AV}{v:Value}(h:R1 X av v):v.oneCell'=true:=by
 cases av with
 | row id=>
  simp only[R1] at h
  split at h
  ·rcases h with ⟨_,_,rfl⟩|⟨_,_,_,_,rfl,_⟩<;>rfl
  ·rcases h with ⟨_,_,rfl⟩|⟨_,_,_,_,rfl,_⟩<;>rfl
  ·exact h
  ·exact h.elim
 | sub id lo len=>
  simp only[R1] at h
  split at h
  ·obtain⟨_,_,_,rfl,_⟩:=h;rfl
  ·exact h
  ·exact h.elim
 | ptr id path=>
  simp only[R1] at h
  split at h
  ·obtain⟨_,_,_,_,_,rfl⟩:=h;rfl
  ·obtain⟨_,_,_,_,_,_,_,_,_,rfl⟩:=h;rfl
  ·obtain⟨_,_,_,_,_,_,_,_,_,rfl⟩:=h;rfl
  ·exact h
  ·exact h.elim
 | slc id path lo len=>
  simp only[R1] at h
  split at h
  ·obtain⟨_,_,_,_,_,_,_,_,_,rfl,_⟩:=h;rfl
  ·exact h
  ·exact h.elim
 | mp id=>
  simp only[R1] at h
  split at h
  ·obtain⟨_,_,rfl⟩:=h;rfl
  ·obtain⟨_,_,rfl⟩:=h;rfl
  ·obtain⟨_,_,rfl⟩:=h;rfl
  ·exact h
  ·exact h.elim
 | nilp=>simp only[R1] at h;subst h;rfl
 | vp K x=>obtain⟨_,_,rfl,_⟩:=h;rfl
 | np K o=>rcases h with ⟨_,rfl⟩|⟨_,_,_,_,rfl,_⟩<;>rfl
 | fn f cs=>obtain⟨_,rfl,_⟩:=h;rfl
 | any=>exact h
 | p K x=>exact h.elim
 | pr a b=>exact h.elim
 | tup vs=>exact h.elim
theorem RA.one{X:Cx}:∀ {av:AV} {cs:List Value},RA X av cs→∀ u∈cs,u.oneCell'=true
 | .p K x,cs,h=>RP.one h
 | .pr a b,cs,h=>by
  obtain⟨c1,c2,rfl,h1,h2⟩:=h
  intro u hu
  rcases List.mem_append.1 hu with hu|hu
  ·exact RA.one h1 u hu
  ·exact RA.one h2 u hu
 | .any,cs,h=>by obtain⟨v,rfl,h⟩:=h;intro u hu;simp at hu;subst hu;exact h.one
 | .row _,cs,h=>by obtain⟨v,rfl,h⟩:=h;intro u hu;simp at hu;subst hu;exact h.one
 | .sub _ _ _,cs,h=>by obtain⟨v,rfl,h⟩:=h;intro u hu;simp at hu;subst hu;exact h.one
 | .ptr _ _,cs,h=>by obtain⟨v,rfl,h⟩:=h;intro u hu;simp at hu;subst hu;exact h.one
 | .vp _ _,cs,h=>by obtain⟨v,rfl,h⟩:=h;intro u hu;simp at hu;subst hu;exact h.one
 | .slc _ _ _ _,cs,h=>by obtain⟨v,rfl,h⟩:=h;intro u hu;simp at hu;subst hu;exact h.one
 | .mp _,cs,h=>by obtain⟨v,rfl,h⟩:=h;intro u hu;simp at hu;subst hu;exact h.one
 | .nilp,cs,h=>by obtain⟨v,rfl,h⟩:=h;intro u hu;simp at hu;subst hu;exact h.one
 | .np _ _,cs,h=>by obtain⟨v,rfl,h⟩:=h;intro u hu;simp at hu;subst hu;exact h.one
 | .fn _ _,cs,h=>by obtain⟨v,rfl,h⟩:=h;intro u hu;simp at hu;subst hu;exact h.one
 | .tup _,cs,h=>by obtain⟨v,rfl,h⟩:=h;intro u hu;simp at hu;subst hu;exact h.one
theorem RA.length{X:Cx}:∀ {av:AV} {K:Kind} {cs:List Value},av.fits K=true→RA X av cs→cs.length=K.size
 | .p K' x,K,cs,hf,h=>by simp[AV.fits] at hf;subst hf;exact RP.length h
 | .pr a b,.pair x y,cs,hf,h=>by
  simp[AV.fits] at hf
  obtain⟨c1,c2,rfl,h1,h2⟩:=h
  simp[Kind.size,RA.length hf.1 h1,RA.length hf.2 h2]
 | .pr a b,.int _,cs,hf,h=>by simp[AV.fits] at hf
 | .pr a b,.bool,cs,hf,h=>by simp[AV.fits] at hf
 | .pr a b,.str,cs,hf,h=>by simp[AV.fits] at hf
 | .pr a b,.opq,cs,hf,h=>by simp[AV.fits] at hf
 | .pr a b,.unit,cs,hf,h=>by simp[AV.fits] at hf
 | .pr a b,.arr _ _,cs,hf,h=>by simp[AV.fits] at hf
 | .pr a b,.sl _,cs,hf,h=>by simp[AV.fits] at hf
 | .any,K,cs,hf,h=>by obtain⟨v,rfl,h⟩:=h;cases K<;>simp[AV.fits] at hf<;>rfl
 | .row _,K,cs,hf,h=>by obtain⟨v,rfl,h⟩:=h;cases K<;>simp[AV.fits] at hf<;>rfl
 | .sub _ _ _,K,cs,hf,h=>by obtain⟨v,rfl,h⟩:=h;cases K<;>simp[AV.fits] at hf<;>rfl
 | .ptr _ _,K,cs,hf,h=>by obtain⟨v,rfl,h⟩:=h;cases K<;>simp[AV.fits] at hf<;>rfl
 | .vp _ _,K,cs,hf,h=>by obtain⟨v,rfl,h⟩:=h;cases K<;>simp[AV.fits] at hf<;>rfl
 | .slc _ _ _ _,K,cs,hf,h=>by obtain⟨v,rfl,h⟩:=h;cases K<;>simp[AV.fits] at hf<;>rfl
 | .mp _,K,cs,hf,h=>by obtain⟨v,rfl,h⟩:=h;cases K<;>simp[AV.fits] at hf<;>rfl
 | .nilp,K,cs,hf,h=>by obtain⟨v,rfl,h⟩:=h;cases K<;>simp[AV.fits] at hf<;>rfl
 | .np _ _,K,cs,hf,h=>by obtain⟨v,rfl,h⟩:=h;cases K<;>simp[AV.fits] at hf<;>rfl
 | .fn _ _,K,cs,hf,h=>by obtain⟨v,rfl,h⟩:=h;cases K<;>simp[AV.fits] at hf<;>rfl
 | .tup _,K,cs,hf,h=>by obtain⟨v,rfl,h⟩:=h;exact h.elim
theorem sU{av:AV}{K:Kind}(h:av.fits K=true)(ha:av.isAny=false):av.agg=K.isAgg:=by
 cases av<;>cases K<;>simp_all [AV.fits,AV.agg,Kind.isAgg,AV.isAny]
 all_goals (first|rfl|(rename_i h;cases h;rfl)|skip)
theorem aE.cells{X:Cx}{av:AV}{v:Value}(h:aE X av v)(ha:av.isAny=false):∃ cs,RA X av cs∧v.cells=cs.toArray:=by
 rcases h with h|⟨cs,h1,⟨_,rfl⟩|⟨_,rfl⟩⟩
 ·rw[ha] at h;cases h
 ·exact⟨cs,h1,rfl⟩
 ·refine⟨[v],h1,?_⟩
  have:=h1.one v (by simp)
  cases v<;>first|rfl|(simp[Value.oneCell'] at this)
variable{A:Type}
theorem RA.single{X:Cx}{av:AV}{cs:List Value}(h1:∀ K x,av≠.p K x)(h2:∀ a b,av≠.pr a b):RA X av cs↔∃ v,cs=[v]∧R1 X av v:=by
 cases av<;>first|exact Iff.rfl|exact absurd rfl (h1 _ _)|exact absurd rfl (h2 _ _)
theorem jT{out:A}:∀ {av:AV} {path:List Hop} {k:AV→Option A},bS av path k=some out→
  ∃ y,k y=some out∧∀ {X:Cx} {K:Kind} {cs:List Value},av.fits K=true→RA X av cs→∃ off K',az K path=some (off,K')∧y.fits K'=true∧RA X y (bM cs off K'.size)
 | .p K0 x,path,k,h=>by
  obtain⟨K',y,h1,h2⟩:=pS (by simpa[bS] using h)
  refine⟨_,h1,fun {X K cs} hf hr=>?_⟩
  simp[AV.fits] at hf;subst hf
  obtain⟨off,ho,hy⟩:=h2 hr
  exact⟨off,K',ho,by simp[AV.fits],hy⟩
 | .pr a b,path,k,h=>by
  match path with
  | []=>
   refine⟨_,by simpa[bS] using h,fun {X K cs} hf hr=>⟨0,K,cL K,hf,?_⟩⟩
   rw[cX _ (RA.length hf hr).symm];exact hr
  | .fld 0::r=>
   obtain⟨y,h1,h2⟩:=jT (av:=a) (path:=r) (k:=k) (by simpa[bS] using h)
   refine⟨y,h1,fun {X K cs} hf hr=>?_⟩
   cases K<;>simp[AV.fits] at hf
   obtain⟨c1,c2,rfl,hr1,hr2⟩:=hr
   obtain⟨off,K',ho,hfy,hy⟩:=h2 hf.1 hr1
   have hle:=ga ho
   exact⟨off,K',by simpa[az] using ho,hfy,by rw[yz (by rw[RA.length hf.1 hr1];exact hle)];exact hy⟩
  | .fld (n+1)::r=>
   obtain⟨y,h1,h2⟩:=jT (av:=b) (path:=.fld n::r) (k:=k) (by simpa[bS] using h)
   refine⟨y,h1,fun {X K cs} hf hr=>?_⟩
   cases K<;>simp[AV.fits] at hf
   rename_i Ka Kb
   obtain⟨c1,c2,rfl,hr1,hr2⟩:=hr
   obtain⟨off,K',ho,hfy,hy⟩:=h2 hf.2 hr2
   exact⟨Ka.size+off,K',by simp[az,ho],hfy,by rw[← RA.length hf.1 hr1,yA];exact hy⟩
  | .idx i::r=>simp[bS] at h
 | .any,path,k,h=>by
  match path with
  | []=>exact⟨_,by simpa[bS] using h,fun {X K cs} hf hr=>⟨0,K,cL K,hf,by rw[cX _ (RA.length hf hr).symm];exact hr⟩⟩
  | _::_=>simp[bS] at h
 | .row _,path,k,h=>by
  match path with
  | []=>exact⟨_,by simpa[bS] using h,fun {X K cs} hf hr=>⟨0,K,cL K,hf,by rw[cX _ (RA.length hf hr).symm];exact hr⟩⟩
  | _::_=>simp[bS] at h
 | .sub _ _ _,path,k,h=>by
  match path with
  | []=>exact⟨_,by simpa[bS] using h,fun {X K cs} hf hr=>⟨0,K,cL K,hf,by rw[cX _ (RA.length hf hr).symm];exact hr⟩⟩
  | _::_=>simp[bS] at h
 | .ptr _ _,path,k,h=>by
  match path with
  | []=>exact⟨_,by simpa[bS] using h,fun {X K cs} hf hr=>⟨0,K,cL K,hf,by rw[cX _ (RA.length hf hr).symm];exact hr⟩⟩
  | _::_=>simp[bS] at h
 | .vp _ _,path,k,h=>by
  match path with
  | []=>exact⟨_,by simpa[bS] using h,fun {X K cs} hf hr=>⟨0,K,cL K,hf,by rw[cX _ (RA.length hf hr).symm];exact hr⟩⟩
  | _::_=>simp[bS] at h
 | .slc _ _ _ _,path,k,h=>by
  match path with
  | []=>exact⟨_,by simpa[bS] using h,fun {X K cs} hf hr=>⟨0,K,cL K,hf,by rw[cX _ (RA.length hf hr).symm];exact hr⟩⟩
  | _::_=>simp[bS] at h
 | .mp _,path,k,h=>by
  match path with
  | []=>exact⟨_,by simpa[bS] using h,fun {X K cs} hf hr=>⟨0,K,cL K,hf,by rw[cX _ (RA.length hf hr).symm];exact hr⟩⟩
  | _::_=>simp[bS] at h
 | .nilp,path,k,h=>by
  match path with
  | []=>exact⟨_,by simpa[bS] using h,fun {X K cs} hf hr=>⟨0,K,cL K,hf,by rw[cX _ (RA.length hf hr).symm];exact hr⟩⟩
  | _::_=>simp[bS] at h
 | .np _ _,path,k,h=>by
  match path with
  | []=>exact⟨_,by simpa[bS] using h,fun {X K cs} hf hr=>⟨0,K,cL K,hf,by rw[cX _ (RA.length hf hr).symm];exact hr⟩⟩
  | _::_=>simp[bS] at h
 | .fn _ _,path,k,h=>by
  match path with
  | []=>exact⟨_,by simpa[bS] using h,fun {X K cs} hf hr=>⟨0,K,cL K,hf,by rw[cX _ (RA.length hf hr).symm];exact hr⟩⟩
  | _::_=>simp[bS] at h
 | .tup _,path,k,h=>by
  match path with
  | []=>exact⟨_,by simpa[bS] using h,fun {X K cs} hf hr=>⟨0,K,cL K,hf,by rw[cX _ (RA.length hf hr).symm];exact hr⟩⟩
  | _::_=>simp[bS] at h
theorem v9{a b:AV}{x y:Kind}(ha:a.fits x=true)(hb:b.fits y=true):(j5 a b).fits (.pair x y)=true:=by
 cases a<;>cases b<;>simp_all [j5,AV.fits]
theorem v8{X:Cx}{a b:AV}{c1 c2:List Value}(ha:RA X a c1)(hb:RA X b c2):RA X (j5 a b) (c1++c2):=by
 unfold j5
 split
 ·exact⟨c1,c2,rfl,ha,hb⟩
 ·exact⟨c1,c2,rfl,ha,hb⟩
theorem wv{out:A}{n:Nat}{e:Kind}{l:List e.den}{i:Nat}{v:AV}{k:List e.den→Option A}(h:qg n e l i v k=some out) :
  ∃ z:e.den,v=.p e z∧i<n∧k (l.set i z)=some out:=by
 unfold qg at h
 split at h
 ·rename_i e' z
  split at h
  ·rename_i he
   subst he
   split at h
   ·rename_i hi;exact⟨z,rfl,hi,h⟩
   ·cases h
  ·cases h
 ·cases h
theorem Ps{F:Nat→Prop}{w:World}{e:Kind}{l:List e.den}{css:List (List Value)}(h:All2 (RP F w e) l css){i:Nat}{c vc:List Value}{off:Nat}{z:e.den}(hc:css[i]?=some c)(ho:off+vc.length≤e.size)(hz:RP F w e z (bJ c off vc)):∃ css',bJ css.flatten (i*e.size+off) vc=css'.flatten∧All2 (RP F w e) (l.set i z) css':=
 ⟨_,Mo h.lens hc ho,h.set i hz⟩
theorem jZ{X:Cx}{K:Kind}{v:AV}{cs vc:List Value}(hf:v.fits K=true)(hl:cs.length=K.size)(hv:RA X v vc):RA X v (bJ cs 0 vc):=by
 rw[wD (by rw[RA.length hf hv,hl])];exact hv
theorem ww{out:A}:∀ {K:Kind} {path:List Hop} {x:K.den} {v:AV} {k:AV→Option A},c9 K path x v k=some out→
  ∃ y,k y=some out∧y.fits K=true∧∀ {X:Cx} {cs vc:List Value},RP X.F X.w K x cs→RA X v vc→∃ off K',az K path=some (off,K')∧v.fits K'=true∧RA X y (bJ cs off vc)
 | .pair a b,path,x,v,k,h=>by
  match path with
  | []=>
   simp only[c9] at h
   split at h
   ·rename_i hf;exact⟨v,h,hf,fun {X cs vc} hr hv=>⟨0,_,rfl,hf,jZ hf (RP.length hr) hv⟩⟩
   ·cases h
  | .fld 0::r=>
   obtain⟨y,h1,hf,h2⟩:=ww (K:=a) (path:=r) (x:=x.1) (by simpa[c9] using h)
   refine⟨_,h1,v9 hf (by simp[AV.fits]),fun {X cs vc} hr hv=>?_⟩
   obtain⟨c1,c2,rfl,hr1,hr2⟩:=hr
   obtain⟨off,K',ho,hfv,hy⟩:=h2 hr1 hv
   have hle:=ga ho
   refine⟨off,K',by simpa[az] using ho,hfv,?_⟩
   rw[NG (by rw[RP.length hr1,RA.length hfv hv];exact hle)]
   exact v8 hy hr2
  | .fld (n+1)::r=>
   obtain⟨y,h1,hf,h2⟩:=ww (K:=b) (path:=.fld n::r) (x:=x.2) (by simpa[c9] using h)
   refine⟨_,h1,v9 (by simp[AV.fits]) hf,fun {X cs vc} hr hv=>?_⟩
   obtain⟨c1,c2,rfl,hr1,hr2⟩:=hr
   obtain⟨off,K',ho,hfv,hy⟩:=h2 hr2 hv
   refine⟨a.size+off,K',by simp[az,ho],hfv,?_⟩
   rw[← RP.length hr1,NH]
   exact v8 (X:=X) (a:=.p a x.1) hr1 hy
  | .idx i::r=>simp[c9] at h
 | .arr n e,path,l,v,k,h=>by
  match path with
  | []=>
   simp only[c9] at h
   split at h
   ·rename_i hf;exact⟨v,h,hf,fun {X cs vc} hr hv=>⟨0,_,rfl,hf,jZ hf (RP.length hr) hv⟩⟩
   ·cases h
  | [.idx i]=>
   simp only[c9] at h
   obtain⟨z,rfl,hi,h1⟩:=wv h
   refine⟨_,h1,by simp[AV.fits],fun {X cs vc} hr hv=>?_⟩
   obtain⟨hl,css,rfl,hr1⟩:=hr
   obtain⟨c,hc⟩:∃ c,css[i]?=some c:=⟨_,List.getElem?_eq_getElem (by rw[← hr1.length,hl];exact hi)⟩
   have hvl:=RP.length (show RP X.F X.w e z vc from hv)
   have hcl:=hr1.lens c (List.mem_of_getElem? hc)
   obtain⟨css',hs,h2⟩:=Ps (z:=z) (off:=0) (vc:=vc) hr1 hc (by omega) (by rw[wD (by omega)];exact hv)
   exact⟨i*e.size+0,e,by simp[az,hi,cL],by simp[AV.fits],by simp[hl],css',hs,h2⟩
  | .idx i::hh::r=>
   simp only[c9,Option.bind_eq_some_iff] at h
   obtain⟨x,hx,h⟩:=h
   obtain⟨y,h1,hf,h2⟩:=ww h
   obtain⟨z,rfl,hi,h3⟩:=wv h1
   refine⟨_,h3,by simp[AV.fits],fun {X cs vc} hr hv=>?_⟩
   obtain⟨hl,css,rfl,hr1⟩:=hr
   obtain⟨c,hc,hxc⟩:=hr1.get hx
   obtain⟨off,K',ho,hfv,hy⟩:=h2 hxc hv
   have hle:=ga ho
   obtain⟨css',hs,h4⟩:=Ps (z:=z) hr1 hc (by rw[RA.length hfv hv];exact hle) hy
   exact⟨i*e.size+off,K',by simp[az,hi,ho],hfv,by simp[hl],css',hs,h4⟩
  | .fld i::r=>simp[c9] at h
 | .int q,path,x,v,k,h=>by
  match path with
  | []=>
   simp only[c9] at h
   split at h
   ·rename_i hf;exact⟨v,h,hf,fun {X cs vc} hr hv=>⟨0,_,rfl,hf,jZ hf (RP.length hr) hv⟩⟩
   ·cases h
  | _::_=>simp[c9] at h
 | .bool,path,x,v,k,h=>by
  match path with
  | []=>
   simp only[c9] at h
   split at h
   ·rename_i hf;exact⟨v,h,hf,fun {X cs vc} hr hv=>⟨0,_,rfl,hf,jZ hf (RP.length hr) hv⟩⟩
   ·cases h
  | _::_=>simp[c9] at h
 | .str,path,x,v,k,h=>by
  match path with
  | []=>
   simp only[c9] at h
   split at h
   ·rename_i hf;exact⟨v,h,hf,fun {X cs vc} hr hv=>⟨0,_,rfl,hf,jZ hf (RP.length hr) hv⟩⟩
   ·cases h
  | _::_=>simp[c9] at h
 | .opq,path,x,v,k,h=>by
  match path with
  | []=>
   simp only[c9] at h
   split at h
   ·rename_i hf;exact⟨v,h,hf,fun {X cs vc} hr hv=>⟨0,_,rfl,hf,jZ hf (RP.length hr) hv⟩⟩
   ·cases h
  | _::_=>simp[c9] at h
 | .unit,path,x,v,k,h=>by
  match path with
  | []=>
   simp only[c9] at h
   split at h
   ·rename_i hf;exact⟨v,h,hf,fun {X cs vc} hr hv=>⟨0,_,rfl,hf,jZ hf (RP.length hr) hv⟩⟩
   ·cases h
  | _::_=>simp[c9] at h
 | .sl e,path,x,v,k,h=>by
  match path with
  | []=>
   simp only[c9] at h
   split at h
   ·rename_i hf;exact⟨v,h,hf,fun {X cs vc} hr hv=>⟨0,_,rfl,hf,jZ hf (RP.length hr) hv⟩⟩
   ·cases h
  | _::_=>simp[c9] at h
theorem akz{K0 K:Kind}{v:AV}(h:(p6 K0 v).fits K=true):v.fits K=true:=by
 unfold p6 at h
 split at h
 ·split at h
  ·cases K<;>simp[AV.fits] at h ⊢
  ·exact h
 ·cases K<;>simp[AV.fits] at h ⊢
 ·exact h
theorem aky{X:Cx}{K0:Kind}{v:AV}{cs:List Value}(h:RA X v cs):RA X (p6 K0 v) cs:=by
 unfold p6
 split
 ·split
  ·rename_i K x hK
   subst hK
   obtain⟨u,rfl,h⟩:=h
   exact⟨u,rfl,.inr ⟨x,rfl,h⟩⟩
  ·exact h
 ·obtain⟨u,rfl,h⟩:=h
  exact⟨u,rfl,.inl ⟨rfl,h⟩⟩
 ·exact h
theorem gZ{out:A}{old v:AV}{K:Kind}{path:List Hop}{k:AV→Option A}(h:path=[]∧v.fits K=true∧k v=some out) :
  ∃ y,k y=some out∧(old.fits K=true→y.fits K=true)∧∀ {X:Cx} {cs vc:List Value},old.fits K=true→RA X old cs→RA X v vc→∃ off K',az K path=some (off,K')∧v.fits K'=true∧RA X y (bJ cs off vc):=by
 obtain⟨rfl,hf,h⟩:=h
 exact⟨v,h,fun _=>hf,fun {X cs vc} hfo hr hv=>⟨0,K,cL K,hf,jZ hf (RA.length hfo hr) hv⟩⟩
theorem wx{out:A}:∀ {old:AV} {K:Kind} {path:List Hop} {v:AV} {k:AV→Option A},cE old K path v k=some out→
  ∃ y,k y=some out∧(old.fits K=true→y.fits K=true)∧∀ {X:Cx} {cs vc:List Value},old.fits K=true→RA X old cs→RA X v vc→∃ off K',az K path=some (off,K')∧v.fits K'=true∧RA X y (bJ cs off vc)
 | .p K0 x,K,path,v,k,h=>by
  obtain⟨y,h1,hf,h2⟩:=ww (by simpa[cE] using h)
  exact⟨y,h1,fun hfo=>by simp[AV.fits] at hfo;subst hfo;exact hf,fun {X cs vc} hfo hr hv=>by simp[AV.fits] at hfo;subst hfo;exact h2 hr hv⟩
 | .pr a b,K,path,v,k,h=>by
  match K,path with
  | K,[]=>exact gZ (path:=[]) (by cases K<;>simp[cE] at h<;>exact⟨rfl,h.1,h.2⟩)
  | .pair x y',.fld 0::r=>
   obtain⟨y,h1,hf,h2⟩:=wx (old:=a) (K:=x) (path:=r) (by simpa[cE] using h)
   refine⟨_,h1,fun hfo=>by simp[AV.fits] at hfo;exact v9 (hf hfo.1) hfo.2,fun {X cs vc} hfo hr hv=>?_⟩
   simp[AV.fits] at hfo
   obtain⟨c1,c2,rfl,hr1,hr2⟩:=hr
   obtain⟨off,K',ho,hfv,hy⟩:=h2 hfo.1 hr1 hv
   have hle:=ga ho
   refine⟨off,K',by simpa[az] using ho,hfv,?_⟩
   rw[NG (by rw[RA.length hfo.1 hr1,RA.length hfv hv];exact hle)]
   exact v8 hy hr2
  | .pair x y',.fld (n+1)::r=>
   obtain⟨y,h1,hf,h2⟩:=wx (old:=b) (K:=y') (path:=.fld n::r) (by simpa[cE] using h)
   refine⟨_,h1,fun hfo=>by simp[AV.fits] at hfo;exact v9 hfo.1 (hf hfo.2),fun {X cs vc} hfo hr hv=>?_⟩
   simp[AV.fits] at hfo
   obtain⟨c1,c2,rfl,hr1,hr2⟩:=hr
   obtain⟨off,K',ho,hfv,hy⟩:=h2 hfo.2 hr2 hv
   refine⟨x.size+off,K',by simp[az,ho],hfv,?_⟩
   rw[← RA.length hfo.1 hr1,NH]
   exact v8 hr1 hy
  | .pair _ _,.idx _::_=>simp[cE] at h
  | .int _,_::_=>simp[cE] at h
  | .bool,_::_=>simp[cE] at h
  | .str,_::_=>simp[cE] at h
  | .opq,_::_=>simp[cE] at h
  | .unit,_::_=>simp[cE] at h
  | .arr _ _,_::_=>simp[cE] at h
  | .sl _,_::_=>simp[cE] at h
 | .any,K,path,v,k,h=>gZ (by cases path<;>simp[cE] at h<;>exact⟨rfl,h.1,h.2⟩)
 | .row _,K,path,v,k,h=>gZ (by cases path<;>simp[cE] at h<;>exact⟨rfl,h.1,h.2⟩)
 | .sub _ _ _,K,path,v,k,h=>gZ (by cases path<;>simp[cE] at h<;>exact⟨rfl,h.1,h.2⟩)
 | .ptr _ _,K,path,v,k,h=>gZ (by cases path<;>simp[cE] at h<;>exact⟨rfl,h.1,h.2⟩)
 | .vp _ _,K,path,v,k,h=>gZ (by cases path<;>simp[cE] at h<;>exact⟨rfl,h.1,h.2⟩)
 | .slc _ _ _ _,K,path,v,k,h=>gZ (by cases path<;>simp[cE] at h<;>exact⟨rfl,h.1,h.2⟩)
 | .mp _,K,path,v,k,h=>gZ (by cases path<;>simp[cE] at h<;>exact⟨rfl,h.1,h.2⟩)
 | .nilp,K,path,v,k,h=>gZ (by cases path<;>simp[cE] at h<;>exact⟨rfl,h.1,h.2⟩)
 | .fn _ _,K,path,v,k,h=>gZ (by cases path<;>simp[cE] at h<;>exact⟨rfl,h.1,h.2⟩)
 | .np K0 o,K,path,v,k,h=>by
  match path with
  | _::_=>simp[cE] at h
  | []=>
   simp only[cE] at h
   split at h
   ·rename_i hf
    obtain⟨y,h1,h2,h3⟩:=gZ (old:=.np K0 o) (v:=p6 K0 v) (path:=[]) ⟨rfl,hf,h⟩
    refine⟨y,h1,h2,fun {X cs vc} hfo hr hv=>?_⟩
    obtain⟨off,K',ho,hfv,hy⟩:=h3 hfo hr (aky hv)
    exact⟨off,K',ho,akz hfv,hy⟩
   ·cases h
 | .tup _,K,path,v,k,h=>gZ (by cases path<;>simp[cE] at h<;>exact⟨rfl,h.1,h.2⟩)
end Go.Ev
