import Derived.Test.YtbgcimciannhmaaGreatDoorB6
import Derived.Test.YtbgcimciannhmaaGreatDoorB9
import Derived.Test.YtbgcimciannhmaaGreatDoorB13
import Derived.Test.YtbgcimciannhmaaGreatDoorB14
import Derived.Lib.SlBytesConst
import Derived.Great.BuildSlice
import Derived.Below
import Derived.Shelf.RegionOpenPlain
import Derived.Deep.RegionLaw
import Derived.Lib.Walk
import Derived.Lib.SliceRun
import Derived.Lib.SlicesDelete
/- A part of the proof of TopQuiet; no condition. -/
set_option linter.all false
set_option maxRecDepth 100000
namespace Go.Ev
open Go.Proofs Go.RowKit Go.Shelf
variable{A:Type}
def Tg(g:(List (List Int))→((List Int)→Option A)→Option A):Entry A:=jo fun args k=>nD args (.sl aa) fun a0=>g a0 (fun r0=>k (.p aa r0) [])
noncomputable def agD:Code:=fU [1,1,0,1,0] (eh Tryz.f254)
noncomputable def Js:Code:=WI agD
noncomputable def Jq:Env A:=⟨aN,aw,[],[],[],[],bI,obs⟩
theorem Jr:aO Tryz.prog (Jq (A:=A)):=bz rfl bA
theorem agB:cS Tryz.prog (Jq (A:=A)):=aj.env rfl rfl aj.nil
theorem agA(x:List (List Int))(s:List Int)(K:Ex→List Blk→Option A):bY Jq 0 Js ⟨[.any,.any,.any,.ptr 0 [],.p (.sl aa) x,.any,.any,.any,.any,.any,.any,.any,.any,.any,.any],[.var 24 aa (.p aa s)],1⟩ (fun x s'=>K x s'.hp)=
  bif ((x.length:Int)==1) then(x[0]?).bind fun y=>K .normal [.var 24 aa (.p aa y)] else K .normal [.var 24 aa (.p aa s)]:=by kernel_rfl
def bB(s:List Int):List Value:=s.map fun b=>.int .u8 b
theorem Nt{F:Nat→Prop}{w:World}{s:List Int}(h:s.length=32):RP F w aa s (bB s):=by
 refine⟨h,s.map fun b=>[.int .u8 b],by rw[← List.flatMap_def];simp[bB,List.map_eq_flatMap],?_⟩
 clear h
 induction s with
 | nil=>exact .nil
 | cons b s ih=>exact .cons rfl ih
theorem W8{F:Nat→Prop}{w:World}{s:List Int}{cs:List Value}(h:RP F w aa s cs):cs=bB s:=by
 obtain⟨hl,css,rfl,h⟩:=h
 clear hl
 induction h with
 | nil=>rfl
 | @cons a b l1 l2 h1 _ ih=>
  have h1:b=[.int .u8 a]:=h1
  simp only[List.flatten_cons,h1,ih,bB,List.map_cons,List.singleton_append]
theorem VA{w:World}{b:Nat}{s:List Int}(hl:s.length=32)(h:w.heap[b]?=some (.cells (bB s).toArray 24 (0,0))):(loadVar 24 ⟨b,0,none⟩).run Tryz.prog w=.ok (.agg (bB s).toArray) w:=by
 obtain⟨v,h1,h2⟩:=v5 (Jr (A:=Unit)) (t:=24) (i:=⟨aa,(.array 32 5),32,true⟩) rfl (X:=⟨fun _=>none,[],fun _=>False,w⟩) (y:=.p aa s) (cs:=bB s) (ad:=⟨b,0,none⟩) (w:=w) (by simp[AV.fits]) (Nt hl) (fun j u hj=>by
  have hj2:(bB s)[j]?=some u:=hj
  rw[show(⟨b,0,none⟩:Addr).add j=⟨b,j,none⟩ from by unfold Addr.add;split<;>simp_all]
  simp[World.cell?,h,hj2])
 obtain⟨cs,h3,h4⟩:=h2.data
 rcases h4 with ⟨_,rfl⟩|⟨h4,_⟩
 ·rw[W8 h3] at h1;exact h1
 ·exact nomatch h4
theorem amr{w:World}{b:Nat}{c c':Array Value}{t:TypeId}(h:w.heap[b]?=some (.cells c t (0,0))):w.setRow b c'=w.putObj b (.cells c' t (0,0)):=by
 simp only[World.setRow,World.putObj]
 congr 1
 apply Array.ext_getElem?
 intro i
 rw[Array.getElem?_modify,Array.getElem?_setIfInBounds]
 by_cases hi:b=i
 ·subst hi;simp only[if_true,h,Option.map_some,(Array.getElem?_eq_some_iff.1 h).1]
 ·simp[hi]
theorem amF{w:World}{b:Nat}{s s0:List Int}(hl:s.length=32)(hl0:s0.length=32)(h:w.heap[b]?=some (.cells (bB s0).toArray 24 (0,0))):(storeVar 24 ⟨b,0,none⟩ (.agg (bB s).toArray)).run Tryz.prog w=.ok () (w.putObj b (.cells (bB s).toArray 24 (0,0))):=by
 have:=Nx (P:=Tryz.prog) (X:=⟨fun _=>none,[],fun _=>False,w⟩) (t:=24) (te:=24) (i:=⟨aa,(.array 32 5),32,true⟩) ((Jr (A:=Unit)).runSize rfl) (v:=.agg (bB s).toArray) (vc:=bB s) (cs:=bB s0) (b:=b) (off:=0) rfl (by simp[bB,hl,Kind.size]) (by simp[bB,Value.oneCell']) (.of h) (by simp[bB,hl,hl0])
 rw[this]
 rw[← amr h]
 have e:bJ (bB s0) 0 (bB s)=bB s:=by
  simp only[bJ,List.take_zero,List.nil_append,Nat.zero_add]
  rw[List.drop_eq_nil_of_le (by simp[bB,hl,hl0]),List.append_nil]
 rw[e]
def vj(x:List (List Int))(s:List Int)(kc _ks:List Int→Option A):Option A:=bif ((x.length:Int)==1) then(x[0]?).bind kc else kc s
theorem Th(g:List (List Int)→(List (List Int)→Option A)→Option A)(n:Nat)(k:List Int→Option A):∀ (f:Nat) (x:List (List Int)) (s:List Int),jh g n k f x s=j0 g vj k k f x s
 | 0,_,_=>rfl
 | f+1,x,s=>by
  have e:∀ s',(bif (decide ((x.length:Int)>1)) then g x fun z=>jh g n k f z s' else k s')=bif (decide ((x.length:Int)>1)) then g x fun y=>j0 g vj k k f y s' else k s':=fun s'=>by
   cases decide ((x.length:Int)>1) with
   | false=>rfl
   | true=>exact congrArg _ (funext fun y=>Th g n k f y s')
  simp only[jh,j0,vj]
  rw[e s]
  exact congrArg (fun z=>bif ((x.length:Int)==1) then(x[0]?).bind z else _) (funext e)
def Bn(x:List (List Int))(s:List Int)(st:Bool)(s':List Int):Prop:=st=false∧(s.length=32→tq Js 15 24 3 4 (bB s) (bB s') x st)
theorem agE(x:List (List Int))(s:List Int)(kc ks:List Int→Option A)(out:A)(h:vj x s kc ks=some out):∃ (st:Bool) (s':List Int),(bif st then ks s' else kc s')=some out∧Bn x s st s':=by
 have key:∀ s',(bif ((x.length:Int)==1) then(x[0]?).bind some else some s)=some s'→Bn x s false s':=fun s' hs=>⟨rfl,fun hl=>by
  have e:=agA x s (fun x hp=>match hp with|[.var _ _ v]=>eP v aa fun b=>(match x with|.ret=>none|.normal=>some b|_=>none)|_=>none)
  rw[show(bif ((x.length:Int)==1) then(x[0]?).bind fun y=>((fun x hp=>match hp with|[.var _ _ v]=>eP v aa fun b=>(match x with|.ret=>none|.normal=>some b|_=>none)|_=>none:Ex→List Blk→Option (List Int)) .normal [.var 24 aa (.p aa y)]) else((fun x hp=>match hp with|[.var _ _ v]=>eP v aa fun b=>(match x with|.ret=>none|.normal=>some b|_=>none)|_=>none:Ex→List Blk→Option (List Int)) .normal [.var 24 aa (.p aa s)]))=some s' from hs] at e
  obtain⟨st,y',h1,hs⟩:=WW (t2:=24) Jr agB (vZ (by kernel_rfl:aD 0 Js=[]) s8) rfl (K:=aa) (y:=s) (x:=x) (nt:=15) (pl:=3) (sl:=4) rfl (fun i av hi=>by
   match i,hi with
   | 0,h|1,h|2,h|5,h|6,h|7,h|8,h|9,h|10,h|11,h|12,h|13,h|14,h=>cases h;exact .inl rfl
   | 3,h=>cases h;exact .inr (.inl ⟨rfl,rfl⟩)
   | 4,h=>cases h;exact .inr (.inr ⟨rfl,rfl⟩)
   | n+15,h=>simp at h) (u:=bB s) (fun X=>Nt hl) (ks:=fun _=>none) (kc:=some) e
  cases st with
  | true=>cases h1
  | false=>
   have h1:some y'=some s':=h1
   cases h1
   exact hs _ fun X cs h=>W8 h⟩
 unfold vj at h
 cases hb:(x.length:Int)==1 with
 | false=>
  rw[hb] at h key
  exact⟨false,s,h,key s rfl⟩
 | true=>
  rw[hb] at h key
  simp only[cond_true] at h key
  cases hx:x[0]? with
  | none=>rw[hx] at h;cases h
  | some y=>
   rw[hx] at h key
   exact⟨false,y,h,key y rfl⟩
theorem agF{n:Nat}{x:List (List Int)}{s s':List Int}{st:Bool}(h:LRun Bn n x s st s'):st=false:=by
 induction h with
 | stop h=>exact h.1
 | last h _=>rfl
 | next _ _ _ _ ih=>exact ih
theorem agC(n:Nat):aI Tryz.prog aw 254 (Tg (A:=A) (vk n)):=fun args hp0 k out hr=>by
 cases hp0 with
 | cons b r=>cases hr
 | nil=>
 obtain⟨x,rfl,hr⟩:=ua hr
 have hr:jh (jP n) n (fun r0=>k (.p aa r0) []) n x (List.replicate 32 (0:Int))=some out:=hr
 rw[Th] at hr
 obtain⟨st,s',h1,hrun⟩:=MJ (Sem:=Bn) agE (TJ n) _ _ _ _ _ _ hr
 have h1:k (.p aa s') []=some out:=by cases st<;>exact h1
 refine⟨_,_,h1,fun X vals hX ok hglo hargs=>?_,fun h=>nomatch h⟩
 obtain⟨v,hv,hrv⟩:=hargs.get (i:=0) (a:=.p (.sl aa) x) rfl
 have hvals:vals=#[v]:=by
  have hl:=hargs.length
  apply Array.toList_inj.1
  match hm:vals.toList,hl with
  | [u],_=>rw[hm] at hv;simpa using hv
 subst hvals
 obtain⟨p,cp,rfl⟩:=tv hrv
 refine⟨_,X.w,MuLone.run_callFunc_enter Tryz.func254 (by kernel_rfl) rfl _ X.w,.inr ⟨rfl,?_⟩⟩
 refine(callsIn_wide (n:=5)).1 ?_
 refine callsIn_of_wp_marks Tryz.func254 rfl trivial ?_ rfl
 simp only[Tryz.ntmps254,List.size_toArray,List.length_cons,List.length_nil,Nat.reduceAdd,Nat.reduceSub,Array.replicate_succ,Array.replicate_zero,List.push_toArray,List.append_toArray,List.nil_append,List.cons_append]
 gi_wp2
 refine⟨trivial,(Vw _ _ _ _ _).mono ?_⟩
 rintro e w' ⟨rfl,rfl⟩
 gi_wp2
 rename_i Q' K hK
 obtain⟨W,hW⟩:∃ W,((X.w.alloc (.cells (bB (List.replicate 32 0)).toArray 24)).alloc (.cells (bB (List.replicate 32 0)).toArray 24)).alloc (.cells #[.slice p x.length cp] 262)=W:=⟨_,rfl⟩
 have hsz:W.heap.size=X.w.heap.size+3:=by rw[← hW];simp
 have o1:Only (fun b=>X.w.heap.size≤b∧b<X.w.heap.size) X.w W:=by rw[← hW];exact((p9 _ _ _).trans (p9 _ _ _)).trans (p9 _ _ _)
 have I0:LInv X X X.w.heap.size x (.slice p x.length cp):=⟨hX,ok,hglo,.refl X,fun b h1 h2=>absurd h1 (by omega),Nat.le_refl _,hrv⟩
 have I0:=I0.only o1
 have I1:LInv X ⟨X.ρ,[],X.F,W⟩ W.heap.size x (.slice p x.length cp):=⟨I0.hp,I0.ok,I0.glo,I0.evo,fun b h1 _ h3=>absurd (ok.fo b h3).1 (by omega),Nat.le_refl _,I0.rs⟩
 have hB:W.heap[X.w.heap.size+2]?=some (.cells #[.slice p x.length cp] 262 (0,0)):=by
  have:=World.alloc_heap_new ((X.w.alloc (.cells (bB (List.replicate 32 0)).toArray 24)).alloc (.cells (bB (List.replicate 32 0)).toArray 24)) (.cells #[.slice p x.length cp] 262)
  rw[World.size_alloc,World.size_alloc,hW] at this
  exact this
 have hc2:W.heap[X.w.heap.size]?=some (.cells (bB (List.replicate 32 0)).toArray 24 (0,0)):=by rw[← hW];exact((Below.heap_alloc _ _ _ (by simp;omega)).trans (Below.heap_alloc _ _ _ (by simp))).trans (World.alloc_heap_new _ _)
 have hc3:W.heap[X.w.heap.size+1]?=some (.cells (bB (List.replicate 32 0)).toArray 24 (0,0)):=by
  rw[← hW]
  refine(Below.heap_alloc _ _ _ (by simp)).trans ?_
  have:=World.alloc_heap_new (X.w.alloc (.cells (bB (List.replicate 32 0)).toArray 24)) (.cells (bB (List.replicate 32 0)).toArray 24)
  rwa [World.size_alloc] at this
 have hst:=agF hrun
 subst hst
 change Code.wpIn _ _ _ _ _ _ (((X.w.alloc (.cells (bB (List.replicate 32 0)).toArray 24)).alloc (.cells (bB (List.replicate 32 0)).toArray 24)).alloc (.cells #[.slice p x.length cp] 262))
 rw[hW]
 refine Vx (X1:=⟨X.ρ,[],X.F,W⟩) (S:=fun s W=>s.length=32∧W.heap[X.w.heap.size+1]?=some (.cells (bB s).toArray 24 (0,0))∧W.heap[X.w.heap.size]?=some (.cells (bB (List.replicate 32 0)).toArray 24 (0,0))) (B:=X.w.heap.size+2)
  (a1:=fun v=>{ tmps:=#[.slice p x.length cp,undef,.pointer (some ⟨X.w.heap.size,0,none⟩),.pointer (some ⟨X.w.heap.size+1,0,none⟩),v,.slice p x.length cp,.func (.func 310) #[] #[.pointer (some ⟨X.w.heap.size+2,0,none⟩)],v,undef,undef,undef,undef,undef,undef,undef],defers:=[] })
  hrun I1 hB rfl rfl (m:=3) (fun fn=>?_) (fun W' hW'=>⟨rfl,(hW' _ (by simp only[];omega)).trans hc3,(hW' _ (by simp only[];omega)).trans hc2⟩) (fun X' x' v' I' hs' hD=>?_)
 ·rw[hsz]
  refine⟨⟨by simp only[];omega,by simp only[];omega⟩,⟨by simp only[];omega,by simp only[];omega⟩,⟨by simp only[];omega,by simp only[];omega⟩,by simp,by simp only[];omega,by simp only[];omega,fun W W' s h hs=>⟨hs.1,(h _ (by omega) (by omega) (by simp only[];omega) (by simp only[];omega)).trans hs.2.1,(h _ (by omega) (by omega) (by simp only[];omega) (by simp only[];omega)).trans hs.2.2⟩,fun v m W K hK=>?_,fun x1 s1 st1 s2 hs X1 v I hsx Q m hQ=>?_⟩
  ·gi_wp2
   exact hK
  ·obtain⟨rfl,hsem⟩:=hs
   obtain⟨hl,hx1,hx2⟩:=hsx
   refine(hsem hl X1 v (X.w.heap.size+1) _ I.hp I.ok I.glo I.rs hx1 (I.nF _ (by omega) (by omega)) rfl rfl rfl rfl Q (fun a' W' ho hc=>hQ a' W' (ho.imp fun b hb=>by subst hb;exact⟨⟨by omega,by omega⟩,by simp only[];omega,by simp only[];omega,by simp only[];omega⟩) ⟨?_,hc,(ho.keep _ (Array.getElem?_eq_some_iff.1 hx2).1 (by omega)).trans hx2⟩)).2 (by kernel_rfl) _ m
   obtain⟨c',h1,h2⟩:=ho.shape _ _ _ _ hx1
   have he:=hc.symm.trans h1
   cases he
   simpa[bB,hl] using h2
 ·obtain⟨hl,h1,h2⟩:=hs'
  have hl1:=VA hl h1
  have hl2:=amF (b:=X.w.heap.size) hl (by simp) h2
  simp only[hsz] at hD ⊢
  refine hK _ _ (wpIn_seq (wpIn_region ?_))
  simp only[List.size_toArray,List.length_cons,List.length_nil,List.range_succ,List.range_zero,List.nil_append,List.cons_append,wpOpsIn]
  simp[Region.wanted,Oper.wpIn,Oper.about,Oper.semAt_none,execOp,Instr.loadAt,Instr.storeAt,Instr.sureAddr,Act.eval,Act.put,Oper.uponIn,Exit.then,hl1,hl2]
  refine wpIn_ret ?_
  have J:=I'.only ((qa (W:=X'.w) (b:=X.w.heap.size) (o:=.cells (bB s').toArray 24 (0,0)) fun c e f hc=>by rw[h2] at hc;cases hc;exact⟨_,rfl,by simp[bB,hl]⟩).imp fun b hb=>by subst hb;exact⟨by omega,by simp only[];omega⟩)
  have hD':=(World.putObj_heap_other (w:=X'.w) (o:=.cells (bB s').toArray 24 (0,0)) (k:=X.w.heap.size+3) (r:=X.w.heap.size) (by omega)).trans hD
  refine⟨by simp,.inl ⟨_,_,rfl,run_takeDeferred hD',?_⟩⟩
  obtain⟨Y,hY1,hY2,hY3,hY4,hY5⟩:=MK J (D:=X.w.heap.size+3) (by omega) (by simp only[];omega) (fun c e f h=>by rw[hD'] at h;cases h)
  have hc5:=VA (w:=(X'.w.putObj X.w.heap.size (.cells (bB s').toArray 24 (0,0))).putObj (X.w.heap.size+3) (.deferred none)) (b:=X.w.heap.size) hl
   ((World.putObj_heap_other (w:=X'.w.putObj X.w.heap.size (.cells (bB s').toArray 24 (0,0))) (o:=.deferred none) (k:=X.w.heap.size) (r:=X.w.heap.size+3) (by omega)).trans (World.putObj_heap_same (Array.getElem?_eq_some_iff.1 h2).1))
  refine⟨.agg (bB s').toArray,?_,_,rfl,Y,hY1,hY2,.inr ⟨bB s',Nt hl,.inl ⟨rfl,rfl⟩⟩,hY3,hY4,hY5⟩
  simp[results,Tryz.f254,hc5,asAddr]
end Go.Ev
namespace Go.Ev
open Go.Proofs
variable{A:Type}
def Hw{R:Type}(F:(List (List Int))→Int→Y7→(List Int)→(ae A)→Option A→R→Int→Option A)(k:KK A)(d:LSh.den ⟨[(1,(.ptr 0)),(0,(.ptr 1)),(18,(.p (.sl kS))),(0,(.p kI)),(0,(.p kI))],20,[(.var 163 bG (.p bG)),(.var 24 aa (.p aa))],0⟩)(t:R):Option A:=F d.1.2.2.1 d.1.2.2.2.1 d.2.1 d.2.2.1 (fun z0=>k .ret ⟨.any::(.ptr 0 [])::(.ptr 1 [])::(.p kI z0)::an 40 [],[.var 163 bG (.p bG d.2.1),.var 24 aa (.p aa (List.replicate 32 (0:Int)))],0⟩) (k (.exit 0) ⟨.any::(.ptr 0 [])::(.ptr 1 [])::an 41 [],[.var 163 bG (.p bG d.2.1),.var 24 aa (.p aa d.2.2.1)],0⟩) t d.1.2.2.2.2.1
def Ht(g:xm A):Entry A:=ai [] ⟨[(.p bG)],[],0⟩ fun d k=>g d.1.1 (fun r0 r1=>k (.tup [.p aa r0,.p kI r1]) [])
section
variable(g251:qW A)(g252:qX A)(g253:x8 A)(g254:x9 A)(n:Nat)
noncomputable def R5:Env A:=Ev [(251,Jh g251),(252,Jk g252),(253,Tb g253),(254,Tg g254)] [(0,au (dl 44 [1,2,21,22,23]) (Hw (oH g251 g252 g253 g254 n)) n)] [] []
theorem aeD:Lst A (R5 g251 g252 g253 g254 n) Tryz.f188 0 (dl 44 [1,2,3]) (Hw (Ak g251 g252 g253 g254 n)) (Hw (oH g251 g252 g253 g254 n)) fun r d t23=>r (((),(),d.1.2.2.1,d.1.2.2.2.1,t23,d.1.2.2.2.2.2),d.2):=.mk
theorem aeC:Qo A (R5 g251 g252 g253 g254 n) Tryz.f188 [.pure,.pure] (Ht (Hv g251 g252 g253 g254 n)):=.mk
end
theorem aeB(n:Nat):OK A 188 (Ht (Hu n)):=ak (aeC _ _ _ _ n) Tryz.func188 (ax (aeD _ _ _ _ n) ag) (oc (agl n)<|oc (ago n)<|oc (agu n)<|oc (agC n) oz)
def Fq(g:qv A):Entry A:=ai [] ⟨[(.p bG)],[],0⟩ fun d k=>g d.1.1 (fun r0=>k (.p kI r0) [])
theorem acI(g188:xm A)(n:Nat):Qo A (Ev [(188,Ht g188)] [] [] []) Tryz.f130 [.pure] (Fq (Fr g188 n)):=.mk
theorem acH(n:Nat):OK A 130 (Fq (n9 n)):=ak (acI _ n) Tryz.func130 ag (oc (aeB n) oz)
def Fu{R:Type}(F:(List (List Int))→Int→Y5→Unit→(List (List Int))→Y5→Unit→(bx A)→R→Int→(List (List Int))→Option A)(k:KK A)(d:LSh.den ⟨[(2,(.ptr 0)),(0,(.ptr 2)),(6,(.p (.sl kS))),(0,(.p kI)),(0,(.p kI))],12,[(.var 163 bG (.pr (.p ci) (.pr (.row 1) (.p .unit)))),(.row 46 kS),(.var 163 bG (.pr (.p ci) (.pr (.row 3) (.p .unit)))),(.row 46 kS)],0⟩)(t:R):Option A:=F d.1.2.2.1 d.1.2.2.2.1 d.2.1.1 d.2.1.2.2 d.2.2.1 d.2.2.2.1.1 d.2.2.2.1.2.2 (fun z5=>k (.exit 0) ⟨.any::.any::(.ptr 0 [])::(.ptr 2 [])::an 21 [],[.var 163 bG (.pr (.p ci d.2.1.1) (.pr (.row 1) (.p .unit d.2.1.2.2))),.row 46 kS d.2.2.1,.var 163 bG (.pr (.p ci d.2.2.2.1.1) (.pr (.row 3) (.p .unit d.2.2.2.1.2.2))),.row 46 kS z5],0⟩) t d.1.2.2.2.2.1 d.2.2.2.2.1
def Fs(g:qw A):Entry A:=ai [] ⟨[(.p bG)],[],0⟩ fun d k=>g d.1.1 (fun r0=>k (.p bG r0) [])
section
variable(g65:dI A)(n:Nat)
noncomputable def Q0:Env A:=Ev [(65,mD g65)] [(0,au (dl 25 [2,3,10,11,12]) (Fu (oa g65 n)) n)] [] []
theorem acL:Lst A (Q0 g65 n) Tryz.f131 0 (dl 25 [2,3]) (Fu (zf g65 n)) (Fu (oa g65 n)) fun r d t12 outba=>r (((),(),d.1.2.2.1,d.1.2.2.2.1,t12,d.1.2.2.2.2.2),(d.2.1,d.2.2.1,d.2.2.2.1,outba,d.2.2.2.2.2)):=.mk
theorem acK:Qo A (Q0 g65 n) Tryz.f131 [.pure] (Fs (Ft g65 n)):=.mk
end
theorem acJ(n:Nat):OK A 131 (Fs (sq n)):=ak (acK _ n) Tryz.func131 (ax (acL _ n) ag) (oc (pK n) oz)
def Mc{R:Type}(F:Y8→Int→Unit→(tT A)→(DA A)→R→Int→Y8→(List (List Int))→bc→Option A)(k:KK A)(d:LSh.den ⟨[(6,(.ptr 0)),(16,(.p (.sl bG))),(0,(.p kI)),(0,(.p kI))],64,[(.var 308 iB (.pr (.row 1) (.pr (.row 2) (.pr (.mp 3) (.p .unit))))),(.row 163 bG),(.row 24 aa),(.map aa kI)],0⟩)(t:R):Option A:=F d.1.2.1 d.1.2.2.1 d.2.1.2.2.2 (fun z0 z2 z3 z4=>k .ret ⟨an 4 (.nilp::(.p kI z0)::(.ptr 0 [])::an 83 []),[.var 308 iB (.pr (.row 1) (.pr (.row 2) (.pr (.mp 3) (.p .unit d.2.1.2.2.2)))),.row 163 bG z2,.row 24 aa z3,.map aa kI z4],0⟩) (fun z1 z2 z3=>k (.exit 0) ⟨an 6 ((.ptr 0 [])::an 83 []),[.var 308 iB (.pr (.row 1) (.pr (.row 2) (.pr (.mp 3) (.p .unit d.2.1.2.2.2)))),.row 163 bG z1,.row 24 aa z2,.map aa kI z3],0⟩) t d.1.2.2.2.1 d.2.2.1 d.2.2.2.1 d.2.2.2.2.1
def Ma(g:lv A):Entry A:=ai [] ⟨[(.p aa),(.p (.sl bG))],[],0⟩ fun d k=>g d.1.1 d.1.2.1 (fun r0=>k (.tup [.nilp,.p kI r0]) []) (fun r0 r1 r2 r3 r4=>k (.tup [.ptr 0 [],.p kI r0]) [.var 308 iB (.pr (.row 1) (.pr (.row 2) (.pr (.mp 3) (.p .unit r1)))),.row 163 bG r2,.row 24 aa r3,.map aa kI r4])
section
variable(g130:qv A)(g94:fv A)(g131:qw A)(n:Nat)
noncomputable def Uz:Env A:=Ev [(130,Fq g130),(94,vN g94),(131,Fs g131)] [(0,au (dl 90 [6,23,24,25]) (Mc (mF g130 g94 g131 n)) n)] [] []
theorem aji:Lst A (Uz g130 g94 g131 n) Tryz.f93 0 (dl 90 [4,5,6]) (Mc (Cl g130 g94 g131 n)) (Mc (mF g130 g94 g131 n)) fun r d t25 da dba dbba=>r (((),d.1.2.1,d.1.2.2.1,t25,d.1.2.2.2.2),(d.2.1,da,dba,dbba,d.2.2.2.2.2)):=.mk
theorem ajh:Qo A (Uz g130 g94 g131 n) Tryz.f93 [.own,.pure] (Ma (Mb g130 g94 g131 n)):=.mk
end
theorem ajg(n:Nat):OK A 93 (Ma (vM n)):=ak (ajh _ _ _ n) Tryz.func93 (ax (aji _ _ _ n) ag) (oc (acH n)<|oc (Md n)<|oc (acJ n) oz)
def K7{R:Type}(F:(List Int)→Int→iZ→Option A→Option A→R→Int→Option A)(k:KK A)(d:LSh.den ⟨[(1,(.ptr 0)),(20,(.p (.sl kI))),(0,(.p kI)),(0,(.p kI))],70,[(.var 38 b8 (.p b8))],0⟩)(t:R):Option A:=F d.1.2.1 d.1.2.2.1 d.2.1 (k .ret ⟨.any::(.ptr 0 [])::(.row 1)::(.p kI 1)::an 91 [],[.var 38 b8 (.p b8 d.2.1),.ob 126 b7 cb [] none],0⟩) (k (.exit 0) ⟨.any::(.ptr 0 [])::an 93 [],[.var 38 b8 (.p b8 d.2.1)],0⟩) t d.1.2.2.2.1
def K8{R:Type}(F:(List Int)→Int→iZ→(jz A)→(rI A)→R→Int→dA→Option A)(k:KK A)(d:LSh.den ⟨[(1,(.ptr 0)),(6,(.row 1)),(41,(.p (.sl kI))),(0,(.p kI)),(0,(.p kI))],42,[(.var 38 b8 (.p b8)),(.ob 126 b7 cb)],0⟩)(t:R):Option A:=F d.1.2.2.1 d.1.2.2.2.1 d.2.1 (fun z0 z2=>k .ret ⟨.any::.any::(.row 0)::(.p kI z0)::an 4 ((.row 1)::an 86 []),[.ob 126 b7 cb [] none,.ob 126 b7 cb z2 none],0⟩) (fun z0=>k (.exit 2) ⟨an 8 ((.row 0)::an 86 []),[.ob 126 b7 cb z0 none],0⟩) t d.1.2.2.2.2.1 d.2.2.1
def K4(g:xH A):Entry A:=ai [] ⟨[(.p b8)],[],0⟩ fun d k=>g d.1.1 (fun r0 r1=>k (.tup [.row 0,.p kI r0]) [.ob 126 b7 cb r1 none])
section
variable(g91:lq A)(g91n:lr A)(g92:lu A)(g94:fv A)(g93:lv A)(n:Nat)
noncomputable def K3:Env A:=Ev [(91,nC Ux.tm (L5 g91) (L7 g91n)),(92,L9 g92),(94,vN g94),(93,Ma g93)] [(0,au (dl 95 [1,22,23,24]) (K7 (pH g91 g91n g92 g94 g93 n)) n),(1,au (dl 95 [1,8,50,51,52]) (K8 (mz g91 g91n g92 g94 g93 n)) n)] [] []
theorem aif:Lst A (K3 g91 g91n g92 g94 g93 n) Tryz.f55 1 (dl 95 [2,3,8]) (K8 (BV g91 g91n g92 g94 g93 n)) (K8 (mz g91 g91n g92 g94 g93 n)) fun r d t52 out=>r (((),(),d.1.2.2.1,d.1.2.2.2.1,t52,d.1.2.2.2.2.2),(d.2.1,out,d.2.2.2)):=.mk
theorem aie:Lst A (K3 g91 g91n g92 g94 g93 n) Tryz.f55 0 (dl 95 [1,2,3]) (K7 (BU g91 g91n g92 g94 g93 n)) (K7 (pH g91 g91n g92 g94 g93 n)) fun r d t24=>r (((),d.1.2.1,d.1.2.2.1,t24,d.1.2.2.2.2),d.2):=.mk
theorem aid:Qo A (K3 g91 g91n g92 g94 g93 n) Tryz.f55 [.own,.pure] (K4 (K6 g91 g91n g92 g94 g93 n)):=.mk
end
theorem aic(n:Nat):OK A 55 (K4 (K5 n)):=ak (aid _ _ _ _ _ n) Tryz.func55 (ax (aie _ _ _ _ _ n)<|ax (aif _ _ _ _ _ n) ag) (oc (aI.alt (aja n) (ajc n))<|oc (aje n)<|oc (Md n)<|oc (ajg n) oz)
def HF{R:Type}(F:Int→Int→(ae A)→R→Int→Int→Option A)(k:KK A)(d:LSh.den ⟨[(1,(.p kI)),(0,(.p kI)),(4,(.p kI)),(0,(.p kI))],24,[],0⟩)(t:R):Option A:=F d.1.1 d.1.2.1 (fun z1=>k (.exit 0) ⟨.any::(.p kI d.1.1)::an 5 ((.p kI z1)::an 25 []),[],0⟩) t d.1.2.2.1 d.1.2.2.2.1
def HD(g:xo A):Entry A:=ai [] ⟨[(.p kI),(.p kI),(.p kI)],[],0⟩ fun d k=>g d.1.1 d.1.2.1 d.1.2.2.1 (fun r0=>k (.p kI r0) [])
section
variable(g129:km A)(n:Nat)
noncomputable def R8:Env A:=Ev [(129,ze g129)] [(0,au (dl 33 [1,2,7,8]) (HF (oK g129 n)) n)] [] []
theorem aeN:Lst A (R8 g129 n) Tryz.f191 0 (dl 33 [1,7]) (HF (Aq g129 n)) (HF (oK g129 n)) fun r d d_ n_=>r ((d.1.1,d.1.2.1,d_,n_,d.1.2.2.2.2),d.2):=.mk
theorem aeM:Qo A (R8 g129 n) Tryz.f191 [.pure] (HD (HE g129 n)):=.mk
end
theorem aeL(n:Nat):OK A 191 (HD (Ar n)):=ak (aeM _ n) Tryz.func191 (ax (aeN _ n) ag) (oc (QX n) oz)
def FA(g:w9 A):Entry A:=ai [true,false] ⟨[(.ptr 0),(.p kI)],[(.var 212 eu (.pr (.p kI) (.pr (.p kI) (.pr (.p aP) (.pr (.p kI) (.pr (.p .bool) (.pr (.mp 1) (.p (.pair kI (.pair kI (.pair kI (.pair .bool .unit)))))))))))),(.map aP kI)],2⟩ fun d k=>g d.1.2.1 d.2.1.1 d.2.1.2.1 d.2.1.2.2.1 d.2.1.2.2.2.1 d.2.1.2.2.2.2.1 d.2.1.2.2.2.2.2.2 d.2.2.1 (fun r0 r1 r2 r3 r4 r5 r6=>k (.tup []) [.var 212 eu (.pr (.p kI r0) (.pr (.p kI r1) (.pr (.p aP r2) (.pr (.p kI r3) (.pr (.p .bool r4) (.pr (.mp 1) (.p (.pair kI (.pair kI (.pair kI (.pair .bool .unit)))) r5))))))),.map aP kI r6])
theorem acR(g191:xo A)(n:Nat):Qo A (Ev [(191,HD g191)] [] [] []) Tryz.f135 [] (FA (FC g191 n)):=.mk
theorem acQ(n:Nat):OK A 135 (FA (FB n)):=ak (acR _ n) Tryz.func135 ag (oc (aeL n) oz)
def Mf(g:rv A):Entry A:=ai [true,false] ⟨[(.ptr 0),(.p kI)],[(.var 212 eu (.pr (.p kI) (.pr (.p kI) (.pr (.p aP) (.pr (.p kI) (.pr (.p .bool) (.pr (.mp 1) (.p (.pair kI (.pair kI (.pair kI (.pair .bool .unit)))))))))))),(.map aP kI)],2⟩ fun d k=>g d.1.2.1 d.2.1.1 d.2.1.2.1 d.2.1.2.2.1 d.2.1.2.2.2.1 d.2.1.2.2.2.2.1 d.2.1.2.2.2.2.2.2 d.2.2.1 (fun r0 r1 r2 r3 r4 r5 r6 r7 r8=>k (.tup [.p aP r0,.p .bool r1]) [.var 212 eu (.pr (.p kI r2) (.pr (.p kI r3) (.pr (.p aP r4) (.pr (.p kI r5) (.pr (.p .bool r6) (.pr (.mp 1) (.p (.pair kI (.pair kI (.pair kI (.pair .bool .unit)))) r7))))))),.map aP kI r8])
theorem ajl(g134:w7 A)(g135:w9 A)(n:Nat):Qo A (Ev [(134,zh g134),(135,FA g135)] [] [] []) Tryz.f95 [.pure,.pure] (Mf (Mg g134 g135 n)):=.mk
theorem ajk(n:Nat):OK A 95 (Mf (sS n)):=ak (ajl _ _ n) Tryz.func95 ag (oc (Q4 n)<|oc (acQ n) oz)
def zj(g:qx A):Entry A:=cu [true,false] ⟨[(.ptr 0),(.p kI)],[(.var 212 eu (.pr (.p kI) (.pr (.p kI) (.pr (.p aP) (.pr (.p kI) (.pr (.p .bool) (.pr (.mp 1) (.p (.pair kI (.pair kI (.pair kI (.pair .bool .unit)))))))))))),(.map aP kI)],2⟩ fun d k=>g d.1.2.1 d.2.1.1 d.2.1.2.1 d.2.1.2.2.1 d.2.1.2.2.2.1 d.2.1.2.2.2.2.1 d.2.1.2.2.2.2.2.2 d.2.2.1 (fun r0=>k (.p .bool r0) [])
theorem acS(n:Nat):Qr A (Ev [] [] [] []) Tryz.f136 [.pure] (zj (FD n)):=.mk
theorem Q5(n:Nat):OK A 136 (zj (uz n)):=cR (acS n) Tryz.func136 ag oz
def HJ{R:Type}(F:Int→aJ→Unit→bR→bc→(List Int)→(bx A)→R→Int→(List (List Int))→Option A)(k:KK A)(d:LSh.den ⟨[(0,(.ptr 0)),(2,(.row 4)),(5,(.row 3)),(0,(.p kI)),(0,(.p kI))],16,[(.var 120 bh (.pr (.p ay) (.pr (.row 1) (.pr (.mp 2) (.pr (.row 3) (.p .unit)))))),(.row 181 a9),(.map aa kI),(.row 3 kI),(.row 24 aa)],4⟩)(t:R):Option A:=F d.1.2.2.2.1 d.2.1.1 d.2.1.2.2.2.2 d.2.2.1 d.2.2.2.1 d.2.2.2.2.1 (fun z5=>k (.exit 0) ⟨.any::.any::.any::(.row 4)::an 24 [],[.var 120 bh (.pr (.p ay d.2.1.1) (.pr (.row 1) (.pr (.mp 2) (.pr (.row 3) (.p .unit d.2.1.2.2.2.2))))),.row 181 a9 d.2.2.1,.map aa kI d.2.2.2.1,.row 3 kI d.2.2.2.2.1,.row 24 aa z5],4⟩) t d.1.2.2.2.2.1 d.2.2.2.2.2.1
def Av(g:qM A):Entry A:=cu [true] ⟨[(.ptr 0)],[(.var 120 bh (.pr (.p ay) (.pr (.row 1) (.pr (.mp 2) (.pr (.row 3) (.p .unit)))))),(.row 181 a9),(.map aa kI),(.row 3 kI)],4⟩ fun d k=>g d.2.1.1 d.2.1.2.2.2.2 d.2.2.1 d.2.2.2.1 d.2.2.2.2.1 (fun r0=>k (.row 4) [.row 24 aa r0])
section
variable(n:Nat)
noncomputable def Sb:Env A:=Ev [] [(0,au (dl 28 [0,3,9,10,11]) (HJ (Ax n)) n)] [] []
theorem aeS:Lst A (Sb n) Tryz.f193 0 (dl 28 [3]) (HJ (Sc n)) (HJ (Ax n)) fun r d t11 out=>r (((),(),(),d.1.2.2.2.1,t11,d.1.2.2.2.2.2),(d.2.1,d.2.2.1,d.2.2.2.1,d.2.2.2.2.1,out,d.2.2.2.2.2.2)):=.mk
theorem aeR:Qr A (Sb n) Tryz.f193 [.own] (Av (Se n)):=.mk
end
theorem Sd(n:Nat):OK A 193 (Av (Aw n)):=cR (aeR n) Tryz.func193 (ax (aeS n) ag) oz
def JB(g:rd A):Entry A:=ai [] ⟨[(.p (.int .u16))],[],0⟩ fun d k=>g d.1.1 (fun r0=>k (.p kI r0) [])
theorem agO(n:Nat):Qo A (Ev [] [] [] []) Tryz.f258 [.pure] (JB (Tm n)):=.mk
theorem agN(n:Nat):OK A 258 (JB (Tl n)):=ak (agO n) Tryz.func258 ag oz
def HI{R:Type}(F:(List (List Int))→Int→Int→Unit→bc→cP→(rA A)→Option A→R→Int→Option A)(k:KK A)(d:LSh.den ⟨[(0,(.ptr 0)),(3,(.ptr 2)),(15,(.p (.sl aa))),(0,(.p kI)),(0,(.p kI))],26,[(.var 306 jk (.pr (.p kI) (.pr (.mp 1) (.p .unit)))),(.map aa (.int .u16)),(.var 378 aP (.p aP))],2⟩)(t:R):Option A:=F d.1.2.2.1 d.1.2.2.2.1 d.2.1.1 d.2.1.2.2 d.2.2.1 d.2.2.2.1 (fun z4=>k .ret ⟨an 4 ((.ptr 2 [])::(.p .bool true)::an 43 []),[.var 306 jk (.pr (.p kI d.2.1.1) (.pr (.mp 1) (.p .unit d.2.1.2.2))),.map aa (.int .u16) d.2.2.1,.var 378 aP (.p aP z4)],2⟩) (k (.exit 0) ⟨an 4 ((.ptr 2 [])::an 44 []),[.var 306 jk (.pr (.p kI d.2.1.1) (.pr (.mp 1) (.p .unit d.2.1.2.2))),.map aa (.int .u16) d.2.2.1,.var 378 aP (.p aP d.2.2.2.1)],2⟩) t d.1.2.2.2.2.1
def HG(g:xp A):Entry A:=cu [true,false] ⟨[(.ptr 0),(.p (.sl aa))],[(.var 306 jk (.pr (.p kI) (.pr (.mp 1) (.p .unit)))),(.map aa (.int .u16))],2⟩ fun d k=>g d.1.2.1 d.2.1.1 d.2.1.2.2 d.2.2.1 (fun r0 r1=>k (.tup [.p aP r0,.p .bool r1]) [])
section
variable(g258:rd A)(n:Nat)
noncomputable def R9:Env A:=Ev [(258,JB g258)] [(0,au (dl 49 [0,4,20,21,22]) (HI (Au g258 n)) n)] [] []
theorem aeQ:Lst A (R9 g258 n) Tryz.f192 0 (dl 49 [4,5]) (HI (Sa g258 n)) (HI (Au g258 n)) fun r d t22=>r (((),(),d.1.2.2.1,d.1.2.2.2.1,t22,d.1.2.2.2.2.2),d.2):=.mk
theorem aeP:Qr A (R9 g258 n) Tryz.f192 [.pure,.pure] (HG (HH g258 n)):=.mk
end
theorem aeO(n:Nat):OK A 192 (HG (As n)):=cR (aeP _ n) Tryz.func192 (ax (aeQ _ n) ag) (oc (agN n) oz)
def HN(g:xr A):Entry A:=cu [true,true] ⟨[(.ptr 0),(.ptr 7)],[(.var 116 bF (.pr (.pr (.p ay) (.pr (.p kI) (.pr (.p kI) (.pr (.p kI) (.pr (.p kI) (.pr (.row 1) (.p .unit))))))) (.pr (.ptr 2) (.pr (.p kI) (.pr (.row 6) (.pr (.mp 12) (.pr (.row 13) (.p .unit)))))))),(.row 46 kS),(.var 120 bh (.pr (.p ay) (.pr (.row 3) (.pr (.mp 4) (.pr (.row 5) (.p .unit)))))),(.row 181 a9),(.map aa kI),(.row 3 kI),(.obh 140 .opq bH (.ptr 7)),(.var 145 vX (.pr (.ptr 8) (.pr (.ptr 10) (.pr (.np aa) (.p (.pair kI (.pair kI (.pair .bool .unit)))))))),(.var 212 eu (.pr (.p kI) (.pr (.p kI) (.pr (.p aP) (.pr (.p kI) (.pr (.p .bool) (.pr (.mp 9) (.p (.pair kI (.pair kI (.pair kI (.pair .bool .unit)))))))))))),(.map aP kI),(.var 306 jk (.pr (.p kI) (.pr (.mp 11) (.p .unit)))),(.map aa (.int .u16)),(.map aF bk),(.row 475 aF)],14⟩ fun d k=>g d.2.1.1.1 d.2.1.1.2.1 d.2.1.1.2.2.1 d.2.1.1.2.2.2.1 d.2.1.1.2.2.2.2.1 d.2.1.1.2.2.2.2.2.2 d.2.1.2.2.1 d.2.1.2.2.2.2.2.2 d.2.2.1 d.2.2.2.1.1 d.2.2.2.1.2.2.2.2 d.2.2.2.2.1 d.2.2.2.2.2.1 d.2.2.2.2.2.2.1 d.2.2.2.2.2.2.2.1.1 d.2.2.2.2.2.2.2.1.2.1 d.2.2.2.2.2.2.2.2.1.2.2.1 d.2.2.2.2.2.2.2.2.1.2.2.2 d.2.2.2.2.2.2.2.2.2.1.1 d.2.2.2.2.2.2.2.2.2.1.2.1 d.2.2.2.2.2.2.2.2.2.1.2.2.1 d.2.2.2.2.2.2.2.2.2.1.2.2.2.1 d.2.2.2.2.2.2.2.2.2.1.2.2.2.2.1 d.2.2.2.2.2.2.2.2.2.1.2.2.2.2.2.2 d.2.2.2.2.2.2.2.2.2.2.1 d.2.2.2.2.2.2.2.2.2.2.2.1.1 d.2.2.2.2.2.2.2.2.2.2.2.1.2.2 d.2.2.2.2.2.2.2.2.2.2.2.2.1 d.2.2.2.2.2.2.2.2.2.2.2.2.2.1 d.2.2.2.2.2.2.2.2.2.2.2.2.2.2.1 (fun r0=>k (.row 14) [.row 24 aa r0])
theorem aeX(g193:qM A)(n:Nat):Qr A (Ev [(193,Av g193)] [] [] []) Tryz.f195 [.own] (HN (HO g193 n)):=.mk
theorem aeW(n:Nat):OK A 195 (HN (Az n)):=cR (aeX _ n) Tryz.func195 ag (oc (Sd n) oz)
def HM{R:Type}(F:(List (List Int))→(bx A)→R→Int→Int→(List (List Int))→Option A)(k:KK A)(d:LSh.den ⟨[(0,(.p (.sl aa))),(2,(.row 0)),(0,(.p kI)),(0,(.p kI))],29,[(.row 24 aa)],0⟩)(t:R):Option A:=F d.1.1 (fun z1=>k (.exit 0) ⟨(.p (.sl aa) d.1.1)::.any::.any::(.row 0)::an 31 [],[.row 24 aa z1],0⟩) t d.1.2.2.1 d.1.2.2.2.1 d.2.1
def HK(g:xq A):Entry A:=ai [] ⟨[(.p (.sl aa))],[],0⟩ fun d k=>g d.1.1 (fun r0=>k (.row 0) [.row 24 aa r0])
section
variable(n:Nat)
noncomputable def Sf:Env A:=Ev [] [(0,au (dl 35 [0,3,4,5]) (HM (Ay n)) n)] [] []
theorem aeV:Lst A (Sf n) Tryz.f194 0 (dl 35 [0,3]) (HM (Sg n)) (HM (Ay n)) fun r d step at_ out=>r ((d.1.1,(),step,at_,d.1.2.2.2.2),(out,d.2.2)):=.mk
theorem aeU:Qo A (Sf n) Tryz.f194 [.own] (HK (Si n)):=.mk
end
theorem aeT(n:Nat):OK A 194 (HK (HL n)):=ak (aeU n) Tryz.func194 (ax (aeV n) ag) oz
def FE(g:xb A):Entry A:=ai [true,true] ⟨[(.ptr 0),(.ptr 7)],[(.var 116 bF (.pr (.pr (.p ay) (.pr (.p kI) (.pr (.p kI) (.pr (.p kI) (.pr (.p kI) (.pr (.row 1) (.p .unit))))))) (.pr (.ptr 2) (.pr (.p kI) (.pr (.row 6) (.pr (.mp 12) (.pr (.row 13) (.p .unit)))))))),(.row 46 kS),(.var 120 bh (.pr (.p ay) (.pr (.row 3) (.pr (.mp 4) (.pr (.row 5) (.p .unit)))))),(.row 181 a9),(.map aa kI),(.row 3 kI),(.obh 140 .opq bH (.ptr 7)),(.var 145 vX (.pr (.ptr 8) (.pr (.ptr 10) (.pr (.np aa) (.p (.pair kI (.pair kI (.pair .bool .unit)))))))),(.var 212 eu (.pr (.p kI) (.pr (.p kI) (.pr (.p aP) (.pr (.p kI) (.pr (.p .bool) (.pr (.mp 9) (.p (.pair kI (.pair kI (.pair kI (.pair .bool .unit)))))))))))),(.map aP kI),(.var 306 jk (.pr (.p kI) (.pr (.mp 11) (.p .unit)))),(.map aa (.int .u16)),(.map aF bk),(.row 475 aF)],14⟩ fun d k=>g d.2.1.1.1 d.2.1.1.2.1 d.2.1.1.2.2.1 d.2.1.1.2.2.2.1 d.2.1.1.2.2.2.2.1 d.2.1.1.2.2.2.2.2.2 d.2.1.2.2.1 d.2.1.2.2.2.2.2.2 d.2.2.1 d.2.2.2.1.1 d.2.2.2.1.2.2.2.2 d.2.2.2.2.1 d.2.2.2.2.2.1 d.2.2.2.2.2.2.1 d.2.2.2.2.2.2.2.1.1 d.2.2.2.2.2.2.2.1.2.1 d.2.2.2.2.2.2.2.2.1.2.2.1 d.2.2.2.2.2.2.2.2.1.2.2.2 d.2.2.2.2.2.2.2.2.2.1.1 d.2.2.2.2.2.2.2.2.2.1.2.1 d.2.2.2.2.2.2.2.2.2.1.2.2.1 d.2.2.2.2.2.2.2.2.2.1.2.2.2.1 d.2.2.2.2.2.2.2.2.2.1.2.2.2.2.1 d.2.2.2.2.2.2.2.2.2.1.2.2.2.2.2.2 d.2.2.2.2.2.2.2.2.2.2.1 d.2.2.2.2.2.2.2.2.2.2.2.1.1 d.2.2.2.2.2.2.2.2.2.2.2.1.2.2 d.2.2.2.2.2.2.2.2.2.2.2.2.1 d.2.2.2.2.2.2.2.2.2.2.2.2.2.1 d.2.2.2.2.2.2.2.2.2.2.2.2.2.2.1 (fun r0 r1 r2 r3 r4 r5 r6 r7 r8 r9 r10 r11 r12 r13 aQ aM r16 r17 r18 aX bn r21 r22 r23 r24 cD bV r27 r28 r29 r30 r31 r32=>k (.tup [.p eW r0,.p aP r1,.p .bool r2]) [.var 116 bF (.pr (.pr (.p ay r3) (.pr (.p kI r4) (.pr (.p kI r5) (.pr (.p kI r6) (.pr (.p kI r7) (.pr (.row 1) (.p .unit r8))))))) (.pr (.ptr 2 []) (.pr (.p kI r9) (.pr (.row 6) (.pr (.mp 12) (.pr (.row 13) (.p .unit r10))))))),.row 46 kS r11,.var 120 bh (.pr (.p ay r12) (.pr (.row 3) (.pr (.mp 4) (.pr (.row 5) (.p .unit r13))))),.row 181 a9 aQ,.map aa kI aM,.row 3 kI r16,.ob 140 .opq bH r17 (some (r18,.ptr 7 [])),.var 145 vX (.pr (.ptr 8 []) (.pr (.ptr 10 []) (.pr (.np aa aX) (.p (.pair kI (.pair kI (.pair .bool .unit))) bn)))),.var 212 eu (.pr (.p kI r21) (.pr (.p kI r22) (.pr (.p aP r23) (.pr (.p kI r24) (.pr (.p .bool cD) (.pr (.mp 9) (.p (.pair kI (.pair kI (.pair kI (.pair .bool .unit)))) bV))))))),.map aP kI r27,.var 306 jk (.pr (.p kI r28) (.pr (.mp 11) (.p .unit r29))),.map aa (.int .u16) r30,.map aF bk r31,.row 475 aF r32])
theorem acU(g193:qM A)(g192:xp A)(g195:xr A)(g194:xq A)(g65:dI A)(n:Nat):Qo A (Ev [(193,Av g193),(192,HG g192),(195,HN g195),(194,HK g194),(65,mD g65)] [] [] []) Tryz.f137 [.pure,.pure,.pure] (FE (FF g193 g192 g195 g194 g65 n)):=.mk
theorem acT(n:Nat):OK A 137 (FE (zk n)):=ak (acU _ _ _ _ _ n) Tryz.func137 ag (oc (Sd n)<|oc (aeO n)<|oc (aeW n)<|oc (aeT n)<|oc (pK n) oz)
def FG(g:xc A):Entry A:=ai [true,false,false] ⟨[(.ptr 0),(.p aP),(.p kI)],[(.var 212 eu (.pr (.p kI) (.pr (.p kI) (.pr (.p aP) (.pr (.p kI) (.pr (.p .bool) (.pr (.mp 1) (.p (.pair kI (.pair kI (.pair kI (.pair .bool .unit)))))))))))),(.map aP kI)],2⟩ fun d k=>g d.1.2.1 d.1.2.2.1 d.2.1.1 d.2.1.2.1 d.2.1.2.2.1 d.2.1.2.2.2.1 d.2.1.2.2.2.2.1 d.2.1.2.2.2.2.2.2 d.2.2.1 (fun r0 r1 r2 r3 r4 r5 r6 r7=>k (.p kI r0) [.var 212 eu (.pr (.p kI r1) (.pr (.p kI r2) (.pr (.p aP r3) (.pr (.p kI r4) (.pr (.p .bool r5) (.pr (.mp 1) (.p (.pair kI (.pair kI (.pair kI (.pair .bool .unit)))) r6))))))),.map aP kI r7])
theorem acW(g136:qx A)(n:Nat):Qo A (Ev [(136,zj g136)] [] [] []) Tryz.f138 [.pure] (FG (FI g136 n)):=.mk
theorem acV(n:Nat):OK A 138 (FG (FH n)):=ak (acW _ n) Tryz.func138 ag (oc (Q5 n) oz)
def Cm(g:rx A):Entry A:=ai [true,true,false] ⟨[(.ptr 0),(.row 9),(.p kI)],[(.var 116 bF (.pr (.pr (.p ay) (.pr (.p kI) (.pr (.p kI) (.pr (.p kI) (.pr (.p kI) (.pr (.row 1) (.p .unit))))))) (.pr (.ptr 2) (.pr (.p kI) (.pr (.row 6) (.pr (.mp 7) (.pr (.row 8) (.p .unit)))))))),(.row 46 kS),(.var 120 bh (.pr (.p ay) (.pr (.row 3) (.pr (.mp 4) (.pr (.row 5) (.p .unit)))))),(.row 181 a9),(.map aa kI),(.row 3 kI),(.ob 140 .opq bH),(.map aF bk),(.row 475 aF),(.row 257 eV)],10⟩ fun d k=>g d.1.2.2.1 d.2.1.1.1 d.2.1.1.2.1 d.2.1.1.2.2.1 d.2.1.1.2.2.2.1 d.2.1.1.2.2.2.2.1 d.2.1.1.2.2.2.2.2.2 d.2.1.2.2.1 d.2.1.2.2.2.2.2.2 d.2.2.1 d.2.2.2.1.1 d.2.2.2.1.2.2.2.2 d.2.2.2.2.1 d.2.2.2.2.2.1 d.2.2.2.2.2.2.1 d.2.2.2.2.2.2.2.1 d.2.2.2.2.2.2.2.2.1 d.2.2.2.2.2.2.2.2.2.1 d.2.2.2.2.2.2.2.2.2.2.1 (fun r0 r1 r2 r3 r4 r5 r6 r7 r8 r9 r10 r11 r12 r13 aQ aM r16 r17=>k (.row 9) [.var 116 bF (.pr (.pr (.p ay r0) (.pr (.p kI r1) (.pr (.p kI r2) (.pr (.p kI r3) (.pr (.p kI r4) (.pr (.row 1) (.p .unit r5))))))) (.pr (.ptr 2 []) (.pr (.p kI r6) (.pr (.row 6) (.pr (.mp 7) (.pr (.row 8) (.p .unit r7))))))),.row 46 kS r8,.var 120 bh (.pr (.p ay r9) (.pr (.row 3) (.pr (.mp 4) (.pr (.row 5) (.p .unit r10))))),.row 181 a9 r11,.map aa kI r12,.row 3 kI r13,.ob 140 .opq bH aQ none,.map aF bk aM,.row 475 aF r16,.row 257 eV r17]) (fun r0 r1 r2 r3 r4 r5 r6 r7 r8 r9 r10 r11 r12 r13 aQ aM r16 r17=>k (.row 10) [.var 116 bF (.pr (.pr (.p ay r0) (.pr (.p kI r1) (.pr (.p kI r2) (.pr (.p kI r3) (.pr (.p kI r4) (.pr (.row 1) (.p .unit r5))))))) (.pr (.ptr 2 []) (.pr (.p kI r6) (.pr (.row 6) (.pr (.mp 7) (.pr (.row 8) (.p .unit r7))))))),.row 46 kS r8,.var 120 bh (.pr (.p ay r9) (.pr (.row 3) (.pr (.mp 4) (.pr (.row 5) (.p .unit r10))))),.row 181 a9 r11,.map aa kI r12,.row 3 kI r13,.ob 140 .opq bH aQ none,.map aF bk aM,.row 475 aF r16,.gone,.row 257 eV r17])
theorem ajm(g136:qx A)(g137:xb A)(g138:xc A)(g103:wS A)(n:Nat):Qo A (Ev [(136,zj g136),(137,FE g137),(138,FG g138),(103,yF g103)] [] [] []) Tryz.f96 [.own] (Cm (Cn g136 g137 g138 g103 n)):=.mk
theorem UA(n:Nat):OK A 96 (Cm (jS n)):=ak (ajm _ _ _ _ n) Tryz.func96 ag (oc (Q5 n)<|oc (acT n)<|oc (acV n)<|oc (QI n) oz)
def La{R:Type}(F:Int→Int→(rJ A)→R→Int→aJ→Int→Int→Int→Int→Unit→Int→Unit→(List (List Int))→aJ→Unit→bR→bc→(List Int)→cn→cI→cB→fA→Option A)(k:KK A)(d:LSh.den ⟨[(0,(.ptr 0)),(0,(.p kI)),(4,(.row 9)),(19,(.row 6)),(0,(.p kI)),(0,(.p kI))],16,[(.var 116 bF (.pr (.pr (.p ay) (.pr (.p kI) (.pr (.p kI) (.pr (.p kI) (.pr (.p kI) (.pr (.row 1) (.p .unit))))))) (.pr (.ptr 2) (.pr (.p kI) (.pr (.row 6) (.pr (.mp 7) (.pr (.row 8) (.p .unit)))))))),(.row 46 kS),(.var 120 bh (.pr (.p ay) (.pr (.row 3) (.pr (.mp 4) (.pr (.row 5) (.p .unit)))))),(.row 181 a9),(.map aa kI),(.row 3 kI),(.ob 140 .opq bH),(.map aF bk),(.row 475 aF),(.row 257 eV)],9⟩)(t:R):Option A:=F d.1.2.1 d.1.2.2.2.2.1 (fun z0 z1 z2 z3 z4 z5 z6 z7 z8 z9 z10 z11 z12 z13 z14 z15 z16 z17=>k (.exit 0) ⟨an 6 ((.row 9)::an 38 []),[.var 116 bF (.pr (.pr (.p ay z0) (.pr (.p kI z1) (.pr (.p kI z2) (.pr (.p kI z3) (.pr (.p kI z4) (.pr (.row 1) (.p .unit z5))))))) (.pr (.ptr 2 []) (.pr (.p kI z6) (.pr (.row 6) (.pr (.mp 7) (.pr (.row 8) (.p .unit z7))))))),.row 46 kS z8,.var 120 bh (.pr (.p ay z9) (.pr (.row 3) (.pr (.mp 4) (.pr (.row 5) (.p .unit z10))))),.row 181 a9 z11,.map aa kI z12,.row 3 kI z13,.ob 140 .opq bH z14 none,.map aF bk z15,.row 475 aF z16,.row 257 eV z17],9⟩) t d.1.2.2.2.2.2.1 d.2.1.1.1 d.2.1.1.2.1 d.2.1.1.2.2.1 d.2.1.1.2.2.2.1 d.2.1.1.2.2.2.2.1 d.2.1.1.2.2.2.2.2.2 d.2.1.2.2.1 d.2.1.2.2.2.2.2.2 d.2.2.1 d.2.2.2.1.1 d.2.2.2.1.2.2.2.2 d.2.2.2.2.1 d.2.2.2.2.2.1 d.2.2.2.2.2.2.1 d.2.2.2.2.2.2.2.1 d.2.2.2.2.2.2.2.2.1 d.2.2.2.2.2.2.2.2.2.1 d.2.2.2.2.2.2.2.2.2.2.1
def BX(g:iR A):Entry A:=ai [true,false] ⟨[(.ptr 0),(.p kI)],[(.var 116 bF (.pr (.pr (.p ay) (.pr (.p kI) (.pr (.p kI) (.pr (.p kI) (.pr (.p kI) (.pr (.row 1) (.p .unit))))))) (.pr (.ptr 2) (.pr (.p kI) (.pr (.row 6) (.pr (.mp 7) (.pr (.row 8) (.p .unit)))))))),(.row 46 kS),(.var 120 bh (.pr (.p ay) (.pr (.row 3) (.pr (.mp 4) (.pr (.row 5) (.p .unit)))))),(.row 181 a9),(.map aa kI),(.row 3 kI),(.ob 140 .opq bH),(.map aF bk),(.row 475 aF)],9⟩ fun d k=>g d.1.2.1 d.2.1.1.1 d.2.1.1.2.1 d.2.1.1.2.2.1 d.2.1.1.2.2.2.1 d.2.1.1.2.2.2.2.1 d.2.1.1.2.2.2.2.2.2 d.2.1.2.2.1 d.2.1.2.2.2.2.2.2 d.2.2.1 d.2.2.2.1.1 d.2.2.2.1.2.2.2.2 d.2.2.2.2.1 d.2.2.2.2.2.1 d.2.2.2.2.2.2.1 d.2.2.2.2.2.2.2.1 d.2.2.2.2.2.2.2.2.1 d.2.2.2.2.2.2.2.2.2.1 (fun r0 r1 r2 r3 r4 r5 r6 r7 r8 r9 r10 r11 r12 r13 aQ aM r16 r17 r18=>k (.tup [.row 9,.p kI r0]) [.var 116 bF (.pr (.pr (.p ay r1) (.pr (.p kI r2) (.pr (.p kI r3) (.pr (.p kI r4) (.pr (.p kI r5) (.pr (.row 1) (.p .unit r6))))))) (.pr (.ptr 2 []) (.pr (.p kI r7) (.pr (.row 6) (.pr (.mp 7) (.pr (.row 8) (.p .unit r8))))))),.row 46 kS r9,.var 120 bh (.pr (.p ay r10) (.pr (.row 3) (.pr (.mp 4) (.pr (.row 5) (.p .unit r11))))),.row 181 a9 r12,.map aa kI r13,.row 3 kI aQ,.ob 140 .opq bH aM none,.map aF bk r16,.row 475 aF r17,.row 257 eV r18])
section
variable(g95:rv A)(g96:rx A)(n:Nat)
noncomputable def T9:Env A:=Ev [(95,Mf g95),(96,Cm g96)] [(0,au (dl 45 [0,1,6,26,27,28]) (La (mA g95 g96 n)) n)] [2000009] []
theorem aih:Lst A (T9 g95 g96 n) Tryz.f56 0 (dl 45 [6]) (La (BW g95 g96 n)) (La (mA g95 g96 n)) fun r d t28 caa caba cabba cabbba cabbbba cabbbbbb cbba cbbbbbb cabbbbba cbaa cbabbbb cbaba cbabba cbabbba t26 cbbbba cbbbbba out=>r (((),d.1.2.1,(),(),d.1.2.2.2.2.1,t28,d.1.2.2.2.2.2.2),(((caa,(caba,(cabba,(cabbba,(cabbbba,((),cabbbbbb)))))),((),(cbba,((),((),((),cbbbbbb)))))),cabbbbba,(cbaa,((),((),((),cbabbbb)))),cbaba,cbabba,cbabbba,t26,cbbbba,cbbbbba,out,d.2.2.2.2.2.2.2.2.2.2.2)):=.mk
theorem aig:Qo A (T9 g95 g96 n) Tryz.f56 [.own,.pure] (BX (K9 g95 g96 n)):=.mk
end
theorem Ua(n:Nat):OK A 56 (BX (vC n)):=ak (aig _ _ n) Tryz.func56 (ax (aih _ _ n) ag) (oc (ajk n)<|oc (UA n) oz)
def sK(g:kX A):Entry A:=ai [true,false,false] ⟨[(.ptr 0),(.p kS),(.p kI)],[(.var 139 dR (.pr (.row 1) (.p .unit))),(.row 193 cg)],2⟩ fun d k=>g d.1.2.1 d.1.2.2.1 d.2.1.2 d.2.2.1 (fun r0 r1 r2=>k (.p kI r0) [.var 139 dR (.pr (.row 1) (.p .unit r1)),.row 193 cg r2]) (fun r0 r1 r2=>k (.p kI r0) [.var 139 dR (.pr (.row 2) (.p .unit r1)),.gone,.row 193 cg r2])
theorem ahx(g65:dI A)(n:Nat):Qo A (Ev [(65,mD g65)] [] [] []) Tryz.f37 [.pure] (sK (Ki g65 n)):=.mk
theorem BF(n:Nat):OK A 37 (sK (jQ n)):=ak (ahx _ n) Tryz.func37 ag (oc (pK n) oz)
def Ld{R:Type}(F:fA→Int→aJ→Int→Int→Int→Int→Unit→Int→Unit→(List (List Int))→aJ→Unit→bR→bc→(List Int)→cn→cI→cB→(DE A)→R→Int→Y1→dA→Option A)(k:KK A)(d:LSh.den ⟨[(0,(.ptr 0)),(5,(.p (.sl eV))),(0,(.p kI)),(0,(.p kI))],38,[(.var 111 cU (.pr (.ptr 1) (.pr (.row 10) (.p (.pair kI (.pair kI .unit)))))),(.var 116 bF (.pr (.pr (.p ay) (.pr (.p kI) (.pr (.p kI) (.pr (.p kI) (.pr (.p kI) (.pr (.row 2) (.p .unit))))))) (.pr (.ptr 3) (.pr (.p kI) (.pr (.row 7) (.pr (.mp 8) (.pr (.row 9) (.p .unit)))))))),(.row 46 kS),(.var 120 bh (.pr (.p ay) (.pr (.row 4) (.pr (.mp 5) (.pr (.row 6) (.p .unit)))))),(.row 181 a9),(.map aa kI),(.row 3 kI),(.ob 140 .opq bH),(.map aF bk),(.row 475 aF),(.ob 126 b7 cb)],11⟩)(t:R):Option A:=F d.1.2.1 d.1.2.2.1 d.2.2.1.1.1 d.2.2.1.1.2.1 d.2.2.1.1.2.2.1 d.2.2.1.1.2.2.2.1 d.2.2.1.1.2.2.2.2.1 d.2.2.1.1.2.2.2.2.2.2 d.2.2.1.2.2.1 d.2.2.1.2.2.2.2.2.2 d.2.2.2.1 d.2.2.2.2.1.1 d.2.2.2.2.1.2.2.2.2 d.2.2.2.2.2.1 d.2.2.2.2.2.2.1 d.2.2.2.2.2.2.2.1 d.2.2.2.2.2.2.2.2.1 d.2.2.2.2.2.2.2.2.2.1 d.2.2.2.2.2.2.2.2.2.2.1 (fun z0 z18=>k (.exit 0) ⟨an 47 [],[.var 111 cU (.pr (.ptr 1 []) (.pr (.row 10) (.p (.pair kI (.pair kI .unit)) z0))),.var 116 bF (.pr (.pr (.p ay d.2.2.1.1.1) (.pr (.p kI d.2.2.1.1.2.1) (.pr (.p kI d.2.2.1.1.2.2.1) (.pr (.p kI d.2.2.1.1.2.2.2.1) (.pr (.p kI d.2.2.1.1.2.2.2.2.1) (.pr (.row 2) (.p .unit d.2.2.1.1.2.2.2.2.2.2))))))) (.pr (.ptr 3 []) (.pr (.p kI d.2.2.1.2.2.1) (.pr (.row 7) (.pr (.mp 8) (.pr (.row 9) (.p .unit d.2.2.1.2.2.2.2.2.2))))))),.row 46 kS d.2.2.2.1,.var 120 bh (.pr (.p ay d.2.2.2.2.1.1) (.pr (.row 4) (.pr (.mp 5) (.pr (.row 6) (.p .unit d.2.2.2.2.1.2.2.2.2))))),.row 181 a9 d.2.2.2.2.2.1,.map aa kI d.2.2.2.2.2.2.1,.row 3 kI d.2.2.2.2.2.2.2.1,.ob 140 .opq bH d.2.2.2.2.2.2.2.2.1 none,.map aF bk d.2.2.2.2.2.2.2.2.2.1,.row 475 aF d.2.2.2.2.2.2.2.2.2.2.1,.ob 126 b7 cb z18 none],11⟩) t d.1.2.2.2.1 d.2.1.2.2 d.2.2.2.2.2.2.2.2.2.2.2.1
def vD(g:iS A):Entry A:=ai [true,false] ⟨[(.ptr 0),(.p (.sl eV))],[(.var 111 cU (.pr (.ptr 1) (.pr (.row 10) (.p (.pair kI (.pair kI .unit)))))),(.var 116 bF (.pr (.pr (.p ay) (.pr (.p kI) (.pr (.p kI) (.pr (.p kI) (.pr (.p kI) (.pr (.row 2) (.p .unit))))))) (.pr (.ptr 3) (.pr (.p kI) (.pr (.row 7) (.pr (.mp 8) (.pr (.row 9) (.p .unit)))))))),(.row 46 kS),(.var 120 bh (.pr (.p ay) (.pr (.row 4) (.pr (.mp 5) (.pr (.row 6) (.p .unit)))))),(.row 181 a9),(.map aa kI),(.row 3 kI),(.ob 140 .opq bH),(.map aF bk),(.row 475 aF),(.ob 126 b7 cb)],11⟩ fun d k=>g d.1.2.1 d.2.1.2.2 d.2.2.1.1.1 d.2.2.1.1.2.1 d.2.2.1.1.2.2.1 d.2.2.1.1.2.2.2.1 d.2.2.1.1.2.2.2.2.1 d.2.2.1.1.2.2.2.2.2.2 d.2.2.1.2.2.1 d.2.2.1.2.2.2.2.2.2 d.2.2.2.1 d.2.2.2.2.1.1 d.2.2.2.2.1.2.2.2.2 d.2.2.2.2.2.1 d.2.2.2.2.2.2.1 d.2.2.2.2.2.2.2.1 d.2.2.2.2.2.2.2.2.1 d.2.2.2.2.2.2.2.2.2.1 d.2.2.2.2.2.2.2.2.2.2.1 d.2.2.2.2.2.2.2.2.2.2.2.1 (fun r0 r1 r2 r3 r4 r5 r6 r7 r8 r9 r10 r11 r12 r13 aQ aM r16 r17 r18=>k (.tup []) [.var 111 cU (.pr (.ptr 1 []) (.pr (.row 10) (.p (.pair kI (.pair kI .unit)) r0))),.var 116 bF (.pr (.pr (.p ay r1) (.pr (.p kI r2) (.pr (.p kI r3) (.pr (.p kI r4) (.pr (.p kI r5) (.pr (.row 2) (.p .unit r6))))))) (.pr (.ptr 3 []) (.pr (.p kI r7) (.pr (.row 7) (.pr (.mp 8) (.pr (.row 9) (.p .unit r8))))))),.row 46 kS r9,.var 120 bh (.pr (.p ay r10) (.pr (.row 4) (.pr (.mp 5) (.pr (.row 6) (.p .unit r11))))),.row 181 a9 r12,.map aa kI r13,.row 3 kI aQ,.ob 140 .opq bH aM none,.map aF bk r16,.row 475 aF r17,.ob 126 b7 cb r18 none])
section
variable(g27:ft A)(g37:kX A)(n:Nat)
noncomputable def Ub:Env A:=Ev [(27,mu g27),(37,sK g37)] [(0,au (dl 47 [0,6,7,8]) (Ld (mB g27 g37 n)) n)] [] []
theorem aij:Lst A (Ub g27 g37 n) Tryz.f57 0 (dl 47 []) (Ld (BY g27 g37 n)) (Ld (mB g27 g37 n)) fun r d t8 wbb wba=>r (((),d.1.2.1,d.1.2.2.1,t8,d.1.2.2.2.2),(((),((),wbb)),d.2.2.1,d.2.2.2.1,d.2.2.2.2.1,d.2.2.2.2.2.1,d.2.2.2.2.2.2.1,d.2.2.2.2.2.2.2.1,d.2.2.2.2.2.2.2.2.1,d.2.2.2.2.2.2.2.2.2.1,d.2.2.2.2.2.2.2.2.2.2.1,wba,d.2.2.2.2.2.2.2.2.2.2.2.2)):=.mk
theorem aii:Qo A (Ub g27 g37 n) Tryz.f57 [] (vD (Lc g27 g37 n)):=.mk
end
theorem Lb(n:Nat):OK A 57 (vD (sM n)):=ak (aii _ _ n) Tryz.func57 (ax (aij _ _ n) ag) (oc (sF n)<|oc (BF n) oz)
def Bt(g:xB A):Entry A:=ai [] ⟨[(.p b8)],[],0⟩ fun d k=>g d.1.1 (fun r0=>k (.tup [.nilp,.p kI r0]) []) (fun r0 r1 r2 r3 r4 r5 r6 r7 r8 r9 r10 r11 r12 r13 aQ aM r16 r17 r18 aX=>k (.tup [.ptr 0 [],.p kI r0]) [.var 111 cU (.pr (.ptr 1 []) (.pr (.row 10) (.p (.pair kI (.pair kI .unit)) r1))),.var 116 bF (.pr (.pr (.p ay r2) (.pr (.p kI r3) (.pr (.p kI r4) (.pr (.p kI r5) (.pr (.p kI r6) (.pr (.row 2) (.p .unit r7))))))) (.pr (.ptr 3 []) (.pr (.p kI r8) (.pr (.row 7) (.pr (.mp 8) (.pr (.row 9) (.p .unit r9))))))),.row 46 kS r10,.var 120 bh (.pr (.p ay r11) (.pr (.row 4) (.pr (.mp 5) (.pr (.row 6) (.p .unit r12))))),.row 181 a9 r13,.map aa kI aQ,.row 3 kI aM,.ob 140 .opq bH r16 none,.map aF bk r17,.row 475 aF r18,.ob 126 b7 cb aX none])
theorem ahc(g54:xG A)(g55:xH A)(g56:iR A)(g57:iS A)(n:Nat):Qo A (Ev [(54,KW g54),(55,K4 g55),(56,BX g56),(57,vD g57)] [] [] []) Tryz.f29 [.own,.pure] (Bt (JT g54 g55 g56 g57 n)):=.mk
theorem TE(n:Nat):OK A 29 (Bt (vu n)):=ak (ahc _ _ _ _ n) Tryz.func29 ag (oc (ah8 n)<|oc (aic n)<|oc (Ua n)<|oc (Lb n) oz)
def Ll(g:lg A):Entry A:=ai [true] ⟨[(.ptr 0)],[(.var 260 mM (.pr (.ptr 1) (.p (.pair kI (.pair kI (.pair kI .unit)))))),(.var 308 iB (.pr (.row 2) (.pr (.row 3) (.pr (.mp 4) (.p .unit))))),(.row 163 bG),(.row 24 aa),(.map aa kI)],5⟩ fun d k=>g d.2.1.2 d.2.2.1.2.2.2 d.2.2.2.1 d.2.2.2.2.1 d.2.2.2.2.2.1 (fun r0 r1 r2 r3 r4=>k (.tup []) [.var 260 mM (.pr (.ptr 1 []) (.p (.pair kI (.pair kI (.pair kI .unit))) r0)),.var 308 iB (.pr (.row 2) (.pr (.row 3) (.pr (.mp 4) (.p .unit r1)))),.row 163 bG r2,.row 24 aa r3,.map aa kI r4])
theorem aiu(n:Nat):Qo A (Ev [] [] [] []) Tryz.f60 [] (Ll (Lm n)):=.mk
theorem ait(n:Nat):OK A 60 (Ll (B1 n)):=ak (aiu n) Tryz.func60 ag oz
def J9{R:Type}(F:Int→(fS A)→R→Int→Y1→aJ→Int→Int→Int→Int→Unit→Int→Unit→(List (List Int))→aJ→Unit→bR→bc→(List Int)→cn→cI→cB→dA→Option A)(k:KK A)(d:LSh.den ⟨[(0,(.ptr 0)),(24,(.p kI)),(0,(.p kI))],35,[(.var 111 cU (.pr (.ptr 1) (.pr (.row 10) (.p (.pair kI (.pair kI .unit)))))),(.var 116 bF (.pr (.pr (.p ay) (.pr (.p kI) (.pr (.p kI) (.pr (.p kI) (.pr (.p kI) (.pr (.row 2) (.p .unit))))))) (.pr (.ptr 3) (.pr (.p kI) (.pr (.row 7) (.pr (.mp 8) (.pr (.row 9) (.p .unit)))))))),(.row 46 kS),(.var 120 bh (.pr (.p ay) (.pr (.row 4) (.pr (.mp 5) (.pr (.row 6) (.p .unit)))))),(.row 181 a9),(.map aa kI),(.row 3 kI),(.ob 140 .opq bH),(.map aF bk),(.row 475 aF),(.ob 126 b7 cb)],11⟩)(t:R):Option A:=F d.1.2.1 (fun z0 z1 z2 z3 z4 z5 z6 z7 z8 z9 z10 z11 z12 z13 z14 z15 z16 z17 z18=>k (.exit 1) ⟨an 62 [],[.var 111 cU (.pr (.ptr 1 []) (.pr (.row 10) (.p (.pair kI (.pair kI .unit)) z0))),.var 116 bF (.pr (.pr (.p ay z1) (.pr (.p kI z2) (.pr (.p kI z3) (.pr (.p kI z4) (.pr (.p kI z5) (.pr (.row 2) (.p .unit z6))))))) (.pr (.ptr 3 []) (.pr (.p kI z7) (.pr (.row 7) (.pr (.mp 8) (.pr (.row 9) (.p .unit z8))))))),.row 46 kS z9,.var 120 bh (.pr (.p ay z10) (.pr (.row 4) (.pr (.mp 5) (.pr (.row 6) (.p .unit z11))))),.row 181 a9 z12,.map aa kI z13,.row 3 kI z14,.ob 140 .opq bH z15 none,.map aF bk z16,.row 475 aF z17,.ob 126 b7 cb z18 none],11⟩) t d.1.2.2.1 d.2.1.2.2 d.2.2.1.1.1 d.2.2.1.1.2.1 d.2.2.1.1.2.2.1 d.2.2.1.1.2.2.2.1 d.2.2.1.1.2.2.2.2.1 d.2.2.1.1.2.2.2.2.2.2 d.2.2.1.2.2.1 d.2.2.1.2.2.2.2.2.2 d.2.2.2.1 d.2.2.2.2.1.1 d.2.2.2.2.1.2.2.2.2 d.2.2.2.2.2.1 d.2.2.2.2.2.2.1 d.2.2.2.2.2.2.2.1 d.2.2.2.2.2.2.2.2.1 d.2.2.2.2.2.2.2.2.2.1 d.2.2.2.2.2.2.2.2.2.2.1 d.2.2.2.2.2.2.2.2.2.2.2.1
def Kd{R:Type}(F:Int→Int→Int→Y1→aJ→Int→Int→Int→Int→Unit→Int→Unit→(List (List Int))→aJ→Unit→bR→bc→(List Int)→cn→cI→cB→(rI A)→R→Int→dA→Option A)(k:KK A)(d:LSh.den ⟨[(0,(.ptr 0)),(24,(.p kI)),(0,(.p kI)),(4,(.row 10)),(0,(.p kI)),(0,(.p kI))],28,[(.var 111 cU (.pr (.ptr 1) (.pr (.row 10) (.p (.pair kI (.pair kI .unit)))))),(.var 116 bF (.pr (.pr (.p ay) (.pr (.p kI) (.pr (.p kI) (.pr (.p kI) (.pr (.p kI) (.pr (.row 2) (.p .unit))))))) (.pr (.ptr 3) (.pr (.p kI) (.pr (.row 7) (.pr (.mp 8) (.pr (.row 9) (.p .unit)))))))),(.row 46 kS),(.var 120 bh (.pr (.p ay) (.pr (.row 4) (.pr (.mp 5) (.pr (.row 6) (.p .unit)))))),(.row 181 a9),(.map aa kI),(.row 3 kI),(.ob 140 .opq bH),(.map aF bk),(.row 475 aF),(.ob 126 b7 cb)],11⟩)(t:R):Option A:=F d.1.2.1 d.1.2.2.1 d.1.2.2.2.2.1 d.2.1.2.2 d.2.2.1.1.1 d.2.2.1.1.2.1 d.2.2.1.1.2.2.1 d.2.2.1.1.2.2.2.1 d.2.2.1.1.2.2.2.2.1 d.2.2.1.1.2.2.2.2.2.2 d.2.2.1.2.2.1 d.2.2.1.2.2.2.2.2.2 d.2.2.2.1 d.2.2.2.2.1.1 d.2.2.2.2.1.2.2.2.2 d.2.2.2.2.2.1 d.2.2.2.2.2.2.1 d.2.2.2.2.2.2.2.1 d.2.2.2.2.2.2.2.2.1 d.2.2.2.2.2.2.2.2.2.1 d.2.2.2.2.2.2.2.2.2.2.1 (fun z20=>k (.exit 3) ⟨(.ptr 0 [])::an 24 ((.p kI d.1.2.1)::(.p kI d.1.2.2.1)::an 35 []),[.var 111 cU (.pr (.ptr 1 []) (.pr (.row 10) (.p (.pair kI (.pair kI .unit)) d.2.1.2.2))),.var 116 bF (.pr (.pr (.p ay d.2.2.1.1.1) (.pr (.p kI d.2.2.1.1.2.1) (.pr (.p kI d.2.2.1.1.2.2.1) (.pr (.p kI d.2.2.1.1.2.2.2.1) (.pr (.p kI d.2.2.1.1.2.2.2.2.1) (.pr (.row 2) (.p .unit d.2.2.1.1.2.2.2.2.2.2))))))) (.pr (.ptr 3 []) (.pr (.p kI d.2.2.1.2.2.1) (.pr (.row 7) (.pr (.mp 8) (.pr (.row 9) (.p .unit d.2.2.1.2.2.2.2.2.2))))))),.row 46 kS d.2.2.2.1,.var 120 bh (.pr (.p ay d.2.2.2.2.1.1) (.pr (.row 4) (.pr (.mp 5) (.pr (.row 6) (.p .unit d.2.2.2.2.1.2.2.2.2))))),.row 181 a9 d.2.2.2.2.2.1,.map aa kI d.2.2.2.2.2.2.1,.row 3 kI d.2.2.2.2.2.2.2.1,.ob 140 .opq bH d.2.2.2.2.2.2.2.2.1 none,.map aF bk d.2.2.2.2.2.2.2.2.2.1,.row 475 aF d.2.2.2.2.2.2.2.2.2.2.1,.ob 126 b7 cb z20 none],11⟩) t d.1.2.2.2.2.2.1 d.2.2.2.2.2.2.2.2.2.2.2.1
def BA(g:xE A):Entry A:=ai [true,false] ⟨[(.ptr 0),(.p kI)],[(.var 111 cU (.pr (.ptr 1) (.pr (.row 10) (.p (.pair kI (.pair kI .unit)))))),(.var 116 bF (.pr (.pr (.p ay) (.pr (.p kI) (.pr (.p kI) (.pr (.p kI) (.pr (.p kI) (.pr (.row 2) (.p .unit))))))) (.pr (.ptr 3) (.pr (.p kI) (.pr (.row 7) (.pr (.mp 8) (.pr (.row 9) (.p .unit)))))))),(.row 46 kS),(.var 120 bh (.pr (.p ay) (.pr (.row 4) (.pr (.mp 5) (.pr (.row 6) (.p .unit)))))),(.row 181 a9),(.map aa kI),(.row 3 kI),(.ob 140 .opq bH),(.map aF bk),(.row 475 aF),(.ob 126 b7 cb)],11⟩ fun d k=>g d.1.2.1 d.2.1.2.2 d.2.2.1.1.1 d.2.2.1.1.2.1 d.2.2.1.1.2.2.1 d.2.2.1.1.2.2.2.1 d.2.2.1.1.2.2.2.2.1 d.2.2.1.1.2.2.2.2.2.2 d.2.2.1.2.2.1 d.2.2.1.2.2.2.2.2.2 d.2.2.2.1 d.2.2.2.2.1.1 d.2.2.2.2.1.2.2.2.2 d.2.2.2.2.2.1 d.2.2.2.2.2.2.1 d.2.2.2.2.2.2.2.1 d.2.2.2.2.2.2.2.2.1 d.2.2.2.2.2.2.2.2.2.1 d.2.2.2.2.2.2.2.2.2.2.1 d.2.2.2.2.2.2.2.2.2.2.2.1 (fun r0 r1 r2 r3 r4 r5 r6 r7 r8 r9 r10 r11 r12 r13 aQ aM r16 r17 r18 aX=>k (.p kI r0) [.var 111 cU (.pr (.ptr 1 []) (.pr (.row 10) (.p (.pair kI (.pair kI .unit)) r1))),.var 116 bF (.pr (.pr (.p ay r2) (.pr (.p kI r3) (.pr (.p kI r4) (.pr (.p kI r5) (.pr (.p kI r6) (.pr (.row 2) (.p .unit r7))))))) (.pr (.ptr 3 []) (.pr (.p kI r8) (.pr (.row 7) (.pr (.mp 8) (.pr (.row 9) (.p .unit r9))))))),.row 46 kS r10,.var 120 bh (.pr (.p ay r11) (.pr (.row 4) (.pr (.mp 5) (.pr (.row 6) (.p .unit r12))))),.row 181 a9 r13,.map aa kI aQ,.row 3 kI aM,.ob 140 .opq bH r16 none,.map aF bk r17,.row 475 aF r18,.ob 126 b7 cb aX none])
section
variable(g27:ft A)(g60:lg A)(g56:iR A)(g57:iS A)(n:Nat)
noncomputable def J7:Env A:=Ev [(27,mu g27),(60,Ll g60),(56,BX g56),(57,vD g57)] [(0,au (dl 62 [0,25,26]) (J9 (sI g27 g60 g56 g57 n)) n),(1,au (dl 62 [0,25,26,31,32,33]) (Kd (po g27 g60 g56 g57 n)) n)] [] []
theorem ahs:Lst A (J7 g27 g60 g56 g57 n) Tryz.f32 1 (dl 62 [0,25,26]) (Kd (Bz g27 g60 g56 g57 n)) (Kd (po g27 g60 g56 g57 n)) fun r d t33 t31=>r (((),d.1.2.1,d.1.2.2.1,(),d.1.2.2.2.2.1,t33,d.1.2.2.2.2.2.2),(d.2.1,d.2.2.1,d.2.2.2.1,d.2.2.2.2.1,d.2.2.2.2.2.1,d.2.2.2.2.2.2.1,d.2.2.2.2.2.2.2.1,d.2.2.2.2.2.2.2.2.1,d.2.2.2.2.2.2.2.2.2.1,d.2.2.2.2.2.2.2.2.2.2.1,t31,d.2.2.2.2.2.2.2.2.2.2.2.2)):=.mk
theorem ahr:Lst A (J7 g27 g60 g56 g57 n) Tryz.f32 0 (dl 62 []) (J9 (By g27 g60 g56 g57 n)) (J9 (sI g27 g60 g56 g57 n)) fun r d t26 wbb waaa waaba waabba waabbba waabbbba waabbbbbb wabba wabbbbbb waabbbbba wabaa wababbbb wababa wababba wababbba wabbba wabbbba wabbbbba wba=>r (((),d.1.2.1,t26,d.1.2.2.2),(((),((),wbb)),((waaa,(waaba,(waabba,(waabbba,(waabbbba,((),waabbbbbb)))))),((),(wabba,((),((),((),wabbbbbb)))))),waabbbbba,(wabaa,((),((),((),wababbbb)))),wababa,wababba,wababbba,wabbba,wabbbba,wabbbbba,wba,d.2.2.2.2.2.2.2.2.2.2.2.2)):=.mk
theorem ahq:Qo A (J7 g27 g60 g56 g57 n) Tryz.f32 [.pure] (BA (J8 g27 g60 g56 g57 n)):=.mk
end
theorem TO(n:Nat):OK A 32 (BA (BB n)):=ak (ahq _ _ _ _ n) Tryz.func32 (ax (ahr _ _ _ _ n)<|ax (ahs _ _ _ _ n) ag) (oc (sF n)<|oc (ait n)<|oc (Ua n)<|oc (Lb n) oz)
def BH(g:N5 A):Entry A:=cu [true] ⟨[(.ptr 0)],[(.var 212 eu (.pr (.p kI) (.pr (.p kI) (.pr (.p aP) (.pr (.p kI) (.pr (.p .bool) (.pr (.mp 1) (.p (.pair kI (.pair kI (.pair kI (.pair .bool .unit)))))))))))),(.map aP kI)],2⟩ fun d k=>g d.2.1.1 d.2.1.2.1 d.2.1.2.2.1 d.2.1.2.2.2.1 d.2.1.2.2.2.2.1 d.2.1.2.2.2.2.2.2 d.2.2.1 (fun r0=>k (.p .bool r0) [])
theorem ahC(n:Nat):Qr A (Ev [] [] [] []) Tryz.f41 [.pure] (BH (TV n)):=.mk
theorem TU(n:Nat):OK A 41 (BH (Km n)):=cR (ahC n) Tryz.func41 ag oz
def Kn(g:N6 A):Entry A:=cu [true] ⟨[(.ptr 0)],[(.var 212 eu (.pr (.p kI) (.pr (.p kI) (.pr (.p aP) (.pr (.p kI) (.pr (.p .bool) (.pr (.mp 1) (.p (.pair kI (.pair kI (.pair kI (.pair .bool .unit)))))))))))),(.map aP kI)],2⟩ fun d k=>g d.2.1.1 d.2.1.2.1 d.2.1.2.2.1 d.2.1.2.2.2.1 d.2.1.2.2.2.2.1 d.2.1.2.2.2.2.2.2 d.2.2.1 (fun r0=>k (.p kI r0) [])
theorem ahE(n:Nat):Qr A (Ev [] [] [] []) Tryz.f42 [.pure] (Kn (TX n)):=.mk
theorem ahD(n:Nat):OK A 42 (Kn (TW n)):=cR (ahE n) Tryz.func42 ag oz
def Ut(g:N7 A):Entry A:=ai [] ⟨[],[],0⟩ fun d k=>g (fun r0=>k (.p ay r0) [])
theorem ai0(n:Nat):Qo A (Ev [] [] [] []) Tryz.f86 [.pure] (Ut (Uv n)):=.mk
theorem aiZ(n:Nat):OK A 86 (Ut (Uu n)):=ak (ai0 n) Tryz.func86 ag oz
end Go.Ev
namespace Go.Ev
open Go.Proofs Go.RowKit
variable{A:Type}
noncomputable def ah2:Code:=fU [1,0] (eh Tryz.f52)
def al6:Code→Array Oper
 | .region _ ops _=>ops
 | _=>#[]
noncomputable def KR:Array Oper:=al6 ah2
def Vp:cK.den:=Kind.zero cK
def KS(r:ay.den)(a:Int):St:=⟨[.any,.any,.ptr 0 [],.p ay r,.p (.int .i64) a,.any,.any,.any,.any,.p (.sl (.sl (.int .u8))) [[97],[98]],.any],[.var 34 cK (.p cK Vp)],0⟩
noncomputable def vB:Env A:=⟨aN,aw,[],[],[],[],bI,obs⟩
theorem KQ:aO Tryz.prog (vB (A:=A)):=bz rfl bA
theorem T5:cS Tryz.prog (vB (A:=A)):=aj.env rfl rfl aj.nil
theorem ah3(r:ay.den)(a:Int)(k:AV→List Blk→Option A):gg vB KR (KR.toList.drop 7) (KS r a) [] (fun s' _=>bY vB 0 .ret s' (nR vB Tryz.f52 [.pure] k))=k (.p cK (r,(4,(16,(5,(a,([[97],[98]],()))))))) []:=by kernel_rfl
theorem pE{ops:Array Oper}{rest:List Oper}{o:Oper}{a:Act}{w w':World}{Q:Exit→Act→World→Prop}{v:Value}(hg:o.guard=none)(hr:(execOp a.eval o).run Tryz.prog w=.ok (.value v) w')(h:wpList Tryz.prog ops Q rest (a.put o.dst v) w'):wpList Tryz.prog ops Q (o::rest) a w:=
 wpList_plain hg fun K hK=>by unfold Oper.wp;rw[hr];exact hK _ _ h
theorem T2(w:World)(a:Act)(d:Option Tmp)(v:Value)(b:Int)(pos:String)(af:Array Edge)(hv:v=.int .u8 b):(execOp a.eval { dst:=d,op:=.buildSlice 46 1 #[(0,.const v)],type:=46,pos:=pos,after:=af,guard:=none }).run Tryz.prog w=.ok (.value (.slice (some ⟨w.heap.size,0,none⟩) 1 1)) (w.alloc (.cells #[v] 5)):=by
 subst hv
 simp[execOp,go_sem,Act.eval]
theorem T3(w:World)(a:Act)(d:Option Tmp)(x:Tmp)(C:Array Value)(n c:Nat)(pos:String)(af:Array Edge)(hx:a.eval (.tmp x)=.slice (some ⟨w.heap.size,0,none⟩) n c):(execOp a.eval { dst:=d,op:=.convert 46 46 (.tmp x),type:=46,pos:=pos,after:=af,guard:=none }).run Tryz.prog (w.alloc (.cells C 5))=.ok (.value (.slice (some ⟨w.heap.size,0,none⟩) n c)) (w.alloc (.cells C 5 (C.size,C.size+1))):=by
 have h:=Lib.run_convert_bytes_const (P:=Tryz.prog) w 46 5 C n c (by kernel_rfl) (by kernel_rfl)
 simp only[execOp,hx,Sem.run_bind,h,Result.andThen_ok,Sem.run_pure]
theorem ah5(n:Nat)(x:Int)(X:Cx)(hX:X.hp=[])(ok:Ok X)(glo:d7 aw X)(r:ay.den)(h86:m9 Tryz.prog aw 86 [] [] (.p ay r) []):Calls Tryz.prog 52 #[.int .i64 x] X.w fun e w'=>∃ u,e=.returned u∧∃ Y:Cx,Y.w=w'∧Y.hp=[]∧RS Y (.p cK (r,(4,(16,(5,(x,([[97],[98]],()))))))) u∧Ok Y∧WEvo X Y∧PEvo 0 X Y:=by
 obtain⟨z,hz,hzs,hzr⟩:=(KQ (A:=Unit)).zero (t:=34) (i:=⟨cK,(.struct [31,3,3,3,3,32]),208,false⟩) rfl X.w X
 obtain⟨ok1,W1⟩:=Ph X ok hX (.cells z.cells 34)
 have hsz1:(X.w.alloc (.cells z.cells 34)).heap.size=X.w.heap.size+1:=by simp
 have hcl:=D3 (MuLone.run_callFunc_enter (P:=Tryz.prog) Tryz.func86 (by kernel_rfl) rfl) (h86 ⟨X.ρ,[],X.F,X.w.alloc (.cells z.cells 34)⟩ #[] rfl ok1 (glo.evo W1 ok.fo) .nil)
 refine calls_of_wp Tryz.func52 rfl ?_
 simp only[Tryz.ntmps52,List.size_toArray,List.length_cons,List.length_nil,Nat.reduceAdd,Nat.reduceSub,Array.replicate_succ,Array.replicate_zero,List.push_toArray,List.append_toArray,List.nil_append,List.cons_append]
 refine wp_seq (wp_region_list (pE rfl (v:=.pointer (some ⟨X.w.heap.size,0,none⟩)) (w':=X.w.alloc (.cells z.cells 34)) (by simp[execOp,Instr.alloc,hz,newVar,newRow]) ?_))
 show Exit.then _ _ _ _ _
 refine wp_seq (wp_region_list (wpList_plain rfl fun K hK=>?_))
 unfold Oper.wp
 have h0:∀ a:Act,(execOp a.eval { dst:=some 3,op:=.call { callee:=.value (.func 86),args:=#[],argTypes:=#[] },type:=31,pos:= "law.go:22",after:=#[],guard:=none }).run Tryz.prog (X.w.alloc (.cells z.cells 34))=.ok (.enter 86 #[]) (X.w.alloc (.cells z.cells 34)):=fun a=>by
  have:=MuLone.run_callFunc_enter (P:=Tryz.prog) Tryz.func86 (by kernel_rfl) rfl
  simp[execOp,go_sem,resolve,invoke,Act.eval,this]
 rw[h0]
 refine hcl.mono ?_
 rintro e w2 ⟨u,rfl,Y,rfl,hY1,hY2,hY3,hY4,_⟩
 refine hK _ _ ?_
 clear hK K h0 hcl
 refine pE rfl (v:=.int .i64 x) (w':=Y.w) (by simp[execOp,Act.eval,Act.put]) ?_
 refine pE rfl (T2 Y.w _ _ _ 97 _ _ rfl) ?_
 refine pE rfl (T3 Y.w _ _ _ _ 1 1 _ _ (by simp[Act.eval,Act.put])) ?_
 refine pE rfl (T2 _ _ _ _ 98 _ _ rfl) ?_
 refine pE rfl (T3 _ _ _ _ _ 1 1 _ _ (by simp[Act.eval,Act.put])) ?_
 simp only[World.size_alloc,Act.put,List.size_toArray,List.length_cons,List.length_nil,Nat.zero_add,Nat.reduceAdd,Array.setIfInBounds,Array.set]
 simp
 obtain⟨W4,hW4⟩:∃ W4,((Y.w.alloc (.cells #[.int .u8 97] 5 (1,2))).alloc (.cells #[.int .u8 98] 5 (1,2)))=W4:=⟨_,rfl⟩
 rw[hW4]
 have hs4:W4.heap.size=Y.w.heap.size+2:=by rw[← hW4];simp
 refine pE rfl (v:=.slice (some ⟨W4.heap.size,0,none⟩) 2 2) (w':=W4.alloc (.cells #[.slice (some ⟨Y.w.heap.size,0,none⟩) 1 1,.slice (some ⟨Y.w.heap.size+1,0,none⟩) 1 1] 46)) (by simp[execOp,go_sem,Act.eval]) ?_
 simp only[Act.put]
 simp
 obtain⟨W5,hW5⟩:∃ W5,W4.alloc (.cells #[.slice (some ⟨Y.w.heap.size,0,none⟩) 1 1,.slice (some ⟨Y.w.heap.size+1,0,none⟩) 1 1] 46)=W5:=⟨_,rfl⟩
 rw[hW5]
 have hs5:W5.heap.size=Y.w.heap.size+3:=by rw[← hW5];simp[hs4]
 have hs2:X.w.heap.size+1≤Y.w.heap.size:=by have:=hY4.size;simp only[hsz1] at this;exact this
 have b1:W5.heap[Y.w.heap.size]?=some (.cells #[.int .u8 97] 5 (1,2)):=by
  rw[← hW5,Below.heap_alloc _ _ _ (by omega),← hW4,Below.heap_alloc _ _ _ (by simp)]
  exact World.alloc_heap_new _ _
 have b2:W5.heap[Y.w.heap.size+1]?=some (.cells #[.int .u8 98] 5 (1,2)):=by
  rw[← hW5,Below.heap_alloc _ _ _ (by omega),← hW4]
  have:=World.alloc_heap_new (Y.w.alloc (.cells #[.int .u8 97] 5 (1,2))) (.cells #[.int .u8 98] 5 (1,2))
  rwa [World.size_alloc] at this
 have b3:W5.heap[W4.heap.size]?=some (.cells #[.slice (some ⟨Y.w.heap.size,0,none⟩) 1 1,.slice (some ⟨Y.w.heap.size+1,0,none⟩) 1 1] 46 (0,0)):=by
  rw[← hW5];exact World.alloc_heap_new _ _
 have keepY:∀ b,b<Y.w.heap.size→W5.heap[b]?=Y.w.heap[b]?:=fun b hb=>by
  rw[← hW5,Below.heap_alloc _ _ _ (by omega),← hW4,Below.heap_alloc _ _ _ (by simp;omega),Below.heap_alloc _ _ _ hb]
 have hno1:∀ b,¬ (⟨X.ρ,[],X.F,X.w.alloc (.cells z.cells 34)⟩:Cx).Own b:=fun b ⟨_,_,g,_⟩=>by simp at g
 have keep1:∀ b,b<X.w.heap.size+1→W5.heap[b]?=(X.w.alloc (.cells z.cells 34)).heap[b]?:=fun b hb=>(keepY b (by omega)).trans (hY4.keep b (by simp;omega) (hno1 b))
 have c0:W5.heap[X.w.heap.size]?=some (.cells z.cells 34 (0,0)):=(keep1 _ (by omega)).trans (World.alloc_heap_new _ _)
 have keepX:∀ b,b<X.w.heap.size→W5.heap[b]?=X.w.heap[b]?:=fun b hb=>(keep1 b (by omega)).trans (Below.heap_alloc _ _ _ hb)
 have hF:∀ b,Y.F b→X.F b∨X.w.heap.size+1≤b:=fun b hb=>by
  rcases hY4.fnew b hb with h|h|h
  ·exact .inl h
  ·exact absurd h (hno1 b)
  ·exact .inr (by simp only[hsz1] at h;exact h)
 have hFs:∀ b,Y.F b→b<Y.w.heap.size:=fun b hb=>(hY3.fo b hb).1
 obtain⟨X7,hX7⟩:∃ X7:Cx,X7=⟨fun i=>if i=0 then some X.w.heap.size else none,[.var 34 cK (.p cK Vp)],fun b=>Y.F b∨(Y.w.heap.size≤b∧b<Y.w.heap.size+3),W5⟩:=⟨_,rfl⟩
 have hown:∀ b,X7.Own b→b=X.w.heap.size:=fun b ⟨id,bl,h1,h2⟩=>by
  subst hX7
  match id,h1 with
  | 0,h1=>
   cases h1
   have h2:some X.w.heap.size=some b:=h2
   exact(Option.some.inj h2).symm
 have hF7:∀ b,X7.F b→b<W5.heap.size∧b≠X.w.heap.size∧(X.F b∨X.w.heap.size+1≤b):=fun b hb=>by
  subst hX7
  rcases hb with hb|hb
  ·have h1:=hFs b hb
   refine⟨by omega,fun e=>?_,hF b hb⟩
   rcases hF b hb with h|h
   ·have:=(ok.fo b h).1;omega
   ·omega
  ·exact⟨by omega,by omega,.inr (by omega)⟩
 have WX:WEvo X X7:=by
  refine⟨?_,?_,?_,?_,fun b c e f h=>⟨c,?_,rfl⟩,fun b hb _=>?_,fun b hb ho=>absurd (hown b ho) (by omega),fun b hb=>?_,fun b hb=>?_⟩
  ·subst hX7;rw[← hW5,← hW4];exact hY4.os.trans W1.os
  ·subst hX7;rw[← hW5,← hW4];exact hY4.tape.trans W1.tape
  ·subst hX7;rw[← hW5,← hW4];exact hY4.output.trans W1.output
  ·subst hX7;show X.w.heap.size≤W5.heap.size;omega
  ·subst hX7;exact(keepX b (Array.getElem?_eq_some_iff.1 h).1).trans h
  ·subst hX7;exact keepX b hb
  ·subst hX7;exact .inl (hY4.fmono b hb)
  ·rcases(hF7 b hb).2.2 with h|h
   ·exact .inl h
   ·exact .inr (.inr (by omega))
 have rpY:∀ {K:Kind} {y:K.den} {cs:List Value},RP Y.F Y.w K y cs→RP X7.F X7.w K y cs:=fun h=>by
  subst hX7;exact h.mono (fun b hb=>.inl hb) fun b hb=>keepY b (hFs b hb)
 have ok7:Ok X7:=by
  subst hX7
  refine⟨fun id b hb=>?_,fun id id' b c1 c2 h1 h2 _ _=>?_,fun b hb=>⟨(hF7 b hb).1,fun h=>(hF7 b hb).2.1 (hown b h)⟩⟩
  ·match id,hb with
   | 0,hb=>
    cases hb
    exact⟨by simp[AV.fits],_,z.cells.toList,rfl,by simpa using c0,hzr.mono (fun b hb=>.inl (hY4.fmono b hb)) fun b hb=>keepX b (ok.fo b hb).1⟩
  ·match id,id',h1,h2 with
   | 0,0,_,_=>rfl
 have rs9:RS X7 (.p (.sl (.sl (.int .u8))) [[97],[98]]) (.slice (some ⟨W4.heap.size,0,none⟩) 2 2):=by
  have one:∀ (b:Nat) (c:Int),X7.F b→X7.w.heap[b]?=some (.cells #[.int .u8 c] 5 (1,2))→RP X7.F X7.w (.sl (.int .u8)) [c] [.slice (some ⟨b,0,none⟩) 1 1]:=fun b c hb hc=>
   ⟨_,1,rfl,by simp,fun _=>⟨⟨b,0,none⟩,[[.int .u8 c]],rfl,hb,.cons rfl .nil,fun j v hj=>by
    match j,hj with
    | 0,hj=>cases hj;simp[World.cell?,Addr.add,hc]
    | j+1,hj=>simp at hj⟩⟩
  refine .inr ⟨_,⟨_,2,rfl,by simp,fun _=>⟨⟨W4.heap.size,0,none⟩,[[_],[_]],rfl,?_,.cons (one Y.w.heap.size 97 ?_ ?_) (.cons (one (Y.w.heap.size+1) 98 ?_ ?_) .nil),fun j v hj=>?_⟩⟩,.inr ⟨rfl,rfl⟩⟩
  ·subst hX7;exact .inr ⟨by simp only[hs4];omega,by simp only[hs4];omega⟩
  ·subst hX7;exact .inr (by omega)
  ·subst hX7;exact b1
  ·subst hX7;exact .inr (by omega)
  ·subst hX7;exact b2
  ·subst hX7
   match j,hj with
   | 0,hj=>cases hj;simp[World.cell?,Addr.add,b3]
   | 1,hj=>cases hj;simp[World.cell?,Addr.add,b3]
   | j+2,hj=>simp at hj
 obtain⟨ps,s',hch,hk⟩:=CR KQ T5 (ah3 r x (fun r hp=>some (r,hp)))
 obtain⟨r',hp',e1,Wd⟩:=Eg KQ T5 follows (rm:=[.pure]) (fn:=Tryz.f52) (j:=0) (c:=.ret) (px:=fun _=>True) (fun q hq=>by simp[aD] at hq) hk (fun _ _ h=>⟨trivial,h⟩)
 cases e1
 have R:Rel aw X7 (KS r x) { tmps:=#[.int .i64 x,undef,.pointer (some ⟨X.w.heap.size,0,none⟩),u,.int .i64 x,.slice (some ⟨Y.w.heap.size,0,none⟩) 1 1,.slice (some ⟨Y.w.heap.size,0,none⟩) 1 1,.slice (some ⟨Y.w.heap.size+1,0,none⟩) 1 1,.slice (some ⟨Y.w.heap.size+1,0,none⟩) 1 1,.slice (some ⟨W4.heap.size,0,none⟩) 2 2,undef],defers:=[] }:=
  ⟨glo.evo WX ok.fo,rfl,rfl,fun i av hi=>by
   match i,hi with
   | 0,h|1,h|5,h|6,h|7,h|8,h|10,h=>cases h;exact⟨_,rfl,RS.any _⟩
   | 2,h=>cases h;exact⟨_,rfl,.inr ⟨_,⟨_,rfl,by subst hX7;exact⟨_,0,cK,rfl,cL _,rfl⟩⟩,.inr ⟨rfl,rfl⟩⟩⟩
   | 3,h=>
    cases h
    obtain⟨cs,h1,h2⟩:=(hY2.to0 (by simp)).data
    exact⟨_,rfl,.inr ⟨cs,rpY h1,h2⟩⟩
   | 4,h=>cases h;exact⟨_,rfl,RS.int.2 rfl⟩
   | 9,h=>cases h;exact⟨_,rfl,rs9⟩
   | n+11,h=>simp[KS] at h,by subst hX7;rfl,ok7⟩
 have hw:W5=X7.w:=by subst hX7;rfl
 rw[hw]
 have fin:=yv hch (i:=7) rfl R (Q:=Exit.then (Code.wp Tryz.prog Code.ret (bodyPost Tryz.prog Tryz.f52 fun e w'=>∃ u,e=.returned u∧∃ Y:Cx,Y.w=w'∧Y.hp=[]∧RS Y (.p cK (r,(4,(16,(5,(x,([[97],[98]],()))))))) u∧Ok Y∧WEvo X Y∧PEvo 0 X Y)) (bodyPost Tryz.prog Tryz.f52 fun e w'=>∃ u,e=.returned u∧∃ Y:Cx,Y.w=w'∧Y.hp=[]∧RS Y (.p cK (r,(4,(16,(5,(x,([[97],[98]],()))))))) u∧Ok Y∧WEvo X Y∧PEvo 0 X Y)) fun Z a' hZ WZ HZ=>by
  refine wp_mono (Wd Z a' hZ) fun e a w h=>?_
  obtain⟨_,h⟩:=h
  have key:∀ (e:Ending) (w:World),(∃ u,e=.returned u∧∃ Y:Cx,Y.w=w∧Y.hp=[]∧RS Y (.p cK (r,(4,(16,(5,(x,([[97],[98]],()))))))) u∧Ok Y∧WEvo Z Y∧PEvo s'.m Z Y)→∃ u,e=.returned u∧∃ Y:Cx,Y.w=w∧Y.hp=[]∧RS Y (.p cK (r,(4,(16,(5,(x,([[97],[98]],()))))))) u∧Ok Y∧WEvo X Y∧PEvo 0 X Y:=fun e w ⟨u,he,V,h1,h2,h3,h4,h5,_⟩=>
   ⟨u,he,V,h1,h2,h3,h4,WX.trans (WZ.trans h5),⟨fun _ _ h=>absurd h (by omega),fun _ _ h=>absurd h (by omega)⟩⟩
  cases e with
  | normal=>obtain⟨h1,v,h2,h3⟩:=h;exact⟨h1,v,h2,key _ _ h3⟩
  | ret=>obtain⟨h1,v,h2,h3⟩:=h;exact⟨h1,v,h2,key _ _ h3⟩
  | panic ch=>obtain⟨h1,h3⟩:=h;exact⟨h1,key _ _ h3⟩
  | exit id=>exact h.elim
  | goto l=>exact h.elim
  | outgrown=>exact key _ _ h
 rw[wpOps_eq_wpList (KR.toList.drop 7) 7 (fun j=>by simp)] at fin
 exact fin
def T6(n:Nat)(x0:Int)(k:cK.den→Option A):Option A:=Uu n fun r=>k (r,(4,(16,(5,(x0,([[97],[98]],()))))))
def T4(g:Int→(cK.den→Option A)→Option A):Entry A:=jo fun args k=>nD args (.int .i64) fun a0=>g a0 (fun r0=>k (.p cK r0) [])
theorem ah4(n:Nat):aI Tryz.prog aw 52 (T4 (A:=A) (T6 n)):=fun args hp0 k out hr=>by
 cases hp0 with
 | cons b r=>cases hr
 | nil=>
 obtain⟨x,rfl,hr⟩:=ua hr
 obtain⟨r,hp,h1,h2,_⟩:=aiZ n [] [] (fun r hp=>match hp with|[]=>eP r ay fun r=>k (.p cK (r,(4,(16,(5,(x,([[97],[98]],()))))))) []|_=>none) out (by
  exact hr)
 match hp,h1,h2 with
 | [],h1,h2=>
  obtain⟨y,rfl,h3⟩:=rP h1
  refine⟨_,_,h3,fun X vals hX ok hglo hargs=>?_,fun h=>nomatch h⟩
  obtain⟨v,hv,hrv⟩:=hargs.get (i:=0) (a:=.p (.int .i64) x) rfl
  have hvals:vals=#[v]:=by
   have hl:=hargs.length
   apply Array.toList_inj.1
   match hm:vals.toList,hl with
   | [u],_=>rw[hm] at hv;simpa using hv
  subst hvals
  obtain rfl:=RS.int.1 hrv
  exact⟨_,X.w,MuLone.run_callFunc_enter Tryz.func52 (by kernel_rfl) rfl _ X.w,.inr ⟨rfl,ah5 n x X hX ok hglo y h2⟩⟩
end Go.Ev
namespace Go.Ev
open Go.Proofs
variable{A:Type}
def Co(g:G9 A):Entry A:=cu [true] ⟨[(.ptr 0)],[(.var 111 cU (.pr (.ptr 1) (.pr (.row 10) (.p (.pair kI (.pair kI .unit)))))),(.var 116 bF (.pr (.pr (.p ay) (.pr (.p kI) (.pr (.p kI) (.pr (.p kI) (.pr (.p kI) (.pr (.row 2) (.p .unit))))))) (.pr (.ptr 3) (.pr (.p kI) (.pr (.row 7) (.pr (.mp 8) (.pr (.row 9) (.p .unit)))))))),(.row 46 kS),(.var 120 bh (.pr (.p ay) (.pr (.row 4) (.pr (.mp 5) (.pr (.row 6) (.p .unit)))))),(.row 181 a9),(.map aa kI),(.row 3 kI),(.ob 140 .opq bH),(.map aF bk),(.row 475 aF),(.ob 126 b7 cb)],11⟩ fun d k=>g d.2.1.2.2 d.2.2.1.1.1 d.2.2.1.1.2.1 d.2.2.1.1.2.2.1 d.2.2.1.1.2.2.2.1 d.2.2.1.1.2.2.2.2.1 d.2.2.1.1.2.2.2.2.2.2 d.2.2.1.2.2.1 d.2.2.1.2.2.2.2.2.2 d.2.2.2.1 d.2.2.2.2.1.1 d.2.2.2.2.1.2.2.2.2 d.2.2.2.2.2.1 d.2.2.2.2.2.2.1 d.2.2.2.2.2.2.2.1 d.2.2.2.2.2.2.2.2.1 d.2.2.2.2.2.2.2.2.2.1 d.2.2.2.2.2.2.2.2.2.2.1 d.2.2.2.2.2.2.2.2.2.2.2.1 (k (.ptr 1 []) [])
theorem ajs(n:Nat):Qr A (Ev [] [] [] []) Tryz.f9 [.own] (Co (UF n)):=.mk
theorem UE(n:Nat):OK A 9 (Co (Mk n)):=cR (ajs n) Tryz.func9 ag oz
def Mh(g:N8 A):Entry A:=cu [true,false] ⟨[(.ptr 0),(.p kI)],[(.var 139 dR (.pr (.row 1) (.p .unit))),(.row 193 cg)],2⟩ fun d k=>g d.1.2.1 d.2.1.2 d.2.2.1 (fun r0=>k (.p kI r0) [])
theorem ajo(n:Nat):Qr A (Ev [] [] [] []) Tryz.f97 [.pure] (Mh (UC n)):=.mk
theorem ajn(n:Nat):OK A 97 (Mh (UB n)):=cR (ajo n) Tryz.func97 ag oz
end Go.Ev
namespace Go.Ev
open Go.Proofs Go.RowKit Go.Shelf
variable{A:Type}
noncomputable def ajp:Env A:=⟨aN,aw,[],[],[],[],bI,obs⟩
theorem UD:aO Tryz.prog (ajp (A:=A)):=bz rfl bA
theorem aa3(b m cap:Nat)(cur:Array Value)(hm:0<m)(hcap:m≤cap)(hsz:cur.size=cap*2)(w:World)(hb:ce w b cur 193):∃ new:Array Value,new.size=cur.size∧∀ ty,(Builtin.clear_ #[137] ty #[.slice (some ⟨b,0,none⟩) m cap]).run Tryz.prog w=.ok (.tuple #[]) (w.setRow b new):=by
 obtain⟨inf,z,hin,hz,hszz,_,hcs,hzr⟩:=(UD (A:=Unit)).zeroInfo (t:=193) (i:=⟨cg,(.struct [46,3]),32,false⟩) rfl
 have hzl:z.cells.toList.length=2:=by simpa[Kind.size] using hcs
 have hzrun:∀ w,(zeroValue 193).run Tryz.prog w=.ok z w:=fun w=>by simp[zeroValue,typeInfo,hin,hz]
 have hvl:((List.replicate m z.cells.toList).flatten).length=m*2:=by
  rw[eT (m:=2) (fun c hc=>by rw[(List.mem_replicate.1 hc).2];exact hzl),List.length_replicate]
 have hone:∀ v∈(List.replicate m z.cells.toList).flatten,v.oneCell'=true:=fun v hv=>by
  obtain⟨cc,hcc,hv⟩:=List.mem_flatten.1 hv
  rw[(List.mem_replicate.1 hcc).2] at hv
  exact RP.one (hzr (fun _=>False) w) v hv
 have hst:=hb.store (P:=Tryz.prog) 0 _ (by rw[hvl];omega) hone
 have hzf:=wN z.cells.toList m
 rw[hzl] at hzf
 simp only[Array.toArray_toList] at hzf
 have hzc:(Builtin.zeroCells z.cells m).toList=(List.replicate m z.cells.toList).flatten:=by
  unfold Builtin.zeroCells
  rw[show m*z.cells.size=m*2 by rw[hcs];rfl,hzf]
 have hu:Tryz.prog.underlying 137=some (.slice 193):=by kernel_rfl
 refine⟨(cur.toList.take 0++(List.replicate m z.cells.toList).flatten++cur.toList.drop (0+((List.replicate m z.cells.toList).flatten).length)).toArray,?_,fun ty=>?_⟩
 ·simp only[List.size_toArray,List.length_append,List.length_take,List.length_drop,Array.length_toList,hvl]
  omega
 ·obtain⟨n',rfl⟩:∃ n',m=n'+1:=⟨m-1,by omega⟩
  unfold Builtin.clear_
  simp only[List.getElem?_toArray,run_underlying hu,Sem.run_bind,Result.andThen_ok,hzrun,hzc]
  simp[run_underlying hu,hzrun,hzc,hst]
set_option maxHeartbeats 1000000 in
theorem abG(b m cap:Nat)(cur:Array Value)(hm:0<m)(hcap:m≤cap)(hmax:cap≤9223372036854775807)(hsz:cur.size=cap*2)(w:World)(hb:ce w b cur 193) :
  Calls Tryz.prog 98 #[.slice (some ⟨b,0,none⟩) m cap,.int .i64 0,.int .i64 m] w fun e w'=>e=.returned (.slice (some ⟨b,0,none⟩) 0 cap)∧∃ new:Array Value,new.size=cur.size∧w'=w.drew.setRow b new:=by
 obtain⟨new,hnew,hcl⟩:=aa3 b m cap cur hm hcap hsz w.drew hb
 obtain⟨inf,d,hi0,_,hi1,_⟩:=(UD (A:=Unit)).info (t:=193) (i:=⟨cg,(.struct [46,3]),32,false⟩) rfl
 have hi1:inf.size=2:=hi1
 have hu:Tryz.prog.underlying 137=some (.slice 193):=by kernel_rfl
 obtain⟨A,hA⟩:∃ A:Addr,(if cap=m then(some (⟨b,0,none⟩:Addr)) else some ⟨b,m*2,none⟩)=some A:=by
  by_cases h:cap=m
  ·exact⟨_,by rw[if_pos h]⟩
  ·exact⟨_,by rw[if_neg h]⟩
 have hW:w.drew.setCells b (0+0*2) []=w.drew:=by simp[World.setCells]
 have mixed:Tryz.prog.follows .mixedOrders=true:=follows
 clear hb
 go_enter Tryz.func98,Tryz.ntmps98
 go_wp2
 go_region_law_o (refine step_append_room rfl (.tmp 22) (.tmp 25) 137 rfl 193 inf 2 hu hi0 hi1 b 0 0 cap (by simp[Act.eval,Act.put]) A 0 (cap-m) [] (by simp[Act.eval,Act.put]) rfl (by simp) (by simp) (by omega) (by simp) ?_;rw[hW])
 go_wp2
 go_ret
 exact⟨rfl,new,hnew,rfl⟩
def Mj(n:Nat)(x0:Int)(x1:Int)(x2:(List ((List Int)×(Int×Unit))))(k:(List ((List Int)×(Int×Unit)))→Option A):Option A:=bif (x0==0)&&(decide (0<x2.length)&&(x1==(x2.length:Int))) then k [] else none
def ajr:Shape:=⟨[(.row 0),(.p (.int .i64)),(.p (.int .i64))],[(.row 193 cg)],1⟩
def Mi(g:Int→Int→(List ((List Int)×(Int×Unit)))→((List ((List Int)×(Int×Unit)))→Option A)→Option A):Entry A:=ai [true,false,false] ajr fun d k=>g d.1.2.1 d.1.2.2.1 d.2.1 (fun r0=>k (.row 1) [.gone,.row 193 cg r0])
theorem ajq(n:Nat):aI Tryz.prog aw 98 (Mi (A:=A) (Mj n)):=fun args hp0 k out hr=>by
 simp only[Mi,ai] at hr
 split at hr
 ·rename_i x y hx hy
  have hx:=wz hx
  have hy:=rU hy
  obtain⟨⟨⟩,i,j,⟨⟩⟩:=x
  obtain⟨xs,⟨⟩⟩:=y
  have hx:args=[.row 0,.p (.int .i64) i,.p (.int .i64) j]:=hx
  have hy:hp0=[.row 193 cg xs]:=hy
  subst hx;subst hy
  simp only[Mj] at hr
  cases hb:(i==0)&&(decide (0<xs.length)&&(j==(xs.length:Int))) with
  | false=>rw[hb] at hr;cases hr
  | true=>
   rw[hb] at hr
   obtain⟨h1,h4⟩:=Bool.and_eq_true_iff.1 hb
   obtain⟨h5,h3⟩:=Bool.and_eq_true_iff.1 h4
   obtain rfl:=eq_of_beq h1
   obtain rfl:=eq_of_beq h3
   have h2:0<xs.length:=of_decide_eq_true h5
   refine⟨_,_,hr,fun X vals hX ok hglo hargs=>?_,fun h=>nomatch h⟩
   have h0:X.hp[0]?=some (.row 193 cg xs):=by rw[hX];rfl
   obtain⟨v0,hv0,r0⟩:=hargs.get (i:=0) (a:=.row 0) rfl
   obtain⟨v1,hv1,r1⟩:=hargs.get (i:=1) (a:=.p (.int .i64) 0) rfl
   obtain⟨v2,hv2,r2⟩:=hargs.get (i:=2) (a:=.p (.int .i64) (xs.length:Int)) rfl
   obtain rfl:=RS.int.1 r1
   obtain rfl:=RS.int.1 r2
   have hvals:vals=#[v0,.int .i64 0,.int .i64 (xs.length:Int)]:=by
    have hl:=hargs.length
    apply Array.toList_inj.1
    match hm:vals.toList,hl with
    | [a,b,c],_=>rw[hm] at hv0 hv1 hv2;simp at hv0 hv1 hv2;simp[hv0,hv1,hv2]
   subst hvals
   rcases(lz h0).1 ((RS.one (by simp) (by simp) (by simp) (by simp)).1 r0) with ⟨_,g,_⟩|⟨b,cap,cur,hρ,rfl,hrow,hsz,hle⟩
   ·omega
   have hmax:cap≤maxLen:=by
    rcases ok.blk _ _ h0 with ⟨g,_⟩|⟨b',cur',cap',css,g1,g2,g3,_,g5,_⟩
    ·rw[hρ] at g;cases g
    ·rw[hρ] at g1;cases g1
     obtain⟨rfl,_⟩:=hrow.eq g2
     have:cap*2=cap'*2:=hsz.symm.trans g3
     have:cap=cap':=by omega
     omega
   refine⟨_,X.w,MuLone.run_callFunc_enter Tryz.func98 (by kernel_rfl) rfl _ X.w,.inr ⟨rfl,?_⟩⟩
   refine(abG b xs.length cap cur h2 hle (by simpa[maxLen] using hmax) hsz X.w hrow).mono ?_
   rintro e w' ⟨rfl,new,hnew,rfl⟩
   have hrow':ce (X.w.drew.setRow b new) b new 193:=ce.set (w:=X.w.drew) hrow hnew
   have hO:X.Own b:=⟨0,_,h0,hρ⟩
   have hown:∀ c,(⟨fun i=>if i=1 then some b else X.ρ i,[.gone,.row 193 cg []],X.F,X.w.drew.setRow b new⟩:Cx).Own c→c=b:=fun c ⟨id,bl,g1,g2⟩=>by
    match id,g1 with
    | 0,g1=>cases g1;exact g2.elim
    | 1,g1=>
     cases g1
     have g2:some b=some c:=g2
     exact(Option.some.inj g2).symm
    | n+2,g1=>simp at g1
   refine⟨_,rfl,⟨fun i=>if i=1 then some b else X.ρ i,[.gone,.row 193 cg []],X.F,X.w.drew.setRow b new⟩,rfl,rfl,RS.row_new (xs:=([]:List cg.den)) rfl rfl hrow' (by rw[hnew];exact hsz) (Nat.zero_le _),⟨fun id bl hb=>?_,fun id id' c c1 c2 g1 g2 g3 g4=>?_,fun c hc=>⟨by rw[qh];exact(ok.fo c hc).1,fun ho=>(ok.fo c hc).2 (hown c ho▸hO)⟩⟩,
    ⟨rfl,rfl,rfl,by rw[qh];exact Nat.le_refl _,fun c cs e f hc=>?_,fun c hc hn=>setRow_other _ _ _ _ (fun h=>hn (h▸hO)),fun c _ ho=>hown c ho▸hO,fun _ h=>h,fun _ h=>.inl h⟩,⟨fun id bl hid hb hn=>?_,fun id bl hid hb hn=>?_⟩⟩
   ·match id,hb with
    | 0,hb=>cases hb;trivial
    | 1,hb=>cases hb;exact .inr ⟨b,new,cap,[],rfl,hrow',by rw[hnew];exact hsz,Nat.zero_le _,hmax,.nil,by simp⟩
    | n+2,hb=>simp at hb
   ·match id,id',g1,g2 with
    | 1,1,_,_=>rfl
    | 0,_,g1,_=>cases g1;exact g3.elim
    | _,0,_,g2=>cases g2;exact g4.elim
    | n+2,_,g1,_=>simp at g1
    | _,n+2,_,g2=>simp at g2
   ·by_cases hcb:c=b
    ·subst hcb
     have hc':X.w.drew.heap[c]?=some (.cells cs e f):=hc
     refine⟨new,setRow_heap _ _ _ _ _ _ hc',?_⟩
     obtain⟨_,_,g⟩:=hrow
     rw[g] at hc;cases hc
     exact hnew
    ·exact⟨cs,(setRow_other _ _ _ _ hcb).trans hc,rfl⟩
   ·match id,hid with
    | 0,_=>exact⟨.gone,rfl,.gone _⟩
    | n+1,hid=>simp at hid
   ·match id,hid with
    | 0,_=>rw[h0] at hb;cases hb;exact rfl
    | n+1,hid=>simp at hid
 ·cases hr
end Go.Ev
namespace Go.Ev
open Go.Proofs
variable{A:Type}
noncomputable def bV(n:Nat):Entry A:=cd ⟨aN,aw,[(52,T4 (T6 n))],[],[],[],bI,obs⟩ [] Tryz.f26 [.pure] (fun _=>([],[])) n
theorem alX(n:Nat):aI Tryz.prog aw 26 (bV (A:=A) n):=cj (bz rfl bA) (aj.env rfl rfl (aj.cons (ah4 n) aj.nil)) follows ⟨Tryz.func26,by kernel_rfl⟩
noncomputable def Wn(n:Nat):Entry A:=cd ⟨aN,aw,[(279,Tt (Tu n))],[],[],[],bI,obs⟩ [] Tryz.f239 [.pure] (fun _=>([],[])) n
theorem alU(n:Nat):aI Tryz.prog aw 239 (Wn (A:=A) n):=cj (bz rfl bA) (aj.env rfl rfl (aj.cons (agX n) aj.nil)) follows ⟨Tryz.func239,by kernel_rfl⟩
noncomputable def wm(n:Nat):Entry A:=cd ⟨aN,aw,[(239,Wn n)],[],[],[],bI,obs⟩ [] Tryz.f180 [.pure] (fun _=>([],[])) n
theorem WR(n:Nat):aI Tryz.prog aw 180 (wm (A:=A) n):=cj (bz rfl bA) (aj.env rfl rfl (aj.cons (alU n) aj.nil)) follows ⟨Tryz.func180,by kernel_rfl⟩
noncomputable def C0(n:Nat):Entry A:=cd ⟨aN,aw,[(180,wm n)],[],[],[],bI,obs⟩ [] Tryz.f121 [.pure,.pure,.pure] (fun _=>([],[])) n
theorem alG(n:Nat):aI Tryz.prog aw 121 (C0 (A:=A) n):=cj (bz rfl bA) (aj.env rfl rfl (aj.cons (WR n) aj.nil)) follows ⟨Tryz.func121,by kernel_rfl⟩
noncomputable def Nc(n:Nat):Entry A:=cd ⟨aN,aw,[(121,C0 n)],[],[],[],bI,obs⟩ [] Tryz.f84 [.pure,.pure,.pure] (fun _=>([],[])) n
theorem al3(n:Nat):aI Tryz.prog aw 84 (Nc (A:=A) n):=cj (bz rfl bA) (aj.env rfl rfl (aj.cons (alG n) aj.nil)) follows ⟨Tryz.func84,by kernel_rfl⟩
noncomputable def Na(n:Nat):Entry A:=cd ⟨aN,aw,[(180,wm n)],[],[],[],bI,obs⟩ [] Tryz.f245 [.pure] (fun _=>([],[])) n
theorem WT(n:Nat):aI Tryz.prog aw 245 (Na (A:=A) n):=cj (bz rfl bA) (aj.env rfl rfl (aj.cons (WR n) aj.nil)) follows ⟨Tryz.func245,by kernel_rfl⟩
noncomputable def Wo(n:Nat):Entry A:=cd ⟨aN,aw,[(283,Tw (Tx n)),(245,Na n)],[],[],[],bI,obs⟩ [] Tryz.f244 [.pure] (fun j=>bif j==0 then([2,3,4,6,7,8,9,10,11,12,13,14,15,16,17,18,19,20,21,22,23,24,25,26,27,28,29,30,31,32,33],[0,1,2,3,5,6,7,8,9,10,11,12,13,14,15,16,17,18,19,20,21,22,23,24,25,26,27,28,29,30,31,32,33]) else([],[])) n
theorem alV(n:Nat):aI Tryz.prog aw 244 (Wo (A:=A) n):=cj (bz rfl bA) (aj.env rfl rfl (aj.cons (agZ n) (aj.cons (WT n) aj.nil))) follows ⟨Tryz.func244,by kernel_rfl⟩
noncomputable def C6(n:Nat):Entry A:=cd ⟨aN,aw,[(244,Wo n),(245,Na n)],[],[],[],bI,obs⟩ [] Tryz.f181 [.pure] (fun j=>bif j==0 then([4,5,6,7,8,11,12,13,14,15,16,17,18,19,20,21,22,23,24,25,26,27,28,29,30,31,32,33,34,35,36,37,38,39,40,41,42,43,44,45,46,47,48,49,50,51,52,53,54,55,56,57,58,59,60,61,62,63,64,65],[1,2,3,4,5,6,7,8,11,12,13,14,15,16,17,18,19,20,21,22,23,24,25,26,27,28,29,30,31,32,33,34,35,36,37,38,39,40,41,42,43,44,45,46,47,48,49,50,51,52,53,54,55,56,57,58,59,60,61,62,63,64,65]) else([],[])) n
theorem alO(n:Nat):aI Tryz.prog aw 181 (C6 (A:=A) n):=cj (bz rfl bA) (aj.env rfl rfl (aj.cons (alV n) (aj.cons (WT n) aj.nil))) follows ⟨Tryz.func181,by kernel_rfl⟩
noncomputable def C1(n:Nat):Entry A:=cd ⟨aN,aw,[(181,C6 n)],[],[],[],bI,obs⟩ [] Tryz.f122 [.pure] (fun _=>([],[])) n
theorem alH(n:Nat):aI Tryz.prog aw 122 (C1 (A:=A) n):=cj (bz rfl bA) (aj.env rfl rfl (aj.cons (alO n) aj.nil)) follows ⟨Tryz.func122,by kernel_rfl⟩
noncomputable def wn(n:Nat):Entry A:=cd ⟨aN,aw,[],[],[],[],bI,obs⟩ [] Tryz.f182 [.pure] (fun _=>([],[])) n
theorem WS(n:Nat):aI Tryz.prog aw 182 (wn (A:=A) n):=cj (bz rfl bA) (aj.env rfl rfl aj.nil) follows ⟨Tryz.func182,by kernel_rfl⟩
noncomputable def C2(n:Nat):Entry A:=cd ⟨aN,aw,[(182,wn n)],[],[],[],bI,obs⟩ [] Tryz.f123 [.pure] (fun j=>bif j==0 then([1,2,4,5,6,7,8,9,10,11,12],[0,1,3,4,5,6,7,8,9,10,11,12]) else([],[])) n
theorem alI(n:Nat):aI Tryz.prog aw 123 (C2 (A:=A) n):=cj (bz rfl bA) (aj.env rfl rfl (aj.cons (WS n) aj.nil)) follows ⟨Tryz.func123,by kernel_rfl⟩
noncomputable def C4(n:Nat):Entry A:=cd ⟨aN,aw,[(182,wn n)],[],[],[],bI,obs⟩ [] Tryz.f126 [.pure] (fun _=>([],[])) n
theorem alK(n:Nat):aI Tryz.prog aw 126 (C4 (A:=A) n):=cj (bz rfl bA) (aj.env rfl rfl (aj.cons (WS n) aj.nil)) follows ⟨Tryz.func126,by kernel_rfl⟩
noncomputable def C7(n:Nat):Entry A:=cd ⟨aN,aw,[],[],[],[],bI,obs⟩ [] Tryz.f183 [.pure,.pure] (fun _=>([],[])) n
theorem alP(n:Nat):aI Tryz.prog aw 183 (C7 (A:=A) n):=cj (bz rfl bA) (aj.env rfl rfl aj.nil) follows ⟨Tryz.func183,by kernel_rfl⟩
noncomputable def C3(n:Nat):Entry A:=cd ⟨aN,aw,[(183,C7 n)],[],[],[],bI,obs⟩ [] Tryz.f125 [.own,.pure] (fun j=>bif j==0 then([1,2,3,5,6,7,8,9,10,11,12,13,14,15,16,17,18,21,22,23,24,25,26,27,28,29,30,31,32,33,34,35,36,37,38,39,40,41,42,43,44,45,46,47,48,49,50,51,52,53,54],[0,1,5,6,7,8,9,10,11,12,13,14,15,16,17,18,19,20,21,22,23,24,25,26,27,28,29,30,31,32,33,34,35,36,37,38,39,40,41,42,43,44,45,46,47,48,49,50,51,52,53,54]) else([],[])) n
theorem alJ(n:Nat):aI Tryz.prog aw 125 (C3 (A:=A) n):=cj (bz rfl bA) (aj.env rfl rfl (aj.cons (alP n) aj.nil)) follows ⟨Tryz.func125,by kernel_rfl⟩
noncomputable def C9(n:Nat):Entry A:=cd ⟨aN,aw,[(122,C1 n),(123,C2 n),(124,QU (za n)),(126,C4 n),(125,C3 n)],[],[],[],bI,obs⟩ [] Tryz.f85 [.pure,.pure] (fun _=>([],[])) n
theorem al4(n:Nat):aI Tryz.prog aw 85 (C9 (A:=A) n):=cj (bz rfl bA) (aj.env rfl rfl (aj.cons (alH n) (aj.cons (alI n) (aj.cons (acz n) (aj.cons (alK n) (aj.cons (alJ n) aj.nil)))))) follows ⟨Tryz.func85,by kernel_rfl⟩
noncomputable def to(n:Nat):Entry A:=cd ⟨aN,aw,[(84,Nc n),(85,C9 n)],[],[],[],bI,obs⟩ [] Tryz.f51 [.own,.pure,.pure] (fun j=>bif j==0 then([1,2,3,4,6,7,8,9,10,11,12,13,14,15,16,17,18,19,20,21,22,23,24,25,26,27,28,29,30,31,32,33,34,35,36,37,38,39,40,41],[0,1,6,7,8,9,10,11,12,13,14,15,16,17,18,19,20,21,22,23,24,25,26,27,28,29,30,31,32,33,34,35,36,37,38,39,40,41]) else([],[])) n
theorem al0(n:Nat):aI Tryz.prog aw 51 (to (A:=A) n):=cj (bz rfl bA) (aj.env rfl rfl (aj.cons (al3 n) (aj.cons (al4 n) aj.nil))) follows ⟨Tryz.func51,by kernel_rfl⟩
noncomputable def tp(n:Nat):Entry A:=cd ⟨aN,aw,[(97,Mh (UB n)),(98,Mi (Mj n))],[],[],[],bI,obs⟩ [true,false] Tryz.f61 [.pure,.pure] (fun _=>([],[])) n
theorem WU(n:Nat):aI Tryz.prog aw 61 (tp (A:=A) n):=cj (bz rfl bA) (aj.env rfl rfl (aj.cons (ajn n) (aj.cons (ajq n) aj.nil))) follows ⟨Tryz.func61,by kernel_rfl⟩
noncomputable def eA(n:Nat):Entry A:=cd ⟨aN,aw,[(61,tp n),(27,mu (iy n)),(37,sK (jQ n))],[],[],[],bI,obs⟩ [true,true,false] Tryz.f33 [.pure] (fun _=>([],[])) n
theorem alY(n:Nat):aI Tryz.prog aw 33 (eA (A:=A) n):=cj (bz rfl bA) (aj.env rfl rfl (aj.cons (WU n) (aj.cons (sF n) (aj.cons (BF n) aj.nil)))) follows ⟨Tryz.func33,by kernel_rfl⟩
noncomputable def wo(n:Nat):Entry A:=cd ⟨aN,aw,[(197,sB (oM n))],[],[],[],bI,obs⟩ [true] Tryz.f199 [.pure] (fun _=>([],[])) n
theorem Np(n:Nat):aI Tryz.prog aw 199 (wo (A:=A) n):=cj (bz rfl bA) (aj.env rfl rfl (aj.cons (AC n) aj.nil)) follows ⟨Tryz.func199,by kernel_rfl⟩
noncomputable def C8(n:Nat):Entry A:=cd ⟨aN,aw,[(200,sC (jf n)),(199,wo n)],[],[],[],bI,obs⟩ [true,false] Tryz.f198 [.own] (fun j=>bif j==0 then([1,2,3,4,6,7,10,11,12,13,14,15,16,17],[0,1,2,3,4,6,7,8,9,10,11,12,13,14,15,16,17]) else([],[])) n
theorem alR(n:Nat):aI Tryz.prog aw 198 (C8 (A:=A) n):=cj (bz rfl bA) (aj.env rfl rfl (aj.cons (AD n) (aj.cons (Np n) aj.nil))) follows ⟨Tryz.func198,by kernel_rfl⟩
noncomputable def M9(n:Nat):Entry A:=cd ⟨aN,aw,[(139,uA (l8 n)),(140,oe (gQ n)),(199,wo n),(145,uD (jJ n))],[],[],[],bI,obs⟩ [] Tryz.f201 [.pure,.pure] (fun _=>([],[])) n
theorem alT(n:Nat):aI Tryz.prog aw 201 (M9 (A:=A) n):=cj (bz rfl bA) (aj.env rfl rfl (aj.cons (FJ n) (aj.cons (uB n) (aj.cons (Np n) (aj.cons (FM n) aj.nil))))) follows ⟨Tryz.func201,by kernel_rfl⟩
noncomputable def C5(n:Nat):Entry A:=cd ⟨aN,aw,[(198,C8 n),(199,wo n),(200,sC (jf n)),(197,sB (oM n)),(201,M9 n),(140,oe (gQ n)),(202,AE (oN n))],[],[],[1,2,3,4,5,7],bI,obs⟩ [true,true,false] Tryz.f144 [] (fun j=>bif j==0 then([2,3,4,5,6,7,8,9,10,11,12,13,14,15,16,17,18,19,20,21,22,23,24,25,26,29,30,31,32,33,34,35,36,37,38,39,40,41,42,43,44,45,46,47,48,49,50,51,52,53,54,55,56,57,58,59,60,61,62,63,64,65,66,67,68,69,70,71,72,73,74,75,76,77,78,79,80,81,82,83,84,85,86,87,88,89,90,91,92,93,94,95,96,97,98,99,100,101,102,103,104,105,106,107,108,109,110,111,112,113,114,115,116,117,118,119,120,121,122,123,124],[0,1,2,3,4,5,6,7,8,9,10,11,12,13,14,15,16,17,18,19,20,21,22,23,24,25,26,27,28,29,30,31,32,33,34,35,36,37,38,39,40,41,42,43,44,45,46,47,48,49,50,51,52,53,54,55,56,57,58,59,60,61,62,63,64,65,66,67,68,69,70,71,72,73,74,75,76,77,78,79,80,81,82,83,84,85,86,87,88,89,90,91,92,93,94,95,96,97,98,99,100,101,102,103,104,105,106,107,108,109,110,111,112,113,114,115,116,117,118,119,120,121,122,123,124]) else bif j==1 then([2,3,4,5,6,7,8,9,10,11,12,13,14,15,16,17,18,19,20,21,22,23,24,25,26,27,28,29,30,31,32,33,34,35,36,37,38,39,40,41,42,43,44,45,46,47,48,49,50,51,52,53,54,55,56,57,58,59,60,61,62,63,64,65,66,67,68,69,70,71,72,73,74,75,76,77,78,81,82,83,84,85,86,87,88,89,90,91,92,93,94,95,96,97,98,99,100,101,102,103,104,105,106,107,108,109,110,111,112,113,114,115,116,117,118,119,120,121,122,123,124],[0,1,2,3,4,5,6,7,8,9,10,11,12,13,14,15,16,17,18,19,20,21,22,23,24,25,26,27,28,29,30,31,32,33,34,35,36,37,38,39,40,41,42,43,44,45,46,47,48,49,50,51,52,53,54,55,56,57,58,59,60,61,62,63,64,65,66,67,68,69,70,71,72,73,74,75,76,77,78,79,80,81,82,83,84,85,86,87,88,89,90,91,92,93,94,95,96,97,98,99,100,101,102,103,104,105,106,107,108,109,110,111,112,113,114,115,116,117,118,119,120,121,122,123,124]) else([],[])) n
theorem alM(n:Nat):aI Tryz.prog aw 144 (C5 (A:=A) n):=cj (bz rfl bA) (aj.env rfl rfl (aj.cons (alR n) (aj.cons (Np n) (aj.cons (AD n) (aj.cons (AC n) (aj.cons (alT n) (aj.cons (uB n) (aj.cons (Sk n) aj.nil)))))))) follows ⟨Tryz.func144,by kernel_rfl⟩
noncomputable def Da(n:Nat):Entry A:=cd ⟨aN,aw,[(139,uA (l8 n)),(140,oe (gQ n)),(141,zl (su n)),(142,zm (zn n)),(143,zo (uC n)),(144,C5 n),(145,uD (jJ n))],[],[],[],bI,obs⟩ [] Tryz.f99 [.pure,.pure] (fun j=>bif j==0 then([0,1,3,6,7,8,9,10,11,12,13,14,15,16,17,18,19,20,21,22,23,24,25,26,27,28,29,31,32,33,34,35,36,37,38,39,40,41,42,43,44,45,46,47,48,49,50,51,52],[0,1,3,6,7,8,9,10,11,12,13,14,15,16,17,18,19,20,21,22,23,24,25,26,27,28,29,30,31,32,33,34,35,36,37,38,39,40,41,42,43,44,45,46,47,48,49,50,51,52]) else([],[])) n
theorem al5(n:Nat):aI Tryz.prog aw 99 (Da (A:=A) n):=cj (bz rfl bA) (aj.env rfl rfl (aj.cons (FJ n) (aj.cons (uB n) (aj.cons (Q6 n) (aj.cons (Q8 n) (aj.cons (Ra n) (aj.cons (alM n) (aj.cons (FM n) aj.nil)))))))) follows ⟨Tryz.func99,by kernel_rfl⟩
noncomputable def CZ(n:Nat):Entry A:=cd ⟨aN,aw,[(134,zh (zi n))],[],[],[],bI,obs⟩ [true,false] Tryz.f102 [.pure] (fun _=>([],[])) n
theorem alF(n:Nat):aI Tryz.prog aw 102 (CZ (A:=A) n):=cj (bz rfl bA) (aj.env rfl rfl (aj.cons (Q4 n) aj.nil)) follows ⟨Tryz.func102,by kernel_rfl⟩
noncomputable def Nb(n:Nat):Entry A:=cd ⟨aN,aw,[(41,BH (Km n)),(99,Da n),(102,CZ n),(96,Cm (jS n)),(103,yF (yG n))],[],[2000013],[],bI,obs⟩ [true,false,false] Tryz.f63 [.own,.pure] (fun _=>([],[])) n
theorem al1(n:Nat):aI Tryz.prog aw 63 (Nb (A:=A) n):=cj (bz rfl bA) (aj.env rfl rfl (aj.cons (TU n) (aj.cons (al5 n) (aj.cons (alF n) (aj.cons (UA n) (aj.cons (QI n) aj.nil)))))) follows ⟨Tryz.func63,by kernel_rfl⟩
noncomputable def dC(n:Nat):Entry A:=cd ⟨aN,aw,[(61,tp n),(63,Nb n),(57,vD (sM n))],[],[2000005],[],bI,obs⟩ [true,false,false] Tryz.f34 [.pure] (fun _=>([],[])) n
theorem alZ(n:Nat):aI Tryz.prog aw 34 (dC (A:=A) n):=cj (bz rfl bA) (aj.env rfl rfl (aj.cons (WU n) (aj.cons (al1 n) (aj.cons (Lb n) aj.nil)))) follows ⟨Tryz.func34,by kernel_rfl⟩
noncomputable def aQ(n:Nat):Entry A:=cd ⟨aN,aw,[(32,BA (BB n)),(33,eA n),(34,dC n),(27,mu (iy n)),(37,sK (jQ n))],[],[2000012],[],bI,obs⟩ [true,false] Tryz.f14 [.pure] (fun _=>([],[])) n
theorem alL(n:Nat):aI Tryz.prog aw 14 (aQ (A:=A) n):=cj (bz rfl bA) (aj.env rfl rfl (aj.cons (TO n) (aj.cons (alY n) (aj.cons (alZ n) (aj.cons (sF n) (aj.cons (BF n) aj.nil)))))) follows ⟨Tryz.func14,by kernel_rfl⟩
noncomputable def aM(n:Nat):Entry A:=cd ⟨aN,aw,[(14,aQ n)],[],[],[2,4,6,9],bI,obs⟩ [true,false] Tryz.f15 [.pure] (fun j=>bif j==0 then([1,2,3,4,6,7,11,12,13,14,15,16,17,18,19,20,21],[0,1,2,3,4,6,7,8,9,10,11,12,13,14,15,16,17,18,19,20,21]) else([],[])) n
theorem alN(n:Nat):aI Tryz.prog aw 15 (aM (A:=A) n):=cj (bz rfl bA) (aj.env rfl rfl (aj.cons (alL n) aj.nil)) follows ⟨Tryz.func15,by kernel_rfl⟩
noncomputable def cD(n:Nat):Entry A:=cd ⟨aN,aw,[(51,to n),(29,Bt (vu n)),(15,aM n)],[],[],[],bI,obs⟩ [] Tryz.f25 [.own,.pure,.pure] (fun _=>([],[])) n
theorem alW(n:Nat):aI Tryz.prog aw 25 (cD (A:=A) n):=cj (bz rfl bA) (aj.env rfl rfl (aj.cons (al0 n) (aj.cons (TE n) (aj.cons (alN n) aj.nil)))) follows ⟨Tryz.func25,by kernel_rfl⟩
noncomputable def bn(n:Nat):Entry A:=cd ⟨aN,aw,[(42,Kn (TW n))],[],[],[],bI,obs⟩ [true,false] Tryz.f20 [.pure] (fun _=>([],[])) n
theorem alS(n:Nat):aI Tryz.prog aw 20 (bn (A:=A) n):=cj (bz rfl bA) (aj.env rfl rfl (aj.cons (ahD n) aj.nil)) follows ⟨Tryz.func20,by kernel_rfl⟩
noncomputable def aX(n:Nat):Entry A:=cd ⟨aN,aw,[(41,BH (Km n))],[],[],[],bI,obs⟩ [true] Tryz.f19 [.own] (fun j=>bif j==0 then([0,1,2,4,5,6,7,8,12,13,14,15,16,17,18,19,20,21,22,23,24,25,26],[0,1,2,4,5,6,7,8,9,10,11,12,13,14,15,16,17,18,19,20,21,22,23,24,25,26]) else([],[])) n
theorem alQ(n:Nat):aI Tryz.prog aw 19 (aX (A:=A) n):=cj (bz rfl bA) (aj.env rfl rfl (aj.cons (TU n) aj.nil)) follows ⟨Tryz.func19,by kernel_rfl⟩
noncomputable def r7(n:Nat):Entry A:=cd ⟨aN,aw,[(26,bV n),(25,cD n),(9,Co (Mk n)),(27,mu (iy n)),(20,bn n),(28,JS (TB n)),(19,aX n)],[],[],[],bI,obs⟩ [] Tryz.f7 [.pure] (fun _=>([],[])) n
theorem ro7(n:Nat):aI Tryz.prog aw 7 (r7 (A:=A) n):=cj (bz rfl bA) (aj.env rfl rfl (aj.cons (alX n) (aj.cons (alW n) (aj.cons (UE n) (aj.cons (sF n) (aj.cons (alS n) (aj.cons (aha n) (aj.cons (alQ n) aj.nil)))))))) follows ⟨Tryz.func7,by kernel_rfl⟩
def Un(g:(Bool→Option A)→Option A):Entry A:=jo fun args k=>aan args (g fun r0=>k (.p .bool r0) [])
theorem aiP(k:AV→List Blk→Option A):(r7 1100).run [] [] k=k (.p .bool true) []:=by kernel_rfl
theorem aiO(n:Nat):aI Tryz.prog aw 7 (Un (A:=A) (LI n)):=fun args hp0 k out h=>by
 cases hp0 with
 | cons b r=>cases h
 | nil=>
  cases args with
  | cons a r=>cases h
  | nil=>
   have h':(bif Nat.beq n 1100 then k (.p .bool true) [] else none)=some out:=h
   cases hb:Nat.beq n 1100 with
   | false=>rw[hb] at h';cases h'
   | true=>
    have e:=Nat.eq_of_beq_eq_true hb
    rw[hb] at h'
    subst e
    exact ro7 1100 [] [] k out ((aiP k).trans h')
def LZ(g:G8 A):Entry A:=ai [] ⟨[(.p jX)],[],0⟩ fun d k=>g d.1.1 (k (.nilp) []) (fun r0 r1 r2 r3 r4 r5 r6 r7 r8 r9 r10 r11 r12 r13 aQ aM r16 r17 r18=>k (.ptr 0 []) [.var 111 cU (.pr (.ptr 1 []) (.pr (.row 10) (.p (.pair kI (.pair kI .unit)) r0))),.var 116 bF (.pr (.pr (.p ay r1) (.pr (.p kI r2) (.pr (.p kI r3) (.pr (.p kI r4) (.pr (.p kI r5) (.pr (.row 2) (.p .unit r6))))))) (.pr (.ptr 3 []) (.pr (.p kI r7) (.pr (.row 7) (.pr (.mp 8) (.pr (.row 9) (.p .unit r8))))))),.row 46 kS r9,.var 120 bh (.pr (.p ay r10) (.pr (.row 4) (.pr (.mp 5) (.pr (.row 6) (.p .unit r11))))),.row 181 a9 r12,.map aa kI r13,.row 3 kI aQ,.ob 140 .opq bH aM none,.map aF bk r16,.row 475 aF r17,.ob 126 b7 cb r18 none])
theorem ai7(g22:qR A)(g29:xB A)(g9:G9 A)(n:Nat):Qo A (Ev [(22,AT g22),(29,Bt g29),(9,Co g9)] [] [] []) Tryz.f8 [.own] (LZ (L1 g22 g29 g9 n)):=.mk
theorem ai6(n:Nat):OK A 8 (LZ (Cj n)):=ak (ai7 _ _ _ n) Tryz.func8 ag (oc (SE n)<|oc (TE n)<|oc (UE n) oz)
def FT(g:kn A):Entry A:=ai [true,false] ⟨[(.ptr 0),(.p s5)],[(.var 111 cU (.pr (.ptr 1) (.pr (.row 10) (.p (.pair kI (.pair kI .unit)))))),(.var 116 bF (.pr (.pr (.p ay) (.pr (.p kI) (.pr (.p kI) (.pr (.p kI) (.pr (.p kI) (.pr (.row 2) (.p .unit))))))) (.pr (.ptr 3) (.pr (.p kI) (.pr (.row 7) (.pr (.mp 8) (.pr (.row 9) (.p .unit)))))))),(.row 46 kS),(.var 120 bh (.pr (.p ay) (.pr (.row 4) (.pr (.mp 5) (.pr (.row 6) (.p .unit)))))),(.row 181 a9),(.map aa kI),(.row 3 kI),(.ob 140 .opq bH),(.map aF bk),(.row 475 aF),(.ob 126 b7 cb)],11⟩ fun d k=>g d.1.2.1 d.2.1.2.2 d.2.2.1.1.1 d.2.2.1.1.2.1 d.2.2.1.1.2.2.1 d.2.2.1.1.2.2.2.1 d.2.2.1.1.2.2.2.2.1 d.2.2.1.1.2.2.2.2.2.2 d.2.2.1.2.2.1 d.2.2.1.2.2.2.2.2.2 d.2.2.2.1 d.2.2.2.2.1.1 d.2.2.2.2.1.2.2.2.2 d.2.2.2.2.2.1 d.2.2.2.2.2.2.1 d.2.2.2.2.2.2.2.1 d.2.2.2.2.2.2.2.2.1 d.2.2.2.2.2.2.2.2.2.1 d.2.2.2.2.2.2.2.2.2.2.1 d.2.2.2.2.2.2.2.2.2.2.2.1 (fun r0 r1 r2 r3 r4 r5 r6 r7 r8 r9 r10 r11 r12 r13 aQ aM r16 r17 r18 aX=>k (.p kI r0) [.var 111 cU (.pr (.ptr 1 []) (.pr (.row 10) (.p (.pair kI (.pair kI .unit)) r1))),.var 116 bF (.pr (.pr (.p ay r2) (.pr (.p kI r3) (.pr (.p kI r4) (.pr (.p kI r5) (.pr (.p kI r6) (.pr (.row 2) (.p .unit r7))))))) (.pr (.ptr 3 []) (.pr (.p kI r8) (.pr (.row 7) (.pr (.mp 8) (.pr (.row 9) (.p .unit r9))))))),.row 46 kS r10,.var 120 bh (.pr (.p ay r11) (.pr (.row 4) (.pr (.mp 5) (.pr (.row 6) (.p .unit r12))))),.row 181 a9 r13,.map aa kI aQ,.row 3 kI aM,.ob 140 .opq bH r16 none,.map aF bk r17,.row 475 aF r18,.ob 126 b7 cb aX none])
theorem ac9(g32:xE A)(g27:ft A)(g37:kX A)(n:Nat):Qo A (Ev [(32,BA g32),(27,mu g27),(37,sK g37)] [] [] []) Tryz.f14 [.pure] (FT (FU g32 g27 g37 n)):=.mk
theorem ac8(n:Nat):OK A 14 (FT (uE n)):=ak (ac9 _ _ _ n) Tryz.func14 ag (oc (TO n)<|oc (sF n)<|oc (BF n) oz)
def Ib(g:kG A):Entry A:=cu [true] ⟨[(.ptr 0)],[(.var 111 cU (.pr (.ptr 1) (.pr (.row 10) (.p (.pair kI (.pair kI .unit)))))),(.var 116 bF (.pr (.pr (.p ay) (.pr (.p kI) (.pr (.p kI) (.pr (.p kI) (.pr (.p kI) (.pr (.row 2) (.p .unit))))))) (.pr (.ptr 3) (.pr (.p kI) (.pr (.row 7) (.pr (.mp 8) (.pr (.row 9) (.p .unit)))))))),(.row 46 kS),(.var 120 bh (.pr (.p ay) (.pr (.row 4) (.pr (.mp 5) (.pr (.row 6) (.p .unit)))))),(.row 181 a9),(.map aa kI),(.row 3 kI),(.ob 140 .opq bH),(.map aF bk),(.row 475 aF),(.ob 126 b7 cb)],11⟩ fun d k=>g d.2.1.2.2 d.2.2.1.1.1 d.2.2.1.1.2.1 d.2.2.1.1.2.2.1 d.2.2.1.1.2.2.2.1 d.2.2.1.1.2.2.2.2.1 d.2.2.1.1.2.2.2.2.2.2 d.2.2.1.2.2.1 d.2.2.1.2.2.2.2.2.2 d.2.2.2.1 d.2.2.2.2.1.1 d.2.2.2.2.1.2.2.2.2 d.2.2.2.2.2.1 d.2.2.2.2.2.2.1 d.2.2.2.2.2.2.2.1 d.2.2.2.2.2.2.2.2.1 d.2.2.2.2.2.2.2.2.2.1 d.2.2.2.2.2.2.2.2.2.2.1 d.2.2.2.2.2.2.2.2.2.2.2.1 (fun r0 r1=>k (.tup [.p kI r0,.p kI r1]) [])
theorem afh(n:Nat):Qr A (Ev [] [] [] []) Tryz.f21 [.pure,.pure] (Ib (Id n)):=.mk
theorem afg(n:Nat):OK A 21 (Ib (Ic n)):=cR (afh n) Tryz.func21 ag oz
def Hh(g:kD A):Entry A:=ai [true,false,false] ⟨[(.ptr 0),(.p kI),(.p .bool)],[(.var 111 cU (.pr (.ptr 1) (.pr (.row 10) (.p (.pair kI (.pair kI .unit)))))),(.var 116 bF (.pr (.pr (.p ay) (.pr (.p kI) (.pr (.p kI) (.pr (.p kI) (.pr (.p kI) (.pr (.row 2) (.p .unit))))))) (.pr (.ptr 3) (.pr (.p kI) (.pr (.row 7) (.pr (.mp 8) (.pr (.row 9) (.p .unit)))))))),(.row 46 kS),(.var 120 bh (.pr (.p ay) (.pr (.row 4) (.pr (.mp 5) (.pr (.row 6) (.p .unit)))))),(.row 181 a9),(.map aa kI),(.row 3 kI),(.ob 140 .opq bH),(.map aF bk),(.row 475 aF),(.ob 126 b7 cb)],11⟩ fun d k=>g d.1.2.1 d.1.2.2.1 d.2.1.2.2 d.2.2.1.1.1 d.2.2.1.1.2.1 d.2.2.1.1.2.2.1 d.2.2.1.1.2.2.2.1 d.2.2.1.1.2.2.2.2.1 d.2.2.1.1.2.2.2.2.2.2 d.2.2.1.2.2.1 d.2.2.1.2.2.2.2.2.2 d.2.2.2.1 d.2.2.2.2.1.1 d.2.2.2.2.1.2.2.2.2 d.2.2.2.2.2.1 d.2.2.2.2.2.2.1 d.2.2.2.2.2.2.2.1 d.2.2.2.2.2.2.2.2.1 d.2.2.2.2.2.2.2.2.2.1 d.2.2.2.2.2.2.2.2.2.2.1 d.2.2.2.2.2.2.2.2.2.2.2.1 (fun r0 r1 r2 r3 r4 r5 r6 r7 r8 r9 r10 r11 r12 r13 aQ aM r16 r17 r18=>k (.nilp) [.var 111 cU (.pr (.ptr 1 []) (.pr (.row 10) (.p (.pair kI (.pair kI .unit)) r0))),.var 116 bF (.pr (.pr (.p ay r1) (.pr (.p kI r2) (.pr (.p kI r3) (.pr (.p kI r4) (.pr (.p kI r5) (.pr (.row 2) (.p .unit r6))))))) (.pr (.ptr 3 []) (.pr (.p kI r7) (.pr (.row 7) (.pr (.mp 8) (.pr (.row 9) (.p .unit r8))))))),.row 46 kS r9,.var 120 bh (.pr (.p ay r10) (.pr (.row 4) (.pr (.mp 5) (.pr (.row 6) (.p .unit r11))))),.row 181 a9 r12,.map aa kI r13,.row 3 kI aQ,.ob 140 .opq bH aM none,.map aF bk r16,.row 475 aF r17,.ob 126 b7 cb r18 none]) (fun r0 r1 r2 r3 r4 r5 r6 r7 r8 r9 r10 r11 r12 r13 aQ aM r16 r17 r18 aX bn r21 r22 r23 r24=>k (.ptr 11 []) [.var 111 cU (.pr (.ptr 1 []) (.pr (.row 10) (.p (.pair kI (.pair kI .unit)) r0))),.var 116 bF (.pr (.pr (.p ay r1) (.pr (.p kI r2) (.pr (.p kI r3) (.pr (.p kI r4) (.pr (.p kI r5) (.pr (.row 2) (.p .unit r6))))))) (.pr (.ptr 3 []) (.pr (.p kI r7) (.pr (.row 7) (.pr (.mp 8) (.pr (.row 9) (.p .unit r8))))))),.row 46 kS r9,.var 120 bh (.pr (.p ay r10) (.pr (.row 4) (.pr (.mp 5) (.pr (.row 6) (.p .unit r11))))),.row 181 a9 r12,.map aa kI r13,.row 3 kI aQ,.ob 140 .opq bH aM none,.map aF bk r16,.row 475 aF r17,.ob 126 b7 cb r18 (some (aX,.pr (.nilp) (.pr (.ptr 11 []) (.pr (.ptr 13 []) (.p .unit bn))))),.var 139 dR (.pr (.row 12) (.p .unit r21)),.row 193 cg r22,.var 139 dR (.pr (.row 14) (.p .unit r23)),.row 193 cg r24]) (fun r0 r1 r2 r3 r4 r5 r6 r7 r8 r9 r10 r11 r12 r13 aQ aM r16 r17 r18 aX bn r21 r22 r23 r24 cD bV r27 r28 r29=>k (.ptr 16 []) [.var 111 cU (.pr (.ptr 1 []) (.pr (.row 10) (.p (.pair kI (.pair kI .unit)) r0))),.var 116 bF (.pr (.pr (.p ay r1) (.pr (.p kI r2) (.pr (.p kI r3) (.pr (.p kI r4) (.pr (.p kI r5) (.pr (.row 2) (.p .unit r6))))))) (.pr (.ptr 3 []) (.pr (.p kI r7) (.pr (.row 7) (.pr (.mp 8) (.pr (.row 9) (.p .unit r8))))))),.row 46 kS r9,.var 120 bh (.pr (.p ay r10) (.pr (.row 4) (.pr (.mp 5) (.pr (.row 6) (.p .unit r11))))),.row 181 a9 r12,.map aa kI r13,.row 3 kI aQ,.ob 140 .opq bH aM none,.map aF bk r16,.row 475 aF r17,.ob 126 b7 cb r18 (some (aX,.pr (.ptr 11 []) (.pr (.ptr 16 []) (.pr (.ptr 18 []) (.p .unit bn))))),.var 260 mM (.pr (.ptr 12 []) (.p (.pair kI (.pair kI (.pair kI .unit))) r21)),.var 308 iB (.pr (.row 13) (.pr (.row 14) (.pr (.mp 15) (.p .unit r22)))),.row 163 bG r23,.row 24 aa r24,.map aa kI cD,.var 139 dR (.pr (.row 17) (.p .unit bV)),.row 193 cg r27,.var 139 dR (.pr (.row 19) (.p .unit r28)),.row 193 cg r29]) (fun r0 r1 r2 r3 r4 r5 r6 r7 r8 r9 r10 r11 r12 r13 aQ aM r16 r17 r18 aX bn r21 r22 r23 r24=>k (.ptr 13 []) [.var 111 cU (.pr (.ptr 1 []) (.pr (.row 10) (.p (.pair kI (.pair kI .unit)) r0))),.var 116 bF (.pr (.pr (.p ay r1) (.pr (.p kI r2) (.pr (.p kI r3) (.pr (.p kI r4) (.pr (.p kI r5) (.pr (.row 2) (.p .unit r6))))))) (.pr (.ptr 3 []) (.pr (.p kI r7) (.pr (.row 7) (.pr (.mp 8) (.pr (.row 9) (.p .unit r8))))))),.row 46 kS r9,.var 120 bh (.pr (.p ay r10) (.pr (.row 4) (.pr (.mp 5) (.pr (.row 6) (.p .unit r11))))),.row 181 a9 r12,.map aa kI r13,.row 3 kI aQ,.ob 140 .opq bH aM none,.map aF bk r16,.row 475 aF r17,.ob 126 b7 cb r18 (some (aX,.pr (.nilp) (.pr (.ptr 11 []) (.pr (.ptr 13 []) (.p .unit bn))))),.var 139 dR (.pr (.row 12) (.p .unit r21)),.row 193 cg r22,.var 139 dR (.pr (.row 14) (.p .unit r23)),.row 193 cg r24]) (fun r0 r1 r2 r3 r4 r5 r6 r7 r8 r9 r10 r11 r12 r13 aQ aM r16 r17 r18 aX bn r21 r22 r23 r24 cD bV r27 r28 r29=>k (.ptr 18 []) [.var 111 cU (.pr (.ptr 1 []) (.pr (.row 10) (.p (.pair kI (.pair kI .unit)) r0))),.var 116 bF (.pr (.pr (.p ay r1) (.pr (.p kI r2) (.pr (.p kI r3) (.pr (.p kI r4) (.pr (.p kI r5) (.pr (.row 2) (.p .unit r6))))))) (.pr (.ptr 3 []) (.pr (.p kI r7) (.pr (.row 7) (.pr (.mp 8) (.pr (.row 9) (.p .unit r8))))))),.row 46 kS r9,.var 120 bh (.pr (.p ay r10) (.pr (.row 4) (.pr (.mp 5) (.pr (.row 6) (.p .unit r11))))),.row 181 a9 r12,.map aa kI r13,.row 3 kI aQ,.ob 140 .opq bH aM none,.map aF bk r16,.row 475 aF r17,.ob 126 b7 cb r18 (some (aX,.pr (.ptr 11 []) (.pr (.ptr 16 []) (.pr (.ptr 18 []) (.p .unit bn))))),.var 260 mM (.pr (.ptr 12 []) (.p (.pair kI (.pair kI (.pair kI .unit))) r21)),.var 308 iB (.pr (.row 13) (.pr (.row 14) (.pr (.mp 15) (.p .unit r22)))),.row 163 bG r23,.row 24 aa r24,.map aa kI cD,.var 139 dR (.pr (.row 17) (.p .unit bV)),.row 193 cg r27,.var 139 dR (.pr (.row 19) (.p .unit r28)),.row 193 cg r29])
theorem aes(n:Nat):Qo A (Ev [] [] [] []) Tryz.f17 [.own] (Hh (Hi n)):=.mk
theorem aer(n:Nat):OK A 17 (Hh (uT n)):=ak (aes n) Tryz.func17 ag oz
def HA(g:kE A):Entry A:=cu [true] ⟨[(.ptr 0)],[(.var 139 dR (.pr (.row 1) (.p .unit))),(.row 193 cg)],2⟩ fun d k=>g d.2.1.2 d.2.2.1 (fun r0=>k (.p kI r0) [])
theorem aeI(n:Nat):Qr A (Ev [] [] [] []) Tryz.f18 [.pure] (HA (An n)):=.mk
theorem aeH(n:Nat):OK A 18 (HA (sy n)):=cR (aeI n) Tryz.func18 ag oz
end Go.Ev
