import Derived.Test.YtbgcimciannhmaaGreatDoorB3
import Derived.Test.YtbgcimciannhmaaGreatDoorB4
import Derived.Orders
import Derived.CallsIn
import Derived.LoopN
import Derived.LoopNIn
import Derived.Scope
/- A part of the proof of TopQuiet; no condition. -/
set_option linter.all false
set_option maxRecDepth 100000
namespace Go.Ev
variable{A:Type}
theorem akF{X:Cx}(ok:Ok X){fresh:Nat}{e:TypeId}{K:Kind}{o:OKd}{v:AV}(hun:X.unused fresh){l:List Nat}(hnd:l.Nodup){x:o.den}(hread:o.read (v.ren1 (aG l)) (l.map fun i=>(X.hp.getD i .gone).ren (aG l))=some x)(hfit:v.fits K=true){cs:List Value}(hra:RA X v cs)(hsz:0<K.size∧K.size≤maxLen) :
  ∃ Y:Cx,Y.w=X.w.alloc (.cells cs.toArray e)∧Y.hp=aR X.hp ((l.map fun i=>(i,Blk.gone))++[(fresh,.ob e K o [x] none)])∧Ok Y∧WEvo X Y∧HEvo X Y∧
   RS Y (.row fresh) (.slice (some ⟨X.w.heap.size,0,none⟩) 1 1):=by
 obtain⟨hel,hbl⟩:=MY hread
 have hcl:=RA.length hfit hra
 obtain⟨Z,zw,zhp,zF,zok,zW,zE,zρ⟩:=Dd (X:=X) rfl ok hnd (G:=[]) (by simp)
 rw[hbl] at zhp
 have zFX:∀ b,Z.F b→X.F b:=fun b hb=>by
  rw[zF] at hb
  rcases hb with hb|⟨g,hg,_⟩
  ·exact hb
  ·cases hg
 have hlen:(o.bl x).length=l.length:=by rw[← hbl];simp
 have atL:∀ (i id':Nat),l[i]?=some id'→∃ c d:Blk,X.hp[id']?=some c∧(o.bl x)[i]?=some d∧d=c.ren (aG l)∧c.plain=true:=fun i id' hi=>by
  have hd:(o.bl x)[i]?=some ((X.hp.getD id' .gone).ren (aG l)):=by rw[← hbl];simp[hi]
  have hp:=(gH hd).1
  cases hc:X.hp[id']? with
  | none=>rw[List.getD_eq_getElem?_getD,hc] at hp;cases hp
  | some c=>
   rw[List.getD_eq_getElem?_getD,hc] at hp hd
   exact⟨c,_,rfl,hd,rfl,by cases c<;>first|rfl|exact hp⟩
 have hid:fresh ∉ l:=fun hin=>by
  obtain⟨i,hi⟩:=List.mem_iff_getElem?.1 hin
  obtain⟨c,d,g1,_,_,g4⟩:=atL i _ hi
  exact hun.ne g1 (gc (M0 g4)) rfl
 let p':=nQ X.w.heap.size [(l.length,Z.ρ)]
 have hroot:br p'=X.w.heap.size:=MX _ _
 have plJ:∀ j i:Nat,bm p' j i=if j=0∧i<l.length then Z.ρ i else none:=fun j i=>by
  rw[CP]
  cases j with
  | zero=>simp
  | succ j=>simp
 have ownJ:∀ (j i b:Nat),bm p' j i=some b→j=0∧∃ (id':Nat) (c:Blk),l[i]?=some id'∧X.hp[id']?=some c∧c.at (X.ρ id') b:=fun j i b hb=>by
  rw[plJ] at hb
  split at hb
  ·rename_i hi
   rw[zρ,List.getElem?_eq_getElem hi.2] at hb
   obtain⟨c,d,g1,g2,g3,g4⟩:=atL i _ (List.getElem?_eq_getElem hi.2)
   exact⟨hi.1,_,c,List.getElem?_eq_getElem hi.2,g1,(dc g4).2 hb⟩
  ·cases hb
 let B':Blk:=.ob e K o [x] none
 let L:List (Nat×Blk):=(l.map fun i=>(i,Blk.gone))++[(fresh,B')]
 let Y:Cx:=⟨bK X.ρ fresh (some p'),aR X.hp L,X.F,X.w.alloc (.cells cs.toArray e)⟩
 have inL:∀ q∈L,(q.1∈l∧q.2=.gone)∨q=(fresh,B'):=fun q hq=>by
  rcases List.mem_append.1 hq with hq|hq
  ·obtain⟨i,hi,rfl⟩:=List.mem_map.1 hq;exact .inl ⟨hi,rfl⟩
  ·exact .inr (by simpa using hq)
 have gId:Y.hp[fresh]?=some B':=by
  refine i5 _ _ _ _ (fun q hq e=>?_) ⟨(fresh,B'),by simp[L],rfl⟩
  rcases inL q hq with ⟨h,_⟩|rfl
  ·exact absurd (e▸h) hid
  ·rfl
 have gL:∀ i∈l,Y.hp[i]?=some .gone:=fun i hi=>by
  refine i5 _ _ _ _ (fun q hq e=>?_) ⟨(i,.gone),List.mem_append.2 (.inl (List.mem_map.2 ⟨i,hi,rfl⟩)),rfl⟩
  rcases inL q hq with ⟨_,h⟩|rfl
  ·exact h
  ·simp only at e;exact absurd (e▸hi) hid
 have gOld:∀ k b,X.hp[k]?=some b→k≠fresh→k ∉ l→Y.hp[k]?=some b:=fun k b hb h1 h2=>by
  refine i6 _ _ _ _ (fun q hq e=>?_) hb
  rcases inL q hq with ⟨h,_⟩|rfl
  ·exact h2 (e▸h)
  ·exact h1 e.symm
 have cases':∀ k c,Y.hp[k]?=some c→c.live=true→(k=fresh∧c=B')∨(k≠fresh∧k ∉ l∧X.hp[k]?=some c):=fun k c hc hn=>by
  by_cases hk:k=fresh
  ·subst hk;rw[gId] at hc;cases hc;exact .inl ⟨rfl,rfl⟩
  ·by_cases hl:k∈l
   ·rw[gL k hl] at hc;cases hc;cases hn
   ·rcases rR _ _ _ _ hc with ⟨q,hq,rfl,rfl⟩|⟨_,h|rfl⟩
    ·rcases inL q hq with ⟨h,_⟩|rfl
     ·exact absurd h hl
     ·exact absurd rfl hk
    ·exact .inr ⟨hk,hl,h⟩
    ·cases hn
 have ρId:Y.ρ fresh=some p':=ck ..
 have ρO:∀ k,k≠fresh→Y.ρ k=X.ρ k:=fun k hk=>dp _ _ _ hk
 have toOwn:∀ b:Nat,B'.at (some p') b→b=X.w.heap.size∨∃ (k:Nat) (c:Blk),k∈l∧X.hp[k]?=some c∧c.at (X.ρ k) b:=fun b hb=>by
  obtain⟨p2,g1,g2⟩:=hb
  cases g1
  rcases g2 with rfl|⟨j',x',i,d,_,_,_,g5⟩
  ·exact .inl hroot
  ·obtain⟨_,id',c,g1,g2,g3⟩:=ownJ j' i b g5
   exact .inr ⟨id',c,List.mem_of_getElem? g1,g2,g3⟩
 have own:∀ b,b<X.w.heap.size→Y.Own b→X.Own b:=fun b hb ⟨k,c,g1,g2⟩=>by
  rcases cases' k c g1 g2.live with ⟨rfl,rfl⟩|⟨q1,q2,q3⟩
  ·rw[ρId] at g2
   rcases toOwn b g2 with rfl|⟨k',c',_,r2,r3⟩
   ·omega
   ·exact⟨k',c',r2,r3⟩
  ·rw[ρO k q1] at g2;exact⟨k,c,q3,g2⟩
 have hold:∀ k,k<X.w.heap.size→Y.w.heap[k]?=X.w.heap[k]?:=fun k hk=>heap_alloc_old X.w _ hk
 have hnew:Y.w.heap[X.w.heap.size]?=some (.cells cs.toArray e (0,0)):=heap_alloc_new X.w _
 have hls:∀ (b:Nat) (c:Array Value) (e:TypeId) (f:Nat×Nat),X.w.heap[b]?=some (Obj.cells c e f)→∃ c':Array Value,Y.w.heap[b]?=some (Obj.cells c' e f)∧c'.size=c.size:=fun b c e f h=>⟨c,by rw[hold b (Array.getElem?_eq_some_iff.1 h).1];exact h,rfl⟩
 have W:WEvo X Y:=⟨rfl,rfl,rfl,by show _≤(X.w.alloc _).heap.size;simp,hls,fun b hb _=>hold b hb,own,fun _ h=>h,fun _ h=>.inl h⟩
 have H:HEvo X Y:=⟨fun k b hb hn=>by
  have hk:=hun.ne hb hn
  by_cases hl:k∈l
  ·exact⟨.gone,gL k hl,.gone _⟩
  ·exact⟨b,gOld k b hb hk hl,.refl hn⟩,fun k b hb hn=>by rw[ρO k (hun.ne hb hn)];exact .rfl⟩
 refine⟨Y,rfl,rfl,⟨fun k c hc=>?_,fun k k' b c c' g1 g2 g3 g4=>?_,fun b hb=>⟨Nat.lt_of_lt_of_le (ok.fo b hb).1 W.size,fun ho=>(ok.fo b hb).2 (own b (ok.fo b hb).1 ho)⟩⟩,W,H,?_⟩
 ·by_cases hlv:c.live=true
  ·rcases cases' k c hc hlv with ⟨rfl,rfl⟩|⟨q1,q2,q3⟩
   ·refine .inr ⟨p',cs.toArray,1,[cs],ρId,by rw[hroot];exact hnew,by simp[hcl],by simp,by have:=hsz;omega,by simp,by simp[hcl],by rw[List.length_singleton,Nat.one_mul,← hcl];simp,fun j1 j2 i1 i2 b hb1 hb2=>?_,fun j1 i1 hb=>?_,fun j' x' cs' hx' hc' _=>?_,fun j' w hw=>by cases hw⟩
    ·obtain⟨e1,id1,c1,r1,r2,r3⟩:=ownJ j1 i1 b hb1
     obtain⟨e2,id2,c2,s1,s2,s3⟩:=ownJ j2 i2 b hb2
     have e:=ok.inj _ _ b _ _ r2 s2 r3 s3
     subst e
     have:=iG hnd r1
     rw[iG hnd s1] at this
     exact⟨by rw[e1,e2],(Option.some.inj this).symm⟩
    ·rw[hroot] at hb
     obtain⟨e1,id1,c1,r1,r2,r3⟩:=ownJ j1 i1 _ hb
     exact absurd (ok.lt ⟨id1,c1,r2,r3⟩) (Nat.lt_irrefl _)
    ·cases j' with
     | succ j'=>simp at hx'
     | zero=>
      simp only[List.getElem?_cons_zero,Option.some.injEq] at hx' hc'
      subst hx';subst hc'
      have hob:d9 Z.F X.w Z.ρ o K x cs:=by
       refine⟨by rw[← hel];exact mI hfit,?_,fun i d hd=>?_⟩
       ·have:=RA.emb zE (fun _=>rfl) hra
        rw[hel] at this
        have e:Z=⟨Z.ρ,o.bl x,Z.F,X.w⟩:=by rw[← zhp,← zw]
        rw[e] at this;exact this
       ·have:=(zok.blk i d (by rw[zhp];exact hd)).rb0 (gH hd).1 (gH hd).2
        have e:Z=⟨Z.ρ,o.bl x,Z.F,X.w⟩:=by rw[← zhp,← zw]
        rw[e] at this;exact this
      refine d9.congr (π:=Z.ρ) (fun i hi=>by rw[plJ,if_pos ⟨rfl,by omega⟩]) ?_
      refine hob.evo zFX (fun b hb=>hold b (ok.fo b (zFX b hb)).1) hls fun i d n hd hn=>hold n ?_
      obtain⟨id',hi⟩:∃ id',l[i]?=some id':=⟨_,List.getElem?_eq_getElem (by have:=(List.getElem?_eq_some_iff.1 hd).1;omega)⟩
      obtain⟨c,d',g1,_,_,g4⟩:=atL i id' hi
      rw[zρ,hi] at hn
      exact ok.lt ⟨id',c,g1,(dc g4).2 hn⟩
   ·exact(ok.blk k c q3).evo W H ok.fo (ρO k q1) fun n hn=>hold n (ok.lt ⟨k,c,q3,hn⟩)
  ·cases c<;>first|trivial|(simp[Blk.live] at hlv)
 ·rcases cases' k c g1 g3.live with ⟨rfl,rfl⟩|⟨q1,q2,q3⟩
  ·rw[ρId] at g3
   rcases cases' k' c' g2 g4.live with ⟨rfl,rfl⟩|⟨r1,r2,r3⟩
   ·rfl
   ·rw[ρO k' r1] at g4
    rcases toOwn b g3 with rfl|⟨k2,c2,s1,s2,s3⟩
    ·exact absurd (ok.lt ⟨k',c',r3,g4⟩) (Nat.lt_irrefl _)
    ·have e:=ok.inj _ _ b _ _ s2 r3 s3 g4
     subst e
     exact absurd s1 r2
  ·rw[ρO k q1] at g3
   rcases cases' k' c' g2 g4.live with ⟨rfl,rfl⟩|⟨r1,r2,r3⟩
   ·rw[ρId] at g4
    rcases toOwn b g4 with rfl|⟨k2,c2,s1,s2,s3⟩
    ·exact absurd (ok.lt ⟨k,c,q3,g3⟩) (Nat.lt_irrefl _)
    ·have e:=ok.inj _ _ b _ _ s2 q3 s3 g3
     subst e
     exact absurd s1 q2
   ·rw[ρO k' r1] at g4
    exact ok.inj _ _ b _ _ q3 r3 g3 g4
 ·refine(RS.one (by simp) (by simp) (by simp) (by simp)).2 ((nb gId).2 (.inr ⟨p',1,cs.toArray,ρId,by rw[hroot];rfl,by rw[hroot];exact hnew,by simp[hcl],by simp⟩))
section
variable{P:Program}{E:Env A}(T:aO P E){o:Oper}{ev:Operand→AV}{sub:List (Nat×Blk)}{fresh:Nat}{k:bX A}{out:A}
include T
theorem aaB{t:TypeId}{ps:Array (Nat×Operand)}{x:Operand}{ok:OKd}(ho:o.op=.buildSlice t 1 ps)(hps:ps.toList=[(0,x)])(h:DZ E sub t ok (ev x) fresh k=some out):∃ v l,k v l=some out∧aL P o ev sub fresh v l:=by
 have mx:x∈o.op.operands:=by
  simp only[Op.operands,ho,List.mem_toArray,List.mem_map,hps]
  exact⟨(0,x),by simp,rfl⟩
 have hps':ps=#[(0,x)]:=Array.toList_inj.1 hps
 unfold DZ at h
 obtain⟨i,hi,h⟩:=bq h
 split at h
 ·rename_i e hd
  obtain⟨j,hj,h⟩:=bq h
  obtain⟨hu,j',hj',hK,hpos,_⟩:=T.slice hi hd
  rw[hj] at hj';cases hj'
  simp only at h
  split at h
  ·cases h
  rename_i hany
  split at h
  ·rename_i hfit
   have hsm:j.K.size≤16777216:=by
    by_cases c:j.K.size≤16777216
    ·exact c
    ·rw[if_neg c] at h;cases h
   rw[if_pos hsm] at h
   split at h
   ·rename_i y hread
    have hnd:(dg (tz sub) 1000 (ev x).ids []).Nodup:=nM _ _ _ _ (by simp)
    generalize hl0:dg (tz sub) 1000 (ev x).ids []=l at h hread hnd
    have hlk:∀ id∈l,∃ c,sub.lookup id=some c:=fun id hid=>by
     obtain⟨m,hm⟩:=List.mem_iff_getElem?.1 hid
     have hbl:=(MY hread).2
     have hd:(ok.bl y)[m]?=some (((sub.lookup id).getD .gone).ren (aG l)):=by rw[← hbl];simp[hm]
     have hp:=(gH hd).1
     cases hc:sub.lookup id with
     | none=>rw[hc] at hp;cases hp
     | some c=>exact⟨c,rfl⟩
    obtain⟨inf,z,hin,hz,hszz,_,hcs,hzr⟩:=T.zeroInfo hj
    refine⟨_,_,h,fun q hq=>?_,fun X ac Kc Q at_ hun hk=>?_⟩
    ·rcases List.mem_append.1 hq with hq|hq
     ·obtain⟨id,hid,rfl⟩:=List.mem_map.1 hq
      exact .inr (hlk id hid)
     ·rw[List.mem_singleton] at hq;subst hq;exact .inl (Nat.le_refl _)
    ·have hread':ok.read ((ev x).ren1 (aG l)) (l.map fun i=>(X.hp.getD i .gone).ren (aG l))=some y:=by
      rw[← hread]
      congr 1
      refine List.map_congr_left fun id hid=>?_
      obtain⟨c,hc⟩:=hlk id hid
      rw[List.getD_eq_getElem?_getD,at_.sub id c hc,hc]
     have h1:=at_.opr x mx
     have hna:(ev x).isAny=false:=by simpa using hany
     obtain⟨vc,hra,hvc⟩:=(h1.to0 (ji hfit)).cells hna
     have hvl:=RA.length hfit hra
     ·obtain⟨Y,g1,g2,g3,g4,g5,g6⟩:=akF (e:=e) at_.ok (hun (fresh,.ob e j.K ok [y] none) (by simp) (Nat.le_refl _)) hnd hread' hfit hra ⟨hpos,by simp only[maxLen];omega⟩
      have hzl:z.cells.toList.length=j.K.size:=by simpa using hcs
      have hfill:Instr.fill (fun i=>some (i*j.K.size,j.K.size)) (List.replicate 1 z.cells.toList).flatten.toArray [(0,ac.eval x)]=some vc.toArray:=by
       simp only[Instr.fill,Nat.zero_mul]
       rw[if_neg (by rw[hvc];simp[hvl,hcs]),Mm (v:=ac.eval x) (vc:=vc) (cs:=(List.replicate 1 z.cells.toList).flatten) (off:=0) hvc (by simp[hvl,hcs]),wD (by simp[hvl,hcs])]
      have hnot:¬ 2^24<1*j.K.size:=by omega
      have hne:¬ 1*j.K.size=0:=by omega
      have hzrun:(zeroValue e).run P X.w=.ok z X.w:=by simp[zeroValue,typeInfo,hin,hz]
      have hzf:=wN z.cells.toList 1
      rw[hzl] at hzf
      simp only[Array.toArray_toList] at hzf
      have hr:(Instr.buildSlice t 1 (ps.map fun q=>(q.1,ac.eval q.2))).run P X.w=.ok (.slice (some ⟨X.w.heap.size,0,none⟩) 1 1) (X.w.alloc (.cells vc.toArray e)):=by
       have e1:(ps.map fun q=>(q.1,ac.eval q.2)).toList=[(0,ac.eval x)]:=by rw[Array.toList_map,hps];rfl
       simp only[Instr.buildSlice,Sem.run_bind,run_underlying hu,T.runSize hj X.w,Result.andThen_ok,gt_iff_lt,hnot,if_false,hne,hzrun,Sem.run_pure,hzf]
       rw[e1,hfill]
       simp[newRow]
      have hx:(execOp ac.eval o).run P X.w=.ok (.value (.slice (some ⟨X.w.heap.size,0,none⟩) 1 1)) (X.w.alloc (.cells vc.toArray e)):=by
       simp only[execOp,ho,Sem.run_bind,hr,Result.andThen_ok];rfl
      unfold Oper.wp;rw[hx,← g1]
      exact hk Y _ g2 g6 g3 g4 g5
   ·cases h
  ·cases h
 ·cases h
end
theorem V2{X:Cx}{id:Nat}{t:TypeId}{K:Kind}{o:OKd}{xs:List o.den}(h:Oc X id t K o xs none):∃ (p:Nat) (css:List (List Value)),(∀ q,X.ρ id=some q→q=p)∧(xs≠[]→X.ρ id=some p)∧css.length=xs.length∧(∀ c∈css,c.length=K.size)∧
  (X.ρ id=some p→(∀ j j' i i' b,bm p j i=some b→bm p j' i'=some b→j=j'∧i=i')∧(∀ j i,bm p j i≠some (br p)))∧
  (∀ j x cs,xs[j]?=some x→css[j]?=some cs→d9 X.F X.w (bm p j) o K x cs)∧∀ q u,css.flatten[q]?=some u→X.w.cell? ⟨br p,q,none⟩=some u:=by
 rcases h with ⟨h1,h2,_⟩|⟨p,cur,cap,css,h1,h2,h3,h4,h5,h6,h7,h8,h9,h10,h11,h12⟩
 ·have hx:xs=[]:=List.eq_nil_of_length_eq_zero h2
  subst hx
  exact⟨0,[],(fun q hq=>by rw[h1] at hq;cases hq),fun h=>absurd rfl h,rfl,by simp,(fun hq=>by rw[h1] at hq;cases hq),by simp,by simp⟩
 ·refine⟨p,css,(fun q hq=>by rw[h1] at hq;exact(Option.some.inj hq).symm),fun _=>h1,h6,h7,fun _=>⟨h9,h10⟩,fun j x cs hx hc=>h11 j x cs hx hc (fun v hv=>by cases hv),fun q u hq=>?_⟩
  rw[cell_of_row _ _ _ _ _ _ h2]
  rw[h8,List.getElem?_take] at hq
  split at hq
  ·simpa using hq
  ·cases hq
theorem akE{X:Cx}(ok:Ok X){id id2 fresh:Nat}{e:TypeId}{K:Kind}{o:OKd}{xs ys:List o.den}(hB:X.hp[id]?=some (.ob e K o xs none))(hB2:X.hp[id2]?=some (.ob e K o ys none))(hne:id2≠id)(hun:X.unused fresh){r:Nat}{w':World}{cur:Array Value}{cap:Nat}{css1 css2:List (List Value)}{p1 p2:Nat}(u1:∀ q,X.ρ id=some q→q=p1)(u2:xs≠[]→X.ρ id=some p1)(l1:css1.length=xs.length)(c1:∀ c∈css1,c.length=K.size)(d1:X.ρ id=some p1→(∀ j j' i i' b,bm p1 j i=some b→bm p1 j' i'=some b→j=j'∧i=i')∧(∀ j i,bm p1 j i≠some (br p1)))(a1:∀ j x cs,xs[j]?=some x→css1[j]?=some cs→d9 X.F X.w (bm p1 j) o K x cs)(v1:∀ q,X.ρ id2=some q→q=p2)(v2:ys≠[]→X.ρ id2=some p2)(l2:css2.length=ys.length)(c2:∀ c∈css2,c.length=K.size)(d2:X.ρ id2=some p2→(∀ j j' i i' b,bm p2 j i=some b→bm p2 j' i'=some b→j=j'∧i=i')∧(∀ j i,bm p2 j i≠some (br p2)))(a2:∀ j x cs,ys[j]?=some x→css2[j]?=some cs→d9 X.F X.w (bm p2 j) o K x cs)(hr:(X.ρ id=some p1∧r=br p1)∨r=X.w.heap.size)(hos:w'.os=X.w.os)(ht:w'.tape=X.w.tape)(hout:w'.output=X.w.output)(hsz:X.w.heap.size≤w'.heap.size)(hh:∀ k,k<X.w.heap.size→k≠r→w'.heap[k]?=X.w.heap[k]?)(hs:∀ (b:Nat) (c:Array Value) (e:TypeId) (f:Nat×Nat),X.w.heap[b]?=some (Obj.cells c e f)→∃ c':Array Value,w'.heap[b]?=some (Obj.cells c' e f)∧c'.size=c.size)(hcur:w'.heap[r]?=some (.cells cur e (0,0)))(hcs:cur.size=cap*K.size)(hle:xs.length+ys.length≤cap)(hcap:cap≤maxLen)(hfl:(css1++css2).flatten=cur.toList.take ((xs.length+ys.length)*K.size)) :
  ∃ Y:Cx,Y.w=w'∧Y.hp=aR X.hp [(id,.gone),(id2,.gone),(fresh,.ob e K o (xs++ys) none)]∧Ok Y∧WEvo X Y∧HEvo X Y∧
   RS Y (.row fresh) (.slice (some ⟨r,0,none⟩) (xs.length+ys.length) cap):=by
 have hlt:∀ {l:List o.den} {j:Nat} {x:o.den},l[j]?=some x→l≠[]:=fun {l j x} h e=>by subst e;simp at h
 let πs:List (Nat×eM):=(xs.zipIdx.map fun q=>((o.bl q.1).length,bm p1 q.2))++(ys.zipIdx.map fun q=>((o.bl q.1).length,bm p2 q.2))
 let p':=nQ r πs
 have hroot:br p'=r:=MX _ _
 have pl:∀ j i:Nat,bm p' j i=match (xs++ys)[j]? with
   | some x=>if i<(o.bl x).length then(if j<xs.length then bm p1 j i else bm p2 (j-xs.length) i) else none
   | none=>none:=fun j i=>by
  rw[CP]
  rcases Nat.lt_or_ge j xs.length with hj|hj
  ·rw[List.getElem?_append_left (by simpa using hj),List.getElem?_append_left hj]
   simp only[List.getElem?_map,List.getElem?_zipIdx,List.getElem?_eq_getElem hj,Option.map_some,Option.bind_some,hj,if_true,Nat.zero_add]
  ·rw[List.getElem?_append_right (by simpa using hj),List.getElem?_append_right hj]
   simp only[List.length_map,List.length_zipIdx,List.getElem?_map,List.getElem?_zipIdx,if_neg (Nat.not_lt.2 hj),Nat.zero_add]
   cases ys[j-xs.length]?<;>rfl
 have ownJ:∀ (j i b:Nat),bm p' j i=some b→(j<xs.length∧bm p1 j i=some b∧X.ρ id=some p1∧(Blk.ob e K o xs none).at (X.ρ id) b)∨(xs.length≤j∧bm p2 (j-xs.length) i=some b∧X.ρ id2=some p2∧(Blk.ob e K o ys none).at (X.ρ id2) b):=fun j i b hb=>by
  rw[pl] at hb
  split at hb
  ·rename_i x hx
   split at hb
   ·rename_i hi
    split at hb
    ·rename_i hj
     rw[List.getElem?_append_left hj] at hx
     exact .inl ⟨hj,hb,u2 (hlt hx),p1,u2 (hlt hx),.inr ⟨j,x,i,_,hx,(fun v hv=>by cases hv),List.getElem?_eq_getElem hi,hb⟩⟩
    ·rename_i hj
     have hj:=Nat.not_lt.1 hj
     rw[List.getElem?_append_right hj] at hx
     exact .inr ⟨hj,hb,v2 (hlt hx),p2,v2 (hlt hx),.inr ⟨_,x,i,_,hx,(fun v hv=>by cases hv),List.getElem?_eq_getElem hi,hb⟩⟩
   ·cases hb
  ·cases hb
 have two:∀ b,(Blk.ob e K o xs none).at (X.ρ id) b→¬ (Blk.ob e K o ys none).at (X.ρ id2) b:=fun b h1 h2=>hne (ok.inj _ _ b _ _ hB hB2 h1 h2).symm
 have rootAt:∀ b,X.ρ id=some p1→b=br p1→(Blk.ob e K o xs none).at (X.ρ id) b:=fun b h1 h2=>⟨p1,h1,.inl h2⟩
 have big:∀ {k:Nat} {c:Blk} {b:Nat},X.hp[k]?=some c→c.at (X.ρ k) b→b≠X.w.heap.size:=fun {k c b} h1 h2 e=>by
  have:=ok.lt ⟨k,c,h1,h2⟩
  omega
 have notR:∀ (j i b:Nat),bm p' j i=some b→b≠r:=fun j i b hb e=>by
  rcases hr with ⟨h1,h2⟩|h2
  ·rcases ownJ j i b hb with ⟨_,g2,g3,_⟩|⟨_,_,_,g4⟩
   ·exact(d1 g3).2 j i (by rw[g2,e,h2])
   ·exact two b (rootAt b h1 (e.trans h2)) g4
  ·rcases ownJ j i b hb with ⟨_,_,_,g4⟩|⟨_,_,_,g4⟩
   ·exact big hB g4 (e.trans h2)
   ·exact big hB2 g4 (e.trans h2)
 let B':Blk:=.ob e K o (xs++ys) none
 let L:List (Nat×Blk):=[(id,.gone),(id2,.gone),(fresh,B')]
 let Y:Cx:=⟨bK X.ρ fresh (some p'),aR X.hp L,X.F,w'⟩
 have f1:id≠fresh:=hun.ne hB (by simp)
 have f2:id2≠fresh:=hun.ne hB2 (by simp)
 have gId:Y.hp[fresh]?=some B':=dh ..
 have g1:Y.hp[id]?=some .gone:=et _ _ _ f1 (et _ _ _ (Ne.symm hne) (dh ..))
 have g2:Y.hp[id2]?=some .gone:=et _ _ _ f2 (dh ..)
 have gOld:∀ k b,X.hp[k]?=some b→k≠fresh→k≠id→k≠id2→Y.hp[k]?=some b:=fun k b hb h1 h2 h3=>et _ _ _ h1 (et _ _ _ h3 (et _ _ _ h2 hb))
 have cases':∀ k c,Y.hp[k]?=some c→c.live=true→(k=fresh∧c=B')∨(k≠fresh∧k≠id∧k≠id2∧X.hp[k]?=some c):=fun k c hc hn=>by
  by_cases hk:k=fresh
  ·subst hk;rw[gId] at hc;cases hc;exact .inl ⟨rfl,rfl⟩
  ·by_cases h1:k=id
   ·subst h1;rw[g1] at hc;cases hc;cases hn
   ·by_cases h2:k=id2
    ·subst h2;rw[g2] at hc;cases hc;cases hn
    ·rcases rR _ _ _ _ hc with ⟨q,hq,rfl,rfl⟩|⟨_,h|rfl⟩
     ·simp only[L,List.mem_cons,List.not_mem_nil,or_false] at hq
      rcases hq with rfl|rfl|rfl
      ·exact absurd rfl h1
      ·exact absurd rfl h2
      ·exact absurd rfl hk
     ·exact .inr ⟨hk,h1,h2,h⟩
     ·cases hn
 have ρId:Y.ρ fresh=some p':=ck ..
 have ρO:∀ k,k≠fresh→Y.ρ k=X.ρ k:=fun k hk=>dp _ _ _ hk
 have toOwn:∀ b:Nat,B'.at (some p') b→b=X.w.heap.size∨(Blk.ob e K o xs none).at (X.ρ id) b∨(Blk.ob e K o ys none).at (X.ρ id2) b:=fun b hb=>by
  obtain⟨q,h1,h2⟩:=hb
  cases h1
  rcases h2 with rfl|⟨j',x',i,d,_,_,_,g5⟩
  ·rw[hroot]
   rcases hr with ⟨h1,h2⟩|h2
   ·exact .inr (.inl (rootAt r h1 h2))
   ·exact .inl h2
  ·rcases ownJ j' i b g5 with ⟨_,_,_,h⟩|⟨_,_,_,h⟩
   ·exact .inr (.inl h)
   ·exact .inr (.inr h)
 have own:∀ b,b<X.w.heap.size→Y.Own b→X.Own b:=fun b hb ⟨k,c,g1,g2⟩=>by
  rcases cases' k c g1 g2.live with ⟨rfl,rfl⟩|⟨q1,_,_,q3⟩
  ·rw[ρId] at g2
   rcases toOwn b g2 with h|h|h
   ·omega
   ·exact⟨id,_,hB,h⟩
   ·exact⟨id2,_,hB2,h⟩
  ·rw[ρO k q1] at g2;exact⟨k,c,q3,g2⟩
 have rOwn:∀ b,b<X.w.heap.size→b=r→(Blk.ob e K o xs none).at (X.ρ id) b:=fun b hb e=>by
  rcases hr with ⟨h1,h2⟩|h2
  ·exact rootAt b h1 (e.trans h2)
  ·omega
 have W:WEvo X Y:=⟨hos,ht,hout,hsz,hs,fun b hb ho=>hh b hb fun e=>ho ⟨id,_,hB,rOwn b hb e⟩,own,fun _ h=>h,fun _ h=>.inl h⟩
 have H:HEvo X Y:=⟨fun k b hb hn=>by
  have hk:=hun.ne hb hn
  by_cases h1:k=id
  ·subst h1;exact⟨.gone,g1,.gone _⟩
  ·by_cases h2:k=id2
   ·subst h2;exact⟨.gone,g2,.gone _⟩
   ·exact⟨b,gOld k b hb hk h1 h2,.refl hn⟩,fun k b hb hn=>by rw[ρO k (hun.ne hb hn)];exact .rfl⟩
 have fk:∀ b,X.F b→w'.heap[b]?=X.w.heap[b]?:=fun b hb=>W.foreign ok.fo b hb
 refine⟨Y,rfl,rfl,⟨fun k c hc=>?_,fun k k' b c c' h1 h2 h3 h4=>?_,fun b hb=>⟨Nat.lt_of_lt_of_le (ok.fo b hb).1 hsz,fun ho=>(ok.fo b hb).2 (own b (ok.fo b hb).1 ho)⟩⟩,W,H,?_⟩
 ·by_cases hlv:c.live=true
  ·rcases cases' k c hc hlv with ⟨rfl,rfl⟩|⟨q1,q2,q2',q3⟩
   ·refine .inr ⟨p',cur,cap,css1++css2,ρId,by rw[hroot];exact hcur,hcs,by simpa using hle,hcap,by simp[l1,l2],fun c hc=>?_,by simpa using hfl,fun j1 j2 i1 i2 b hb1 hb2=>?_,fun j1 i1 hb=>by rw[hroot] at hb;exact notR _ _ _ hb rfl,fun j' x' cs' hx' hc' _=>?_,fun j' w hw=>by cases hw⟩
    ·rcases List.mem_append.1 hc with hc|hc
     ·exact c1 c hc
     ·exact c2 c hc
    ·rcases ownJ _ _ _ hb1 with ⟨a,b1,b2,b3⟩|⟨a,b1,b2,b3⟩<;>rcases ownJ _ _ _ hb2 with ⟨a',b1',b2',b3'⟩|⟨a',b1',b2',b3'⟩
     ·exact(d1 b2).1 _ _ _ _ _ b1 b1'
     ·exact absurd b3' (two b b3)
     ·exact absurd b3 (two b b3')
     ·have:=(d2 b2).1 _ _ _ _ _ b1 b1'
      exact⟨by omega,this.2⟩
    ·have hkeep:∀ (i:Nat) (d:Blk) (n:Nat),(o.bl x')[i]?=some d→bm p' j' i=some n→w'.heap[n]?=X.w.heap[n]?:=fun i d n hd hn=>by
      refine hh n ?_ (notR _ _ _ hn)
      rcases ownJ _ _ _ hn with ⟨_,_,_,h⟩|⟨_,_,_,h⟩
      ·exact ok.lt ⟨id,_,hB,h⟩
      ·exact ok.lt ⟨id2,_,hB2,h⟩
     rcases Nat.lt_or_ge j' xs.length with hj|hj
     ·have hx2:=hx'
      rw[List.getElem?_append_left hj] at hx'
      rw[List.getElem?_append_left (by omega)] at hc'
      refine(d9.congr (π':=bm p' j') (fun i hi=>?_) (a1 j' x' cs' hx' hc')).evo (fun _ h=>h) fk hs hkeep
      rw[pl,hx2];simp[hi,hj]
     ·have hx2:=hx'
      rw[List.getElem?_append_right hj] at hx'
      rw[List.getElem?_append_right (by omega),l1] at hc'
      refine(d9.congr (π':=bm p' j') (fun i hi=>?_) (a2 _ x' cs' hx' hc')).evo (fun _ h=>h) fk hs hkeep
      rw[pl,hx2];simp[hi,Nat.not_lt.2 hj]
   ·exact(ok.blk k c q3).evo W H ok.fo (ρO k q1) fun n hn=>hh n (ok.lt ⟨k,c,q3,hn⟩) fun e=>by
     have:=rOwn n (ok.lt ⟨k,c,q3,hn⟩) e
     exact q2 (ok.inj _ _ n _ _ q3 hB hn this)
  ·cases c<;>first|trivial|(simp[Blk.live] at hlv)
 ·rcases cases' k c h1 h3.live with ⟨rfl,rfl⟩|⟨q1,q2,q2',q3⟩
  ·rw[ρId] at h3
   rcases cases' k' c' h2 h4.live with ⟨rfl,rfl⟩|⟨r1,r2,r2',r3⟩
   ·rfl
   ·rw[ρO k' r1] at h4
    rcases toOwn b h3 with h|h|h
    ·exact absurd h (big r3 h4)
    ·exact absurd (ok.inj _ _ b _ _ r3 hB h4 h) r2
    ·exact absurd (ok.inj _ _ b _ _ r3 hB2 h4 h) r2'
  ·rw[ρO k q1] at h3
   rcases cases' k' c' h2 h4.live with ⟨rfl,rfl⟩|⟨r1,r2,r2',r3⟩
   ·rw[ρId] at h4
    rcases toOwn b h4 with h|h|h
    ·exact absurd h (big q3 h3)
    ·exact absurd (ok.inj _ _ b _ _ q3 hB h3 h) q2
    ·exact absurd (ok.inj _ _ b _ _ q3 hB2 h3 h) q2'
   ·rw[ρO k' r1] at h4
    exact ok.inj _ _ b _ _ q3 r3 h3 h4
 ·refine(RS.one (by simp) (by simp) (by simp) (by simp)).2 ((nb gId).2 (.inr ⟨p',cap,cur,ρId,by rw[hroot,List.length_append],by rw[hroot];exact hcur,hcs,by simpa using hle⟩))
section
variable{P:Program}{E:Env A}(T:aO P E){o:Oper}{ev:Operand→AV}{sub:List (Nat×Blk)}{fresh:Nat}{k:bX A}{out:A}
include T
theorem aal{t:TypeId}{s x:Operand}{c:Call}{id:Nat}{e:TypeId}{K:Kind}{okd:OKd}{xs:List okd.den}(ho:o.op=.call c)(hc:c.callee=.builtin .append)(ha:c.args.toList=[s,x])(ht:c.argTypes.toList=[t,t])(es:ev s=.row id)(hB:sub.lookup id=some (.ob e K okd xs none))(h:DN E sub t id e K okd xs (ev x) fresh k=some out):∃ v l,k v l=some out∧aL P o ev sub fresh v l:=by
 have ha':c.args=#[s,x]:=Array.toList_inj.1 ha
 have ht':c.argTypes=#[t,t]:=Array.toList_inj.1 ht
 have ms:s∈o.op.operands:=by simp[Op.operands,ho,Call.operands,hc,ha']
 have mx:x∈o.op.operands:=by simp[Op.operands,ho,Call.operands,hc,ha']
 have pre:∀ (ac:Act) (w w':World) (r:Value),(Builtin.append_ #[t,t] o.type #[ac.eval s,ac.eval x]).run P w=.ok r w'→(execOp ac.eval o).run P w=.ok (.value r) w':=fun ac w w' r hr=>by
  simp[execOp,ho,resolve,hc,ha',ht',invoke,builtin,hr]
 unfold DN at h
 split at h
 ·rename_i id2 ex
  obtain⟨B2,hB2,h⟩:=b9 h
  split at h
  ·rename_i e2 K2 o2 ys
   split at h
   ·rename_i ho2
    subst ho2
    split at h
    ·rename_i hh
     obtain⟨rfl,rfl,hne,hy0⟩:=hh
     obtain⟨ti,hti,h⟩:=bq h
     split at h
     ·rename_i e' hd
      split at h
      ·rename_i he;subst he
       obtain⟨tj,htj,h⟩:=bq h
       obtain⟨hu,j,hj,hK,hpos,hbpos⟩:=T.slice hti hd
       rw[htj] at hj;cases hj
       split at h
       ·rename_i hKj;subst hKj
        split at h
        ·rename_i hbytes
         obtain⟨inf,z,hi,hz,hsz,hby,hzs,hzr⟩:=T.zeroInfo htj
         refine⟨_,_,h,fun q hq=>?_,fun X a Kc Q at_ hun hk=>?_⟩
         ·simp only[List.mem_cons,List.not_mem_nil,or_false] at hq
          rcases hq with rfl|rfl|rfl
          ·exact .inr ⟨_,hB⟩
          ·exact .inr ⟨_,hB2⟩
          ·exact .inl (Nat.le_refl _)
         ·have hX:=at_.sub _ _ hB
          have hX2:=at_.sub _ _ hB2
          have hunf:X.unused fresh:=hun _ (List.mem_cons_of_mem _ (List.mem_cons_of_mem _ (List.mem_cons_self ..))) (Nat.le_refl _)
          have h1:=at_.opr s ms;rw[es] at h1
          have h2:=at_.opr x mx;rw[ex] at h2
          have hsrow:=(nb hX).1 ((RS.one (by simp) (by simp) (by simp) (by simp)).1 h1)
          have hyrow:=(nb hX2).1 ((RS.one (by simp) (by simp) (by simp) (by simp)).1 h2)
          obtain⟨p1,css1,u1,u2,l1,c1,d1,a1,w1⟩:=V2 (at_.ok.blk _ _ hX)
          obtain⟨p2,css2,v1,v2,l2,c2,d2,a2,w2⟩:=V2 (at_.ok.blk _ _ hX2)
          have hsmall:xs.length+ys.length≤140737488355328:=Nat.le_trans (Nat.le_mul_of_pos_right _ hbpos) hbytes
          have hml:xs.length+ys.length≤maxLen:=by simp only[maxLen];omega
          have hxl:css1.flatten.length=xs.length*tj.K.size:=by rw[eT c1,l1]
          have hyl:css2.flatten.length=ys.length*tj.K.size:=by rw[eT c2,l2]
          have fin:∀ (r cap:Nat) (cur:Array Value) (w':World),(Builtin.append_ #[t,t] o.type #[a.eval s,a.eval x]).run P X.w=.ok (.slice (some ⟨r,0,none⟩) (xs.length+ys.length) cap) w'→
            ((X.ρ id=some p1∧r=br p1)∨r=X.w.heap.size)→w'.os=X.w.os→w'.tape=X.w.tape→w'.output=X.w.output→X.w.heap.size≤w'.heap.size→(∀ k,k<X.w.heap.size→k≠r→w'.heap[k]?=X.w.heap[k]?)→
            (∀ (b:Nat) (c:Array Value) (e:TypeId) (f:Nat×Nat),X.w.heap[b]?=some (Obj.cells c e f)→∃ c':Array Value,w'.heap[b]?=some (Obj.cells c' e f)∧c'.size=c.size)→
            w'.heap[r]?=some (.cells cur e' (0,0))→cur.size=cap*tj.K.size→xs.length+ys.length≤cap→cap≤maxLen→(css1++css2).flatten=cur.toList.take ((xs.length+ys.length)*tj.K.size)→o.wp P a X.w Kc Q:=
           fun r cap cur w' hr g0 q1 q2 q3 q4 q5 q6 q7 q8 q9 q10 q11=>by
            obtain⟨Y,b1,b2,b3,b4,b5,b6⟩:=akE at_.ok hX hX2 hne hunf u1 u2 l1 c1 d1 a1 v1 v2 l2 c2 d2 a2 g0 q1 q2 q3 q4 q5 q6 q7 q8 q9 q10 q11
            unfold Oper.wp;rw[pre a X.w w' _ hr,← b1]
            exact hk Y _ b2 b6 b3 b4 b5
          rcases hyrow with ⟨g1,g2,g3⟩|⟨p2',capy,cury,g1,g2,g3,g4,g5⟩
          ·omega
          ·have e2:=v1 _ g1
           subst e2
           ·have hnl:css2.flatten.length=ys.length*inf.size:=by rw[hyl,hsz]
            have hyc:∀ q u,css2.flatten[q]?=some u→X.w.cell? ((⟨br p2',0,none⟩:Addr).add q)=some u:=fun q u hq=>by
             rw[add_lit,Nat.zero_add];exact w2 q u hq
            have hn1:∀ u∈css2.flatten,u.oneCell'=true:=fun u hu=>by
             obtain⟨c,hc,hu⟩:=List.mem_flatten.1 hu
             obtain⟨m,hm⟩:=List.mem_iff_getElem?.1 hc
             obtain⟨y,hy⟩:∃ y,ys[m]?=some y:=⟨_,List.getElem?_eq_getElem (by have:=(List.getElem?_eq_some_iff.1 hm).1;omega)⟩
             exact RA.one (a2 m y c hy hm).2.1 u hu
            rcases hsrow with ⟨k1,k2,k3⟩|⟨p1',cap',cur,k1,k2,k3,k4,k5⟩
            ·
             have hxs:xs=[]:=List.eq_nil_of_length_eq_zero k2
             have hcs1:css1=[]:=List.eq_nil_of_length_eq_zero (by rw[l1,k2])
             have hr:=run_append_nil (P:=P) X.w t o.type e' inf z hu hi hz ⟨br p2',0,none⟩ ys.length capy css2.flatten hnl hyc hy0 (by omega) (by rw[hby];have:=Nat.mul_le_mul_right tj.bytes (Nat.le_add_left ys.length xs.length);omega)
             have hge:=grownCap_ge X.w ys.length 0 e'
             rw[← k3,← g2] at hr
             have hr':(Builtin.append_ #[t,t] o.type #[a.eval s,a.eval x]).run P X.w=.ok (.slice (some ⟨X.w.heap.size,0,none⟩) (xs.length+ys.length) (grownCap X.w ys.length 0 e')) (X.w.drew.alloc (.cells (css2.flatten.toArray++Builtin.zeroCells z.cells (grownCap X.w ys.length 0 e'-ys.length)) e')):=by rw[k2,Nat.zero_add];exact hr
             refine fin X.w.heap.size (grownCap X.w ys.length 0 e') _ _ hr' (.inr rfl) rfl rfl rfl (by simp) (fun m hm _=>heap_alloc_old X.w.drew _ hm)
              (fun b c e f hc=>⟨c,by rw[heap_alloc_old X.w.drew _ (show b<X.w.drew.heap.size from(Array.getElem?_eq_some_iff.1 hc).1)];exact hc,rfl⟩) (heap_alloc_new X.w.drew _) ?_ (by omega) (grownCap_le_maxLen X.w ys.length 0 e' (by omega)) ?_
             ·simp only[Array.size_append,List.size_toArray,size_zeroCells,hzs,hyl,← Nat.add_mul]
              congr 1;omega
             ·rw[hcs1,k2,List.nil_append,Nat.zero_add,← hyl]
              simp only[Array.toList_append,List.toList_toArray]
              rw[List.take_append_of_le_length (by simp),List.take_of_length_le (by simp)]
            ·have e1:=u1 _ k1
             subst e1
             have hxc:∀ q u,css1.flatten[q]?=some u→X.w.cell? ((⟨br p1',0,none⟩:Addr).add q)=some u:=fun q u hq=>by
              rw[add_lit,Nat.zero_add];exact w1 q u hq
             obtain⟨cap'',m1,m2,m3,m4⟩:∃ cap'',cur.size=cap''*tj.K.size∧cap''≤maxLen∧css1.flatten=cur.toList.take (xs.length*tj.K.size)∧True:=by
              rcases at_.ok.blk _ _ hX with ⟨n1,_⟩|⟨p,cur2,cap2,css,n1,n2,n3,n4,n5,n6,n7,n8,_⟩
              ·rw[k1] at n1;cases n1
              ·rw[k1] at n1;cases n1
               rw[k3] at n2;cases n2
               refine⟨cap2,n3,n5,?_,trivial⟩
               refine List.ext_getElem? fun q=>?_
               by_cases hq:q<xs.length*tj.K.size
               ·have h1:=w1 q _ (List.getElem?_eq_getElem (by omega))
                rw[cell_of_row _ _ _ _ _ _ k3] at h1
                rw[List.getElem?_eq_getElem (by omega),List.getElem?_take,if_pos hq,← h1]
                simp
               ·rw[List.getElem?_eq_none (by omega),List.getElem?_take,if_neg hq]
             have hcc:cap''=cap':=Nat.eq_of_mul_eq_mul_right hpos (m1.symm.trans k4)
             subst hcc
             by_cases hroom:xs.length+ys.length≤cap''
             ·have hfit:xs.length*inf.size+css2.flatten.length≤cur.size:=by rw[hnl,hsz,k4,← Nat.add_mul];exact Nat.mul_le_mul_right _ hroom
              have hr:=run_append_room (P:=P) X.w t o.type e' inf hu hi (br p1') xs.length cap'' cur k3 ⟨br p2',0,none⟩ ys.length capy css2.flatten hnl hyc hn1 hroom hfit
              have hsz2:((cur.toList.take (xs.length*inf.size)++css2.flatten++cur.toList.drop (xs.length*inf.size+css2.flatten.length)).toArray).size=cur.size:=by
               simp only[List.size_toArray,List.length_append,List.length_take,List.length_drop,Array.length_toList];omega
              rw[← k2,← g2] at hr
              refine fin (br p1') cap'' _ _ hr (.inl ⟨k1,rfl⟩) rfl rfl rfl (by rw[qh];exact Nat.le_refl _) (fun m _ hm=>setRow_other _ _ _ _ hm)
               (fun b c e f hc=>?_) (setRow_heap _ _ _ _ _ _ k3) (by rw[hsz2,k4]) hroom m2 ?_
              ·by_cases hb:b=br p1'
               ·subst hb;rw[k3] at hc;cases hc;exact⟨_,setRow_heap _ _ _ _ _ _ k3,hsz2⟩
               ·exact⟨c,by rw[setRow_other _ _ _ _ hb];exact hc,rfl⟩
              ·rw[List.flatten_append,Nat.add_mul,hsz,← m3,← hxl,← hyl]
               simp only[List.toList_toArray]
               rw[List.take_append_of_le_length (by simp),List.take_of_length_le (by simp)]
             ·have hr:=run_append_grow (P:=P) X.w t o.type e' inf z hu hi hz ⟨br p1',0,none⟩ xs.length cap'' css1.flatten (by rw[hxl,hsz]) hxc ⟨br p2',0,none⟩ ys.length capy css2.flatten hnl hyc (by omega) (by omega) (growslice_fits (by omega) (by rw[hby];exact hbytes))
              have hge:=grownCap_ge X.w (xs.length+ys.length) cap'' e'
              rw[← k2,← g2] at hr
              refine fin X.w.heap.size (grownCap X.w (xs.length+ys.length) cap'' e') _ _ hr (.inr rfl) rfl rfl rfl (by simp) (fun m hm _=>heap_alloc_old X.w.drew _ hm)
               (fun b c e f hc=>⟨c,by rw[heap_alloc_old X.w.drew _ (show b<X.w.drew.heap.size from(Array.getElem?_eq_some_iff.1 hc).1)];exact hc,rfl⟩) (heap_alloc_new X.w.drew _) ?_ (by omega) (grownCap_le_maxLen X.w _ cap'' e' hml) ?_
              ·simp only[Array.size_append,List.size_toArray,List.length_append,size_zeroCells,hzs,hxl,hyl,← Nat.add_mul]
               congr 1;omega
              ·rw[List.flatten_append,Nat.add_mul,← hxl,← hyl]
               simp only[Array.toList_append,List.toList_toArray]
               rw[List.take_append_of_le_length (by simp),List.take_of_length_le (by simp)]
        ·cases h
       ·cases h
      ·cases h
     ·cases h
    ·cases h
   ·cases h
  ·cases h
 ·cases h
theorem aam{t:TypeId}{s x:Operand}{c:Call}(ho:o.op=.call c)(hc:c.callee=.builtin .append)(ha:c.args.toList=[s,x])(ht:c.argTypes.toList=[t,t])(h:DO E sub t (ev s) (ev x) fresh k=some out):∃ v l,k v l=some out∧aL P o ev sub fresh v l:=by
 unfold DO at h
 split at h
 ·rename_i id es
  split at h
  ·rename_i hB
   exact aal T ho hc ha ht es hB h
  ·rw[← es] at h
   exact Po T ho hc ha ht rfl h
 ·exact Po T ho hc ha ht rfl h
end
theorem akQ{P:Program}{o:Oper}{ev cv:Operand→AV}{sub:List (Nat×Blk)}{fresh:Nat}{v:AV}{l:List (Nat×Blk)}(G:List Nat)(hG:∀ id∈G,∃ c,sub.lookup id=some c∧c.live=true)(hcv:∀ (X X1:Cx) (a:Act),At X a o ev sub→X1.w=X.w→(∀ b,X.F b→X1.F b)→(∀ b,X.Held G b→X1.F b)→WEvo X X1→HEvo X X1→∀ x∈o.op.operands,RS X1 (cv x) (a.eval x))(hglo:∀ g,cv (.global g)=ev (.global g))(h:aL P o cv (sub.filter fun q=>!G.contains q.1) fresh v l):aL P o ev sub fresh v (G.map (fun g=>(g,Blk.gone))++l):=by
 have hlk:=fun id c=>CF G id c sub
 refine⟨fun q hq=>?_,fun X a K Q at_ hu hk=>?_⟩
 ·rcases List.mem_append.1 hq with hq|hq
  ·obtain⟨g,hg,rfl⟩:=List.mem_map.1 hq
   obtain⟨c,hc,_⟩:=hG g hg
   exact .inr ⟨c,hc⟩
  ·rcases h.1 q hq with h1|⟨c,h1⟩
   ·exact .inl h1
   ·exact .inr ⟨c,(hlk _ _ h1).1⟩
 ·
  have bE:∀ id∈G,∃ c,X.hp[id]?=some c∧c.live=true:=fun id hid=>by
   obtain⟨c,h1,h2⟩:=hG id hid
   exact⟨c,at_.sub _ _ h1,h2⟩
  have hlen:∀ g∈G,g<X.hp.length:=fun g hg=>by
   obtain⟨c,h1,_⟩:=bE g hg
   exact(List.getElem?_eq_some_iff.1 h1).1
  have hgl:(aR X.hp (G.map fun g=>(g,Blk.gone))).length=X.hp.length:=DT G X.hp hlen
  have back:∀ (id:Nat) (b:Blk),(aR X.hp (G.map fun g=>(g,Blk.gone)))[id]?=some b→(id∈G∧b=.gone)∨(id ∉ G∧X.hp[id]?=some b):=fun id b hb=>by
   have hlt:id<X.hp.length:=hgl▸(List.getElem?_eq_some_iff.1 hb).1
   have h1:=lN G X.hp id _ (List.getElem?_eq_getElem hlt) hlen
   rw[hb] at h1
   by_cases hg:id∈G
   ·rw[if_pos hg] at h1;exact .inl ⟨hg,Option.some.inj h1⟩
   ·rw[if_neg hg] at h1;exact .inr ⟨hg,by rw[List.getElem?_eq_getElem hlt];exact h1.symm⟩
  let X1:Cx:=⟨X.ρ,aR X.hp (G.map fun g=>(g,Blk.gone)),fun b=>X.F b∨X.Held G b,X.w⟩
  have own:∀ b,X1.Own b→X.Own b:=fun b ⟨id,blk,h1,h3⟩=>by
   rcases back id blk h1 with ⟨_,rfl⟩|⟨_,h4⟩
   ·exact h3.elim
   ·exact⟨id,blk,h4,h3⟩
  have W:WEvo X X1:=⟨rfl,rfl,rfl,Nat.le_refl _,fun _ c _ _ h=>⟨c,h,rfl⟩,fun _ _ _=>rfl,fun b _ ho=>own b ho,fun b hb=>.inl hb,fun b hb=>by
   rcases hb with hb|⟨g,hg,blk,h1,h3⟩
   ·exact .inl hb
   ·exact .inr (.inl ⟨g,blk,h1,h3⟩)⟩
  have H:HEvo X X1:=⟨fun id b hb hn=>by
   refine⟨_,lN G X.hp id b hb hlen,?_⟩
   split
   ·exact .gone _
   ·exact .refl hn,fun _ _ _ _=>.rfl⟩
  have ok1:Ok X1:=by
   refine⟨fun id b hb=>?_,fun id id' b c c' h1 h3 h5 h6=>?_,fun b hb=>?_⟩
   ·rcases back id b hb with ⟨_,rfl⟩|⟨_,h4⟩
    ·trivial
    ·exact(at_.ok.blk id b h4).evo W H at_.ok.fo rfl (fun _ _=>rfl)
   ·rcases back id c h1 with ⟨_,rfl⟩|⟨_,g1⟩
    ·exact h5.elim
    ·rcases back id' c' h3 with ⟨_,rfl⟩|⟨_,g2⟩
     ·exact h6.elim
     ·exact at_.ok.inj id id' b c c' g1 g2 h5 h6
   ·rcases hb with hb|⟨g,hg,blk,h1,h3⟩
    ·exact⟨(at_.ok.fo b hb).1,fun ho=>(at_.ok.fo b hb).2 (own b ho)⟩
    ·refine⟨at_.ok.lt ⟨g,blk,h1,h3⟩,fun⟨id,c,k1,k3⟩=>?_⟩
     rcases back id c k1 with ⟨_,rfl⟩|⟨hn,k4⟩
     ·exact k3.elim
     ·exact hn (at_.ok.inj g id b blk c h1 k4 h3 k3▸hg)
  have at1:At X1 a o cv (sub.filter fun q=>!G.contains q.1):=by
   refine⟨fun x hx=>?_,ok1,fun g=>?_,fun id b hb=>?_⟩
   ·exact hcv X X1 a at_ rfl (fun b hb=>.inl hb) (fun b hb=>.inr hb) W H x hx
   ·rw[hglo g]
    exact(at_.glo g).evo W H at_.ok.fo
   ·obtain⟨h1,h2⟩:=hlk id b hb
    have:=lN G X.hp id b (at_.sub _ _ h1) hlen
    rw[if_neg h2] at this
    exact this
  refine h.2 X1 a K Q at1 (fun q hq hf=>?_) fun Y u hY hv hok hW hH=>?_
  ·have hx:=hu q (List.mem_append.2 (.inr hq)) hf
   rcases hx with hx|hx
   ·left
    show(aR X.hp (G.map fun g=>(g,Blk.gone)))[q.1]?=none
    rw[List.getElem?_eq_none_iff,hgl]
    exact List.getElem?_eq_none_iff.1 hx
   ·right
    have:=lN G X.hp q.1 _ hx hlen
    rw[if_neg (fun hg=>by obtain⟨c,h1,h2⟩:=bE _ hg;rw[hx] at h1;cases h1;cases h2)] at this
    exact this
  ·exact hk Y u (by rw[DS];exact hY) hv hok (W.trans hW) (H.trans hH)
section
variable{P:Program}{E:Env A}(T:aO P E){o:Oper}{ev:Operand→AV}{sub:List (Nat×Blk)}{fresh:Nat}{k:bX A}{out:A}
theorem ak0{sub:List (Nat×Blk)}{v:AV}{id:Nat}{d:Σ K:Kind,K.den}(h:CY sub v=some (id,d)):v=.ptr id []∧∃ t,sub.lookup id=some (.var t d.1 (.p d.1 d.2)):=by
 unfold CY at h
 split at h
 ·rename_i id'
  split at h
  ·rename_i t K K' y hs
   split at h
   ·rename_i hK
    subst hK
    cases h
    exact⟨rfl,_,hs⟩
   ·cases h
  ·cases h
 ·cases h
include T in
theorem amG{t:TypeId}{a x:Operand}(hev:∀ g,ev (.global g)=eo E.gl g)(ho:o.op=.store t a x){id:Nat}{d:Σ K:Kind,K.den}(hp:CY sub (ev x)=some (id,d))(hn:MB sub (ev a)=true)(h:(E.ti t fun i=>if (AV.vp d.1 d.2).fits i.K then tx (sub.filter fun q=>![id].contains q.1) (ev a) (.vp d.1 d.2) (fun l=>k .any ((id,.gone)::l)) else none)=some out):∃ v l,k v l=some out∧aL P o ev sub fresh v l:=by
 classical
 obtain⟨hx,t',hs⟩:=ak0 hp
 obtain⟨K,y⟩:=d
 have hax:a≠x:=fun e=>by
  rw[e,hx] at hn
  simp[MB,hs,AV.npAt] at hn
 let cv:Operand→AV:=fun z=>if z=x then .vp K y else ev z
 have cvx:cv x=.vp K y:=if_pos rfl
 have cva:cv a=ev a:=if_neg hax
 have h':(E.ti t fun i=>if (AV.vp K y).isAny then none else if (AV.vp K y).fits i.K then tx (sub.filter fun q=>![id].contains q.1) (cv a) (.vp K y) (fun l=>(fun v l=>k v ((id,.gone)::l)) .any l) else none)=some out:=by
  rw[cva];exact h
 obtain⟨v,l,h1,h2⟩:=XD (k:=fun v l=>k v ((id,.gone)::l)) (ev:=cv) (y:=fun _=>.vp K y) T ho (fun i X ac h=>by rw[cvx] at h;exact h) h'
 refine⟨v,_,h1,akQ (cv:=cv) [id] (fun g hg=>?_) (fun X X1 ac at_ hw hF hH W H z hz=>?_) (fun g=>?_) h2⟩
 ·have:g=id:=by simpa using hg
  subst this
  exact⟨_,hs,rfl⟩
 ·by_cases hzx:z=x
  ·subst hzx
   rw[cvx]
   have h1:=at_.opr z hz;rw[hx] at h1
   have hX:=at_.sub _ _ hs
   obtain⟨b,off,K',q1,q2,q3⟩:=(jt hX).1 ((RS.one (by simp) (by simp) (by simp) (by simp)).1 h1)
   rw[cL] at q2
   cases q2
   obtain⟨_,b',cs,q4,q5,q6⟩:=at_.ok.blk _ _ hX
   rw[q1] at q4;cases q4
   have q6:RP X.F X.w K y cs:=q6
   rw[q3]
   refine RS.vp (hH b ⟨id,by simp,_,hX,by rw[q1];exact rfl⟩) (RP.evo W at_.ok.fo q6) fun j u hj=>?_
   have ha:(Addr.mk b 0 none).add j=⟨b,j,none⟩:=by
    simp[Addr.add]
    intro h;exact h.symm
   rw[ha,hw]
   simp[World.cell?,q5,hj]
  ·have:cv z=ev z:=if_neg hzx
   rw[this]
   exact(at_.opr z hz).evo W H at_.ok.fo
 ·by_cases hg:(.global g:Operand)=x
  ·exfalso
   rw[← hg,hev] at hx
   unfold eo at hx
   split at hx<;>cases hx
  ·exact if_neg hg
end
end Go.Ev
namespace Go.Ev
variable{A:Type}
section
variable{P:Program}{E:Env A}(T:aO P E)(fns:cS P E){o:Oper}{ev:Operand→AV}{sub:List (Nat×Blk)}{fresh:Nat}{k:bX A}{out:A}
include T fns
theorem akN(hev:∀ g,ev (.global g)=eo E.gl g)(h:th E o ev sub fresh k=some out):∃ v l,k v l=some out∧aL P o ev sub fresh v l:=by
 unfold th at h
 split at h
 ·rename_i x ho;exact VS T (.inl ho) h
 ·rename_i x ho;exact VS T (.inr ho) h
 ·rename_i c a b ho;exact akX ho h
 ·rename_i t ho;exact aaj T ho h
 ·rename_i t x ho;exact aaA ho h
 ·rename_i t ps ho;exact aaE T ho h
 ·rename_i t n ps ho
  split at h
  ·split at h
   ·rename_i hps;exact aaB T ho hps h
   ·cases h
  ·exact aaC T hev ho h
 ·rename_i t a ho;exact akg T ho h
 ·rename_i t a x ho
  split at h
  ·rename_i id d hpd
   split at hpd
   ·rename_i hnp
    exact amG T hev ho hpd hnp h
   ·cases hpd
  ·exact XD T (y:=fun i=>gX (some i.K) x (ev x)) ho (fun _ _ _=>MV) h
 ·rename_i x ho;exact akv ho h
 ·rename_i op t x y yt ho;exact aau T ho h
 ·rename_i op t x ho;exact am4 ho h
 ·rename_i s d x ho;exact abl T ho h
 ·rename_i t x ho;exact aao T ho h
 ·rename_i f first captured ho;exact akl ho h
 ·rename_i t l c ho;exact akn T ho h
 ·rename_i t r ho;exact akm T h ho
 ·rename_i t x lo hi ho;exact amw T ho h
 ·rename_i t x f ho;exact ajt T ho h
 ·rename_i t x f ho;exact aju T ho h
 ·rename_i t x ix ho;exact ajS T ho h
 ·rename_i t x ix ho;exact ajU T ho h
 ·rename_i t m x ok ho;exact VD T ho h
 ·rename_i t m x y ho;exact VN T hev (.inl ho) h
 ·rename_i t m x y ho;exact VN T hev (.inr ho) h
 ·rename_i t m x ho;obtain⟨v,l,h1,h2,_⟩:=VL T ho h;exact⟨v,l,h1,h2⟩
 ·rename_i t m s x ho;exact abQ ho h
 ·rename_i x i ho;exact abS ho h
 ·rename_i c ho
  split at h
  ·rename_i f hc
   split at h
   ·rename_i hsz;exact aaK fns hev ho hc hsz h
   ·cases h
  ·rename_i t hc
   split at h
   ·rename_i f cs ht
    split at h
    ·rename_i hsz;exact aaL fns hev ho hc ht hsz h
    ·cases h
   ·cases h
  ·rename_i hc
   split at h
   ·rename_i x t ts ha ht;exact aka T ho hc ha ht h
   ·cases h
  ·rename_i hc
   split at h
   ·rename_i s x t t' ha ht
    split at h
    ·rename_i htt;subst htt
     exact aam T ho hc ha ht h
    ·cases h
   ·cases h
  ·rename_i hc
   split at h
   ·rename_i d x t t' ha ht
    exact abm T ho hc ha ht h
   ·cases h
  ·rename_i hc
   split at h
   ·rename_i m x t ts ha ht;exact abF T ho hc ha ht h
   ·cases h
  ·rename_i hc
   split at h
   ·rename_i m t ts ha ht;exact aa1 T ho hc ha ht h
   ·cases h
  ·rename_i hc
   split at h
   ·rename_i x r ha
    exact VP ho hc ha (.inl ⟨rfl,rfl⟩) h
   ·cases h
  ·rename_i hc
   split at h
   ·rename_i x r ha
    exact VP ho hc ha (.inr ⟨rfl,rfl⟩) h
   ·cases h
  ·cases h
 ·cases h
theorem akM(hev:∀ g,ev (.global g)=eo E.gl g)(h:th E o ev sub fresh k=some out):∃ v l,k v l=some out∧aL P o ev sub fresh v l∧qo P o ev sub fresh v l:=by
 have plain:(∀ t m x,o.op≠.lookup t m x false)→(∀ t m x,o.op≠.mapEntry t m x)→∃ v l,k v l=some out∧aL P o ev sub fresh v l∧qo P o ev sub fresh v l:=fun h1 h2=>by
  obtain⟨v,l,g1,g2⟩:=akN T fns hev h
  exact⟨v,l,g1,g2,fun t m x e=>absurd e (h1 t m x),fun t m x e=>absurd e (h2 t m x)⟩
 cases ho:o.op with
 | lookup t m x ok=>
  cases ok with
  | true=>exact plain (fun _ _ _ e=>by rw[ho] at e;cases e) (fun _ _ _ e=>by rw[ho] at e;cases e)
  | false=>
   unfold th at h
   rw[ho] at h
   exact akj T ho h
 | mapEntry t m x=>
  unfold th at h
  rw[ho] at h
  exact VL T ho h
 | _=>exact plain (fun _ _ _ e=>by rw[ho] at e;cases e) (fun _ _ _ e=>by rw[ho] at e;cases e)
end
structure Stp where
 o:Oper
 on:Bool
 s:St
 v:AV
 l:List (Nat×Blk)
def Stp.next(p:Stp):St:=if p.on then { (p.s.put p.o.dst p.v) with hp:=aR p.s.hp p.l } else p.s.put p.o.dst (.tup [])
def Stp.fp(p:Stp):FP:=if p.on then⟨(p.s.sub p.o).map (·.1),p.l.map (·.1)⟩ else⟨[],[]⟩
def fR(ops:Array Oper)(o:Oper)(s:St)(on:Bool):Prop:=
 match o.guard with
 | none=>on=true
 | some (j,want)=>∃ g,(ops[j]?).bind (·.dst)=some g∧((∃ b,s.tm[g]?=some (.p .bool b)∧on=decide (b=want))∨(s.tm[g]?=some (.tup [])∧on=false))
inductive Chain(P:Program)(gl:GL)(ops:Array Oper):List Oper→St→List Stp→St→Prop where
 | nil (s:St):Chain P gl ops [] s [] s
 | cons {o:Oper} {r:List Oper} {s s':St} {p:Stp} {ps:List Stp} (h1:p.o=o) (h2:p.s=s) (h3:fR ops o s p.on)
   (h4:p.on=true→aL P o (St.ev gl s) (s.sub o) s.hp.length p.v p.l∧qo P o (St.ev gl s) (s.sub o) s.hp.length p.v p.l) (h5:Chain P gl ops r p.next ps s'):Chain P gl ops (o::r) s (p::ps) s'
theorem Eb{P:Program}{gl:GL}{ops:Array Oper}:∀ {os:List Oper} {s s':St} {ps:List Stp},Chain P gl ops os s ps s'→s'.m=s.m
 | _,_,_,_,.nil s=>rfl
 | _,_,_,_,@Chain.cons _ _ _ o r s s' p ps h1 h2 h3 h4 h5=>by
  subst h1;subst h2
  rw[Eb h5]
  unfold Stp.next
  have e:∀ v,(p.s.put p.o.dst v).m=p.s.m:=fun v=>by cases p.o.dst<;>rfl
  split<;>exact e _
theorem St.put_same{s:St}{g:Nat}{v:AV}(h:s.tm[g]?=some v):s.put (some g) v=s:=by
 obtain⟨hl,hv⟩:=List.getElem?_eq_some_iff.1 h
 simp only[St.put]
 rw[← hv,List.set_getElem_self]
section
variable{P:Program}{E:Env A}(T:aO P E)(fns:cS P E){out:A}
include T fns
theorem CR{ops:Array Oper}:∀ {os:List Oper} {s:St} {fps:List FP} {k:St→List FP→Option A},gg E ops os s fps k=some out→
  ∃ ps s',Chain P E.gl ops os s ps s'∧k s' ((ps.map Stp.fp).reverse++fps)=some out
 | [],s,fps,k,h=>⟨[],s,.nil s,by simpa[gg] using h⟩
 | o::r,s,fps,k,h=>by
  simp only[gg] at h
  have step:∀ {on:Bool} (s:St),fR ops o s true→uj E o s fps (fun s' fps'=>gg E ops r s' fps' k)=some out→
    ∃ ps s',Chain P E.gl ops (o::r) s ps s'∧k s' ((ps.map Stp.fp).reverse++fps)=some out:=fun {on} s hg h=>by
   unfold uj at h
   obtain⟨v,l,h,hs⟩:=akM T fns (fun g=>rfl) h
   obtain⟨ps,s',hc,hk⟩:=CR h
   refine⟨⟨o,true,s,v,l⟩::ps,s',.cons rfl rfl hg (fun _=>hs) hc,?_⟩
   simpa[Stp.fp] using hk
  have skip:∀ (s:St),fR ops o s false→gg E ops r (s.put o.dst (.tup [])) (⟨[],[]⟩::fps) k=some out→
    ∃ ps s',Chain P E.gl ops (o::r) s ps s'∧k s' ((ps.map Stp.fp).reverse++fps)=some out:=fun s hg h=>by
   obtain⟨ps,s',hc,hk⟩:=CR h
   refine⟨⟨o,false,s,.any,[]⟩::ps,s',.cons rfl rfl hg (fun h=>nomatch h) hc,?_⟩
   simpa[Stp.fp] using hk
  split at h
  ·rename_i hg
   exact step (on:=true) s (by simp[fR,hg]) h
  ·rename_i j want hg
   split at h
   ·cases h
   ·rename_i g hgd
    split at h
    ·rename_i b hb
     have key:(if b=want then uj E o (s.put (some g) (.p .bool b)) fps (fun s' fps'=>gg E ops r s' fps' k) else gg E ops r ((s.put (some g) (.p .bool b)).put o.dst (.tup [])) (⟨[],[]⟩::fps) k)=some out:=by
      cases b<;>simpa using h
     rw[St.put_same hb] at key
     split at key
     ·rename_i hbw
      exact step (on:=true) s (by simp only[fR,hg];exact⟨g,hgd,.inl ⟨b,hb,by simp[hbw]⟩⟩) key
     ·rename_i hbw
      exact skip s (by simp only[fR,hg];exact⟨g,hgd,.inl ⟨b,hb,by simp[hbw]⟩⟩) key
    ·rename_i hb
     exact skip s (by simp only[fR,hg];exact⟨g,hgd,.inr ⟨hb,trivial⟩⟩) h
    ·cases h
end
theorem v6{hp:List Blk}:∀ {l:List Nat} {id:Nat} {b:Blk},(l.filterMap fun id=>match hp[id]? with|some Blk.free=>none|some b=>some (id,b)|none=>none).lookup id=some b→hp[id]?=some b∧b≠.free
 | [],_,_,h=>by simp at h
 | i::l,id,b,h=>by
  rw[List.filterMap_cons] at h
  cases hi:hp[i]? with
  | none=>rw[hi] at h;exact v6 h
  | some c=>
   rw[hi] at h
   by_cases hc:c=.free
   ·subst hc;exact v6 h
   ·have h:(((i,c)::l.filterMap fun id=>match hp[id]? with|some Blk.free=>none|some b=>some (id,b)|none=>none):List (Nat×Blk)).lookup id=some b:=by
     cases c<;>first|exact h|exact absurd rfl hc
    simp only[List.lookup_cons] at h
    by_cases he:id=i
    ·subst he;simp at h;rw[← h];exact⟨hi,hc⟩
    ·rw[show(id==i)=false by simpa using he] at h;exact v6 h
theorem St.sub_get{s:St}{o:Oper}{id:Nat}{b:Blk}(h:(s.sub o).lookup id=some b):s.hp[id]?=some b:=(v6 h).1
theorem St.sub_free{s:St}{o:Oper}{id:Nat}{b:Blk}(h:(s.sub o).lookup id=some b):b≠.free:=(v6 h).2
theorem Rel.put{gl:GL}{X:Cx}{s:St}{a:Act}(h:Rel gl X s a){d:Option Tmp}{v:AV}{u:Value}(hr:RS X v u):Rel gl X (s.put d v) (a.put d u):=by
 cases d with
 | none=>exact h
 | some d=>
  refine⟨h.glo,h.defers,by simp[St.put,Act.put,h.size],fun i av hi=>?_,h.hp,h.ok⟩
  simp only[St.put,Act.put] at hi ⊢
  by_cases hd:d=i
  ·subst hd
   rw[List.getElem?_set] at hi
   simp only[if_true] at hi
   split at hi
   ·rename_i hl
    cases hi
    refine⟨u,?_,hr⟩
    rw[Array.getElem?_setIfInBounds_self_of_lt (by rw[h.size];exact hl)]
   ·cases hi
  ·rw[List.getElem?_set_ne hd] at hi
   rw[Array.getElem?_setIfInBounds_ne hd]
   exact h.tm i av hi
theorem Rel.step{gl:GL}{X Y:Cx}{s:St}{a:Act}{l:List (Nat×Blk)}(h:Rel gl X s a)(hp:Y.hp=aR X.hp l)(ok:Ok Y)(W:WEvo X Y)(H:HEvo X Y):Rel gl Y { s with hp:=aR s.hp l } a:=
 ⟨h.glo.evo W h.ok.fo,h.defers,h.size,fun i av hi=>by obtain⟨v,h1,h2⟩:=h.tm i av hi;exact⟨v,h1,h2.evo W H h.ok.fo⟩,by rw[hp,h.hp],ok⟩
theorem RS.undef{X:Cx}:RS X (.tup []) undef:=⟨#[],rfl,.nil⟩
theorem fR.wanted{gl:GL}{X:Cx}{ops:Array Oper}{o:Oper}{s:St}{on:Bool}{a:Act}(h:fR ops o s on)(hr:Rel gl X s a):Region.wanted o (yielded ops a.tmps)=on:=by
 unfold fR at h
 unfold Region.wanted
 cases hg:o.guard with
 | none=>rw[hg] at h;exact h.symm
 | some q=>
  obtain⟨j,want⟩:=q
  rw[hg] at h
  obtain⟨g,h1,⟨b,h2,h3⟩|⟨h2,h3⟩⟩:=h
  ·obtain⟨v,h4,h5⟩:=hr.tm g _ h2
   rw[RS.bool] at h5
   subst h5
   simp only[yielded,h1,Option.bind_some,h4,h3]
   cases b<;>cases want<;>rfl
  ·obtain⟨v,h4,us,h5,h6⟩:=hr.tm g _ h2
   subst h5
   simp only[yielded,h1,Option.bind_some,h4,h3]
   rfl
theorem yv{P:Program}{gl:GL}{ops:Array Oper}{Q:Exit→Act→World→Prop}:∀ {os:List Oper} {s s':St} {ps:List Stp},Chain P gl ops os s ps s'→∀ {i:Nat},ops.toList.drop i=os→∀ {X:Cx} {a:Act},Rel gl X s a→
  (∀ (Y:Cx) (a':Act),Rel gl Y s' a'→WEvo X Y→HEvo X Y→Q .normal a' Y.w)→wpOps P ops Q (List.range' i os.length) a X.w
 | _,_,_,_,.nil s,i,_,X,a,hr,hq=>hq X a hr (.refl X) (.refl X)
 | _,_,_,_,@Chain.cons _ _ _ o r s s' p ps h1 h2 h3 h4 h5,i,hd,X,a,hr,hq=>by
  subst h1;subst h2
  have hi:ops[i]?=some p.o:=by
   have:=congrArg (·[0]?) hd
   simpa using this
  have hd':ops.toList.drop (i+1)=r:=by
   have:=congrArg (List.drop 1) hd
   simpa[Nat.add_comm] using this
  rw[List.length_cons,List.range'_succ]
  simp only[wpOps,hi]
  rw[h3.wanted hr]
  cases hon:p.on with
  | false=>
   simp only[Bool.false_eq_true,if_false]
   have hn:p.next=p.s.put p.o.dst (.tup []):=by simp[Stp.next,hon]
   rw[hn] at h5
   exact yv h5 hd' (hr.put RS.undef) hq
  | true=>
   simp only[if_true]
   left
   refine(h4 hon).1.2 X a _ Q ⟨fun x _=>hr.ev x,hr.ok,hr.glo,fun id b hb=>by rw[hr.hp];exact St.sub_get hb⟩ (fun q _ hq=>.inl ?_) fun Y u hp hu ok W H=>?_
   ·rw[hr.hp];exact List.getElem?_eq_none hq
   ·have hn:p.next={ (p.s.put p.o.dst p.v) with hp:=aR p.s.hp p.l }:=by simp[Stp.next,hon]
    rw[hn] at h5
    have h6:=(hr.step hp ok W H).put (d:=p.o.dst) hu
    refine yv h5 hd' (X:=Y) (a:=a.put p.o.dst u) ?_ fun Z a' hz WZ HZ=>hq Z a' hz (W.trans WZ) (H.trans HZ)
    cases hdst:p.o.dst<;>rw[hdst] at h6<;>exact h6
end Go.Ev
namespace Go.Ev
def Stp.act(p:Stp)(s:St):St:=if p.on then { (s.put p.o.dst p.v) with hp:=aR s.hp p.l } else s.put p.o.dst (.tup [])
def app(S:Nat→Bool):Nat→List Stp→St→St
 | _,[],s=>s
 | i,p::ps,s=>app S (i+1) ps (if S i then p.act s else s)
theorem Pk{P:Program}{gl:GL}{ops:Array Oper}:∀ {os:List Oper} {s s':St} {ps:List Stp},Chain P gl ops os s ps s'→∀ i,app (fun _=>true) i ps s=s'
 | _,_,_,_,.nil s,_=>rfl
 | _,_,_,_,.cons h1 h2 h3 h4 h5,i=>by
  subst h2
  simp only[app,if_true]
  exact Pk h5 (i+1)
theorem yh(S:Nat→Bool):∀ (ps:List Stp) (i:Nat) (s:St),(∀ k,i≤k→S k=false)→app S i ps s=s
 | [],_,_,_=>rfl
 | p::ps,i,s,h=>by
  simp only[app,h i (Nat.le_refl _),Bool.false_eq_true,if_false]
  exact yh S ps (i+1) s fun k hk=>h k (by omega)
theorem ud{P:Program}{gl:GL}{ops:Array Oper}:∀ {os:List Oper} {s s':St} {ps:List Stp},Chain P gl ops os s ps s'→∀ (i j:Nat) (p:Stp),ps[j]?=some p→
  os[j]?=some p.o∧p.s=app (fun k=>decide (k<i+j)) i ps s∧fR ops p.o p.s p.on∧(p.on=true→aL P p.o (St.ev gl p.s) (p.s.sub p.o) p.s.hp.length p.v p.l∧qo P p.o (St.ev gl p.s) (p.s.sub p.o) p.s.hp.length p.v p.l)
 | _,_,_,_,.nil s,_,_,_,h=>by simp at h
 | _,_,_,_,@Chain.cons _ _ _ o r s s' p ps h1 h2 h3 h4 h5,i,j,p',h=>by
  subst h1;subst h2
  cases j with
  | zero=>
   simp at h;subst h
   refine⟨rfl,?_,h3,h4⟩
   exact(yh _ _ i p.s fun k hk=>by simp;omega).symm
  | succ j=>
   simp at h
   obtain⟨g1,g2,g3,g4⟩:=ud h5 (i+1) j p' h
   refine⟨by simpa using g1,?_,g3,g4⟩
   rw[g2]
   simp only[app,show i<i+(j+1) by omega,decide_true,if_true,show i+1+j=i+(j+1) by omega]
   rfl
theorem Ea{P:Program}{gl:GL}{ops:Array Oper}:∀ {os:List Oper} {s s':St} {ps:List Stp},Chain P gl ops os s ps s'→ps.length=os.length
 | _,_,_,_,.nil s=>rfl
 | _,_,_,_,.cons h1 h2 h3 h4 h5=>by simp[Ea h5]
def bE(hp:List Blk)(id:Nat):Blk:=(hp[id]?).getD .free
theorem Cr(hp:List Blk)(id:Nat)(b:Blk)(j:Nat):bE (aC hp id b) j=if j=id then b else bE hp j:=by
 unfold bE
 rw[jV]
 split
 ·rfl
 ·split
  ·rfl
  ·rename_i h
   rw[List.getElem?_eq_none (by omega)]
   split<;>rfl
theorem U7:∀ (L:List (Nat×Blk)) (hp hp':List Blk) (j:Nat),bE hp j=bE hp' j→bE (aR hp L) j=bE (aR hp' L) j
 | [],_,_,_,h=>h
 | q::L,hp,hp',j,h=>U7 L _ _ j (by rw[Cr,Cr,h])
theorem U8:∀ (L:List (Nat×Blk)) (hp:List Blk) (j:Nat),(∀ q∈L,q.1≠j)→bE (aR hp L) j=bE hp j
 | [],_,_,_=>rfl
 | q::L,hp,j,h=>by
  show bE (aR (aC hp q.1 q.2) L) j=_
  rw[U8 L _ j fun p hp=>h p (by simp[hp]),Cr,if_neg (Ne.symm (h q (by simp)))]
theorem ajN(hp:List Blk){i j:Nat}(b c:Blk)(h:i≠j):aC (aC hp i b) j c=aC (aC hp j c) i b:=by
 have len:∀ (hp:List Blk) (i:Nat) (b:Blk),(aC hp i b).length=max hp.length (i+1):=fun hp i b=>by
  unfold aC;split<;>simp<;>omega
 refine List.ext_getElem? fun k=>?_
 rw[jV,jV,jV,jV,len,len]
 by_cases h1:k=j
 ·subst h1
  rw[if_pos rfl,if_neg (Ne.symm h),if_pos rfl]
  rw[if_pos (by omega)]
 ·by_cases h2:k=i
  ·subst h2
   rw[if_neg h1,if_pos rfl,if_pos rfl,if_pos (by omega)]
  ·rw[if_neg h1,if_neg h2,if_neg h2,if_neg h1]
   repeat' split
   all_goals first|rfl|omega
theorem Pv:∀ (L:List (Nat×Blk)) (hp:List Blk) (i:Nat) (b:Blk),(∀ q∈L,q.1≠i)→aR (aC hp i b) L=aC (aR hp L) i b
 | [],_,_,_,_=>rfl
 | q::L,hp,i,b,h=>by
  show aR (aC (aC hp i b) q.1 q.2) L=aC (aR (aC hp q.1 q.2) L) i b
  rw[ajN _ _ _ (Ne.symm (h q (by simp))),Pv L _ i b fun p hp=>h p (by simp[hp])]
theorem Pu:∀ (L M:List (Nat×Blk)) (hp:List Blk),(∀ q∈L,∀ p∈M,p.1≠q.1)→aR (aR hp L) M=aR (aR hp M) L
 | [],_,_,_=>rfl
 | q::L,M,hp,h=>by
  show aR (aR (aC hp q.1 q.2) L) M=aR (aC (aR hp M) q.1 q.2) L
  rw[Pu L M _ fun q hq=>h q (by simp[hq]),Pv M hp _ _ fun p hp=>h q (by simp) p hp]
def Stp.wids(p:Stp):List Nat:=if p.on then p.l.map (·.1) else[]
def tw(tm:List AV)(d:Option Tmp)(v:AV):List AV:=match d with|some d=>tm.set d v|none=>tm
theorem rO(p:Stp)(s:St):p.act s=⟨tw s.tm p.o.dst (if p.on then p.v else .tup []),if p.on then aR s.hp p.l else s.hp,s.m⟩:=by
 unfold Stp.act
 cases p.on<;>cases hd:p.o.dst<;>rfl
theorem amt(tm:List AV){d e:Option Tmp}(v u:AV)(h:∀ x,d=some x→e≠some x):tw (tw tm d v) e u=tw (tw tm e u) d v:=by
 cases d with
 | none=>rfl
 | some d=>
  cases e with
  | none=>rfl
  | some e=>
   have hne:d≠e:=fun he=>h d rfl (he▸rfl)
   simp only[tw]
   rw[List.set_comm _ _ hne]
theorem aag{p q:Stp}(s:St)(h1:∀ d,p.o.dst=some d→q.o.dst≠some d)(h2:∀ i∈p.wids,i ∉ q.wids):p.act (q.act s)=q.act (p.act s):=by
 rw[rO,rO,rO,rO]
 simp only
 rw[amt s.tm (d:=p.o.dst) (e:=q.o.dst) _ _ h1]
 congr 1
 cases hpo:p.on<;>cases hqo:q.on<;>simp only[Bool.false_eq_true,if_false,if_true]
 refine Pu _ _ _ fun a ha b hb hab=>?_
 refine h2 b.1 ?_ ?_
 ·simp only[Stp.wids,hpo,if_true,List.mem_map];exact⟨b,hb,rfl⟩
 ·simp only[Stp.wids,hqo,if_true,List.mem_map];exact⟨a,ha,hab.symm⟩
theorem Pl{q:Stp}{S:Nat→Bool}:∀ (ps:List Stp) (i:Nat) (s:St),(∀ k p,ps[k]?=some p→S (i+k)=true→(∀ d,p.o.dst=some d→q.o.dst≠some d)∧∀ x∈p.wids,x ∉ q.wids)→
  app S i ps (q.act s)=q.act (app S i ps s)
 | [],_,_,_=>rfl
 | p::ps,i,s,h=>by
  simp only[app]
  have ih:=fun s=>Pl ps (i+1) s fun k p' hk hs=>h (k+1) p' (by simpa using hk) (by rw[← hs];congr 1;omega)
  cases hS:S i with
  | false=>simp only[Bool.false_eq_true,if_false];exact ih s
  | true=>
   simp only[if_true]
   obtain⟨g1,g2⟩:=h 0 p (by simp) hS
   rw[aag s g1 g2]
   exact ih _
theorem Pj{S S':Nat→Bool}:∀ (ps:List Stp) (i j:Nat) (s:St) (q:Stp),ps[j]?=some q→S (i+j)=false→S' (i+j)=true→(∀ k,k≠i+j→S' k=S k)→
  (∀ k p,ps[k]?=some p→j<k→S (i+k)=true→(∀ d,p.o.dst=some d→q.o.dst≠some d)∧∀ x∈p.wids,x ∉ q.wids)→app S' i ps s=q.act (app S i ps s)
 | [],_,_,_,_,h,_,_,_,_=>by simp at h
 | p::ps,i,j,s,q,h,h1,h2,h3,h4=>by
  simp only[app]
  cases j with
  | zero=>
   simp at h;subst h
   simp only[Nat.add_zero] at h1 h2 h3
   simp only[h1,h2,if_true,Bool.false_eq_true,if_false]
   have e:∀ (ps:List Stp) (k:Nat) (s:St),i<k→app S' k ps s=app S k ps s:=fun ps=>by
    induction ps with
    | nil=>intro k s _;rfl
    | cons p ps ih=>intro k s hk;simp only[app];rw[h3 k (by omega),ih (k+1) _ (by omega)]
   rw[e _ _ _ (Nat.lt_succ_self i)]
   exact Pl ps (i+1) s fun k p' hk hs=>h4 (k+1) p' (by simpa using hk) (by omega) (by rw[← hs];congr 1;omega)
  | succ j=>
   simp at h
   rw[h3 i (by omega)]
   exact Pj ps (i+1) j _ q h (by rw[← h1];congr 1;omega) (by rw[← h2];congr 1;omega) (fun k hk=>h3 k (by omega))
    fun k p' hk hjk hs=>h4 (k+1) p' (by simpa using hk) (by omega) (by rw[← hs];congr 1;omega)
theorem Pn{S S':Nat→Bool}{t:Nat}:∀ (ps:List Stp) (i:Nat) (s s':St),(∀ k p,ps[k]?=some p→p.o.dst=some t→S (i+k)=S' (i+k))→s.tm[t]?=s'.tm[t]?→(app S i ps s).tm[t]?=(app S' i ps s').tm[t]?
 | [],_,_,_,_,h=>h
 | p::ps,i,s,s',h,hs=>by
  simp only[app]
  refine Pn ps (i+1) _ _ (fun k p' hk hd=>by have:=h (k+1) p' (by simpa using hk) hd;rw[show i+1+k=i+(k+1) by omega];exact this) ?_
  have one:∀ (s:St),p.o.dst≠some t→(p.act s).tm[t]?=s.tm[t]?:=fun s hd=>by
   unfold Stp.act
   have e:∀ v,(s.put p.o.dst v).tm[t]?=s.tm[t]?:=fun v=>by
    cases hdd:p.o.dst with
    | none=>rfl
    | some d=>simp only[St.put];rw[List.getElem?_set_ne];intro e;rw[hdd,e] at hd;exact hd rfl
   cases p.on<;>exact e _
  by_cases hd:p.o.dst=some t
  ·have hS:=h 0 p (by simp) hd
   simp only[Nat.add_zero] at hS
   rw[hS]
   cases S' i with
   | false=>exact hs
   | true=>
    simp only[if_true]
    have hlt:t<s.tm.length↔t<s'.tm.length:=by
     constructor
     ·intro hl
      rw[List.getElem?_eq_getElem hl] at hs
      exact(List.getElem?_eq_some_iff.1 hs.symm).1
     ·intro hl
      rw[List.getElem?_eq_getElem hl] at hs
      exact(List.getElem?_eq_some_iff.1 hs).1
    have e:∀ v,(s.put p.o.dst v).tm[t]?=(s'.put p.o.dst v).tm[t]?:=fun v=>by
     simp only[hd,St.put,List.getElem?_set,if_true]
     by_cases hl:t<s.tm.length
     ·rw[if_pos hl,if_pos (hlt.1 hl)]
     ·rw[if_neg hl,if_neg (fun h=>hl (hlt.2 h))]
    unfold Stp.act
    cases p.on<;>exact e _
  ·have e1:(if S i then p.act s else s).tm[t]?=s.tm[t]?:=by split;exact one s hd;rfl
   have e2:(if S' i then p.act s' else s').tm[t]?=s'.tm[t]?:=by split;exact one s' hd;rfl
   rw[e1,e2];exact hs
theorem DJ(p:Stp)(s:St):(p.act s).hp=if p.on then aR s.hp p.l else s.hp:=by
 unfold Stp.act
 cases p.on
 ·cases p.o.dst<;>rfl
 ·rfl
theorem t5{S S':Nat→Bool}{id:Nat}:∀ (ps:List Stp) (i:Nat) (s s':St),(∀ k p,ps[k]?=some p→id∈p.wids→S (i+k)=S' (i+k))→bE s.hp id=bE s'.hp id→bE (app S i ps s).hp id=bE (app S' i ps s').hp id
 | [],_,_,_,_,h=>h
 | p::ps,i,s,s',h,hs=>by
  simp only[app]
  refine t5 ps (i+1) _ _ (fun k p' hk hd=>by have:=h (k+1) p' (by simpa using hk) hd;rw[show i+1+k=i+(k+1) by omega];exact this) ?_
  by_cases hd:id∈p.wids
  ·have hS:=h 0 p (by simp) hd
   simp only[Nat.add_zero] at hS
   rw[hS]
   cases S' i with
   | false=>exact hs
   | true=>
    simp only[if_true,DJ]
    cases p.on
    ·exact hs
    ·exact U7 _ _ _ _ hs
  ·have one:∀ (s:St),bE (p.act s).hp id=bE s.hp id:=fun s=>by
    rw[DJ]
    cases hon:p.on
    ·rfl
    ·refine U8 _ _ _ fun q hq e=>hd ?_
     simp only[Stp.wids,hon,if_true,List.mem_map];exact⟨q,hq,e⟩
   have e1:bE (if S i then p.act s else s).hp id=bE s.hp id:=by split;exact one s;rfl
   have e2:bE (if S' i then p.act s' else s').hp id=bE s'.hp id:=by split;exact one s';rfl
   rw[e1,e2];exact hs
theorem Pm{S:Nat→Bool}{id:Nat}{B:Blk}:∀ (ps:List Stp) (i k:Nat) (s:St) (pk:Stp),ps[k]?=some pk→S (i+k)=true→pk.on=true→(∀ hp,bE (aR hp pk.l) id=B)→
  (∀ k' p',ps[k']?=some p'→k<k'→id∈p'.wids→S (i+k')=false)→bE (app S i ps s).hp id=B
 | [],_,_,_,_,h,_,_,_,_=>by simp at h
 | p::ps,i,0,s,pk,h,hS,hon,hB,hlast=>by
  simp at h;subst h
  simp only[Nat.add_zero] at hS
  simp only[app,hS,if_true]
  have e:=t5 (S:=S) (S':=fun _=>false) (id:=id) ps (i+1) (p.act s) (p.act s) (fun k p' hk hid=>by
   have:=hlast (k+1) p' (by simpa using hk) (by omega) hid
   rw[show i+1+k=i+(k+1) by omega];exact this) rfl
  rw[e,yh _ _ _ _ (fun _ _=>rfl),DJ,hon]
  exact hB _
 | p::ps,i,k+1,s,pk,h,hS,hon,hB,hlast=>by
  simp at h
  simp only[app]
  exact Pm ps (i+1) k _ pk h (by rw[show i+1+k=i+(k+1) by omega];exact hS) hon hB fun k' p' hk' hlt hid=>by
   have:=hlast (k'+1) p' (by simpa using hk') (by omega) hid
   rw[show i+1+k'=i+(k'+1) by omega];exact this
end Go.Ev
namespace Go.Ev
variable{A:Type}
def mX(acc:List (List Nat))(o:Oper):List Nat:=
 o.held.foldl (fun l e=>if l.contains e.on then l else l++e.on::((acc.getD e.on []).filter fun x=>!l.contains x)) []
theorem anb{acc:List (List Nat)}{o:Oper}{i:Nat}(h:i∈mX acc o):∃ e∈o.held,i=e.on∨i∈acc.getD e.on []:=by
 have key:∀ (es:List Edge) (l:List Nat),i∈es.foldl (fun l e=>if l.contains e.on then l else l++e.on::((acc.getD e.on []).filter fun x=>!l.contains x)) l→i∈l∨∃ e∈es,i=e.on∨i∈acc.getD e.on []:=by
  intro es
  induction es with
  | nil=>intro l h;exact .inl h
  | cons e es ih=>
   intro l h
   rcases ih _ h with h|⟨e',he',h⟩
   ·simp only at h
    split at h
    ·exact .inl h
    ·rcases List.mem_append.1 h with h|h
     ·exact .inl h
     ·rcases List.mem_cons.1 h with h|h
      ·exact .inr ⟨e,by simp,.inl h⟩
      ·exact .inr ⟨e,by simp,.inr (List.mem_filter.1 h).1⟩
   ·exact .inr ⟨e',by simp[he'],h⟩
 rcases key _ _ h with h|h
 ·cases h
 ·exact h
theorem NT:∀ (os:List Oper) (acc:List (List Nat)),∃ tl,os.foldl (fun acc o=>acc++[mX acc o]) acc=acc++tl∧∀ j o,os[j]?=some o→(acc++tl)[acc.length+j]?=some (mX ((acc++tl).take (acc.length+j)) o)
 | [],acc=>⟨[],by simp,by simp⟩
 | o::os,acc=>by
  obtain⟨tl,h1,h2⟩:=NT os (acc++[mX acc o])
  refine⟨mX acc o::tl,by rw[List.foldl_cons,h1];simp,fun j o' hj=>?_⟩
  cases j with
  | zero=>
   simp at hj;subst hj
   simp
  | succ j=>
   simp at hj
   have:=h2 j o' hj
   simp only[List.append_assoc,List.cons_append,List.nil_append,List.length_append,List.length_cons,List.length_nil,Nat.zero_add] at this
   rw[show acc.length+(j+1)=acc.length+1+j by omega]
   exact this
theorem XY{os:List Oper}{i j:Nat}{o:Oper}(hj:os[j]?=some o)(h:i∈(hJ os).getD j []):∃ e∈o.held,i=e.on∨i∈(hJ os).getD e.on []:=by
 obtain⟨tl,h1,h2⟩:=NT os []
 have hW:hJ os=tl:=by simpa[hJ,mX] using h1
 have h3:=h2 j o hj
 simp only[List.nil_append,List.length_nil,Nat.zero_add] at h3
 rw[hW] at h ⊢
 rw[List.getD_eq_getElem?_getD,h3] at h
 obtain⟨e,he,h⟩:=anb h
 refine⟨e,he,h.imp id fun h=>?_⟩
 rw[List.getD_eq_getElem?_getD,List.getElem?_take] at h
 split at h
 ·rw[List.getD_eq_getElem?_getD];exact h
 ·simp at h
theorem abc{os:List Oper}{S:Nat→Bool}(hb:∀ (j:Nat) (o:Oper),os[j]?=some o→∀ e∈o.held,e.on<j)(hc:∀ (j:Nat) (o:Oper),os[j]?=some o→S j=true→∀ e∈o.held,S e.on=true) :
  ∀ (j:Nat),S j=true→∀ i∈(hJ os).getD j [],S i=true:=by
 intro j
 induction j using Nat.strongRecOn with
 | _ j ih=>
  intro hj i hi
  cases ho:os[j]? with
  | none=>
   obtain⟨tl,h1,h2⟩:=NT os []
   have hW:hJ os=tl:=by simpa[hJ,mX] using h1
   have hlen:tl.length=os.length:=by
    have:∀ (os:List Oper) (acc:List (List Nat)),(os.foldl (fun acc o=>acc++[mX acc o]) acc).length=acc.length+os.length:=fun os=>by
     induction os with
     | nil=>intro acc;rfl
     | cons o os ih=>intro acc;rw[List.foldl_cons,ih];simp;omega
    have:=this os []
    rw[h1] at this;simpa using this
   rw[hW,List.getD_eq_getElem?_getD,List.getElem?_eq_none (by rw[hlen];exact List.getElem?_eq_none_iff.1 ho)] at hi
   simp at hi
  | some o=>
   obtain⟨e,he,h⟩:=XY ho hi
   have hS:=hc j o ho hj e he
   rcases h with rfl|h
   ·exact hS
   ·exact ih e.on (hb j o ho e he) hS i h
theorem yC{a b:List Nat}(h:dJ a b=true):∀ x∈a,x ∉ b:=fun x hx hb=>by
 simp only[dJ,List.all_eq_true,Bool.not_eq_true'] at h
 have:=h x hx
 simp[hb] at this
theorem pR(p:Stp):p.fp.w=p.wids:=by unfold Stp.fp Stp.wids;cases p.on<;>rfl
structure Soft(ops:Array Oper)(ps:List Stp)(i j:Nat)(oi oj:Oper)(pi:Stp):Prop where
 look:oi.op.isLook=true
 entry:oj.op.isEntry=true
 apart:oi.apart ops oj=true
 none:pi.wids=[]
 one:∀ (k:Nat) (o:Oper),ops.toList[k]?=some o→o.op.isEntry=true→k=j
 between:∀ (k:Nat) (p:Stp),i<k→k<j→ps[k]?=some p→∀ x∈p.wids,x ∉ pi.fp.r
structure Indep(ops:Array Oper)(ps:List Stp):Prop where
 before:∀ (j:Nat) (o:Oper),ops.toList[j]?=some o→∀ e∈o.held,e.on<j
 pair:∀ i j oi oj pi pj,i<j→ops.toList[i]?=some oi→ops.toList[j]?=some oj→ps[i]?=some pi→ps[j]?=some pj→i∈(hJ ops.toList).getD j []∨
  (oi.apart ops oj=true∧(∀ x∈pi.fp.w,x ∉ pj.fp.r++pj.fp.w)∧∀ x∈pj.fp.w,x ∉ pi.fp.r)∨Soft ops ps i j oi oj pi
theorem ajR{ops:Array Oper}{ps:List Stp}(h:Cv ops (ps.map Stp.fp)=true)(hl:ps.length=ops.size):Indep ops ps:=by
 simp only[Cv,Bool.and_eq_true,List.all_eq_true,List.mem_range] at h
 obtain⟨_,h⟩:=h
 have base:∀ j o p,ops.toList[j]?=some o→ps[j]?=some p→(∀ e∈o.held,e.on<j)∧∀ i,i<j→(((hJ ops.toList).getD j []).contains i||match ops[i]?,(ps.map Stp.fp)[i]? with
    | some oi,some fi=>(oi.apart ops o&&dJ fi.w (p.fp.r++p.fp.w)&&dJ p.fp.w fi.r)||NF ops (ps.map Stp.fp) i j
    | _,_=>false)=true:=fun j o p hj hp=>by
  have hlt:j<ops.size:=by have:=(List.getElem?_eq_some_iff.1 hj).1;simpa using this
  have:=h j hlt
  have e1:ops[j]?=some o:=by rw[← Array.getElem?_toList];exact hj
  have e2:(ps.map Stp.fp)[j]?=some p.fp:=by rw[List.getElem?_map,hp];rfl
  rw[e1,e2] at this
  simp only[Bool.and_eq_true,List.all_eq_true,List.mem_range,decide_eq_true_eq] at this
  exact this
 refine⟨fun j o hj e he=>?_,fun i j oi oj pi pj hij hi hj hpi hpj=>?_⟩
 ·obtain⟨p,hp⟩:∃ p,ps[j]?=some p:=by
   have hlt:j<ps.length:=by rw[hl];have:=(List.getElem?_eq_some_iff.1 hj).1;simpa using this
   exact⟨ps[j],List.getElem?_eq_getElem hlt⟩
  exact(base j o p hj hp).1 e he
 ·have:=(base j oj pj hj hpj).2 i hij
  have e1:ops[i]?=some oi:=by rw[← Array.getElem?_toList];exact hi
  have e2:(ps.map Stp.fp)[i]?=some pi.fp:=by rw[List.getElem?_map,hpi];rfl
  rw[e1,e2] at this
  simp only[Bool.or_eq_true,Bool.and_eq_true] at this
  rcases this with h1|h1|h1
  ·exact .inl (by simpa using h1)
  ·exact .inr (.inl ⟨h1.1.1,yC h1.1.2,yC h1.2⟩)
  ·refine .inr (.inr ?_)
   have e3:ops[j]?=some oj:=by rw[← Array.getElem?_toList];exact hj
   unfold NF at h1
   rw[e1,e2,e3] at h1
   simp only[Bool.and_eq_true,List.all_eq_true,List.mem_range,List.isEmpty_iff] at h1
   obtain⟨⟨⟨⟨⟨g1,g2⟩,g3⟩,g4⟩,g5⟩,g6⟩:=h1
   refine⟨g1,g2,g3,by rw[← pR];exact g4,fun k o hk he=>?_,fun k p hik hkj hp x hx=>?_⟩
   ·have hk':ops[k]?=some o:=by rw[← Array.getElem?_toList];exact hk
    have hlt:k<ops.size:=(Array.getElem?_eq_some_iff.1 hk').1
    have:=g5 k hlt
    rw[hk'] at this
    simpa[he] using this
   ·have hlt:k<ops.size:=by rw[← hl];exact(List.getElem?_eq_some_iff.1 hp).1
    have:=g6 k hlt
    have e4:(ps.map Stp.fp)[k]?=some p.fp:=by rw[List.getElem?_map,hp];rfl
    rw[e4] at this
    simp only[hik,hkj,decide_true,Bool.and_true,Bool.not_true,Bool.false_or] at this
    rw[← pR] at hx
    exact yC this x hx
structure Fresh(ops:Array Oper)(ps:List Stp)(S:Nat→Bool)(j:Nat)(pj:Stp):Prop where
 looks:∀ k pk t,ps[k]?=some pk→pk.o.dst=some t→t∈pj.o.looksAt ops→S k=decide (k<j)
 blocks:∀ k pk x,ps[k]?=some pk→x∈pk.wids→x∈pj.fp.r++pj.fp.w→S k=decide (k<j)∨(j<k∧S k=true∧Soft ops ps j k pj.o pk.o pj)
 later:∀ k pk,ps[k]?=some pk→j<k→S k=true→(∀ d,pk.o.dst=some d→pj.o.dst≠some d)∧∀ x∈pk.wids,x ∉ pj.wids
theorem ajH{ops:Array Oper}{ps:List Stp}(I:Indep ops ps)(hops:∀ (k:Nat) (p:Stp),ps[k]?=some p→ops.toList[k]?=some p.o){S:Nat→Bool}(hc:∀ (j:Nat) (o:Oper),ops.toList[j]?=some o→S j=true→∀ e∈o.held,S e.on=true){j:Nat}{pj:Stp}(hj:ps[j]?=some pj)(hS:S j=false)(hr:∀ e∈pj.o.held,S e.on=true):Fresh ops ps S j pj:=by
 have hcl:=abc (fun j o hj e he=>I.before j o hj e he) hc
 have waitsIn:∀ k,k∈(hJ ops.toList).getD j []→S k=true:=fun k hk=>by
  obtain⟨e,he,h⟩:=XY (hops j pj hj) hk
  rcases h with rfl|h
  ·exact hr e he
  ·exact hcl e.on (hr e he) k h
 have notIn:∀ k,S k=true→j ∉ (hJ ops.toList).getD k []:=fun k hk hjk=>by
  have:=hcl k hk j hjk;rw[hS] at this;cases this
 have before:∀ k pk,ps[k]?=some pk→k<j→S k=true∨(pk.o.apart ops pj.o=true∧(∀ x∈pk.wids,x ∉ pj.fp.r++pj.fp.w)):=fun k pk hk hkj=>by
  rcases I.pair k j _ _ pk pj hkj (hops k pk hk) (hops j pj hj) hk hj with h|⟨h1,h2,_⟩|h
  ·exact .inl (waitsIn k h)
  ·exact .inr ⟨h1,by rw[← pR];exact h2⟩
  ·exact .inr ⟨h.apart,fun x hx=>by rw[h.none] at hx;cases hx⟩
 have behind:∀ k pk,ps[k]?=some pk→j<k→S k=false∨(pj.o.apart ops pk.o=true∧(∀ x∈pj.wids,x ∉ pk.fp.r++pk.wids)∧((∀ x∈pk.wids,x ∉ pj.fp.r)∨Soft ops ps j k pj.o pk.o pj)):=fun k pk hk hjk=>by
  rcases I.pair j k _ _ pj pk hjk (hops j pj hj) (hops k pk hk) hj hk with h|⟨h1,h2,h3⟩|h
  ·left
   cases hSk:S k with
   | false=>rfl
   | true=>exact absurd h (notIn k hSk)
  ·refine .inr ⟨h1,?_,?_⟩
   ·rw[← pR,← pR pk];exact h2
   ·left;rw[← pR];exact h3
  ·exact .inr ⟨h.apart,(fun x hx=>by rw[h.none] at hx;cases hx),.inr h⟩
 refine⟨fun k pk t hk ht hl=>?_,fun k pk x hk hx hl=>?_,fun k pk hk hjk hSk=>?_⟩
 ·rcases Nat.lt_trichotomy k j with h|h|h
  ·rcases before k pk hk h with h1|⟨h1,_⟩
   ·simp[h1,h]
   ·exact absurd hl ((Oper.apart_spec h1).1 t ht)
  ·subst h;simp[hS]
  ·rcases behind k pk hk h with h1|⟨h1,_⟩
   ·simp[h1];omega
   ·exact absurd hl ((Oper.apart_spec h1).2.2 t ht)
 ·rcases Nat.lt_trichotomy k j with h|h|h
  ·left
   rcases before k pk hk h with h1|⟨_,h1⟩
   ·simp[h1,h]
   ·exact absurd hl (h1 x hx)
  ·subst h;left;simp[hS]
  ·rcases behind k pk hk h with h1|⟨_,h1,h2⟩
   ·left;simp[h1];omega
   ·rcases List.mem_append.1 hl with hl|hl
    ·rcases h2 with h2|h2
     ·exact absurd hl (h2 x hx)
     ·cases hSk:S k with
      | false=>left;simp;omega
      | true=>exact .inr ⟨h,rfl,h2⟩
    ·rw[pR] at hl
     exact absurd (List.mem_append.2 (.inr hx)) (h1 x hl)
 ·rcases behind k pk hk hjk with h1|⟨h1,h2,_⟩
  ·rw[h1] at hSk;cases hSk
  ·exact⟨fun d hd hd'=>(Oper.apart_spec h1).2.1 d hd' hd,fun x hx hx'=>h2 x hx' (List.mem_append.2 (.inr hx))⟩
theorem UL{α:Type}{p q:α→Bool}:∀ {l:List α},(∀ x∈l,q x=true→p x=true)→∀ x0∈l,p x0=true→q x0=false→(l.filter q).length<(l.filter p).length
 | [],_,_,h,_,_=>by cases h
 | x::l,h,x0,h0,hp,hq=>by
  have le:(l.filter q).length≤(l.filter p).length:=by
   have:∀ l:List α,(∀ x∈l,q x=true→p x=true)→(l.filter q).length≤(l.filter p).length:=fun l=>by
    induction l with
    | nil=>intro _;simp
    | cons y l ih=>
     intro h
     have ih:=ih fun x hx=>h x (by simp[hx])
     rw[List.filter_cons,List.filter_cons]
     cases hq:q y with
     | true=>rw[h y (by simp) hq];simpa using ih
     | false=>cases p y<;>simp<;>omega
   exact this l fun x hx=>h x (by simp[hx])
  rw[List.filter_cons,List.filter_cons]
  rcases List.mem_cons.1 h0 with rfl|h0
  ·rw[hp,hq];simp;omega
  ·have ih:=UL (fun x hx=>h x (by simp[hx])) x0 h0 hp hq
   cases hqx:q x with
   | true=>rw[h x (by simp) hqx];simpa using ih
   | false=>cases p x<;>simp<;>omega
theorem DM{S S':Nat→Bool}:∀ (ps:List Stp) (i:Nat) (s:St),(∀ k,k<ps.length→S (i+k)=S' (i+k))→app S i ps s=app S' i ps s
 | [],_,_,_=>rfl
 | p::ps,i,s,h=>by
  simp only[app]
  have h0:=h 0 (by simp)
  simp only[Nat.add_zero] at h0
  rw[h0]
  exact DM ps (i+1) _ fun k hk=>by have:=h (k+1) (by simpa using hk);rw[show i+1+k=i+(k+1) by omega];exact this
theorem Nh{ops:Array Oper}{listed:Array Bool}{i:Nat}:i∈Region.ready .any ops listed↔i<ops.size∧listed.getD i true=false∧∃ o,ops[i]?=some o∧∀ e∈o.after.toList,Region.binds .any e=true→listed.getD e.on false=true:=by
 unfold Region.ready
 simp only[List.mem_filter,List.mem_range,Bool.and_eq_true,Bool.not_eq_true']
 constructor
 ·rintro⟨h1,h2,h3⟩
  refine⟨h1,h2,?_⟩
  obtain⟨o,ho⟩:∃ o,ops[i]?=some o:=⟨ops[i],Array.getElem?_eq_getElem h1⟩
  refine⟨o,ho,fun e he hb=>?_⟩
  rw[ho] at h3
  simp only[Option.map_some,Option.getD_some,Array.all_eq_true_iff_forall_mem,Bool.or_eq_true,Bool.not_eq_true'] at h3
  rcases h3 e (Array.mem_toList_iff.1 he) with h|h
  ·rw[hb] at h;cases h
  ·exact h
 ·rintro⟨h1,h2,o,ho,h3⟩
  refine⟨h1,h2,?_⟩
  rw[ho]
  simp only[Option.map_some,Option.getD_some,Array.all_eq_true_iff_forall_mem,Bool.or_eq_true,Bool.not_eq_true']
  intro e he
  cases hb:Region.binds .any e with
  | false=>exact .inl rfl
  | true=>exact .inr (h3 e (Array.mem_toList_iff.2 he) hb)
theorem Mv{hp:List Blk}{id:Nat}{b:Blk}(h:hp[id]?=some b):bE hp id=b:=by simp[bE,h]
theorem U9{hp:List Blk}{id:Nat}{b:Blk}(h:bE hp id=b)(hn:b≠.free):hp[id]?=some b:=by
 unfold bE at h
 cases hh:hp[id]? with
 | none=>rw[hh] at h;simp at h;exact absurd h.symm hn
 | some c=>rw[hh] at h;simp at h;rw[h]
theorem aaX{P:Program}{gl:GL}{ops:Array Oper}{Q:Exit→Act→World→Prop}{s s':St}{ps:List Stp}(hc:Chain P gl ops ops.toList s ps s')(I:Indep ops ps) :
  ∀ (fuel:Nat) (listed:Array Bool) (X:Cx) (a:Act),listed.size=ops.size→
  (∀ (j:Nat) (o:Oper),ops.toList[j]?=some o→listed.getD j true=true→∀ e∈o.held,listed.getD e.on true=true)→
  ((List.range ops.size).filter fun i=>!listed.getD i true).length≤fuel→Rel gl X (app (fun i=>listed.getD i true) 0 ps s) a→
  (∀ (Y:Cx) (a':Act),Rel gl Y s' a'→WEvo X Y→HEvo X Y→Q .normal a' Y.w)→wpAny P .any ops Q fuel listed a X.w:=by
 have hlen:ps.length=ops.size:=by rw[Ea hc];simp
 have done:∀ (listed:Array Bool),((List.range ops.size).filter fun i=>!listed.getD i true)=[]→app (fun i=>listed.getD i true) 0 ps s=s':=fun listed h=>by
  rw[← Pk hc 0]
  refine DM ps 0 s fun k hk=>?_
  rw[Nat.zero_add]
  by_cases hlt:k<ops.size
  ·have:k ∉ (List.range ops.size).filter fun i=>!listed.getD i true:=by rw[h];simp
   simp only[List.mem_filter,List.mem_range,hlt,true_and,Bool.not_eq_true',Bool.not_eq_false] at this
   exact this
  ·omega
 have noReady:∀ (listed:Array Bool),listed.size=ops.size→Region.ready .any ops listed=[]→((List.range ops.size).filter fun i=>!listed.getD i true)=[]:=fun listed hsz hr=>by
  have all:∀ j,j<ops.size→listed.getD j true=true:=by
   intro j
   induction j using Nat.strongRecOn with
   | _ j ih=>
    intro hj
    cases hl:listed.getD j true with
    | true=>rfl
    | false=>
     obtain⟨o,ho⟩:∃ o,ops[j]?=some o:=⟨ops[j],Array.getElem?_eq_getElem hj⟩
     have:j∈Region.ready .any ops listed:=Nh.2 ⟨hj,hl,o,ho,fun e he hb=>by
      have hlt:=I.before j o (by rw[Array.getElem?_toList];exact ho) e (List.mem_filter.2 ⟨he,hb⟩)
      have:=ih e.on hlt (by omega)
      have he':e.on<listed.size:=by omega
      simp only[Array.getD,he',dif_pos] at this ⊢
      exact this⟩
     rw[hr] at this;cases this
  rw[List.filter_eq_nil_iff]
  intro j hj
  simp[all j (by simpa using hj)]
 intro fuel
 induction fuel with
 | zero=>
  intro listed X a hsz hcl hf hr hq
  have h0:=List.eq_nil_of_length_eq_zero (Nat.le_zero.1 hf)
  refine⟨?_,?_⟩
  ·cases hrd:Region.ready .any ops listed with
   | nil=>rfl
   | cons i is=>
    have hi:i∈Region.ready .any ops listed:=by rw[hrd];simp
    obtain⟨h1,h2,_⟩:=Nh.1 hi
    have:i∈(List.range ops.size).filter fun i=>!listed.getD i true:=by
     rw[List.mem_filter];exact⟨by simpa using h1,by rw[h2];rfl⟩
    rw[h0] at this;cases this
  ·rw[done listed h0] at hr
   exact hq X a hr (.refl X) (.refl X)
 | succ fuel ih=>
  intro listed X a hsz hcl hf hr hq
  refine⟨fun hrd=>?_,fun j hj=>?_⟩
  ·rw[done listed (noReady listed hsz hrd)] at hr
   exact hq X a hr (.refl X) (.refl X)
  ·obtain⟨hlt,hSj,o,ho,haft⟩:=Nh.1 hj
   have hot:ops.toList[j]?=some o:=by rw[Array.getElem?_toList];exact ho
   obtain⟨p,hp⟩:∃ p,ps[j]?=some p:=⟨ps[j]'(by omega),List.getElem?_eq_getElem _⟩
   obtain⟨g1,g2,g3,g4⟩:=ud hc 0 j p hp
   rw[hot] at g1
   simp only[Option.some.injEq] at g1
   subst g1
   rw[Nat.zero_add] at g2
   have haft':∀ e∈p.o.held,listed.getD e.on true=true:=fun e he=>by
    have h1:=I.before j p.o hot e he
    have h2:=haft e (List.mem_filter.1 he).1 (List.mem_filter.1 he).2
    have he':e.on<listed.size:=by omega
    simp only[Array.getD,he',dif_pos] at h2 ⊢
    exact h2
   have hops:∀ (k:Nat) (p:Stp),ps[k]?=some p→ops.toList[k]?=some p.o:=fun k p hk=>(ud hc 0 k p hk).1
   have FR:=ajH I hops (S:=fun i=>listed.getD i true) hcl hp hSj haft'
   generalize hcur:app (fun i=>listed.getD i true) 0 ps s=cur at hr
   have tmEq:∀ t,t∈p.o.looksAt ops→cur.tm[t]?=p.s.tm[t]?:=fun t ht=>by
    rw[← hcur,g2]
    exact Pn ps 0 s s (fun k pk hk hd=>by rw[Nat.zero_add];exact FR.looks k pk t hk hd ht) rfl
   have evEq:∀ x∈p.o.op.operands,St.ev gl cur x=St.ev gl p.s x:=fun x hx=>by
    cases x with
    | tmp t=>
     have:t∈p.o.looksAt ops:=by
      simp only[Oper.looksAt,List.mem_append,List.mem_filterMap]
      exact .inl ⟨.tmp t,Array.mem_toList_iff.2 hx,rfl⟩
     simp only[St.ev,List.getD_eq_getElem?_getD,tmEq t this]
    | _=>rfl
   have guard:fR ops p.o cur p.on:=by
    unfold fR at g3 ⊢
    cases hg:p.o.guard with
    | none=>rw[hg] at g3;exact g3
    | some q=>
     obtain⟨gj,want⟩:=q
     rw[hg] at g3
     obtain⟨g,h1,h2⟩:=g3
     refine⟨g,h1,?_⟩
     rw[tmEq g]
     ·exact h2
     ·simp only[Oper.looksAt,hg,h1,List.mem_append]
      exact .inr (by simp)
   have next:app (fun i=>(listed.setIfInBounds j true).getD i true) 0 ps s=p.act cur:=by
    rw[← hcur]
    refine Pj ps 0 j s p hp (by rw[Nat.zero_add];exact hSj) ?_ (fun k hk=>?_) fun k pk hk hjk hS=>?_
    ·rw[Nat.zero_add]
     simp[Array.getD,hsz,hlt]
    ·rw[Nat.zero_add] at hk
     by_cases hkl:k<listed.size
     ·simp[Array.getD,hkl,Ne.symm hk]
     ·simp[Array.getD,hkl]
    ·rw[Nat.zero_add] at hS
     exact FR.later k pk hk hjk hS
   have count:((List.range ops.size).filter fun i=>!(listed.setIfInBounds j true).getD i true).length≤fuel:=by
    have:=UL (l:=List.range ops.size) (p:=fun i=>!listed.getD i true) (q:=fun i=>!(listed.setIfInBounds j true).getD i true) (fun x hx hq=>by
     have hx:x<listed.size:=by rw[hsz];simpa using hx
     by_cases hxj:j=x
     ·subst hxj;simp only[hSj];rfl
     ·simpa[Array.getD,hx,hxj] using hq) j (by simpa using hlt) (by rw[hSj];rfl) (by simp[Array.getD,hsz,hlt])
    omega
   have closed:∀ (k:Nat) (o:Oper),ops.toList[k]?=some o→(listed.setIfInBounds j true).getD k true=true→∀ e∈o.held,(listed.setIfInBounds j true).getD e.on true=true:=fun k o' hk hl e he=>by
    have mono:∀ i,listed.getD i true=true→(listed.setIfInBounds j true).getD i true=true:=fun i hi=>by
     by_cases hil:i<listed.size
     ·by_cases hij:j=i
      ·subst hij;simp[Array.getD,hil]
      ·simpa[Array.getD,hil,hij] using hi
     ·simp[Array.getD,hil]
    refine mono _ ?_
    by_cases hkj:k=j
    ·subst hkj;rw[hot] at hk;cases hk;exact haft' e he
    ·refine hcl k o' hk ?_ e he
     by_cases hkl:k<listed.size
     ·simpa[Array.getD,hkl,Ne.symm hkj] using hl
     ·simp[Array.getD,hkl]
   unfold wpOp
   rw[ho]
   simp only
   rw[guard.wanted hr]
   cases hon:p.on with
   | false=>
    simp only[Bool.false_eq_true,if_false]
    refine ih _ X _ (by simpa using hsz) closed count ?_ hq
    rw[next,rO,hon]
    have:=hr.put (d:=p.o.dst) RS.undef
    cases hd:p.o.dst<;>rw[hd] at this<;>exact this
   | true=>
    simp only[if_true]
    left
    have fpr:p.fp.r=(p.s.sub p.o).map (·.1):=by simp[Stp.fp,hon]
    have fpw:p.fp.w=p.l.map (·.1):=by simp[Stp.fp,hon]
    have cont:∀ (Y:Cx) (u:Value),Y.hp=aR X.hp p.l→RS Y p.v u→Ok Y→WEvo X Y→HEvo X Y→wpAny P .any ops Q fuel (listed.setIfInBounds j true) (a.put p.o.dst u) Y.w:=fun Y u hpY hu ok W H=>by
     have h6:=(hr.step hpY ok W H).put (d:=p.o.dst) hu
     refine ih _ Y _ (by simpa using hsz) closed count ?_ fun Z a' hz WZ HZ=>hq Z a' hz (W.trans WZ) (H.trans HZ)
     rw[next,rO,hon]
     cases hd:p.o.dst<;>rw[hd] at h6<;>exact h6
    by_cases good:∀ k pk x,ps[k]?=some pk→x∈pk.wids→x∈p.fp.r++p.fp.w→listed.getD k true=decide (k<j)
    ·have hpEq:∀ id,id∈p.fp.r++p.fp.w→bE cur.hp id=bE p.s.hp id:=fun id hid=>by
      rw[← hcur]
      conv=>rhs;rw[g2]
      exact t5 ps 0 s s (fun k pk hk hd=>by rw[Nat.zero_add];exact good k pk id hk hd hid) rfl
     refine(g4 hon).1.2 X a _ Q ⟨fun x hx=>by rw[← evEq x hx];exact hr.ev x,hr.ok,hr.glo,fun id b hb=>?_⟩ (fun q hq hge=>?_) cont
     ·have hmem:id∈p.fp.r:=by
       rw[fpr,List.mem_map]
       obtain⟨l1,l2,h1,_⟩:=List.lookup_eq_some_iff.1 hb
       exact⟨(id,b),by rw[h1];simp,rfl⟩
      have:=hpEq id (List.mem_append.2 (.inl hmem))
      rw[Mv (St.sub_get hb)] at this
      rw[hr.hp]
      exact U9 this (St.sub_free hb)
     ·have hmem:q.1∈p.fp.w:=by rw[fpw,List.mem_map];exact⟨q,hq,rfl⟩
      have:=hpEq q.1 (List.mem_append.2 (.inr hmem))
      have hn:bE p.s.hp q.1=.free:=by simp[bE,List.getElem?_eq_none hge]
      rw[hn] at this
      unfold Cx.unused
      rw[hr.hp]
      unfold bE at this
      cases hh:cur.hp[q.1]? with
      | none=>exact .inl rfl
      | some c=>rw[hh] at this;simp at this;rw[this];exact .inr rfl
    ·
     obtain⟨k0,soft⟩:∃ k0,∃ pk:Stp,Soft ops ps j k0 p.o pk.o p:=Classical.byContradiction fun hno=>good fun k pk x hk hx hxr=>by
      rcases FR.blocks k pk x hk hx hxr with h|⟨_,_,h⟩
      ·exact h
      ·exact absurd ⟨k,pk,h⟩ hno
     obtain⟨_,soft⟩:=soft
     obtain⟨t,m,x,hop⟩:∃ t m x,p.o.op=.lookup t m x false:=by
      have:=soft.look
      cases hpo:p.o.op with
      | lookup t m x ok=>
       cases ok with
       | false=>exact⟨t,m,x,rfl⟩
       | true=>rw[hpo] at this;cases this
      | _=>rw[hpo] at this;cases this
     obtain⟨hl0,id,KK,KV,es,y,hsub,halt⟩:=(g4 hon).2.1 t m x hop
     have hidr:id∈p.fp.r:=by
      rw[fpr,List.mem_map]
      obtain⟨l1,l2,h1,_⟩:=List.lookup_eq_some_iff.1 hsub
      exact⟨(id,.map KK KV es),by rw[h1];simp,rfl⟩
     have hps:=Mv (St.sub_get hsub)
     have now:∃ B,(B=.map KK KV es∨∃ es' x' g,B=.ment KK KV es' x' g∧(aY KK es' y).getD KV.zero=(aY KK es y).getD KV.zero)∧bE cur.hp id=B:=by
      by_cases good2:∀ k pk,ps[k]?=some pk→id∈pk.wids→listed.getD k true=decide (k<j)
      ·refine⟨_,.inl rfl,?_⟩
       rw[← hps,← hcur]
       conv=>rhs;rw[g2]
       exact t5 ps 0 s s (fun k pk hk hd=>by rw[Nat.zero_add];exact good2 k pk hk hd) rfl
      ·obtain⟨k,hk0⟩:=Classical.not_forall.1 good2
       obtain⟨pk,hk1⟩:=Classical.not_forall.1 hk0
       obtain⟨hk,hk2⟩:=Classical.not_imp.1 hk1
       obtain⟨hidw,hk3⟩:=Classical.not_imp.1 hk2
       rcases FR.blocks k pk id hk hidw (List.mem_append.2 (.inl hidr)) with h|⟨hjk,hSk,sk⟩
       ·exact absurd h hk3
       have kon:pk.on=true:=by
        cases h:pk.on with
        | true=>rfl
        | false=>unfold Stp.wids at hidw;rw[h] at hidw;simp at hidw
       obtain⟨kg1,kg2,kg3,kg4⟩:=ud hc 0 k pk hk
       rw[Nat.zero_add] at kg2
       obtain⟨t',m',x'',hop'⟩:∃ t m x,pk.o.op=.mapEntry t m x:=by
        have:=sk.entry
        cases hpo:pk.o.op with
        | mapEntry t m x=>exact⟨t,m,x,rfl⟩
        | _=>rw[hpo] at this;cases this
       obtain⟨id',KK',KV',es',x0,hsub',hl'⟩:=(kg4 kon).2.2 t' m' x'' hop'
       have same:bE pk.s.hp id=bE p.s.hp id:=by
        rw[kg2,g2]
        refine t5 ps 0 s s (fun k' pk' hk' hd=>?_) rfl
        rw[Nat.zero_add]
        by_cases h1:k'<j
        ·simp[h1];omega
        ·by_cases h2:k'<k
         ·by_cases h3:k'=j
          ·subst h3;rw[hp] at hk';cases hk';rw[sk.none] at hd;cases hd
          ·exact absurd hidr (sk.between k' pk' (by omega) h2 hk' id hd)
         ·simp[h1,h2]
       have hid:id=id':=by
        unfold Stp.wids at hidw
        rw[kon,hl'] at hidw
        simp at hidw
        rcases hidw with h|h
        ·rw[h] at same
         rw[show bE pk.s.hp pk.s.hp.length=.free by simp[bE]] at same
         rw[h] at hps
         rw[hps] at same;cases same
        ·exact h
       subst hid
       rw[Mv (St.sub_get hsub'),hps] at same
       cases same
       refine⟨.ment KK KV (bw KK es x0 ((aY KK es x0).getD KV.zero)) x0 pk.s.hp.length,.inr ⟨_,_,_,rfl,akh es x0 y KV.zero⟩,?_⟩
       rw[← hcur]
       refine Pm ps 0 k s pk hk (by rw[Nat.zero_add];exact hSk) kon (fun hp=>?_) fun k' p' hk' hlt hidw'=>?_
       ·rw[hl']
        show bE (aC (aC hp _ _) id _) id=_
        rw[Cr,if_pos rfl]
       ·rw[Nat.zero_add]
        rcases FR.blocks k' p' id hk' hidw' (List.mem_append.2 (.inl hidr)) with h|⟨_,_,sk'⟩
        ·simp[h];omega
        ·have:=sk'.one k pk.o (ud hc 0 k pk hk).1 sk.entry
         omega
     obtain⟨B,hB,hcurB⟩:=now
     have hBf:B≠.free:=by rcases hB with rfl|⟨_,_,_,rfl,_⟩<;>simp
     refine(halt B hB).2 X a _ Q ⟨fun x hx=>by rw[← evEq x hx];exact hr.ev x,hr.ok,hr.glo,fun id'' b hb=>?_⟩ (fun q hq _=>by cases hq) (by rw[hl0] at cont;exact cont)
     simp only[List.lookup_cons] at hb
     by_cases he:id''=id
     ·subst he
      simp at hb
      rw[hr.hp,← hb]
      exact U9 hcurB hBf
     ·rw[show(id''==id)=false by simpa using he] at hb;simp at hb
end Go.Ev
namespace Go.Ev
def PI(ops:Array Oper):Bool:=ops.toList.all fun o=>match o.op with|.defer _=>false|_=>true
def jD:Code→Bool
 | .skip|.exit _|.ret|.label _=>true
 | .region _ ops _=>PI ops
 | .seq a b=>jD a&&jD b
 | .cond _ a b=>jD a&&jD b
 | .block _ c=>jD c
 | .loop c=>jD c
 | _=>false
abbrev rf(l:Nat):Fence:=Fence.wide.inRound l
def wq(P:Program)(c:Code)(Q:Exit→Act→World→Prop)(a:Act)(w:World):Prop:=c.wp P Q a w∧(jD c=true→∀ l n,c.wpIn (rf l) n P Q a w)
variable{P:Program}{Q:Exit→Act→World→Prop}{a:Act}{w:World}{c x y:Code}{q:Operand}{id:Nat}{ops:Array Oper}
theorem NW{Q':Exit→Act→World→Prop}(h:wq P c Q a w)(hq:∀ e a w,Q e a w→Q' e a w):wq P c Q' a w:=⟨wp_mono h.1 hq,fun hc l n=>wpIn_mono (h.2 hc l n) hq⟩
theorem ano(h:Q .normal a w):wq P .skip Q a w:=⟨wp_skip h,fun _ _ _=>wpIn_skip h⟩
theorem ani(h:Q (.exit id) a w):wq P (.exit id) Q a w:=⟨wp_exit h,fun _ _ _=>wpIn_exit h⟩
theorem anm(h:Q .ret a w):wq P .ret Q a w:=⟨wp_ret h,fun _ _ _=>wpIn_ret h⟩
theorem anj{l:Nat}(h:Q .normal a w):wq P (.label l) Q a w:=⟨wp_label h,fun _ _ _=>wpIn_label h⟩
theorem yg{a b:Bool}(h:(a&&b)=true):a=true∧b=true:=by cases a<;>cases b<;>first|exact⟨rfl,rfl⟩|cases h
theorem Ye(h:wq P x (Exit.then (wq P y Q) Q) a w):wq P (.seq x y) Q a w:=
 ⟨wp_seq (wp_mono h.1 fun e a w h=>by cases e<;>first|exact h.1|exact h),fun hc l n=>wpIn_seq (wpIn_mono (h.2 (yg hc).1 l n) fun e a w h=>by cases e<;>first|exact h.2 (yg hc).2 l n|exact h)⟩
theorem Yd(hc:a.eval q=.bool true)(h:wq P x Q a w):wq P (.cond q x y) Q a w:=⟨wp_cond_true hc h.1,fun c l n=>wpIn_cond_true hc (h.2 (yg c).1 l n)⟩
theorem Yc(hc:a.eval q=.bool false)(h:wq P y Q a w):wq P (.cond q x y) Q a w:=⟨wp_cond_false hc h.1,fun c l n=>wpIn_cond_false hc (h.2 (yg c).2 l n)⟩
theorem Dl(h:wq P c (Exit.inBlock id Q) a w):wq P (.block id c) Q a w:=⟨wp_block h.1,fun hc l n=>wpIn_block (h.2 hc l n)⟩
theorem ann(h:wq P c (Exit.noGoto Q) a w):wq P (.scope c) Q a w:=⟨wp_scope_straight h.1,fun hc=>nomatch hc⟩
def tu(P:Program)(c:Code)(Q:Exit→Act→World→Prop):Nat→Act→World→Prop
 | 0,_,_=>False
 | n+1,a,w=>wq P c (Exit.then (tu P c Q n) Q) a w
theorem W3:∀ {n:Nat} {a:Act} {w:World},tu P c Q n a w→Code.rounds P c Q n a w
 | 0,_,_,h=>h
 | _+1,_,_,h=>wp_mono h.1 fun e a w h=>by cases e<;>first|exact W3 h|exact h
theorem WY(hc:jD c=true)(l m:Nat):∀ {n:Nat} {a:Act} {w:World},tu P c Q n a w→Code.roundsIn (rf l) m P c Q n a w
 | 0,_,_,h=>h
 | _+1,_,_,h=>wpIn_mono (h.2 hc l m) fun e a w h=>by cases e<;>first|exact WY hc l m h|exact h
theorem NV(n:Nat)(h:tu P c Q n a w):wq P (.loop c) Q a w:=⟨wp_loop_rounds n (W3 h),fun hc l m=>wpIn_loop_rounds n (WY (by simpa only[jD] using hc) l m h)⟩
theorem aaM{f:FuncId}{args:Array Value}{w:World}{R:Ending→World→Prop}{l n:Nat}(h:Calls P f args w R):CallsIn (rf l) n P f args w R:=callsIn_wide.2 h
theorem al9{r:String}{args:Array Value}{w:World}{R:Value→World→Prop}{l n:Nat}(h:Rows P r args w R):RowsIn (rf l) n P r args w R:=fun c cs _=>let ⟨v,w',r,s⟩:=h c cs;⟨v,w',r,stepsIn_wide.2 s⟩
theorem amn(l:Nat)(ρ:Operand→Value)(o:Oper)(h:∀ c,o.op≠.defer c):Oper.semAt (some l) ρ o=execOp ρ o:=by
 unfold Oper.semAt
 cases ho:o.op<;>first|rfl|exact absurd ho (h _)
theorem akO{o:Oper}{N:Act→World→Prop}{l n:Nat}(hd:∀ c,o.op≠.defer c)(h:o.wp P a w N Q){N':Act→World→Prop}(hN:∀ a w,N a w→N' a w):o.wpIn (rf l) n P a w N' Q:=by
 refine⟨fun _ _=>trivial,?_⟩
 show o.uponIn _ _ _ _ _ _ ((Oper.semAt (some l) a.eval o).run P w)
 rw[amn l _ _ hd]
 unfold Oper.wp at h
 revert h
 generalize (execOp a.eval o).run P w=r
 intro h
 match r,h with
 | .ok (.value v) w',h=>exact hN _ _ h
 | .ok .skip w',h=>exact hN _ _ h
 | .ok (.defer d) w',h=>exact hN _ _ h
 | .ok (.enter f args) w',h=>exact⟨fun h=>(nomatch h),(aaM h).mono fun e w h=>by cases e<;>first|exact hN _ _ h|exact h⟩
 | .ok (.row r args) w',h=>exact⟨fun h=>(nomatch h),(al9 h).mono fun v w h=>hN _ _ h⟩
 | .halt (.panic v) w',h=>exact h
theorem wg(hc:PI ops=true)(hn:∀ a w,¬ Q .outgrown a w)(l n:Nat):∀ (L:List Nat) {a:Act} {w:World},wpOps P ops Q L a w→wpOpsIn (rf l) n P ops Q L a w
 | [],_,_,h=>h
 | i::L,a,w,h=>by
  simp only[wpOpsIn]
  simp only[wpOps] at h
  split<;>rename_i hi
  ·rw[hi] at h;exact wg hc hn l n L h
  ·rename_i o
   rw[hi] at h
   simp only at h
   have hd:∀ c,o.op≠.defer c:=fun c he=>by
    have:=List.all_eq_true.1 hc o (Array.mem_toList_iff.2 (Array.mem_of_getElem? hi))
    simp only[he] at this
    cases this
   split
   ·rename_i hw
    rw[if_pos hw] at h
    rcases h with h|h
    ·exact akO hd h fun _ _ h=>wg hc hn l n L h
    ·obtain⟨_,a,w,h⟩:=h;exact(hn a w h).elim
   ·rename_i hw
    rw[if_neg hw] at h
    exact⟨fun _ _=>trivial,wg hc hn l n L h⟩
theorem ank(hn:∀ a w,¬ Q .outgrown a w)(h:wpOps P ops Q (List.range ops.size) a w):wq P (.region id ops false) Q a w:=⟨wp_region h,fun hc l n=>wpIn_region (wg hc hn l n _ h)⟩
theorem anl(hm:P.follows .mixedOrders=true)(hn:∀ a w,¬ Q .outgrown a w)(h:wpAny P .any ops Q ops.size (Array.replicate ops.size false) a { w with drawn:=w.drawn+1 }):wq P (.region id ops true) Q a w:=
 have h':∀ t,wpOps P ops Q (Region.schedule (P.follows .mixedOrders) ops t) a { w with drawn:=w.drawn+1 }:=fun t=>by
  simp only[Region.schedule,hm,Bool.true_or,if_true]
  exact wpAny_sound ops.size t _ a _ h
 ⟨wp_region_draw h',fun hc l n=>wpIn_region_draw fun t=>wg hc hn l n _ (h' t)⟩
end Go.Ev
