import Derived.Test.YtbgcimciannhmaaGreatDoorB6
import Derived.Test.YtbgcimciannhmaaGreatDoorB9
import Derived.Test.YtbgcimciannhmaaGreatDoorB12
import Derived.RangeFuncNested
import Derived.RangeFuncBound
import Derived.RangeFuncCalls
import Derived.RangeFuncLeaves
import Derived.Shelf.Abstract
import Derived.Shelf.RegionOpen
import Derived.WalkKit
import Derived.OwnWalkIn
import Derived.TacticsInMore
import Derived.LoopNIn
import Derived.LoopIn
/- A part of the proof of TopQuiet; no condition. -/
set_option linter.all false
set_option maxRecDepth 100000
namespace Go.Ev
open Go.Proofs
variable{A:Type}
theorem Px{b st now:Int}{s:PS}(hb:1≤b)(h:dG b st now s){N:Nat}(hN:now-st=(N:Int)){B:Nat}(hB:b=(B:Int)):s.asks≤1+N/(2*B):=by
 obtain⟨h1,h2,_⟩:=h
 subst hB
 obtain⟨q,hq⟩:∃ q,s.asks=q+1:=⟨s.asks-1,by omega⟩
 rw[hN,hq] at h2
 have h3:2*B*q≤N:=by
  have e:2*(B:Int)*(((q+1:Nat):Int)-1)=((2*B*q:Nat):Int):=by push_cast;rw[Int.add_sub_cancel]
  rw[e] at h2;omega
 have h4:q≤N/(2*B):=by
  rw[Nat.le_div_iff_mul_le (by omega),Nat.mul_comm];exact h3
 omega
theorem NO:∀ (v:List Nat) (c:Nat),(∀ x∈v,x≤c)→v.sum≤v.length*c
 | [],_,_=>by simp
 | x::v,c,h=>by
  have:=NO v c fun y hy=>h y (List.mem_cons_of_mem _ hy)
  have h0:=h x (List.mem_cons_self ..)
  rw[List.sum_cons,List.length_cons,Nat.add_mul,Nat.one_mul];omega
theorem Vt:∀ (v:List Nat),(∀ x∈v,1≤x)→v.length≤v.sum
 | [],_=>by simp
 | x::v,h=>by
  have:=Vt v fun y hy=>h y (List.mem_cons_of_mem _ hy)
  have h0:=h x (List.mem_cons_self ..)
  rw[List.sum_cons,List.length_cons];omega
theorem Wl{G1 G2 G3 G5 G6 G7}(q n:Nat)(hq:1000<q)(c1:dH)(c2 c3 c4 c5:Int)(c6:Unit)(st:Int)(h0:0≤st)(hst:st≤1073741824)(c8:Unit)(w:List (List Int))(c10:dH)(c11:Unit)(hd:bC)(h:List Int)(hh:h.length=32∧aq h)(nr)(mp)(b m it:Int)(hr:cM b m=true)(e1)(e2)(p:Nat)(hp:p<100)(N:Nat)(hN:N≤400){z s}(k0 k1:_→_→_→_→_→_→_→_→_→_→_→_→_→_→_→_→_→_→List (cN⊕cO)→Option A)(W:Option A)(hk:∀ (l:List PS) (sd:List (cN⊕cO)) (by_:Int),l.length=p→(∀ s∈l,dG b st (st+N) s)→de sd (l.map PS.asks)→k1 (((l.map PS.asks).sum:Int),(by_,())) c1 c2 c3 c4 c5 c6 (st+N) c8 w c10 c11 [(hd,(h,nr))] mp [0] (l.map (cs b m it)) e1 e2 sd=W) :
  ∀ (d f i:Nat) (now:Int) (l:List PS) (sd:List (cN⊕cO)) (by_:Int),now=st+i→i+d=N→d<f→l.length=p→(∀ s∈l,dG b st now s)→de sd (l.map PS.asks)→
  pJ G1 G2 G3 (uE q) G5 G6 G7 n z (N:Int) s k0 k1 f (i:Int) (((l.map PS.asks).sum:Int),(by_,())) c1 c2 c3 c4 c5 c6 now c8 w c10 c11 [(hd,(h,nr))] mp [0] (l.map (cs b m it)) e1 e2 sd=W
 | 0,f+1,i,now,l,sd,by_,hnow,hi,_,hl,hI,hs=>by
  obtain rfl:i=N:=by omega
  subst hnow
  rw[pJ,BZ,show decide ((i:Int)<(i:Int))=false from decide_eq_false (by omega),cond_false]
  exact hk l sd by_ hl hI hs
 | d+1,0,i,_,_,_,_,_,_,h,_,_,_=>by omega
 | d+1,f+1,i,now,l,sd,by_,hnow,hi,hf,hl,hI,hs=>by
  have hb:1≤b:=by unfold cM at hr;simp only[Bool.and_eq_true,decide_eq_true_eq] at hr;omega
  have hsum:(l.map PS.asks).sum<1000000000000:=by
   have:=NO (l.map PS.asks) 1000 fun x hx=>by
    obtain⟨s,hsm,rfl⟩:=List.mem_map.1 hx
    obtain⟨B,hB⟩:∃ B:Nat,b=B:=⟨b.toNat,by omega⟩
    have h1:=Px hb (hI s hsm) (N:=i) (by omega) hB
    have h2:i/(2*B)≤i:=Nat.div_le_self _ _
    omega
   rw[List.length_map,hl] at this
   omega
  rw[pJ,BZ,show decide ((i:Int)<(N:Int))=true from decide_eq_true (by omega),cond_true]
  refine abC q hq c1 c2 c3 c4 c5 c6 st now h0 (by omega) (by omega) hst c8 w c10 c11 hd h hh nr mp b m it hr e1 e2 p hp l hl hI sd hs by_ hsum _ W fun l' sd' by' g1 g2 g3=>?_
  rw[show(((0:Int)) != 0)=false from rfl,cond_false,aU i (by omega)]
  refine Wl q n hq c1 c2 c3 c4 c5 c6 st h0 hst c8 w c10 c11 hd h hh nr mp b m it hr e1 e2 p hp N hN k0 k1 W hk d f (i+1) (now+1) l' sd' by' (by omega) (by omega) (by omega) g1 g2 g3
theorem Wm{G1 G2 G3 G4 G5}(q n:Nat)(par:dH)(B N p:Nat)(hB:1≤B∧B≤65536)(hN:N≤400)(hp:p<100){r1 r2 z}(k0 k1:Option A){wbb:_}{c1 c2 c3 c4 c5 c6 now c8 w c10 c11 nds mp bst ss e1 e2}(v:List Nat)(hv:v.length=p)(hvN:∀ x∈v,x≤1+N/(2*B)):∀ (d f i:Nat) (sd:List (cN⊕cO)),i+d=p→d<f→de sd v→
  mC G1 G2 G3 G4 G5 (uT q) (sy q) n (N:Int) z (p:Int) ((par,((B:Int),r1)),r2) k0 k1 f (i:Int) wbb c1 c2 c3 c4 c5 c6 now c8 w c10 c11 nds mp bst ss e1 e2 sd=k1
 | 0,f+1,i,sd,h,_,_=>by
  rw[mC,B0,show decide ((i:Int)<(p:Int))=false from decide_eq_false (by omega),cond_false]
 | d+1,0,i,_,_,h,_=>by omega
 | d+1,f+1,i,sd,h,hf,hs=>by
  have hsl:sd.length=p:=by rw[hs.1,hv]
  obtain⟨x,hx⟩:∃ x,sd[i]?=some x:=⟨_,List.getElem?_eq_getElem (by omega)⟩
  have hux:=hs.2 i x hx
  have hvi:v.getD i 0≤1+N/(2*B):=hvN _ (by rw[List.getD_eq_getElem?_getD,List.getElem?_eq_getElem (by omega:i<v.length)];exact List.getElem_mem _)
  have e1':IntKind.wrap .i64 (2*(B:Int))=((2*B:Nat):Int):=(ap (by omega) (by omega)).trans (by omega)
  have hdv:N/(2*B)≤N:=Nat.div_le_self _ _
  have e2':IntKind.wrap .i64 (1+IntKind.wrap .i64 (Int.tdiv (N:Int) ((2*B:Nat):Int)))=((1+N/(2*B):Nat):Int):=by
   rw[dn,mZ _ (by omega)]
   exact(ap (by omega) (by omega)).trans (by omega)
  have next:∀ y,iJ y≤iJ x→mC G1 G2 G3 G4 G5 (uT q) (sy q) n (N:Int) z (p:Int) ((par,((B:Int),r1)),r2) k0 k1 f ((i+1:Nat):Int) wbb c1 c2 c3 c4 c5 c6 now c8 w c10 c11 nds mp bst ss e1 e2 (sd.set i y)=k1:=fun y hy=>
   Wm q n par B N p hB hN hp k0 k1 v hv hvN d f (i+1) (sd.set i y) (by omega) (by omega) (hs.same hx hy)
  rw[mC,B0,show decide ((i:Int)<(p:Int))=true from decide_eq_true (by omega),cond_true]
  unfold uT Hi
  rw[show decide ((i:Int)<0)=false from decide_eq_false (by omega),cond_false,show decide ((i:Int)≥(sd.length:Int))=false from decide_eq_false (by omega),cond_false,cond_true,if_pos (Int.natCast_nonneg _),if_pos (by omega),Int.toNat_natCast,hx,Option.bind_some]
  cases x with
  | inl y=>
   simp only
   unfold sy An
   simp only
   rw[e1',if_neg (by omega),e2',show decide (((y.2.2.1.length:Nat):Int)>((1+N/(2*B):Nat):Int))=false from decide_eq_false (by have:y.2.2.1.length≤v.getD i 0:=hux;omega),cond_false,aU i (by omega)]
   exact next _ (Nat.le_refl _)
  | inr y=>
   simp only
   unfold sy An
   simp only
   rw[e1',if_neg (by omega),e2',show decide (((y.2.2.2.2.2.2.2.1.length:Nat):Int)>((1+N/(2*B):Nat):Int))=false from decide_eq_false (by have:y.2.2.2.2.2.2.2.1.length≤v.getD i 0:=hux;omega),cond_false,aU i (by omega)]
   exact next _ (Nat.le_refl _)
theorem aar(n:Nat)(hn:1000<n)(lim:Nat)(hl:lim<4294967296)(per spa fut cap:Int)(v:Int)(pv rt:List Int)(tm:Int)(gb:Nat)(hg:gb<4294967296)(nc:Int)(u:Unit)(og:dO (v,(pv,(rt,(tm,((gb:Int),(nc,u)))))))(sum:List Int)(u2:Unit)(b m e peers:Int)(w:List (List Int))(hB:∀ x∈w,aq x)(u3:Unit)(start:Int)(cs0:List (List bo))(hch:m0 cs0)(ro:List Int)(hrl:ro.length<100)(ba qu:Int)(u4 u5:Unit)(hf:mH peers w cs0 ro=true)(h:mQ lim gb per spa fut cap (v,(pv,(rt,(tm,((gb:Int),(nc,u)))))) b m e peers w start cs0 ro ba qu=0)(k0:Option A)(k1:_→_→_→_→_→_→_→_→_→_→_→_→_→_→_→_→_→_→List (cN⊕cO)→Option A)(W:Option A)(hk:∀ (l:List PS) (sd:List (cN⊕cO)) (by_:Int),l.length=ro.length→(∀ s∈l,dG b start start s)→de sd (l.map PS.asks)→k1 (((l.map PS.asks).sum:Int),(by_,())) ((lim:Int),(per,(spa,(fut,(cap,((v,(pv,(rt,(tm,((gb:Int),(nc,u)))))),(sum,u2))))))) b m e peers u3 start () w ((lim:Int),(per,(spa,(fut,(cap,((v,(pv,(rt,(tm,((gb:Int),(nc,u)))))),(sum,u2))))))) ()
    [((v,(pv,(rt,(tm,((gb:Int),(nc,u)))))),(bW (cQ (v,(pv,(rt,(tm,((gb:Int),(nc,u))))))),(-1,(0,(sum,())))))] (bw aa [] (bW (cQ (v,(pv,(rt,(tm,((gb:Int),(nc,u)))))))) 0) [0] (l.map (cs b m (w.length:Int))) [] [] sd=W) :
  Cj n (((((lim:Int),(per,(spa,(fut,(cap,((v,(pv,(rt,(tm,((gb:Int),(nc,u)))))),(sum,u2))))))),(b,(m,(e,(peers,(w,u3)))))),(start,(cs0,(ro,(ba,(qu,u4)))))),([],u5)) k0 k1=W:=by
 unfold Cj L1
 rw[UN n hn,hf,Bool.not_true,cond_false]
 exact abB n hn lim hl per spa fut cap v pv rt tm gb hg nc u og sum u2 b m e peers w hB u3 start cs0 hch ro hrl ba qu u4 h _ _ W fun l sd by_ h1 h2 h3=>by
  rw[show(((0:Int)) != 0)=false from rfl,cond_false]
  exact hk l sd by_ h1 h2 h3
theorem ak2(n:Nat)(hn:1000<n)(halive:∀ g:Bool→Option A,LI n g=g true)(lim:Nat)(hl:lim<4294967296)(per spa fut cap:Int)(v:Int)(pv rt:List Int)(tm:Int)(gb:Nat)(hg:gb<4294967296)(nc:Int)(og:dO (v,(pv,(rt,(tm,((gb:Int),(nc,())))))))(ws:List Nat)(hw:Wd ws)(hwl:ws.length=4)(b m e peers:Int)(w:List (List Int))(hB:∀ x∈w,aq x)(start:Int)(cs0:List (List bo))(hi:wQ cs0)(ro:List Int)(ba qu:Int)(a1:Int)(g:Bool→Option A) :
  pI n ((((lim:Int),(per,(spa,(fut,(cap,((v,(pv,(rt,(tm,((gb:Int),(nc,())))))),(al ws,()))))))),(b,(m,(e,(peers,(w,())))))),(start,(cs0,(ro,(ba,(qu,())))))) a1 g=g true:=by
 unfold pI Li
 rw[akq n hn lim hl per spa fut cap v pv rt tm gb hg nc () og ws hw hwl () b m e peers w hB () start cs0 hi ro ba qu () ()]
 simp only
 cases hm:(mH peers w cs0 ro&&decide (mQ lim gb per spa fut cap (v,(pv,(rt,(tm,((gb:Int),(nc,())))))) b m e peers w start cs0 ro ba qu=0)) with
 | false=>rw[Bool.not_false,cond_true];exact halive _
 | true=>
  rw[Bool.not_true,cond_false]
  by_cases g1:a1<0
  ·rw[decide_eq_true g1,cond_true];exact halive _
  ·rw[decide_eq_false g1,cond_false]
   by_cases g2:a1>400
   ·rw[decide_eq_true g2,cond_true];exact halive _
   ·rw[decide_eq_false g2,cond_false]
    by_cases g3:start>1073741824
    ·rw[decide_eq_true g3,cond_true];exact halive _
    ·rw[decide_eq_false g3,cond_false]
     rw[Bool.and_eq_true,decide_eq_true_eq] at hm
     obtain⟨hf,hE⟩:=hm
     obtain⟨f1,f2,f3,f4,f5⟩:=UO hf hi
     obtain⟨q1,q2,q3,q4,q5,q6,q7⟩:=VW hE
     obtain⟨N,rfl⟩:∃ N:Nat,a1=N:=⟨a1.toNat,by omega⟩
     have hr:cM b m=true:=by
      unfold gW at q1
      simp only[Bool.and_eq_true] at q1
      exact q1.2.1
     have hr2:=hr
     unfold cM at hr2
     simp only[Bool.and_eq_true,decide_eq_true_eq] at hr2
     obtain⟨B,rfl⟩:∃ B:Nat,b=B:=⟨b.toNat,by omega⟩
     refine aar n hn lim hl per spa fut cap v pv rt tm gb hg nc () og (al ws) () B m e peers w hB () start cs0 f4 ro (by omega) ba qu () () hf hE _ _ (g true) fun l sd by_ h1 h2 h3=>?_
     refine Wl n n hn _ B m e peers () start q2 (by omega) () w _ () _ _ (wA _) _ _ B m (w.length:Int) hr [] [] ro.length (by omega) N (by omega) _ _ (g true) (fun l2 sd2 by2 h4 h5 h6=>?_) N n 0 start l sd by_ (by omega) (by omega) (by omega) h1 h2 h3
     unfold Ic Id
     have hle:∀ x∈l2.map PS.asks,x≤1+N/(2*B):=fun x hx=>by
      obtain⟨s,hsm,rfl⟩:=List.mem_map.1 hx
      exact Px (by omega) (h5 s hsm) (by omega) rfl
     have hge:∀ x∈l2.map PS.asks,1≤x:=fun x hx=>by
      obtain⟨s,hsm,rfl⟩:=List.mem_map.1 hx
      exact(h5 s hsm).1
     have s1:=NO _ _ hle
     have s2:=Vt _ hge
     rw[List.length_map,h4] at s1 s2
     refine(Wm n n _ B N ro.length (by omega) (by omega) (by omega) _ _ (l2.map PS.asks) (by rw[List.length_map];exact h4) hle ro.length n 0 sd2 (by omega) (by omega) h6).trans ?_
     have hdv:N/(2*B)≤N:=Nat.div_le_self _ _
     have e1':IntKind.wrap .i64 (2*(B:Int))=((2*B:Nat):Int):=(ap (by omega) (by omega)).trans (by omega)
     have e2':IntKind.wrap .i64 (1+IntKind.wrap .i64 (Int.tdiv (N:Int) ((2*B:Nat):Int)))=((1+N/(2*B):Nat):Int):=by
      rw[dn]
      generalize N/(2*B)=Q at hdv ⊢
      rw[mZ _ (by omega)]
      exact(ap (by omega) (by omega)).trans (by omega)
     have hmul:ro.length*(1+N/(2*B))≤8*401:=Nat.mul_le_mul f2 (by omega)
     have e3':IntKind.wrap .i64 ((ro.length:Int)*((1+N/(2*B):Nat):Int))=((ro.length*(1+N/(2*B)):Nat):Int):=by
      rw[← Int.natCast_mul];exact mZ _ (by omega)
     rw[show decide ((((l2.map PS.asks).sum:Nat):Int)≥(ro.length:Int))=true from decide_eq_true (by omega),cond_true,e1',if_neg (by omega),e2',e3',show decide ((((l2.map PS.asks).sum:Nat):Int)≤((ro.length*(1+N/(2*B)):Nat):Int))=true from decide_eq_true (by omega),cond_true]
     exact halive _
def JK(g:xA A):Entry A:=ai [] ⟨[],[],0⟩ fun d k=>g (fun r0=>k (.p aK r0) [])
theorem ag3(n:Nat):Qo A (Ev [] [] [] []) Tryz.f286 [.pure] (JK (Ty n)):=.mk
theorem ag2(n:Nat):OK A 286 (JK (JL n)):=ak (ag3 n) Tryz.func286 ag oz
def Jt(g:qY A):Entry A:=ai [] ⟨[],[],0⟩ fun d k=>g (fun r0=>k (.ptr 0 []) [.var 491 dB (.p dB r0)])
theorem agH(g286:xA A)(n:Nat):Qo A (Ev [(286,JK g286)] [] [] []) Tryz.f255 [.own] (Jt (Ju g286 n)):=.mk
theorem agG(n:Nat):OK A 255 (Jt (vm n)):=ak (agH _ n) Tryz.func255 ag (oc (ag2 n) oz)
def Kg{R:Type}(F:(List Int)→Int→(ae A)→R→Int→Int→Option A)(k:KK A)(d:LSh.den ⟨[(0,(.p kS)),(2,(.p kL)),(3,(.p kI)),(0,(.p kI))],12,[],0⟩)(t:R):Option A:=F d.1.1 d.1.2.2.1 (fun z0=>k (.exit 0) ⟨.any::.any::.any::(.p kL z0)::an 17 [],[],0⟩) t d.1.2.1 d.1.2.2.2.1
def Kf(g:kW A):Entry A:=ai [] ⟨[(.p kS)],[],0⟩ fun d k=>g d.1.1 (fun r0=>k (.p kL r0) [])
section
variable(n:Nat)
noncomputable def TP:Env A:=Ev [] [(0,au (dl 21 [0,3,7,8]) (Kg (BC n)) n)] [] []
theorem ahv:Lst A (TP n) Tryz.f338 0 (dl 21 [3]) (Kg (TQ n)) (Kg (BC n)) fun r d n_ t8=>r ((d.1.1,n_,d.1.2.2.1,t8,d.1.2.2.2.2),d.2):=.mk
theorem ahu:Qo A (TP n) Tryz.f338 [.pure] (Kf (TR n)):=.mk
end
theorem aht(n:Nat):OK A 338 (Kf (sJ n)):=ak (ahu n) Tryz.func338 (ax (ahv n) ag) oz
def BE(g:iQ A):Entry A:=ai [] ⟨[(.p kU),(.p kI)],[],0⟩ fun d k=>g d.1.1 d.1.2.1 (fun r0=>k (.p kU r0) [])
theorem ahw(n:Nat):Qo A (Ev [] [] [] []) Tryz.f339 [.pure] (BE (Kh n)):=.mk
theorem TS(n:Nat):OK A 339 (BE (pq n)):=ak (ahw n) Tryz.func339 ag oz
def J1{R:Type}(F:(List Int)→(List Int)→(ah A)→R→Int→(List Int)→Option A)(k:KK A)(d:LSh.den ⟨[(0,(.ptr 0)),(1,(.ptr 1)),(0,(.ptr 2)),(6,(.p kI))],59,[(.var 489 fZ (.p fZ)),(.var 429 dj (.p dj)),(.var 429 dj (.p dj))],1⟩)(t:R):Option A:=F d.2.1 d.2.2.1 (fun z2=>k (.exit 0) ⟨.any::.any::(.ptr 1 [])::(.ptr 2 [])::an 66 [],[.var 489 fZ (.p fZ d.2.1),.var 429 dj (.p dj d.2.2.1),.var 429 dj (.p dj z2)],1⟩) t d.1.2.2.2.1 d.2.2.2.1
def J2{R:Type}(F:(List Int)→(List Int)→(ah A)→R→Int→(List Int)→Option A)(k:KK A)(d:LSh.den ⟨[(2,(.ptr 1)),(0,(.ptr 2)),(1,(.p kI))],64,[(.var 489 fZ (.p fZ)),(.var 429 dj (.p dj)),(.var 429 dj (.p dj))],1⟩)(t:R):Option A:=F d.2.1 d.2.2.1 (fun z2=>k (.exit 2) ⟨.any::.any::(.ptr 1 [])::(.ptr 2 [])::an 66 [],[.var 489 fZ (.p fZ d.2.1),.var 429 dj (.p dj d.2.2.1),.var 429 dj (.p dj z2)],1⟩) t d.1.2.2.1 d.2.2.2.1
def JZ(g:kT A):Entry A:=cu [true] ⟨[(.ptr 0)],[(.var 489 fZ (.p fZ))],1⟩ fun d k=>g d.2.1 (fun r0=>k (.p dj r0) [])
section
variable(g338:kW A)(g339:iQ A)(n:Nat)
noncomputable def JY:Env A:=Ev [(338,Kf g338),(339,BE g339)] [(0,au (dl 70 [0,2,3,10]) (J1 (pm g338 g339 n)) n),(1,au (dl 70 [2,3,5]) (J2 (pn g338 g339 n)) n)] [] []
theorem ahk:Lst A (JY g338 g339 n) Tryz.f312 1 (dl 70 [2,3]) (J2 (Bw g338 g339 n)) (J2 (pn g338 g339 n)) fun r d t w=>r (((),(),t,d.1.2.2.2),(d.2.1,d.2.2.1,w,d.2.2.2.2)):=.mk
theorem ahj:Lst A (JY g338 g339 n) Tryz.f312 0 (dl 70 [2,3]) (J1 (Bv g338 g339 n)) (J1 (pm g338 g339 n)) fun r d t10 w=>r (((),(),(),t10,d.1.2.2.2.2),(d.2.1,d.2.2.1,w,d.2.2.2.2)):=.mk
theorem ahi:Qr A (JY g338 g339 n) Tryz.f312 [.pure] (JZ (J0 g338 g339 n)):=.mk
end
theorem ahh(n:Nat):OK A 312 (JZ (sG n)):=cR (ahi _ _ n) Tryz.func312 (ax (ahj _ _ n)<|ax (ahk _ _ n) ag) (oc (aht n)<|oc (TS n) oz)
def J3(g:kV A):Entry A:=ai [] ⟨[(.p kU),(.p kI),(.p kI),(.p kI)],[],0⟩ fun d k=>g d.1.1 d.1.2.1 d.1.2.2.1 d.1.2.2.2.1 (fun r0=>k (.p kU r0) [])
theorem ahm(g339:iQ A)(n:Nat):Qo A (Ev [(339,BE g339)] [] [] []) Tryz.f313 [.pure] (J3 (J4 g339 n)):=.mk
theorem ahl(n:Nat):OK A 313 (J3 (sH n)):=ak (ahm _ n) Tryz.func313 ag (oc (TS n) oz)
def JP{R:Type}(F:(List Int)→(List Int)→(List Int)→(ah A)→R→Int→(List Int)→Option A)(k:KK A)(d:LSh.den ⟨[(2,(.ptr 0)),(1,(.ptr 1)),(0,(.ptr 2)),(0,(.ptr 3)),(6,(.p kI))],84,[(.var 340 aK (.p aK)),(.var 340 aK (.p aK)),(.var 429 dj (.p dj)),(.var 340 aK (.p aK))],0⟩)(t:R):Option A:=F d.2.1 d.2.2.1 d.2.2.2.1 (fun z2=>k (.exit 0) ⟨.any::.any::(.ptr 0 [])::.any::(.ptr 1 [])::.any::(.ptr 2 [])::an 91 [],[.var 340 aK (.p aK d.2.1),.var 340 aK (.p aK d.2.2.1),.var 340 aK (.p aK z2)],0⟩) t d.1.2.2.2.2.1 d.2.2.2.2.1
def JQ{R:Type}(F:(List Int)→(List Int)→(ah A)→R→Int→(List Int)→Option A)(k:KK A)(d:LSh.den ⟨[(2,(.ptr 0)),(1,(.ptr 1)),(1,(.ptr 2)),(78,(.p kI))],12,[(.var 340 aK (.p aK)),(.var 340 aK (.p aK)),(.var 340 aK (.p aK))],0⟩)(t:R):Option A:=F d.2.2.1 d.2.2.2.1 (fun z0=>k (.exit 2) ⟨.any::.any::(.ptr 0 [])::.any::(.ptr 1 [])::an 93 [],[.var 340 aK (.p aK z0),.var 340 aK (.p aK d.2.2.1)],0⟩) t d.1.2.2.2.1 d.2.1
def JN(g:ri A):Entry A:=ai [] ⟨[(.p aK),(.p fZ)],[],0⟩ fun d k=>g d.1.1 d.1.2.1 (fun r0=>k (.p aK r0) [])
section
variable(g312:kT A)(g313:kV A)(n:Nat)
noncomputable def JM:Env A:=Ev [(312,JZ g312),(313,J3 g313)] [(0,au (dl 98 [2,4,5,6,13]) (JP (pf g312 g313 n)) n),(1,au (dl 98 [2,4,6,85]) (JQ (vt g312 g313 n)) n)] [] []
theorem ag7:Lst A (JM g312 g313 n) Tryz.f287 1 (dl 98 [2,4]) (JQ (Tz g312 g313 n)) (JQ (vt g312 g313 n)) fun r d t85 h=>r (((),(),(),t85,d.1.2.2.2.2),(h,d.2.2)):=.mk
theorem ag6:Lst A (JM g312 g313 n) Tryz.f287 0 (dl 98 [2,4,6]) (JP (Bs g312 g313 n)) (JP (pf g312 g313 n)) fun r d t13 v=>r (((),(),(),(),t13,d.1.2.2.2.2.2),(d.2.1,d.2.2.1,d.2.2.2.1,v,d.2.2.2.2.2)):=.mk
theorem ag5:Qo A (JM g312 g313 n) Tryz.f287 [.pure] (JN (JO g312 g313 n)):=.mk
end
theorem ag4(n:Nat):OK A 287 (JN (vr n)):=ak (ag5 _ _ n) Tryz.func287 (ax (ag6 _ _ n)<|ax (ag7 _ _ n) ag) (oc (ahh n)<|oc (ahl n) oz)
def Jx{R:Type}(F:(iX A)→R→(List Int)→jx→Option A)(k:KK A)(d:LSh.den ⟨[(0,(.ptr 0)),(0,(.p kS))],46,[(.var 491 dB (.p dB))],1⟩)(t:R):Option A:=F (fun z0=>k (.exit 0) ⟨an 48 [],[.var 491 dB (.p dB z0)],1⟩) t d.1.2.1 d.2.1
def Bo(g:iP A):Entry A:=ai [true,false] ⟨[(.ptr 0),(.p kS)],[(.var 491 dB (.p dB))],1⟩ fun d k=>g d.1.2.1 d.2.1 (fun r0=>k (.tup []) [.var 491 dB (.p dB r0)])
section
variable(g287:ri A)(n:Nat)
noncomputable def Ti:Env A:=Ev [(287,JN g287)] [(0,au (dl 48 [0,1]) (Jx (sE g287 n)) n)] [] []
theorem agJ:Lst A (Ti g287 n) Tryz.f256 0 (dl 48 []) (Jx (Jv g287 n)) (Jx (sE g287 n)) fun r d b h=>r (((),b,d.1.2.2),(h,d.2.2)):=.mk
theorem agI:Qo A (Ti g287 n) Tryz.f256 [] (Bo (Jw g287 n)):=.mk
end
theorem Tj(n:Nat):OK A 256 (Bo (pb n)):=ak (agI _ n) Tryz.func256 (ax (agJ _ n) ag) (oc (ag4 n) oz)
def H3{R:Type}(F:Int→Int→(ah A)→R→Int→(List Int)→Option A)(k:KK A)(d:LSh.den ⟨[(0,(.p kL)),(4,(.row 0)),(6,(.p kI)),(0,(.p kI))],12,[(.row 5 kB)],0⟩)(t:R):Option A:=F d.1.1 d.1.2.2.1 (fun z0=>k (.exit 0) ⟨an 5 ((.row 0)::an 20 []),[.row 5 kB z0],0⟩) t d.1.2.2.2.1 d.2.1
def AG(g:qP A):Entry A:=ai [] ⟨[(.p kL),(.p kI)],[],0⟩ fun d k=>g d.1.1 d.1.2.1 (fun r0=>k (.row 0) [.row 5 kB r0])
section
variable(n:Nat)
noncomputable def Sl:Env A:=Ev [] [(0,au (dl 26 [0,5,12,13]) (H3 (oO n)) n)] [] []
theorem ae7:Lst A (Sl n) Tryz.f210 0 (dl 26 [5]) (H3 (AF n)) (H3 (oO n)) fun r d t13 out=>r ((d.1.1,(),d.1.2.2.1,t13,d.1.2.2.2.2),(out,d.2.2)):=.mk
theorem ae6:Qo A (Sl n) Tryz.f210 [.own] (AG (HY n)):=.mk
end
theorem Sm(n:Nat):OK A 210 (AG (uV n)):=ak (ae6 n) Tryz.func210 (ax (ae7 n) ag) oz
def J6{R:Type}(F:(ah A)→R→Int→Int→(List Int)→Option A)(k:KK A)(d:LSh.den ⟨[(0,(.row 0)),(1,(.p kI)),(0,(.p kI))],24,[(.row 5 kB)],1⟩)(t:R):Option A:=F (fun z0=>k (.exit 0) ⟨an 28 [],[.row 5 kB z0],1⟩) t d.1.2.1 d.1.2.2.1 d.2.1
def J5(g:xD A):Entry A:=ai [true] ⟨[(.row 0)],[(.row 5 kB)],1⟩ fun d k=>g d.2.1 (fun r0=>k (.tup []) [.row 5 kB r0])
section
variable(n:Nat)
noncomputable def TK:Env A:=Ev [] [(0,au (dl 28 [0,2,3]) (J6 (Bx n)) n)] [] []
theorem ahp:Lst A (TK n) Tryz.f314 0 (dl 28 []) (J6 (TL n)) (J6 (Bx n)) fun r d i j s=>r (((),i,j,d.1.2.2.2),(s,d.2.2)):=.mk
theorem aho:Qo A (TK n) Tryz.f314 [] (J5 (TN n)):=.mk
end
theorem ahn(n:Nat):OK A 314 (J5 (TM n)):=ak (aho n) Tryz.func314 (ax (ahp n) ag) oz
def JR(g:rj A):Entry A:=ai [] ⟨[(.p kL),(.p kI)],[],0⟩ fun d k=>g d.1.1 d.1.2.1 (fun r0=>k (.row 0) [.row 5 kB r0])
theorem ag9(g210:qP A)(g314:xD A)(n:Nat):Qo A (Ev [(210,AG g210),(314,J5 g314)] [] [] []) Tryz.f288 [.own] (JR (TA g210 g314 n)):=.mk
theorem ag8(n:Nat):OK A 288 (JR (pg n)):=ak (ag9 _ _ n) Tryz.func288 ag (oc (Sm n)<|oc (ahn n) oz)
def JA{R:Type}(F:(List Int)→jx→(List Int)→(ah A)→R→Int→(List Int)→Option A)(k:KK A)(d:LSh.den ⟨[(2,(.ptr 1)),(2,(.ptr 2)),(27,(.p aK)),(0,(.p kI))],12,[(.var 491 dB (.p dB)),(.var 24 aa (.p aa)),(.var 24 aa (.p aa))],1⟩)(t:R):Option A:=F d.1.2.2.1 d.2.1 d.2.2.1 (fun z2=>k (.exit 0) ⟨.any::.any::(.ptr 1 [])::.any::.any::(.ptr 2 [])::an 41 [],[.var 491 dB (.p dB d.2.1),.var 24 aa (.p aa d.2.2.1),.var 24 aa (.p aa z2)],1⟩) t d.1.2.2.2.1 d.2.2.2.1
def Jy(g:qZ A):Entry A:=cu [true] ⟨[(.ptr 0)],[(.var 491 dB (.p dB))],1⟩ fun d k=>g d.2.1 (fun r0=>k (.p aa r0) [])
section
variable(g256:iP A)(g288:rj A)(n:Nat)
noncomputable def Tk:Env A:=Ev [(256,Bo g256),(288,JR g288)] [(0,au (dl 47 [2,5,33,34]) (JA (pc g256 g288 n)) n)] [] []
theorem agM:Lst A (Tk g256 g288 n) Tryz.f257 0 (dl 47 [2,5]) (JA (Bp g256 g288 n)) (JA (pc g256 g288 n)) fun r d t34 out=>r (((),(),d.1.2.2.1,t34,d.1.2.2.2.2),(d.2.1,d.2.2.1,out,d.2.2.2.2)):=.mk
theorem agL:Qr A (Tk g256 g288 n) Tryz.f257 [.pure] (Jy (Jz g256 g288 n)):=.mk
end
theorem agK(n:Nat):OK A 257 (Jy (vn n)):=cR (agL _ _ n) Tryz.func257 (ax (agM _ _ n) ag) (oc (Tj n)<|oc (ag8 n) oz)
def Hz{R:Type}(F:(List (List Int))→Int→(List Int)→(iX A)→R→Int→jx→Option A)(k:KK A)(d:LSh.den ⟨[(2,(.ptr 0)),(0,(.ptr 1)),(3,(.p (.sl kS))),(0,(.p kI)),(0,(.p kI))],9,[(.var 24 aa (.p aa)),(.var 491 dB (.p dB))],0⟩)(t:R):Option A:=F d.1.2.2.1 d.1.2.2.2.1 d.2.1 (fun z1=>k (.exit 0) ⟨.any::.any::(.ptr 0 [])::(.ptr 1 [])::an 15 [],[.var 24 aa (.p aa d.2.1),.var 491 dB (.p dB z1)],0⟩) t d.1.2.2.2.2.1 d.2.2.1
def Hx(g:xn A):Entry A:=ai [] ⟨[(.p (.sl kS))],[],0⟩ fun d k=>g d.1.1 (fun r0=>k (.p aa r0) [])
section
variable(g255:qY A)(g256:iP A)(g257:qZ A)(n:Nat)
noncomputable def R6:Env A:=Ev [(255,Jt g255),(256,Bo g256),(257,Jy g257)] [(0,au (dl 19 [2,3,7,8,9]) (Hz (oI g255 g256 g257 n)) n)] [] []
theorem aeG:Lst A (R6 g255 g256 g257 n) Tryz.f189 0 (dl 19 [2,3]) (Hz (Al g255 g256 g257 n)) (Hz (oI g255 g256 g257 n)) fun r d t9 h=>r (((),(),d.1.2.2.1,d.1.2.2.2.1,t9,d.1.2.2.2.2.2),(d.2.1,h,d.2.2.2)):=.mk
theorem aeF:Qo A (R6 g255 g256 g257 n) Tryz.f189 [.pure] (Hx (Hy g255 g256 g257 n)):=.mk
end
theorem aeE(n:Nat):OK A 189 (Hx (Am n)):=ak (aeF _ _ _ n) Tryz.func189 (ax (aeG _ _ _ n) ag) (oc (agG n)<|oc (Tj n)<|oc (agK n) oz)
def ux(g:iM A):Entry A:=ai [] ⟨[(.p (.sl kS))],[],0⟩ fun d k=>g d.1.1 (fun r0=>k (.p aa r0) [])
theorem acM(g189:xn A)(n:Nat):Qo A (Ev [(189,Hx g189)] [] [] []) Tryz.f132 [.pure] (ux (Fw g189 n)):=.mk
theorem Fv(n:Nat):OK A 132 (ux (od n)):=ak (acM _ n) Tryz.func132 ag (oc (aeE n) oz)
def JX{R:Type}(F:(List (List Int))→(bx A)→R→Int→(List (List Int))→Option A)(k:KK A)(d:LSh.den ⟨[(0,(.p (.sl aa))),(2,(.row 0)),(0,(.p kI))],34,[(.row 24 aa)],0⟩)(t:R):Option A:=F d.1.1 (fun z0=>k (.exit 0) ⟨.any::.any::.any::(.row 0)::an 35 [],[.row 24 aa z0],0⟩) t d.1.2.2.1 d.2.1
def JV(g:N4 A):Entry A:=ai [] ⟨[(.p (.sl aa))],[],0⟩ fun d k=>g d.1.1 (fun r0=>k (.p (.sl aa) r0) [])
section
variable(g132:iM A)(n:Nat)
noncomputable def TH:Env A:=Ev [(132,ux g132)] [(0,au (dl 39 [0,3,4]) (JX (ph g132 n)) n)] [] []
theorem ahg:Lst A (TH g132 n) Tryz.f311 0 (dl 39 [3]) (JX (Bu g132 n)) (JX (ph g132 n)) fun r d i out=>r ((d.1.1,(),i,d.1.2.2.2),(out,d.2.2)):=.mk
theorem ahf:Qo A (TH g132 n) Tryz.f311 [.pure] (JV (JW g132 n)):=.mk
end
theorem TJ(n:Nat):OK A 311 (JV (jP n)):=ak (ahf _ n) Tryz.func311 (ax (ahg _ n) ag) (oc (Fv n) oz)
end Go.Ev
namespace Go.Ev
open Go.Proofs Go.RowKit Go.Shelf
attribute [local go_sem] Oper.semAt_some
variable{A:Type}
theorem d7.devo{gl:GL}{X Y:Cx}(D:DEvo X Y)(h:d7 gl X):d7 gl Y:=fun g=>by
 have h:=h g
 unfold eo at h ⊢
 split
 ·rename_i q hq
  rw[hq] at h
  simp only at h
  rcases h with h|⟨cs,h1,h2⟩
  ·exact .inl h
  ·obtain⟨v,rfl,ad,cs,rfl,hF,g1,g2⟩:=h1
   refine .inr ⟨_,⟨_,rfl,ad,cs,rfl,D.fmono _ hF,g1.devo D,fun j u hu=>?_⟩,h2⟩
   rw[nJ (w:=X.w) (w':=Y.w) (by rw[gF];exact D.fkeep _ hF)]
   exact g2 j u hu
 ·exact .inl rfl
structure Only(p:Nat→Prop)(W W':World):Prop where
 os:W'.os=W.os
 tape:W'.tape=W.tape
 output:W'.output=W.output
 size:W.heap.size≤W'.heap.size
 shape:∀ (b:Nat) (c:Array Value) (e:TypeId) (f:Nat×Nat),W.heap[b]?=some (Obj.cells c e f)→∃ c':Array Value,W'.heap[b]?=some (Obj.cells c' e f)∧c'.size=c.size
 keep:∀ b,b<W.heap.size→¬ p b→W'.heap[b]?=W.heap[b]?
theorem Only.imp{p q:Nat→Prop}{W W':World}(h:Only p W W')(hp:∀ b,p b→q b):Only q W W':=⟨h.os,h.tape,h.output,h.size,h.shape,fun b hb hn=>h.keep b hb fun g=>hn (hp b g)⟩
structure LInv(X0 X:Cx)(N:Nat)(x:List (List Int))(v:Value):Prop where
 hp:X.hp=[]
 ok:Ok X
 glo:d7 aw X
 evo:WEvo X0 X
 nF:∀ b,X0.w.heap.size≤b→b<N→¬ X.F b
 NX:N≤X.w.heap.size
 rs:RS X (.p (.sl aa) x) v
theorem we{X:Cx}(h:X.hp=[])(b:Nat):¬ X.Own b:=fun⟨_,_,g,_⟩=>by rw[h] at g;simp at g
theorem VY{X Y:Cx}(h:X.hp=[]):HEvo X Y:=⟨fun _ _ g=>by rw[h] at g;simp at g,fun _ _ g=>by rw[h] at g;simp at g⟩
theorem LInv.only{X0 X:Cx}{N:Nat}{x:List (List Int)}{v:Value}{W':World}(I:LInv X0 X N x v)(h:Only (fun b=>X0.w.heap.size≤b∧b<N) X.w W'):LInv X0 ⟨X.ρ,[],X.F,W'⟩ N x v:=by
 have D:DEvo X ⟨X.ρ,[],X.F,W'⟩:=⟨h.shape,fun _ h=>h,fun b hb=>h.keep b (I.ok.fo b hb).1 fun hn=>I.nF b hn.1 hn.2 hb⟩
 refine⟨rfl,⟨fun _ _ g=>by simp at g,fun _ _ _ _ _ g=>by simp at g,fun b hb=>⟨Nat.lt_of_lt_of_le (I.ok.fo b hb).1 h.size,we rfl b⟩⟩,I.glo.devo D,
  ⟨h.os.trans I.evo.os,h.tape.trans I.evo.tape,h.output.trans I.evo.output,Nat.le_trans I.evo.size h.size,fun b c e f hb=>?_,fun b hb ho=>?_,fun b _ ho=>absurd ho (we rfl b),I.evo.fmono,I.evo.fnew⟩,
  I.nF,Nat.le_trans I.NX h.size,I.rs.devo D (VY I.hp)⟩
 ·obtain⟨c1,h1,h2⟩:=I.evo.shape b c e f hb
  obtain⟨c2,h3,h4⟩:=h.shape b c1 e f h1
  exact⟨c2,h3,h4.trans h2⟩
 ·exact(h.keep b (Nat.lt_of_lt_of_le hb I.evo.size) fun hn=>by omega).trans (I.evo.keep b hb ho)
theorem LInv.next{X0 X Y:Cx}{N:Nat}{x y:List (List Int)}{v u:Value}(I:LInv X0 X N x v)(W:WEvo X Y)(hp:Y.hp=[])(ok:Ok Y)(rs:RS Y (.p (.sl aa) y) u):LInv X0 Y N y u:=
 ⟨hp,ok,I.glo.evo W I.ok.fo,I.evo.trans W,fun b h1 h2 h3=>by
  rcases W.fnew b h3 with h|h|h
  ·exact I.nF b h1 h2 h
  ·exact we I.hp b h
  ·exact absurd (Nat.lt_of_lt_of_le h2 I.NX) (by omega),Nat.le_trans I.NX W.size,rs⟩
theorem qa{W:World}{b:Nat}{o:Obj}(h:∀ c e f,W.heap[b]?=some (.cells c e f)→∃ c':Array Value,o=.cells c' e f∧c'.size=c.size):Only (·=b) W (W.putObj b o):=by
 refine⟨rfl,rfl,rfl,by simp[World.putObj],fun j c e f hj=>?_,fun j hj hn=>World.putObj_heap_other hn⟩
 by_cases hb:j=b
 ·subst hb
  obtain⟨c',rfl,h2⟩:=h c e f hj
  exact⟨c',World.putObj_heap_same (Array.getElem?_eq_some_iff.1 hj).1,h2⟩
 ·exact⟨c,(World.putObj_heap_other hb).trans hj,rfl⟩
noncomputable def lc:Code:=fU [0,0] (eh Tryz.f310)
structure Rnd where
 fn:FuncId
 tmps:Array Value
 assign:Code
 body:Code
 D:Nat
 l:Nat
 B:Nat
def Rnd.rc(r:Rnd)(st:Bool):Go.Loop:={ state:=bif st then .done else .ready,pending:=bif st then some .ret else none,fn:=r.fn,tmps:=r.tmps,params:=#[7],assign:=r.assign,body:=r.body,defers:=r.D }
structure LW(r:Rnd)(st:Bool)(W:World)(v:Value):Prop where
 l:W.heap[r.l]?=some (.loop (r.rc st))
 D:W.heap[r.D]?=some (.deferred (some []))
 B:W.heap[r.B]?=some (.cells #[v] 262 (0,0))
theorem ak1{P:Program}{gl:GL}{f:FuncId}{K R:Kind}{g:K.den→(R.den→Option A)→Option A}(h:aI P gl f (ai [] ⟨[.p K],[],0⟩ fun d k=>g d.1.1 fun r0=>k (.p R r0) [])){x:K.den}{kk:R.den→Option A}{out:A}(e:g x kk=some out) :
  ∃ y,kk y=some out∧m9 P gl f [.p K x] [] (.p R y) []:=by
 obtain⟨r,hp,h1,h2,_⟩:=h [.p K x] [] (fun r hp=>match hp with|[]=>eP r R kk|_=>none) out (by
  simp only[ai,mV,lR,Sh.read,eP,dif_pos];exact e)
 match hp,h1,h2 with
 | [],h1,h2=>obtain⟨y,rfl,h3⟩:=rP h1;exact⟨y,h3,h2⟩
theorem D3{P:Program}{f:FuncId}{vals:Array Value}{w:World}{K:Value→World→Prop}(he:∀ args w,(callFunc f args).run P w=.ok (.enter f args) w)(h:N0 P f vals w K):Calls P f vals w fun e w'=>∃ u,e=.returned u∧K u w':=by
 obtain⟨nx,w1,h1,h2⟩:=h
 rw[he] at h1
 cases h1
 rcases h2 with ⟨u,h,_⟩|⟨_,h⟩
 ·cases h
 ·exact h
theorem tv{X:Cx}{K:Kind}{x:List K.den}{v:Value}(h:RS X (.p (.sl K) x) v):∃ p c,v=.slice p x.length c:=by
 obtain⟨cs,hc,hcs⟩:=(h.to0 (by simp)).data
 rcases hcs with hcs|⟨_,rfl⟩
 ·exact nomatch hcs.1
 ·obtain⟨p,c,hpc,_⟩:=hc
  exact⟨p,c,(List.cons.inj hpc).1⟩
def j0{σ:Type}(g:List (List Int)→(List (List Int)→Option A)→Option A)(F:List (List Int)→σ→(σ→Option A)→(σ→Option A)→Option A)(kd ks:σ→Option A):Nat→List (List Int)→σ→Option A
 | 0=>fun _ _=>none
 | f+1=>fun x s=>F x s (fun s'=>bif (decide ((x.length:Int)>1)) then g x fun y=>j0 g F kd ks f y s' else kd s') ks
inductive LRun{σ:Type}(Sem:List (List Int)→σ→Bool→σ→Prop):Nat→List (List Int)→σ→Bool→σ→Prop where
 | stop {f:Nat} {x:List (List Int)} {s s':σ}:Sem x s true s'→LRun Sem (f+1) x s true s'
 | last {f:Nat} {x:List (List Int)} {s s':σ}:Sem x s false s'→¬ 1<x.length→LRun Sem (f+1) x s false s'
 | next {f:Nat} {x y:List (List Int)} {s s1 s':σ} {st:Bool}:Sem x s false s1→1<x.length→m9 Tryz.prog aw 311 [.p (.sl aa) x] [] (.p (.sl aa) y) []→LRun Sem f y s1 st s'→LRun Sem (f+1) x s st s'
theorem MJ{σ:Type}{Sem:List (List Int)→σ→Bool→σ→Prop}{F:List (List Int)→σ→(σ→Option A)→(σ→Option A)→Option A}(hF:∀ x s kc ks (out:A),F x s kc ks=some out→∃ (st:Bool) (s':σ),(bif st then ks s' else kc s')=some out∧Sem x s st s'){g:List (List Int)→(List (List Int)→Option A)→Option A}(hg:aI Tryz.prog aw 311 (JV g))(kd ks:σ→Option A):∀ (f:Nat) (x:List (List Int)) (s:σ) (out:A),j0 g F kd ks f x s=some out→∃ (st:Bool) (s':σ),(bif st then ks s' else kd s')=some out∧LRun Sem f x s st s'
 | 0,_,_,_,h=>by cases h
 | f+1,x,s,out,h=>by
  simp only[j0] at h
  obtain⟨st,s',h1,hs⟩:=hF _ _ _ _ _ h
  cases st with
  | true=>exact⟨true,s',h1,.stop hs⟩
  | false=>
   have h1:(bif decide ((x.length:Int)>1) then g x fun y=>j0 g F kd ks f y s' else kd s')=some out:=h1
   by_cases hx:1<x.length
   ·rw[show decide ((x.length:Int)>1)=true from decide_eq_true (by omega),cond_true] at h1
    obtain⟨y,h2,hsem⟩:=ak1 (K:=.sl aa) (R:=.sl aa) (g:=g) hg h1
    obtain⟨st2,s2,h3,h4⟩:=MJ hF hg kd ks f y s' out h2
    exact⟨st2,s2,h3,.next hs hx hsem h4⟩
   ·rw[show decide ((x.length:Int)>1)=false from decide_eq_false (by omega),cond_false] at h1
    exact⟨false,s',h1,.last hs hx⟩
structure RndOK{σ:Type}(r:Rnd)(N:Nat)(X0:Cx)(S:σ→World→Prop)(a1:Value→Act)(Sem:List (List Int)→σ→Bool→σ→Prop):Prop where
 D:X0.w.heap.size≤r.D∧r.D<N
 l:X0.w.heap.size≤r.l∧r.l<N
 B:X0.w.heap.size≤r.B∧r.B<N
 lD:r.l≠r.D
 Bl:r.B≠r.l
 BD:r.B≠r.D
 hS:∀ W W' s,(∀ b,X0.w.heap.size≤b→b<N→b≠r.l→b≠r.B→W'.heap[b]?=W.heap[b]?)→S s W→S s W'
 assign:∀ v m W K,K (a1 v) W→r.assign.wpIn (rf r.l) m Tryz.prog (Exit.then K fun _ _ _=>False) ⟨r.tmps.setIfInBounds 7 v,[]⟩ W
 body:∀ x s st s',Sem x s st s'→∀ X v,LInv X0 X N x v→S s X.w→∀ Q m,
  (∀ a W',Only (fun b=>(X0.w.heap.size≤b∧b<N)∧b≠r.l∧b≠r.D∧b≠r.B) X.w W'→S s' W'→Q (bif st then .ret else .normal) a W')→r.body.wpIn (rf r.l) m Tryz.prog Q (a1 v) X.w
def N9{σ:Type}(r:Rnd)(N:Nat)(X0:Cx)(S:σ→World→Prop)(st:Bool)(s:σ)(W:World):Prop:=∃ X x v,LInv X0 X N x v∧X.w=W∧LW r st W v∧S s W
theorem ML{σ:Type}{r:Rnd}{N:Nat}{X0:Cx}{S:σ→World→Prop}{a1:Value→Act}{Sem:List (List Int)→σ→Bool→σ→Prop}(O:RndOK r N X0 S a1 Sem){x:List (List Int)}{s:σ}{st:Bool}{s':σ}(h:Sem x s st s'):∀ X v,LInv X0 X N x v→LW r false X.w v→S s X.w→∀ m,
   YieldAt Fence.wide m Tryz.prog r.l #[v] X.w fun e W'=>e=.returned (.bool !st)∧LInv X0 ⟨X.ρ,[],X.F,W'⟩ N x v∧LW r st W' v∧S s' W':=by
 have hb:=O.body x s st s' h
 refine fun X v I L hs m=>⟨r.fn,_,r.assign,r.body,run_yield L.l rfl,?_⟩
 refine roundIn_of_wpIn trivial ?_
 have e:((r.rc false).params.zip #[v]).foldl (fun tmps (t,a)=>tmps.setIfInBounds t a) (r.rc false).tmps=r.tmps.setIfInBounds 7 v:=by simp[Rnd.rc]
 rw[e]
 refine O.assign v _ _ _ ?_
 refine⟨_,run_beginRound L.l rfl,?_⟩
 have o1:Only (·=r.l) X.w (X.w.putObj r.l (.loop { r.rc false with state:=.busy })):=qa fun c e f hc=>by rw[L.l] at hc;cases hc
 have I1:=I.only (o1.imp fun b hb=>by subst hb;exact O.l)
 have hl1:(X.w.putObj r.l (.loop { r.rc false with state:=.busy })).heap[r.l]?=some (.loop { r.rc false with state:=.busy }):=World.putObj_heap_same (Array.getElem?_eq_some_iff.1 L.l).1
 have hs1:S s (X.w.putObj r.l (.loop { r.rc false with state:=.busy })):=O.hS _ _ s (fun b h1 h2 h3 h4=>World.putObj_heap_other h3) hs
 refine hb _ v I1 hs1 _ _ fun a W' o2 hs2=>?_
 have hl2:W'.heap[r.l]?=some (.loop { r.rc false with state:=.busy }):=(o2.keep _ (Array.getElem?_eq_some_iff.1 hl1).1 fun h=>h.2.1 rfl).trans hl1
 have I2:=I1.only (o2.imp fun b hb=>hb.1)
 have hD1:=(World.putObj_heap_other (w:=X.w) (o:=.loop { r.rc false with state:=.busy }) (Ne.symm O.lD)).trans L.D
 have hB1:=(World.putObj_heap_other (w:=X.w) (o:=.loop { r.rc false with state:=.busy }) O.Bl).trans L.B
 have hD2:=(o2.keep _ (Array.getElem?_eq_some_iff.1 hD1).1 fun h=>h.2.2.1 rfl).trans hD1
 have hB2:=(o2.keep _ (Array.getElem?_eq_some_iff.1 hB1).1 fun h=>h.2.2.2 rfl).trans hB1
 have key:∀ jump:Option Code,(jump=bif st then some .ret else none)→∃ v1 w1,(Instr.endRound r.l jump).run Tryz.prog W'=.ok v1 w1∧(.returned v1=Ending.returned (.bool !st)∧LInv X0 ⟨X.ρ,[],X.F,w1⟩ N x v∧LW r st w1 v∧S s' w1):=fun jump hj=>by
  refine⟨_,_,run_endRound jump hl2,by subst hj;cases st<;>rfl,?_,?_,?_⟩
  ·have o3:Only (·=r.l) W' (W'.putObj r.l (.loop { { r.rc false with state:=.busy } with state:=if jump.isNone then .ready else .done,pending:=jump })):=qa fun c e f hc=>by rw[hl2] at hc;cases hc
   exact I2.only (o3.imp fun b hb=>by subst hb;exact O.l)
  ·refine⟨(World.putObj_heap_same (Array.getElem?_eq_some_iff.1 hl2).1).trans ?_,(World.putObj_heap_other (Ne.symm O.lD)).trans hD2,(World.putObj_heap_other O.Bl).trans hB2⟩
   subst hj
   cases st<;>rfl
  ·exact O.hS _ _ _ (fun b _ _ h3 _=>World.putObj_heap_other h3) hs2
 cases st with
 | true=>exact key (some .ret) rfl
 | false=>exact key none rfl
theorem Xt{W:World}{b:Nat}{u v:Value}{t:TypeId}(h:W.heap[b]?=some (.cells #[u] t (0,0))):W.setCell ⟨b,0,none⟩ v=W.putObj b (.cells #[v] t (0,0)):=by
 simp only[World.setCell,World.putObj]
 congr 1
 apply Array.ext_getElem?
 intro i
 rw[Array.getElem?_modify,Array.getElem?_setIfInBounds]
 by_cases hi:b=i
 ·subst hi;simp only[if_true,h,Option.map_some,(Array.getElem?_eq_some_iff.1 h).1];simp
 ·simp[hi]
set_option maxHeartbeats 2000000 in
theorem akc{σ:Type}{r:Rnd}{N:Nat}{X0:Cx}{S:σ→World→Prop}{a1:Value→Act}{Sem:List (List Int)→σ→Bool→σ→Prop}(O:RndOK r N X0 S a1 Sem){f:Nat}{x:List (List Int)}{s:σ}{st:Bool}{s':σ}(h:LRun Sem f x s st s'):∀ X v (u2 u3 u4 u5 u6 u7 u8 u9 u10 u11 u12:Value),LInv X0 X N x v→LW r false X.w v→S s X.w→∀ Q m,(∀ ts W',N9 r N X0 S st s' W'→Q (.exit 0) { tmps:=ts,defers:=[] } W')→
   Code.roundsIn Fence.wide (m+1) Tryz.prog lc Q f { tmps:=#[.func (.yield r.l) #[] #[],.pointer (some ⟨r.B,0,none⟩),u2,u3,u4,u5,u6,u7,u8,u9,u10,u11,u12],defers:=[] } X.w:=by
 induction h with
 | @stop f x s s' hsem=>
  intro X v u2 u3 u4 u5 u6 u7 u8 u9 u10 u11 u12 I L hs Q m hQ
  rw[roundsIn_succ]
  obtain⟨p,c,rfl⟩:=tv I.rs
  have hc:X.w.cell? ⟨r.B,0,none⟩=some (.slice p x.length c):=by simp[World.cell?,L.B]
  obtain⟨fn,tmps,assign,body,hy,hR⟩:=ML O hsem X _ I L hs m
  dsimp only[lc,eh,Tryz.f310,Option.getD_some,fU,if_true]
  gi_wp2
  refine hR.mono ?_
  rintro e W' ⟨rfl,I',L',hs'⟩
  gi_wp2
  exact⟨_,x,_,I',rfl,L',hs'⟩
 | @last f x s s' hsem hx=>
  intro X v u2 u3 u4 u5 u6 u7 u8 u9 u10 u11 u12 I L hs Q m hQ
  rw[roundsIn_succ]
  obtain⟨p,c,rfl⟩:=tv I.rs
  have hc:X.w.cell? ⟨r.B,0,none⟩=some (.slice p x.length c):=by simp[World.cell?,L.B]
  obtain⟨fn,tmps,assign,body,hy,hR⟩:=ML O hsem X _ I L hs m
  dsimp only[lc,eh,Tryz.f310,Option.getD_some,fU,if_true]
  gi_wp2
  refine hR.mono ?_
  rintro e W' ⟨rfl,I',L',hs'⟩
  have hc':W'.cell? ⟨r.B,0,none⟩=some (.slice p x.length c):=by simp[World.cell?,L'.B]
  have hxi:¬ (1:Int)<(x.length:Int):=by omega
  gi_wp2
  exact⟨_,x,_,I',rfl,L',hs'⟩
 | @next f x y s s1 s' st hsem hx hg hrun ih=>
  intro X v u2 u3 u4 u5 u6 u7 u8 u9 u10 u11 u12 I L hs Q m hQ
  rw[roundsIn_succ]
  obtain⟨p,c,rfl⟩:=tv I.rs
  have hc:X.w.cell? ⟨r.B,0,none⟩=some (.slice p x.length c):=by simp[World.cell?,L.B]
  obtain⟨fn,tmps,assign,body,hy,hR⟩:=ML O hsem X _ I L hs m
  dsimp only[lc,eh,Tryz.f310,Option.getD_some,fU,if_true]
  gi_wp2
  refine hR.mono ?_
  rintro e W' ⟨rfl,I',L',hs'⟩
  have hc':W'.cell? ⟨r.B,0,none⟩=some (.slice p x.length c):=by simp[World.cell?,L'.B]
  have hcl:=D3 (enters_of Tryz.func311 (by kernel_rfl) rfl) (hg ⟨X.ρ,[],X.F,W'⟩ #[.slice p x.length c] rfl I'.ok I'.glo (.cons I'.rs .nil))
  have hxi:(1:Int)<(x.length:Int):=by omega
  gi_wp2
  refine⟨trivial,(callsIn_wide.2 hcl).mono ?_⟩
  rintro e w' ⟨u,rfl,Y,rfl,hY1,hY2,hY3,hY4,_⟩
  have I3:=I'.next hY4 hY1 hY3 hY2
  have keep3:∀ b o,W'.heap[b]?=some o→Y.w.heap[b]?=some o:=fun b o hb=>(hY4.keep b (Array.getElem?_eq_some_iff.1 hb).1 (we rfl b)).trans hb
  have hB3:=keep3 _ _ L'.B
  have hf3:Y.w.frozen? ⟨r.B,0,none⟩=false:=by simp[World.frozen?,hB3]
  have hc3:Y.w.cell? ⟨r.B,0,none⟩=some (.slice p x.length c):=by simp[World.cell?,hB3]
  obtain⟨p',c',rfl⟩:=tv hY2
  gi_wp2
  rw[Xt hB3]
  have o4:Only (·=r.B) Y.w (Y.w.putObj r.B (.cells #[.slice p' y.length c'] 262 (0,0))):=qa fun c e f hc=>by rw[hB3] at hc;cases hc;exact⟨_,rfl,rfl⟩
  refine ih ⟨Y.ρ,[],Y.F,_⟩ _ _ _ _ _ _ _ _ _ _ _ _ (I3.only (o4.imp fun b hb=>by subst hb;exact O.B))
   ⟨(World.putObj_heap_other (Ne.symm O.Bl)).trans (keep3 _ _ L'.l),(World.putObj_heap_other (Ne.symm O.BD)).trans (keep3 _ _ L'.D),World.putObj_heap_same (Array.getElem?_eq_some_iff.1 hB3).1⟩
   (O.hS W' _ s1 (fun b h1 h2 _ h4=>(World.putObj_heap_other h4).trans (hY4.keep b (Nat.lt_of_lt_of_le h2 I'.NX) (we rfl b))) hs') _ _ hQ
theorem akb{σ:Type}{r:Rnd}{N:Nat}{X0:Cx}{S:σ→World→Prop}{a1:Value→Act}{Sem:List (List Int)→σ→Bool→σ→Prop}(O:RndOK r N X0 S a1 Sem){f:Nat}{x:List (List Int)}{s:σ}{st:Bool}{s':σ}(h:LRun Sem f x s st s'){X:Cx}{v:Value}(I:LInv X0 X N x v)(L:LW r false X.w v)(hs:S s X.w)(m:Nat) :
  CallsIn Fence.wide (m+1) Tryz.prog 310 #[.func (.yield r.l) #[] #[],.pointer (some ⟨r.B,0,none⟩)] X.w fun e W'=>(∃ u,e=.returned u)∧N9 r N X0 S st s' W':=by
 refine callsIn_of_wp Tryz.func310 rfl trivial ?_ rfl
 simp only[Tryz.ntmps310,List.size_toArray,List.length_cons,List.length_nil,Nat.reduceAdd,Nat.reduceSub,Array.replicate_succ,Array.replicate_zero,List.push_toArray,List.append_toArray,List.nil_append,List.cons_append]
 refine wpIn_block (wpIn_loop_rounds f (akc O h X v _ _ _ _ _ _ _ _ _ _ _ I L hs _ m fun ts W' hE=>?_))
 simp only[Exit.inBlock,if_true]
 exact⟨rfl,_,results_none rfl _ _ _,⟨_,rfl⟩,hE⟩
theorem p9(p:Nat→Prop)(W:World)(o:Obj):Only p W (W.alloc o):=
 ⟨rfl,rfl,rfl,by simp,fun b c e f h=>⟨c,(Below.heap_alloc W _ b (Array.getElem?_eq_some_iff.1 h).1).trans h,rfl⟩,fun b hb _=>Below.heap_alloc W _ b hb⟩
theorem Only.trans{p:Nat→Prop}{A B C:World}(h:Only p A B)(k:Only p B C):Only p A C:=
 ⟨k.os.trans h.os,k.tape.trans h.tape,k.output.trans h.output,Nat.le_trans h.size k.size,fun b c e f hb=>by
  obtain⟨c1,h1,h2⟩:=h.shape b c e f hb
  obtain⟨c2,h3,h4⟩:=k.shape b c1 e f h1
  exact⟨c2,h3,h4.trans h2⟩,fun b hb hn=>(k.keep b (Nat.lt_of_lt_of_le hb h.size) hn).trans (h.keep b hb hn)⟩
theorem Vx{σ:Type}{X0 X1:Cx}{S:σ→World→Prop}{a1:Value→Act}{Sem:List (List Int)→σ→Bool→σ→Prop}{f:Nat}{x:List (List Int)}{s:σ}{st:Bool}{s':σ}(h:LRun Sem f x s st s'){v:Value}(I:LInv X0 X1 X1.w.heap.size x v){B:Nat}(hb:X1.w.heap[B]?=some (.cells #[v] 262 (0,0))){a:Act}{tf:Tmp}(ha:a.eval (.tmp tf)=.func (.func 310) #[] #[.pointer (some ⟨B,0,none⟩)])(hd:a.defers=[]){assign body:Code}(O:∀ fn,RndOK ⟨fn,a.tmps,assign,body,X1.w.heap.size,X1.w.heap.size+1,B⟩ (X1.w.heap.size+2) X0 S a1 Sem)(hs:∀ W,(∀ b,b<X1.w.heap.size→W.heap[b]?=X1.w.heap[b]?)→S s W){Q:Exit→Act→World→Prop}{m:Nat}(hQ:∀ X' x' v',LInv X0 X' (X1.w.heap.size+2) x' v'→S s' X'.w→X'.w.heap[X1.w.heap.size]?=some (.deferred (some []))→Q (bif st then .ret else .normal) { a with defers:=[{ target:=.collected X1.w.heap.size,args:=#[] }] } X'.w) :
  (Code.rangeFunc (.tmp tf) #[7] assign body).wpIn Fence.wide (m+2) Tryz.prog Q a X1.w:=by
 refine wpIn_rangeFunc fun fn _=>?_
 obtain⟨W1,hW1⟩:∃ W1,((X1.w.alloc (.deferred (some []))).alloc (.loop { state:=.ready,pending:=none,fn,tmps:=a.tmps,params:=#[7],assign,body,defers:=X1.w.heap.size }))=W1:=⟨_,rfl⟩
 have o1:Only (fun b=>X0.w.heap.size≤b∧b<X1.w.heap.size) X1.w W1:=by rw[← hW1];exact(p9 _ _ _).trans (p9 _ _ _)
 have I0:=I.only o1
 have hsz:W1.heap.size=X1.w.heap.size+2:=by rw[← hW1];simp
 have hold:∀ b,b<X1.w.heap.size→W1.heap[b]?=X1.w.heap[b]?:=fun b hb=>by rw[← hW1];exact(Below.heap_alloc _ _ b (by simp;omega)).trans (Below.heap_alloc _ _ b hb)
 have hD:W1.heap[X1.w.heap.size]?=some (.deferred (some [])):=by rw[← hW1];exact(Below.heap_alloc _ _ _ (by simp)).trans (World.alloc_heap_new _ _)
 have hl:W1.heap[X1.w.heap.size+1]?=some (.loop { state:=.ready,pending:=none,fn,tmps:=a.tmps,params:=#[7],assign,body,defers:=X1.w.heap.size }):=by
  have:=World.alloc_heap_new (X1.w.alloc (.deferred (some []))) (.loop { state:=.ready,pending:=none,fn,tmps:=a.tmps,params:=#[7],assign,body,defers:=X1.w.heap.size })
  rwa [World.size_alloc,hW1] at this
 have I1:LInv X0 ⟨X1.ρ,[],X1.F,W1⟩ (X1.w.heap.size+2) x v:=⟨I0.hp,I0.ok,I0.glo,I0.evo,fun b h1 h2 h3=>I.nF b h1 (I.ok.fo b h3).1 h3,Nat.le_of_eq hsz.symm,I0.rs⟩
 refine⟨_,_,W1,{ target:=.fn (.func 310) #[.pointer (some ⟨B,0,none⟩)],args:=#[.func (.yield (X1.w.heap.size+1)) #[] #[]] },W1,310,_,W1,(run_enterLoop_outer _ _ _ _ _).trans (by rw[hW1]),?_,?_,?_,fun h=>(nomatch h),
  (akb (O fn) h I1 ⟨hl,hD,(hold _ (Array.getElem?_eq_some_iff.1 hb).1).trans hb⟩ (hs W1 hold) m).mono ?_⟩
 ·simp only[resolve,ha]
  simp[go_sem]
 ·intro _ _;trivial
 ·have eg:=enters_of (P:=Tryz.prog) Tryz.func310 (by kernel_rfl) rfl
  simp[invoke,go_sem,eg]
 ·rintro e W2 ⟨⟨u,rfl⟩,X2,x2,v2,I2,rfl,L2,hs2⟩
  have L2l:=L2.l
  have o2:∀ o,Only (·=X1.w.heap.size+1) X2.w (X2.w.putObj (X1.w.heap.size+1) o)→LInv X0 ⟨X2.ρ,[],X2.F,X2.w.putObj (X1.w.heap.size+1) o⟩ (X1.w.heap.size+2) x2 v2:=fun o h=>I2.only (h.imp fun b hb=>by subst hb;exact⟨Nat.le_trans I.evo.size (by omega),by omega⟩)
  have oo:∀ o,Only (·=X1.w.heap.size+1) X2.w (X2.w.putObj (X1.w.heap.size+1) o):=fun o=>qa fun c e f hc=>by rw[L2l] at hc;cases hc
  have hk:=fun o=>(World.putObj_heap_other (w:=X2.w) (r:=X1.w.heap.size+1) (k:=X1.w.heap.size) (o:=o) (by omega)).trans L2.D
  have hs3:∀ o,S s' (X2.w.putObj (X1.w.heap.size+1) o):=fun o=>(O fn).hS _ _ _ (fun b _ _ h3 _=>World.putObj_heap_other h3) hs2
  cases st with
  | true=>exact⟨_,_,run_endLoop L2l (by simp[Rnd.rc]),wpIn_ret (by rw[hd];exact hQ _ _ _ (o2 _ (oo _)) (hs3 _) (hk _))⟩
  | false=>exact⟨_,_,run_endLoop L2l (by simp[Rnd.rc]),by rw[hd];exact hQ _ _ _ (o2 _ (oo _)) (hs3 _) (hk _)⟩
def tq(body:Code)(nt:Nat)(t2:TypeId)(pl sl:Nat)(u u':List Value)(x:List (List Int))(st:Bool):Prop:=
 ∀ (X:Cx) (v:Value) (c:Nat) (a:Act),X.hp=[]→Ok X→d7 aw X→RS X (.p (.sl aa) x) v→X.w.heap[c]?=some (.cells u.toArray t2 (0,0))→¬ X.F c→a.defers=[]→a.tmps.size=nt→a.tmps[pl]?=some (.pointer (some ⟨c,0,none⟩))→a.tmps[sl]?=some v→
  ∀ Q:Exit→Act→World→Prop,(∀ a' W',Only (·=c) X.w W'→W'.heap[c]?=some (.cells u'.toArray t2 (0,0))→Q (bif st then .ret else .normal) a' W')→wq Tryz.prog body Q a X.w
def p8(X:Cx)(c:Nat)(b:Blk):Cx:=⟨fun i=>if i=0 then some c else none,[b],X.F,X.w⟩
theorem akJ{X:Cx}{c:Nat}{t:TypeId}{K:Kind}{av:AV}{cs:List Value}(h:X.hp=[])(ok:Ok X)(hf:av.fits K=true)(hc:X.w.heap[c]?=some (.cells cs.toArray t (0,0)))(hr:RA (p8 X c (.var t K av)) av cs)(hn:¬ X.F c):Ok (p8 X c (.var t K av)):=by
 refine⟨fun id b hb=>?_,fun id id' b c1 c2 h1 h2 _ _=>?_,fun b hb=>⟨(ok.fo b hb).1,fun⟨id,bl,h1,h2⟩=>?_⟩⟩
 ·match id,hb with
  | 0,hb=>cases hb;exact⟨hf,c,cs,rfl,hc,hr⟩
 ·match id,id',h1,h2 with
  | 0,0,_,_=>rfl
 ·match id,h1 with
  | 0,h1=>
   cases h1
   have h2:some c=some b:=h2
   cases h2
   exact hn hb
theorem akI(X:Cx)(c:Nat)(b:Blk):DEvo X (p8 X c b):=⟨fun _ c _ _ h=>⟨c,h,rfl⟩,fun _ h=>h,fun _ _=>rfl⟩
theorem akK{X Y:Cx}{c:Nat}{t:TypeId}{K:Kind}{av:AV}(W:WEvo (p8 X c (.var t K av)) Y):Only (·=c) X.w Y.w:=
 ⟨W.os,W.tape,W.output,W.size,W.shape,fun d hd hn=>W.keep d hd fun⟨id,bl,h1,h2⟩=>by
  match id,h1 with
  | 0,h1=>
   cases h1
   have h2:some c=some d:=h2
   exact hn (Option.some.inj h2).symm⟩
theorem WW{E:Env A}(T:aO Tryz.prog E)(fns:cS Tryz.prog E){body:Code}(lo:∀ q∈aD 0 body,∀ L,E.lps.lookup q.1=some L→cl Tryz.prog E.gl q.2 L)(hgl:E.gl=aw){t2:TypeId}{x:List (List Int)}{nt pl sl:Nat}{tm:List AV}(hnt:tm.length=nt)(htm:∀ (i:Nat) (av:AV),tm[i]?=some av→av=.any∨(i=pl∧av=.ptr 0 [])∨(i=sl∧av=.p (.sl aa) x)){K:Kind}{y:K.den}{u:List Value}(hu:∀ X:Cx,RP X.F X.w K y u){kc ks:K.den→Option A}{out:A}(h:bY E 0 body ⟨tm,[.var t2 K (.p K y)],1⟩ (fun x s'=>match s'.hp with|[.var _ _ v]=>eP v K fun b=>(match x with|.ret=>ks b|.normal=>kc b|_=>none)|_=>none)=some out) :
  ∃ (st:Bool) (y':K.den),(bif st then ks y' else kc y')=some out∧∀ u',(∀ (X:Cx) cs,RP X.F X.w K y' cs→cs=u')→tq body nt t2 pl sl u u' x st:=by
 obtain⟨x',s',h1,hm,hsem⟩:=gK T fns follows lo h
 obtain⟨tm',hp',m'⟩:=s'
 simp only at h1
 match hp',h1,hsem with
 | [.var t' K' v'],h1,hsem=>
  obtain⟨y',rfl,h9⟩:=rP h1
  have key:∀ st,(x'=bif st then .ret else .normal)→∀ u',(∀ (X:Cx) cs,RP X.F X.w K y' cs→cs=u')→tq body nt t2 pl sl u u' x st:=fun st hst u' hu' X v c a hp ok glo rs hc hF hd hsz h2 h3 Q hQ=>by
   have ok':=akJ (K:=K) (av:=.p K y) (cs:=u) hp ok (by simp[AV.fits]) hc (hu _) hF
   have D:=akI X c (.var t2 K (.p K y))
   refine NW (hsem (p8 X c (.var t2 K (.p K y))) a (fun e a w=>e=x'.out∧∃ Y:Cx,Y.w=w∧WEvo (p8 X c (.var t2 K (.p K y))) Y∧PEvo 1 (p8 X c (.var t2 K (.p K y))) Y∧Y.hp=[.var t' K' (.p K y')]∧Ok Y) ⟨by rw[hgl];exact glo.devo D,hd,by rw[hsz];exact hnt.symm,fun i av hi=>?_,rfl,ok'⟩ fun Y a' W V R=>⟨rfl,Y,rfl,W,V,R.hp,R.ok⟩) ?_
   ·obtain⟨w,hw⟩:∃ w,a.tmps[i]?=some w:=by
     have hlt:i<tm.length:=(List.getElem?_eq_some_iff.1 hi).1
     exact⟨_,Array.getElem?_eq_getElem (by omega)⟩
    rcases htm i av hi with rfl|⟨rfl,rfl⟩|⟨rfl,rfl⟩
    ·exact⟨w,hw,RS.any _⟩
    ·refine⟨_,h2,.inr ⟨_,⟨_,rfl,c,0,K,rfl,cL K,rfl⟩,.inr ⟨rfl,rfl⟩⟩⟩
    ·exact⟨_,h3,rs.devo D (VY hp)⟩
   ·rintro e a' w ⟨rfl,Y,rfl,W,V,hY,okY⟩
    have hρ:Y.ρ 0=some c:=(V.ρ 0 (.var t2 K (.p K y)) (by omega) rfl (by simp)).trans rfl
    obtain⟨_,b,cs,hb,hbc,hcs'⟩:=okY.blk 0 _ (by rw[hY];rfl)
    rw[hρ] at hb
    cases hb
    obtain rfl:=hu' Y cs hcs'
    obtain⟨c',hc',_⟩:=W.shape c _ _ _ hc
    have he:=hbc.symm.trans hc'
    cases he
    have:=hQ a' Y.w (akK W) hbc
    rw[hst]
    cases st<;>exact this
  cases x' with
  | normal=>exact⟨false,y',h9,key false rfl⟩
  | ret=>exact⟨true,y',h9,key true rfl⟩
  | exit _=>exact absurd h9 (by simp)
def WI:Code→Code
 | .rangeFunc _ _ _ b=>b
 | _=>.skip
set_option maxHeartbeats 1000000 in
theorem Vw(n:Nat)(p:Option Addr)(l c:Nat)(w:World) :
  CallsIn Fence.wide n Tryz.prog 285 #[.slice p l c] w fun e w'=>e=.returned (.func (.func 310) #[] #[.pointer (some ⟨w.heap.size,0,none⟩)])∧w'=w.alloc (.cells #[.slice p l c] 262):=by
 refine callsIn_of_wp Tryz.func285 rfl trivial ?_ rfl
 simp only[Tryz.ntmps285,List.size_toArray,List.length_cons,List.length_nil,Nat.reduceAdd,Nat.reduceSub,Array.replicate_succ,Array.replicate_zero,List.push_toArray,List.append_toArray,List.nil_append,List.cons_append]
 gi_wp2
 go_ret
 exact⟨rfl,rfl⟩
theorem MK{X X':Cx}{N D:Nat}{x:List (List Int)}{v:Value}(I:LInv X X' N x v)(h1:X.w.heap.size≤D)(h2:D<N)(h3:∀ c e f,X'.w.heap[D]?≠some (.cells c e f)) :
  ∃ Y:Cx,Y.w=X'.w.putObj D (.deferred none)∧Y.hp=[]∧Ok Y∧WEvo X Y∧PEvo 0 X Y:=by
 have J:=I.only ((qa (W:=X'.w) (b:=D) (o:=.deferred none) fun c e f hc=>absurd hc (h3 c e f)).imp fun b hb=>by subst hb;exact⟨h1,h2⟩)
 exact⟨_,rfl,rfl,J.ok,J.evo,⟨fun _ _ h=>absurd h (by omega),fun _ _ h=>absurd h (by omega)⟩⟩
end Go.Ev
namespace Go.Ev
open Go.Proofs Go.RowKit
theorem ajE{P:Program}{gl:GL}{f:FuncId}{en:Entry (AV×List Blk)}(h:aI P gl f en)(he:∀ args w,(callFunc f args).run P w=.ok (.enter f args) w){args:List AV}(hr:en.run args [] (fun r hp=>some (r,hp))=some (.p .bool true,[]))(W:World)(vals:Array Value)(hg:d7 gl (X0 (fun b=>b<W.heap.size) W))(ha:All2 (RS (X0 (fun b=>b<W.heap.size) W)) args vals.toList):Calls P f vals W fun e w'=>e=.returned (.bool true)∧Below W.heap.size W w':=by
 obtain⟨r,hp,h1,h2,_⟩:=h _ _ _ _ hr
 cases h1
 refine(D3 he (h2 (X0 (fun b=>b<W.heap.size) W) vals rfl ⟨fun id b hb=>by simp[X0] at hb,fun id id' b c c' h1=>by simp[X0] at h1,fun b hb=>⟨hb,fun⟨id,blk,h1,_⟩=>by simp[X0] at h1⟩⟩ hg ha)).mono fun e w' ⟨u,he,Y,hY,_,hu,_,V,_⟩=>?_
 rw[RS.bool] at hu
 subst hu;subst hY
 exact⟨he,V.os,V.tape,V.output,V.size,fun k hk=>V.keep k hk fun⟨id,blk,h,_⟩=>by simp[X0] at h⟩
theorem Dj{x:List Int}(h:∀ y∈x,WF (.int .u8) y):aq x:=fun y hy=>by
 have h1:0≤y∧y≤255:=h y hy
 omega
theorem wK{x:Int}(h:WF (.int .u32) x):bj x:=by
 have h1:0≤x∧x≤4294967295:=h
 unfold bj;omega
theorem X6{x:bC}(h:WF ci x):dO x:=by
 obtain⟨v,pv,rt,tm,gb,nc,u⟩:=x
 obtain⟨h1,h2,h3,h4,h5,h6,-⟩:=h
 exact⟨wK h1,h2.1,Dj h2.2,h3.1,Dj h3.2,wK h4,wK h5,wK h6⟩
theorem q5(lim per spa fut cap:Int)(hd:bC)(ws:List Int)(b m e peers:Int)(w:List (List Int))(start:Int)(cs0:List (List bo))(ro:List Int)(ba qu a1:Int)(hl:bj lim)(hh:dO hd)(hws:ws.length=4∧∀ x∈ws,0≤x∧x≤18446744073709551615)(hw:∀ x∈w,aq x)(hi:wQ cs0){A:Type}(g:Bool→Option A) :
  pI 1100 (((lim,(per,(spa,(fut,(cap,(hd,(ws,()))))))),(b,(m,(e,(peers,(w,())))))),(start,(cs0,(ro,(ba,(qu,())))))) a1 g=g true:=by
 obtain⟨v,pv,rt,tm,gb,nc,u0⟩:=hd
 have hg:0≤gb∧gb<4294967296:=hh.2.2.2.2.2.2.1
 obtain⟨L,rfl⟩:∃ L:Nat,lim=L:=⟨lim.toNat,by have:=hl.1;omega⟩
 obtain⟨G,rfl⟩:∃ G:Nat,gb=G:=⟨gb.toNat,by omega⟩
 have hus:ws=al (ws.map Int.toNat):=by
  unfold al
  rw[List.map_map]
  refine(List.map_id' ws).symm.trans (List.map_congr_left fun x hx=>?_)
  exact(Int.toNat_of_nonneg (hws.2 x hx).1).symm
 rw[hus]
 refine ak2 1100 (by omega) (fun g=>rfl) L (by have:=hl.2;omega) per spa fut cap v pv rt tm G (by omega) nc hh (ws.map Int.toNat) (fun x hx=>?_) (by rw[List.length_map];exact hws.1) b m e peers w hw start cs0 hi ro ba qu a1 g
 obtain⟨y,hy,rfl⟩:=List.mem_map.1 hx
 have:=hws.2 y hy
 omega
theorem aio(a0:b8.den)(a1:Int)(f0:WF b8 a0){A:Type}(g:Bool→Option A):pI 1100 a0 a1 g=g true:=by
 obtain⟨⟨⟨lim,per,spa,fut,cap,hd,ws,u1⟩,b,m,e,peers,w,u2⟩,start,cs0,ro,ba,qu,u3⟩:=a0
 obtain⟨⟨⟨hl,-,-,-,-,hh,hws,-⟩,-,-,-,-,hw,-⟩,-,hcs,-⟩:=f0
 exact q5 lim per spa fut cap hd ws b m e peers w start cs0 ro ba qu a1 (wK hl) (X6 hh) hws (fun x hx=>Dj (hw.2 x hx).2)
  (fun c hc x hx=>⟨X6 ((hcs.2 c hc).2 x hx).1,fun t ht=>Dj (((hcs.2 c hc).2 x hx).2.1.2 t ht).2⟩) g
end Go.Ev
namespace Go.Ev
open Go.Proofs
variable{A:Type}
def Kr{R:Type}(F:Y8→Int→Option A→Option A→R→Int→Option A)(k:KK A)(d:LSh.den ⟨[(12,(.p (.sl bG))),(0,(.p kI)),(0,(.p kI))],19,[],0⟩)(t:R):Option A:=F d.1.1 d.1.2.1 (k .ret ⟨.any::.any::(.p .bool false)::an 31 [],[],0⟩) (k (.exit 0) ⟨an 34 [],[],0⟩) t d.1.2.2.1
def Kt{R:Type}(F:Y8→Int→Int→(List (List Int))→Int→Option A→Option A→R→Int→Option A)(k:KK A)(d:LSh.den ⟨[(12,(.p (.sl bG))),(0,(.p kI)),(0,(.p kI)),(8,(.p (.sl kS))),(0,(.p kI)),(0,(.p kI))],8,[],0⟩)(t:R):Option A:=F d.1.1 d.1.2.1 d.1.2.2.1 d.1.2.2.2.1 d.1.2.2.2.2.1 (k .ret ⟨.any::.any::(.p .bool false)::an 9 ((.p (.sl bG) d.1.1)::(.p kI d.1.2.1)::(.p kI d.1.2.2.1)::an 19 []),[],0⟩) (k (.exit 2) ⟨an 12 ((.p (.sl bG) d.1.1)::(.p kI d.1.2.1)::(.p kI d.1.2.2.1)::an 19 []),[],0⟩) t d.1.2.2.2.2.2.1
def Kp(g:kZ A):Entry A:=ai [] ⟨[(.p Vn)],[],0⟩ fun d k=>g d.1.1 (fun r0=>k (.p .bool r0) [])
section
variable(n:Nat)
noncomputable def Ko:Env A:=Ev [] [(0,au (dl 34 [12,13,14]) (Kr (pu n)) n),(1,au (dl 34 [12,13,14,23,24,25]) (Kt (pw n)) n)] [] []
theorem ahI:Lst A (Ko n) Tryz.f43 1 (dl 34 [2,12,13,14]) (Kt (BJ n)) (Kt (pw n)) fun r d t25=>r ((d.1.1,d.1.2.1,d.1.2.2.1,d.1.2.2.2.1,d.1.2.2.2.2.1,t25,d.1.2.2.2.2.2.2),d.2):=.mk
theorem ahH:Lst A (Ko n) Tryz.f43 0 (dl 34 [2]) (Kr (BI n)) (Kr (pu n)) fun r d t14=>r ((d.1.1,d.1.2.1,t14,d.1.2.2.2),d.2):=.mk
theorem ahG:Qo A (Ko n) Tryz.f43 [.pure] (Kp (Kq n)):=.mk
end
theorem ahF(n:Nat):OK A 43 (Kp (vv n)):=ak (ahG n) Tryz.func43 (ax (ahH n)<|ax (ahI n) ag) oz
def Ix{R:Type}(F:DH→Int→tW→(ae A)→R→Int→Int→Option A)(k:KK A)(d:LSh.den ⟨[(1,(.ptr 0)),(1,(.p kI)),(38,(.p (.sl s5))),(0,(.p kI)),(0,(.p kI))],36,[(.var 77 jX (.p jX))],0⟩)(t:R):Option A:=F d.1.2.2.1 d.1.2.2.2.1 d.2.1 (fun z0=>k (.exit 0) ⟨.any::(.ptr 0 [])::.any::(.p kI z0)::an 77 [],[.var 77 jX (.p jX d.2.1)],0⟩) t d.1.2.1 d.1.2.2.2.2.1
def Iy{R:Type}(F:Int→tS→Int→Option A→Option A→R→Int→Option A)(k:KK A)(d:LSh.den ⟨[(3,(.p kI)),(64,(.p (.sl (.sl bG)))),(0,(.p kI)),(0,(.p kI))],10,[],0⟩)(t:R):Option A:=F d.1.1 d.1.2.1 d.1.2.2.1 (k .ret ⟨.any::.any::(.p .bool false)::(.p kI d.1.1)::an 77 [],[],0⟩) (k (.exit 2) ⟨.any::.any::.any::(.p kI d.1.1)::an 77 [],[],0⟩) t d.1.2.2.2.1
def AT(g:qR A):Entry A:=ai [] ⟨[(.p jX)],[],0⟩ fun d k=>g d.1.1 (fun r0=>k (.p .bool r0) [])
section
variable(g43:kZ A)(n:Nat)
noncomputable def Iu:Env A:=Ev [(43,Kp g43)] [(0,au (dl 81 [1,3,42,43,44]) (Ix (va g43 n)) n),(1,au (dl 81 [3,68,69,70]) (Iy (oU g43 n)) n)] [] []
theorem afz:Lst A (Iu g43 n) Tryz.f22 1 (dl 81 [2,3]) (Iy (AS g43 n)) (Iy (oU g43 n)) fun r d t70=>r ((d.1.1,d.1.2.1,d.1.2.2.1,t70,d.1.2.2.2.2),d.2):=.mk
theorem afy:Lst A (Iu g43 n) Tryz.f22 0 (dl 81 [1,3]) (Ix (Iv g43 n)) (Ix (va g43 n)) fun r d n_ t44=>r (((),n_,d.1.2.2.1,d.1.2.2.2.1,t44,d.1.2.2.2.2.2),d.2):=.mk
theorem afx:Qo A (Iu g43 n) Tryz.f22 [.pure] (AT (Iw g43 n)):=.mk
end
theorem SE(n:Nat):OK A 22 (AT (uZ n)):=ak (afx _ n) Tryz.func22 (ax (afy _ n)<|ax (afz _ n) ag) (oc (ahF n) oz)
def Cg(g:lk A):Entry A:=ai [] ⟨[(.p ci)],[],0⟩ fun d k=>g d.1.1 (fun r0=>k (.p ci r0) [])
theorem aiY(n:Nat):Qo A (Ev [] [] [] []) Tryz.f83 [.pure] (Cg (Us n)):=.mk
theorem Ur(n:Nat):OK A 83 (Cg (LR n)):=ak (aiY n) Tryz.func83 ag oz
def Hg{R:Type}(F:(List Int)→(ae A)→R→Int→Option A)(k:KK A)(d:LSh.den ⟨[(0,(.p (.sl kI))),(2,(.p kI))],17,[],0⟩)(t:R):Option A:=F d.1.1 (fun z1=>k (.exit 0) ⟨(.p (.sl kI) d.1.1)::.any::.any::(.p kI z1)::an 17 [],[],0⟩) t d.1.2.1
def uS(g:dW A):Entry A:=ai [] ⟨[(.p (.sl kI))],[],0⟩ fun d k=>g d.1.1 (fun r0=>k (.p (.sl kI) r0) [])
section
variable(n:Nat)
noncomputable def R2:Env A:=Ev [] [(0,au (dl 21 [0,3]) (Hg (mf n)) n)] [] []
theorem aeq:Lst A (R2 n) Tryz.f179 0 (dl 21 [0,3]) (Hg (uR n)) (Hg (mf n)) fun r d n_=>r ((d.1.1,n_,d.1.2.2),d.2):=.mk
theorem aep:Qo A (R2 n) Tryz.f179 [.pure] (uS (Hf n)):=.mk
end
theorem He(n:Nat):OK A 179 (uS (gR n)):=ak (aep n) Tryz.func179 (ax (aeq n) ag) oz
def Fi{R:Type}(F:(List Int)→Int→(ah A)→R→Int→(List Int)→Option A)(k:KK A)(d:LSh.den ⟨[(3,(.row 0)),(3,(.p (.sl kL))),(0,(.p kI)),(0,(.p kI))],18,[(.row 3 kI)],0⟩)(t:R):Option A:=F d.1.2.1 d.1.2.2.1 (fun z0=>k (.exit 0) ⟨.any::.any::.any::(.row 0)::an 24 [],[.row 3 kI z0],0⟩) t d.1.2.2.2.1 d.2.1
def Fj{R:Type}(F:(List Int)→Int→Int→(ah A)→R→Int→Int→(List Int)→Option A)(k:KK A)(d:LSh.den ⟨[(3,(.row 0)),(1,(.p kL)),(0,(.p kI)),(0,(.p (.sl kL))),(0,(.p kI)),(0,(.p kI))],18,[(.row 3 kI)],0⟩)(t:R):Option A:=F d.1.2.2.2.1 d.1.2.2.2.2.1 d.1.2.2.2.2.2.1 (fun z3=>k (.exit 2) ⟨.any::.any::.any::(.row 0)::.any::.any::.any::(.p (.sl kL) d.1.2.2.2.1)::(.p kI d.1.2.2.2.2.1)::(.p kI d.1.2.2.2.2.2.1)::an 18 [],[.row 3 kI z3],0⟩) t d.1.2.1 d.1.2.2.1 d.2.1
def yZ(g:kl A):Entry A:=ai [] ⟨[(.p (.sl kL))],[],0⟩ fun d k=>g d.1.1 (fun r0=>k (.p (.sl kI) r0) [])
section
variable(g179:dW A)(n:Nat)
noncomputable def Fg:Env A:=Ev [(179,uS g179)] [(0,au (dl 28 [3,7,8,9]) (Fi (nZ g179 n)) n),(1,au (dl 28 [3,5,6,7,8,9]) (Fj (jI g179 n)) n)] [] []
theorem acy:Lst A (Fg g179 n) Tryz.f120 1 (dl 28 [3,7,8,9]) (Fj (yY g179 n)) (Fj (jI g179 n)) fun r d w i out=>r (((),w,i,d.1.2.2.2),(out,d.2.2)):=.mk
theorem acx:Lst A (Fg g179 n) Tryz.f120 0 (dl 28 [3]) (Fi (yX g179 n)) (Fi (nZ g179 n)) fun r d t9 out=>r (((),d.1.2.1,d.1.2.2.1,t9,d.1.2.2.2.2),(out,d.2.2)):=.mk
theorem acw:Qo A (Fg g179 n) Tryz.f120 [.pure] (yZ (Fh g179 n)):=.mk
end
theorem QT(n:Nat):OK A 120 (yZ (l7 n)):=ak (acw _ n) Tryz.func120 (ax (acx _ n)<|ax (acy _ n) ag) (oc (He n) oz)
def LQ(g:ru A):Entry A:=ai [] ⟨[(.p ay)],[],0⟩ fun d k=>g d.1.1 (fun r0=>k (.p jl r0) [])
theorem aiX(g83:lk A)(g120:kl A)(n:Nat):Qo A (Ev [(83,Cg g83),(120,yZ g120)] [] [] []) Tryz.f82 [.pure] (LQ (Uq g83 g120 n)):=.mk
theorem aiW(n:Nat):OK A 82 (LQ (Cf n)):=ak (aiX _ _ n) Tryz.func82 ag (oc (Ur n)<|oc (QT n) oz)
def KM{R:Type}(F:(List (List Int))→Int→aJ→Int→Int→Int→Int→Unit→(List ByteArray)→aJ→Int→Int→Int→Int→Unit→(rE A)→R→Int→(List ByteArray)→Option A)(k:KK A)(d:LSh.den ⟨[(2,(.ptr 0)),(0,(.ptr 2)),(15,(.p (.sl kS))),(0,(.p kI)),(0,(.p kI))],12,[(.var 85 bT (.pr (.p jl) (.pr (.p kI) (.pr (.p kI) (.pr (.p kI) (.pr (.p kI) (.pr (.row 1) (.p .unit)))))))),(.row 9 .str),(.var 85 bT (.pr (.p jl) (.pr (.p kI) (.pr (.p kI) (.pr (.p kI) (.pr (.p kI) (.pr (.row 3) (.p .unit)))))))),(.row 9 .str)],0⟩)(t:R):Option A:=F d.1.2.2.1 d.1.2.2.2.1 d.2.1.1 d.2.1.2.1 d.2.1.2.2.1 d.2.1.2.2.2.1 d.2.1.2.2.2.2.1 d.2.1.2.2.2.2.2.2 d.2.2.1 d.2.2.2.1.1 d.2.2.2.1.2.1 d.2.2.2.1.2.2.1 d.2.2.2.1.2.2.2.1 d.2.2.2.1.2.2.2.2.1 d.2.2.2.1.2.2.2.2.2.2 (fun z13=>k (.exit 0) ⟨.any::.any::(.ptr 0 [])::(.ptr 2 [])::an 30 [],[.var 85 bT (.pr (.p jl d.2.1.1) (.pr (.p kI d.2.1.2.1) (.pr (.p kI d.2.1.2.2.1) (.pr (.p kI d.2.1.2.2.2.1) (.pr (.p kI d.2.1.2.2.2.2.1) (.pr (.row 1) (.p .unit d.2.1.2.2.2.2.2.2))))))),.row 9 .str d.2.2.1,.var 85 bT (.pr (.p jl d.2.2.2.1.1) (.pr (.p kI d.2.2.2.1.2.1) (.pr (.p kI d.2.2.2.1.2.2.1) (.pr (.p kI d.2.2.2.1.2.2.2.1) (.pr (.p kI d.2.2.2.1.2.2.2.2.1) (.pr (.row 3) (.p .unit d.2.2.2.1.2.2.2.2.2.2))))))),.row 9 .str z13],0⟩) t d.1.2.2.2.2.1 d.2.2.2.2.1
def KJ(g:ld A):Entry A:=ai [] ⟨[(.p cK)],[],0⟩ fun d k=>g d.1.1 (fun r0=>k (.p bT r0) [])
section
variable(g82:ru A)(n:Nat)
noncomputable def T0:Env A:=Ev [(82,LQ g82)] [(0,au (dl 34 [2,3,19,20,21]) (KM (pC g82 n)) n)] [] []
theorem ahY:Lst A (T0 g82 n) Tryz.f49 0 (dl 34 [2,3]) (KM (BO g82 n)) (KM (pC g82 n)) fun r d t21 outbbbbba=>r (((),(),d.1.2.2.1,d.1.2.2.2.1,t21,d.1.2.2.2.2.2),(d.2.1,d.2.2.1,d.2.2.2.1,outbbbbba,d.2.2.2.2.2)):=.mk
theorem ahX:Qo A (T0 g82 n) Tryz.f49 [.pure] (KJ (KL g82 n)):=.mk
end
theorem ahW(n:Nat):OK A 49 (KJ (BP n)):=ak (ahX _ n) Tryz.func49 (ax (ahY _ n) ag) (oc (aiW n) oz)
def KP{R:Type}(F:(List (List Int))→Int→Y5→Unit→(List ByteArray)→Y5→Unit→(rE A)→R→Int→(List ByteArray)→Option A)(k:KK A)(d:LSh.den ⟨[(2,(.ptr 0)),(0,(.ptr 2)),(7,(.p (.sl kS))),(0,(.p kI)),(0,(.p kI))],12,[(.var 165 c7 (.pr (.p ci) (.pr (.row 1) (.p .unit)))),(.row 9 .str),(.var 165 c7 (.pr (.p ci) (.pr (.row 3) (.p .unit)))),(.row 9 .str)],0⟩)(t:R):Option A:=F d.1.2.2.1 d.1.2.2.2.1 d.2.1.1 d.2.1.2.2 d.2.2.1 d.2.2.2.1.1 d.2.2.2.1.2.2 (fun z5=>k (.exit 0) ⟨.any::.any::(.ptr 0 [])::(.ptr 2 [])::an 22 [],[.var 165 c7 (.pr (.p ci d.2.1.1) (.pr (.row 1) (.p .unit d.2.1.2.2))),.row 9 .str d.2.2.1,.var 165 c7 (.pr (.p ci d.2.2.2.1.1) (.pr (.row 3) (.p .unit d.2.2.2.1.2.2))),.row 9 .str z5],0⟩) t d.1.2.2.2.2.1 d.2.2.2.2.1
def KN(g:lf A):Entry A:=ai [] ⟨[(.p bG)],[],0⟩ fun d k=>g d.1.1 (fun r0=>k (.p c7 r0) [])
section
variable(g83:lk A)(n:Nat)
noncomputable def T1:Env A:=Ev [(83,Cg g83)] [(0,au (dl 26 [2,3,11,12,13]) (KP (pD g83 n)) n)] [] []
theorem ah1:Lst A (T1 g83 n) Tryz.f50 0 (dl 26 [2,3]) (KP (BQ g83 n)) (KP (pD g83 n)) fun r d t13 outba=>r (((),(),d.1.2.2.1,d.1.2.2.2.1,t13,d.1.2.2.2.2.2),(d.2.1,d.2.2.1,d.2.2.2.1,outba,d.2.2.2.2.2)):=.mk
theorem ah0:Qo A (T1 g83 n) Tryz.f50 [.pure] (KN (KO g83 n)):=.mk
end
theorem ahZ(n:Nat):OK A 50 (KN (sL n)):=ak (ah0 _ n) Tryz.func50 (ax (ah1 _ n) ag) (oc (Ur n) oz)
def Jd{R:Type}(F:tS→Int→ef→Int→nz→lJ→ef→Int→nz→(Dw A)→R→Int→lJ→Option A)(k:KK A)(d:LSh.den ⟨[(2,(.ptr 0)),(0,(.ptr 2)),(18,(.p (.sl (.sl bG)))),(0,(.p kI)),(0,(.p kI))],23,[(.var 102 du (.pr (.p bT) (.pr (.p kI) (.pr (.row 1) (.p (.pair (.sl kI) (.pair kI (.pair kI .unit)))))))),(.row 152 (.sl c7)),(.var 102 du (.pr (.p bT) (.pr (.p kI) (.pr (.row 3) (.p (.pair (.sl kI) (.pair kI (.pair kI .unit)))))))),(.row 152 (.sl c7))],0⟩)(t:R):Option A:=F d.1.2.2.1 d.1.2.2.2.1 d.2.1.1 d.2.1.2.1 d.2.1.2.2.2 d.2.2.1 d.2.2.2.1.1 d.2.2.2.1.2.1 d.2.2.2.1.2.2.2 (fun z7=>k (.exit 0) ⟨.any::.any::(.ptr 0 [])::(.ptr 2 [])::an 44 [],[.var 102 du (.pr (.p bT d.2.1.1) (.pr (.p kI d.2.1.2.1) (.pr (.row 1) (.p (.pair (.sl kI) (.pair kI (.pair kI .unit))) d.2.1.2.2.2)))),.row 152 (.sl c7) d.2.2.1,.var 102 du (.pr (.p bT d.2.2.2.1.1) (.pr (.p kI d.2.2.2.1.2.1) (.pr (.row 3) (.p (.pair (.sl kI) (.pair kI (.pair kI .unit))) d.2.2.2.1.2.2.2)))),.row 152 (.sl c7) z7],0⟩) t d.1.2.2.2.2.1 d.2.2.2.2.1
def Je{R:Type}(F:tS→Int→Int→Y8→Int→ef→Int→nz→lJ→ef→Int→nz→lJ→(Dv A)→R→Int→jv→Option A)(k:KK A)(d:LSh.den ⟨[(2,(.ptr 0)),(0,(.ptr 2)),(2,(.row 4)),(15,(.p (.sl (.sl bG)))),(0,(.p kI)),(0,(.p kI)),(3,(.p (.sl bG))),(0,(.p kI)),(0,(.p kI))],17,[(.var 102 du (.pr (.p bT) (.pr (.p kI) (.pr (.row 1) (.p (.pair (.sl kI) (.pair kI (.pair kI .unit)))))))),(.row 152 (.sl c7)),(.var 102 du (.pr (.p bT) (.pr (.p kI) (.pr (.row 3) (.p (.pair (.sl kI) (.pair kI (.pair kI .unit)))))))),(.row 152 (.sl c7)),(.row 165 c7)],0⟩)(t:R):Option A:=F d.1.2.2.2.1 d.1.2.2.2.2.1 d.1.2.2.2.2.2.1 d.1.2.2.2.2.2.2.1 d.1.2.2.2.2.2.2.2.1 d.2.1.1 d.2.1.2.1 d.2.1.2.2.2 d.2.2.1 d.2.2.2.1.1 d.2.2.2.1.2.1 d.2.2.2.1.2.2.2 d.2.2.2.2.1 (fun z11=>k (.exit 2) ⟨.any::.any::(.ptr 0 [])::(.ptr 2 [])::.any::.any::(.row 4)::an 15 ((.p (.sl (.sl bG)) d.1.2.2.2.1)::(.p kI d.1.2.2.2.2.1)::(.p kI d.1.2.2.2.2.2.1)::an 23 []),[.var 102 du (.pr (.p bT d.2.1.1) (.pr (.p kI d.2.1.2.1) (.pr (.row 1) (.p (.pair (.sl kI) (.pair kI (.pair kI .unit))) d.2.1.2.2.2)))),.row 152 (.sl c7) d.2.2.1,.var 102 du (.pr (.p bT d.2.2.2.1.1) (.pr (.p kI d.2.2.2.1.2.1) (.pr (.row 3) (.p (.pair (.sl kI) (.pair kI (.pair kI .unit))) d.2.2.2.1.2.2.2)))),.row 152 (.sl c7) d.2.2.2.2.1,.row 165 c7 z11],0⟩) t d.1.2.2.2.2.2.2.2.2.1 d.2.2.2.2.2.1
def Jb(g:xx A):Entry A:=ai [] ⟨[(.p b8)],[],0⟩ fun d k=>g d.1.1 (fun r0=>k (.p du r0) [])
section
variable(g49:ld A)(g50:lf A)(n:Nat)
noncomputable def Ja:Env A:=Ev [(49,KJ g49),(50,KN g50)] [(0,au (dl 48 [2,3,22,23,24]) (Jd (o7 g49 g50 n)) n),(1,au (dl 48 [2,3,6,22,23,24,28,29,30]) (Je (o8 g49 g50 n)) n)] [] []
theorem agi:Lst A (Ja g49 g50 n) Tryz.f24 1 (dl 48 [2,3,6,22,23,24]) (Je (Bf g49 g50 n)) (Je (o8 g49 g50 n)) fun r d t30 l=>r (((),(),(),d.1.2.2.2.1,d.1.2.2.2.2.1,d.1.2.2.2.2.2.1,d.1.2.2.2.2.2.2.1,d.1.2.2.2.2.2.2.2.1,t30,d.1.2.2.2.2.2.2.2.2.2),(d.2.1,d.2.2.1,d.2.2.2.1,d.2.2.2.2.1,l,d.2.2.2.2.2.2)):=.mk
theorem agh:Lst A (Ja g49 g50 n) Tryz.f24 0 (dl 48 [2,3]) (Jd (Be g49 g50 n)) (Jd (o7 g49 g50 n)) fun r d t24 outbba=>r (((),(),d.1.2.2.1,d.1.2.2.2.1,t24,d.1.2.2.2.2.2),(d.2.1,d.2.2.1,d.2.2.2.1,outbba,d.2.2.2.2.2)):=.mk
theorem agf:Qo A (Ja g49 g50 n) Tryz.f24 [.pure] (Jb (Jc g49 g50 n)):=.mk
end
theorem age(n:Nat):OK A 24 (Jb (Bg n)):=ak (agf _ _ n) Tryz.func24 (ax (agh _ _ n)<|ax (agi _ _ n) ag) (oc (ahW n)<|oc (ahZ n) oz)
def zB(g:kA A):Entry A:=ai [] ⟨[(.p kU)],[],0⟩ fun d k=>g d.1.1 (fun r0 r1 r2=>k (.tup [.p kI r0,.p .bool r1,.p kI r2]) [])
theorem adr(n:Nat):Qo A (Ev [] [] [] []) Tryz.f158 [.pure,.pure,.pure] (zB (Ga n)):=.mk
theorem Rq(n:Nat):OK A 158 (zB (uH n)):=ak (adr n) Tryz.func158 ag oz
def If{R:Type}(F:Int→(ah A)→R→Int→(List Int)→Option A)(k:KK A)(d:LSh.den ⟨[(0,(.p kI)),(2,(.row 0)),(0,(.p kI))],22,[(.row 3 kI)],0⟩)(t:R):Option A:=F d.1.1 (fun z0=>k (.exit 0) ⟨.any::.any::.any::(.row 0)::an 23 [],[.row 3 kI z0],0⟩) t d.1.2.2.1 d.2.1
def AL(g:eF A):Entry A:=ai [] ⟨[(.p kI)],[],0⟩ fun d k=>g d.1.1 (fun r0=>k (.row 0) [.row 3 kI r0])
section
variable(n:Nat)
noncomputable def Sx:Env A:=Ev [] [(0,au (dl 27 [0,3,4]) (If (oQ n)) n)] [] []
theorem afj:Lst A (Sx n) Tryz.f224 0 (dl 27 [3]) (If (AK n)) (If (oQ n)) fun r d i out=>r ((d.1.1,(),i,d.1.2.2.2),(out,d.2.2)):=.mk
theorem afi:Qo A (Sx n) Tryz.f224 [.own] (AL (Ie n)):=.mk
end
theorem Sy(n:Nat):OK A 224 (AL (ir n)):=ak (afi n) Tryz.func224 (ax (afj n) ag) oz
def Il{R:Type}(F:(List Int)→(List Int)→(ah A)→R→Int→(List Int)→Option A)(k:KK A)(d:LSh.den ⟨[(0,(.p (.sl kI))),(0,(.p (.sl kI))),(3,(.row 0)),(0,(.p kI))],60,[(.row 3 kI)],0⟩)(t:R):Option A:=F d.1.1 d.1.2.1 (fun z0=>k (.exit 0) ⟨an 5 ((.row 0)::an 61 []),[.row 3 kI z0],0⟩) t d.1.2.2.2.1 d.2.1
def Im{R:Type}(F:(List Int)→(List Int)→Int→(ah A)→R→Int→Int→(List Int)→Option A)(k:KK A)(d:LSh.den ⟨[(0,(.p (.sl kI))),(0,(.p (.sl kI))),(3,(.row 0)),(0,(.p kI)),(0,(.p kI)),(0,(.p kI))],58,[(.row 3 kI)],0⟩)(t:R):Option A:=F d.1.1 d.1.2.1 d.1.2.2.2.1 (fun z3=>k (.exit 2) ⟨(.p (.sl kI) d.1.1)::(.p (.sl kI) d.1.2.1)::.any::.any::.any::(.row 0)::(.p kI d.1.2.2.2.1)::an 60 [],[.row 3 kI z3],0⟩) t d.1.2.2.2.2.1 d.1.2.2.2.2.2.1 d.2.1
def AO(g:eG A):Entry A:=ai [] ⟨[(.p (.sl kI)),(.p (.sl kI))],[],0⟩ fun d k=>g d.1.1 d.1.2.1 (fun r0=>k (.p (.sl kI) r0) [])
section
variable(g179:dW A)(n:Nat)
noncomputable def Ij:Env A:=Ev [(179,uS g179)] [(0,au (dl 67 [0,1,5,6]) (Il (mj g179 n)) n),(1,au (dl 67 [0,1,5,6,7,8]) (Im (mn g179 n)) n)] [] []
theorem afp:Lst A (Ij g179 n) Tryz.f226 1 (dl 67 [0,1,5,6]) (Im (uY g179 n)) (Im (mn g179 n)) fun r d c j out=>r ((d.1.1,d.1.2.1,(),d.1.2.2.2.1,c,j,d.1.2.2.2.2.2.2),(out,d.2.2)):=.mk
theorem afo:Lst A (Ij g179 n) Tryz.f226 0 (dl 67 [5]) (Il (AN g179 n)) (Il (mj g179 n)) fun r d i out=>r ((d.1.1,d.1.2.1,(),i,d.1.2.2.2.2),(out,d.2.2)):=.mk
theorem afn:Qo A (Ij g179 n) Tryz.f226 [.pure] (AO (Ik g179 n)):=.mk
end
theorem SA(n:Nat):OK A 226 (AO (iu n)):=ak (afn _ n) Tryz.func226 (ax (afo _ n)<|ax (afp _ n) ag) (oc (He n) oz)
def Gd{R:Type}(F:(cq A)→R→Int→Int→Option A)(k:KK A)(d:LSh.den ⟨[(3,(.p kI)),(1,(.p kI))],21,[],0⟩)(t:R):Option A:=F (fun z0 z1=>k (.exit 0) ⟨.any::.any::.any::(.p kI z0)::.any::(.p kI z1)::an 21 [],[],0⟩) t d.1.1 d.1.2.1
def Gb(g:xe A):Entry A:=ai [] ⟨[(.p kU)],[],0⟩ fun d k=>g d.1.1 (fun r0=>k (.p (.sl kI) r0) [])
section
variable(g158:kA A)(g120:kl A)(g224:eF A)(g226:eG A)(n:Nat)
noncomputable def Rr:Env A:=Ev [(158,zB g158),(120,yZ g120),(224,AL g224),(226,AO g226)] [(0,au (dl 27 [3,5]) (Gd (mb g158 g120 g224 g226 n)) n)] [] []
theorem adu:Lst A (Rr g158 g120 g224 g226 n) Tryz.f159 0 (dl 27 [3,5]) (Gd (uI g158 g120 g224 g226 n)) (Gd (mb g158 g120 g224 g226 n)) fun r d e m=>r ((e,m,d.1.2.2),d.2):=.mk
theorem adt:Qo A (Rr g158 g120 g224 g226 n) Tryz.f159 [.pure] (Gb (Gc g158 g120 g224 g226 n)):=.mk
end
theorem ads(n:Nat):OK A 159 (Gb (zC n)):=ak (adt _ _ _ _ n) Tryz.func159 (ax (adu _ _ _ _ n) ag) (oc (Rq n)<|oc (QT n)<|oc (Sy n)<|oc (SA n) oz)
def yJ(g:qp A):Entry A:=ai [] ⟨[(.p kU)],[],0⟩ fun d k=>g d.1.1 (fun r0 r1=>k (.tup [.p (.sl kI) r0,.p .bool r1]) [])
theorem ab1(g158:kA A)(g159:xe A)(n:Nat):Qo A (Ev [(158,zB g158),(159,Gb g159)] [] [] []) Tryz.f108 [.pure,.pure] (yJ (EJ g158 g159 n)):=.mk
theorem QJ(n:Nat):OK A 108 (yJ (um n)):=ak (ab1 _ _ n) Tryz.func108 ag (oc (Rq n)<|oc (ads n) oz)
def EN{R:Type}(F:(List Int)→(List Int)→(aW A)→Option A→R→Int→Option A)(k:KK A)(d:LSh.den ⟨[(0,(.p (.sl kI))),(0,(.p (.sl kI))),(3,(.p kI))],35,[],0⟩)(t:R):Option A:=F d.1.1 d.1.2.1 (fun z0=>k .ret ⟨an 4 ((.p .bool z0)::an 36 []),[],0⟩) (k (.exit 0) ⟨an 41 [],[],0⟩) t d.1.2.2.1
def un(g:dV A):Entry A:=ai [] ⟨[(.p (.sl kI)),(.p (.sl kI))],[],0⟩ fun d k=>g d.1.1 d.1.2.1 (fun r0=>k (.p .bool r0) [])
section
variable(n:Nat)
noncomputable def QK:Env A:=Ev [] [(0,au (dl 41 [0,1,5]) (EN (nS n)) n)] [] []
theorem ab3:Lst A (QK n) Tryz.f109 0 (dl 41 [4]) (EN (yK n)) (EN (nS n)) fun r d i=>r ((d.1.1,d.1.2.1,i,d.1.2.2.2),d.2):=.mk
theorem ab2:Qo A (QK n) Tryz.f109 [.pure] (un (EL n)):=.mk
end
theorem EK(n:Nat):OK A 109 (un (jb n)):=ak (ab2 n) Tryz.func109 (ax (ab3 n) ag) oz
def Ii{R:Type}(F:(List Int)→(ah A)→R→Int→Int→(List Int)→Option A)(k:KK A)(d:LSh.den ⟨[(0,(.p (.sl kI))),(2,(.row 0)),(0,(.p kI)),(0,(.p kI))],27,[(.row 3 kI)],0⟩)(t:R):Option A:=F d.1.1 (fun z0=>k (.exit 0) ⟨.any::.any::.any::(.row 0)::an 29 [],[.row 3 kI z0],0⟩) t d.1.2.2.1 d.1.2.2.2.1 d.2.1
def Ig(g:gr A):Entry A:=ai [] ⟨[(.p (.sl kI))],[],0⟩ fun d k=>g d.1.1 (fun r0=>k (.p (.sl kI) r0) [])
section
variable(g179:dW A)(n:Nat)
noncomputable def Sz:Env A:=Ev [(179,uS g179)] [(0,au (dl 33 [0,3,4,5]) (Ii (oR g179 n)) n)] [] []
theorem afm:Lst A (Sz g179 n) Tryz.f225 0 (dl 33 [3]) (Ii (AM g179 n)) (Ii (oR g179 n)) fun r d c i out=>r ((d.1.1,(),c,i,d.1.2.2.2.2),(out,d.2.2)):=.mk
theorem afl:Qo A (Sz g179 n) Tryz.f225 [.pure] (Ig (Ih g179 n)):=.mk
end
theorem afk(n:Nat):OK A 225 (Ig (mg n)):=ak (afl _ n) Tryz.func225 (ax (afm _ n) ag) (oc (He n) oz)
def Ip{R:Type}(F:(List Int)→(List Int)→(ah A)→R→Int→(List Int)→Option A)(k:KK A)(d:LSh.den ⟨[(0,(.p (.sl kI))),(1,(.ptr 0)),(0,(.ptr 1)),(0,(.p kI))],24,[(.var 28 a8 (.p a8)),(.var 28 a8 (.p a8))],0⟩)(t:R):Option A:=F d.1.1 d.2.1 (fun z1=>k (.exit 0) ⟨.any::.any::(.ptr 0 [])::(.ptr 1 [])::an 25 [],[.var 28 a8 (.p a8 d.2.1),.var 28 a8 (.p a8 z1)],0⟩) t d.1.2.2.2.1 d.2.2.1
def In(g:gt A):Entry A:=ai [] ⟨[(.p (.sl kI))],[],0⟩ fun d k=>g d.1.1 (fun r0=>k (.p a8 r0) [])
section
variable(n:Nat)
noncomputable def SB:Env A:=Ev [] [(0,au (dl 29 [0,2,3,4]) (Ip (oS n)) n)] [] []
theorem afs:Lst A (SB n) Tryz.f227 0 (dl 29 [2,3]) (Ip (AP n)) (Ip (oS n)) fun r d i out=>r ((d.1.1,(),(),i,d.1.2.2.2.2),(d.2.1,out,d.2.2.2)):=.mk
theorem afr:Qo A (SB n) Tryz.f227 [.pure] (In (Io n)):=.mk
end
theorem afq(n:Nat):OK A 227 (In (mo n)):=ak (afr n) Tryz.func227 (ax (afs n) ag) oz
def F6{R:Type}(F:(List Int)→(ae A)→R→Int→Option A)(k:KK A)(d:LSh.den ⟨[(0,(.p (.sl kI))),(2,(.p kI))],54,[],0⟩)(t:R):Option A:=F d.1.1 (fun z1=>k (.exit 0) ⟨(.p (.sl kI) d.1.1)::.any::.any::(.p kI z1)::an 54 [],[],0⟩) t d.1.2.1
def F7{R:Type}(F:Int→(ah A)→R→(List Int)→Int→Option A)(k:KK A)(d:LSh.den ⟨[(3,(.p kI)),(0,(.p (.sl kI))),(0,(.p kI))],52,[],0⟩)(t:R):Option A:=F d.1.1 (fun z1=>k (.exit 2) ⟨.any::.any::.any::(.p kI d.1.1)::(.p (.sl kI) z1)::an 53 [],[],0⟩) t d.1.2.1 d.1.2.2.1
def F8{R:Type}(F:Int→(ah A)→R→(List Int)→Int→Option A)(k:KK A)(d:LSh.den ⟨[(3,(.p kI)),(0,(.p (.sl kI))),(1,(.p kI))],51,[],0⟩)(t:R):Option A:=F d.1.1 (fun z1=>k (.exit 4) ⟨.any::.any::.any::(.p kI d.1.1)::(.p (.sl kI) z1)::an 53 [],[],0⟩) t d.1.2.1 d.1.2.2.1
def F9{R:Type}(F:Int→(ah A)→R→(List Int)→Int→Option A)(k:KK A)(d:LSh.den ⟨[(3,(.p kI)),(0,(.p (.sl kI))),(2,(.p kI))],50,[],0⟩)(t:R):Option A:=F d.1.1 (fun z1=>k (.exit 6) ⟨.any::.any::.any::(.p kI d.1.1)::(.p (.sl kI) z1)::an 53 [],[],0⟩) t d.1.2.1 d.1.2.2.1
def F4(g:xd A):Entry A:=ai [] ⟨[(.p (.sl kI))],[],0⟩ fun d k=>g d.1.1 (fun r0=>k (.p kU r0) [])
section
variable(g224:eF A)(g109:dV A)(g225:gr A)(g226:eG A)(g227:gt A)(n:Nat)
noncomputable def uG:Env A:=Ev [(224,AL g224),(109,un g109),(225,Ig g225),(226,AO g226),(227,In g227)] [(0,au (dl 58 [0,3]) (F6 (oq g224 g109 g225 g226 g227 n)) n),(1,au (dl 58 [3,4,5]) (F7 (ot g224 g109 g225 g226 g227 n)) n),(2,au (dl 58 [3,4,6]) (F8 (ou g224 g109 g225 g226 g227 n)) n),(3,au (dl 58 [3,4,7]) (F9 (ov g224 g109 g225 g226 g227 n)) n)] [] []
theorem adq:Lst A (uG g224 g109 g225 g226 g227 n) Tryz.f157 3 (dl 58 [3,4]) (F9 (zz g224 g109 g225 g226 g227 n)) (F9 (ov g224 g109 g225 g226 g227 n)) fun r d m i=>r ((d.1.1,m,i,d.1.2.2.2),d.2):=.mk
theorem adp:Lst A (uG g224 g109 g225 g226 g227 n) Tryz.f157 2 (dl 58 [3,4]) (F8 (zy g224 g109 g225 g226 g227 n)) (F8 (ou g224 g109 g225 g226 g227 n)) fun r d m i=>r ((d.1.1,m,i,d.1.2.2.2),d.2):=.mk
theorem ado:Lst A (uG g224 g109 g225 g226 g227 n) Tryz.f157 1 (dl 58 [3,4]) (F7 (zx g224 g109 g225 g226 g227 n)) (F7 (ot g224 g109 g225 g226 g227 n)) fun r d m i=>r ((d.1.1,m,i,d.1.2.2.2),d.2):=.mk
theorem adn:Lst A (uG g224 g109 g225 g226 g227 n) Tryz.f157 0 (dl 58 [0,3]) (F6 (zv g224 g109 g225 g226 g227 n)) (F6 (oq g224 g109 g225 g226 g227 n)) fun r d e=>r ((d.1.1,e,d.1.2.2),d.2):=.mk
theorem adm:Qo A (uG g224 g109 g225 g226 g227 n) Tryz.f157 [.pure] (F4 (F5 g224 g109 g225 g226 g227 n)):=.mk
end
theorem adl(n:Nat):OK A 157 (F4 (zA n)):=ak (adm _ _ _ _ _ n) Tryz.func157 (ax (adn _ _ _ _ _ n)<|ax (ado _ _ _ _ _ n)<|ax (adp _ _ _ _ _ n)<|ax (adq _ _ _ _ _ n) ag) (oc (Sy n)<|oc (EK n)<|oc (afk n)<|oc (SA n)<|oc (afq n) oz)
def EH(g:wT A):Entry A:=ai [] ⟨[(.p kU)],[],0⟩ fun d k=>g d.1.1 (fun r0=>k (.p .bool r0) [])
theorem ab0(g108:qp A)(g157:xd A)(n:Nat):Qo A (Ev [(108,yJ g108),(157,F4 g157)] [] [] []) Tryz.f107 [.pure] (EH (EI g108 g157 n)):=.mk
theorem abZ(n:Nat):OK A 107 (EH (yI n)):=ak (ab0 _ _ n) Tryz.func107 ag (oc (QJ n)<|oc (adl n) oz)
def Ly(g:lj A):Entry A:=ai [] ⟨[(.p jl)],[],0⟩ fun d k=>g d.1.1 (fun r0=>k (.p .bool r0) [])
theorem aiG(g107:wT A)(g108:qp A)(g109:dV A)(n:Nat):Qo A (Ev [(107,EH g107),(108,yJ g108),(109,un g109)] [] [] []) Tryz.f74 [.pure] (Ly (Lz g107 g108 g109 n)):=.mk
theorem aiF(n:Nat):OK A 74 (Ly (vF n)):=ak (aiG _ _ _ n) Tryz.func74 ag (oc (abZ n)<|oc (QJ n)<|oc (EK n) oz)
def B9(g:gw A):Entry A:=ai [] ⟨[(.p kI),(.p kI)],[],0⟩ fun d k=>g d.1.1 d.1.2.1 (fun r0=>k (.p .bool r0) [])
theorem aiH(n:Nat):Qo A (Ev [] [] [] []) Tryz.f75 [.pure] (B9 (LA n)):=.mk
theorem Ul(n:Nat):OK A 75 (B9 (sQ n)):=ak (aiH n) Tryz.func75 ag oz
def Kx{R:Type}(F:(List ByteArray)→Int→ef→Option A→Option A→R→Int→Option A)(k:KK A)(d:LSh.den ⟨[(1,(.ptr 0)),(44,(.p (.sl .str))),(0,(.p kI)),(0,(.p kI))],21,[(.var 85 bT (.p bT))],0⟩)(t:R):Option A:=F d.1.2.1 d.1.2.2.1 d.2.1 (k .ret ⟨.any::.any::(.p .bool false)::an 67 [],[],0⟩) (k (.exit 0) ⟨an 70 [],[],0⟩) t d.1.2.2.2.1
def Ky{R:Type}(F:ByteArray→(List ByteArray)→Int→Int→(List ByteArray)→Int→ef→Option A→Option A→R→Int→Option A)(k:KK A)(d:LSh.den ⟨[(1,(.ptr 0)),(2,(.p .str)),(41,(.p (.sl .str))),(0,(.p kI)),(0,(.p kI)),(10,(.p (.sl .str))),(0,(.p kI)),(0,(.p kI))],8,[(.var 85 bT (.p bT))],0⟩)(t:R):Option A:=F d.1.2.1 d.1.2.2.1 d.1.2.2.2.1 d.1.2.2.2.2.1 d.1.2.2.2.2.2.1 d.1.2.2.2.2.2.2.1 d.2.1 (k .ret ⟨.any::(.ptr 0 [])::(.p .bool false)::an 43 ((.p (.sl .str) d.1.2.2.1)::(.p kI d.1.2.2.2.1)::(.p kI d.1.2.2.2.2.1)::an 21 []),[.var 85 bT (.p bT d.2.1)],0⟩) (k (.exit 2) ⟨.any::(.ptr 0 [])::an 44 ((.p (.sl .str) d.1.2.2.1)::(.p kI d.1.2.2.2.1)::(.p kI d.1.2.2.2.2.1)::an 21 []),[.var 85 bT (.p bT d.2.1)],0⟩) t d.1.2.2.2.2.2.2.2.1
def Kv(g:k6 A):Entry A:=ai [] ⟨[(.p bT)],[],0⟩ fun d k=>g d.1.1 (fun r0=>k (.p .bool r0) [])
section
variable(g74:lj A)(g75:gw A)(n:Nat)
noncomputable def Ku:Env A:=Ev [(74,Ly g74),(75,B9 g75)] [(0,au (dl 70 [1,46,47,48]) (Kx (py g74 g75 n)) n),(1,au (dl 70 [1,4,46,47,48,59,60,61]) (Ky (pz g74 g75 n)) n)] [] []
theorem ahM:Lst A (Ku g74 g75 n) Tryz.f44 1 (dl 70 [1,2,46,47,48]) (Ky (BL g74 g75 n)) (Ky (pz g74 g75 n)) fun r d t61=>r (((),d.1.2.1,d.1.2.2.1,d.1.2.2.2.1,d.1.2.2.2.2.1,d.1.2.2.2.2.2.1,d.1.2.2.2.2.2.2.1,t61,d.1.2.2.2.2.2.2.2.2),d.2):=.mk
theorem ahL:Lst A (Ku g74 g75 n) Tryz.f44 0 (dl 70 [2]) (Kx (BK g74 g75 n)) (Kx (py g74 g75 n)) fun r d t48=>r (((),d.1.2.1,d.1.2.2.1,t48,d.1.2.2.2.2),d.2):=.mk
theorem ahK:Qo A (Ku g74 g75 n) Tryz.f44 [.pure] (Kv (Kw g74 g75 n)):=.mk
end
theorem ahJ(n:Nat):OK A 44 (Kv (vw n)):=ak (ahK _ _ n) Tryz.func44 (ax (ahL _ _ n)<|ax (ahM _ _ n) ag) (oc (aiF n)<|oc (Ul n) oz)
def B4(g:lh A):Entry A:=ai [] ⟨[(.p kI)],[],0⟩ fun d k=>g d.1.1 (fun r0=>k (.p kI r0) [])
theorem aix(n:Nat):Qo A (Ev [] [] [] []) Tryz.f67 [.pure] (B4 (Lp n)):=.mk
theorem Uh(n:Nat):OK A 67 (B4 (sN n)):=ak (aix n) Tryz.func67 ag oz
def Gy{R:Type}(F:Int→(ah A)→R→Int→Int→(List Int)→Option A)(k:KK A)(d:LSh.den ⟨[(0,(.p kL)),(0,(.p kI)),(3,(.row 0)),(0,(.p kI))],14,[(.row 3 kI)],0⟩)(t:R):Option A:=F d.1.2.1 (fun z0=>k (.exit 0) ⟨an 5 ((.row 0)::an 15 []),[.row 3 kI z0],0⟩) t d.1.1 d.1.2.2.2.1 d.2.1
def Gw(g:qD A):Entry A:=ai [] ⟨[(.p kL),(.p kI)],[],0⟩ fun d k=>g d.1.1 d.1.2.1 (fun r0=>k (.row 0) [.row 3 kI r0])
section
variable(n:Nat)
noncomputable def RC:Env A:=Ev [] [(0,au (dl 21 [0,1,5,6]) (Gy (oF n)) n)] [] []
theorem adT:Lst A (RC n) Tryz.f166 0 (dl 21 [5]) (Gy (zQ n)) (Gy (oF n)) fun r d n_ i out=>r ((n_,d.1.2.1,(),i,d.1.2.2.2.2),(out,d.2.2)):=.mk
theorem adS:Qo A (RC n) Tryz.f166 [.own] (Gw (Gx n)):=.mk
end
theorem adR(n:Nat):OK A 166 (Gw (uN n)):=ak (adS n) Tryz.func166 (ax (adT n) ag) oz
def E7{R:Type}(F:Int→(List Int)→(ah A)→R→Int→(List Int)→Option A)(k:KK A)(d:LSh.den ⟨[(5,(.row 0)),(6,(.row 1)),(0,(.p kI)),(0,(.p kI))],11,[(.row 5 kB),(.row 3 kI)],0⟩)(t:R):Option A:=F d.1.2.2.1 d.2.2.1 (fun z0=>k (.exit 0) ⟨an 5 ((.row 0)::an 20 []),[.row 5 kB z0],0⟩) t d.1.2.2.2.1 d.2.1
def uo(g:gk A):Entry A:=ai [] ⟨[(.p kL),(.p kI)],[],0⟩ fun d k=>g d.1.1 d.1.2.1 (fun r0=>k (.p .str r0) [])
section
variable(g67:lh A)(g166:qD A)(n:Nat)
noncomputable def QP:Env A:=Ev [(67,B4 g67),(166,Gw g166)] [(0,au (dl 26 [5,12,13,14]) (E7 (nY g67 g166 n)) n)] [] []
theorem acm:Lst A (QP g67 g166 n) Tryz.f115 0 (dl 26 [5]) (E7 (yV g67 g166 n)) (E7 (nY g67 g166 n)) fun r d t14 out=>r (((),(),d.1.2.2.1,t14,d.1.2.2.2.2),(out,d.2.2)):=.mk
theorem acl:Qo A (QP g67 g166 n) Tryz.f115 [.pure] (uo (E6 g67 g166 n)):=.mk
end
theorem E5(n:Nat):OK A 115 (uo (jc n)):=ak (acl _ _ n) Tryz.func115 (ax (acm _ _ n) ag) (oc (Uh n)<|oc (adR n) oz)
def Cb(g:iU A):Entry A:=ai [] ⟨[(.p ci)],[],0⟩ fun d k=>g d.1.1 (fun r0=>k (.p .str r0) [])
theorem aiN(g115:gk A)(n:Nat):Qo A (Ev [(115,uo g115)] [] [] []) Tryz.f79 [.pure] (Cb (LH g115 n)):=.mk
theorem Um(n:Nat):OK A 79 (Cb (vI n)):=ak (aiN _ n) Tryz.func79 ag (oc (E5 n) oz)
def Gp(g:fh A):Entry A:=ai [] ⟨[],[],0⟩ fun d k=>g (fun r0=>k (.p aK r0) [])
theorem adK(n:Nat):Qo A (Ev [] [] [] []) Tryz.f164 [.pure] (Gp (Ry n)):=.mk
theorem adJ(n:Nat):OK A 164 (Gp (jd n)):=ak (adK n) Tryz.func164 ag oz
def IB{R:Type}(F:Int→(ae A)→R→Int→Int→Option A)(k:KK A)(d:LSh.den ⟨[(0,(.p kU)),(0,(.p kI)),(3,(.p kI))],14,[],0⟩)(t:R):Option A:=F d.1.2.1 (fun z0=>k (.exit 0) ⟨(.p kU z0)::an 19 [],[],0⟩) t d.1.1 d.1.2.2.1
def Iz(g:gu A):Entry A:=ai [] ⟨[(.p kU),(.p kI)],[],0⟩ fun d k=>g d.1.1 d.1.2.1 (fun r0=>k (.p kU r0) [])
section
variable(n:Nat)
noncomputable def SF:Env A:=Ev [] [(0,au (dl 20 [0,1,5]) (IB (oV n)) n)] [] []
theorem afC:Lst A (SF n) Tryz.f230 0 (dl 20 [0]) (IB (AU n)) (IB (oV n)) fun r d x i=>r ((x,d.1.2.1,i,d.1.2.2.2),d.2):=.mk
theorem afB:Qo A (SF n) Tryz.f230 [.pure] (Iz (IA n)):=.mk
end
theorem afA(n:Nat):OK A 230 (Iz (mr n)):=ak (afB n) Tryz.func230 (ax (afC n) ag) oz
def IC(g:gv A):Entry A:=ai [] ⟨[],[],0⟩ fun d k=>g (fun r0=>k (.p dj r0) [])
theorem afE(n:Nat):Qo A (Ev [] [] [] []) Tryz.f231 [.pure] (IC (SG n)):=.mk
theorem afD(n:Nat):OK A 231 (IC (oW n)):=ak (afE n) Tryz.func231 ag oz
def Gs{R:Type}(F:(List Int)→(List Int)→(List Int)→(ah A)→R→Int→(List Int)→Option A)(k:KK A)(d:LSh.den ⟨[(1,(.p kS)),(0,(.ptr 0)),(1,(.ptr 1)),(0,(.row 2)),(0,(.p kI))],203,[(.var 340 aK (.p aK)),(.var 340 aK (.p aK)),(.row 22 kU)],0⟩)(t:R):Option A:=F d.1.1 d.2.1 d.2.2.1 (fun z2=>k (.exit 0) ⟨.any::.any::(.ptr 0 [])::.any::(.ptr 1 [])::(.row 2)::an 204 [],[.var 340 aK (.p aK d.2.1),.var 340 aK (.p aK d.2.2.1),.row 22 kU z2],0⟩) t d.1.2.2.2.2.1 d.2.2.2.1
def Gt{R:Type}(F:(List Int)→(List Int)→(ah A)→R→Int→(List Int)→Option A)(k:KK A)(d:LSh.den ⟨[(2,(.ptr 0)),(1,(.ptr 1)),(0,(.row 2)),(1,(.p kI))],202,[(.var 340 aK (.p aK)),(.var 340 aK (.p aK)),(.row 22 kU)],0⟩)(t:R):Option A:=F d.2.1 d.2.2.1 (fun z2=>k (.exit 2) ⟨.any::.any::(.ptr 0 [])::.any::(.ptr 1 [])::(.row 2)::an 204 [],[.var 340 aK (.p aK d.2.1),.var 340 aK (.p aK d.2.2.1),.row 22 kU z2],0⟩) t d.1.2.2.2.1 d.2.2.2.1
def Gu{R:Type}(F:(List Int)→(List Int)→(List Int)→(List Int)→(ah A)→R→Int→(List Int)→Option A)(k:KK A)(d:LSh.den ⟨[(2,(.ptr 0)),(1,(.ptr 1)),(0,(.row 2)),(4,(.ptr 3)),(0,(.ptr 4)),(0,(.p kI))],197,[(.var 340 aK (.p aK)),(.var 340 aK (.p aK)),(.row 22 kU),(.var 429 dj (.p dj)),(.var 340 aK (.p aK))],0⟩)(t:R):Option A:=F d.2.1 d.2.2.1 d.2.2.2.1 d.2.2.2.2.1 (fun z2=>k (.exit 4) ⟨.any::.any::(.ptr 0 [])::.any::(.ptr 1 [])::an 6 ((.ptr 2 [])::an 198 []),[.var 340 aK (.p aK d.2.1),.var 340 aK (.p aK d.2.2.1),.var 340 aK (.p aK z2)],0⟩) t d.1.2.2.2.2.2.1 d.2.2.2.2.2.1
def Gv{R:Type}(F:(List Int)→(List Int)→(ah A)→R→Int→(List Int)→Option A)(k:KK A)(d:LSh.den ⟨[(2,(.ptr 0)),(1,(.ptr 1)),(6,(.ptr 2)),(5,(.p kI))],192,[(.var 340 aK (.p aK)),(.var 340 aK (.p aK)),(.var 340 aK (.p aK))],0⟩)(t:R):Option A:=F d.2.1 d.2.2.1 (fun z1=>k (.exit 6) ⟨an 4 ((.ptr 0 [])::an 6 ((.ptr 1 [])::an 198 [])),[.var 340 aK (.p aK d.2.2.1),.var 340 aK (.p aK z1)],0⟩) t d.1.2.2.2.1 d.2.2.2.1
def Gq(g:fm A):Entry A:=ai [] ⟨[(.p aK),(.p kS)],[],0⟩ fun d k=>g d.1.1 d.1.2.1 (fun r0=>k (.p aK r0) [])
section
variable(g230:gu A)(g231:gv A)(n:Nat)
noncomputable def uL:Env A:=Ev [(230,Iz g230),(231,IC g231)] [(0,au (dl 210 [1,2,4,5,6]) (Gs (oC g230 g231 n)) n),(1,au (dl 210 [2,4,5,7]) (Gt (oD g230 g231 n)) n),(2,au (dl 210 [2,4,5,10,11,12]) (Gu (oE g230 g231 n)) n),(3,au (dl 210 [2,4,11,17]) (Gv (uM g230 g231 n)) n)] [] []
theorem adQ:Lst A (uL g230 g231 n) Tryz.f165 3 (dl 210 [4,11]) (Gv (Rz g230 g231 n)) (Gv (uM g230 g231 n)) fun r d i s=>r (((),(),(),i,d.1.2.2.2.2),(d.2.1,d.2.2.1,s,d.2.2.2.2)):=.mk
theorem adP:Lst A (uL g230 g231 n) Tryz.f165 2 (dl 210 [2,4,11]) (Gu (zO g230 g231 n)) (Gu (oE g230 g231 n)) fun r d i s=>r (((),(),(),(),(),i,d.1.2.2.2.2.2.2),(d.2.1,d.2.2.1,d.2.2.2.1,d.2.2.2.2.1,s,d.2.2.2.2.2.2)):=.mk
theorem adO:Lst A (uL g230 g231 n) Tryz.f165 1 (dl 210 [2,4,5]) (Gt (zM g230 g231 n)) (Gt (oD g230 g231 n)) fun r d i w=>r (((),(),(),i,d.1.2.2.2.2),(d.2.1,d.2.2.1,w,d.2.2.2.2)):=.mk
theorem adN:Lst A (uL g230 g231 n) Tryz.f165 0 (dl 210 [2,4,5]) (Gs (zL g230 g231 n)) (Gs (oC g230 g231 n)) fun r d i w=>r ((d.1.1,(),(),(),i,d.1.2.2.2.2.2),(d.2.1,d.2.2.1,w,d.2.2.2.2)):=.mk
theorem adM:Qo A (uL g230 g231 n) Tryz.f165 [.pure] (Gq (Gr g230 g231 n)):=.mk
end
theorem adL(n:Nat):OK A 165 (Gq (je n)):=ak (adM _ _ n) Tryz.func165 (ax (adN _ _ n)<|ax (adO _ _ n)<|ax (adP _ _ n)<|ax (adQ _ _ n) ag) (oc (afA n)<|oc (afD n) oz)
def E0{R:Type}(F:ByteArray→(List Int)→(ah A)→R→(List Int)→Option A)(k:KK A)(d:LSh.den ⟨[(0,(.p .str)),(1,(.ptr 0)),(0,(.row 1))],93,[(.var 23 aa (.p aa)),(.row 5 kB)],0⟩)(t:R):Option A:=F d.1.1 d.2.1 (fun z2=>k (.exit 0) ⟨(.p .str d.1.1)::.any::(.ptr 0 [])::(.row 1)::an 93 [],[.var 23 aa (.p aa d.2.1),.row 5 kB z2],0⟩) t d.2.2.1
def E1{R:Type}(F:Int→(List Int)→(ah A)→R→Int→(List Int)→Option A)(k:KK A)(d:LSh.den ⟨[(2,(.ptr 0)),(0,(.row 1)),(0,(.p kL)),(0,(.p kI))],91,[(.var 23 aa (.p aa)),(.row 5 kB)],0⟩)(t:R):Option A:=F d.1.2.2.1 d.2.1 (fun z1=>k (.exit 2) ⟨.any::.any::(.ptr 0 [])::(.row 1)::an 93 [],[.var 23 aa (.p aa d.2.1),.row 5 kB z1],0⟩) t d.1.2.2.2.1 d.2.2.1
def E2{R:Type}(F:Int→Int→(List Int)→(List Int)→(ae A)→R→Int→Int→Option A)(k:KK A)(d:LSh.den ⟨[(2,(.ptr 0)),(0,(.row 1)),(0,(.p kL)),(0,(.p kI)),(0,(.p kL)),(0,(.p kI))],89,[(.var 23 aa (.p aa)),(.row 5 kB)],0⟩)(t:R):Option A:=F d.1.2.2.1 d.1.2.2.2.1 d.2.1 d.2.2.1 (fun z2=>k (.exit 4) ⟨.any::.any::(.ptr 0 [])::(.row 1)::(.p kL d.1.2.2.1)::(.p kI d.1.2.2.2.1)::(.p kL z2)::an 90 [],[.var 23 aa (.p aa d.2.1),.row 5 kB d.2.2.1],0⟩) t d.1.2.2.2.2.1 d.1.2.2.2.2.2.1
def E3{R:Type}(F:(List Int)→(List Int)→(ah A)→R→Nat→Nat→(List Int)→Option A)(k:KK A)(d:LSh.den ⟨[(2,(.ptr 0)),(0,(.sub 1)),(4,(.ptr 2))],88,[(.var 23 aa (.p aa)),(.row 5 kB),(.var 340 aK (.p aK))],0⟩)(t:R):Option A:=F d.2.1 d.2.2.1 (fun z1=>k (.exit 6) ⟨.any::.any::(.ptr 0 [])::an 5 ((.ptr 1 [])::an 88 []),[.var 23 aa (.p aa d.2.1),.var 340 aK (.p aK z1)],0⟩) t d.1.2.1.1 d.1.2.1.2 d.2.2.2.1
def E4{R:Type}(F:(List Int)→(List Int)→(ah A)→R→Int→(List Int)→Option A)(k:KK A)(d:LSh.den ⟨[(2,(.ptr 0)),(5,(.ptr 1)),(0,(.ptr 2)),(0,(.p kI))],86,[(.var 23 aa (.p aa)),(.var 340 aK (.p aK)),(.var 23 aa (.p aa))],0⟩)(t:R):Option A:=F d.2.1 d.2.2.1 (fun z1=>k (.exit 8) ⟨.any::.any::(.ptr 0 [])::an 6 ((.ptr 1 [])::an 87 []),[.var 23 aa (.p aa d.2.1),.var 23 aa (.p aa z1)],0⟩) t d.1.2.2.2.1 d.2.2.2.1
def EY(g:wX A):Entry A:=ai [] ⟨[(.p .str)],[],0⟩ fun d k=>g d.1.1 (fun r0=>k (.p aa r0) [])
section
variable(g164:fh A)(g165:fm A)(n:Nat)
noncomputable def sj:Env A:=Ev [(164,Gp g164),(165,Gq g165)] [(0,au (dl 97 [0,2,3]) (E0 (nV g164 g165 n)) n),(1,au (dl 97 [2,3,4,5]) (E1 (l4 g164 g165 n)) n),(2,au (dl 97 [2,3,4,5,6,7]) (E2 (nW g164 g165 n)) n),(3,au [0,1,4,5,6,7,9,10,11,12,13,14,15,16,17,18,19,20,21,22,23,24,25,26,27,28,29,30,31,32,33,34,35,36,37,38,39,40,41,42,43,44,45,46,47,48,49,50,51,52,53,54,55,56,57,58,59,60,61,62,63,64,65,66,67,68,69,70,71,72,73,74,75,76,77,78,79,80,81,82,83,84,85,86,87,88,89,90,91,92,93,94,95,96,1000003] (E3 (l5 g164 g165 n)) n),(4,au (dl 97 [2,8,9,10]) (E4 (nX g164 g165 n)) n)] [3000000] []
theorem ack:Lst A (sj g164 g165 n) Tryz.f114 4 (dl 97 [2,9]) (E4 (QO g164 g165 n)) (E4 (nX g164 g165 n)) fun r d i out=>r (((),(),(),i,d.1.2.2.2.2),(d.2.1,d.2.2.1,out,d.2.2.2.2)):=.mk
theorem acj:Lst A (sj g164 g165 n) Tryz.f114 3 (dl 97 [2,8]) (E3 (yT g164 g165 n)) (E3 (l5 g164 g165 n)) fun r d blo blen s=>r (((),(blo,blen),d.1.2.2),(d.2.1,d.2.2.1,s,d.2.2.2.2)):=.mk
theorem aci:Lst A (sj g164 g165 n) Tryz.f114 2 (dl 97 [2,3,4,5,6]) (E2 (yS g164 g165 n)) (E2 (nW g164 g165 n)) fun r d d_ j=>r (((),(),d.1.2.2.1,d.1.2.2.2.1,d_,j,d.1.2.2.2.2.2.2),d.2):=.mk
theorem ach:Lst A (sj g164 g165 n) Tryz.f114 1 (dl 97 [2,3]) (E1 (yR g164 g165 n)) (E1 (l4 g164 g165 n)) fun r d i b=>r (((),(),d.1.2.2.1,i,d.1.2.2.2.2),(d.2.1,b,d.2.2.2)):=.mk
theorem acg:Lst A (sj g164 g165 n) Tryz.f114 0 (dl 97 [0,2,3]) (E0 (yQ g164 g165 n)) (E0 (nV g164 g165 n)) fun r d b=>r (d.1,(d.2.1,b,d.2.2.2)):=.mk
theorem acf:Qo A (sj g164 g165 n) Tryz.f114 [.pure] (EY (EZ g164 g165 n)):=.mk
end
theorem ace(n:Nat):OK A 114 (EY (yU n)):=ak (acf _ _ n) Tryz.func114 (ax (acg _ _ n)<|ax (ach _ _ n)<|ax (aci _ _ n)<|ax (acj _ _ n)<|ax (ack _ _ n) ag) (oc (adJ n)<|oc (adL n) oz)
def vH(g:iT A):Entry A:=ai [] ⟨[(.p .str)],[],0⟩ fun d k=>g d.1.1 (fun r0=>k (.p aa r0) [])
theorem aiM(g114:wX A)(n:Nat):Qo A (Ev [(114,EY g114)] [] [] []) Tryz.f78 [.pure] (vH (LG g114 n)):=.mk
theorem LF(n:Nat):OK A 78 (vH (pM n)):=ak (aiM _ n) Tryz.func78 ag (oc (ace n) oz)
def vz(g:fu A):Entry A:=ai [] ⟨[(.p ci)],[],0⟩ fun d k=>g d.1.1 (fun r0=>k (.p aa r0) [])
theorem ahT(g79:iU A)(g78:iT A)(n:Nat):Qo A (Ev [(79,Cb g79),(78,vH g78)] [] [] []) Tryz.f47 [.pure] (vz (KG g79 g78 n)):=.mk
theorem KF(n:Nat):OK A 47 (vz (mw n)):=ak (ahT _ _ n) Tryz.func47 ag (oc (Um n)<|oc (LF n) oz)
def EO(g:wU A):Entry A:=ai [] ⟨[(.p ci)],[],0⟩ fun d k=>g d.1.1 (fun r0=>k (.p MF r0) [])
theorem ab5(g47:fu A)(n:Nat):Qo A (Ev [(47,vz g47)] [] [] []) Tryz.f110 [.pure] (EO (EQ g47 n)):=.mk
theorem ab4(n:Nat):OK A 110 (EO (EP n)):=ak (ab5 _ n) Tryz.func110 ag (oc (KF n) oz)
def LB(g:rq A):Entry A:=ai [] ⟨[(.p jl)],[],0⟩ fun d k=>g d.1.1 (fun r0=>k (.p dv r0) [])
theorem aiJ(g110:wU A)(n:Nat):Qo A (Ev [(110,EO g110)] [] [] []) Tryz.f76 [.pure] (LB (LC g110 n)):=.mk
theorem aiI(n:Nat):OK A 76 (LB (Ca n)):=ak (aiJ _ n) Tryz.func76 ag (oc (ab4 n) oz)
def KB{R:Type}(F:ef→ef→dt→Int→rN→lL→ef→dt→Int→rN→(Do A)→R→Int→lL→Option A)(k:KK A)(d:LSh.den ⟨[(2,(.ptr 0)),(1,(.ptr 1)),(0,(.ptr 3)),(0,(.p kI))],28,[(.var 85 bT (.p bT)),(.var 92 bU (.pr (.p bT) (.pr (.p dv) (.pr (.p kI) (.pr (.row 2) (.p (.pair (.sl iC) .unit))))))),(.row 225 eK),(.var 92 bU (.pr (.p bT) (.pr (.p dv) (.pr (.p kI) (.pr (.row 4) (.p (.pair (.sl iC) .unit))))))),(.row 225 eK)],0⟩)(t:R):Option A:=F d.2.1 d.2.2.1.1 d.2.2.1.2.1 d.2.2.1.2.2.1 d.2.2.1.2.2.2.2 d.2.2.2.1 d.2.2.2.2.1.1 d.2.2.2.2.1.2.1 d.2.2.2.2.1.2.2.1 d.2.2.2.2.1.2.2.2.2 (fun z9=>k (.exit 0) ⟨an 4 ((.ptr 0 [])::(.ptr 2 [])::an 29 []),[.var 92 bU (.pr (.p bT d.2.2.1.1) (.pr (.p dv d.2.2.1.2.1) (.pr (.p kI d.2.2.1.2.2.1) (.pr (.row 1) (.p (.pair (.sl iC) .unit) d.2.2.1.2.2.2.2))))),.row 225 eK d.2.2.2.1,.var 92 bU (.pr (.p bT d.2.2.2.2.1.1) (.pr (.p dv d.2.2.2.2.1.2.1) (.pr (.p kI d.2.2.2.2.1.2.2.1) (.pr (.row 3) (.p (.pair (.sl iC) .unit) d.2.2.2.2.1.2.2.2.2))))),.row 225 eK z9],0⟩) t d.1.2.2.2.1 d.2.2.2.2.2.1
def Kz(g:k7 A):Entry A:=ai [] ⟨[(.p bT),(.p kI)],[],0⟩ fun d k=>g d.1.1 d.1.2.1 (fun r0=>k (.p bU r0) [])
section
variable(g76:rq A)(n:Nat)
noncomputable def TY:Env A:=Ev [(76,LB g76)] [(0,au (dl 35 [2,4,5,6]) (KB (pA g76 n)) n)] [] []
theorem ahP:Lst A (TY g76 n) Tryz.f45 0 (dl 35 [4,5]) (KB (BM g76 n)) (KB (pA g76 n)) fun r d i xbbba=>r (((),(),(),i,d.1.2.2.2.2),(d.2.1,d.2.2.1,d.2.2.2.1,d.2.2.2.2.1,xbbba,d.2.2.2.2.2.2)):=.mk
theorem ahO:Qo A (TY g76 n) Tryz.f45 [.pure] (Kz (KA g76 n)):=.mk
end
theorem ahN(n:Nat):OK A 45 (Kz (vx n)):=ak (ahO _ n) Tryz.func45 (ax (ahP _ n) ag) (oc (aiI n) oz)
def B3(g:rl A):Entry A:=ai [] ⟨[(.p cr),(.p kI)],[],0⟩ fun d k=>g d.1.1 d.1.2.1 (fun r0 r1=>k (.tup [.p cr r0,.p .str r1]) [])
theorem aiw(n:Nat):Qo A (Ev [] [] [] []) Tryz.f66 [.pure,.pure] (B3 (Lo n)):=.mk
theorem Ug(n:Nat):OK A 66 (B3 (vE n)):=ak (aiw n) Tryz.func66 ag oz
def Ls{R:Type}(F:(List Int)→(ae A)→R→Int→Int→Option A)(k:KK A)(d:LSh.den ⟨[(0,(.p kS)),(2,(.p kL)),(0,(.p kI))],18,[],0⟩)(t:R):Option A:=F d.1.1 (fun z0=>k (.exit 0) ⟨.any::.any::.any::(.p kL z0)::an 19 [],[],0⟩) t d.1.2.1 d.1.2.2.1
def B6(g:rn A):Entry A:=ai [] ⟨[(.p kS)],[],0⟩ fun d k=>g d.1.1 (fun r0=>k (.p kL r0) [])
section
variable(n:Nat)
noncomputable def Ui:Env A:=Ev [] [(0,au (dl 23 [0,3,4]) (Ls (pL n)) n)] [] []
theorem aiz:Lst A (Ui n) Tryz.f68 0 (dl 23 [3]) (Ls (B5 n)) (Ls (pL n)) fun r d n_ i=>r ((d.1.1,n_,i,d.1.2.2.2),d.2):=.mk
theorem aiy:Qo A (Ui n) Tryz.f68 [.pure] (B6 (Lr n)):=.mk
end
theorem Uj(n:Nat):OK A 68 (B6 (sO n)):=ak (aiy n) Tryz.func68 (ax (aiz n) ag) oz
def Kj(g:rk A):Entry A:=ai [] ⟨[(.p cr),(.p kI)],[],0⟩ fun d k=>g d.1.1 d.1.2.1 (fun r0 r1=>k (.tup [.p cr r0,.p kL r1]) [])
theorem ahz(g67:lh A)(g66:rl A)(g68:rn A)(n:Nat):Qo A (Ev [(67,B4 g67),(66,B3 g66),(68,B6 g68)] [] [] []) Tryz.f38 [.pure,.pure] (Kj (Kk g67 g66 g68 n)):=.mk
theorem ahy(n:Nat):OK A 38 (Kj (pt n)):=ak (ahz _ _ _ n) Tryz.func38 ag (oc (Uh n)<|oc (Ug n)<|oc (Uj n) oz)
def sf(g:eE A):Entry A:=ai [] ⟨[(.p kL)],[],0⟩ fun d k=>g d.1.1 (fun r0=>k (.p .str r0) [])
theorem abY(g115:gk A)(n:Nat):Qo A (Ev [(115,uo g115)] [] [] []) Tryz.f105 [.pure] (sf (EG g115 n)):=.mk
theorem yH(n:Nat):OK A 105 (sf (jH n)):=ak (abY _ n) Tryz.func105 ag (oc (E5 n) oz)
def B8(g:li A):Entry A:=ai [] ⟨[(.p cr),(.p kL)],[],0⟩ fun d k=>g d.1.1 d.1.2.1 (fun r0 r1=>k (.tup [.p cr r0,.p kL r1]) [])
theorem aiC(g68:rn A)(g105:eE A)(n:Nat):Qo A (Ev [(68,B6 g68),(105,sf g105)] [] [] []) Tryz.f70 [.pure,.pure] (B8 (Lv g68 g105 n)):=.mk
theorem Uk(n:Nat):OK A 70 (B8 (mE n)):=ak (aiC _ _ n) Tryz.func70 ag (oc (Uj n)<|oc (yH n) oz)
def Lw(g:rp A):Entry A:=ai [] ⟨[(.p cr),(.p kI)],[],0⟩ fun d k=>g d.1.1 d.1.2.1 (fun r0 r1=>k (.tup [.p cr r0,.p .str r1]) [])
theorem aiE(g70:li A)(g66:rl A)(n:Nat):Qo A (Ev [(70,B8 g70),(66,B3 g66)] [] [] []) Tryz.f72 [.pure,.pure] (Lw (Lx g70 g66 n)):=.mk
theorem aiD(n:Nat):OK A 72 (Lw (sP n)):=ak (aiE _ _ n) Tryz.func72 ag (oc (Uk n)<|oc (Ug n) oz)
def Gg{R:Type}(F:Int→Int→Unit→gz→Int→Unit→(Dp A)→R→Int→il→gz→Option A)(k:KK A)(d:LSh.den ⟨[(2,(.ptr 0)),(1,(.ptr 2)),(1,(.ptr 3)),(0,(.p kL)),(0,(.p kL))],67,[(.var 335 sY (.pr (.p kL) (.pr (.row 1) (.p .unit)))),(.row 424 pV),(.var 131 cr (.p cr)),(.var 335 sY (.pr (.p kL) (.pr (.row 4) (.p .unit)))),(.row 424 pV)],0⟩)(t:R):Option A:=F d.1.2.2.2.1 d.2.1.1 d.2.1.2.2 d.2.2.1 d.2.2.2.2.1.1 d.2.2.2.2.1.2.2 (fun z3 z6=>k (.exit 0) ⟨.any::.any::(.ptr 0 [])::.any::(.ptr 2 [])::.any::(.ptr 3 [])::an 69 [],[.var 335 sY (.pr (.p kL d.2.1.1) (.pr (.row 1) (.p .unit d.2.1.2.2))),.row 424 pV d.2.2.1,.var 131 cr (.p cr z3),.var 335 sY (.pr (.p kL d.2.2.2.2.1.1) (.pr (.row 4) (.p .unit d.2.2.2.2.1.2.2))),.row 424 pV z6],0⟩) t d.1.2.2.2.2.1 d.2.2.2.1 d.2.2.2.2.2.1
def Ge(g:qB A):Entry A:=ai [] ⟨[(.p .str)],[],0⟩ fun d k=>g d.1.1 (fun r0 r1=>k (.tup [.p sY r0,.p kI r1]) [])
section
variable(g38:rk A)(g70:li A)(g72:rp A)(n:Nat)
noncomputable def Rs:Env A:=Ev [(38,Kj g38),(70,B8 g70),(72,Lw g72)] [(0,au (dl 76 [2,4,6,7,8]) (Gg (jK g38 g70 g72 n)) n)] [] []
theorem adx:Lst A (Rs g38 g70 g72 n) Tryz.f160 0 (dl 76 [2,4,6]) (Gg (zD g38 g70 g72 n)) (Gg (jK g38 g70 g72 n)) fun r d i x tba=>r (((),(),(),d.1.2.2.2.1,i,d.1.2.2.2.2.2),(d.2.1,d.2.2.1,x,d.2.2.2.2.1,tba,d.2.2.2.2.2.2)):=.mk
theorem adw:Qo A (Rs g38 g70 g72 n) Tryz.f160 [.pure,.pure] (Ge (Gf g38 g70 g72 n)):=.mk
end
theorem adv(n:Nat):OK A 160 (Ge (uJ n)):=ak (adw _ _ _ n) Tryz.func160 (ax (adx _ _ _ n) ag) (oc (ahy n)<|oc (Uk n)<|oc (aiD n) oz)
def EX{R:Type}(F:(List ByteArray)→Int→(bx A)→R→Int→(List (List Int))→Option A)(k:KK A)(d:LSh.den ⟨[(3,(.row 0)),(2,(.p (.sl .str))),(0,(.p kI)),(0,(.p kI))],10,[(.row 23 aa)],0⟩)(t:R):Option A:=F d.1.2.1 d.1.2.2.1 (fun z0=>k (.exit 0) ⟨.any::.any::.any::(.row 0)::an 15 [],[.row 23 aa z0],0⟩) t d.1.2.2.2.1 d.2.1
def yP(g:kj A):Entry A:=ai [] ⟨[(.p (.sl .str))],[],0⟩ fun d k=>g d.1.1 (fun r0=>k (.row 0) [.row 23 aa r0])
section
variable(g78:iT A)(n:Nat)
noncomputable def QM:Env A:=Ev [(78,vH g78)] [(0,au (dl 19 [3,6,7,8]) (EX (nU g78 n)) n)] [] []
theorem acd:Lst A (QM g78 n) Tryz.f113 0 (dl 19 [3]) (EX (yO g78 n)) (EX (nU g78 n)) fun r d t8 out=>r (((),d.1.2.1,d.1.2.2.1,t8,d.1.2.2.2.2),(out,d.2.2)):=.mk
theorem acb:Qo A (QM g78 n) Tryz.f113 [.own] (yP (EW g78 n)):=.mk
end
theorem QN(n:Nat):OK A 113 (yP (sg n)):=ak (acb _ n) Tryz.func113 (ax (acd _ n) ag) (oc (LF n) oz)
def Gn{R:Type}(F:Int→(ae A)→R→Int→Int→Option A)(k:KK A)(d:LSh.den ⟨[(0,(.p kI)),(2,(.p kI)),(0,(.p kI))],8,[],0⟩)(t:R):Option A:=F d.1.1 (fun z0=>k (.exit 0) ⟨.any::.any::.any::(.p kI z0)::an 9 [],[],0⟩) t d.1.2.1 d.1.2.2.1
def zJ(g:iO A):Entry A:=ai [] ⟨[(.p kI)],[],0⟩ fun d k=>g d.1.1 (fun r0=>k (.p kI r0) [])
section
variable(n:Nat)
noncomputable def Ru:Env A:=Ev [] [(0,au (dl 13 [0,3,4]) (Gn (zK n)) n)] [] []
theorem adI:Lst A (Ru n) Tryz.f163 0 (dl 13 [3]) (Gn (Rv n)) (Gn (zK n)) fun r d d_ k_=>r ((d.1.1,d_,k_,d.1.2.2.2),d.2):=.mk
theorem adH:Qo A (Ru n) Tryz.f163 [.pure] (zJ (Rx n)):=.mk
end
theorem Rw(n:Nat):OK A 163 (zJ (oB n)):=ak (adH n) Tryz.func163 (ax (adI n) ag) oz
def Ir{R:Type}(F:Int→(ae A)→R→Int→Int→Option A)(k:KK A)(d:LSh.den ⟨[(0,(.p kI)),(0,(.p kI)),(3,(.p kI))],9,[],0⟩)(t:R):Option A:=F d.1.2.1 (fun z0=>k (.exit 0) ⟨(.p kI z0)::an 14 [],[],0⟩) t d.1.1 d.1.2.2.1
def AR(g:kK A):Entry A:=ai [] ⟨[(.p kI),(.p kI)],[],0⟩ fun d k=>g d.1.1 d.1.2.1 (fun r0=>k (.p kI r0) [])
section
variable(n:Nat)
noncomputable def SC:Env A:=Ev [] [(0,au (dl 15 [0,1,5]) (Ir (oT n)) n)] [] []
theorem afu:Lst A (SC n) Tryz.f228 0 (dl 15 [0]) (Ir (AQ n)) (Ir (oT n)) fun r d n_ i=>r ((n_,d.1.2.1,i,d.1.2.2.2),d.2):=.mk
theorem aft:Qo A (SC n) Tryz.f228 [.pure] (AR (Iq n)):=.mk
end
theorem SD(n:Nat):OK A 228 (AR (fG n)):=ak (aft n) Tryz.func228 (ax (afu n) ag) oz
def Is(g:N2 A):Entry A:=ai [] ⟨[(.p aa),(.p aa)],[],0⟩ fun d k=>g d.1.1 d.1.2.1 (fun r0=>k (.p aa r0) [])
theorem afw(g78:iT A)(n:Nat):Qo A (Ev [(78,vH g78)] [] [] []) Tryz.f229 [.pure] (Is (It g78 n)):=.mk
theorem afv(n:Nat):OK A 229 (Is (iv n)):=ak (afw _ n) Tryz.func229 ag (oc (LF n) oz)
def Rt:Shape:=⟨[(.p (.sl aa)),(.p (.int .i64)),(.p (.int .i64))],[],0⟩
def sw(g:(List (List Int))→Int→Int→(ah A)→Option A):Entry A:=ai [false,false,false] Rt fun d k=>g d.1.1 d.1.2.1 d.1.2.2.1 (fun r0=>k (.p aa r0) [])
noncomputable def oA(g_f162:(List (List Int))→Int→Int→(ah A)→Option A)(g_f228:Int→Int→(ae A)→Option A)(g_f229:(List Int)→(List Int)→(ah A)→Option A)(n:Nat):Env A:=⟨aN,aw,[(162,sw g_f162),(228,AR g_f228),(229,Is g_f229)],[],[],[],bI,obs⟩
theorem adC(g_f162:(List (List Int))→Int→Int→(ah A)→Option A)(g_f228:Int→Int→(ae A)→Option A)(g_f229:(List Int)→(List Int)→(ah A)→Option A)(n:Nat):aO Tryz.prog (oA g_f162 g_f228 g_f229 n):=bz rfl bA
theorem adF(n:Nat)(ih:aI Tryz.prog aw 162 (sw (A:=A) (dQ n))):cS Tryz.prog (oA (A:=A) (dQ n) (fG n) (iv n) n):=aj.env rfl rfl (aj.cons ih (aj.cons (SD n) (aj.cons (afv n) aj.nil)))
theorem adE(g_f162:(List (List Int))→Int→Int→(ah A)→Option A)(g_f228:Int→Int→(ae A)→Option A)(g_f229:(List Int)→(List Int)→(ah A)→Option A)(n:Nat)(a0:(List (List Int)))(a1:Int)(a2:Int)(k:AV→List Blk→Option A):fY (oA g_f162 g_f228 g_f229 n) Tryz.f162 [.pure] [.p (.sl aa) a0,.p (.int .i64) a1,.p (.int .i64) a2] [] k=zI g_f162 g_f228 g_f229 n a0 a1 a2 (fun r0=>k (.p aa r0) []):=by kernel_rfl
theorem adD(n:Nat)(a0:(List (List Int)))(a1:Int)(a2:Int)(k:AV→List Blk→Option A):fY (oA (dQ n) (fG n) (iv n) n) Tryz.f162 [.pure] [.p (.sl aa) a0,.p (.int .i64) a1,.p (.int .i64) a2] [] k=dQ (n+1) a0 a1 a2 (fun r0=>k (.p aa r0) []):=adE (dQ n) (fG n) (iv n) n a0 a1 a2 k
theorem adG(n:Nat)(ih:aI Tryz.prog aw 162 (sw (A:=A) (dQ n))):∀ c,Tryz.f162.body=some c→∀ q∈aD 0 c,∀ L,(oA (A:=A) (dQ n) (fG n) (iv n) n).lps.lookup q.1=some L→cl Tryz.prog aw q.2 L:=
 Vz (E:=oA (dQ n) (fG n) (iv n) n) (by kernel_rfl:Tryz.f162.body=some (eh Tryz.f162)) (vZ (E:=oA (dQ n) (fG n) (iv n) n) (by kernel_rfl:aD 0 (eh Tryz.f162)=[]) s8)
theorem Gm:∀ (n:Nat),aI Tryz.prog aw 162 (sw (A:=A) (dQ n))
 | 0=>aI.ownNone fun _ _=>rfl
 | n+1=>have ih:=Gm n
  aI.ofOwn (adC (dQ n) (fG n) (iv n) n) (adF n ih) follows ⟨Tryz.func162,by kernel_rfl⟩ (adG n ih) (rm:=[.pure]) (S:=Rt) fun d k=>Eq.trans (by kernel_rfl) (adD n d.1.1 d.1.2.1 d.1.2.2.1 k)
end Go.Ev
