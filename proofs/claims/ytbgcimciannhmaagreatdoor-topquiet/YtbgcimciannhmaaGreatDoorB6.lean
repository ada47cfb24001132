import Derived.Test.YtbgcimciannhmaaGreatDoorB0
import Derived.Test.YtbgcimciannhmaaGreatDoorB3
import Derived.Test.YtbgcimciannhmaaGreatDoorB5
import Derived.Scope
import Derived.LoopN
import Derived.Conc.MuLone
import Derived.ChangeMaps5
import Derived.RowKit
import Derived.WideShapes
import Derived.ChangeShapes
import Derived.Below
import Derived.ProofKit
import Derived.OpenShut
import Derived.ShutString
import Derived.ChangeOld
import Derived.Laws.Externs
import Derived.WalkSpells
import Derived.Lib.BytesEntry
import Derived.FnData
import Derived.MakeChecks
import Derived.KernelRfl
/- A part of the proof of TopQuiet; no condition. -/
set_option linter.all false
set_option maxRecDepth 100000
namespace Go.Ev
variable{A:Type}
theorem amZ{l:List Nat}{m:Nat}(h:(l.take m==List.range m)=true){i:Nat}(hi:i<m):l[i]?=some i:=by
 have h:=eq_of_beq h
 have:=congrArg (fun l:List Nat=>l[i]?) h
 simpa[List.getElem?_take,hi] using this
theorem Emb.pevo{X Z:Cx}{l:List Nat}{sl:Bool}{m:Nat}(E:Emb X Z (aG l) sl)(hl:l.Nodup)(h:(l.take m==List.range m)=true):PEvo m X Z:=by
 have key:∀ i,i<m→aG l i=some i:=fun i hi=>iG hl (amZ h hi)
 refine⟨fun id b hm hb hn=>⟨_,E.hp id id b (key id hm) hb,?_⟩,fun id b hm hb _=>by rw[E.ρ id id b (key id hm) hb];exact .rfl⟩
 cases b with
 | var t K v=>exact .var ..
 | row e K xs=>exact .row _ _ _ _ rfl
 | map KK KV es=>exact .map ..
 | ment KK KV es x g=>exact .me ..
 | stp=>exact .gone _
 | ob t K o xs oh=>exact .ob _ _ _ _ _ _ _ rfl
 | gone=>exact .gone _
 | free=>exact absurd rfl hn
theorem Pt{X:Cx}{hp:List Blk}(hx:X.hp=hp){v:AV}{u:Value}(h:RS X v u):RS X (DR hp v) u:=by
 unfold DR
 split
 ·rename_i id
  split
  ·rename_i e K xs he
   have h1:=(RS.one (by simp) (by simp) (by simp) (by simp)).1 h
   refine(RS.one (by simp) (by simp) (by simp) (by simp)).2 ?_
   rw[← hx] at he
   simp only[R1,he] at h1 ⊢
   refine⟨by omega,?_⟩
   rcases h1 with ⟨g1,g2,g3⟩|⟨b,cap,cur,g1,g2,_,_,g5⟩
   ·exact⟨none,0,by rw[g3,g2],by omega,fun h=>by omega⟩
   ·exact⟨_,cap,g2,g5,fun _=>⟨b,g1,by simp⟩⟩
  ·exact h
 ·exact h
theorem aaN{gl:GL}{X:Cx}{s:St}{a:Act}(h:Rel gl X s a)(dead:List Nat)(hk:((lS dead s).take s.m==List.range s.m)=true):∃ Z:Cx,Z.w=X.w∧WEvo X Z∧PEvo s.m X Z∧Rel gl Z (yu dead s) a:=by
 have hnd:(lS dead s).Nodup:=nM _ _ _ _ List.nodup_range
 obtain⟨Z,h1,h2,h3,h4,h5,h6⟩:=Dc h.hp h.ok (l:=lS dead s) hnd (G:=[]) (by simp)
 refine⟨Z,h1,h5,h6.pevo hnd hk,h.glo.evo h5 h.ok.fo,h.defers,by simp[yu,gI,h.size],fun i av hi=>?_,h2,h4⟩
 simp only[yu,gI,List.getElem?_map,Option.map_eq_some_iff] at hi
 obtain⟨v,⟨q,hq,rfl⟩,rfl⟩:=hi
 rw[List.getElem?_zipIdx,Option.map_eq_some_iff] at hq
 obtain⟨v0,hv0,rfl⟩:=hq
 obtain⟨u,g1,g2⟩:=h.tm i v0 hv0
 refine⟨u,g1,?_⟩
 simp only
 split
 ·exact RS.any _
 ·split
  ·refine RS.emb h6 (fun _=>rfl) ?_
   exact Pt h.hp g2
  ·exact RS.emb h6 (fun _=>rfl) g2
def Conv(s s':St):Prop:=s'.m=s.m∧∀ (gl:GL) (X:Cx) (a:Act),Rel gl X s a→∃ Z:Cx,Z.w=X.w∧WEvo X Z∧PEvo s.m X Z∧Rel gl Z s' a
theorem Conv.refl(s:St):Conv s s:=⟨rfl,fun _ X _ h=>⟨X,rfl,.refl X,.refl _ X,h⟩⟩
theorem Conv.trans{s s' s'':St}(h:Conv s s')(k:Conv s' s''):Conv s s'':=⟨k.1.trans h.1,fun gl X a r=>by
 obtain⟨Y,h1,h2,h3,h4⟩:=h.2 gl X a r
 obtain⟨Z,k1,k2,k3,k4⟩:=k.2 gl Y a h4
 exact⟨Z,k1.trans h1,h2.trans k2,h3.trans (h.1▸k3),k4⟩⟩
theorem Conv.close(kp:List Nat)(s:St):Conv s (nL kp s):=⟨aa8 kp s,fun gl X a h=>by
 obtain⟨Z,h1,h2,h3,h4⟩:=aa9 h kp
 exact⟨Z,h1,h2,h3.pevo _,h4⟩⟩
theorem Conv.closeR{A:Type}(E:Env A)(id:Nat)(s:St):Conv s (E.closeR id s):=by
 unfold Env.closeR
 cases E.nils.contains (2000000+id) with
 | true=>exact .close _ s
 | false=>exact .refl s
theorem Conv.closeEnd{A:Type}(E:Env A)(fn:Func)(s:St):Conv s (E.closeEnd fn s):=by
 unfold Env.closeEnd
 cases E.obs.isEmpty with
 | true=>exact .refl s
 | false=>exact .close _ s
theorem Conv.forget(dead:List Nat)(s:St):Conv s { s with tm:=gI dead s }:=⟨rfl,fun gl X a h=>⟨X,rfl,.refl X,.refl _ X,h.glo,h.defers,by simp[gI,h.size],fun i av hi=>by
 simp only[gI,List.getElem?_map,Option.map_eq_some_iff] at hi
 obtain⟨q,hq,rfl⟩:=hi
 rw[List.getElem?_zipIdx,Option.map_eq_some_iff] at hq
 obtain⟨v0,hv0,rfl⟩:=hq
 obtain⟨u,g1,g2⟩:=h.tm i v0 hv0
 refine⟨u,g1,?_⟩
 simp only
 split
 ·exact RS.any _
 ·split
  ·exact Pt h.hp g2
  ·exact g2,h.hp,h.ok⟩⟩
theorem D4{A:Type}{dead:List Nat}{s:St}{k:St→Option A}{out:A}(h:rW dead s k=some out):∃ s',k s'=some out∧Conv s s':=by
 unfold rW PJ at h
 generalize hs1:nL (List.range s.m++List.flatMap AV.ids (gI dead s)) { s with tm:=gI dead s }=s1 at h
 cases hb:(lS dead s1).take s1.m==List.range s1.m with
 | true=>
  rw[hb] at h
  refine⟨_,h,((Conv.forget dead s).trans (Conv.close (List.range s.m++List.flatMap AV.ids (gI dead s)) _)).trans ?_⟩
  rw[hs1]
  exact⟨rfl,fun gl X a r=>aaN r dead hb⟩
 | false=>rw[hb] at h;cases h
def Ex.out:Ex→Exit
 | .normal=>.normal
 | .exit id=>.exit id
 | .ret=>.ret
def qn(P:Program)(gl:GL)(c:Code)(s:St)(x:Ex)(s':St):Prop:=
 s'.m=s.m∧∀ (X:Cx) (a:Act) (Q:Exit→Act→World→Prop),Rel gl X s a→(∀ (Y:Cx) (a':Act),WEvo X Y→PEvo s.m X Y→Rel gl Y s' a'→Q x.out a' Y.w)→wq P c Q a X.w
def Of(P:Program)(gl:GL)(c:Code)(n:Nat)(s:St)(x:Ex)(s':St):Prop:=
 s'.m=s.m∧∀ (X:Cx) (a:Act) (Q:Exit→Act→World→Prop),Rel gl X s a→(∀ (Y:Cx) (a':Act),WEvo X Y→PEvo s.m X Y→Rel gl Y s' a'→Q x.out a' Y.w)→tu P c Q n a X.w
theorem Conv.csem{P:Program}{gl:GL}{c:Code}{s s1 s':St}{x:Ex}(cv:Conv s s1)(h:qn P gl c s1 x s'):qn P gl c s x s':=⟨h.1.trans cv.1,fun X a Q hr hq=>by
 obtain⟨Z,g1,g2,gp,g3⟩:=cv.2 gl X a hr
 rw[← g1]
 exact h.2 Z a Q g3 fun V b WV PV RV=>hq V b (g2.trans WV) (gp.trans (cv.1▸PV)) RV⟩
theorem abO{gl:GL}{X:Cx}{s:St}{a:Act}(h:Rel gl X s a):∃ Z:Cx,Z.w={ X.w with drawn:=X.w.drawn+1 }∧WEvo X Z∧HEvo X Z∧Rel gl Z s a:=by
 have W:WEvo X ⟨X.ρ,X.hp,X.F,{ X.w with drawn:=X.w.drawn+1 }⟩:=⟨rfl,rfl,rfl,Nat.le_refl _,fun _ c _ _ h=>⟨c,h,rfl⟩,fun _ _ _=>rfl,fun _ _ h=>h,fun _ h=>h,fun _ h=>.inl h⟩
 have H:HEvo X ⟨X.ρ,X.hp,X.F,{ X.w with drawn:=X.w.drawn+1 }⟩:=⟨fun _ b hb hn=>⟨b,hb,.refl hn⟩,fun _ _ _ _=>.rfl⟩
 exact⟨⟨X.ρ,X.hp,X.F,{ X.w with drawn:=X.w.drawn+1 }⟩,rfl,W,H,h.glo.evo W h.ok.fo,h.defers,h.size,fun i av hi=>by obtain⟨v,h1,h2⟩:=h.tm i av hi;exact⟨v,h1,h2.evo W H h.ok.fo⟩,h.hp,
  ⟨fun id b hb=>(h.ok.blk id b hb).evo W H h.ok.fo rfl fun _ _=>rfl,h.ok.inj,h.ok.fo⟩⟩
def aD:Nat→Code→List (Nat×Code)
 | j,.seq a b=>aD j a++aD (j+ew a) b
 | j,.cond _ a b=>aD j a++aD (j+ew a) b
 | j,.block _ c=>aD j c
 | j,.scope c=>aD j c
 | j,.loop c=>(j,c)::aD (j+1) c
 | _,_=>[]
def cl(P:Program)(gl:GL)(c:Code)(L:Loop A):Prop:=
 ∀ (s:St) (k:Ex→St→Option A) (out:A),L.run s k=some out→∃ x s',k x s'=some out∧qn P gl (.loop c) s x s'
theorem BSh.read_fill:∀ {h:BSh} {v:Blk} {x:h.den},h.read v=some x→v=h.fill x
 | .var t K h,v,x,hr=>by
  cases v<;>simp only[BSh.read] at hr<;>first|(cases hr;done)|skip
  split at hr
  ·rename_i he;obtain⟨rfl,rfl⟩:=he;simp only[BSh.fill];rw[← Sh.read_fill hr]
  ·cases hr
 | .row t K,v,x,hr=>by
  cases v<;>simp only[BSh.read] at hr<;>first|(cases hr;done)|skip
  split at hr
  ·rename_i h;subst h
   split at hr
   ·rename_i h;subst h;cases hr;rfl
   ·cases hr
  ·cases hr
 | .map KK KV,v,x,hr=>by
  cases v<;>simp only[BSh.read] at hr<;>first|(cases hr;done)|skip
  split at hr
  ·rename_i h;subst h
   split at hr
   ·rename_i h;subst h;cases hr;rfl
   ·cases hr
  ·cases hr
 | .ob t K o,v,x,hr=>by
  cases v<;>simp only[BSh.read] at hr<;>first|(cases hr;done)|skip
  rename_i t' K' o' xs oh
  cases oh with
  | some q=>obtain⟨j,w⟩:=q;simp only at hr;cases hr
  | none=>
   simp only at hr
   split at hr
   ·rename_i h;subst h
    split at hr
    ·rename_i h;obtain⟨rfl,rfl⟩:=h;cases hr;rfl
    ·cases hr
   ·cases hr
 | .obh t K o sh,v,x,hr=>by
  cases v<;>simp only[BSh.read] at hr<;>first|(cases hr;done)|skip
  rename_i t' K' o' xs oh
  cases oh with
  | none=>simp only at hr;cases hr
  | some q=>
   obtain⟨j,w⟩:=q
   simp only at hr
   split at hr
   ·rename_i h;subst h
    split at hr
    ·rename_i h;obtain⟨rfl,rfl⟩:=h
     split at hr
     ·rename_i y hy
      cases hr
      simp only[BSh.fill]
      rw[Sh.read_fill hy]
     ·cases hr
    ·cases hr
   ·cases hr
 | .gone,v,x,hr=>by cases v<;>first|rfl|(simp[BSh.read] at hr)
theorem wz:∀ {hs:List Sh} {vs:List AV} {x:wy hs},mV hs vs=some x→vs=ka hs x
 | [],[],_,_=>rfl
 | h::r,v::vs,x,hr=>by
  simp only[mV] at hr
  split at hr
  ·rename_i h1 h2
   cases hr
   simp only[ka]
   rw[← Sh.read_fill h1,← wz h2]
  ·cases hr
 | [],_::_,_,h=>by cases h
 | _::_,[],_,h=>by cases h
theorem rU:∀ {hs:List BSh} {vs:List Blk} {x:rT hs},lR hs vs=some x→vs=eQ hs x
 | [],[],_,_=>rfl
 | h::r,v::vs,x,hr=>by
  simp only[lR] at hr
  split at hr
  ·rename_i h1 h2
   cases hr
   simp only[eQ]
   rw[← BSh.read_fill h1,← rU h2]
  ·cases hr
 | [],_::_,_,h=>by cases h
 | _::_,[],_,h=>by cases h
theorem rP{out:A}{v:AV}{K:Kind}{k:K.den→Option A}(h:eP v K k=some out):∃ x,v=.p K x∧k x=some out:=by
 unfold eP at h
 split at h
 ·split at h
  ·rename_i h';subst h';exact⟨_,rfl,h⟩
  ·cases h
 ·cases h
section
variable{P:Program}{E:Env A}(T:aO P E)(fns:cS P E)(hm:P.follows .mixedOrders=true){out:A}
include T fns hm
theorem alm{id:Nat}{ops:Array Oper}{draw:Bool}{s:St}{k:St→Option A}(h:Ni E ops draw s k=some out):∃ s',k s'=some out∧qn P E.gl (.region id ops draw) s .normal s':=by
 unfold Ni at h
 obtain⟨ps,s',hc,hk⟩:=CR T fns h
 cases draw with
 | false=>
  refine⟨s',by simpa using hk,Eb hc,fun X a Q hr hq=>NW (ank (Q:=fun e a w=>e=.normal∧Q e a w) (fun _ _ h=>nomatch h.1) ?_) fun _ _ _ h=>h.2⟩
  have:=yv hc (i:=0) (by simp) hr (Q:=fun e a w=>e=.normal∧Q e a w) fun Y a' h1 h2 h3=>⟨rfl,hq Y a' h2 (h3.pevo _) h1⟩
  rw[Array.length_toList,← List.range_eq_range'] at this
  exact this
 | true=>
  simp only[cond_true,List.append_nil,List.reverse_reverse] at hk
  cases hi:Cv ops (ps.map Stp.fp) with
  | false=>rw[hi] at hk;cases hk
  | true=>
   rw[hi] at hk
   have hlen:ps.length=ops.size:=by rw[Ea hc];simp
   have I:=ajR hi hlen
   refine⟨s',hk,Eb hc,fun X a Q hr hq=>NW (anl (Q:=fun e a w=>e=.normal∧Q e a w) hm (fun _ _ h=>nomatch h.1) ?_) fun _ _ _ h=>h.2⟩
   obtain⟨Z,h1,h2,hH,h3⟩:=abO hr
   rw[← h1]
   have none_:∀ i,i<ops.size→(Array.replicate ops.size false).getD i true=false:=fun i hi=>by simp[Array.getD,hi]
   refine aaX hc I ops.size _ Z a (by simp) (fun j o hj hl=>?_) (Nat.le_trans (List.length_filter_le _ _) (by simp)) ?_ fun Y a' g1 g2 g3=>⟨rfl,hq Y a' (h2.trans g2) ((hH.trans g3).pevo _) g1⟩
   ·have:j<ops.size:=by have:=(List.getElem?_eq_some_iff.1 hj).1;simpa using this
    rw[none_ j this] at hl;cases hl
   ·have:app (fun i=>(Array.replicate ops.size false).getD i true) 0 ps s=s:=by
     rw[DM (S':=fun _=>false) ps 0 s fun k hk=>by rw[Nat.zero_add,none_ k (by omega)]]
     exact yh _ ps 0 s fun _ _=>rfl
    rw[this];exact h3
theorem gK:∀ {j:Nat} {c:Code},(∀ q∈aD j c,∀ L,E.lps.lookup q.1=some L→cl P E.gl q.2 L)→∀ {s:St} {k:Ex→St→Option A},bY E j c s k=some out→∃ x s',k x s'=some out∧qn P E.gl c s x s'
 | j,.skip,lo,s,k,h=>⟨.normal,s,h,rfl,fun X a Q hr hq=>ano (hq X a (.refl X) (.refl _ X) hr)⟩
 | j,.region id ops draw,lo,s,k,h=>by
  obtain⟨s',h1,h2⟩:=alm T fns hm (id:=id) (by simpa[bY] using h)
  exact⟨.normal,s',h1,(Conv.closeR E id s).csem h2⟩
 | j,.seq c d,lo,s,k,h=>by
  simp only[bY] at h
  obtain⟨x,s1,h1,hm1,h2⟩:=gK (fun q hq=>lo q (by simp only[aD,List.mem_append];exact .inl hq)) h
  have other:∀ (y:Ex),y≠.normal→x=y→k y s1=some out→∃ x s',k x s'=some out∧qn P E.gl (.seq c d) s x s':=fun y hy hx hk=>
   ⟨y,s1,hk,hm1,fun X a Q hr hq=>Ye (h2 X a _ hr fun Y a' W V R=>by subst hx;have:=hq Y a' W V R;cases x<;>first|exact absurd rfl hy|exact this)⟩
  cases x with
  | normal=>
   obtain⟨y,s2,h3,hm2,h4⟩:=gK (c:=d) (fun q hq=>lo q (by simp only[aD,List.mem_append];exact .inr hq)) (s:=s1) h1
   exact⟨y,s2,h3,hm2.trans hm1,fun X a Q hr hq=>Ye (h2 X a _ hr fun Y a' W V R=>h4 Y a' Q R fun Z b WZ VZ RZ=>hq Z b (W.trans WZ) (V.trans (hm1▸VZ)) RZ)⟩
  | exit id=>exact other (.exit id) (by simp) rfl h1
  | ret=>exact other .ret (by simp) rfl h1
 | j,.cond c d e,lo,s,k,h=>by
  simp only[bY] at h
  split at h
  ·rename_i t
   split at h
   ·rename_i q hq
    have ev:∀ {X:Cx} {a:Act},Rel E.gl X s a→a.eval (.tmp t)=.bool q:=fun {X a} hr=>by
     have:=hr.eval t
     rw[List.getD_eq_getElem?_getD,hq,Option.getD_some,RS.bool] at this
     exact this
    cases q with
    | true=>
     simp only[cond_true,St.put_same hq] at h
     obtain⟨x,s1,h1,hm1,h2⟩:=gK (c:=d) (fun q hq=>lo q (by simp only[aD,List.mem_append];exact .inl hq)) (s:=s) h
     exact⟨x,s1,h1,hm1,fun X a Q hr hq=>Yd (ev hr) (h2 X a Q hr hq)⟩
    | false=>
     simp only[cond_false,St.put_same hq] at h
     obtain⟨x,s1,h1,hm1,h2⟩:=gK (c:=e) (fun q hq=>lo q (by simp only[aD,List.mem_append];exact .inr hq)) (s:=s) h
     exact⟨x,s1,h1,hm1,fun X a Q hr hq=>Yc (ev hr) (h2 X a Q hr hq)⟩
   ·cases h
  ·rename_i q
   cases q with
   | true=>
    obtain⟨x,s1,h1,hm1,h2⟩:=gK (c:=d) (fun q hq=>lo q (by simp only[aD,List.mem_append];exact .inl hq)) (s:=s) h
    exact⟨x,s1,h1,hm1,fun X a Q hr hq=>Yd rfl (h2 X a Q hr hq)⟩
   | false=>
    obtain⟨x,s1,h1,hm1,h2⟩:=gK (c:=e) (fun q hq=>lo q (by simp only[aD,List.mem_append];exact .inr hq)) (s:=s) h
    exact⟨x,s1,h1,hm1,fun X a Q hr hq=>Yc rfl (h2 X a Q hr hq)⟩
  ·cases h
 | j,.block id c,lo,s,k,h=>by
  simp only[bY] at h
  obtain⟨x,s1,h1,hm1,h2⟩:=gK (c:=c) (fun q hq=>lo q (by simpa only[aD] using hq)) h
  cases x with
  | normal=>exact⟨.normal,s1,h1,hm1,fun X a Q hr hq=>Dl (h2 X a _ hr hq)⟩
  | exit j=>
   simp only[PC] at h1
   split at h1
   ·rename_i hj
    exact⟨.normal,s1,h1,hm1,fun X a Q hr hq=>Dl (h2 X a _ hr fun Y a' W V R=>by simp only[Ex.out,Exit.inBlock,hj,if_true];exact hq Y a' W V R)⟩
   ·rename_i hj
    exact⟨.exit j,s1,h1,hm1,fun X a Q hr hq=>Dl (h2 X a _ hr fun Y a' W V R=>by simp only[Ex.out,Exit.inBlock,hj,if_false];exact hq Y a' W V R)⟩
  | ret=>exact⟨.ret,s1,h1,hm1,fun X a Q hr hq=>Dl (h2 X a _ hr hq)⟩
 | j,.loop c,lo,s,k,h=>by
  simp only[bY] at h
  split at h
  ·rename_i L hL
   obtain⟨s1,h,cv⟩:=D4 h
   obtain⟨x,s',h1,h2⟩:=lo (j,c) (by simp[aD]) L hL _ _ _ h
   exact⟨x,s',h1,cv.csem h2⟩
  ·cases h
 | j,.exit id,lo,s,k,h=>⟨.exit id,s,h,rfl,fun X a Q hr hq=>ani (hq X a (.refl X) (.refl _ X) hr)⟩
 | j,.ret,lo,s,k,h=>⟨.ret,s,h,rfl,fun X a Q hr hq=>anm (hq X a (.refl X) (.refl _ X) hr)⟩
 | j,.label l,lo,s,k,h=>⟨.normal,s,h,rfl,fun X a Q hr hq=>anj (hq X a (.refl X) (.refl _ X) hr)⟩
 | _,.goto _,_,_,_,h=>by cases h
 | j,.scope c,lo,s,k,h=>by
  simp only[bY] at h
  obtain⟨x,s1,h1,hm1,h2⟩:=gK (c:=c) (fun q hq=>lo q (by simpa only[aD] using hq)) h
  exact⟨x,s1,h1,hm1,fun X a Q hr hq=>ann (h2 X a _ hr fun Y a' W V R=>by cases x<;>exact hq Y a' W V R)⟩
theorem MO{j:Nat}{c:Code}(lo:∀ q∈aD j c,∀ L,E.lps.lookup q.1=some L→cl P E.gl q.2 L)(dead xdead:List Nat){k:Ex→St→Option A}:∀ (f:Nat) (s:St),gd (bY E j c) dead xdead f s k=some out→∃ x s',k x s'=some out∧Of P E.gl c f s x s':=by
 intro f
 induction f with
 | zero=>intro s h;cases h
 | succ f ih=>
  intro s h
  simp only[gd] at h
  obtain⟨x,s1,h1,hm1,h2⟩:=gK T fns hm lo h
  have other:x≠.normal→rW xdead s1 (fun s'=>k x s')=some out→∃ x s',k x s'=some out∧Of P E.gl c (f+1) s x s':=fun hy hk=>by
   obtain⟨s2,hk,cv⟩:=D4 hk
   exact⟨x,s2,hk,cv.1.trans hm1,fun X a Q hr hq=>by
    refine h2 X a _ hr fun Y a' W V R=>?_
    obtain⟨Z,g1,g2,gp,g3⟩:=cv.2 _ Y a' R
    have:=hq Z a' (W.trans g2) (V.trans (hm1▸gp)) g3
    rw[g1] at this
    cases x<;>first|exact absurd rfl hy|exact this⟩
  cases x with
  | normal=>
   obtain⟨sc,h1,cv⟩:=D4 h1
   obtain⟨y,s2,h3,hm2,h4⟩:=ih _ h1
   refine⟨y,s2,h3,hm2.trans (cv.1.trans hm1),fun X a Q hr hq=>?_⟩
   refine h2 X a _ hr fun Y a' W V R=>?_
   obtain⟨Z,g1,g2,gp,g3⟩:=cv.2 _ Y a' R
   show tu P c Q f a' Y.w
   rw[← g1]
   have gp':PEvo s.m Y Z:=hm1▸gp
   exact h4 Z a' Q g3 fun U b WV PV RV=>hq U b ((W.trans g2).trans WV) ((V.trans gp').trans ((cv.1.trans hm1)▸PV)) RV
  | exit id=>exact other (by simp) h1
  | ret=>exact other (by simp) h1
theorem cl.of{j n:Nat}{c:Code}(lo:∀ q∈aD j c,∀ L,E.lps.lookup q.1=some L→cl P E.gl q.2 L){dead xdead:List Nat}{S:Shape}{g:S.den→(Ex→St→Option A)→Option A}(h:∀ d k,gd (bY E j c) dead xdead n (S.fill d) k=g d k):cl P E.gl c (CG dead S g):=by
 intro s k out hr
 simp only[CG] at hr
 split at hr
 ·rename_i hm0
  split at hr
  ·rename_i x y hx hy
   have hs:s=S.fill (x,y):=by
    obtain⟨tm,hp,m⟩:=s
    simp only at hx hy hm0
    subst hm0
    rw[wz hx,rU hy]
    rfl
   rw[← h] at hr
   obtain⟨x',s',h1,hm1,h2⟩:=MO T fns hm lo dead xdead n _ hr
   rw[← hs] at hm1 h2
   exact⟨x',s',h1,hm1,fun X a Q hr hq=>NV n (h2 X a Q hr hq)⟩
  ·cases hr
 ·cases hr
end
theorem VE{hp:List Blk}{id:Nat}{b:Blk}(h:(hp.zipIdx.map fun q=>(q.2,q.1)).lookup id=some b):hp[id]?=some b:=by
 obtain⟨l1,l2,h1,_⟩:=List.lookup_eq_some_iff.1 h
 have:(id,b)∈hp.zipIdx.map fun q=>(q.2,q.1):=by rw[h1];simp
 rw[List.mem_map] at this
 obtain⟨q,hq,e⟩:=this
 rw[List.mem_zipIdx_iff_getElem?] at hq
 cases e;exact hq
theorem aki{hp:List Blk}{out:A}{id:Nat}{k:Blk→Option A}(h:look (hp.zipIdx.map fun q=>(q.2,q.1)) id k=some out):∃ b,hp[id]?=some b∧k b=some out:=by
 obtain⟨b,hb,h⟩:=b9 h
 exact⟨b,VE hb,h⟩
theorem akf{out:A}{hp:List Blk}{a:AV}{k:AV→Option A}(h:pZ (hp.zipIdx.map fun q=>(q.2,q.1)) a k=some out) :
  ∃ y,k y=some out∧∀ (X:Cx) (u:Value),X.hp=hp→Ok X→RS X a u→∃ ad cs,u=.pointer (some ad)∧RA X y cs∧∀ j v,cs[j]?=some v→X.w.cell? (ad.add j)=some v:=by
 unfold pZ at h
 split at h
 ·rename_i K x
  refine⟨_,h,fun X u hX ok h1=>?_⟩
  obtain⟨ad,cs,h2,_,h3,h4⟩:=(RS.one (by simp) (by simp) (by simp) (by simp)).1 h1
  exact⟨ad,cs,h2,h3,h4⟩
 ·rename_i K o'
  obtain⟨x,rfl,h⟩:=Option.bind_eq_some_iff.1 h
  refine⟨_,h,fun X u hX ok h1=>?_⟩
  rcases(RS.one (by simp) (by simp) (by simp) (by simp)).1 h1 with ⟨h2,_⟩|⟨z,hz,ad,cs,h2,_,h3,h4⟩
  ·cases h2
  ·cases hz
   exact⟨ad,cs,h2,h3,h4⟩
 ·rename_i id path
  obtain⟨B,hB,h⟩:=aki h
  split at h
  ·rename_i t' K av
   obtain⟨y,h,hs⟩:=jT h
   refine⟨_,h,fun X u hX ok h1=>?_⟩
   rw[← hX] at hB
   obtain⟨b,off,K',h2,h3,h4⟩:=(jt hB).1 ((RS.one (by simp) (by simp) (by simp) (by simp)).1 h1)
   obtain⟨hfv,b',cs,h5,h6,h7⟩:=ok.blk _ _ hB
   rw[h2] at h5;cases h5
   obtain⟨off',K'',h8,_,h9⟩:=hs hfv h7
   rw[h3] at h8;cases h8
   refine⟨_,_,h4,h9,fun j u hj=>?_⟩
   rw[add_lit,cell_of_row _ _ _ _ _ _ h6]
   simpa using ja hj
  ·rename_i t' K xs
   split at h
   ·rename_i i0 r _
    obtain⟨y0,hy0,h⟩:=Option.bind_eq_some_iff.1 h
    obtain⟨K',y,h,hs⟩:=pS h
    refine⟨_,h,fun X u hX ok h1=>?_⟩
    rw[← hX] at hB
    obtain⟨b,i',r',off,K1,hp,hlt,h2,h3,h4⟩:=(ng hB).1 ((RS.one (by simp) (by simp) (by simp) (by simp)).1 h1)
    simp only[List.cons.injEq,Hop.idx.injEq] at hp
    obtain⟨rfl,rfl⟩:=hp
    obtain⟨cur,cap,css,h5,h6,h7,_,h8,h9,h10⟩:=qe (ok.blk _ _ hB) h2
    obtain⟨cs,h11,h12⟩:=yD h8 h10 hy0
    obtain⟨off',h13,h14⟩:=hs h11
    rw[h3] at h13;cases h13
    refine⟨_,_,h4,(show RA X (.p K' y) _ from h14),fun j u hj=>?_⟩
    have:=h12 _ _ (ja hj)
    rw[add_lit,add_lit] at this
    rw[add_lit,show i0*K.size+off+j=0+i0*K.size+(off+j) by omega]
    exact this
   ·cases h
  ·cases h
 ·cases h
def NQ:List Value→Value
 | [v]=>v
 | vs=>.tuple vs.toArray
def tr(tmps:Array Value):ResultVar→Sem Value
 | .tmp t=>pure (tmps.getD t undef)
 | .cell a t=>do loadVar t (← asAddr (tmps.getD a undef))
theorem alp{P:Program}{fn:Func}{tmps:Array Value}{w:World}{us:List Value}(h:(fn.results.toList.mapM (tr tmps)).run P w=.ok us w) :
  (results fn tmps).run P w=.ok (NQ us) w:=by
 have hg:∀ g:ResultVar→Sem Value,(∀ x,g x=tr tmps x)→(fn.results.toList.mapM g).run P w=.ok us w:=fun g hg=>by rw[show g=tr tmps from funext hg];exact h
 unfold results
 simp only[Array.mapM_eq_mapM_toList,Sem.run_bind,Sem.run_map]
 rw[hg _ (fun x=>by cases x<;>rfl)]
 simp only[Result.andThen_ok,Sem.run_pure]
 match us with
 | []=>rfl
 | [t]=>rfl
 | _::_::_=>rfl
theorem Nk{P:Program}{E:Env A}(T:aO P E){out:A}{s:St}:∀ {rs:List ResultVar} {k:List AV→Option A},qc E s rs k=some out→
  ∃ vs,k vs=some out∧∀ (X:Cx) (a:Act),Rel E.gl X s a→∃ us,(rs.mapM (tr a.tmps)).run P X.w=.ok us X.w∧All2 (RS X) vs us
 | [],k,h=>⟨[],h,fun X a _=>⟨[],by simp,.nil⟩⟩
 | .tmp t::r,k,h=>by
  simp only[qc] at h
  obtain⟨vs,h,h2⟩:=Nk T h
  refine⟨_,h,fun X a R=>?_⟩
  obtain⟨us,h3,h4⟩:=h2 X a R
  refine⟨a.tmps.getD t undef::us,?_,.cons (R.eval t) h4⟩
  simp only[List.mapM_cons,Sem.run_bind,tr,Sem.run_pure,Result.andThen_ok]
  rw[h3];rfl
 | .cell t ty::r,k,h=>by
  simp only[qc] at h
  obtain⟨y,h,hl⟩:=akf h
  obtain⟨i,hi,h⟩:=bq h
  split at h
  ·rename_i hf
   obtain⟨vs,h,h2⟩:=Nk T h
   refine⟨_,h,fun X a R=>?_⟩
   obtain⟨us,h3,h4⟩:=h2 X a R
   obtain⟨ad,cs,g1,g2,g3⟩:=hl X _ R.hp R.ok (R.eval t)
   obtain⟨v,g4,g5⟩:=v5 T hi hf g2 g3
   refine⟨v::us,?_,.cons (RS.of0 g5 (ji hf)) h4⟩
   have g1:a.tmps.getD t undef=.pointer (some ad):=g1
   simp only[List.mapM_cons,Sem.run_bind,tr,g1]
   simp only[asAddr,Sem.run_pure,Result.andThen_ok,g4]
   rw[h3];rfl
  ·cases h
inductive Given(X:Cx):List RMode→List AV→List AV→Prop where
 | nil:Given X [] [] []
 | pure {v:AV} {ms:List RMode} {vs rs:List AV} {K:Kind} {x:K.den} (h:∀ {F:Nat→Prop} {cs:List Value},(∀ b,X.F b→F b)→(∀ b,X.Held v.ids b→F b)→RA X v cs→RP F X.w K x cs∧v.agg=K.isAgg)
   (hn:v.isAny=false) (ht:v.isTup=false) (r:Given X ms vs rs):Given X (.pure::ms) (v::vs) (.p K x::rs)
 | own {v:AV} {ms:List RMode} {vs rs:List AV} (ht:v.isTup=false) (r:Given X ms vs rs):Given X (.own::ms) (v::vs) (v::rs)
theorem Mt{out:A}{hp:List Blk}:∀ {ms:List RMode} {vs:List AV} {k:List AV→Option A},pT (hp.zipIdx.map fun q=>(q.2,q.1)) ms vs k=some out→
  ∃ rs,k rs=some out∧∀ X:Cx,X.hp=hp→Ok X→Given X ms vs rs
 | [],[],k,h=>⟨[],h,fun _ _ _=>.nil⟩
 | .pure::ms,v::vs,k,h=>by
  simp only[pT] at h
  have h0:=h
  obtain⟨K,x,h,_,h1⟩:=tn h
  obtain⟨rs,h,h2⟩:=Mt h
  refine⟨_,h,fun X hX ok=>.pure (fun {F cs} hF hH hr=>h1 ok (fun id b hb=>by rw[hX];exact VE hb) hF hH hr) ?_ ?_ (h2 X hX ok)⟩
  ·cases v<;>first|rfl|(simp[cW] at h0)
  ·cases v<;>first|rfl|(simp[cW] at h0)
 | .own::ms,v::vs,k,h=>by
  simp only[pT] at h
  split at h
  ·cases h
  ·rename_i ht
   obtain⟨rs,h,h2⟩:=Mt h
   exact⟨_,h,fun X hX ok=>.own (by simpa using ht) (h2 X hX ok)⟩
 | [],_::_,k,h=>by cases h
 | .pure::_,[],k,h=>by cases h
 | .own::_,[],k,h=>by cases h
theorem Cp{X Z:Cx}{f:Nat→Option Nat}(EM:Emb X Z f true){G:List Nat}(hF:Z.F=fun b=>X.F b∨X.Held G b):∀ {ms:List RMode} {vs rs:List AV},Given X ms vs rs→(∀ x∈iK ms vs,x∈G)→∀ {us:List Value},All2 (RS X) vs us→
  All2 (aE Z) (rs.map fun v=>v.ren1 f) us
 | _,_,_,.nil,_,us,h=>by cases h;exact .nil
 | _,_,_,@Given.pure _ v ms vs rs K x h hn ht r,hG,us,hr=>by
  cases hr with
  | @cons _ u _ us h1 hr=>
   have htup:∀ ws,v≠AV.tup ws:=fun ws e=>by rw[e] at ht;cases ht
   refine .cons ?_ (Cp EM hF r (fun x hx=>hG x (by simp only[iK,List.mem_append];exact .inr hx)) hr)
   rcases h1.to0 htup with h3|⟨cs,h3,h4⟩
   ·rw[hn] at h3;cases h3
   ·obtain⟨g1,g2⟩:=h (F:=Z.F) (fun b hb=>by rw[hF];exact .inl hb) (fun b hb=>by
     rw[hF];right
     obtain⟨id,hid,r⟩:=hb
     exact⟨id,hG id (by simp only[iK,List.mem_append];exact .inl hid),r⟩) h3
    refine .inr ⟨cs,?_,?_⟩
    ·show RP Z.F Z.w _ _ _
     rw[EM.w];exact g1
    ·rw[g2] at h4;exact h4
 | _,_,_,@Given.own _ v ms vs rs ht r,hG,us,hr=>by
  cases hr with
  | @cons _ u _ us h1 hr=>
   have htup:∀ ws,v≠AV.tup ws:=fun ws e=>by rw[e] at ht;cases ht
   exact .cons (aE.emb EM (fun _=>rfl) (h1.to0 htup)) (Cp EM hF r (fun x hx=>hG x (by simpa[iK] using hx)) hr)
theorem Given.noTup{X:Cx}:∀ {ms:List RMode} {vs rs:List AV},Given X ms vs rs→∀ v∈rs,v.isTup=false
 | _,_,_,.nil,v,h=>by cases h
 | _,_,_,.pure _ _ _ r,v,h=>by rcases List.mem_cons.1 h with rfl|h;rfl;exact r.noTup v h
 | _,_,_,.own ht r,v,h=>by rcases List.mem_cons.1 h with rfl|h;exact ht;exact r.noTup v h
theorem WG{v:AV}{f:Nat→Option Nat}(h:v.isTup=false):∀ ws,v.ren1 f≠.tup ws:=by
 intro ws e
 cases v<;>first|(cases h;done)|(simp only[AV.ren1] at e;split at e<;>cases e;done)|(cases e;done)
theorem Qz{P:Program}{E:Env A}(T:aO P E){fn:Func}{rm:List RMode}{k:AV→List Blk→Option A}{out:A}{x:Ex}{s':St}
  :∀ (h:(qc E s' fn.results.toList fun vs=>pT (s'.hp.zipIdx.map fun q=>(q.2,q.1)) rm vs fun rs=>
   let l:=dg (dZ s'.hp) 1000 ((List.range s'.m).flatMap (dZ s'.hp)++rs.flatMap AV.ids) (List.range s'.m)
   bif dJ (iK rm vs) l&&(l.take s'.m==List.range s'.m) then k (tB (rs.map fun v=>v.ren1 (aG l))) (l.map fun id=>(s'.hp.getD id .gone).ren (aG l)) else none)=some out),
   (x.out=.normal∨x.out=.ret)→∃ (r:AV) (hp:List Blk) (vs rs:List AV) (l:List Nat),k r hp=some out∧(x.out=.normal∨x.out=.ret)∧(∀ (X:Cx) (a:Act),Rel E.gl X s' a→∃ us,(results fn a.tmps).run P X.w=.ok (NQ us) X.w∧All2 (RS X) vs us)∧(∀ X:Cx,X.hp=s'.hp→Ok X→Given X rm vs rs)∧
    l.Nodup∧(∀ y∈iK rm vs,y ∉ l)∧(l.take s'.m==List.range s'.m)=true∧r=tB (rs.map fun v=>v.ren1 (aG l))∧hp=l.map fun id=>(s'.hp.getD id .gone).ren (aG l) :=by
 intro h hx
 obtain⟨vs,h,hts⟩:=Nk T h
 obtain⟨rs,h,hg⟩:=Mt h
 have hnd:(dg (dZ s'.hp) 1000 ((List.range s'.m).flatMap (dZ s'.hp)++rs.flatMap AV.ids) (List.range s'.m)).Nodup:=nM _ _ _ _ List.nodup_range
 simp only at h
 generalize dg (dZ s'.hp) 1000 ((List.range s'.m).flatMap (dZ s'.hp)++rs.flatMap AV.ids) (List.range s'.m)=l at h hnd
 cases hd:dJ (iK rm vs) l&&(l.take s'.m==List.range s'.m) with
 | false=>rw[hd] at h;cases h
 | true=>
  rw[hd] at h
  rw[Bool.and_eq_true] at hd
  exact⟨_,_,vs,rs,l,h,hx,fun X a R=>(hts X a R).imp fun us h=>⟨alp h.1,h.2⟩,hg,hnd,yC hd.1,hd.2,rfl,rfl⟩
theorem QA{P:Program}{E:Env A}(T:aO P E){fn:Func}{rm:List RMode}{k:AV→List Blk→Option A}{out:A}{x:Ex}{s':St}(h:nR E fn rm k x s'=some out) :
  ∃ (r:AV) (hp:List Blk) (vs rs:List AV) (l:List Nat),k r hp=some out∧(x.out=.normal∨x.out=.ret)∧(∀ (X:Cx) (a:Act),Rel E.gl X (E.closeEnd fn s') a→∃ us,(results fn a.tmps).run P X.w=.ok (NQ us) X.w∧All2 (RS X) vs us)∧(∀ X:Cx,X.hp=(E.closeEnd fn s').hp→Ok X→Given X rm vs rs)∧
    l.Nodup∧(∀ y∈iK rm vs,y ∉ l)∧(l.take (E.closeEnd fn s').m==List.range (E.closeEnd fn s').m)=true∧r=tB (rs.map fun v=>v.ren1 (aG l))∧hp=l.map fun id=>((E.closeEnd fn s').hp.getD id .gone).ren (aG l):=by
 cases x with
 | normal=>exact Qz T h (.inl rfl)
 | ret=>exact Qz T h (.inr rfl)
 | exit j=>cases h
structure Body(P:Program)(f:FuncId)(fn:Func):Prop where
 get:P.funcs[f]?=some fn
 name:(fn.name== "runtime.NumGoroutine")=false
theorem All2.map_left{α β γ:Type}{R:α→β→Prop}{S:γ→β→Prop}{f:α→γ}{as:List α}{bs:List β}(h:All2 R as bs)(hf:∀ a b,R a b→S (f a) b):All2 S (as.map f) bs:=by
 induction h with
 | nil=>exact .nil
 | cons h1 _ ih=>exact .cons (hf _ _ h1) ih
theorem amB(mvs:List Nat)(args:List AV)(hp:List Blk)(n:Nat):(wF mvs args hp n).m=hp.length:=by cases mvs<;>rfl
theorem amC{P:Program}{gl:GL}(mvs:List Nat){X:Cx}{hp0:List Blk}(hX:X.hp=hp0)(okX:Ok X)(hglo:d7 gl X){args:List AV}{vals:Array Value}(hargs:All2 (RS X) args vals.toList)(hnd:(j6 mvs hp0.length).Nodup)(n:Nat) :
  ∃ Z:Cx,Z.w=X.w∧WEvo X Z∧PEvo hp0.length X Z∧Rel gl Z (wF mvs args hp0 n) { tmps:=vals++Array.replicate (n-vals.size) undef,defers:=[] }:=by
 have hlen:args.length=vals.size:=by simpa using hargs.length
 have slots:∀ (Z:Cx) (args':List AV),args'.length=args.length→All2 (RS Z) args' vals.toList→∀ (i:Nat) (av:AV),(args'++List.replicate (n-args.length) .any)[i]?=some av→∃ v,(vals++Array.replicate (n-vals.size) undef)[i]?=some v∧RS Z av v:=fun Z args' hl' ha i av hi=>by
  rw[List.getElem?_append] at hi
  split at hi
  ·rename_i hlt
   obtain⟨v,h1,h2⟩:=ha.get hi
   refine⟨v,?_,h2⟩
   rw[Array.getElem?_append_left (by omega)]
   rw[← Array.getElem?_toList];exact h1
  ·rename_i hlt
   rw[List.getElem?_replicate] at hi
   split at hi
   ·rename_i h2
    cases hi
    refine⟨undef,?_,RS.any _⟩
    rw[Array.getElem?_append_right (by omega),Array.getElem?_replicate,if_pos (by omega)]
   ·cases hi
 subst hX
 match mvs,hnd with
 | [],_=>exact⟨X,rfl,WEvo.refl X,PEvo.refl _ X,⟨hglo,rfl,by simp[wF,hlen],fun i av hi=>slots X args rfl hargs i av hi,rfl,okX⟩⟩
 | q::r,hnd=>
  have W0:WEvo X ⟨fun i=>if X.hp.length≤i∧i<X.hp.length+X.hp.length then X.ρ (i-X.hp.length) else X.ρ i,X.hp,X.F,X.w⟩:=by
   have own:∀ b,Cx.Own ⟨fun i=>if X.hp.length≤i∧i<X.hp.length+X.hp.length then X.ρ (i-X.hp.length) else X.ρ i,X.hp,X.F,X.w⟩ b→X.Own b:=fun b ⟨id,blk,h1,h3⟩=>by
    have hlt:id<X.hp.length:=(List.getElem?_eq_some_iff.1 h1).1
    simp only at h1 h3
    rw[if_neg (by omega)] at h3
    exact⟨id,blk,h1,h3⟩
   exact⟨rfl,rfl,rfl,Nat.le_refl _,fun _ c _ _ h=>⟨c,h,rfl⟩,fun _ _ _=>rfl,fun b _ ho=>own b ho,fun _ h=>h,fun _ h=>.inl h⟩
  have H0:HEvo X ⟨fun i=>if X.hp.length≤i∧i<X.hp.length+X.hp.length then X.ρ (i-X.hp.length) else X.ρ i,X.hp,X.F,X.w⟩:=by
   refine⟨fun id b h hb=>⟨b,h,.refl hb⟩,fun id b h _=>?_⟩
   have hlt:id<X.hp.length:=(List.getElem?_eq_some_iff.1 h).1
   simp only
   rw[if_neg (by omega)];exact .rfl
  have ok0:Ok ⟨fun i=>if X.hp.length≤i∧i<X.hp.length+X.hp.length then X.ρ (i-X.hp.length) else X.ρ i,X.hp,X.F,X.w⟩:=by
   refine⟨fun id b hb=>?_,fun id id' b c c' h1 h3 h5 h6=>?_,fun b hb=>⟨(okX.fo b hb).1,fun ho=>?_⟩⟩
   ·have hlt:id<X.hp.length:=(List.getElem?_eq_some_iff.1 hb).1
    refine(okX.blk id b hb).evo W0 H0 okX.fo ?_ (fun _ _=>rfl)
    simp only
    rw[if_neg (by omega)]
   ·have hlt:id<X.hp.length:=(List.getElem?_eq_some_iff.1 h1).1
    have hlt':id'<X.hp.length:=(List.getElem?_eq_some_iff.1 h3).1
    simp only at h1 h3 h5 h6
    rw[if_neg (by omega)] at h5 h6
    exact okX.inj id id' b c c' h1 h3 h5 h6
   ·exact(okX.fo b hb).2 (W0.own b (okX.fo b hb).1 ho)
  obtain⟨Z,h1,h2,h3,h4,h5,h6,h7⟩:=Dd (X:=⟨fun i=>if X.hp.length≤i∧i<X.hp.length+X.hp.length then X.ρ (i-X.hp.length) else X.ρ i,X.hp,X.F,X.w⟩) rfl ok0 hnd (G:=[]) (by simp)
  have hat:∀ i,i<X.hp.length→(j6 (q::r) X.hp.length)[i]?=some (bif (q::r).contains i then X.hp.length+i else i):=fun i hi=>by
   unfold j6
   rw[List.getElem?_append_left (by simpa using hi),List.getElem?_map,List.getElem?_range hi];rfl
  refine⟨Z,h1,W0.trans h5,⟨fun id b hm hb hn=>?_,fun id b hm hb hn=>?_⟩,⟨(hglo.evo W0 okX.fo).evo h5 ok0.fo,rfl,by simp[wF,hlen],fun i av hi=>slots Z (args.map fun v:AV=>AV.ren (aG (j6 (q::r) X.hp.length)) v) (List.length_map ..) ?_ i av hi,h2,h4⟩⟩
  ·rw[h2,List.getElem?_map,hat id hm,Option.map_some]
   refine⟨_,rfl,?_⟩
   cases hc:(q::r).contains id with
   | true=>
    rw[cond_true,List.getD_eq_getElem?_getD,List.getElem?_eq_none (by show X.hp.length≤_;omega)]
    exact .gone _
   | false=>
    rw[cond_false,List.getD_eq_getElem?_getD,hb]
    simp only[Option.getD_some]
    cases b with
    | var t K v=>exact .var ..
    | row e K xs=>exact .row _ _ _ _ rfl
    | map KK KV es=>exact .map ..
    | ment KK KV es x g=>exact .me ..
    | stp=>exact .gone _
    | ob t K o xs oh=>exact .ob _ _ _ _ _ _ _ rfl
    | gone=>exact .gone _
    | free=>exact absurd rfl hn
  ·have:Z.ρ id=X.ρ id:=by
    rw[h7,hat id hm,Option.bind_some]
    simp only
    cases hc:(q::r).contains id with
    | true=>rw[cond_true,if_pos (by omega)];congr 1;omega
    | false=>rw[cond_false,if_neg (by omega)]
   rw[this];exact .rfl
  ·exact hargs.map_left fun v u hu=>RS.emb h6 (fun _=>rfl) (hu.evo W0 H0 okX.fo)
theorem ajD{P:Program}{E:Env A}(T:aO P E)(fns:cS P E)(hm:P.follows .mixedOrders=true){f:FuncId}{fn:Func}(B:P.funcs[f]?=some fn)(lo:∀ c,fn.body=some c→∀ q∈aD 0 c,∀ L,E.lps.lookup q.1=some L→cl P E.gl q.2 L){rm:List RMode}{args:List AV}{hp0:List Blk}{k:AV→List Blk→Option A}{out:A}(h:fY E fn rm args hp0 k=some out):∃ r hp,k r hp=some out∧(fn.body.isSome=true)∧∀ (X:Cx) (vals:Array Value),X.hp=hp0→Ok X→d7 E.gl X→All2 (RS X) args vals.toList→
   Calls P f vals X.w fun e w'=>∃ u,e=.returned u∧∃ Y:Cx,Y.w=w'∧Y.hp=hp∧RS Y r u∧Ok Y∧WEvo X Y∧PEvo hp0.length X Y:=by
 unfold fY at h
 split at h
 ·rename_i c hc
  cases hnd0:(decide (j6 E.mvs hp0.length).Nodup) with
  | false=>rw[hnd0] at h;cases h
  | true=>
  rw[hnd0,cond_true] at h
  obtain⟨x,s',h,hsm,hsem⟩:=gK T fns hm (lo c hc) h
  rw[amB] at hsm hsem
  obtain⟨r,hp,vs,rs,l,hk,hx,hts,hgiven,hnd,hdis,hpin,rfl,rfl⟩:=QA T h
  refine⟨_,_,hk,by rw[hc];rfl,fun X vals hX okX hglo hargs=>?_⟩
  have hlen:args.length=vals.size:=by simpa using hargs.length
  obtain⟨Z0,zw,zW,zP,R0⟩:=amC (P:=P) (gl:=E.gl) E.mvs hX okX hglo hargs (of_decide_eq_true hnd0) fn.ntmps
  rw[← zw]
  refine calls_of_wp B hc (hsem Z0 _ (bodyPost P fn _) R0 fun Y0 a' W V R=>?_).1
  obtain⟨Y,y1,y2,y3,R⟩:=(Conv.closeEnd E fn s').2 _ Y0 a' R
  rw[← y1]
  have W:=(zW.trans W).trans y2
  have V:=(zP.trans V).trans (hsm▸y3)
  obtain⟨Z,z1,z2,z3,z4,z5,z6⟩:=Dc R.hp R.ok hnd hdis
  obtain⟨us,hrun,hus⟩:=hts Y a' R
  have G:=hgiven Y R.hp R.ok
  have hrs:=Cp z6 z3 G (fun _ h=>h) hus
  have hnt:=G.noTup
  have hpin:(l.take hp0.length==List.range hp0.length)=true:=by simpa only[(Conv.closeEnd E fn s').1,hsm] using hpin
  have fin:bodyPost P fn (fun e w'=>∃ u,e=.returned u∧∃ Y:Cx,Y.w=w'∧Y.hp=(l.map fun id=>((E.closeEnd fn s').hp.getD id .gone).ren (aG l))∧RS Y (tB (rs.map fun v=>v.ren1 (aG l))) u∧Ok Y∧WEvo X Y∧PEvo hp0.length X Y) .normal a' Y.w:=by
   refine⟨R.defers,_,hrun,_,rfl,Z,z1,z2,?_,z4,W.trans z5,V.trans (z6.pevo hnd hpin)⟩
   clear hus hrun
   cases hrs':rs with
   | nil=>rw[hrs'] at hrs;cases hrs;exact⟨#[],rfl,.nil⟩
   | cons v qf=>
    rw[hrs'] at hrs
    cases qf with
    | nil=>
     cases hrs with
     | cons h1 h2=>
      cases h2
      exact RS.of0 h1 (WG (hnt v (by rw[hrs'];simp)))
    | cons v2 rs2=>
     cases hrs with
     | cons h1 h2=>
      cases h2 with
      | cons h2 h3=>
       exact⟨_,rfl,by simpa using All2.cons h1 (.cons h2 h3)⟩
  rcases hx with hx|hx<;>rw[hx]<;>exact fin
 ·cases h
theorem Mp{P:Program}{E:Env A}(T:aO P E)(fns:cS P E)(hm:P.follows .mixedOrders=true){f:FuncId}{fn:Func}(B:Body P f fn)(lo:∀ c,fn.body=some c→∀ q∈aD 0 c,∀ L,E.lps.lookup q.1=some L→cl P E.gl q.2 L){rm:List RMode}{args:List AV}{hp0:List Blk}{k:AV→List Blk→Option A}{out:A}(h:fY E fn rm args hp0 k=some out):∃ r hp,k r hp=some out∧m9 P E.gl f args hp0 r hp:=by
 obtain⟨r,hp,h1,hb,h2⟩:=ajD T fns hm B.get lo h
 refine⟨r,hp,h1,fun X vals hX ok hglo hargs=>?_⟩
 obtain⟨c,hc⟩:=Option.isSome_iff_exists.1 hb
 exact⟨_,X.w,MuLone.run_callFunc_enter B.get B.name hc vals X.w,.inr ⟨rfl,h2 X vals hX ok hglo hargs⟩⟩
theorem aI.ownNone{A:Type}{P:Program}{gl:GL}{f:FuncId}{own:List Bool}{S:Shape}{g:S.den→(AV→List Blk→Option A)→Option A}(h:∀ d k,g d k=none):aI P gl f (ai own S g):=fun args hp0 k out hr=>by
 simp only[ai] at hr
 split at hr
 ·rw[h] at hr;cases hr
 ·cases hr
theorem aI.ofOwn{P:Program}{E:Env A}(T:aO P E)(fns:cS P E)(hm:P.follows .mixedOrders=true){f:FuncId}{fn:Func}(B:Body P f fn)(lo:∀ c,fn.body=some c→∀ q∈aD 0 c,∀ L,E.lps.lookup q.1=some L→cl P E.gl q.2 L){rm:List RMode}{own:List Bool}{S:Shape}{g:S.den→(AV→List Blk→Option A)→Option A}(h:∀ d k,fY E fn rm (ka S.tm d.1) (eQ S.hp d.2) k=g d k):aI P E.gl f (ai own S g):=fun args hp0 k out hr=>by
 simp only[ai] at hr
 split at hr
 ·rename_i x y hx hy
  rw[← h] at hr
  rw[wz hx,rU hy]
  obtain⟨r,hp,h1,h2⟩:=Mp T fns hm B lo hr
  exact⟨r,hp,h1,h2,fun h=>nomatch h⟩
 ·cases hr
theorem aI.ofOwnR{P:Program}{E:Env A}(T:aO P E)(fns:cS P E)(hm:P.follows .mixedOrders=true){f:FuncId}{fn:Func}(B:Body P f fn)(lo:∀ c,fn.body=some c→∀ q∈aD 0 c,∀ L,E.lps.lookup q.1=some L→cl P E.gl q.2 L){rm:List RMode}{own:List Bool}{S:Shape}{g:S.den→(AV→List Blk→Option A)→Option A}(h:∀ d k,fY E fn rm (ka S.tm d.1) (eQ S.hp d.2) k=g d fun r new=>k r (eQ S.hp d.2++new)):aI P E.gl f (cu own S g):=fun args hp0 k out hr=>by
 classical
 simp only[cu] at hr
 split at hr
 ·rename_i x y hx hy
  have ha:=wz hx
  have hb:=rU hy
  subst ha;subst hb
  have e:(g (x,y) fun r new=>k r (eQ S.hp y++new))=fY E fn rm (ka S.tm x) (eQ S.hp y) (fun r hp=>if hp.take (eQ S.hp y).length=eQ S.hp y then k r hp else none):=by
   rw[h (x,y)]
   refine congrArg _ (funext fun r=>funext fun new=>?_)
   simp
  rw[e] at hr
  obtain⟨r,hp,h1,h2⟩:=Mp T fns hm B lo hr
  split at h1
  ·rename_i h3
   exact⟨r,hp,h1,h2,fun _=>h3⟩
  ·cases h1
 ·cases hr
theorem aI.alt{A:Type}{P:Program}{gl:GL}{f:FuncId}{S:List Sh}{e1 e2:Entry A}(h1:aI P gl f e1)(h2:aI P gl f e2):aI P gl f (nC S e1 e2):=fun args hp0 k out hr=>by
 simp only[nC] at hr
 split at hr
 ·obtain⟨r,hp,q1,q2,q3⟩:=h1 args hp0 k out hr
  exact⟨r,hp,q1,q2,fun h=>q3 (by simp only[nC,Bool.and_eq_true] at h;exact h.1)⟩
 ·obtain⟨r,hp,q1,q2,q3⟩:=h2 args hp0 k out hr
  exact⟨r,hp,q1,q2,fun h=>q3 (by simp only[nC,Bool.and_eq_true] at h;exact h.2)⟩
theorem ua{out:A}{args:List AV}{K0:Kind}{g:K0.den→Option A}(h:nD args K0 g=some out):∃ a0,args=[.p K0 a0]∧g a0=some out:=by
 unfold nD at h;split at h
 ·obtain⟨a0,e0,h0⟩:=rP h
  exact⟨a0,by rw[e0],h0⟩
 ·cases h
theorem Pr{out:A}{args:List AV}{K0 K1:Kind}{g:K0.den→K1.den→Option A}(h:rQ args K0 K1 g=some out):∃ a0 a1,args=[.p K0 a0,.p K1 a1]∧g a0 a1=some out:=by
 unfold rQ at h;split at h
 ·obtain⟨a0,e0,h0⟩:=rP h
  obtain⟨a1,e1,h1⟩:=rP h0
  exact⟨a0,a1,by rw[e0,e1],h1⟩
 ·cases h
theorem bz{P:Program}{E:Env A}{aN:List (TypeId×TI)}(he:E.ty=aN)(h:aN.all (ke P aN)=true):aO P E:=fun t i hi=>by
 subst he
 rw[List.all_eq_true] at h
 obtain⟨l1,l2,h1,_⟩:=List.lookup_eq_some_iff.1 hi
 exact h (t,i) (by rw[h1];simp)
def aj(P:Program)(gl:GL)(l:List (FuncId×Entry A)):Prop:=∀ f en,l.lookup f=some en→aI P gl f en
theorem aj.nil{P:Program}{gl:GL}:aj (A:=A) P gl []:=fun _ _ h=>nomatch h
theorem aj.cons{P:Program}{gl:GL}{f:FuncId}{en:Entry A}{l:List (FuncId×Entry A)}(h:aI P gl f en)(r:aj P gl l):aj P gl ((f,en)::l):=fun g e hg=>by
 rw[List.lookup_cons] at hg
 split at hg
 ·rename_i hb;cases hg;rw[eq_of_beq hb];exact h
 ·exact r g e hg
theorem aj.env{P:Program}{gl:GL}{E:Env A}{l:List (FuncId×Entry A)}(he:E.fns=l)(hg:E.gl=gl)(h:aj P gl l):cS P E:=fun f en hf=>by rw[hg];exact h f en (by rw[← he];exact hf)
theorem s8{P:Program}{E:Env A}:∀ q∈([]:List (Nat×Code)),∀ L,E.lps.lookup q.1=some L→cl P E.gl q.2 L:=fun _ h=>nomatch h
theorem ake{P:Program}{E:Env A}{j:Nat}{c:Code}{L0:Loop A}{r:List (Nat×Code)}(hl:E.lps.lookup j=some L0)(h:cl P E.gl c L0)(hr:∀ q∈r,∀ L,E.lps.lookup q.1=some L→cl P E.gl q.2 L) :
  ∀ q∈(j,c)::r,∀ L,E.lps.lookup q.1=some L→cl P E.gl q.2 L:=fun q hq L hL=>by
 rcases List.mem_cons.1 hq with rfl|hq
 ·rw[hl] at hL;cases hL;exact h
 ·exact hr q hq L hL
theorem vZ{P:Program}{E:Env A}{j:Nat}{c:Code}{r:List (Nat×Code)}(he:aD j c=r)(hr:∀ q∈r,∀ L,E.lps.lookup q.1=some L→cl P E.gl q.2 L):∀ q∈aD j c,∀ L,E.lps.lookup q.1=some L→cl P E.gl q.2 L:=by rw[he];exact hr
theorem Vz{P:Program}{E:Env A}{fn:Func}{c0:Code}(hb:fn.body=some c0)(h:∀ q∈aD 0 c0,∀ L,E.lps.lookup q.1=some L→cl P E.gl q.2 L):∀ c,fn.body=some c→∀ q∈aD 0 c,∀ L,E.lps.lookup q.1=some L→cl P E.gl q.2 L:=fun c hc=>by
 rw[hb] at hc;cases hc;exact h
def Kind.noOpq:Kind→Bool
 | .opq=>false
 | .pair a b=>a.noOpq&&b.noOpq
 | .arr _ e=>e.noOpq
 | .sl e=>e.noOpq
 | _=>true
def WF:(K:Kind)→K.den→Prop
 | .int k=>fun(n:Int)=>k.min≤n∧n≤k.max
 | .bool=>fun _=>True
 | .str=>fun(s:ByteArray)=>s.size≤maxLen
 | .opq=>fun _=>True
 | .unit=>fun _=>True
 | .pair a b=>fun(x:a.den×b.den)=>WF a x.1∧WF b x.2
 | .arr n e=>fun(l:List e.den)=>l.length=n∧∀ x∈l,WF e x
 | .sl e=>fun(l:List e.den)=>l.length≤maxLen∧∀ x∈l,WF e x
theorem CJ{α β:Type}{f:α→Option β}:∀ {l:List α} {ys:List β},l.mapM f=some ys→∀ x∈l,∃ y,f x=some y
 | [],_,_,x,hx=>by cases hx
 | a::l,ys,h,x,hx=>by
  simp only[List.mapM_cons,Option.bind_eq_bind,Option.bind_eq_some_iff] at h
  obtain⟨y,hy,zs,hz,_⟩:=h
  rcases List.mem_cons.1 hx with rfl|hx
  ·exact⟨y,hy⟩
  ·exact CJ hz x hx
theorem VM{α β:Type}{f:α→Option β}:∀ {l:List α} {ys:List β},l.mapM f=some ys→ys.length=l.length∧∀ (i:Nat) (x:α),l[i]?=some x→∃ y,ys[i]?=some y∧f x=some y
 | [],ys,h=>by simp at h;subst h;simp
 | a::l,ys,h=>by
  simp only[List.mapM_cons,Option.bind_eq_bind,Option.bind_eq_some_iff] at h
  obtain⟨y,hy,zs,hz,h⟩:=h
  simp at h;subst h
  obtain⟨h1,h2⟩:=VM hz
  refine⟨by simp[h1],fun i x hi=>?_⟩
  cases i with
  | zero=>simp at hi;subst hi;exact⟨y,by simp,hy⟩
  | succ i=>simp at hi;simpa using h2 i x hi
theorem DK{α β γ:Type}{R:α→β→Prop}{g:γ→β}:∀ {is:List γ},(∀ i∈is,∃ x,R x (g i))→∃ xs,All2 R xs (is.map g)
 | [],_=>⟨[],.nil⟩
 | i::is,h=>by
  obtain⟨x,hx⟩:=h i (by simp)
  obtain⟨xs,hxs⟩:=DK (is:=is) fun i hi=>h i (by simp[hi])
  exact⟨x::xs,.cons hx hxs⟩
theorem All2.left{α β:Type}{R:α→β→Prop}{xs:List α}{ys:List β}(h:All2 R xs ys):∀ x∈xs,∃ y∈ys,R x y:=fun x hx=>by
 obtain⟨i,hi⟩:=List.mem_iff_getElem?.1 hx
 obtain⟨y,hy,hr⟩:=h.get hi
 exact⟨y,List.mem_of_getElem? hy,hr⟩
theorem ajB{css:List (List Value)}{m:Nat}(h:∀ c∈css,c.length=m):∀ {j:Nat} {v:Value},css.flatten[j]?=some v→∃ i c o,css[i]?=some c∧o<m∧j=i*m+o∧c[o]?=some v:=by
 induction css with
 | nil=>intro j v h;simp at h
 | cons c css ih=>
  intro j v hj
  have hc:=h c (by simp)
  rw[List.flatten_cons,List.getElem?_append] at hj
  split at hj
  ·rename_i hlt
   exact⟨0,c,j,by simp,by omega,by simp,hj⟩
  ·rename_i hge
   obtain⟨i,d,o,h1,h2,h3,h4⟩:=ih (fun c hc=>h c (by simp[hc])) hj
   exact⟨i+1,d,o,by simpa using h1,h2,by rw[Nat.add_mul];omega,h4⟩
theorem aaV{w:World}{a:Addr}{v:Value}(h:w.cell? a=some v):a.block<w.heap.size:=by
 apply Nat.lt_of_not_le
 intro hle
 unfold World.cell? at h
 rw[Array.getElem?_eq_none hle] at h
 cases h
section
variable{P:Program}{E:Env A}(T:aO P E){H:Type}{cC:TypeId×Value→H}{w:World}{base:Nat}{sp:Nat→Bool}{held:Bool}
include T
theorem Dh:∀ (fuel:Nat) (t:TypeId) (i:TI) (cs:List Value) (z:DataW H×List MemPlace),E.ty.lookup t=some i→i.K.noOpq=true→DataW.trod cC P w base sp held fuel t cs=some z→
  ∃ x:i.K.den,RP (fun b=>b<w.heap.size) w i.K x cs∧WF i.K x
 | 0,_,_,_,_,_,_,h=>by simp[DataW.trod] at h
 | fuel+1,t,i,cs,z,hi,hq,h=>by
  obtain⟨ds,hu,hd⟩:=T.desc hi
  have hcell:=T.cellsOf hi
  obtain⟨K,td,by',cm⟩:=i
  simp only at hd hq hcell ⊢
  unfold DataW.trod at h
  rw[hu] at h
  cases ds with
  | bool=>
   cases td<;>cases K<;>simp at hd
   simp only at h
   split at h<;>try (cases h;done)
   all_goals first|(rename_i heq;cases heq;done)|skip
   rename_i b heq
   exact⟨b,rfl,trivial⟩
  | int k=>
   cases td<;>cases K<;>simp at hd
   subst hd
   simp only at h
   split at h<;>try (cases h;done)
   all_goals first|(rename_i heq;cases heq;done)|skip
   rename_i heq
   cases heq
   split at h
   ·rename_i hw
    obtain⟨rfl,hw⟩:=hw
    simp only[Lit.wf,Bool.and_eq_true,decide_eq_true_eq] at hw
    exact⟨_,rfl,hw⟩
   ·cases h
  | string=>
   cases td<;>cases K<;>simp at hd
   simp only at h
   split at h<;>try (cases h;done)
   all_goals first|(rename_i heq;cases heq;done)|skip
   split at h
   ·rename_i s heq hw
    exact⟨s,rfl,hw⟩
   ·cases h
  | slice e=>
   cases td<;>cases K<;>simp at hd
   rename_i e' Ke
   obtain⟨rfl,hd⟩:=hd
   obtain⟨j,hj,hjK,hpos⟩:∃ j,E.ty.lookup e=some j∧j.K=Ke∧0<Ke.size:=by
    cases h:E.ty.lookup e with
    | none=>rw[h] at hd;simp at hd
    | some j=>rw[h] at hd;simp at hd;exact⟨j,rfl,hd.1.1,hd.1.2⟩
   subst hjK
   simp only at h
   split at h<;>try (cases h;done)
   all_goals first|(rename_i heq;cases heq;done)|skip
   ·exact⟨[],⟨none,0,rfl,Nat.le_refl _,fun h=>absurd h (Nat.lt_irrefl _)⟩,by simp,fun x hx=>by cases hx⟩
   ·rename_i a len cap heq
    cases heq
    split at h
    ·rename_i hc
     obtain⟨_,hlc,hcm⟩:=hc
     obtain⟨elems,he,h⟩:=Option.bind_eq_some_iff.1 h
     rw[T.cellsOf hj] at he
     let g:Nat→List Value:=fun i=>((w.cells? base (a.add (i*j.K.size)) j.K.size).getD [])
     have each:∀ i∈List.range len,∃ x,(RP (fun b=>b<w.heap.size) w j.K x (g i)∧WF j.K x)∧w.cells? base (a.add (i*j.K.size)) j.K.size=some (g i):=fun i hi=>by
      obtain⟨y,hy⟩:=CJ he i hi
      obtain⟨cs,hcs,hy⟩:=Option.bind_eq_some_iff.1 hy
      have hgi:g i=cs:=by simp[g,hcs]
      obtain⟨x,h1,h2⟩:=Dh fuel e j cs y hj hq hy
      exact⟨x,by rw[hgi];exact⟨h1,h2⟩,by rw[hgi];exact hcs⟩
     obtain⟨xs,hxs⟩:=DK (R:=fun x c=>RP (fun b=>b<w.heap.size) w j.K x c∧WF j.K x) (g:=g) fun i hi=>by obtain⟨x,h,_⟩:=each i hi;exact⟨x,h⟩
     have hlen:xs.length=len:=by rw[hxs.length];simp
     have hrp:All2 (RP (fun b=>b<w.heap.size) w j.K) xs ((List.range len).map g):=hxs.imp fun _ _ _ _ h=>h.1
     have cell:∀ i o v,i<len→(g i)[o]?=some v→w.cell? (a.add (i*j.K.size+o))=some v:=fun i o v hi ho=>by
      obtain⟨x,_,hcs⟩:=each i (by simpa using hi)
      unfold World.cells? at hcs
      split at hcs
      ·obtain⟨h1,h2⟩:=VM hcs
       have hol:o<j.K.size:=by have:=(List.getElem?_eq_some_iff.1 ho).1;rw[h1] at this;simpa using this
       obtain⟨y,hy,hv⟩:=h2 o o (by simp[hol])
       rw[ho] at hy;cases hy
       rw[tZ] at hv;exact hv
      ·cases hcs
     refine⟨xs,⟨some a,cap,by rw[hlen],by rw[hlen];exact hlc,fun hp=>⟨a,(List.range len).map g,rfl,?_,hrp,fun q v hv=>?_⟩⟩,by rw[hlen];omega,fun x hx=>by obtain⟨c,_,h⟩:=hxs.left x hx;exact h.2⟩
     ·
      rw[hlen] at hp
      obtain⟨x,⟨h1,_⟩,hcs⟩:=each 0 (by simpa using hp)
      have hl:=RP.length h1
      have:=cell 0 0 ((g 0)[0]'(by omega)) hp (List.getElem?_eq_getElem _)
      have:=aaV this
      rwa [gF] at this
     ·obtain⟨i,c,o,h1,h2,rfl,h4⟩:=ajB hrp.lens hv
      rw[List.getElem?_map,Option.map_eq_some_iff] at h1
      obtain⟨i',h1,rfl⟩:=h1
      have hi:=(List.getElem?_eq_some_iff.1 h1).1
      have:i'=i:=by rw[List.getElem?_range (by simpa using hi)] at h1;exact(Option.some.inj h1).symm
      subst this
      exact cell i' o v (by simpa using hi) h4
    ·cases h
  | array n e=>
   cases td<;>cases K<;>simp at hd
   rename_i n' e' n'' Ke
   obtain⟨⟨⟨rfl,rfl⟩,rfl⟩,hd⟩:=hd
   obtain⟨j,hj,hjK⟩:∃ j,E.ty.lookup e=some j∧j.K=Ke:=by
    cases h:E.ty.lookup e with
    | none=>rw[h] at hd;simp at hd
    | some j=>rw[h] at hd;simp at hd;exact⟨j,rfl,hd.1⟩
   subst hjK
   simp only at h
   split at h
   ·rename_i hl
    rw[hcell] at hl
    obtain⟨xs,hxs,_⟩:=Option.map_eq_some_iff.1 h
    rw[T.cellsOf hj] at hxs
    obtain⟨ys,hys⟩:=DK (R:=fun x c=>RP (fun b=>b<w.heap.size) w j.K x c∧WF j.K x) (g:=fun i=>bM cs (i*j.K.size) j.K.size) (is:=List.range n) fun i hi=>by
     obtain⟨y,hy⟩:=CJ hxs i hi
     exact Dh fuel e j _ y hj hq hy
    have hlen:ys.length=n:=by rw[hys.length];simp
    refine⟨ys,⟨hlen,_,?_,hys.imp fun _ _ _ _ h=>h.1⟩,hlen,fun x hx=>by obtain⟨c,_,h⟩:=hys.left x hx;exact h.2⟩
    exact Ec n j.K.size cs hl
   ·cases h
  | struct fs=>
   cases td with
   | struct ts=>
    have hd:aA E.ty fs.toList ts K 0=true:=hd
    simp only at h
    split at h
    ·rename_i hl
     rw[hcell] at hl
     obtain⟨xs,hxs,_⟩:=Option.map_eq_some_iff.1 h
     have gen:∀ (fs:List Field) (ts:List TypeId) (K:Kind) (off:Nat),aA E.ty fs ts K off=true→K.noOpq=true→(∀ f∈fs,∃ y,DataW.trod cC P w base sp held fuel f.type ((cs.drop f.offset).take (P.cellsOf f.type))=some y)→
       ∃ x:K.den,RP (fun b=>b<w.heap.size) w K x ((cs.drop off).take K.size)∧WF K x:=by
      intro fs
      induction fs with
      | nil=>
       intro ts K off hb _ _
       cases ts<;>cases K<;>simp[aA] at hb
       exact⟨(),by simp[Kind.size,RP],trivial⟩
      | cons f fs ih=>
       intro ts K off hb hq hall
       cases ts with
       | nil=>simp[aA] at hb
       | cons t ts=>
        cases K with
        | pair a b=>
         simp only[aA,Bool.and_eq_true,beq_iff_eq,decide_eq_true_eq] at hb
         obtain⟨⟨⟨⟨rfl,hoff⟩,hpos⟩,hl⟩,hb⟩:=hb
         simp only[Kind.noOpq,Bool.and_eq_true] at hq
         cases hf:E.ty.lookup f.type with
         | none=>rw[hf] at hl;cases hl
         | some j=>
          rw[hf] at hl
          have hjK:j.K=a:=by simpa using hl
          subst hjK
          obtain⟨y,hy⟩:=hall f (by simp)
          rw[hoff,T.cellsOf hf] at hy
          obtain⟨x1,h1,h2⟩:=Dh fuel f.type j _ y hf hq.1 hy
          obtain⟨x2,h3,h4⟩:=ih ts b (off+j.K.size) hb hq.2 fun f hf=>hall f (by simp[hf])
          refine⟨(x1,x2),⟨_,_,?_,h1,h3⟩,h2,h4⟩
          rw[Kind.size,List.take_add,List.drop_drop]
        | _=>simp[aA] at hb
     obtain⟨x,h1,h2⟩:=gen fs.toList ts K 0 hd hq fun f hf=>CJ hxs f hf
     refine⟨x,?_,h2⟩
     rw[List.drop_zero,List.take_of_length_le (by omega)] at h1
     exact h1
    ·cases h
   | prim=>cases K<;>simp at hd
   | slice _=>cases K<;>simp at hd
   | array _ _=>cases K<;>simp at hd
   | map _ _=>cases K<;>simp at hd
   | ptr _=>cases K<;>simp at hd
   | other=>cases K<;>simp at hd
  | map k v=>cases td<;>cases K<;>simp at hd;simp[Kind.noOpq] at hq
  | pointer e=>cases td<;>cases K<;>simp at hd;simp[Kind.noOpq] at hq
  | _=>cases td<;>cases K<;>simp at hd
open Go.WideShapes in
theorem Pq{r:Reach}{b0:Nat}{t:TypeId}{i:TI}{v:Value}{d:DataW H}{ps:List MemPlace}(hi:E.ty.lookup t=some i)(hq:i.K.noOpq=true)(hok:Value.okWide P w r b0 t v)(h:DataW.Trod cC P w base sp held t v d ps) :
  ∃ x:i.K.den,RS (X0 (fun b=>b<w.heap.size) w) (.p i.K x) v∧WF i.K x:=by
 obtain⟨fuel,h⟩:=h
 obtain⟨x,h1,h2⟩:=Dh T fuel t i _ _ hi hq h
 refine⟨x,RS.of0 ?_ (by simp),h2⟩
 obtain⟨ds,hu,hd⟩:=T.desc hi
 have leaf:i.K.isAgg=false→v.cells=#[v]→aE (X0 (fun b=>b<w.heap.size) w) (.p i.K x) v:=fun ha hv=>by
  rw[hv] at h1
  exact .inr ⟨[v],h1,.inr ⟨ha,rfl⟩⟩
 have agg:i.K.isAgg=true→(∃ cs,v=.agg cs)→aE (X0 (fun b=>b<w.heap.size) w) (.p i.K x) v:=fun ha hv=>by
  obtain⟨cs,rfl⟩:=hv
  exact .inr ⟨cs.toList,h1,.inl ⟨ha,by simp⟩⟩
 obtain⟨K,td,by',cm⟩:=i
 simp only at hd hq leaf agg ⊢
 cases ds with
 | bool=>cases td<;>cases K<;>simp at hd;obtain⟨b,rfl⟩:=okWide_bool hu hok;exact leaf rfl rfl
 | int k=>cases td<;>cases K<;>simp at hd;obtain⟨b,rfl⟩:=okWide_int hu hok;exact leaf rfl rfl
 | string=>cases td<;>cases K<;>simp at hd;obtain⟨b,rfl⟩:=okWide_string hu hok;exact leaf rfl rfl
 | slice e=>cases td<;>cases K<;>simp at hd;obtain⟨a,l,c,rfl⟩:=okWide_slice hu hok;exact leaf rfl rfl
 | array n e=>
  cases td<;>cases K<;>simp at hd
  unfold Value.okWide at hok
  rw[hu] at hok
  obtain⟨cs,rfl,_⟩:=hok
  exact agg rfl ⟨cs,rfl⟩
 | struct fs=>
  unfold Value.okWide at hok
  rw[hu] at hok
  obtain⟨cs,rfl,_⟩:=hok
  cases td with
  | struct ts=>
   have hd:aA E.ty fs.toList ts K 0=true:=hd
   have hag:K.isAgg=true:=by
    cases hf:fs.toList<;>cases ts<;>cases K<;>simp[hf,aA] at hd<;>rfl
   exact agg hag ⟨cs,rfl⟩
  | prim=>cases K<;>simp at hd
  | slice _=>cases K<;>simp at hd
  | array _ _=>cases K<;>simp at hd
  | map _ _=>cases K<;>simp at hd
  | ptr _=>cases K<;>simp at hd
  | other=>cases K<;>simp at hd
 | map k v=>cases td<;>cases K<;>simp at hd;simp[Kind.noOpq] at hq
 | pointer e=>cases td<;>cases K<;>simp at hd;simp[Kind.noOpq] at hq
 | _=>cases td<;>cases K<;>simp at hd
end
theorem amk{P:Program}{f:FuncId}{fn:Func}{e:Array Value→Sem Value}(B:P.funcs[f]?=some fn)(hb:fn.body=none)(hn:(fn.name== "runtime.NumGoroutine")=false)(h1:Extern.findNext fn=none)(h2:Extern.find fn=some e)(args:Array Value)(w:World){u:Value}(hr:(e args).run P w=.ok u w):(callFunc f args).run P w=.ok (.value u) w:=by
 have hn':¬ fn.name= "runtime.NumGoroutine":=by simpa using hn
 simp[callFunc,B,hb,hn',h1,h2,hr]
theorem Eg{P:Program}{E:Env A}(T:aO P E)(fns:cS P E)(hm:P.follows .mixedOrders=true){fn:Func}{j:Nat}{c:Code}(lo:∀ q∈aD j c,∀ L,E.lps.lookup q.1=some L→cl P E.gl q.2 L){rm:List RMode}{s:St}{k:AV→List Blk→Option A}{out:A}{K:Ex→St→Option A}{px:Ex→Prop}(h:bY E j c s K=some out)(hK:∀ x s',K x s'=some out→px x∧nR E fn rm k x s'=some out):∃ r hp,k r hp=some out∧∀ (X:Cx) (a:Act),Rel E.gl X s a→
   c.wp P (fun e a w=>(∃ x:Ex,px x∧e=x.out)∧bodyPost P fn (fun e w'=>∃ u,e=.returned u∧∃ Y:Cx,Y.w=w'∧Y.hp=hp∧RS Y r u∧Ok Y∧WEvo X Y∧PEvo s.m X Y) e a w) a X.w:=by
 obtain⟨x,s',h,hsm,hsem⟩:=gK T fns hm lo h
 obtain⟨hpx,h⟩:=hK _ _ h
 obtain⟨r,hp,vs,rs,l,hk,hx,hts,hgiven,hnd,hdis,hpin,rfl,rfl⟩:=QA T h
 refine⟨_,_,hk,fun X a R0=>?_⟩
 refine(hsem X a _ R0 fun Y0 a' W V R=>?_).1
 obtain⟨Y,y1,y2,y3,R⟩:=(Conv.closeEnd E fn s').2 _ Y0 a' R
 rw[← y1]
 have W:=W.trans y2
 have V:=V.trans (hsm▸y3)
 obtain⟨Z,z1,z2,z3,z4,z5,z6⟩:=Dc R.hp R.ok hnd hdis
 obtain⟨us,hrun,hus⟩:=hts Y a' R
 have G:=hgiven Y R.hp R.ok
 have hrs:=Cp z6 z3 G (fun _ h=>h) hus
 have hnt:=G.noTup
 have hpin:(l.take s.m==List.range s.m)=true:=by simpa only[(Conv.closeEnd E fn s').1,hsm] using hpin
 have fin:bodyPost P fn (fun e w'=>∃ u,e=.returned u∧∃ Y:Cx,Y.w=w'∧Y.hp=(l.map fun id=>((E.closeEnd fn s').hp.getD id .gone).ren (aG l))∧RS Y (tB (rs.map fun v=>v.ren1 (aG l))) u∧Ok Y∧WEvo X Y∧PEvo s.m X Y) .normal a' Y.w:=by
  refine⟨R.defers,_,hrun,_,rfl,Z,z1,z2,?_,z4,W.trans z5,V.trans (z6.pevo hnd hpin)⟩
  clear hus hrun
  cases hrs':rs with
  | nil=>rw[hrs'] at hrs;cases hrs;exact⟨#[],rfl,.nil⟩
  | cons v qf=>
   rw[hrs'] at hrs
   cases qf with
   | nil=>
    cases hrs with
    | cons h1 h2=>
     cases h2
     exact RS.of0 h1 (WG (hnt v (by rw[hrs'];simp)))
   | cons v2 rs2=>
    cases hrs with
    | cons h1 h2=>
     cases h2 with
     | cons h2 h3=>
      exact⟨_,rfl,by simpa using All2.cons h1 (.cons h2 h3)⟩
 refine⟨⟨x,hpx,rfl⟩,?_⟩
 rcases hx with hx|hx<;>rw[hx]<;>exact fin
def lV(t:TypeId)(id:Nat)(aG:String):Code:=.region id #[⟨some 2,.assign (.const (.slice none 0 0)),t,aG,#[],none⟩] false
def Ee(t tb:TypeId)(aG pos':String)(af:Array Edge):Code:=.region 1 #[⟨some 3,.move (.tmp 0),t,aG,#[],none⟩,⟨some 4,.binOp .eql t (.tmp 3) (.const (.slice none 0 0)) t,tb,pos',af,none⟩] false
theorem aa6{P:Program}{t id:Nat}{aG:String}{Q:Exit→Act→World→Prop}{a:Act}{w:World}(h:Q .normal (a.put (some 2) (.slice none 0 0)) w):(lV t id aG).wp P Q a w:=by
 refine wp_region ?_
 simp only[List.size_toArray,List.length_singleton,List.length_cons,List.length_nil,List.range_succ,List.range_zero,List.nil_append,wpOps]
 simp[Region.wanted,Oper.wp,execOp,Act.eval]
 exact .inl h
theorem aa5{P:Program}{t tb e:TypeId}{aG pos':String}{af:Array Edge}{Q:Exit→Act→World→Prop}{a:Act}{w:World}{p:Option Addr}{n c:Nat}(hu:P.underlying t=some (.slice e))(hv:a.eval (.tmp 0)=.slice p n c)(hs:4<a.tmps.size)(h:Q .normal ((a.put (some 3) (.slice p n c)).put (some 4) (.bool p.isNone)) w):(Ee t tb aG pos' af).wp P Q a w:=by
 refine wp_region ?_
 have e3:(a.put (some 3) (.slice p n c)).eval (.tmp 3)=.slice p n c:=by
  simp[Act.eval,Act.put,Array.getD,show 3<a.tmps.size by omega]
 have r1:=Lib.run_eql_slice_nil (P:=P) w t e p n c 0 0 hu
 simp only[List.size_toArray,List.length_cons,List.length_nil,List.range_succ,List.range_zero,List.nil_append,List.cons_append,wpOps]
 simp[Region.wanted,Oper.wp,execOp,hv,e3,r1]
 refine .inl (.inl ?_)
 have g1:(eqGuard .eql t (.tmp 3) (.const (.slice none 0 0)) (.slice p n c) (.slice none 0 0)).run P w=.ok () w:=by simp[eqGuard]
 show Oper.upon P _ _ _ _ (((eqGuard .eql t (.tmp 3) (.const (.slice none 0 0)) ((a.put (some 3) (.slice p n c)).eval (.tmp 3)) (.slice none 0 0)).run P w).andThen fun _ w'=>((binOp .eql t ((a.put (some 3) (.slice p n c)).eval (.tmp 3)) (.slice none 0 0)).run P w').andThen fun a w'=>Result.ok (Next.value a) w')
 rw[e3,g1]
 show Oper.upon P _ _ _ _ (((binOp .eql t (.slice p n c) (.slice none 0 0)).run P w).andThen fun a w'=>Result.ok (Next.value a) w')
 rw[r1]
 exact h
theorem aa7{P:Program}{E:Env (AV×List Blk)}(T:aO P E)(fns:cS P E)(hm:P.follows .mixedOrders=true){f:FuncId}{fn:Func}(B:Body P f fn){t tb e:TypeId}{p0 p1 p2 p3:String}{af:Array Edge}{K:Kind}{rest:Code}{l:List K.den}(hb:fn.body=some (.seq (lV t 0 p0) (.seq (.seq (Ee t tb p1 p2 af) (.cond (.tmp 4) (.seq (lV t 2 p3) .ret) .skip)) rest)))(hn:fn.ntmps=8)(hu:P.underlying t=some (.slice e))(hl:aD 0 rest=[])(h1:bY E 0 rest ⟨[.p (.sl K) l,.any,.any,.any,.any,.any,.any,.any],[],0⟩ (nR E fn [.own] fun r hp=>some (r,hp))=some (.row 0,[.row e K l]))(h0:bY E 0 (.seq (lV t 2 p3) .ret) ⟨[.any,.any,.any,.any,.any,.any,.any,.any],[],0⟩ (fun x s'=>match x with|.ret=>nR E fn [.own] (fun r hp=>some (r,hp)) .ret s'|_=>none)=some (.row 0,[.row e K []])) :
  m9 P E.gl f [.p (.sl K) l] [] (.row 0) [.row e K l]:=by
 intro X vals hX ok hglo hargs
 obtain⟨v,hv,hr⟩:=hargs.get (i:=0) (a:=.p (.sl K) l) rfl
 have hvals:vals=#[v]:=by
  have hl:=hargs.length
  apply Array.toList_inj.1
  match hm:vals.toList,hl with
  | [u],_=>rw[hm] at hv;simpa using hv
 subst hvals
 obtain⟨r1,hp1,e1,W1⟩:=Eg (px:=fun _=>True) T fns hm (by rw[hl];exact s8) h1 fun _ _ h=>⟨trivial,h⟩
 cases e1
 obtain⟨r0,hp0,e0,W0⟩:=Eg T fns hm (c:=.seq (lV t 2 p3) .ret) (px:=fun x=>x=.ret) (fun q hq=>by simp[aD,lV] at hq) h0 fun x _ h=>by cases x<;>first|exact⟨rfl,h⟩|cases h
 cases e0
 have hv0:=hr.to0 (by simp)
 obtain⟨cs,hc,hcs⟩:=hv0.data
 have hag:(Kind.sl K).isAgg=false:=rfl
 rw[hag] at hcs
 have hcs:cs=[v]:=hcs.elim (fun h=>nomatch h.1) (·.2)
 subst hcs
 obtain⟨p,c,hpc,hcap,hrow⟩:=hc
 have hv:v=.slice p l.length c:=(List.cons.inj hpc).1
 subst hv
 refine⟨_,X.w,MuLone.run_callFunc_enter B.get B.name hb _ X.w,.inr ⟨rfl,?_⟩⟩
 refine calls_of_wp B.get hb ?_
 have ht0:(#[Value.slice p l.length c]++Array.replicate (fn.ntmps-(#[Value.slice p l.length c]:Array Value).size) undef)=#[Value.slice p l.length c,undef,undef,undef,undef,undef,undef,undef]:=by
  rw[hn];rfl
 rw[ht0]
 have R:∀ (av:AV) (b:Value),RS X av (.slice p l.length c)→Rel E.gl X ⟨[av,.any,.any,.any,.any,.any,.any,.any],[],0⟩ ⟨#[Value.slice p l.length c,undef,.slice none 0 0,.slice p l.length c,b,undef,undef,undef],[]⟩:=fun av b hav=>
  ⟨hglo,rfl,rfl,fun i a hi=>by
   match i,hi with
   | 0,hi=>cases hi;exact⟨_,rfl,hav⟩
   | 1,hi=>cases hi;exact⟨_,rfl,RS.any _⟩
   | 2,hi=>cases hi;exact⟨_,rfl,RS.any _⟩
   | 3,hi=>cases hi;exact⟨_,rfl,RS.any _⟩
   | 4,hi=>cases hi;exact⟨_,rfl,RS.any _⟩
   | 5,hi=>cases hi;exact⟨_,rfl,RS.any _⟩
   | 6,hi=>cases hi;exact⟨_,rfl,RS.any _⟩
   | 7,hi=>cases hi;exact⟨_,rfl,RS.any _⟩
   | n+8,hi=>simp at hi,hX,ok⟩
 refine wp_seq (aa6 (wp_seq (wp_seq (aa5 (p:=p) (n:=l.length) (c:=c) hu rfl (by simp[Act.put]) ?_))))
 cases p with
 | none=>
  have hl0:l=[]:=by
   cases l with
   | nil=>rfl
   | cons x l=>obtain⟨ad,_,h,_⟩:=hrow (by simp);cases h
  subst hl0
  refine wp_cond_true rfl ?_
  refine wp_mono (W0 X _ (R .any _ (RS.any _))) fun e a w h=>?_
  obtain⟨⟨x,rfl,rfl⟩,h⟩:=h
  exact h
 | some ad=>
  refine wp_cond_false rfl (wp_skip ?_)
  exact wp_mono (W1 X _ (R _ _ hr)) fun e a w h=>h.2
theorem QF{P:Program}{gl:GL}{f:FuncId}{fn:Func}{e:Array Value→Sem Value}(B:P.funcs[f]?=some fn)(hb:fn.body=none)(hn:(fn.name== "runtime.NumGoroutine")=false)(h1:Extern.findNext fn=none)(h2:Extern.find fn=some e){a0 a1:AV}{r:Int}(hr:∀ (X:Cx) (v0 v1:Value),Ok X→RS X a0 v0→RS X a1 v1→(e #[v0,v1]).run P X.w=.ok (goInt r) X.w):m9 P gl f [a0,a1] [] (.p (.int .i64) r) []:=by
 intro X vals hX ok _ hargs
 obtain⟨vl⟩:=vals
 match vl,hargs with
 | [v0,v1],.cons q0 (.cons q1 .nil)=>
  exact⟨_,X.w,amk B hb hn h1 h2 _ X.w (hr X v0 v1 ok q0 q1),.inl ⟨_,rfl,X,rfl,hX,RS.int.2 rfl,ok,.refl X,.refl _ X⟩⟩
def NM(s:ByteArray)(c:Int):Int:=match (List.range s.size).find? fun i=>s[i]! ==c.toNat.toUInt8 with|some i=>i|none=>-1
def Df(s:ByteArray)(c:Int):Int:=s.foldl (fun(n:Int) x=>if x==c.toNat.toUInt8 then n+1 else n) ((0:Nat):Int)
theorem ajT{P:Program}{gl:GL}{f:FuncId}{fn:Func}(B:P.funcs[f]?=some fn)(hb:fn.body=none)(hn:(fn.name== "runtime.NumGoroutine")=false)(h1:Extern.findNext fn=none)(h2:Extern.find fn=some Extern.BytealgIndexByte.indexByte) :
  aI P gl f (jo fun args (k:AV→List Blk→Option A)=>rQ args .str (.int .u8) fun s c=>k (.p (.int .i64) (NM s c)) []):=fun args hp0 k out hh=>by
 cases hp0 with
 | cons b r=>cases hh
 | nil=>
  obtain⟨s,c,rfl,hk⟩:=Pr hh
  refine⟨_,_,hk,QF B hb hn h1 h2 (fun X v0 v1 ok q0 q1=>?_),fun h=>nomatch h⟩
  rw[RS.int] at q1
  rw[RS.str] at q0
  subst q0;subst q1
  unfold NM
  have e:Extern.BytealgIndexByte.indexByte #[.string s,.int .u8 c]=(match (List.range s.size).find? fun i=>s[i]! ==c.toNat.toUInt8 with|some i=>pure (goInt i)|none=>pure (goInt (-1))):=rfl
  rw[e]
  generalize List.find? (fun i=>s[i]! ==(Int.toNat c).toUInt8) (List.range (ByteArray.size s))=q
  cases q<;>rfl
theorem abn{P:Program}{gl:GL}{f:FuncId}{fn:Func}(B:P.funcs[f]?=some fn)(hb:fn.body=none)(hn:(fn.name== "runtime.NumGoroutine")=false)(h1:Extern.findNext fn=none)(h2:Extern.find fn=some Extern.BytealgCount.count) :
  aI P gl f (jo fun args (k:AV→List Blk→Option A)=>rQ args .str (.int .u8) fun s c=>k (.p (.int .i64) (Df s c)) []):=fun args hp0 k out hh=>by
 cases hp0 with
 | cons b r=>cases hh
 | nil=>
  obtain⟨s,c,rfl,hk⟩:=Pr hh
  refine⟨_,_,hk,QF B hb hn h1 h2 (fun X v0 v1 ok q0 q1=>?_),fun h=>nomatch h⟩
  rw[RS.int] at q1
  rw[RS.str] at q0
  subst q0;subst q1
  have e:Extern.BytealgCount.count #[.string s,.int .u8 c]=pure (goInt (Df s c)):=by
   unfold Df
   show(do let b ← pure s;let c ← pure c.toNat.toUInt8;pure (goInt (b.foldl (fun n x=>if x==c then n+1 else n) (0:Nat))))=_
   simp only[pure_bind]
  rw[e];rfl
end Go.Ev
namespace Go.Ev
open Go.ChangeShapes
theorem aj6{H:Type}{P:Program}{w:World}{cC:TypeId×Value→H}{sp:Nat→Bool}{held:Bool}{base:Nat}{t e len fuel:Nat}{k:IntKind}{L:List Value}{l:List Int}{p:List MemPlace}(hu:P.underlying t=some (.array len e))(he:P.underlying e=some (.int k))(hc:P.cellsOf e=1)(hct:P.cellsOf t=len)(hl:l.length=len)(hd:DataW.trod cC P w base sp held fuel t L=some (.agg (l.map fun x=>.lit (.int k x)),p)):L=l.map fun x=>Value.int k x:=by
 obtain⟨xs,m,rfl,hx,hlen,hn,hel⟩:=DataW.trod_array hu hd
 simp only[Prod.mk.injEq,DataW.agg.injEq] at hx
 have hxs:=hx.1
 apply List.ext_getElem?
 intro i
 by_cases hi:i<len
 ·have h1:=hel i hi
  rw[hc,Nat.mul_one,List.getElem?_eq_getElem (by omega)] at h1
  obtain⟨n,e1,e2,_⟩:=DataW.trod_int he h1
  have h3:(L.drop i).take 1=[L[i]'(by omega)]:=by
   rw[List.drop_eq_getElem_cons (by omega),List.take_succ_cons,List.take_zero]
  rw[h3] at e1
  have h4:(xs.map (·.1))[i]?=some (xs[i]'(by omega)).1:=by rw[List.getElem?_map,List.getElem?_eq_getElem (by omega)];rfl
  rw[← hxs,e2,List.getElem?_map,List.getElem?_eq_getElem (show i<l.length by omega)] at h4
  have h5:l[i]'(by omega)=n:=by simpa using h4
  rw[List.getElem?_eq_getElem (by omega),List.getElem?_map,List.getElem?_eq_getElem (show i<l.length by omega),h5]
  have h6:L[i]'(by omega)=Value.int k n:=by simpa using e1
  rw[h6];rfl
 ·rw[List.getElem?_eq_none (by omega),List.getElem?_eq_none (by rw[List.length_map];omega)]
theorem Vr{P:Program}{w:World}{name:String}{g t e len fuel:Nat}{k:IntKind}{cs:Array Value}{l:List Int}{p:List MemPlace}(hu:P.underlying t=some (.array len e))(he:P.underlying e=some (.int k))(hc:P.cellsOf e=1)(hct:P.cellsOf t=len)(hl:l.length=len)(hg:P.globalNamed name=some g)(hv:w.var? P name=some cs)(hd:DataW.trod (fun _=>()) P w 0 (fun _=>true) false fuel t cs.toList=some (.agg (l.map fun x=>.lit (.int k x)),p)) :
  RS (X0 (fun b=>b<w.heap.size) w) (.vp (.arr len (.int k)) l) (.pointer (some ⟨g,0,none⟩)):=by
 have hL:=aj6 hu he hc hct hl hd
 have hsz:g<w.heap.size:=by
  have h:=hv
  simp only[World.var?,hg,Option.bind_some] at h
  rcases Nat.lt_or_ge g w.heap.size with h2|h2
  ·exact h2
  ·rw[Array.getElem?_eq_none h2] at h;cases h
 refine .inr ⟨_,⟨_,rfl,⟨g,0,none⟩,cs.toList,rfl,hsz,⟨hl,cs.toList.map fun c=>[c],?_,?_⟩,fun j u hj=>?_⟩,?_⟩
 ·generalize cs.toList=q
  induction q with
  | nil=>rfl
  | cons a r ih=>rw[List.map_cons,List.flatten_cons,← ih];rfl
 ·rw[hL]
  clear hL hd hv hl
  induction l with
  | nil=>exact .nil
  | cons x r ih=>exact .cons rfl ih
 ·have:=World.var?_cell hg hv j
  show w.cell? (Addr.add ⟨g,0,none⟩ j)=some u
  rw[show(Addr.add ⟨g,0,none⟩ j)=⟨g,j,none⟩ from by
   unfold Addr.add
   split
   ·rename_i h;rw[h]
   ·rw[Nat.zero_add]]
  rw[this]
  simpa using hj
 ·exact .inr ⟨rfl,rfl⟩
end Go.Ev
namespace Go.Ev
variable{A:Type}
theorem d6:∀ {j:Nat} {c:Code} {q:Nat×Code},q∈aD j c→j≤q.1∧q.1<j+ew c
 | j,.seq a b,q,h=>by
  simp only[aD,List.mem_append] at h
  simp only[ew]
  rcases h with h|h
  ·have:=d6 h;omega
  ·have:=d6 h;omega
 | j,.cond _ a b,q,h=>by
  simp only[aD,List.mem_append] at h
  simp only[ew]
  rcases h with h|h
  ·have:=d6 h;omega
  ·have:=d6 h;omega
 | j,.block _ c,q,h=>by simp only[aD] at h;simp only[ew];exact d6 h
 | j,.scope c,q,h=>by simp only[aD] at h;simp only[ew];exact d6 h
 | j,.loop c,q,h=>by
  simp only[aD,List.mem_cons] at h
  simp only[ew]
  rcases h with rfl|h
  ·simp
  ·have:=d6 h;omega
 | _,.skip,_,h=>by simp[aD] at h
 | _,.region ..,_,h=>by simp[aD] at h
 | _,.exit _,_,h=>by simp[aD] at h
 | _,.ret,_,h=>by simp[aD] at h
 | _,.label _,_,h=>by simp[aD] at h
 | _,.goto _,_,h=>by simp[aD] at h
 | _,.rangeFunc ..,_,h=>by simp[aD] at h
theorem j4:∀ {j:Nat} {c:Code} {q r:Nat×Code},q∈aD j c→r∈aD j c→q.1=r.1→q=r
 | j,.seq a b,q,r,h,h',e=>by
  simp only[aD,List.mem_append] at h h'
  rcases h with h|h<;>rcases h' with h'|h'
  ·exact j4 h h' e
  ·have:=d6 h;have:=d6 h';omega
  ·have:=d6 h;have:=d6 h';omega
  ·exact j4 h h' e
 | j,.cond _ a b,q,r,h,h',e=>by
  simp only[aD,List.mem_append] at h h'
  rcases h with h|h<;>rcases h' with h'|h'
  ·exact j4 h h' e
  ·have:=d6 h;have:=d6 h';omega
  ·have:=d6 h;have:=d6 h';omega
  ·exact j4 h h' e
 | j,.block _ c,q,r,h,h',e=>by simp only[aD] at h h';exact j4 h h' e
 | j,.scope c,q,r,h,h',e=>by simp only[aD] at h h';exact j4 h h' e
 | j,.loop c,q,r,h,h',e=>by
  simp only[aD,List.mem_cons] at h h'
  rcases h with rfl|h<;>rcases h' with rfl|h'
  ·rfl
  ·have:=d6 h';omega
  ·have:=d6 h;omega
  ·exact j4 h h' e
 | _,.skip,_,_,h,_,_=>by simp[aD] at h
 | _,.region ..,_,_,h,_,_=>by simp[aD] at h
 | _,.exit _,_,_,h,_,_=>by simp[aD] at h
 | _,.ret,_,_,h,_,_=>by simp[aD] at h
 | _,.label _,_,_,h,_,_=>by simp[aD] at h
 | _,.goto _,_,_,h,_,_=>by simp[aD] at h
 | _,.rangeFunc ..,_,_,h,_,_=>by simp[aD] at h
theorem j3:∀ {j:Nat} {c:Code} {q r:Nat×Code},q∈aD j c→r∈aD (q.1+1) q.2→r∈aD j c
 | j,.seq a b,q,r,h,h'=>by
  simp only[aD,List.mem_append] at h ⊢
  exact h.imp (j3 · h') (j3 · h')
 | j,.cond _ a b,q,r,h,h'=>by
  simp only[aD,List.mem_append] at h ⊢
  exact h.imp (j3 · h') (j3 · h')
 | j,.block _ c,q,r,h,h'=>by simp only[aD] at h ⊢;exact j3 h h'
 | j,.scope c,q,r,h,h'=>by simp only[aD] at h ⊢;exact j3 h h'
 | j,.loop c,q,r,h,h'=>by
  simp only[aD,List.mem_cons] at h ⊢
  rcases h with rfl|h
  ·exact .inr h'
  ·exact .inr (j3 h h')
 | _,.skip,_,_,h,_=>by simp[aD] at h
 | _,.region ..,_,_,h,_=>by simp[aD] at h
 | _,.exit _,_,_,h,_=>by simp[aD] at h
 | _,.ret,_,_,h,_=>by simp[aD] at h
 | _,.label _,_,_,h,_=>by simp[aD] at h
 | _,.goto _,_,_,h,_=>by simp[aD] at h
 | _,.rangeFunc ..,_,_,h,_=>by simp[aD] at h
def j7(E:Env A)(b:Code)(ds:Nat→List Nat×List Nat)(n:Nat):Nat→Env A
 | 0=>{ E with lps:=[] }
 | d+1=>{ E with lps:=(aD 0 b).map fun q=>(q.1,⟨(ds q.1).1,fun s k=>gd (bY (j7 E b ds n d) (q.1+1) q.2) (ds q.1).1 (ds q.1).2 n s k⟩) }
theorem VC{α:Type}{q:Nat×Code}{f:Nat×Code→α}{L:α}:∀ {l:List (Nat×Code)},(l.map fun q=>(q.1,f q)).lookup q.1=some L→(∀ r∈l,r.1=q.1→r=q)→L=f q
 | [],h,_=>by cases h
 | r::l,h,hu=>by
  simp only[List.map_cons,List.lookup] at h
  cases hr:q.1==r.1 with
  | true=>
   rw[hr] at h
   have:=hu r (by simp) (eq_of_beq hr).symm
   subst this
   exact(Option.some.inj h).symm
  | false=>
   rw[hr] at h
   exact VC h fun r hr=>hu r (by simp[hr])
section
variable{P:Program}{E:Env A}(T:aO P E)(fns:cS P E)(hm:P.follows .mixedOrders=true)
include T fns hm
theorem Wq{b:Code}{ds:Nat→List Nat×List Nat}{n:Nat}:∀ d,aO P (j7 E b ds n d)∧cS P (j7 E b ds n d)∧(j7 E b ds n d).gl=E.gl
 | 0=>⟨T,fns,rfl⟩
 | _+1=>⟨T,fns,rfl⟩
theorem Wp{b:Code}{ds:Nat→List Nat×List Nat}{n:Nat}:∀ (d:Nat) (q:Nat×Code),q∈aD 0 b→∀ L,(j7 E b ds n d).lps.lookup q.1=some L→cl P E.gl q.2 L
 | 0,_,_,_,h=>by cases h
 | d+1,q,hq,L,h=>by
  have hL:=VC (f:=fun q=>(⟨(ds q.1).1,fun s k=>gd (bY (j7 E b ds n d) (q.1+1) q.2) (ds q.1).1 (ds q.1).2 n s k⟩:Loop A)) h fun r hr e=>j4 hr hq e
  subst hL
  intro s k out hr
  obtain⟨g1,g2,g3⟩:=Wq T fns hm (b:=b) (ds:=ds) (n:=n) d
  obtain⟨x',s',h1,hm1,h2⟩:=MO g1 g2 hm (fun r hr L hL=>by rw[g3];exact Wp d r (j3 hq hr) L hL) _ _ n _ hr
  rw[g3] at h2
  exact⟨x',s',h1,hm1,fun X a Q hr hq=>NV n (h2 X a Q hr hq)⟩
end
def cd(E:Env A)(own:List Bool)(fn:Func)(rm:List RMode)(ds:Nat→List Nat×List Nat)(n:Nat):Entry A:=
 ⟨own,fun args hp k=>fY (j7 E (fn.body.getD .skip) ds n 4) fn rm args hp k,false⟩
theorem cj{P:Program}{E:Env A}(T:aO P E)(fns:cS P E)(hm:P.follows .mixedOrders=true){f:FuncId}{fn:Func}(B:Body P f fn){own:List Bool}{rm:List RMode}{ds:Nat→List Nat×List Nat}{n:Nat}:aI P E.gl f (cd E own fn rm ds n):=fun args hp0 k out h=>by
 obtain⟨g1,g2,g3⟩:=Wq T fns hm (b:=fn.body.getD .skip) (ds:=ds) (n:=n) 4
 have lo:∀ c,fn.body=some c→∀ q∈aD 0 c,∀ L,(j7 E (fn.body.getD .skip) ds n 4).lps.lookup q.1=some L→cl P (j7 E (fn.body.getD .skip) ds n 4).gl q.2 L:=fun c hc q hq L hL=>by
  rw[g3]
  have hc':fn.body.getD .skip=c:=by rw[hc];rfl
  rw[hc'] at hL
  exact Wp T fns hm 4 q hq L hL
 obtain⟨r,hp,h1,h2⟩:=Mp g1 g2 hm B lo h
 rw[g3] at h2
 exact⟨r,hp,h1,h2,fun h=>nomatch h⟩
abbrev KK(A:Type):=Ex→St→Option A
abbrev RK(A:Type):=AV→List Blk→Option A
def an:Nat→List AV→List AV
 | 0,l=>l
 | n+1,l=>.any::an n l
def dl(n:Nat)(l:List Nat):List Nat:=(List.range n).filter fun i=>!l.contains i
def p4(fn:Func)(j:Nat):Code:=((aD 0 (eh fn)).lookup j).getD .skip
def Env.dd(E:Env A)(j:Nat):List Nat:=((E.lps.lookup j).map Loop.dead).getD []
@[reducible] def wk:List (Nat×Sh)→Type
 | []=>Unit
 | q::r=>q.2.den×wk r
structure LSh where
 tm:List (Nat×Sh)
 z:Nat
 hp:List BSh
 m:Nat
@[reducible] def LSh.den(S:LSh):Type:=wk S.tm×rT S.hp
def M8(z:Nat):(l:List (Nat×Sh))→wk l→List AV
 | [],_=>an z []
 | q::r,x=>an q.1 (q.2.fill x.1::M8 z r x.2)
def LSh.fill(S:LSh)(d:S.den):St:={ tm:=M8 S.z S.tm d.1,hp:=eQ S.hp d.2,m:=S.m }
def wc:Nat→List AV→Option (List AV)
 | 0,l=>some l
 | n+1,.any::l=>wc n l
 | _+1,_=>none
theorem MW:∀ {n:Nat} {l m:List AV},wc n l=some m→l=an n m
 | 0,_,_,h=>by cases h;rfl
 | n+1,[],_,h=>by cases h
 | n+1,v::l,m,h=>by
  cases v<;>simp only[wc] at h<;>first|(cases h;done)|(rw[MW h];rfl)
def wl(z:Nat):(l:List (Nat×Sh))→List AV→Option (wk l)
 | [],vs=>match wc z vs with
  | some []=>some ()
  | _=>none
 | q::r,vs=>match wc q.1 vs with
  | some (v::vs)=>match q.2.read v,wl z r vs with
   | some x,some y=>some (x,y)
   | _,_=>none
  | _=>none
theorem Wj{z:Nat}:∀ {l:List (Nat×Sh)} {vs:List AV} {x:wk l},wl z l vs=some x→vs=M8 z l x
 | [],vs,x,h=>by
  simp only[wl] at h
  split at h
  ·rename_i e;exact MW e
  ·cases h
 | q::r,vs,x,h=>by
  simp only[wl] at h
  split at h
  ·rename_i v ws e
   split at h
   ·rename_i a b h1 h2
    cases h
    rw[MW e,Sh.read_fill h1,Wj h2];rfl
   ·cases h
  ·cases h
def au(D:List Nat){S:LSh}(W:KK A→S.den→Nat→Option A)(n:Nat):Loop A:=⟨D,fun s k=>
 if s.m=S.m then match wl S.z S.tm s.tm,lR S.hp s.hp with
  | some x,some y=>W k (x,y) n
  | _,_=>none else none⟩
theorem cl.ofS{P:Program}{E:Env A}(T:aO P E)(fns:cS P E)(hm:P.follows .mixedOrders=true){j n:Nat}{c:Code}(lo:∀ q∈aD j c,∀ L,E.lps.lookup q.1=some L→cl P E.gl q.2 L){D Y:List Nat}{S:LSh}{W:KK A→S.den→Nat→Option A}(h:∀ d k,gd (bY E j c) D Y n (S.fill d) k=W k d n):cl P E.gl c (au D W n):=by
 intro s k out hr
 simp only[au] at hr
 split at hr
 ·rename_i hm0
  split at hr
  ·rename_i x y hx hy
   have hs:s=S.fill (x,y):=by
    obtain⟨tm,hp,m⟩:=s
    simp only at hx hy hm0
    subst hm0
    rw[Wj hx,rU hy]
    rfl
   rw[← h] at hr
   obtain⟨x',s',h1,hm1,h2⟩:=MO T fns hm lo D Y n _ hr
   rw[← hs] at hm1 h2
   exact⟨x',s',h1,hm1,fun X a Q hr hq=>NV n (h2 X a Q hr hq)⟩
  ·cases hr
 ·cases hr
structure Lst(A:Type){R:Type}(E:Env A)(fn:Func)(j:Nat)(Y:List Nat){S:LSh}(B:KK A→S.den→R→Option A)(W:KK A→S.den→Nat→Option A)(m:(S.den→Option A)→S.den→R):Prop where
 e:(fun f k (d:S.den)=>(W k d 0,W k d (f+1),gd (bY E (j+1) (p4 fn j)) (E.dd j) Y (f+1) (S.fill d) k))=
  fun f k d=>(none,B k d (m (fun d=>W k d f) d),B k d (m (fun d'=>gd (bY E (j+1) (p4 fn j)) (E.dd j) Y f (S.fill d') k) d)):=by kernel_rfl
theorem Lst.le{R:Type}{E:Env A}{fn:Func}{j:Nat}{Y:List Nat}{S:LSh}{B:KK A→S.den→R→Option A}{W:KK A→S.den→Nat→Option A}{m:(S.den→Option A)→S.den→R}(t:Lst A E fn j Y B W m)(k:KK A) :
  ∀ f d,gd (bY E (j+1) (p4 fn j)) (E.dd j) Y f (S.fill d) k=W k d f:=by
 have e:∀ f d,W k d 0=none∧W k d (f+1)=B k d (m (fun d=>W k d f) d)∧gd (bY E (j+1) (p4 fn j)) (E.dd j) Y (f+1) (S.fill d) k=B k d (m (fun d'=>gd (bY E (j+1) (p4 fn j)) (E.dd j) Y f (S.fill d') k) d):=fun f d=>by
  have h:=congrFun (congrFun (congrFun t.e f) k) d
  simp only[Prod.mk.injEq] at h
  exact h
 intro f
 induction f with
 | zero=>intro d;exact(e 0 d).1.symm
 | succ f ih=>
  intro d
  rw[(e f d).2.2,(e f d).2.1]
  exact congrArg (fun r=>B k d (m r d)) (funext ih)
def Lq(P:Program)(E:Env A)(fn:Func)(J:Nat):Prop:=cS P E→∀ i c,J≤i→(i,c)∈aD 0 (eh fn)→∀ L,E.lps.lookup i=some L→cl P E.gl c L
theorem Lq.none{P:Program}{E:Env A}{fn:Func}{J:Nat}(h:E.lps.all (fun q=>Nat.blt q.1 J)=true):Lq P E fn J:=fun _ i c hi _ L hL=>by
 obtain⟨l1,l2,h1,_⟩:=List.lookup_eq_some_iff.1 hL
 rw[List.all_eq_true] at h
 have:=h (i,L) (by rw[h1];simp)
 simp only[Nat.blt_eq] at this
 omega
theorem Lq.skip{P:Program}{E:Env A}{fn:Func}{J:Nat}(e:E.lps.lookup J=.none)(h:Lq P E fn (J+1)):Lq P E fn J:=fun fns i c hi hc L hL=>by
 by_cases hj:i=J
 ·subst hj;rw[e] at hL;cases hL
 ·exact h fns i c (by omega) hc L hL
theorem akk{c0:Code}{i:Nat}{c:Code}(hc:(i,c)∈aD 0 c0):(aD 0 c0).lookup i=some c:=by
 cases h:(aD 0 c0).lookup i with
 | none=>rw[List.lookup_eq_none_iff] at h;have:=h _ hc;simp at this
 | some c'=>
  obtain⟨l1,l2,h1,_⟩:=List.lookup_eq_some_iff.1 h
  have:=j4 hc (show(i,c')∈aD 0 c0 by rw[h1];simp) rfl
  cases this;rfl
theorem Lq.step{P:Program}{E:Env A}(T:aO P E)(hm:P.follows .mixedOrders=true){fn:Func}{J n:Nat}{R:Type}{D Y:List Nat}{S:LSh}{B:KK A→S.den→R→Option A}{W:KK A→S.den→Nat→Option A}{m:(S.den→Option A)→S.den→R}(t:Lst A E fn J Y B W m)(h:Lq P E fn (J+1))(e:E.lps.lookup J=some (au D W n)):Lq P E fn J:=fun fns i c hi hc M hM=>by
 by_cases hj:i=J
 ·subst hj
  rw[e] at hM;cases hM
  have hdd:E.dd i=D:=by unfold Env.dd;rw[e];rfl
  have hcc:p4 fn i=c:=by unfold p4;rw[akk hc];rfl
  refine cl.ofS T fns hm (j:=i+1) (n:=n) (Y:=Y) (fun q hq L' hL'=>?_) fun d k=>?_
  ·have h1:=j3 hc hq
   have h2:=d6 hq
   exact h fns q.1 q.2 h2.1 h1 L' hL'
  ·rw[← hcc,← hdd];exact t.le k n d
 ·exact h fns i c (by omega) hc M hM
theorem Lq.lo{P:Program}{E:Env A}{fn:Func}(h:Lq P E fn 0)(fns:cS P E):∀ c,fn.body=some c→∀ q∈aD 0 c,∀ L,E.lps.lookup q.1=some L→cl P E.gl q.2 L:=fun c hc q hq L hL=>by
 have:eh fn=c:=by unfold eh;rw[hc];rfl
 exact h fns q.1 q.2 (Nat.zero_le _) (by rw[this];exact hq) L hL
inductive Qo(A:Type)(E:Env A)(fn:Func)(rm:List RMode):Entry A→Prop where
 | mk {own:List Bool} {S:Shape} {e:S.den→RK A→Option A} (q:(fun d k=>fY E fn rm (ka S.tm d.1) (eQ S.hp d.2) k)=fun d k=>e d k:=by kernel_rfl):Qo A E fn rm (ai own S e)
inductive Qr(A:Type)(E:Env A)(fn:Func)(rm:List RMode):Entry A→Prop where
 | mk {own:List Bool} {S:Shape} {e:S.den→RK A→Option A} (q:(fun d k=>fY E fn rm (ka S.tm d.1) (eQ S.hp d.2) k)=fun d k=>e d fun r new=>k r (eQ S.hp d.2++new):=by kernel_rfl):Qr A E fn rm (cu own S e)
theorem Qo.ok{P:Program}{E:Env A}(T:aO P E)(hm:P.follows .mixedOrders=true){f:FuncId}{fn:Func}{rm:List RMode}{en:Entry A}(q:Qo A E fn rm en)(B:Body P f fn)(lo:Lq P E fn 0)(fns:cS P E):aI P E.gl f en:=by
 cases q with
 | mk q=>exact aI.ofOwn T fns hm B (lo.lo fns) fun d k=>congrFun (congrFun q d) k
theorem Qr.ok{P:Program}{E:Env A}(T:aO P E)(hm:P.follows .mixedOrders=true){f:FuncId}{fn:Func}{rm:List RMode}{en:Entry A}(q:Qr A E fn rm en)(B:Body P f fn)(lo:Lq P E fn 0)(fns:cS P E):aI P E.gl f en:=by
 cases q with
 | mk q=>exact aI.ofOwnR T fns hm B (lo.lo fns) fun d k=>congrFun (congrFun q d) k
theorem ql(x:Int):IntKind.wrap .u64 x=x%18446744073709551616:=by unfold IntKind.wrap;simp[IntKind.bits,IntKind.signed]
theorem ic(x:Int):IntKind.wrap .u32 x=x%4294967296:=by unfold IntKind.wrap;simp[IntKind.bits,IntKind.signed]
theorem wM(x:Int):IntKind.wrap .u8 x=x%256:=by unfold IntKind.wrap;simp[IntKind.bits,IntKind.signed]
theorem anp(x:Int):IntKind.wrap .i64 x=(if x%18446744073709551616≥9223372036854775808 then x%18446744073709551616-18446744073709551616 else x%18446744073709551616):=by
 unfold IntKind.wrap;simp[IntKind.bits,IntKind.signed]
theorem ap{x:Int}(h1:-9223372036854775808≤x)(h2:x<9223372036854775808):IntKind.wrap .i64 x=x:=by
 rw[anp];split<;>omega
theorem dU(x:Nat)(h:x<18446744073709551616):IntKind.wrap .u64 (x:Int)=(x:Int):=by rw[ql];omega
theorem yn:IntKind.u64.bits=64:=rfl
theorem lQ:IntKind.u32.bits=32:=rfl
theorem iE(w x:Nat):(BitVec.ofInt w (x:Int)).toNat=x%2^w:=by
 rw[BitVec.ofInt_natCast,BitVec.toNat_ofNat]
theorem Cy(a b:Nat)(ha:a<18446744073709551616)(hb:b<18446744073709551616):dL .u64 (a:Int) (b:Int)=((a ||| b:Nat):Int):=by
 rw[vV];unfold vU
 rw[BitVec.toNat_or,iE,iE,yn,Nat.mod_eq_of_lt (show a<2^64 by omega),Nat.mod_eq_of_lt (show b<2^64 by omega)]
 exact dU _ (Nat.or_lt_two_pow (n:=64) (by omega) (by omega))
theorem ajQ(a b:Nat)(ha:a<18446744073709551616)(hb:b<18446744073709551616):bL .u64 (a:Int) (b:Int)=((a &&& b:Nat):Int):=by
 rw[Ct];unfold Cs
 rw[BitVec.toNat_and,iE,iE,yn,Nat.mod_eq_of_lt (show a<2^64 by omega),Nat.mod_eq_of_lt (show b<2^64 by omega)]
 exact dU _ (Nat.and_lt_two_pow (n:=64) _ (by omega))
theorem wB(x k:Nat)(hk:k≤64):shl .u64 (x:Int) (k:Int)=((x*2^k%18446744073709551616:Nat):Int):=by
 unfold shl
 rw[yn,Int.toNat_natCast,Nat.min_eq_left hk,ql]
 have:(x:Int)*2^k=((x*2^k:Nat):Int):=by simp
 rw[this];rfl
theorem De(x k:Nat)(hk:k≤64):shr .u64 (x:Int) (k:Int)=((x/2^k:Nat):Int):=by
 unfold shr
 rw[yn,Int.toNat_natCast,Nat.min_eq_left hk,Int.fdiv_eq_ediv_of_nonneg _ (by exact Int.le_of_lt (Int.pow_pos (by decide)))]
 simp
theorem CS(a b k:Nat)(h:b<2^k):a*2^k ||| b=a*2^k+b:=by
 rw[← Nat.shiftLeft_eq,← Nat.shiftLeft_add_eq_or_of_lt h]
theorem gN(K:Kind)(x y:K.den):cY K x y=true↔x=y:=by
 unfold cY
 exact⟨fun h=>@of_decide_eq_true _ (K.dec x y) h,fun h=>@decide_eq_true _ (K.dec x y) h⟩
theorem abH(K:Kind)(x:K.den):cY K x x=true:=(gN K x x).2 rfl
theorem dn(a b:Nat):Int.tdiv (a:Int) (b:Int)=((a/b:Nat):Int):=rfl
theorem dy(a b:Nat):Int.tmod (a:Int) (b:Int)=((a%b:Nat):Int):=rfl
def al(l:List Nat):List Int:=l.map fun x:Nat=>(x:Int)
theorem di(l:List Nat):(al l).length=l.length:=by simp[al]
theorem Cw(l:List Nat)(i:Nat):(al l)[i]?=(l[i]?).map fun x:Nat=>(x:Int):=by simp[al]
theorem fJ(l:List Nat)(i:Nat)(h:i<l.length):(al l)[i]?=some ((l[i]:Nat):Int):=by rw[Cw,List.getElem?_eq_getElem h];rfl
theorem ajX(l:List Nat)(i:Nat):(al l).take i=al (l.take i):=by simp[al,List.map_take]
theorem fK(l:List Nat)(i x:Nat):(al l).set i (x:Int)=al (l.set i x):=by simp[al,List.map_set]
theorem ajW(l:List Nat)(x:Nat):al l++[(x:Int)]=al (l++[x]):=by simp[al]
def aH:List Nat→Nat
 | []=>0
 | d::r=>d+65536*aH r
def cz(l:List Nat):Prop:=∀ x∈l,x<65536
theorem cz.take{l:List Nat}(h:cz l)(n:Nat):cz (l.take n):=fun x hx=>h x (List.mem_of_mem_take hx)
theorem cz.set{l:List Nat}(h:cz l)(n:Nat){v:Nat}(hv:v<65536):cz (l.set n v):=fun x hx=>by
 rcases List.mem_or_eq_of_mem_set hx with hx|rfl
 ·exact h x hx
 ·exact hv
theorem cz.at{l:List Nat}(h:cz l){i:Nat}(hi:i<l.length):l[i]<65536:=h _ (List.getElem_mem hi)
theorem yq:∀ (l m:List Nat),aH (l++m)=aH l+65536^l.length*aH m
 | [],m=>by simp[aH]
 | d::r,m=>by
  simp only[List.cons_append,aH,yq r m,List.length_cons,Nat.pow_succ]
  rw[Nat.mul_add,Nat.mul_comm (65536^r.length) 65536,Nat.mul_assoc];omega
theorem PF(l:List Nat)(y:Nat):aH (l++[y])=aH l+65536^l.length*y:=by rw[yq];simp[aH]
theorem nH:∀ (l:List Nat),cz l→aH l<65536^l.length
 | [],_=>by simp[aH]
 | b::r,h=>by
  have h1:=nH r fun x hx=>h x (by simp[hx])
  have h2:=h b (by simp)
  simp only[aH,List.length_cons,Nat.pow_succ]
  omega
theorem D2(z:Nat):aH (List.replicate z 0)=0:=by
 induction z with
 | zero=>rfl
 | succ z ih=>simp[List.replicate_succ,aH,ih]
theorem PE{l:List Nat}{i:Nat}(h:i<l.length):aH (l.drop i)=l[i]+65536*aH (l.drop (i+1)):=by
 rw[List.drop_eq_getElem_cons h];rfl
theorem D1{l:List Nat}{i:Nat}(h:i<l.length):aH (l.take (i+1))=aH (l.take i)+65536^i*l[i]:=by
 rw[List.take_succ,List.getElem?_eq_getElem h]
 simp only[Option.toList_some]
 rw[PF,List.length_take,Nat.min_eq_left (by omega)]
theorem aaF(l:List Nat)(i:Nat)(h:i≤l.length):aH l=aH (l.take i)+65536^i*aH (l.drop i):=by
 conv=>lhs;rw[← List.take_append_drop i l]
 rw[yq,List.length_take,Nat.min_eq_left h]
theorem D0:∀ (l:List Nat) (i v:Nat) (h:i<l.length),aH (l.set i v)+65536^i*l[i]=aH l+65536^i*v
 | d::r,0,v,_=>by simp only[List.set_cons_zero,aH,List.getElem_cons_zero,Nat.pow_zero,Nat.one_mul];omega
 | d::r,i+1,v,h=>by
  have ih:=D0 r i v (by simpa using h)
  simp only[List.set_cons_succ,aH,List.getElem_cons_succ,Nat.pow_succ]
  have e1:65536^i*65536*r[i]'(by simpa using h)=65536*(65536^i*r[i]'(by simpa using h)):=by rw[Nat.mul_comm (65536^i) 65536,Nat.mul_assoc]
  have e2:65536^i*65536*v=65536*(65536^i*v):=by rw[Nat.mul_comm (65536^i) 65536,Nat.mul_assoc]
  rw[e1,e2];omega
def ar(n:Nat):List Nat:=if n=0 then[] else n%65536::ar (n/65536)
 termination_by n
 decreasing_by omega
theorem gP:ar 0=[]:=by rw[ar];rfl
theorem gO{n:Nat}(h:n≠0):ar n=n%65536::ar (n/65536):=by rw[ar,if_neg h]
theorem nO(n:Nat):cz (ar n):=by
 induction n using Nat.strongRecOn with
 | _ n ih=>
  by_cases h:n=0
  ·subst h;rw[gP];intro x hx;cases hx
  ·rw[gO h]
   intro x hx
   rcases List.mem_cons.1 hx with rfl|hx
   ·omega
   ·exact ih (n/65536) (by omega) x hx
theorem nG(n:Nat):aH (ar n)=n:=by
 induction n using Nat.strongRecOn with
 | _ n ih=>
  by_cases h:n=0
  ·subst h;rw[gP];rfl
  ·rw[gO h];simp only[aH];rw[ih (n/65536) (by omega)];omega
theorem abL{n:Nat}:ar n=[]↔n=0:=by
 constructor
 ·intro h;by_cases h0:n=0
  ·exact h0
  ·rw[gO h0] at h;cases h
 ·rintro rfl;exact gP
theorem Ep:∀ (m n:Nat),n<65536^m→(ar n).length≤m
 | 0,n,h=>by simp at h;subst h;rw[gP];simp
 | m+1,n,h=>by
  by_cases h0:n=0
  ·subst h0;rw[gP];simp
  ·rw[gO h0]
   have:=Ep m (n/65536) (by rw[Nat.pow_succ] at h;omega)
   simp;omega
theorem Qp:∀ (m n:Nat),65536^m≤n→m<(ar n).length
 | 0,n,h=>by
  have h0:n≠0:=by simp at h;omega
  rw[gO h0];simp
 | m+1,n,h=>by
  have hp:0<65536^m:=Nat.pow_pos (by decide)
  rw[Nat.pow_succ] at h
  have h0:n≠0:=by omega
  rw[gO h0]
  have:=Qp m (n/65536) (by omega)
  simp;omega
theorem Eo:∀ (l:List Nat),cz l→(l≠[]→l.getLast?≠some 0)→ar (aH l)=l
 | [],_,_=>gP
 | [d],h,hn=>by
  have hd:=h d (by simp)
  have h0:d≠0:=fun e=>hn (by simp) (by simp[e])
  simp only[aH]
  rw[gO (by omega)]
  have e1:(d+65536*0)%65536=d:=by omega
  have e2:(d+65536*0)/65536=0:=by omega
  rw[e1,e2,gP]
 | d::e::r,h,hn=>by
  have ih:=Eo (e::r) (fun x hx=>h x (List.mem_cons_of_mem _ hx)) (fun _=>by have:=hn (by simp);rw[List.getLast?_cons_cons] at this;exact this)
  have hd:=h d (by simp)
  have h1:aH (e::r)≠0:=fun h0=>by rw[h0,gP] at ih;cases ih
  have hb:aH (d::e::r)=d+65536*aH (e::r):=rfl
  rw[hb,gO (by omega)]
  have e1:(d+65536*aH (e::r))%65536=d:=by omega
  have e2:(d+65536*aH (e::r))/65536=aH (e::r):=by omega
  rw[e1,e2,ih]
theorem abM(l:List Nat)(hl:cz l)(m:Nat)(hm:m≤l.length)(hz:∀ i,m≤i→(h:i<l.length)→l[i]=0)(hn:∀ (h:0<m),l[m-1]'(by omega)≠0):ar (aH l)=l.take m:=by
 have h1:aH (l.drop m)=0:=by
  have:l.drop m=List.replicate (l.length-m) 0:=by
   rw[List.eq_replicate_iff]
   refine⟨by simp,fun b hb=>?_⟩
   obtain⟨i,hi⟩:=List.mem_iff_getElem?.1 hb
   rw[List.getElem?_drop] at hi
   obtain⟨h2,h3⟩:=List.getElem?_eq_some_iff.1 hi
   rw[← h3];exact hz (m+i) (by omega) h2
  rw[this,D2]
 rw[aaF l m hm,h1,Nat.mul_zero,Nat.add_zero]
 refine Eo _ (hl.take m) fun hne hlast=>?_
 have hm0:0<m:=by
  rcases Nat.eq_zero_or_pos m with h|h
  ·subst h;simp at hne
  ·exact h
 have hlen:(l.take m).length=m:=by simp;omega
 rw[List.getLast?_eq_getElem?,hlen,List.getElem?_take,if_pos (by omega)] at hlast
 obtain⟨h2,h3⟩:=List.getElem?_eq_some_iff.1 hlast
 exact hn hm0 h3
theorem Qq{x y:Nat}(h:(ar x).length<(ar y).length):x<y:=by
 have h1:=nH (ar x) (nO x)
 rw[nG] at h1
 rcases Nat.lt_or_ge y (65536^(ar x).length) with h2|h2
 ·have:=Ep _ _ h2;omega
 ·omega
def ff:List Nat→Nat
 | []=>0
 | w::r=>w+18446744073709551616*ff r
def Wd(l:List Nat):Prop:=∀ x∈l,x<18446744073709551616
def uw(x:Nat):List Nat:=[x%18446744073709551616,x/18446744073709551616%18446744073709551616,x/340282366920938463463374607431768211456%18446744073709551616,x/6277101735386680763835789423207666416102355444464034512896%18446744073709551616]
theorem Yg(x:Nat)(h:x<115792089237316195423570985008687907853269984665640564039457584007913129639936):ff (uw x)=x:=by
 unfold uw
 simp only[ff]
 omega
end Go.Ev
namespace Go.Ev
variable{A:Type}
section
variable{K:Kind}{V:Type}
theorem akr:∀ {m:List (K.den×V)} {x:K.den},x ∉ m.map (·.1)→aY K m x=none
 | [],_,_=>rfl
 | e::r,x,h=>by
  simp only[List.map_cons,List.mem_cons,not_or] at h
  rw[aY,if_neg (by simpa using fun e=>h.1 e.symm),akr h.2]
theorem VT:∀ (m:List (K.den×V)) (x:K.den) (v:V),(x∈m.map (·.1)∧(bw K m x v).map (·.1)=m.map (·.1))∨(x ∉ m.map (·.1)∧(bw K m x v).map (·.1)=m.map (·.1)++[x])
 | [],x,v=>.inr ⟨by simp,rfl⟩
 | e::r,x,v=>by
  by_cases h:e.1=x
  ·subst h;left;simp[bw]
  ·rcases VT r x v with ⟨h1,h2⟩|⟨h1,h2⟩
   ·left
    refine⟨by simp only[List.map_cons,List.mem_cons];exact .inr h1,?_⟩
    simp only[bw,h,decide_false,Bool.false_eq_true,if_false,List.map_cons,h2]
   ·right
    refine⟨by simp only[List.map_cons,List.mem_cons,not_or];exact⟨fun e=>h e.symm,h1⟩,?_⟩
    simp only[bw,h,decide_false,Bool.false_eq_true,if_false,List.map_cons,h2,List.cons_append]
end
end Go.Ev
