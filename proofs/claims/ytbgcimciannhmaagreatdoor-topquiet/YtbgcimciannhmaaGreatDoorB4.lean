import Derived.Test.YtbgcimciannhmaaGreatDoorB3
import Derived.Calls
/- A part of the proof of TopQuiet; no condition. -/
set_option linter.all false
set_option maxRecDepth 100000
namespace Go.Ev
variable{A:Type}
def X0(F:Nat→Prop)(w:World):Cx:=⟨fun _=>none,[],F,w⟩
def N0(P:Program)(f:FuncId)(vals:Array Value)(w:World)(K:Value→World→Prop):Prop:=
 ∃ nx w1,(callFunc f vals).run P w=.ok nx w1∧((∃ u,nx=.value u∧K u w1)∨(nx=.enter f vals∧Calls P f vals w1 fun e w'=>∃ u,e=.returned u∧K u w'))
def m9(P:Program)(gl:GL)(f:FuncId)(args:List AV)(hp0:List Blk)(r:AV)(hp:List Blk):Prop:=
 ∀ (X:Cx) (vals:Array Value),X.hp=hp0→Ok X→d7 gl X→All2 (RS X) args vals.toList→
  N0 P f vals X.w fun u w'=>∃ Y:Cx,Y.w=w'∧Y.hp=hp∧RS Y r u∧Ok Y∧WEvo X Y∧PEvo hp0.length X Y
def aI(P:Program)(gl:GL)(f:FuncId)(en:Entry A):Prop:=
 ∀ (args:List AV) (hp0:List Blk) (k:AV→List Blk→Option A) (out:A),en.run args hp0 k=some out→∃ r hp,k r hp=some out∧m9 P gl f args hp0 r hp∧(en.ro=true→hp.take hp0.length=hp0)
def cS(P:Program)(E:Env A):Prop:=∀ f en,E.fns.lookup f=some en→aI P E.gl f en
theorem i6:∀ (L:List (Nat×Blk)) (hp:List Blk) (j:Nat) (c:Blk),(∀ q∈L,q.1≠j)→hp[j]?=some c→(aR hp L)[j]?=some c
 | [],_,_,_,_,h=>h
 | q::L,hp,j,c,hn,h=>i6 L _ j c (fun q hq=>hn q (by simp[hq])) (et _ _ _ (Ne.symm (hn q (by simp))) h)
theorem i5:∀ (L:List (Nat×Blk)) (hp:List Blk) (j:Nat) (b:Blk),(∀ q∈L,q.1=j→q.2=b)→(∃ q∈L,q.1=j)→(aR hp L)[j]?=some b
 | [],_,_,_,_,h=>by obtain⟨q,hq,_⟩:=h;cases hq
 | q::L,hp,j,b,hu,h=>by
  by_cases hL:∃ q∈L,q.1=j
  ·exact i5 L _ j b (fun q hq=>hu q (by simp[hq])) hL
  ·obtain⟨p,hp',hpj⟩:=h
   rcases List.mem_cons.1 hp' with rfl|hp'
   ·have e:=hu p (by simp) hpj
    subst hpj
    exact i6 L _ p.1 b (fun q hq hj=>hL ⟨q,hq,hj⟩) (by rw[e];exact dh ..)
   ·exact absurd ⟨p,hp',hpj⟩ hL
theorem rR:∀ (L:List (Nat×Blk)) (hp:List Blk) (j:Nat) (c:Blk),(aR hp L)[j]?=some c→(∃ q∈L,q.1=j∧q.2=c)∨((∀ q∈L,q.1≠j)∧(hp[j]?=some c∨c=.free))
 | [],_,_,_,h=>.inr ⟨by simp,.inl h⟩
 | q::L,hp,j,c,h=>by
  rcases rR L _ j c h with ⟨p,hp',h1,h2⟩|⟨h1,h2⟩
  ·exact .inl ⟨p,by simp[hp'],h1,h2⟩
  ·by_cases hq:q.1=j
   ·subst hq
    rw[dh] at h2
    rcases h2 with h2|rfl
    ·cases h2;exact .inl ⟨q,by simp,rfl,rfl⟩
    ·by_cases h3:q.2=.free
     ·exact .inl ⟨q,by simp,rfl,h3⟩
     ·
      have:=i6 L (aC hp q.1 q.2) q.1 q.2 (fun p hp'=>h1 p hp') (dh ..)
      have h':(aR (aC hp q.1 q.2) L)[q.1]?=some .free:=h
      rw[this] at h';exact absurd (Option.some.inj h') h3
   ·refine .inr ⟨fun p hp'=>by rcases List.mem_cons.1 hp' with rfl|hp';exact hq;exact h1 p hp',?_⟩
    rcases h2 with h2|h2
    ·rcases er h2 with ⟨h3,_⟩|⟨_,h3⟩|⟨_,h3⟩
     ·exact absurd h3.symm hq
     ·exact .inl h3
     ·exact .inr h3
    ·exact .inr h2
def Cx.Held(X:Cx)(ids:List Nat)(b:Nat):Prop:=∃ id∈ids,∃ blk:Blk,X.hp[id]?=some blk∧blk.at (X.ρ id) b
theorem BlkEvo.ren{b:Blk}{f:Nat→Option Nat}:(b.ren f).live=b.live:=by cases b<;>rfl
theorem akZ{b:Blk}{f:Nat→Option Nat}{q q':Option Nat}:(b.ren f).psame q q'↔b.psame q q':=by cases b<;>exact Iff.rfl
theorem BlkEvo.unren{b b':Blk}{f g:Nat→Option Nat}(h:BlkEvo (b.ren f) b'):BlkEvo b (b'.ren g):=by
 cases b with
 | var t K v=>cases h with|gone=>exact .gone _|var=>exact .var ..
 | row e K xs=>cases h with|gone=>exact .gone _|row _ _ _ xs' hl=>exact .row _ _ _ _ hl
 | map KK KV es=>cases h with|gone=>exact .gone _|map=>exact .map ..|mm=>exact .map ..
 | ment KK KV es x g=>cases h with|gone=>exact .gone _|map=>exact .me ..|mm=>exact .me ..
 | stp=>cases h with|gone=>exact .gone _
 | ob t K o xs oh=>cases h with|gone=>exact .gone _|ob _ _ _ _ _ _ _ hl=>exact .ob _ _ _ _ _ _ _ hl
 | gone=>cases h;exact .gone _
 | free=>cases h;exact .gone _
theorem WH{b:Blk}{f:Nat→Option Nat}(h:b≠.free):b.ren f≠.free:=by cases b<;>simp_all [Blk.ren]
theorem Qs{a b:List Nat}(h:dJ a b=true):∀ x∈a,x ∉ b:=fun x hx hb=>by
 unfold dJ at h
 rw[List.all_eq_true] at h
 have:=h x hx
 simp[hb] at this
theorem nM(bid:Nat→List Nat):∀ (f:Nat) (l acc:List Nat),acc.Nodup→(dg bid f l acc).Nodup
 | 0,_,_,h=>h
 | _+1,[],_,h=>h
 | f+1,id::r,acc,h=>by
  simp only[dg]
  split
  ·exact nM bid f r acc h
  ·rename_i hc
   refine nM bid f _ _ ?_
   rw[List.nodup_append]
   refine⟨h,by simp,fun a ha b hb hab=>?_⟩
   simp at hb;subst hb;subst hab
   simp at hc;exact hc ha
theorem M1{l:List Nat}{id i:Nat}(h:aG l id=some i):l[i]?=some id:=by
 unfold aG at h
 split at h
 ·rename_i j hj
  cases h
  rw[List.findIdx?_eq_some_iff_getElem] at hj
  obtain⟨h1,h2,_⟩:=hj
  rw[List.getElem?_eq_getElem h1]
  simp at h2;rw[h2]
 ·cases h
theorem Dd{X:Cx}{hp:List Blk}(hX:X.hp=hp)(ok:Ok X){l:List Nat}(hl:l.Nodup){G:List Nat}(hG:∀ x∈G,x ∉ l) :
  ∃ Z:Cx,Z.w=X.w∧Z.hp=(l.map fun id=>(hp.getD id .gone).ren (aG l))∧Z.F=(fun b=>X.F b∨X.Held G b)∧Ok Z∧WEvo X Z∧Emb X Z (aG l) true∧∀ i,Z.ρ i=(l[i]?).bind X.ρ:=by
 subst hX
 have EM:Emb X ⟨fun i=>(l[i]?).bind X.ρ,l.map fun id=>(X.hp.getD id .gone).ren (aG l),fun b=>X.F b∨X.Held G b,X.w⟩ (aG l) true:=by
  refine⟨fun id i b hf hb=>?_,fun id i b hf hb=>?_,rfl,fun _ b hb=>.inl hb⟩
  ·have:=M1 hf
   simp only[List.getElem?_map,this,Option.map_some,List.getD_eq_getElem?_getD,hb,Option.getD_some]
  ·have:=M1 hf
   simp only[this,Option.bind_some]
 have at_:∀ (i:Nat) (b:Blk),(l.map fun id=>(X.hp.getD id .gone).ren (aG l))[i]?=some b→∃ id,l[i]?=some id∧b=(X.hp.getD id .gone).ren (aG l):=fun i b hb=>by
  rw[List.getElem?_map,Option.map_eq_some_iff] at hb
  obtain⟨id,h1,h2⟩:=hb
  exact⟨id,h1,h2.symm⟩
 have posOf:∀ i id,l[i]?=some id→aG l id=some i:=fun i id hi=>by
  unfold aG
  have:l.findIdx? (·==id)=some i:=by
   rw[List.findIdx?_eq_some_iff_getElem]
   obtain⟨h1,h2⟩:=List.getElem?_eq_some_iff.1 hi
   refine⟨h1,by simp[h2],fun j hj=>?_⟩
   simp only[beq_iff_eq,Bool.not_eq_true]
   have hne:l[j]'(by omega)≠id:=fun e=>by
    rw[← h2] at e
    exact(List.pairwise_iff_getElem.1 hl) j i (by omega) h1 hj e
   simpa using hne
  rw[this]
 have live:∀ (i:Nat) (b:Blk),(l.map fun id=>(X.hp.getD id .gone).ren (aG l))[i]?=some b→b.live=true→∃ (id:Nat) (c:Blk),l[i]?=some id∧X.hp[id]?=some c∧c.live=true∧b=c.ren (aG l):=fun i b hb hlv=>by
  obtain⟨id,h1,rfl⟩:=at_ i b hb
  rw[BlkEvo.ren] at hlv
  cases hc:X.hp[id]? with
  | none=>rw[List.getD_eq_getElem?_getD,hc] at hlv;cases hlv
  | some c=>rw[List.getD_eq_getElem?_getD,hc] at hlv ⊢;exact⟨id,c,h1,hc,hlv,rfl⟩
 have own:∀ b,Cx.Own ⟨fun i=>(l[i]?).bind X.ρ,l.map fun id=>(X.hp.getD id .gone).ren (aG l),fun b=>X.F b∨X.Held G b,X.w⟩ b→∃ (i id:Nat) (c:Blk),l[i]?=some id∧X.hp[id]?=some c∧c.at (X.ρ id) b:=fun b ⟨i,blk,h1,h3⟩=>by
  obtain⟨id,c,g1,g2,g3,rfl⟩:=live i blk h1 h3.live
  simp only[g1,Option.bind_some] at h3
  exact⟨i,id,c,g1,g2,Blk.at_ren.1 h3⟩
 refine⟨⟨fun i=>(l[i]?).bind X.ρ,l.map fun id=>(X.hp.getD id .gone).ren (aG l),fun b=>X.F b∨X.Held G b,X.w⟩,rfl,rfl,rfl,⟨fun i b hb=>?_,fun i i' b c c' h1 h3 h5 h6=>?_,fun b hb=>?_⟩,⟨rfl,rfl,rfl,Nat.le_refl _,fun _ c _ _ h=>⟨c,h,rfl⟩,fun _ _ _=>rfl,fun b _ ho=>?_,fun b hb=>.inl hb,fun b hb=>?_⟩,EM,fun _=>rfl⟩
 ·by_cases hlv:b.live=true
  ·obtain⟨id,c,g1,g2,g3,rfl⟩:=live i b hb hlv
   exact RB.emb EM (posOf i id g1) g2 (fun _=>rfl) (ok.blk id c g2)
  ·cases b<;>first|trivial|(simp[Blk.live] at hlv)
 ·obtain⟨id,d,g1,g2,g3,rfl⟩:=live i c h1 h5.live
  obtain⟨id',d',k1,k2,k3,rfl⟩:=live i' c' h3 h6.live
  simp only[g1,k1,Option.bind_some] at h5 h6
  have e:=ok.inj id id' b d d' g2 k2 (Blk.at_ren.1 h5) (Blk.at_ren.1 h6)
  subst e
  have:=posOf i id g1
  rw[posOf i' id k1] at this
  exact(Option.some.inj this).symm
 ·rcases hb with hb|⟨g,hg,blk,h1,h3⟩
  ·refine⟨(ok.fo b hb).1,fun ho=>?_⟩
   obtain⟨i,id,c,g1,g2,g4⟩:=own b ho
   exact(ok.fo b hb).2 ⟨id,c,g2,g4⟩
  ·refine⟨ok.lt ⟨g,blk,h1,h3⟩,fun ho=>?_⟩
   obtain⟨i,id,c,g1,g2,g4⟩:=own b ho
   have e:=ok.inj g id b blk c h1 g2 h3 g4
   subst e
   exact hG g hg (List.mem_of_getElem? g1)
 ·obtain⟨i,id,c,g1,g2,g4⟩:=own b ho
  exact⟨id,c,g2,g4⟩
 ·rcases hb with hb|⟨g,hg,blk,h1,h3⟩
  ·exact .inl hb
  ·exact .inr (.inl ⟨g,blk,h1,h3⟩)
theorem Dc{X:Cx}{hp:List Blk}(hX:X.hp=hp)(ok:Ok X){l:List Nat}(hl:l.Nodup){G:List Nat}(hG:∀ x∈G,x ∉ l) :
  ∃ Z:Cx,Z.w=X.w∧Z.hp=(l.map fun id=>(hp.getD id .gone).ren (aG l))∧Z.F=(fun b=>X.F b∨X.Held G b)∧Ok Z∧WEvo X Z∧Emb X Z (aG l) true:=by
 obtain⟨Z,h1,h2,h3,h4,h5,h6,_⟩:=Dd hX ok hl hG
 exact⟨Z,h1,h2,h3,h4,h5,h6⟩
theorem iG{l:List Nat}(hl:l.Nodup){i id:Nat}(hi:l[i]?=some id):aG l id=some i:=by
 unfold aG
 have:l.findIdx? (·==id)=some i:=by
  rw[List.findIdx?_eq_some_iff_getElem]
  obtain⟨h1,h2⟩:=List.getElem?_eq_some_iff.1 hi
  refine⟨h1,by simp[h2],fun j hj=>?_⟩
  simp only[beq_iff_eq,Bool.not_eq_true]
  have hne:l[j]'(by omega)≠id:=fun e=>by
   rw[← h2] at e
   exact(List.pairwise_iff_getElem.1 hl) j i (by omega) h1 hj e
  simpa using hne
 rw[this]
theorem M6{out:A}{sub:List (Nat×Blk)}{v:AV}{k:AV→Option A}(h:(iD sub v fun K xs=>k (.p (.sl K) xs))=some out)(hid:∃ id,v.ids=[id])(h1:∀ K x,v≠.p K x)(h2:∀ a b,v≠.pr a b)(hagg:v.agg=false) :
   ∃ K x,k (.p K x)=some out∧(∀ id∈v.ids,∃ c,sub.lookup id=some c∧c.live=true)∧∀ {X:Cx} {F:Nat→Prop} {cs:List Value},Ok X→(∀ (id:Nat) (b:Blk),sub.lookup id=some b→X.hp[id]?=some b)→
   (∀ b,X.F b→F b)→(∀ b,X.Held v.ids b→F b)→RA X v cs→RP F X.w K x cs∧v.agg=K.isAgg:=by
  obtain⟨K,ys,h',hl⟩:=CE h
  refine⟨.sl K,ys,h',?_,fun {X F cs} ok hs hF hH hr=>⟨?_,by rw[hagg];rfl⟩⟩
  ·obtain⟨id,hid⟩:=hid
   intro j hj
   rw[hid] at hj;simp at hj;subst hj
   cases v with
   | row i=>simp[AV.ids] at hid;subst hid;obtain⟨b,hb,h⟩:=b9 h;refine⟨b,hb,?_⟩;cases b<;>first|rfl|(cases h)
   | sub i _ _=>simp[AV.ids] at hid;subst hid;obtain⟨b,hb,h⟩:=b9 h;refine⟨b,hb,?_⟩;cases b<;>first|rfl|(cases h)
   | slc i _ _ _=>simp[AV.ids] at hid;subst hid;obtain⟨b,hb,h⟩:=b9 h;refine⟨b,hb,?_⟩;cases b<;>first|rfl|(cases h)
   | pr a b=>exact absurd rfl (h2 a b)
   | p K x=>exact absurd rfl (h1 K x)
   | ptr _ _=>simp[iD] at h
   | mp _=>simp[iD] at h
   | _=>simp[AV.ids] at hid
  ·obtain⟨u,rfl,h3⟩:=(RA.single h1 h2).1 hr
   have hany:v≠.any:=fun e=>by rw[e] at hid;obtain⟨_,h⟩:=hid;simp[AV.ids] at h
   have htup:∀ vs,v≠.tup vs:=fun vs e=>by rw[e] at hid;obtain⟨_,h⟩:=hid;simp[AV.ids] at h
   obtain⟨ao,c,rfl,h4,h5⟩:=(hl X u ok hs ((RS.one h1 h2 hany htup).2 h3)).get
   refine⟨ao,c,rfl,h4,fun hp=>?_⟩
   obtain⟨ad,css,rfl,h6,h7,h8⟩:=h5 hp
   refine⟨ad,css,rfl,?_,h7.imp fun _ _ _ _ hr=>RP.mono hF (fun _ _=>rfl) hr,h8⟩
   rcases h6 with h6|⟨id,hid,hρ,b,hb,hl⟩
   ·exact hF _ h6
   ·exact hH _ ⟨id,hid,b,hb,(dc hl).2 hρ⟩
theorem tn{out:A}{sub:List (Nat×Blk)}:∀ {v:AV} {k:AV→Option A},cW sub v k=some out→
  ∃ K x,k (.p K x)=some out∧(∀ id∈v.ids,∃ c,sub.lookup id=some c∧c.live=true)∧∀ {X:Cx} {F:Nat→Prop} {cs:List Value},Ok X→(∀ (id:Nat) (b:Blk),sub.lookup id=some b→X.hp[id]?=some b)→
   (∀ b,X.F b→F b)→(∀ b,X.Held v.ids b→F b)→RA X v cs→RP F X.w K x cs∧v.agg=K.isAgg
 | .p K x,k,h=>⟨K,x,h,by simp[AV.ids],fun {X F cs} ok hs hF hH hr=>⟨RP.mono hF (fun _ _=>rfl) hr,rfl⟩⟩
 | .pr a b,k,h=>by
  simp only[cW] at h
  obtain⟨K,x,h,s1,r1⟩:=tn h
  obtain⟨K',x',h,s2,r2⟩:=tn h
  refine⟨_,_,h,fun id hid=>?_,fun {X F cs} ok hs hF hH hr=>?_⟩
  ·simp only[AV.ids,List.mem_append] at hid
   exact hid.elim (s1 id) (s2 id)
  ·obtain⟨c1,c2,rfl,h1,h2⟩:=hr
   obtain⟨g1,_⟩:=r1 ok hs hF (fun b hb=>hH b (by obtain⟨id,h,r⟩:=hb;exact⟨id,by simp[AV.ids,h],r⟩)) h1
   obtain⟨g2,_⟩:=r2 ok hs hF (fun b hb=>hH b (by obtain⟨id,h,r⟩:=hb;exact⟨id,by simp[AV.ids,h],r⟩)) h2
   exact⟨⟨c1,c2,rfl,g1,g2⟩,rfl⟩
 | .row id,k,h=>M6 (v:=.row id) (by simpa[cW] using h) ⟨id,by simp[AV.ids]⟩ (by simp) (by simp) rfl
 | .sub id a b,k,h=>M6 (v:=.sub id a b) (by simpa[cW] using h) ⟨id,by simp[AV.ids]⟩ (by simp) (by simp) rfl
 | .slc id q a b,k,h=>M6 (v:=.slc id q a b) (by simpa[cW] using h) ⟨id,by simp[AV.ids]⟩ (by simp) (by simp) rfl
 | .any,k,h=>by simp[cW] at h
 | .ptr _ _,k,h=>by simp[cW] at h
 | .vp _ _,k,h=>by simp[cW] at h
 | .mp _,k,h=>by simp[cW] at h
 | .nilp,k,h=>by simp[cW] at h
 | .np _ _,k,h=>by simp[cW] at h
 | .fn _ _,k,h=>by simp[cW] at h
 | .tup _,k,h=>by simp[cW] at h
theorem M5{out:A}{sub:List (Nat×Blk)}{v:AV}{k:AV→Option A}(h:cW sub v k=some out) :
  ∃ K x,k (.p K x)=some out∧(∀ id∈v.ids,∃ c,sub.lookup id=some c∧c.live=true)∧∀ {X Z:Cx} {u:Value},Ok X→(∀ (id:Nat) (b:Blk),sub.lookup id=some b→X.hp[id]?=some b)→
   Z.w=X.w→(∀ b,X.F b→Z.F b)→(∀ b,X.Held v.ids b→Z.F b)→RS X v u→RS Z (.p K x) u:=by
 have h0:=h
 obtain⟨K,x,h,s1,r1⟩:=tn h
 refine⟨K,x,h,s1,fun {X Z u} ok hs hw hF hH hu=>?_⟩
 have htup:∀ ws,v≠.tup ws:=fun ws e=>by subst e;simp[cW] at h0
 have hany:v.isAny=false:=by cases v<;>first|rfl|(simp[cW] at h0)
 rcases hu.to0 htup with h3|⟨cs,h3,h4⟩
 ·rw[hany] at h3;cases h3
 ·obtain⟨g1,g2⟩:=r1 ok hs hF hH h3
  rw[← hw] at g1
  refine RS.of0 (.inr ⟨cs,g1,?_⟩) (by simp)
  rw[g2] at h4;exact h4
theorem CX{out:A}{sub:List (Nat×Blk)}:∀ {os:List Bool} {vs:List AV} {k:List AV→Option A},mU sub os vs k=some out→
  ∃ vs',k vs'=some out∧(∀ id∈dS os vs,∃ c,sub.lookup id=some c∧c.live=true)∧(∀ id∈vs'.flatMap AV.ids,∃ v∈vs,id∈v.ids)∧∀ {X Z:Cx} {f:Nat→Option Nat} {us:List Value},Ok X→(∀ (id:Nat) (b:Blk),sub.lookup id=some b→X.hp[id]?=some b)→
   Z.w=X.w→(∀ b,X.F b→Z.F b)→(∀ b,X.Held (dS os vs) b→Z.F b)→Emb X Z f true→All2 (RS X) vs us→All2 (RS Z) (vs'.map fun v=>v.ren f) us
 | os,[],k,h=>⟨[],by cases os with|nil=>exact h|cons b _=>cases b<;>exact h,by cases os with|nil=>simp[dS]|cons b _=>cases b<;>simp[dS],by simp,fun _ _ _ _ _ _ h=>by cases h;exact .nil⟩
 | true::os,v::vs,k,h=>by
  simp only[mU] at h
  obtain⟨vs',h,s2,s3,r2⟩:=CX h
  refine⟨_,h,by simpa[dS] using s2,fun id hid=>?_,fun {X Z f us} ok hs hw hF hH EM hr=>?_⟩
  ·rw[List.flatMap_cons,List.mem_append] at hid
   rcases hid with hid|hid
   ·exact⟨v,by simp,hid⟩
   ·obtain⟨w,hw,h⟩:=s3 id hid;exact⟨w,by simp[hw],h⟩
  ·cases hr with
   | @cons _ u _ us hu hr=>exact .cons (RS.emb EM (fun _=>rfl) hu) (r2 ok hs hw hF (by simpa[dS] using hH) EM hr)
 | false::os,v::vs,k,h=>by
  simp only[mU] at h
  obtain⟨K,x,h,s1,r1⟩:=M5 h
  obtain⟨vs',h,s2,s3,r2⟩:=CX h
  refine⟨_,h,fun id hid=>?_,fun id hid=>?_,fun {X Z f us} ok hs hw hF hH EM hr=>?_⟩
  ·simp only[dS,List.mem_append] at hid;exact hid.elim (s1 id) (s2 id)
  ·rw[List.flatMap_cons,List.mem_append] at hid
   rcases hid with hid|hid
   ·simp[AV.ids] at hid
   ·obtain⟨w,hw,h⟩:=s3 id hid;exact⟨w,by simp[hw],h⟩
  ·cases hr with
   | @cons _ u _ us hu hr=>
    exact .cons (r1 ok hs hw hF (fun b hb=>hH b (by obtain⟨id,h,r⟩:=hb;exact⟨id,by simp only[dS,List.mem_append];exact .inl h,r⟩)) hu)
     (r2 ok hs hw hF (fun b hb=>hH b (by obtain⟨id,h,r⟩:=hb;exact⟨id,by simp only[dS,List.mem_append];exact .inr h,r⟩)) EM hr)
 | [],v::vs,k,h=>by
  simp only[mU] at h
  obtain⟨K,x,h,s1,r1⟩:=M5 h
  obtain⟨vs',h,s2,s3,r2⟩:=CX h
  refine⟨_,h,fun id hid=>?_,fun id hid=>?_,fun {X Z f us} ok hs hw hF hH EM hr=>?_⟩
  ·simp only[dS,List.mem_append] at hid;exact hid.elim (s1 id) (s2 id)
  ·rw[List.flatMap_cons,List.mem_append] at hid
   rcases hid with hid|hid
   ·simp[AV.ids] at hid
   ·obtain⟨w,hw,h⟩:=s3 id hid;exact⟨w,by simp[hw],h⟩
  ·cases hr with
   | @cons _ u _ us hu hr=>
    exact .cons (r1 ok hs hw hF (fun b hb=>hH b (by obtain⟨id,h,r⟩:=hb;exact⟨id,by simp only[dS,List.mem_append];exact .inl h,r⟩)) hu)
     (r2 ok hs hw hF (fun b hb=>hH b (by obtain⟨id,h,r⟩:=hb;exact⟨id,by simp only[dS,List.mem_append];exact .inr h,r⟩)) EM hr)
theorem DP{P:Program}{E:Env A}{ev:Operand→AV}{out:A}:∀ {l:List (TypeId×Operand)} {k:List AV→Option A},lM E ev l k=some out→
  ∃ vs,k vs=some out∧(∀ v∈vs,∀ id∈v.ids,∃ q∈l,v=ev q.2)∧∀ (X:Cx) (a:Act),(∀ q∈l,RS X (ev q.2) (a.eval q.2))→All2 (RS X) vs (l.map fun q=>a.eval q.2)
 | [],k,h=>⟨[],h,by simp,fun _ _ _=>.nil⟩
 | (t,x)::r,k,h=>by
  simp only[lM,Pp] at h
  split at h
  ·obtain⟨i,_,h⟩:=bq h
   split at h
   ·rename_i K _
    obtain⟨vs,h,h1,h2⟩:=DP (P:=P) h
    refine⟨_,h,fun v hv id hid=>?_,fun X a hr=>.cons ?_ (h2 X a fun q hq=>hr q (by simp[hq]))⟩
    ·rcases List.mem_cons.1 hv with rfl|hv
     ·simp[AV.ids] at hid
     ·obtain⟨q,hq,e⟩:=h1 v hv id hid;exact⟨q,by simp[hq],e⟩
    ·exact RS.of0 (.inr ⟨[.slice none 0 0],⟨none,0,rfl,Nat.le_refl _,fun h=>absurd h (by simp)⟩,.inr ⟨rfl,rfl⟩⟩) (by simp)
   ·cases h
  ·obtain⟨vs,h,h1,h2⟩:=DP (P:=P) h
   refine⟨_,h,fun v hv id hid=>?_,fun X a hr=>.cons (hr (t,x) (by simp)) (h2 X a fun q hq=>hr q (by simp[hq]))⟩
   rcases List.mem_cons.1 hv with rfl|hv
   ·exact⟨(t,x),by simp,rfl⟩
   ·obtain⟨q,hq,e⟩:=h1 v hv id hid;exact⟨q,by simp[hq],e⟩
theorem RV.cap{X:Cx}{c:fg}{u:Value}:RV X c u↔aE X (gJ c) u:=by
 obtain⟨b,K,x⟩:=c
 cases b with
 | false=>
  constructor
  ·rintro(⟨_,ws,h1,h2⟩|⟨h,_⟩)
   ·exact .inr ⟨ws,h1,h2⟩
   ·cases h
  ·rintro(h|⟨ws,h1,h2⟩)
   ·cases h
   ·exact .inl ⟨rfl,ws,h1,h2⟩
 | true=>
  constructor
  ·rintro(⟨h,_⟩|⟨_,ad,cs,rfl,h1,h2,h3⟩)
   ·cases h
   ·exact .inr ⟨[.pointer (some ad)],⟨_,rfl,ad,cs,rfl,h1,h2,h3⟩,.inr ⟨rfl,rfl⟩⟩
  ·rintro(h|⟨ws,⟨v,rfl,ad,cs,rfl,h1,h2,h3⟩,h2'|⟨_,h⟩⟩)
   ·cases h
   ·exact absurd h2'.1 (by simp[gJ,AV.agg])
   ·cases h
    exact .inr ⟨rfl,ad,cs,rfl,h1,h2,h3⟩
theorem PL{c:fg}:∀ vs,gJ c≠.tup vs:=fun vs=>by obtain⟨b,K,x⟩:=c;cases b<;>simp[gJ]
theorem RV.args{X:Cx}{cap:List fg}{us:List Value}(h:All2 (RV X) cap us):All2 (RS X) (cap.map gJ) us:=by
 induction h with
 | nil=>exact .nil
 | cons h _ ih=>exact .cons (RS.of0 (RV.cap.1 h) PL) ih
theorem WE{l:List Nat}(hl:l.Nodup)(fresh:Nat):∀ {v:AV},v.ids.all l.contains=true→(v.ren1 (aG l)).ren1 (fun i=>some (bu l fresh i))=v:=by
 have key:∀ id,l.contains id=true→∃ i,aG l id=some i∧bu l fresh i=id:=fun id h=>by
  obtain⟨i,hi⟩:=List.mem_iff_getElem?.1 (by simpa using h)
  exact⟨i,iG hl hi,by unfold bu;rw[hi]⟩
 let rec go:∀ (v:AV),v.ids.all l.contains=true→(v.ren1 (aG l)).ren1 (fun i=>some (bu l fresh i))=v
  | .row id,h=>by obtain⟨i,h1,h2⟩:=key id (by simpa[AV.ids] using h);simp[AV.ren1,h1,h2]
  | .sub id a b,h=>by obtain⟨i,h1,h2⟩:=key id (by simpa[AV.ids] using h);simp[AV.ren1,h1,h2]
  | .ptr id q,h=>by obtain⟨i,h1,h2⟩:=key id (by simpa[AV.ids] using h);simp[AV.ren1,h1,h2]
  | .slc id q a b,h=>by obtain⟨i,h1,h2⟩:=key id (by simpa[AV.ids] using h);simp[AV.ren1,h1,h2]
  | .mp id,h=>by obtain⟨i,h1,h2⟩:=key id (by simpa[AV.ids] using h);simp[AV.ren1,h1,h2]
  | .pr a b,h=>by
   rw[AV.ids,List.all_append,Bool.and_eq_true] at h
   simp only[AV.ren1,go a h.1,go b h.2]
  | .any,_=>rfl
  | .p _ _,_=>rfl
  | .nilp,_=>rfl
  | .vp _ _,_=>rfl
  | .np _ _,_=>rfl
  | .fn _ _,_=>rfl
  | .tup _,_=>rfl
 exact fun {v} h=>go v h
theorem aaw{l:List Nat}(hl:l.Nodup)(fresh:Nat){b:Blk}(h:b.back l=true):(b.ren (aG l)).ren (fun i=>some (bu l fresh i))=b:=by
 cases b with
 | var t K v=>
  simp only[Blk.back,Bool.and_eq_true,Bool.not_eq_true'] at h
  have h1:∀ ws,v≠.tup ws:=fun ws e=>by subst e;cases h.1
  have h2:=WE hl fresh h.2
  have h3:∀ ws,v.ren1 (aG l)≠.tup ws:=fun ws e=>by rw[e] at h2;cases v<;>simp[AV.ren1] at h2 e<;>first|exact h1 _ rfl|(split at e<;>cases e)
  simp only[Blk.ren,Nj h1,Nj h3,h2]
 | ob t K o xs q=>
  cases q with
  | none=>rfl
  | some q=>
   simp only[Blk.back] at h
   simp only[Blk.ren,Option.map_some,WE hl fresh h]
 | ment _ _ _ _ _=>cases h
 | stp=>cases h
 | _=>rfl
theorem ajO{hp:List Blk}{id:Nat}{b:Blk}(h:hp[id]?=some b):aC hp id b=hp:=by
 apply List.ext_getElem?
 intro j
 by_cases hj:j=id
 ·subst hj;rw[dh,h]
 ·cases hh:hp[j]? with
  | some c=>exact et _ _ _ hj hh
  | none=>
   have h1:id<hp.length:=(List.getElem?_eq_some_iff.1 h).1
   have h2:hp.length≤j:=List.getElem?_eq_none_iff.1 hh
   rw[List.getElem?_eq_none_iff]
   have:(aC hp id b).length=hp.length:=by unfold aC;rw[if_pos h1,List.length_set]
   omega
theorem Pw:∀ (L:List (Nat×Blk)) (hp:List Blk),(∀ q∈L,hp[q.1]?=some q.2)→aR hp L=hp
 | [],_,_=>rfl
 | q::L,hp,h=>by
  have h1:=ajO (h q (by simp))
  show aR (aC hp q.1 q.2) L=hp
  rw[h1]
  exact Pw L hp fun q hq=>h q (by simp[hq])
theorem yj:∀ (L M:List (Nat×Blk)) (hp:List Blk),aR hp (L++M)=aR (aR hp L) M
 | [],_,_=>rfl
 | q::L,M,hp=>yj L M _
section
variable{P:Program}{E:Env A}{o:Oper}{ev:Operand→AV}{sub:List (Nat×Blk)}{fresh:Nat}{k:bX A}{out:A}
set_option maxHeartbeats 2000000 in
theorem PH(fns:cS P E)(hev:∀ g,ev (.global g)=eo E.gl g){f:FuncId}{c:Call}(marg:∀ x∈c.args,x∈o.op.operands)(cap:List fg)(hres:∀ (X:Cx) (a:Act),At X a o ev sub→∃ us:List Value,All2 (RV X) cap us∧(execOp a.eval o).run P X.w=(callFunc f (c.args.map a.eval++us.toArray)).run P X.w)(hsz:c.argTypes.size=c.args.size)(h:(lM E ev (c.argTypes.toList.zip c.args.toList) fun args=>rV E f (args++cap.map gJ) sub fresh k)=some out):∃ v l,k v l=some out∧aL P o ev sub fresh v l:=by
 have hzip:(c.argTypes.toList.zip c.args.toList).map (·.2)=c.args.toList:=by
  rw[List.map_snd_zip];simp[hsz]
 obtain⟨args,h,_,hargs⟩:=DP (P:=P) h
 unfold rV at h
 split at h
 ·cases h
 ·rename_i en hen
  obtain⟨vs,h,hsub,_,hpass⟩:=CX h
  have hnd:(dg (tz sub) 1000 (vs.flatMap AV.ids) []).Nodup:=nM _ _ _ _ (by simp)
  simp only at h
  generalize hl0:dg (tz sub) 1000 (vs.flatMap AV.ids) []=l at h hnd
  generalize hpid:dS en.own (args++cap.map gJ)=pid at h hsub hpass
  cases hchk:dJ pid l&&l.all (fun id=>((sub.lookup id).getD .free).there) with
  | false=>rw[hchk] at h;cases h
  | true=>
  rw[hchk] at h
  simp only[cond_true] at h
  rw[Bool.and_eq_true] at hchk
  have hdis:∀ x∈pid,x ∉ l:=Qs hchk.1
  have hlk:∀ id∈l,∃ c,sub.lookup id=some c∧c≠.free:=fun id hid=>by
   have:=(List.all_eq_true.1 hchk.2) id hid
   cases hq:sub.lookup id with
   | none=>rw[hq] at this;cases this
   | some c=>refine⟨c,rfl,fun e=>?_⟩;rw[hq,e] at this;cases this
  obtain⟨r,hp,h,hsem,hro⟩:=fns f en hen _ _ _ out h
  have gl:∀ i id,l[i]?=some id→bu l fresh i=id:=fun i id hi=>by unfold bu;rw[hi]
  have gn:∀ i,l.length≤i→bu l fresh i=fresh+(i-l.length):=fun i hi=>by unfold bu;rw[List.getElem?_eq_none hi]
  have main1:∀ q,q∈((bif r.hasSl||hp.any Blk.hasSl then pid.map fun id=>(id,Blk.gone) else[])++hp.zipIdx.map fun q=>(bu l fresh q.2,q.1.ren fun i=>some (bu l fresh i)))→fresh≤q.1∨∃ c,sub.lookup q.1=some c:=by
   intro q hq
   rcases List.mem_append.1 hq with hq|hq
   ·right
    cases hsl:(r.hasSl||hp.any Blk.hasSl) with
    | false=>rw[hsl] at hq;simp at hq
    | true=>
     rw[hsl] at hq
     simp only[cond_true,List.mem_map] at hq
     obtain⟨id,hid,rfl⟩:=hq
     obtain⟨c,hc,_⟩:=hsub id hid;exact⟨c,hc⟩
   ·simp only[List.mem_map] at hq
    obtain⟨p,_,rfl⟩:=hq
    rcases Nat.lt_or_ge p.2 l.length with hlt|hge
    ·right
     obtain⟨c,hc,_⟩:=hlk l[p.2] (List.getElem_mem hlt)
     exact⟨c,by rw[gl p.2 _ (List.getElem?_eq_getElem hlt)];exact hc⟩
    ·left;rw[gn _ hge];exact Nat.le_add_right _ _
  have main2:∀ (X:Cx) (a:Act) (Kc:Act→World→Prop) (Q:Exit→Act→World→Prop),At X a o ev sub→(∀ i,l.length≤i→i<hp.length→X.unused (bu l fresh i))→
    (∀ (Y:Cx) (u:Value),Y.hp=aR X.hp ((bif r.hasSl||hp.any Blk.hasSl then pid.map fun id=>(id,Blk.gone) else[])++hp.zipIdx.map fun q=>(bu l fresh q.2,q.1.ren fun i=>some (bu l fresh i)))→RS Y (r.ren fun i=>some (bu l fresh i)) u→Ok Y→WEvo X Y→HEvo X Y→Kc (a.put o.dst u) Y.w)→o.wp P a X.w Kc Q:=by
   intro X a Kc Q at_ hun hk
   obtain⟨C,cw,chp,cF,okC,WC,EC⟩:=Dc (X:=X) rfl at_.ok hnd hdis
   obtain⟨us,hus,hres⟩:=hres X a at_
   have hr0:All2 (RS X) (args++cap.map gJ) (c.args.map a.eval++us.toArray).toList:=by
    have:=hargs X a fun q hq=>at_.opr _ (marg _ (by have:=(List.of_mem_zip (a:=q.1) (b:=q.2) hq).2;simpa using this))
    rw[Array.toList_append,Array.toList_map,← hzip,List.map_map]
    exact All2.append this (RV.args hus)
   have hr1:All2 (RS C) (vs.map fun v=>v.ren (aG l)) (c.args.map a.eval++us.toArray).toList:=
    hpass at_.ok at_.sub cw (fun b hb=>by rw[cF];exact .inl hb) (fun b hb=>by rw[cF];exact .inr hb) EC hr0
   have hp0:C.hp=l.map fun id=>((sub.lookup id).getD .gone).ren (aG l):=by
    rw[chp]
    refine List.map_congr_left fun id hid=>?_
    obtain⟨c,hc,_⟩:=hlk id hid
    rw[List.getD_eq_getElem?_getD,at_.sub id c hc,hc]
   have hglo:d7 E.gl C:=d7.evo WC at_.ok.fo fun g=>by rw[← hev g];exact at_.glo g
   have hap:=hsem C (c.args.map a.eval++us.toArray) hp0 okC hglo hr1
   rw[cw,List.length_map] at hap
   have lX:∀ i id,l[i]?=some id→∃ c,X.hp[id]?=some c∧c≠.free∧C.hp[i]?=some (c.ren (aG l))∧C.ρ i=X.ρ id:=fun i id hi=>by
    obtain⟨c,hc,hn⟩:=hlk id (List.mem_of_getElem? hi)
    have hx:=at_.sub id c hc
    have hpo:=iG hnd hi
    exact⟨c,hx,hn,EC.hp id i c hpo hx,EC.ρ id i c hpo hx⟩
   have cown:∀ b,C.Own b→∃ id∈l,∃ blk:Blk,X.hp[id]?=some blk∧blk.at (X.ρ id) b:=fun b ⟨i,blk,h1,h3⟩=>by
    have hi:i<l.length:=by
     have:=(List.getElem?_eq_some_iff.1 h1).1
     rw[chp,List.length_map] at this;exact this
    obtain⟨c,g1,g2,g3,g4⟩:=lX i _ (List.getElem?_eq_getElem hi)
    rw[g3] at h1;cases h1
    rw[g4] at h3
    exact⟨_,List.getElem_mem hi,c,g1,Blk.at_ren.1 h3⟩
   have fin:∀ (u:Value) (w':World),(∃ Y:Cx,Y.w=w'∧Y.hp=hp∧RS Y r u∧Ok Y∧WEvo C Y∧PEvo l.length C Y)→Kc (a.put o.dst u) w':=by
    rintro u w' ⟨Y,rfl,rfl,hru,okY,W,V⟩
    generalize hsl:(r.hasSl||Y.hp.any Blk.hasSl)=sl at hk
    let L:List (Nat×Blk):=(bif sl then pid.map fun id=>(id,Blk.gone) else[])++Y.hp.zipIdx.map fun q=>(bu l fresh q.2,q.1.ren fun i=>some (bu l fresh i))
    let Z:Cx:=⟨fun id=>match aG l id with|some i=>Y.ρ i|none=>if fresh≤id∧id<fresh+(Y.hp.length-l.length) then Y.ρ (l.length+(id-fresh)) else X.ρ id,aR X.hp L,fun b=>if sl=true then Y.F b else X.F b,Y.w⟩
    have given:∀ i id,l[i]?=some id→∃ c b':Blk,X.hp[id]?=some c∧c≠.free∧Y.hp[i]?=some b'∧BlkEvo (c.ren (aG l)) b'∧c.psame (X.ρ id) (Y.ρ i):=fun i id hi=>by
     obtain⟨c,g1,g2,g3,g4⟩:=lX i id hi
     have hlt:=(List.getElem?_eq_some_iff.1 hi).1
     obtain⟨b',h1,h2⟩:=V.hp i _ hlt g3 (WH g2)
     exact⟨c,b',g1,g2,h1,h2,by rw[← g4];exact akZ.1 (V.ρ i _ hlt g3 (WH g2))⟩
    have newUn:∀ i,l.length≤i→i<Y.hp.length→X.unused (bu l fresh i):=fun i hge hi=>hun i hge hi
    have goneIn:∀ q∈L,(sl=true∧q.1∈pid∧q.2=.gone)∨∃ i b,Y.hp[i]?=some b∧q=(bu l fresh i,b.ren fun i=>some (bu l fresh i)):=fun q hq=>by
     rcases List.mem_append.1 hq with hq|hq
     ·cases hs:sl with
      | false=>rw[hs] at hq;simp at hq
      | true=>
       rw[hs] at hq
       simp only[cond_true,List.mem_map] at hq
       obtain⟨id,hid,rfl⟩:=hq
       exact .inl ⟨rfl,hid,rfl⟩
     ·simp only[List.mem_map] at hq
      obtain⟨p,hp,rfl⟩:=hq
      rw[List.mem_zipIdx_iff_getElem?] at hp
      exact .inr ⟨p.2,p.1,hp,rfl⟩
    have idsX:∀ id∈pid,∃ c,X.hp[id]?=some c∧c.live=true:=fun id hid=>by
     obtain⟨c,hc,hl⟩:=hsub id hid
     exact⟨c,at_.sub _ _ hc,hl⟩
    have notPid:∀ i,i<Y.hp.length→bu l fresh i ∉ pid:=fun i hi hid=>by
     rcases Nat.lt_or_ge i l.length with hlt|hge
     ·rw[gl i _ (List.getElem?_eq_getElem hlt)] at hid
      exact hdis _ hid (List.getElem_mem hlt)
     ·obtain⟨c,hc,hl⟩:=idsX _ hid
      exact(newUn i hge hi).ne hc (gc hl) rfl
    have ginj:∀ i j,i<Y.hp.length→j<Y.hp.length→bu l fresh i=bu l fresh j→i=j:=fun i j hi hj e=>by
     rcases Nat.lt_or_ge i l.length with h1|h1<;>rcases Nat.lt_or_ge j l.length with h2|h2
     ·rw[gl i _ (List.getElem?_eq_getElem h1),gl j _ (List.getElem?_eq_getElem h2)] at e
      have k1:=iG hnd (List.getElem?_eq_getElem h1)
      have k2:=iG hnd (List.getElem?_eq_getElem h2)
      rw[e,k2] at k1
      exact(Option.some.inj k1).symm
     ·obtain⟨c,_,g1,g2,_⟩:=given i _ (List.getElem?_eq_getElem h1)
      rw[gl i _ (List.getElem?_eq_getElem h1)] at e
      exact absurd e ((newUn j h2 hj).ne g1 g2)
     ·obtain⟨c,_,g1,g2,_⟩:=given j _ (List.getElem?_eq_getElem h2)
      rw[gl j _ (List.getElem?_eq_getElem h2)] at e
      exact absurd e.symm ((newUn i h1 hi).ne g1 g2)
     ·rw[gn i h1,gn j h2] at e;omega
    have getNew:∀ i b,Y.hp[i]?=some b→(aR X.hp L)[bu l fresh i]?=some (b.ren fun i=>some (bu l fresh i)):=fun i b hb=>by
     have hi:=(List.getElem?_eq_some_iff.1 hb).1
     refine i5 L _ _ _ (fun q hq hqi=>?_) ⟨(bu l fresh i,b.ren fun i=>some (bu l fresh i)),List.mem_append.2 (.inr ?_),rfl⟩
     ·rcases goneIn q hq with ⟨_,hid,_⟩|⟨i',b',hb',rfl⟩
      ·exact absurd (hqi▸hid) (notPid i hi)
      ·have:i'=i:=ginj i' i (List.getElem?_eq_some_iff.1 hb').1 hi hqi
       subst this;rw[hb] at hb';cases hb';rfl
     ·simp only[List.mem_map]
      exact⟨(b,i),by rw[List.mem_zipIdx_iff_getElem?];exact hb,rfl⟩
    have getGone:∀ id∈pid,sl=true→(aR X.hp L)[id]?=some .gone:=fun id hid hs=>by
     refine i5 L _ _ _ (fun q hq hqi=>?_) ⟨(id,.gone),List.mem_append.2 (.inl ?_),rfl⟩
     ·rcases goneIn q hq with ⟨_,_,h⟩|⟨i',b',hb',rfl⟩
      ·exact h
      ·simp only at hqi
       rw[← hqi] at hid
       exact absurd hid (notPid i' (List.getElem?_eq_some_iff.1 hb').1)
     ·rw[hs];simp only[cond_true,List.mem_map];exact⟨id,hid,rfl⟩
    have getOld:∀ id b,X.hp[id]?=some b→b≠.free→(sl=true→id ∉ pid)→id ∉ l→(aR X.hp L)[id]?=some b:=fun id b hb hn hs hnl=>by
     refine i6 L _ _ _ (fun q hq hqi=>?_) hb
     rcases goneIn q hq with ⟨h1,h2,_⟩|⟨i',b',hb',rfl⟩
     ·exact hs h1 (hqi▸h2)
     ·rcases Nat.lt_or_ge i' l.length with h1|h1
      ·simp only at hqi
       rw[gl i' _ (List.getElem?_eq_getElem h1)] at hqi
       exact hnl (hqi▸List.getElem_mem h1)
      ·exact(newUn i' h1 (List.getElem?_eq_some_iff.1 hb').1).ne hb hn hqi.symm
    have notNew:∀ id b,X.hp[id]?=some b→b≠.free→¬ (fresh≤id∧id<fresh+(Y.hp.length-l.length)):=fun id b hb hn hh=>by
     have h1:=newUn (l.length+(id-fresh)) (by omega) (by omega)
     rw[gn _ (by omega)] at h1
     exact h1.ne hb hn (by omega)
    have posNone:∀ id,id ∉ l→aG l id=none:=fun id hid=>by
     cases hp:aG l id with
     | none=>rfl
     | some i=>exact absurd (List.mem_of_getElem? (M1 hp)) hid
    have ρOld:∀ id b,X.hp[id]?=some b→b≠.free→id ∉ l→Z.ρ id=X.ρ id:=fun id b hb hn hnl=>by
     show(match aG l id with|some i=>Y.ρ i|none=>_)=_
     rw[posNone id hnl]
     exact if_neg (notNew id b hb hn)
    have ρNew:∀ i,i<Y.hp.length→Z.ρ (bu l fresh i)=Y.ρ i:=fun i hi=>by
     rcases Nat.lt_or_ge i l.length with h1|h1
     ·rw[gl i _ (List.getElem?_eq_getElem h1)]
      show(match aG l l[i] with|some i=>Y.ρ i|none=>_)=_
      rw[iG hnd (List.getElem?_eq_getElem h1)]
     ·have hnl:bu l fresh i ∉ l:=fun hin=>by
       obtain⟨k,hk⟩:=List.mem_iff_getElem?.1 hin
       obtain⟨c,_,g1,g2,_⟩:=given k _ hk
       exact(newUn i h1 hi).ne g1 g2 rfl
      show(match aG l (bu l fresh i) with|some i=>Y.ρ i|none=>_)=_
      rw[posNone _ hnl,gn i h1]
      show(if _ then _ else _)=_
      rw[if_pos ⟨Nat.le_add_right _ _,by omega⟩]
      congr 1;omega
    have cs:∀ id c,(aR X.hp L)[id]?=some c→c.live=true→(∃ i b,Y.hp[i]?=some b∧b.live=true∧id=bu l fresh i∧c=b.ren fun i=>some (bu l fresh i))∨(X.hp[id]?=some c∧(sl=true→id ∉ pid)∧id ∉ l):=fun id c hc hl=>by
     by_cases hin:id∈l
     ·obtain⟨i,hi⟩:=List.mem_iff_getElem?.1 hin
      obtain⟨_,b',_,_,g1,_,_⟩:=given i id hi
      have h1:=getNew i b' g1
      rw[gl i id hi] at h1
      rw[h1] at hc;cases hc
      exact .inl ⟨i,b',g1,by rw[← BlkEvo.ren];exact hl,(gl i id hi).symm,rfl⟩
     ·rcases rR L _ _ _ hc with ⟨q,hq,rfl,rfl⟩|⟨hq,h|rfl⟩
      ·rcases goneIn q hq with ⟨_,_,h⟩|⟨i',b',hb',rfl⟩
       ·rw[h] at hl;cases hl
       ·exact .inl ⟨i',b',hb',by rw[← BlkEvo.ren];exact hl,rfl,rfl⟩
      ·exact .inr ⟨h,fun hs hid=>(by have:=getGone id hid hs;rw[this] at hc;cases hc;cases hl),hin⟩
      ·cases hl
    have csize:C.w.heap.size=X.w.heap.size:=by rw[cw]
    have yown:∀ b,b<X.w.heap.size→Y.Own b→∃ id∈l,∃ blk:Blk,X.hp[id]?=some blk∧blk.at (X.ρ id) b:=fun b hlt hb=>cown b (W.own b (by rw[csize];exact hlt) hb)
    have Wk:∀ b,b<X.w.heap.size→(∀ id∈l,∀ blk:Blk,X.hp[id]?=some blk→¬ blk.at (X.ρ id) b)→Y.w.heap[b]?=X.w.heap[b]?:=fun b hb hn=>by
     rw[W.keep b (by rw[csize];exact hb) (fun ho=>by obtain⟨id,h1,blk,h2,h4⟩:=cown b ho;exact hn id h1 blk h2 h4),cw]
    have zown:∀ b,Z.Own b→(∃ (i:Nat) (blk:Blk),Y.hp[i]?=some blk∧blk.at (Y.ρ i) b)∨∃ (id:Nat) (blk:Blk),X.hp[id]?=some blk∧blk.at (X.ρ id) b∧(sl=true→id ∉ pid)∧id ∉ l:=fun b ⟨id,blk,h1,h3⟩=>by
     rcases cs id blk h1 h3.live with ⟨i,b',g1,g2,rfl,rfl⟩|⟨g1,g2⟩
     ·rw[ρNew i (List.getElem?_eq_some_iff.1 g1).1] at h3
      exact .inl ⟨i,b',g1,Blk.at_ren.1 h3⟩
     ·rw[ρOld id blk g1 (gc h3.live) g2.2] at h3
      exact .inr ⟨id,blk,g1,h3,g2⟩
    have WZ:WEvo X Z:=by
     refine⟨by rw[← cw];exact W.os,by rw[← cw];exact W.tape,by rw[← cw];exact W.output,by rw[← cw];exact W.size,by rw[← cw];exact W.shape,fun b hb ho=>Wk b hb fun id _ blk h2 h4=>ho ⟨id,blk,h2,h4⟩,fun b hb ho=>?_,fun b hb=>?_,fun b hb=>?_⟩
     ·rcases zown b ho with ⟨i,blk,g1,g3⟩|⟨id,blk,g1,g3,_⟩
      ·obtain⟨id,_,blk',k1,k3⟩:=yown b hb ⟨i,blk,g1,g3⟩;exact⟨id,blk',k1,k3⟩
      ·exact⟨id,blk,g1,g3⟩
     ·show if sl=true then _ else _
      split
      ·exact W.fmono b (by rw[cF];exact .inl hb)
      ·exact hb
     ·have hb:if sl=true then Y.F b else X.F b:=hb
      split at hb
      ·rcases W.fnew b hb with h1|h1|h1
       ·rw[cF] at h1
        rcases h1 with h1|⟨id,_,blk,h1,h3⟩
        ·exact .inl h1
        ·exact .inr (.inl ⟨id,blk,h1,h3⟩)
       ·obtain⟨id,_,blk,k1,k3⟩:=cown b h1;exact .inr (.inl ⟨id,blk,k1,k3⟩)
       ·exact .inr (.inr (by rw[← csize];exact h1))
      ·exact .inl hb
    have HZ:HEvo X Z:=by
     refine⟨fun id b hb hn=>?_,fun id b hb hn=>?_⟩
     ·by_cases hin:id∈l
      ·obtain⟨i,hi⟩:=List.mem_iff_getElem?.1 hin
       obtain⟨c,b',k1,_,g1,g2,_⟩:=given i id hi
       rw[hb] at k1;cases k1
       have h1:=getNew i b' g1
       rw[gl i id hi] at h1
       exact⟨_,h1,g2.unren⟩
      ·by_cases hg:sl=true∧id∈pid
       ·exact⟨.gone,getGone id hg.2 hg.1,.gone _⟩
       ·exact⟨b,getOld id b hb hn (fun h1 h2=>hg ⟨h1,h2⟩) hin,.refl hn⟩
     ·by_cases hin:id∈l
      ·obtain⟨i,hi⟩:=List.mem_iff_getElem?.1 hin
       obtain⟨c,b',k1,_,_,_,g3⟩:=given i id hi
       rw[hb] at k1;cases k1
       show b.psame _ (match aG l id with|some i=>Y.ρ i|none=>_)
       rw[iG hnd hi]
       exact g3
      ·rw[ρOld id b hb hn hin];exact .rfl
    have EM:Emb Y Z (fun i=>some (bu l fresh i)) sl:=by
     refine⟨fun id i b hf hb=>?_,fun id i b hf hb=>?_,rfl,fun hs b hb=>?_⟩
     ·simp only[Option.some.injEq] at hf;subst hf;exact getNew id b hb
     ·simp only[Option.some.injEq] at hf;subst hf;exact ρNew id (List.getElem?_eq_some_iff.1 hb).1
     ·show if sl=true then _ else _
      rw[if_pos hs];exact hb
    refine hk Z u rfl (RS.emb EM (fun h=>by rw[← hsl,h];rfl) hru) ⟨fun id b hb=>?_,fun id id' b c c' h1 h3 h5 h6=>?_,fun b hb=>?_⟩ WZ HZ
    ·by_cases hl:b.live=true
     ·rcases cs id b hb hl with ⟨i,b',g1,g2,rfl,rfl⟩|⟨g1,g2,g3⟩
      ·refine RB.emb EM rfl g1 (fun h=>?_) (okY.blk i b' g1)
       rw[← hsl,Bool.or_eq_true];right
       rw[List.any_eq_true];exact⟨b',List.mem_of_getElem? g1,h⟩
      ·exact(at_.ok.blk id b g1).evo WZ HZ at_.ok.fo (ρOld id b g1 (gc hl) g3) fun n hn=>Wk n (at_.ok.lt ⟨id,b,g1,hn⟩) fun id' hid' blk' k1 k3=>g3 (at_.ok.inj id id' n b blk' g1 k1 hn k3▸hid')
     ·cases b<;>first|trivial|(simp[Blk.live] at hl)
    ·rcases cs id c h1 h5.live with ⟨i,b1,g1,g2,rfl,rfl⟩|⟨g1,_,g3⟩
     ·rw[ρNew i (List.getElem?_eq_some_iff.1 g1).1] at h5
      have h5:=Blk.at_ren.1 h5
      rcases cs id' c' h3 h6.live with ⟨i',b2,k1,k2,rfl,rfl⟩|⟨k1,_,k3⟩
      ·rw[ρNew i' (List.getElem?_eq_some_iff.1 k1).1] at h6
       rw[okY.inj i i' b b1 b2 g1 k1 h5 (Blk.at_ren.1 h6)]
      ·rw[ρOld id' c' k1 (gc h6.live) k3] at h6
       obtain⟨id2,m1,blk2,m2,m4⟩:=yown b (at_.ok.lt ⟨id',c',k1,h6⟩) ⟨i,b1,g1,h5⟩
       exact absurd (at_.ok.inj id' id2 b c' blk2 k1 m2 h6 m4▸m1) k3
     ·rw[ρOld id c g1 (gc h5.live) g3] at h5
      rcases cs id' c' h3 h6.live with ⟨i',b2,k1,k2,rfl,rfl⟩|⟨k1,_,k3⟩
      ·rw[ρNew i' (List.getElem?_eq_some_iff.1 k1).1] at h6
       obtain⟨id2,m1,blk2,m2,m4⟩:=yown b (at_.ok.lt ⟨id,c,g1,h5⟩) ⟨i',b2,k1,Blk.at_ren.1 h6⟩
       exact absurd (at_.ok.inj id id2 b c blk2 g1 m2 h5 m4▸m1) g3
      ·rw[ρOld id' c' k1 (gc h6.live) k3] at h6
       exact at_.ok.inj id id' b c c' g1 k1 h5 h6
    ·have hb:if sl=true then Y.F b else X.F b:=hb
     split at hb
     ·rename_i hs
      refine⟨(okY.fo b hb).1,fun ho=>?_⟩
      rcases zown b ho with ⟨i,blk,g1,g3⟩|⟨id,blk,g1,g3,g4,g5⟩
      ·exact(okY.fo b hb).2 ⟨i,blk,g1,g3⟩
      ·rcases W.fnew b hb with h1|h1|h1
       ·rw[cF] at h1
        rcases h1 with h1|⟨id',hid,blk',h1,h3⟩
        ·exact(at_.ok.fo b h1).2 ⟨id,blk,g1,g3⟩
        ·exact g4 hs (at_.ok.inj id id' b blk blk' g1 h1 g3 h3▸hid)
       ·obtain⟨id',k0,blk',k1,k3⟩:=cown b h1
        exact g5 (at_.ok.inj id id' b blk blk' g1 k1 g3 k3▸k0)
       ·rw[csize] at h1
        have:=at_.ok.lt ⟨id,blk,g1,g3⟩
        omega
     ·have hlt:=(at_.ok.fo b hb).1
      refine⟨Nat.lt_of_lt_of_le hlt (by rw[← csize];exact W.size),fun ho=>?_⟩
      rcases zown b ho with ⟨i,blk,g1,g3⟩|⟨id,blk,g1,g3,g4⟩
      ·obtain⟨id,_,blk',k1,k3⟩:=yown b hlt ⟨i,blk,g1,g3⟩
       exact(at_.ok.fo b hb).2 ⟨id,blk',k1,k3⟩
      ·exact(at_.ok.fo b hb).2 ⟨id,blk,g1,g3⟩
   obtain⟨nx,w1,hrun,hcase⟩:=hap
   have hexec:(execOp a.eval o).run P X.w=.ok nx w1:=by
    rw[hres];exact hrun
   unfold Oper.wp
   rw[hexec]
   rcases hcase with ⟨u,rfl,hu⟩|⟨rfl,hcalls⟩
   ·exact fin u w1 hu
   ·exact hcalls.mono fun e w' ⟨u,he,hu⟩=>by subst he;exact fin u w' hu
  have newIn:∀ i,l.length≤i→i<hp.length→∃ b,(b,i)∈hp.zipIdx.drop l.length:=fun i h1 h2=>by
   refine⟨hp[i],List.mem_iff_getElem?.2 ⟨i-l.length,?_⟩⟩
   rw[List.getElem?_drop,show l.length+(i-l.length)=i by omega]
   simp[h2]
  cases hr:en.ro with
  | false=>
   rw[hr] at h
   refine⟨_,_,h,main1,fun X a Kc Q at_ hun hk=>main2 X a Kc Q at_ (fun i h1 h2=>?_) hk⟩
   obtain⟨b,hb⟩:=newIn i h1 h2
   refine hun (bu l fresh i,b.ren fun i=>some (bu l fresh i)) (List.mem_append.2 (.inr ?_)) (by rw[gn i h1];exact Nat.le_add_right _ _)
   exact List.mem_map.2 ⟨(b,i),List.mem_of_mem_drop hb,rfl⟩
  | true=>
   rw[hr] at h
   simp only[cond_true] at h
   cases hbk:l.all (fun id=>((sub.lookup id).getD .free).back l) with
   | false=>rw[hbk] at h;cases h
   | true=>
   rw[hbk] at h
   simp only[cond_true] at h
   have hsame:=hro hr
   rw[List.length_map] at hsame
   refine⟨_,_,h,fun q hq=>main1 q ?_,fun X a Kc Q at_ hun hk=>main2 X a Kc Q at_ (fun i h1 h2=>?_) fun Y u hY=>hk Y u ?_⟩
   ·rcases List.mem_append.1 hq with hq|hq
    ·exact List.mem_append.2 (.inl hq)
    ·obtain⟨p,hp1,rfl⟩:=List.mem_map.1 hq
     exact List.mem_append.2 (.inr (List.mem_map.2 ⟨p,List.mem_of_mem_drop hp1,rfl⟩))
   ·obtain⟨b,hb⟩:=newIn i h1 h2
    refine hun (bu l fresh i,b.ren fun i=>some (bu l fresh i)) (List.mem_append.2 (.inr ?_)) (by rw[gn i h1];exact Nat.le_add_right _ _)
    exact List.mem_map.2 ⟨(b,i),hb,rfl⟩
   ·rw[hY]
    have e1:hp.zipIdx=hp.zipIdx.take l.length++hp.zipIdx.drop l.length:=(List.take_append_drop _ _).symm
    conv=>lhs;rw[e1]
    rw[List.map_append,yj,yj,yj]
    congr 1
    refine Pw _ _ fun q hq=>?_
    obtain⟨p,hp1,rfl⟩:=List.mem_map.1 hq
    obtain⟨i,hi⟩:=List.mem_iff_getElem?.1 hp1
    rw[List.getElem?_take] at hi
    split at hi
    ·rename_i hlt
     rw[List.getElem?_zipIdx] at hi
     cases hpi:hp[i]? with
     | none=>rw[hpi] at hi;cases hi
     | some b=>
      rw[hpi] at hi
      simp only[Option.map_some,Nat.zero_add,Option.some.injEq] at hi
      subst hi
      have h2:(hp.take l.length)[i]?=some b:=by rw[List.getElem?_take,if_pos hlt,hpi]
      rw[hsame,List.getElem?_map,List.getElem?_eq_getElem hlt,Option.map_some,Option.some.injEq] at h2
      obtain⟨c,hc,_⟩:=hlk _ (List.getElem_mem hlt)
      have hb':=(List.all_eq_true.1 hbk) _ (List.getElem_mem hlt)
      rw[hc] at h2 hb'
      simp only[Option.getD_some] at h2 hb'
      rw[← h2]
      show(aR X.hp _)[bu l fresh i]?=some ((c.ren (aG l)).ren fun i=>some (bu l fresh i))
      rw[gl i _ (List.getElem?_eq_getElem hlt),aaw hnd fresh hb']
      refine i6 _ _ _ _ (fun q hq=>?_) (at_.sub _ _ hc)
      cases hsl:(r.hasSl||hp.any Blk.hasSl) with
      | false=>rw[hsl] at hq;simp at hq
      | true=>
       rw[hsl] at hq
       simp only[cond_true,List.mem_map] at hq
       obtain⟨id,hid,rfl⟩:=hq
       exact fun e=>hdis id hid ((show id=l[i] from e)▸List.getElem_mem hlt)
    ·cases hi
theorem aaK(fns:cS P E)(hev:∀ g,ev (.global g)=eo E.gl g){f:FuncId}{c:Call}(ho:o.op=.call c)(hc:c.callee=.value (.func f))(hsz:c.argTypes.size=c.args.size)(h:(lM E ev (c.argTypes.toList.zip c.args.toList) fun args=>rV E f args sub fresh k)=some out):∃ v l,k v l=some out∧aL P o ev sub fresh v l:=
 PH fns hev (f:=f) (c:=c) (fun x hx=>by simp[Op.operands,ho,Call.operands,hc,hx]) [] (fun X a _=>⟨[],.nil,by
  simp only[execOp,ho,resolve,hc,Act.eval,Deferred.ofValue,Sem.run_bind,Sem.run_pure,Result.andThen_ok,invoke,Array.append_empty,Array.empty_append]⟩) hsz (by simpa using h)
theorem aaL(fns:cS P E)(hev:∀ g,ev (.global g)=eo E.gl g){f:FuncId}{c:Call}{t:Tmp}{cap:List fg}(ho:o.op=.call c)(hc:c.callee=.value (.tmp t))(ht:ev (.tmp t)=.fn f cap)(hsz:c.argTypes.size=c.args.size)(h:(lM E ev (c.argTypes.toList.zip c.args.toList) fun args=>rV E f (args++cap.map gJ) sub fresh k)=some out):∃ v l,k v l=some out∧aL P o ev sub fresh v l:=
 PH fns hev (f:=f) (c:=c) (fun x hx=>by simp[Op.operands,ho,Call.operands,hc,hx]) cap (fun X a at_=>by
  have h1:=at_.opr (.tmp t) (by simp[Op.operands,ho,Call.operands,hc])
  rw[ht] at h1
  obtain⟨us,h2,h3⟩:=(RS.one (by simp) (by simp) (by simp) (by simp)).1 h1
  refine⟨us,h3,?_⟩
  simp only[execOp,ho,resolve,hc,h2,Deferred.ofValue,Sem.run_bind,Sem.run_pure,Result.andThen_ok,invoke,Array.empty_append]) hsz h
end
theorem U2(sub:List (Nat×Blk))(v:AV):(ep sub v=v∧cT sub v=[])∨(∃ K x,ep sub v=.p K x∧cT sub v=v.ids∧cW sub v (fun w=>some w)=some (.p K x)):=by
 unfold ep cT
 split
 ·exact .inl ⟨rfl,rfl⟩
 ·cases h:cW sub v (fun w=>some w) with
  | none=>exact .inl ⟨rfl,rfl⟩
  | some w=>
   obtain⟨K,x,h1,_⟩:=tn h
   cases h1
   exact .inr ⟨K,x,rfl,rfl,rfl⟩
theorem lN(G:List Nat)(hp:List Blk)(id:Nat)(b:Blk)(h:hp[id]?=some b)(hl:∀ g∈G,g<hp.length):(aR hp (G.map fun g=>(g,Blk.gone)))[id]?=some (if id∈G then .gone else b):=by
 by_cases hg:id∈G
 ·rw[if_pos hg]
  exact i5 _ _ _ _ (fun q hq _=>by obtain⟨g,_,rfl⟩:=List.mem_map.1 hq;rfl) ⟨(id,.gone),List.mem_map.2 ⟨id,hg,rfl⟩,rfl⟩
 ·rw[if_neg hg]
  refine i6 _ _ _ _ (fun q hq hj=>?_) h
  obtain⟨g,hg',rfl⟩:=List.mem_map.1 hq
  exact hg (hj▸hg')
theorem DS(L M:List (Nat×Blk)):∀ hp,aR hp (L++M)=aR (aR hp L) M:=by
 induction L with
 | nil=>intro hp;rfl
 | cons q r ih=>intro hp;exact ih _
theorem DT:∀ (G:List Nat) (hp:List Blk),(∀ g∈G,g<hp.length)→(aR hp (G.map fun g=>(g,Blk.gone))).length=hp.length
 | [],_,_=>rfl
 | g::r,hp,h=>by
  have e:(aC hp g .gone).length=hp.length:=by unfold aC;rw[if_pos (h g (by simp)),List.length_set]
  have:=DT r (aC hp g .gone) fun q hq=>by rw[e];exact h q (by simp[hq])
  exact this.trans e
theorem CF(G:List Nat)(id:Nat)(c:Blk):∀ sub:List (Nat×Blk),(sub.filter fun q=>!G.contains q.1).lookup id=some c→sub.lookup id=some c∧id ∉ G
 | [],h=>by cases h
 | q::r,h=>by
  rw[List.filter_cons] at h
  cases hq:G.contains q.1 with
  | true=>
   rw[hq] at h
   obtain⟨h1,h2⟩:=CF G id c r (by simpa using h)
   refine⟨?_,h2⟩
   rw[List.lookup_cons]
   have:(id==q.1)=false:=beq_eq_false_iff_ne.2 fun e=>h2 (by rw[e];simpa using hq)
   rw[this];exact h1
  | false=>
   rw[hq] at h
   simp only[Bool.not_false,if_true] at h
   rw[List.lookup_cons] at h ⊢
   cases he:id==q.1 with
   | true=>
    rw[he] at h
    exact⟨h,fun hg=>by rw[eq_of_beq he] at hg;simp[hg] at hq⟩
   | false=>
    rw[he] at h
    exact CF G id c r h
theorem V8{P:Program}{o:Oper}{ev:Operand→AV}{sub:List (Nat×Blk)}{fresh:Nat}{v:AV}{l:List (Nat×Blk)}(G:List Nat)(hG:∀ id∈G,∃ c,sub.lookup id=some c∧c.live=true)(hops:∀ x∈o.op.operands,∀ id∈cT sub (ev x),id∈G)(hglo:∀ g,ep sub (ev (.global g))=ev (.global g))(h:aL P o (fun x=>ep sub (ev x)) (sub.filter fun q=>!G.contains q.1) fresh v l):aL P o ev sub fresh v (G.map (fun g=>(g,Blk.gone))++l):=by
 have hlk:=fun id c=>CF G id c sub
 refine⟨fun q hq=>?_,fun X a K Q at_ hu hk=>?_⟩
 ·rcases List.mem_append.1 hq with hq|hq
  ·obtain⟨g,hg,rfl⟩:=List.mem_map.1 hq
   obtain⟨c,hc,_⟩:=hG g hg
   exact .inr ⟨c,hc⟩
  ·rcases h.1 q hq with h1|⟨c,h1⟩
   ·exact .inl h1
   ·exact .inr ⟨c,(hlk _ _ h1).1⟩
 ·
  have bE:∀ id∈G,∃ c,X.hp[id]?=some c∧c.live=true:=fun id hid=>by
   obtain⟨c,h1,h2⟩:=hG id hid
   exact⟨c,at_.sub _ _ h1,h2⟩
  have hlen:∀ g∈G,g<X.hp.length:=fun g hg=>by
   obtain⟨c,h1,_⟩:=bE g hg
   exact(List.getElem?_eq_some_iff.1 h1).1
  have hgl:(aR X.hp (G.map fun g=>(g,Blk.gone))).length=X.hp.length:=DT G X.hp hlen
  have back:∀ (id:Nat) (b:Blk),(aR X.hp (G.map fun g=>(g,Blk.gone)))[id]?=some b→(id∈G∧b=.gone)∨(id ∉ G∧X.hp[id]?=some b):=fun id b hb=>by
   have hlt:id<X.hp.length:=hgl▸(List.getElem?_eq_some_iff.1 hb).1
   have h1:=lN G X.hp id _ (List.getElem?_eq_getElem hlt) hlen
   rw[hb] at h1
   by_cases hg:id∈G
   ·rw[if_pos hg] at h1;exact .inl ⟨hg,Option.some.inj h1⟩
   ·rw[if_neg hg] at h1;exact .inr ⟨hg,by rw[List.getElem?_eq_getElem hlt];exact h1.symm⟩
  let X1:Cx:=⟨X.ρ,aR X.hp (G.map fun g=>(g,Blk.gone)),fun b=>X.F b∨X.Held G b,X.w⟩
  have own:∀ b,X1.Own b→X.Own b:=fun b ⟨id,blk,h1,h3⟩=>by
   rcases back id blk h1 with ⟨_,rfl⟩|⟨_,h4⟩
   ·exact h3.elim
   ·exact⟨id,blk,h4,h3⟩
  have W:WEvo X X1:=⟨rfl,rfl,rfl,Nat.le_refl _,fun _ c _ _ h=>⟨c,h,rfl⟩,fun _ _ _=>rfl,fun b _ ho=>own b ho,fun b hb=>.inl hb,fun b hb=>by
   rcases hb with hb|⟨g,hg,blk,h1,h3⟩
   ·exact .inl hb
   ·exact .inr (.inl ⟨g,blk,h1,h3⟩)⟩
  have H:HEvo X X1:=⟨fun id b hb hn=>by
   refine⟨_,lN G X.hp id b hb hlen,?_⟩
   split
   ·exact .gone _
   ·exact .refl hn,fun _ _ _ _=>.rfl⟩
  have ok1:Ok X1:=by
   refine⟨fun id b hb=>?_,fun id id' b c c' h1 h3 h5 h6=>?_,fun b hb=>?_⟩
   ·rcases back id b hb with ⟨_,rfl⟩|⟨_,h4⟩
    ·trivial
    ·exact(at_.ok.blk id b h4).evo W H at_.ok.fo rfl (fun _ _=>rfl)
   ·rcases back id c h1 with ⟨_,rfl⟩|⟨_,g1⟩
    ·exact h5.elim
    ·rcases back id' c' h3 with ⟨_,rfl⟩|⟨_,g2⟩
     ·exact h6.elim
     ·exact at_.ok.inj id id' b c c' g1 g2 h5 h6
   ·rcases hb with hb|⟨g,hg,blk,h1,h3⟩
    ·exact⟨(at_.ok.fo b hb).1,fun ho=>(at_.ok.fo b hb).2 (own b ho)⟩
    ·refine⟨at_.ok.lt ⟨g,blk,h1,h3⟩,fun⟨id,c,k1,k3⟩=>?_⟩
     rcases back id c k1 with ⟨_,rfl⟩|⟨hn,k4⟩
     ·exact k3.elim
     ·exact hn (at_.ok.inj g id b blk c h1 k4 h3 k3▸hg)
  have at1:At X1 a o (fun x=>ep sub (ev x)) (sub.filter fun q=>!G.contains q.1):=by
   refine⟨fun x hx=>?_,ok1,fun g=>?_,fun id b hb=>?_⟩
   ·rcases U2 sub (ev x) with ⟨h1,_⟩|⟨K',y,h1,h2,h3⟩
    ·simp only[h1]
     exact(at_.opr x hx).evo W H at_.ok.fo
    ·simp only[h1]
     obtain⟨K2,y2,e,_,r⟩:=M5 h3
     have e:AV.p K' y=.p K2 y2:=(Option.some.inj e).symm▸rfl
     rw[e]
     refine r at_.ok at_.sub rfl (fun b hb=>.inl hb) (fun b hb=>?_) (at_.opr x hx)
     obtain⟨id,hid,q⟩:=hb
     exact .inr ⟨id,hops x hx id (h2▸hid),q⟩
   ·simp only[hglo g]
    exact(at_.glo g).evo W H at_.ok.fo
   ·obtain⟨h1,h2⟩:=hlk id b hb
    have:=lN G X.hp id b (at_.sub _ _ h1) hlen
    rw[if_neg h2] at this
    exact this
  refine h.2 X1 a K Q at1 (fun q hq hf=>?_) fun Y u hY hv hok hW hH=>?_
  ·have hx:=hu q (List.mem_append.2 (.inr hq)) hf
   rcases hx with hx|hx
   ·left
    show(aR X.hp (G.map fun g=>(g,Blk.gone)))[q.1]?=none
    rw[List.getElem?_eq_none_iff,hgl]
    exact List.getElem?_eq_none_iff.1 hx
   ·right
    have:=lN G X.hp q.1 _ hx hlen
    rw[if_neg (fun hg=>by obtain⟨c,h1,h2⟩:=bE _ hg;rw[hx] at h1;cases h1;cases h2)] at this
    exact this
  ·exact hk Y u (by rw[DS];exact hY) hv hok (W.trans hW) (H.trans hH)
theorem U1{sub:List (Nat×Blk)}{v:AV}{id:Nat}(h:id∈cT sub v):∃ c,sub.lookup id=some c∧c.live=true:=by
 rcases U2 sub v with ⟨_,h1⟩|⟨K,x,_,h2,h3⟩
 ·rw[h1] at h;cases h
 ·obtain⟨_,_,_,s1,_⟩:=tn h3
  exact s1 id (h2▸h)
theorem U3{gl:GL}{sub:List (Nat×Blk)}{g:Nat}:ep sub (eo gl g)=eo gl g:=by
 unfold eo
 split<;>rfl
section
variable{P:Program}{E:Env A}(T:aO P E){o:Oper}{ev:Operand→AV}{sub:List (Nat×Blk)}{fresh:Nat}{k:bX A}{out:A}
include T in
theorem aaC{t:TypeId}{n:Nat}{ps:Array (Nat×Operand)}(hev:∀ g,ev (.global g)=eo E.gl g)(ho:o.op=.buildSlice t n ps)(h:(E.ti t fun i=>match i.d with
   | .slice e=>E.ti e fun j=>if n*j.K.size≤16777216 then sT n j.K (ps.toList.map fun q=>(q.1,gX (some j.K) q.2 (ep sub (ev q.2)))) (List.replicate n j.K.zero) fun l=>k (.row fresh) (((ps.toList.flatMap fun q=>cT sub (ev q.2)).map fun g=>(g,Blk.gone))++[(fresh,.row e j.K l)]) else none
   | _=>none)=some out):∃ v l,k v l=some out∧aL P o ev sub fresh v l:=by
 obtain⟨v,l,h1,h2⟩:=aaD (k:=fun v l=>k v (((ps.toList.flatMap fun q=>cT sub (ev q.2)).map fun g=>(g,Blk.gone))++l)) (ev:=fun x=>ep sub (ev x)) (sub:=sub.filter fun q=>!(ps.toList.flatMap fun q=>cT sub (ev q.2)).contains q.1) T ho h
 refine⟨_,_,h1,V8 _ (fun id hid=>?_) (fun x hx id hid=>?_) (fun g=>by rw[hev];exact U3) h2⟩
 ·obtain⟨q,_,hq⟩:=List.mem_flatMap.1 hid
  exact U1 hq
 ·simp only[Op.operands,ho,List.mem_toArray,List.mem_map] at hx
  obtain⟨q,hq,rfl⟩:=hx
  exact List.mem_flatMap.2 ⟨q,hq,hid⟩
include T in
theorem VN{t:TypeId}{m x y:Operand}(hev:∀ g,ev (.global g)=eo E.gl g)(ho:o.op=.mapUpdate t m x y∨o.op=.insert t m x y)(h:(MP E t (sub.filter fun q=>!(cT sub (ev m)++(cT sub (ev x)++cT sub (ev y))).contains q.1) (ep sub (ev m)) (ep sub (ev x)) (ep sub (ev y)) fun l=>k .any (((cT sub (ev m)++(cT sub (ev x)++cT sub (ev y))).map fun g=>(g,Blk.gone))++l))=some out):∃ v l,k v l=some out∧aL P o ev sub fresh v l:=by
 obtain⟨v,l,h1,h2⟩:=akp (k:=fun v l=>k v (((cT sub (ev m)++(cT sub (ev x)++cT sub (ev y))).map fun g=>(g,Blk.gone))++l)) (ev:=fun x=>ep sub (ev x)) (sub:=sub.filter fun q=>!(cT sub (ev m)++(cT sub (ev x)++cT sub (ev y))).contains q.1) T ho h
 refine⟨_,_,h1,V8 _ (fun id hid=>?_) (fun z hz id hid=>?_) (fun g=>by rw[hev];exact U3) h2⟩
 ·simp only[List.mem_append] at hid
  rcases hid with hid|hid|hid<;>exact U1 hid
 ·have:z=m∨z=x∨z=y:=by
   rcases ho with ho|ho<;>simpa[Op.operands,ho] using hz
  simp only[List.mem_append]
  rcases this with rfl|rfl|rfl
  ·exact .inl hid
  ·exact .inr (.inl hid)
  ·exact .inr (.inr hid)
end
def lw(b:Blk):Prop:=(∃ e K,b=.row e K [])∨∃ e K o,b=.ob e K o [] none
theorem akw{A:Type}{E:Env A}{e:TypeId}{K:Kind}:lw (E.nilRow e K):=by
 unfold Env.nilRow
 split
 ·exact .inr ⟨_,_,_,rfl⟩
 ·exact .inl ⟨_,_,rfl⟩
theorem lw.nf{b:Blk}(h:lw b):b≠.free:=by rcases h with ⟨_,_,rfl⟩|⟨_,_,_,rfl⟩<;>simp
theorem lw.rb{X:Cx}{id:Nat}{b:Blk}(h:lw b)(h2:X.ρ id=none):RB X id b:=by
 rcases h with ⟨_,_,rfl⟩|⟨_,_,_,rfl⟩
 ·exact .inl ⟨h2,rfl⟩
 ·exact .inl ⟨h2,rfl,rfl⟩
theorem lw.ps{b:Blk}(h:lw b){q:Option Nat}(hp:b.psame none q):q=none:=by
 rcases h with ⟨_,_,rfl⟩|⟨_,_,_,rfl⟩
 ·exact hp
 ·have hp:q.map br=none:=hp
  simpa using hp
def lx(fr:Nat):List (Nat×Blk)→Prop
 | []=>True
 | q::r=>q.1=fr∧lw q.2∧lx (fr+1) r
theorem lx.ge:∀ {fr:Nat} {l:List (Nat×Blk)},lx fr l→∀ q∈l,fr≤q.1
 | _,[],_,q,h=>by cases h
 | fr,p::r,⟨h1,_,h3⟩,q,h=>by
  rcases List.mem_cons.1 h with rfl|h
  ·omega
  ·have:=h3.ge q h;omega
theorem ant{out:A}{K:Kind}{fr:Nat}{k:AV→List (Nat×Blk)→Option A}(h:k (.p K K.zero) []=some out) :
  ∃ w l,k w l=some out∧w.fits K=true∧lx fr l∧∀ (X:Cx) (cs:List Value),bN K cs=true→(∀ q∈l,X.hp[q.1]?=some q.2∧X.ρ q.1=none)→RA X w cs:=
 ⟨.p K K.zero,[],h,by simp[AV.fits],trivial,fun X cs hz _=>kf hz⟩
theorem kg{out:A}{K:Kind}{fr:Nat}{k:AV→List (Nat×Blk)→Option A}{q:List Value→Prop}(h:k (.p K K.zero) []=some out) :
  ∃ w l,k w l=some out∧w.fits K=true∧lx fr l∧∀ (X:Cx) (cs:List Value),bN K cs=true→q cs→(∀ q∈l,X.hp[q.1]?=some q.2∧X.ρ q.1=none)→RA X w cs:=by
 obtain⟨w,l,h1,h2,h3,h4⟩:=ant (fr:=fr) h
 exact⟨w,l,h1,h2,h3,fun X cs hz _ hl=>h4 X cs hz hl⟩
theorem Dm{E:Env A}{fs:List Nat}{out:A}:∀ {K:Kind} {ts:List TypeId} {i fr:Nat} {k:AV→List (Nat×Blk)→Option A},fQ E fs K ts i fr k=some out→
  ∃ w l,k w l=some out∧w.fits K=true∧lx fr l∧∀ (X:Cx) (cs:List Value),bN K cs=true→tE E.ty ts K cs=true→(∀ q∈l,X.hp[q.1]?=some q.2∧X.ρ q.1=none)→RA X w cs
 | .pair a b,t::ts,i,fr,k,h=>by
  simp only[fQ] at h
  cases hc:(fs.contains i||fs.contains (i+100)) with
  | true=>
   rw[hc,cond_true] at h
   obtain⟨ti,hti,h⟩:=bq h
   split at h
   ·rename_i e hd
    obtain⟨j,hj,h⟩:=bq h
    split at h
    ·rename_i ha
     obtain⟨w,l,h,hf,hn,hs⟩:=Dm h
     refine⟨_,_,h,by subst ha;simp[AV.fits,hf],⟨rfl,akw,hn⟩,fun X cs hz hzp hl=>?_⟩
     simp only[bN,Bool.and_eq_true] at hz
     simp only[tE,Bool.and_eq_true] at hzp
     obtain⟨h1,h2⟩:=hl (fr,E.nilRow e j.K) (by simp)
     refine⟨cs.take a.size,cs.drop a.size,by simp,?_,hs X _ hz.2 hzp.2 fun q hq=>hl q (by simp[hq])⟩
     have hz1:=hz.1
     subst ha
     refine⟨.slice none 0 0,?_,?_⟩
     ·generalize cs.take (Kind.sl j.K).size=c at hz1
      match c,hz1 with
      | [.slice none 0 0],_=>rfl
      | [],h=>simp[bN] at h
      | v::_::_,h=>simp[bN] at h
      | [.slice (some _) _ _],h|[.slice none (_+1) _],h|[.slice none 0 (_+1)],h|[.bool _],h|[.int _ _],h|[.float _ _],h|[.complex _ _ _],h|[.string _],h|[.pointer _],h|[.map _],h|[.chan _],h|[.func _ _ _],h|[.nilFunc],h|[.iface _ _],h|[.nilIface],h|[.agg _],h|[.tuple _],h=>simp[bN] at h
     ·exact(RS.one (by simp) (by simp) (by simp) (by simp)).1 (VX h1 h2).2
    ·cases h
   ·rename_i e hd
    obtain⟨j,hj,h⟩:=bq h
    split at h
    ·rename_i ha
     obtain⟨w,l,hk1,hf1,hn1,hs1⟩:=Dm h
     subst ha
     refine⟨_,_,hk1,by cases fs.contains (i+100)<;>simp[AV.fits,hf1],hn1,fun X cs hz hzp hl=>?_⟩
     simp only[bN,Bool.and_eq_true] at hz
     simp only[tE,Bool.and_eq_true,hti] at hzp
     obtain⟨tK,td,tb,tc⟩:=ti
     simp only at hd
     subst hd
     refine⟨cs.take 1,cs.drop 1,(List.take_append_drop 1 cs).symm,?_,hs1 X _ hz.2 hzp.2 hl⟩
     have h1:=hzp.1
     simp only at h1
     match cs,h1 with
     | .pointer none::r,_=>
      cases fs.contains (i+100) with
      | true=>exact⟨_,rfl,rfl⟩
      | false=>exact⟨_,rfl,.inl ⟨rfl,rfl⟩⟩
    ·cases h
   ·cases h
  | false=>
   rw[hc,cond_false] at h
   obtain⟨w,l,h,hf,hn,hs⟩:=Dm h
   refine⟨_,_,h,v9 (by simp[AV.fits]) hf,hn,fun X cs hz hzp hl=>?_⟩
   simp only[bN,Bool.and_eq_true] at hz
   simp only[tE,Bool.and_eq_true] at hzp
   have:=v8 (X:=X) (a:=.p a a.zero) (b:=w) (c1:=cs.take a.size) (c2:=cs.drop a.size) (kf hz.1) (hs X _ hz.2 hzp.2 hl)
   rwa [List.take_append_drop] at this
 | .pair a b,[],i,fr,k,h=>kg (by simpa[fQ] using h)
 | .int _,_,i,fr,k,h=>kg (by simpa[fQ] using h)
 | .bool,_,i,fr,k,h=>kg (by simpa[fQ] using h)
 | .str,_,i,fr,k,h=>kg (by simpa[fQ] using h)
 | .opq,_,i,fr,k,h=>kg (by simpa[fQ] using h)
 | .unit,_,i,fr,k,h=>kg (by simpa[fQ] using h)
 | .arr _ _,_,i,fr,k,h=>kg (by simpa[fQ] using h)
 | .sl _,_,i,fr,k,h=>kg (by simpa[fQ] using h)
theorem Yj{E:Env A}{t:TypeId}{i:TI}{fr:Nat}{k:AV→List (Nat×Blk)→Option A}{out:A}(h:tD E t i fr k=some out) :
  ∃ w l,k w l=some out∧w.fits i.K=true∧lx fr l∧∀ (X:Cx) (cs:List Value),bN i.K cs=true→wO E.ty i.d i.K cs=true→(∀ q∈l,X.hp[q.1]?=some q.2∧X.ρ q.1=none)→RA X w cs:=by
 unfold tD at h
 split at h
 ·split at h
  ·rename_i ts hd
   rw[hd]
   exact Dm h
  ·cases h
 ·exact kg h
theorem Ns:∀ {l:List (Nat×Blk)} {fr:Nat} {X:Cx},lx fr l→Ok X→(∀ q∈l,X.unused q.1)→
  ∃ X1:Cx,X1.w=X.w∧X1.F=X.F∧X1.hp=aR X.hp l∧Ok X1∧WEvo X X1∧HEvo X X1∧(∀ q∈l,X1.hp[q.1]?=some q.2∧X1.ρ q.1=none)∧∀ id,X.unused id→(∀ q∈l,q.1≠id)→X1.unused id
 | [],fr,X,_,ok,_=>⟨X,rfl,rfl,rfl,ok,.refl X,.refl X,(fun q h=>by cases h),fun _ h _=>h⟩
 | q::r,fr,X,⟨h1,h2,h3⟩,ok,hu=>by
  have hun:=hu q (by simp)
  obtain⟨o1,o2,o3⟩:=MU ok hun (B:=q.2) (q:=none) (w':=X.w) (Y:=⟨bK X.ρ q.1 none,aC X.hp q.1 q.2,X.F,X.w⟩) rfl rfl rfl rfl (Nat.le_refl _) (fun _ _=>rfl) (fun _=>rfl) (fun _ h=>nomatch h) (fun W H=>h2.rb (ck ..))
  have keep:∀ id,X.unused id→id≠q.1→Cx.unused ⟨bK X.ρ q.1 none,aC X.hp q.1 q.2,X.F,X.w⟩ id:=fun id hid hne=>by
   unfold Cx.unused at hid ⊢
   simp only[jV]
   rw[if_neg hne]
   by_cases hl:id<X.hp.length
   ·rw[if_pos hl];exact hid
   ·rw[if_neg hl]
    split
    ·exact .inr rfl
    ·exact .inl rfl
  have hge:=h3.ge
  obtain⟨X1,g1,g2,g3,g4,g5,g6,g7,g8⟩:=Ns (X:=⟨bK X.ρ q.1 none,aC X.hp q.1 q.2,X.F,X.w⟩) h3 o1 fun p hp=>keep p.1 (hu p (by simp[hp])) (by have:=hge p hp;omega)
  refine⟨X1,g1,g2,g3,g4,o2.trans g5,o3.trans g6,fun p hp=>?_,fun id hid hne=>g8 id (keep id hid (fun e=>hne q (by simp) e.symm)) fun p hp=>hne p (by simp[hp])⟩
  rcases List.mem_cons.1 hp with rfl|hp
  ·obtain⟨b',k1,k2⟩:=g6.hp p.1 p.2 (dh ..) h2.nf
   have k3:=g6.ρ p.1 p.2 (dh ..) h2.nf
   simp only[ck] at k3
   refine⟨?_,h2.ps k3⟩
   rw[g3]
   exact i6 r _ p.1 p.2 (fun z hz=>by have:=hge z hz;omega) (dh ..)
  ·exact g7 p hp
section
variable{P:Program}{E:Env A}(T:aO P E){o:Oper}{ev:Operand→AV}{sub:List (Nat×Blk)}{fresh:Nat}{k:bX A}{out:A}
theorem aO.zeroCells{t:TypeId}{i:TI}(T:aO P E)(h:E.ty.lookup t=some i)(w:World):∃ z,(zeroValue t).run P w=.ok z w∧bN i.K z.cells.toList=true∧wO E.ty i.d i.K z.cells.toList=true:=by
 obtain⟨inf,d,h1,_⟩:=T.info h
 have:=T t i h
 unfold ke at this
 rw[h1] at this
 split at this
 ·rename_i inf' d' h3 h4
  cases h3
  simp only[Bool.and_eq_true] at this
  have hz:=this.1.1.2
  split at hz
  ·rename_i cs hcs
   simp only[Bool.and_eq_true] at hz
   exact⟨.agg cs,by simp[zeroValue,typeInfo,h1,hcs],hz.2⟩
  ·rename_i z hz1 hz2
   simp only[Bool.and_eq_true,Bool.not_eq_true'] at hz
   refine⟨z,by simp[zeroValue,typeInfo,h1,hz2],?_⟩
   have e:z.cells.toList=[z]:=by
    have:=hz.1.2
    cases z<;>first|rfl|(simp[Value.oneCell'] at this)
   rw[e];exact hz.2
  ·cases hz
 ·cases this
include T in
theorem aaj{t:TypeId}(ho:o.op=.alloc t)(h:(E.ti t fun i=>tD E t i (fresh+1) fun w l=>k (.ptr fresh []) (l++[(fresh,.var t i.K w)]))=some out):∃ v l,k v l=some out∧aL P o ev sub fresh v l:=by
 obtain⟨i,hi,h⟩:=bq h
 obtain⟨w,l,h,hf,hn,hs⟩:=Yj h
 have hge:=hn.ge
 refine⟨_,_,h,fun q hq=>?_,fun X a K Q at_ hu hk=>?_⟩
 ·rcases List.mem_append.1 hq with hq|hq
  ·have:=hge q hq;exact .inl (by omega)
  ·rw[List.mem_singleton] at hq;subst hq;exact .inl (Nat.le_refl _)
 ·obtain⟨X1,g1,g2,g3,g4,g5,g6,g7,g8⟩:=Ns hn at_.ok fun q hq=>hu q (List.mem_append.2 (.inl hq)) (by have:=hge q hq;omega)
  obtain⟨z,hz,hzb,hzp⟩:=T.zeroCells hi X.w
  have hun:X1.unused fresh:=g8 fresh (hu (fresh,.var t i.K w) (by simp) (Nat.le_refl _)) fun q hq=>by have:=hge q hq;omega
  have hra:=hs X1 _ hzb hzp g7
  obtain⟨o1,o2,o3⟩:=MU g4 hun (B:=.var t i.K w) (q:=some X1.w.heap.size) (w':=X1.w.alloc (.cells z.cells t)) (Y:=⟨bK X1.ρ fresh (some X1.w.heap.size),aC X1.hp fresh (.var t i.K w),X1.F,X1.w.alloc (.cells z.cells t)⟩) rfl rfl rfl rfl (by simp) (fun b hb=>heap_alloc_old X1.w _ hb) (fun h=>nomatch h) (fun n hn=>(Option.some.inj hn)▸Nat.le_refl _)
   fun W H=>⟨hf,X1.w.heap.size,z.cells.toList,ck ..,by simpa using heap_alloc_new X1.w (.cells z.cells t),hra.evo W H g4.fo⟩
  have hr:(execOp a.eval o).run P X.w=.ok (.value (.pointer (some ⟨X1.w.heap.size,0,none⟩))) (X1.w.alloc (.cells z.cells t)):=by
   rw[g1]
   simp[execOp,ho,Instr.alloc,hz,newVar,newRow]
  unfold Oper.wp;rw[hr]
  refine hk ⟨bK X1.ρ fresh (some X1.w.heap.size),aC X1.hp fresh (.var t i.K w),X1.F,X1.w.alloc (.cells z.cells t)⟩ _ ?_ (RS.ptr_new (dh ..) (ck ..)) o1 (g5.trans o2) (g6.trans o3)
  rw[DS,← g3];rfl
include T in
theorem aaE{t:TypeId}{ps:Array (Nat×Operand)}(ho:o.op=.build t ps)(h:(E.ti t fun i=>if i.d.agg then tD E t i fresh fun w l=>vP i.K (ps.toList.map fun q=>(q.1,gX (eY i.K [pU i.K q.1]) q.2 (ev q.2))) w (fun v'=>k v' l) else none)=some out):∃ v l,k v l=some out∧aL P o ev sub fresh v l:=by
 have mp:∀ q∈ps.toList,q.2∈o.op.operands:=fun q hq=>by
  simp only[Op.operands,ho]
  simp only[List.mem_toArray,List.mem_map]
  exact⟨q,hq,rfl⟩
 obtain⟨i,hi,h⟩:=bq h
 split at h
 ·rename_i hd
  obtain⟨w,l,h,hfit,hn,hs0⟩:=Yj h
  obtain⟨v,h,hf,hs⟩:=UJ h
  obtain⟨inf,z,hin,hz,hsz,_,_,hzr⟩:=T.zeroInfo hi
  have hge:=hn.ge
  have hpl:∃ place:Nat→Option (Nat×Nat),(∀ i' off K',az i.K [pU i.K i']=some (off,K')→place i'=some (off,K'.size))∧i.K.isAgg=true∧
    ∀ parts,P.built t parts=Instr.fill place z.cells parts:=by
   cases hdd:i.d with
   | array n e=>
    obtain⟨hu,j,hj,hK,hpos⟩:=T.array hi hdd
    obtain⟨ie,h3,h4⟩:=Option.map_eq_some_iff.1 (T.size hj)
    refine⟨fun i=>some (i*j.K.size,j.K.size),fun i' off K' hk=>?_,by rw[hK];rfl,fun parts=>by simp[Program.built,hin,hu,hz,h3,h4]⟩
    rw[hK] at hk
    simp only[pU,az] at hk
    split at hk
    ·simp[cL] at hk;obtain⟨rfl,rfl⟩:=hk;rfl
    ·cases hk
   | struct ts=>
    obtain⟨fs,hu,hb⟩:=T.struct hi hdd
    obtain⟨pl,h1,h2⟩:=UI (P:=P) (fun t j hj=>T.size hj) hb
    have hag:i.K.isAgg=true∧∀ i',pU i.K i'=.fld i':=by
     cases hK:i.K<;>rw[hK] at hb<;>first|exact⟨rfl,fun _=>rfl⟩|(cases hl:fs.toList<;>cases ts<;>simp[hl,aA] at hb)
    refine⟨(pl.toArray[·]?),fun i' off K' hk=>?_,hag.1,fun parts=>by simp only[Program.built,hin,hu,hz,h1]⟩
    rw[hag.2] at hk
    have:=h2 i' off K' hk
    simpa using this
   | _=>rw[hdd] at hd;simp[TD.agg] at hd
  obtain⟨place,hp1,hag,hp2⟩:=hpl
  have hv:=hf hfit
  have hna:v.isAny=false:=by
   cases hv':v.isAny with
   | false=>rfl
   | true=>cases v<;>first|(cases hv';done)|(cases hK:i.K<;>rw[hK] at hv hag<;>simp[AV.fits,Kind.isAgg] at hv hag)
  refine⟨_,_,h,fun q hq=>.inl (hge q hq),fun X ac K Q at_ hu hk=>?_⟩
  have hzb:bN i.K z.cells.toList=true∧wO E.ty i.d i.K z.cells.toList=true:=by
   obtain⟨z',h1,h2⟩:=T.zeroCells hi X.w
   have h3:(zeroValue t).run P X.w=.ok z X.w:=by simp[zeroValue,typeInfo,hin,hz]
   rw[h3] at h1
   cases h1;exact h2
  obtain⟨X1,g1,g2,g3,g4,g5,g6,g7,_⟩:=Ns hn at_.ok fun q hq=>hu q hq (hge q hq)
  obtain⟨cs',h1,h2⟩:=hs X1 ac.eval place z.cells.toList hp1 hfit (fun q hq=>(MV (at_.opr _ (mp q hq))).evo g5 g6 at_.ok.fo) (hs0 X1 _ hzb.1 hzb.2 g7)
  have hb:=run_build X.w t (ps.map fun q=>(q.1,ac.eval q.2)) cs'.toArray (by rw[hp2];simpa using h1)
  have hr:(execOp ac.eval o).run P X.w=.ok (.value (.agg cs'.toArray)) X.w:=by simp[execOp,ho,hb]
  unfold Oper.wp;rw[hr,← g1]
  exact hk X1 _ g3 (RS.of0 (.inr ⟨cs',h2,.inl ⟨by rw[sU hv hna,hag],rfl⟩⟩) (ji hv)) g4 g5 g6
 ·cases h
theorem D5{out:A}:∀ {vs:List AV} {k:List fg→Option A},d3 vs k=some out→∃ cs,k cs=some out∧vs=cs.map gJ
 | [],k,h=>⟨[],h,rfl⟩
 | .p K x::r,k,h=>by
  obtain⟨cs,h1,h2⟩:=D5 (vs:=r) (by simpa[d3] using h)
  exact⟨_,h1,by rw[h2];rfl⟩
 | .vp K x::r,k,h=>by
  obtain⟨cs,h1,h2⟩:=D5 (vs:=r) (by simpa[d3] using h)
  exact⟨_,h1,by rw[h2];rfl⟩
 | .any::_,k,h=>by simp[d3] at h
 | .pr _ _::_,k,h=>by simp[d3] at h
 | .row _::_,k,h=>by simp[d3] at h
 | .sub _ _ _::_,k,h=>by simp[d3] at h
 | .ptr _ _::_,k,h=>by simp[d3] at h
 | .slc _ _ _ _::_,k,h=>by simp[d3] at h
 | .mp _::_,k,h=>by simp[d3] at h
 | .nilp::_,k,h=>by simp[d3] at h
 | .np _ _::_,k,h=>by simp[d3] at h
 | .fn _ _::_,k,h=>by simp[d3] at h
 | .tup _::_,k,h=>by simp[d3] at h
theorem Yq{X:Cx}{cap:List fg}:∀ {us:List Value},All2 (RS X) (cap.map gJ) us→All2 (RV X) cap us:=by
 induction cap with
 | nil=>intro us h;cases h;exact .nil
 | cons q r ih=>
  intro us h
  cases h with
  | cons h1 h2=>exact .cons (RV.cap.2 (RS.to0 h1 PL)) (ih h2)
theorem akl{f:FuncId}{first captured:Array Operand}(ho:o.op=.makeFunc (.func f) first captured)(h:(if first.isEmpty=true then d3 (captured.toList.map ev) fun cs=>k (.fn f cs) [] else none)=some out) :
  ∃ v l,k v l=some out∧aL P o ev sub fresh v l:=by
 split at h
 ·rename_i he
  obtain⟨cs,h,hcs⟩:=D5 h
  refine⟨_,_,h,aZ fun X ac at_=>?_⟩
  have hf:first=#[]:=by simpa using he
  have hr:All2 (RS X) (captured.toList.map ev) (captured.toList.map ac.eval):=by
   have:∀ l:List Operand,(∀ x∈l,x∈o.op.operands)→All2 (RS X) (l.map ev) (l.map ac.eval):=fun l=>by
    induction l with
    | nil=>intro _;exact .nil
    | cons x l ih=>intro hl;exact .cons (at_.opr x (hl x (by simp))) (ih fun y hy=>hl y (by simp[hy]))
   exact this _ fun x hx=>by simp[Op.operands,ho,hf];simpa using hx
  rw[hcs] at hr
  refine⟨.func (.func f) #[] (captured.map ac.eval),by simp[execOp,ho,hf,Instr.makeFunc],?_⟩
  refine(RS.one (by simp) (by simp) (by simp) (by simp)).2 ⟨captured.toList.map ac.eval,?_,Yq hr⟩
  congr 1
  apply Array.toList_inj.1
  simp
 ·cases h
include T in
theorem aao{t:TypeId}{x:Operand}(ho:o.op=.sliceToArrayPointer t x)(h:DQ E t (ev x) (fun v=>k v [])=some out):∃ v l,k v l=some out∧aL P o ev sub fresh v l:=by
 have mx:x∈o.op.operands:=by simp[Op.operands,ho]
 unfold DQ at h
 obtain⟨i,hi,h⟩:=bq h
 split at h
 ·rename_i n e e' xs hK ex
  split at h
  ·rename_i he
   subst he
   split at h
   ·rename_i hn
    split at h
    ·rename_i hle
     refine⟨_,_,h,aZ fun X ac at_=>?_⟩
     have h1:=at_.opr x mx;rw[ex] at h1
     obtain⟨ao,cap,h2,_,h4⟩:=wC h1
     obtain⟨ad,css,rfl,hF,h5,h6⟩:=h4 (by omega)
     obtain⟨d,hu,hd⟩:=T.desc hi
     have hd':∃ e0,d=.array n e0:=by
      rw[hK] at hd
      cases d<;>cases hdi:i.d<;>simp[hdi] at hd
      ·obtain⟨⟨⟨rfl,rfl⟩,rfl⟩,_⟩:=hd;exact⟨_,rfl⟩
      ·rename_i fs ts
       cases hf:fs.toList<;>cases ts<;>simp[hf,aA] at hd
     obtain⟨e0,rfl⟩:=hd'
     refine⟨.pointer (some ad),?_,?_⟩
     ·simp only[execOp,ho,Instr.arrayAt,h2,Sem.run_bind,run_underlying hu,Result.andThen_ok]
      rw[if_neg (by omega)]
      rfl
     ·refine RS.vp (cs:=(css.take n).flatten) hF ⟨by simp;omega,css.take n,rfl,h5.take n⟩ fun j u hj=>?_
      refine h6 j u ?_
      conv=>rhs;rw[← hj]
      rw[← List.take_append_drop n css,List.flatten_append,List.take_append_drop]
      exact List.getElem?_append_left (List.getElem?_eq_some_iff.1 hj).1
    ·cases h
   ·cases h
  ·cases h
 ·cases h
theorem aaA{t:TypeId}{x:Operand}(ho:o.op=.box t x)(h:(bif E.nilAt o.dst then E.ti t fun i=>(match ev x with
   | .p K y=>if K=i.K then k (.vp K y) [] else none
   | _=>none)
  else E.ti t fun i=>if (ev x).isAny then none else if (ev x).fits i.K then k (.ptr fresh []) [(fresh,.var t i.K (ev x))] else none)=some out):∃ v l,k v l=some out∧aL P o ev sub fresh v l:=by
 cases hn:E.nilAt o.dst with
 | false=>rw[hn,cond_false] at h;exact aaz ho h
 | true=>
  rw[hn,cond_true] at h
  obtain⟨i,hi,h⟩:=bq h
  split at h
  ·rename_i K y ex
   split at h
   ·refine⟨_,_,h,V7 fun X a at_=>?_⟩
    have h1:=at_.opr x (by simp[Op.operands,ho])
    rw[ex] at h1
    have h1:aE X (.p K y) (a.eval x):=h1
    obtain⟨cs,hcs,hcells⟩:=h1.cells rfl
    have hcs:RP X.F X.w K y cs:=hcs
    refine⟨.pointer (some ⟨X.w.heap.size,0,none⟩),X.w.alloc (.cells cs.toArray t),?_,rfl,rfl,rfl,by simp,fun n hn=>heap_alloc_old X.w _ hn,by simp,fun Y hY=>?_⟩
    ·simp[execOp,ho,Instr.box,newVar,newRow,hcells]
    ·subst hY
     refine(RS.one (by simp) (by simp) (by simp) (by simp)).2 ⟨⟨X.w.heap.size,0,none⟩,cs,rfl,.inr rfl,hcs.mono (fun b hb=>.inl hb) (fun b hb=>heap_alloc_old X.w _ (at_.ok.fo b hb).1),fun j u hu=>?_⟩
     have ha:(Addr.mk X.w.heap.size 0 none).add j=⟨X.w.heap.size,j,none⟩:=by
      simp[Addr.add]
      intro h;exact h.symm
     rw[ha]
     have:=heap_alloc_new X.w (.cells cs.toArray t)
     simp only[World.cell?,this]
     simpa using hu
   ·cases h
  ·cases h
end
theorem ym:∀ {hs:List BSh0} {x:rS hs} {i:Nat} {d:Blk},(fE hs x)[i]?=some d→d.plain=true∧(∀ KK KV es y g,d≠.ment KK KV es y g)
 | [],_,_,_,h=>by simp[fE] at h
 | h::r,x,0,d,e=>by
  simp only[fE,List.getElem?_cons_zero,Option.some.injEq] at e
  subst e
  cases h<;>exact⟨rfl,fun _ _ _ _ _=>by simp[BSh0.fill]⟩
 | h::r,x,i+1,d,e=>by
  simp only[fE,List.getElem?_cons_succ] at e
  exact ym e
theorem gH:∀ {o:OKd} {x:o.den} {i:Nat} {d:Blk},(o.bl x)[i]?=some d→d.plain=true∧(∀ KK KV es y g,d≠.ment KK KV es y g)
 | .one _,_,_,_,h=>ym h
 | .two _ _,.inl _,_,_,h=>ym h
 | .two _ _,.inr _,_,_,h=>ym h
theorem ju.rb{X:Cx}{id:Nat}{d:Blk}(h:ju X id d):RB X id d:=by
 cases d with
 | var t K v=>exact h
 | row e K xs=>exact h
 | map KK KV es=>exact h
 | _=>exact h.elim
theorem RB.rb0{X:Cx}{id:Nat}{d:Blk}(hp:d.plain=true)(hm:∀ KK KV es y g,d≠.ment KK KV es y g)(h:RB X id d):ju X id d:=by
 cases d with
 | var t K v=>exact h
 | row e K xs=>exact h
 | map KK KV es=>exact h
 | ment KK KV es y g=>exact absurd rfl (hm _ _ _ _ _)
 | _=>cases hp
theorem aas:∀ {h:BSh0} {b:Blk} {x:h.den},h.read b=some x→b=h.fill x
 | .var t K h,b,x,hr=>by
  cases b<;>simp only[BSh0.read] at hr<;>first|(cases hr;done)|skip
  split at hr
  ·rename_i he;obtain⟨rfl,rfl⟩:=he;simp only[BSh0.fill];rw[← Sh.read_fill hr]
  ·cases hr
 | .row t K,b,x,hr=>by
  cases b<;>simp only[BSh0.read] at hr<;>first|(cases hr;done)|skip
  split at hr
  ·rename_i h;subst h
   split at hr
   ·rename_i h;subst h;cases hr;rfl
   ·cases hr
  ·cases hr
 | .map KK KV,b,x,hr=>by
  cases b<;>simp only[BSh0.read] at hr<;>first|(cases hr;done)|skip
  split at hr
  ·rename_i h;subst h
   split at hr
   ·rename_i h;subst h;cases hr;rfl
   ·cases hr
  ·cases hr
theorem Py:∀ {hs:List BSh0} {l:List Blk} {x:rS hs},yl hs l=some x→l=fE hs x
 | [],[],_,_=>rfl
 | h::r,v::vs,x,hr=>by
  simp only[yl] at hr
  split at hr
  ·rename_i h1 h2
   cases hr
   simp only[fE]
   rw[← aas h1,← Py h2]
  ·cases hr
 | [],_::_,_,h=>by cases h
 | _::_,[],_,h=>by cases h
theorem DL{a:OAlt}{v:AV}{l:List Blk}{x:a.den}(h:a.read v l=some x):v=a.el.fill x.1∧l=fE a.bl x.2:=by
 unfold OAlt.read at h
 split at h
 ·rename_i h1 h2
  cases h
  exact⟨Sh.read_fill h1,Py h2⟩
 ·cases h
theorem MY:∀ {o:OKd} {v:AV} {l:List Blk} {x:o.den},o.read v l=some x→v=o.el x∧l=o.bl x
 | .one a,v,l,x,h=>DL h
 | .two a b,v,l,x,h=>by
  simp only[OKd.read] at h
  split at h
  ·rename_i y hy
   cases h
   exact DL hy
  ·split at h
   ·rename_i y hy
    cases h
    exact DL hy
   ·cases h
theorem aaO{o:OKd}{x:o.den}{k:AV→List Blk→Option A}:o.caseK x k=k (o.el x) (o.bl x):=by
 cases o with
 | one a=>rfl
 | two a b=>cases x<;>rfl
theorem d9.congr{F:Nat→Prop}{w:World}{π π':eM}{o:OKd}{K:Kind}{x:o.den}{cs:List Value}(hπ:∀ i,i<(o.bl x).length→π' i=π i)(h:d9 F w π o K x cs):d9 F w π' o K x cs:=by
 have hlt:∀ {i:Nat} {b:Blk},(o.bl x)[i]?=some b→i<(o.bl x).length:=fun h=>(List.getElem?_eq_some_iff.1 h).1
 have D:DEvo ⟨π,o.bl x,F,w⟩ ⟨π',o.bl x,F,w⟩:=⟨fun _ c _ _ h=>⟨c,h,rfl⟩,fun _ h=>h,fun _ _=>rfl⟩
 have H:HEvo ⟨π,o.bl x,F,w⟩ ⟨π',o.bl x,F,w⟩:=⟨fun _ b h hb=>⟨b,h,.refl hb⟩,fun id b hb _=>by
  show b.psame (π id) (π' id)
  rw[hπ id (hlt hb)];exact .rfl⟩
 exact⟨h.1,h.2.1.devo D H,fun i d hd=>(h.2.2 i d hd).devo D H (hπ i (hlt hd)) fun _ _=>rfl⟩
theorem Yk{l:List Blk}{f:Nat→Nat}{g:Blk→Blk}{q:Nat×Blk}(h:q∈l.zipIdx.map fun q=>(f q.2,g q.1)):∃ i d,l[i]?=some d∧q=(f i,g d):=by
 simp only[List.mem_map] at h
 obtain⟨p,hp,rfl⟩:=h
 rw[List.mem_zipIdx_iff_getElem?] at hp
 exact⟨p.2,p.1,hp,rfl⟩
theorem Yl{l:List Blk}{f:Nat→Nat}{g:Blk→Blk}{i:Nat}{d:Blk}(h:l[i]?=some d):(f i,g d)∈l.zipIdx.map fun q=>(f q.2,g q.1):=by
 simp only[List.mem_map]
 exact⟨(d,i),by rw[List.mem_zipIdx_iff_getElem?];exact h,rfl⟩
theorem Qd{css:List (List Value)}{m:Nat}(h:∀ c∈css,c.length=m){j:Nat}{cs:List Value}(hj:css[j]?=some cs){q:Nat}{v:Value}(hq:cs[q]?=some v):css.flatten[j*m+q]?=some v:=by
 induction css generalizing j with
 | nil=>simp at hj
 | cons c r ih=>
  have hc:=h c (by simp)
  cases j with
  | zero=>
   simp only[List.getElem?_cons_zero,Option.some.injEq] at hj
   subst hj
   rw[List.flatten_cons,Nat.zero_mul,Nat.zero_add,List.getElem?_append_left (List.getElem?_eq_some_iff.1 hq).1]
   exact hq
  | succ j=>
   simp only[List.getElem?_cons_succ] at hj
   rw[List.flatten_cons,List.getElem?_append_right (by rw[Nat.add_mul];omega),hc,show(j+1)*m+q-m=j*m+q by rw[Nat.add_mul];omega]
   exact ih (fun c hc=>h c (by simp[hc])) hj
def Mq(id fresh:Nat)(t:TypeId)(K:Kind)(o:OKd)(xs:List o.den)(j:Nat)(x:o.den):List (Nat×Blk):=
 (id,.ob t K o xs (some (j,(o.el x).ren1 fun i=>some (fresh+i))))::(o.bl x).zipIdx.map fun q=>(fresh+q.2,q.1.ren fun i=>some (fresh+i))
theorem ajF{X:Cx}(ok:Ok X){id j fresh:Nat}{t:TypeId}{K:Kind}{o:OKd}{xs:List o.den}{x:o.den}(hB:X.hp[id]?=some (.ob t K o xs none))(hx:xs[j]?=some x)(hf:∀ i,i<(o.bl x).length→X.unused (fresh+i)) :
  ∃ Y:Cx,Y.w=X.w∧Y.hp=aR X.hp (Mq id fresh t K o xs j x)∧Ok Y∧WEvo X Y∧HEvo X Y∧
   ∃ p cs,X.ρ id=some p∧((o.el x).ren1 fun i=>some (fresh+i)).fits K=true∧RA Y ((o.el x).ren1 fun i=>some (fresh+i)) cs∧cs.length=K.size∧∀ q u,cs[q]?=some u→X.w.cell? ⟨br p,j*K.size+q,none⟩=some u:=by
 have hrb:=ok.blk id _ hB
 rcases hrb with ⟨h1,h2,_⟩|⟨p,cur,cap,css,h1,h2,h3,h4,h5,h6,h7,h8,h9,h10,h11,h12⟩
 ·have:=(List.getElem?_eq_some_iff.1 hx).1;omega
 obtain⟨cs,hcs⟩:=UW h6 (List.getElem?_eq_some_iff.1 hx).1
 have hob:=h11 j x cs hx hcs (fun v hv=>by cases hv)
 let f:Nat→Option Nat:=fun i=>some (fresh+i)
 let n:=(o.bl x).length
 let Y:Cx:=⟨fun i=>if fresh≤i∧i<fresh+n then bm p j (i-fresh) else X.ρ i,aR X.hp (Mq id fresh t K o xs j x),X.F,X.w⟩
 have inL:∀ q∈Mq id fresh t K o xs j x,q=(id,.ob t K o xs (some (j,(o.el x).ren1 f)))∨∃ i d,(o.bl x)[i]?=some d∧q=(fresh+i,d.ren f):=fun q hq=>by
  rcases List.mem_cons.1 hq with rfl|hq
  ·exact .inl rfl
  ·exact .inr (Yk hq)
 have lt:∀ {i:Nat} {d:Blk},(o.bl x)[i]?=some d→i<n:=fun h=>(List.getElem?_eq_some_iff.1 h).1
 have nid:∀ i,i<n→fresh+i≠id:=fun i hi e=>(hf i hi).ne hB (by simp) e.symm
 have gNew:∀ i d,(o.bl x)[i]?=some d→Y.hp[fresh+i]?=some (d.ren f):=fun i d hd=>by
  refine i5 _ _ _ _ (fun q hq e=>?_) ⟨_,List.mem_cons_of_mem _ (Yl hd),rfl⟩
  rcases inL q hq with rfl|⟨i',d',hd',rfl⟩
  ·exact absurd e.symm (nid i (lt hd))
  ·simp only at e
   have:i'=i:=by omega
   subst this;rw[hd] at hd';cases hd';rfl
 have gId:Y.hp[id]?=some (.ob t K o xs (some (j,(o.el x).ren1 f))):=by
  refine i5 _ _ _ _ (fun q hq e=>?_) ⟨_,List.mem_cons_self ..,rfl⟩
  rcases inL q hq with rfl|⟨i',d',hd',rfl⟩
  ·rfl
  ·exact absurd e (nid i' (lt hd'))
 have gOld:∀ k b,X.hp[k]?=some b→b≠.free→k≠id→Y.hp[k]?=some b:=fun k b hb hn hk=>by
  refine i6 _ _ _ _ (fun q hq e=>?_) hb
  rcases inL q hq with rfl|⟨i',d',hd',rfl⟩
  ·exact hk e.symm
  ·exact(hf i' (lt hd')).ne hb hn e.symm
 have cases':∀ k c,Y.hp[k]?=some c→c≠.free→(k=id∧c=.ob t K o xs (some (j,(o.el x).ren1 f)))∨(∃ i d,(o.bl x)[i]?=some d∧k=fresh+i∧c=d.ren f)∨(k≠id∧X.hp[k]?=some c):=fun k c hc hn=>by
  rcases rR _ _ _ _ hc with ⟨q,hq,rfl,rfl⟩|⟨hq,h|rfl⟩
  ·rcases inL q hq with rfl|⟨i,d,hd,rfl⟩
   ·exact .inl ⟨rfl,rfl⟩
   ·exact .inr (.inl ⟨i,d,hd,rfl,rfl⟩)
  ·exact .inr (.inr ⟨fun e=>hq _ (List.mem_cons_self ..) e.symm,h⟩)
  ·exact absurd rfl hn
 have ρNew:∀ i,i<n→Y.ρ (fresh+i)=bm p j i:=fun i hi=>by
  show(if _ then _ else _)=_
  rw[if_pos ⟨by omega,by omega⟩,Nat.add_sub_cancel_left]
 have ρOld:∀ k b,X.hp[k]?=some b→b≠.free→Y.ρ k=X.ρ k:=fun k b hb hn=>by
  show(if _ then _ else _)=_
  rw[if_neg]
  rintro⟨g1,g2⟩
  exact(hf (k-fresh) (by omega)).ne hb hn (by omega)
 have inner:∀ i b,i<n→bm p j i=some b→(Blk.ob t K o xs none).at (X.ρ id) b:=fun i b hi hb=>by
  exact⟨p,h1,.inr ⟨j,x,i,_,hx,(fun v hv=>by cases hv),List.getElem?_eq_getElem hi,hb⟩⟩
 have atId:∀ b,(Blk.ob t K o xs (some (j,(o.el x).ren1 f))).at (X.ρ id) b→(Blk.ob t K o xs none).at (X.ρ id) b∧∀ i,bm p j i≠some b:=fun b hb=>by
  obtain⟨p',g1,g2⟩:=hb
  rw[h1] at g1;cases g1
  rcases g2 with rfl|⟨j',x',i,d,g2,g3,g4,g5⟩
  ·exact⟨⟨p,h1,.inl rfl⟩,fun i=>h10 j i⟩
  ·refine⟨⟨p,h1,.inr ⟨j',x',i,d,g2,(fun v hv=>by cases hv),g4,g5⟩⟩,fun i' hi'=>?_⟩
   obtain⟨rfl,_⟩:=h9 _ _ _ _ _ hi' g5
   exact g3 _ rfl
 have own:∀ b,Y.Own b→X.Own b:=fun b ⟨k,c,g1,g2⟩=>by
  rcases cases' k c g1 (gc g2.live) with ⟨rfl,rfl⟩|⟨i,d,hd,rfl,rfl⟩|⟨_,g3⟩
  ·rw[ρOld _ _ hB (by simp)] at g2
   exact⟨_,_,hB,(atId b g2).1⟩
  ·rw[ρNew i (lt hd)] at g2
   exact⟨id,_,hB,inner i b (lt hd) ((dc (gH hd).1).1 (Blk.at_ren.1 g2))⟩
  ·rw[ρOld _ _ g3 (gc g2.live)] at g2
   exact⟨k,c,g3,g2⟩
 have W:WEvo X Y:=⟨rfl,rfl,rfl,Nat.le_refl _,fun _ c _ _ h=>⟨c,h,rfl⟩,fun _ _ _=>rfl,fun b _ h=>own b h,fun _ h=>h,fun _ h=>.inl h⟩
 have H:HEvo X Y:=⟨fun k b hb hn=>by
  by_cases hk:k=id
  ·subst hk;rw[hB] at hb;cases hb
   exact⟨_,gId,.ob _ _ _ _ _ _ _ rfl⟩
  ·exact⟨b,gOld k b hb hn hk,.refl hn⟩,fun k b hb hn=>by rw[ρOld k b hb hn];exact .rfl⟩
 have EM:Emb ⟨bm p j,o.bl x,X.F,X.w⟩ Y f true:=⟨fun i i' b hi hb=>by cases hi;exact gNew i b hb,fun i i' b hi hb=>by cases hi;exact ρNew i (lt hb),rfl,fun _ _ h=>h⟩
 have hra:RA Y ((o.el x).ren1 f) cs:=RA.emb EM (fun _=>rfl) hob.2.1
 refine⟨Y,rfl,rfl,⟨fun k c hc=>?_,fun k k' b c c' g1 g2 g3 g4=>?_,fun b hb=>⟨(ok.fo b hb).1,fun ho=>(ok.fo b hb).2 (own b ho)⟩⟩,W,H,p,cs,h1,mI hob.1,hra,h7 cs (List.mem_of_getElem? hcs),fun q u hu=>?_⟩
 ·by_cases hn:c=.free
  ·subst hn;trivial
  ·rcases cases' k c hc hn with ⟨rfl,rfl⟩|⟨i,d,hd,rfl,rfl⟩|⟨g1,g2⟩
   ·refine .inr ⟨p,cur,cap,css,by rw[ρOld _ _ hB (by simp)];exact h1,h2,h3,h4,h5,h6,h7,h8,h9,h10,fun j' x' cs' g1 g2 g3=>h11 j' x' cs' g1 g2 (fun v hv=>by cases hv),fun j' v hv=>?_⟩
    cases hv
    exact⟨mI hob.1,cs,hcs,hra⟩
   ·exact RB.emb EM rfl hd (fun _=>rfl) (hob.2.2 i d hd).rb
   ·exact(ok.blk k c g2).evo W H ok.fo (ρOld k c g2 hn) fun _ _=>rfl
 ·have n1:=gc g3.live
  have n2:=gc g4.live
  rcases cases' k c g1 n1 with ⟨rfl,rfl⟩|⟨i,d,hd,rfl,rfl⟩|⟨q1,q2⟩
  ·rw[ρOld _ _ hB (by simp)] at g3
   rcases cases' k' c' g2 n2 with ⟨rfl,rfl⟩|⟨i,d,hd,rfl,rfl⟩|⟨q1,q2⟩
   ·rfl
   ·rw[ρNew i (lt hd)] at g4
    exact absurd ((dc (gH hd).1).1 (Blk.at_ren.1 g4)) ((atId b g3).2 i)
   ·rw[ρOld _ _ q2 n2] at g4
    exact ok.inj _ _ b _ _ hB q2 (atId b g3).1 g4
  ·rw[ρNew i (lt hd)] at g3
   have g3:=(dc (gH hd).1).1 (Blk.at_ren.1 g3)
   rcases cases' k' c' g2 n2 with ⟨rfl,rfl⟩|⟨i',d',hd',rfl,rfl⟩|⟨q1,q2⟩
   ·rw[ρOld _ _ hB (by simp)] at g4
    exact absurd g3 ((atId b g4).2 i)
   ·rw[ρNew i' (lt hd')] at g4
    have g4:=(dc (gH hd').1).1 (Blk.at_ren.1 g4)
    rw[(h9 _ _ _ _ _ g3 g4).2]
   ·rw[ρOld _ _ q2 n2] at g4
    exact absurd (ok.inj _ _ b _ _ hB q2 (inner i b (lt hd) g3) g4).symm q1
  ·rw[ρOld _ _ q2 n1] at g3
   rcases cases' k' c' g2 n2 with ⟨rfl,rfl⟩|⟨i',d',hd',rfl,rfl⟩|⟨r1,r2⟩
   ·rw[ρOld _ _ hB (by simp)] at g4
    exact ok.inj _ _ b _ _ q2 hB g3 (atId b g4).1
   ·rw[ρNew i' (lt hd')] at g4
    have g4:=(dc (gH hd').1).1 (Blk.at_ren.1 g4)
    exact absurd (ok.inj _ _ b _ _ q2 hB g3 (inner i' b (lt hd') g4)) q1
   ·rw[ρOld _ _ r2 n2] at g4
    exact ok.inj _ _ b _ _ q2 r2 g3 g4
 ·rw[cell_of_row _ _ _ _ _ _ h2]
  have:=Qd h7 hcs hu
  rw[h8] at this
  rw[List.getElem?_take] at this
  split at this
  ·simpa using this
  ·cases this
end Go.Ev
namespace Go.Ev
variable{A:Type}
section
variable{P:Program}{E:Env A}(T:aO P E){o:Oper}{ev:Operand→AV}{sub:List (Nat×Blk)}{fresh:Nat}{k:bX A}{out:A}
include T
theorem akg{t:TypeId}{a:Operand}(ho:o.op=.load t a)(h:(MM sub (ev a) fresh fun y l=>E.ti t fun i=>if y.fits i.K then k y l else none)=some out):∃ v l,k v l=some out∧aL P o ev sub fresh v l:=by
 have ma:a∈o.op.operands:=by simp[Op.operands,ho]
 unfold MM at h
 split at h
 ·rename_i id j r ea
  obtain⟨B,hB,h⟩:=b9 h
  split at h
  ·rename_i te K ok xs
   obtain⟨x,hx,h⟩:=Option.bind_eq_some_iff.1 h
   rw[aaO] at h
   obtain⟨y,h,hs⟩:=jT h
   obtain⟨i,hi,h⟩:=bq h
   split at h
   ·rename_i hf
    refine⟨_,_,h,fun q hq=>?_,fun X ac Kc Q at_ hu hk=>?_⟩
    ·rcases List.mem_cons.1 hq with rfl|hq
     ·exact .inr ⟨_,hB⟩
     ·obtain⟨i',d,_,rfl⟩:=Yk hq
      exact .inl (Nat.le_add_right _ _)
    ·have hX:=at_.sub _ _ hB
     obtain⟨Y,hw,hhp,okY,W,H,p,cs,g1,g2,g3,g4,g5⟩:=ajF (fresh:=fresh) at_.ok hX hx fun i' hi'=>hu (fresh+i',((ok.bl x)[i']).ren fun i=>some (fresh+i)) (List.mem_cons_of_mem _ (Yl (List.getElem?_eq_getElem hi'))) (Nat.le_add_right _ _)
     have h1:=at_.opr a ma;rw[ea] at h1
     obtain⟨p',i',r',off,K1,hp,hlt,h2,h3,h4⟩:=(tF hX).1 ((RS.one (by simp) (by simp) (by simp) (by simp)).1 h1)
     simp only[List.cons.injEq,Hop.idx.injEq] at hp
     obtain⟨rfl,rfl⟩:=hp
     rw[g1] at h2;cases h2
     obtain⟨off',K',k1,k2,k3⟩:=hs g2 g3
     rw[h3] at k1;cases k1
     obtain⟨v,k4,k5⟩:=v5 (X:=Y) T hi hf (ad:=⟨br p,j*K.size+off,none⟩) k3 (w:=X.w) fun q u hq=>by
      rw[add_lit,show j*K.size+off+q=j*K.size+(off+q) by omega]
      exact g5 _ _ (ja hq)
     have hr:(execOp ac.eval o).run P X.w=.ok (.value v) X.w:=by simp[execOp,ho,h4,Instr.loadAt,Instr.sureAddr,k4]
     unfold Oper.wp;rw[hr,← hw]
     exact hk Y v hhp (RS.of0 k5 (ji hf)) okY W H
   ·cases h
  ·rename_i te K ok xs j' v
   split at h
   ·rename_i hj
    subst hj
    obtain⟨y,h,hs⟩:=jT h
    obtain⟨i,hi,h⟩:=bq h
    split at h
    ·rename_i hf
     exact⟨_,_,h,aZ fun X ac at_=>by
      have h1:=at_.opr a ma;rw[ea] at h1
      have hX:=at_.sub _ _ hB
      obtain⟨p',i',r',off,K1,hp,hlt,h2,h3,h4⟩:=(tF hX).1 ((RS.one (by simp) (by simp) (by simp) (by simp)).1 h1)
      simp only[List.cons.injEq,Hop.idx.injEq] at hp
      obtain⟨rfl,rfl⟩:=hp
      rcases at_.ok.blk _ _ hX with ⟨g1,_⟩|⟨p,cur,cap,css,g1,g2,_,_,_,g6,g7,g8,_,_,_,g12⟩
      ·rw[h2] at g1;cases g1
      ·rw[h2] at g1;cases g1
       obtain⟨q1,cs,q2,q3⟩:=g12 j v rfl
       obtain⟨off',K',k1,k2,k3⟩:=hs q1 q3
       rw[h3] at k1;cases k1
       obtain⟨u,k4,k5⟩:=v5 (X:=X) T hi hf (ad:=⟨br p',j*K.size+off,none⟩) k3 (w:=X.w) fun q u hq=>by
        rw[add_lit,cell_of_row _ _ _ _ _ _ g2,show j*K.size+off+q=j*K.size+(off+q) by omega]
        have:=Qd g7 q2 (ja hq)
        rw[g8,List.getElem?_take] at this
        split at this
        ·simpa using this
        ·cases this
       exact⟨u,by simp[execOp,ho,h4,Instr.loadAt,Instr.sureAddr,k4],RS.of0 k5 (ji hf)⟩⟩
    ·cases h
   ·cases h
  ·rw[← ea] at h
   exact VB T ho h
 ·exact VB T ho h
end
theorem abb{X:Cx}(ok:Ok X){id j:Nat}{t:TypeId}{K:Kind}{o:OKd}{xs:List o.den}{v:AV}(hB:X.hp[id]?=some (.ob t K o xs (some (j,v)))){l:List Nat}(hnd:l.Nodup)(hid:id ∉ l){x:o.den}(hread:o.read (v.ren1 (aG l)) (l.map fun i=>(X.hp.getD i .gone).ren (aG l))=some x) :
  ∃ Y:Cx,Y.w=X.w∧Y.hp=aR X.hp ((l.map fun i=>(i,Blk.gone))++[(id,.ob t K o (xs.set j x) none)])∧Ok Y∧WEvo X Y∧HEvo X Y:=by
 obtain⟨hel,hbl⟩:=MY hread
 obtain⟨Z,zw,zhp,zF,zok,zW,zE,zρ⟩:=Dd (X:=X) rfl ok hnd (G:=[]) (by simp)
 rw[hbl] at zhp
 have zFX:∀ b,Z.F b→X.F b:=fun b hb=>by
  rw[zF] at hb
  rcases hb with hb|⟨g,hg,_⟩
  ·exact hb
  ·cases hg
 have hlen:(o.bl x).length=l.length:=by rw[← hbl];simp
 have atL:∀ (i id':Nat),l[i]?=some id'→∃ c d:Blk,X.hp[id']?=some c∧(o.bl x)[i]?=some d∧d=c.ren (aG l)∧c.plain=true:=fun i id' hi=>by
  have hd:(o.bl x)[i]?=some ((X.hp.getD id' .gone).ren (aG l)):=by rw[← hbl];simp[hi]
  have hp:=(gH hd).1
  cases hc:X.hp[id']? with
  | none=>rw[List.getD_eq_getElem?_getD,hc] at hp;cases hp
  | some c=>
   rw[List.getD_eq_getElem?_getD,hc] at hp hd
   exact⟨c,_,rfl,hd,rfl,by cases c<;>first|rfl|exact hp⟩
 rcases ok.blk id _ hB with ⟨_,_,h3⟩|⟨p,cur,cap,css,h1,h2,h3,h4,h5,h6,h7,h8,h9,h10,h11,h12⟩
 ·cases h3
 obtain⟨hfit,cs,hcs,hra⟩:=h12 j v rfl
 have hj:j<xs.length:=by have:=(List.getElem?_eq_some_iff.1 hcs).1;omega
 let πs:List (Nat×eM):=(List.range xs.length).map fun j'=>if j'=j then(l.length,Z.ρ) else((match xs[j']? with|some x'=>(o.bl x').length|none=>0),bm p j')
 let p':=nQ (br p) πs
 have hroot:br p'=br p:=MX _ _
 have plJ:∀ i:Nat,bm p' j i=if i<l.length then Z.ρ i else none:=fun i=>by
  rw[CP]
  simp only[πs,List.getElem?_map,List.getElem?_range hj,Option.map_some,Option.bind_some,if_true]
 have plO:∀ (j' i:Nat),j'≠j→bm p' j' i=(xs[j']?).bind fun x'=>if i<(o.bl x').length then bm p j' i else none:=fun j' i hj'=>by
  rw[CP]
  by_cases hlt:j'<xs.length
  ·simp only[πs,List.getElem?_map,List.getElem?_range hlt,Option.map_some,Option.bind_some,if_neg hj',List.getElem?_eq_getElem hlt]
  ·simp only[πs,List.getElem?_map,List.getElem?_eq_none (show(List.range xs.length).length≤j' by simp;omega),Option.map_none,Option.bind_none,List.getElem?_eq_none (show xs.length≤j' by omega)]
 have ownJ:∀ (i b:Nat),bm p' j i=some b→∃ (id':Nat) (c:Blk),l[i]?=some id'∧X.hp[id']?=some c∧c.at (X.ρ id') b:=fun i b hb=>by
  rw[plJ] at hb
  split at hb
  ·rename_i hi
   rw[zρ,List.getElem?_eq_getElem hi] at hb
   obtain⟨c,d,g1,g2,g3,g4⟩:=atL i _ (List.getElem?_eq_getElem hi)
   exact⟨_,c,List.getElem?_eq_getElem hi,g1,(dc g4).2 hb⟩
  ·cases hb
 have ownO:∀ (j' i b:Nat),j'≠j→bm p' j' i=some b→bm p j' i=some b∧(Blk.ob t K o xs (some (j,v))).at (X.ρ id) b:=fun j' i b hj' hb=>by
  rw[plO j' i hj'] at hb
  obtain⟨x',hx',hb⟩:=Option.bind_eq_some_iff.1 hb
  split at hb
  ·rename_i hi
   exact⟨hb,p,h1,.inr ⟨j',x',i,_,hx',(fun w hw=>by cases hw;exact hj' rfl),List.getElem?_eq_getElem hi,hb⟩⟩
  ·cases hb
 have rootAt:(Blk.ob t K o xs (some (j,v))).at (X.ρ id) (br p):=⟨p,h1,.inl rfl⟩
 have apart:∀ (i b:Nat),bm p' j i=some b→¬ (Blk.ob t K o xs (some (j,v))).at (X.ρ id) b:=fun i b hb ha=>by
  obtain⟨id',c,g1,g2,g3⟩:=ownJ i b hb
  exact hid (ok.inj _ _ b _ _ hB g2 ha g3▸List.mem_of_getElem? g1)
 let B':Blk:=.ob t K o (xs.set j x) none
 let L:List (Nat×Blk):=(l.map fun i=>(i,Blk.gone))++[(id,B')]
 let Y:Cx:=⟨bK X.ρ id (some p'),aR X.hp L,X.F,X.w⟩
 have inL:∀ q∈L,(q.1∈l∧q.2=.gone)∨q=(id,B'):=fun q hq=>by
  rcases List.mem_append.1 hq with hq|hq
  ·obtain⟨i,hi,rfl⟩:=List.mem_map.1 hq;exact .inl ⟨hi,rfl⟩
  ·exact .inr (by simpa using hq)
 have gId:Y.hp[id]?=some B':=by
  refine i5 _ _ _ _ (fun q hq e=>?_) ⟨(id,B'),by simp[L],rfl⟩
  rcases inL q hq with ⟨h,_⟩|rfl
  ·exact absurd (e▸h) hid
  ·rfl
 have gL:∀ i∈l,Y.hp[i]?=some .gone:=fun i hi=>by
  refine i5 _ _ _ _ (fun q hq e=>?_) ⟨(i,.gone),List.mem_append.2 (.inl (List.mem_map.2 ⟨i,hi,rfl⟩)),rfl⟩
  rcases inL q hq with ⟨_,h⟩|rfl
  ·exact h
  ·simp only at e;exact absurd (e▸hi) hid
 have gOld:∀ k b,X.hp[k]?=some b→k≠id→k ∉ l→Y.hp[k]?=some b:=fun k b hb h1 h2=>by
  refine i6 _ _ _ _ (fun q hq e=>?_) hb
  rcases inL q hq with ⟨h,_⟩|rfl
  ·exact h2 (e▸h)
  ·exact h1 e.symm
 have cases':∀ k c,Y.hp[k]?=some c→c.live=true→(k=id∧c=B')∨(k≠id∧k ∉ l∧X.hp[k]?=some c):=fun k c hc hn=>by
  by_cases hk:k=id
  ·subst hk;rw[gId] at hc;cases hc;exact .inl ⟨rfl,rfl⟩
  ·by_cases hl:k∈l
   ·rw[gL k hl] at hc;cases hc;cases hn
   ·rcases rR _ _ _ _ hc with ⟨q,hq,rfl,rfl⟩|⟨_,h|rfl⟩
    ·rcases inL q hq with ⟨h,_⟩|rfl
     ·exact absurd h hl
     ·exact absurd rfl hk
    ·exact .inr ⟨hk,hl,h⟩
    ·cases hn
 have ρId:Y.ρ id=some p':=ck ..
 have ρO:∀ k,k≠id→Y.ρ k=X.ρ k:=fun k hk=>dp _ _ _ hk
 have atB':∀ b:Nat,B'.at (some p') b→(Blk.ob t K o xs (some (j,v))).at (X.ρ id) b∨∃ i,bm p' j i=some b:=fun b hb=>by
  obtain⟨p2,g1,g2⟩:=hb
  cases g1
  rcases g2 with rfl|⟨j',x',i,d,_,_,_,g5⟩
  ·left;rw[hroot];exact rootAt
  ·by_cases hj':j'=j
   ·subst hj';exact .inr ⟨i,g5⟩
   ·exact .inl (ownO j' i b hj' g5).2
 have toOwn:∀ b:Nat,B'.at (some p') b→∃ (k:Nat) (c:Blk),(k=id∨k∈l)∧X.hp[k]?=some c∧c.at (X.ρ k) b:=fun b hb=>by
  rcases atB' b hb with h|⟨i,h⟩
  ·exact⟨id,_,.inl rfl,hB,h⟩
  ·obtain⟨id',c,g1,g2,g3⟩:=ownJ i b h
   exact⟨id',c,.inr (List.mem_of_getElem? g1),g2,g3⟩
 have own:∀ b,Y.Own b→X.Own b:=fun b ⟨k,c,g1,g2⟩=>by
  rcases cases' k c g1 g2.live with ⟨rfl,rfl⟩|⟨q1,q2,q3⟩
  ·rw[ρId] at g2
   obtain⟨k',c',_,r2,r3⟩:=toOwn b g2
   exact⟨k',c',r2,r3⟩
  ·rw[ρO k q1] at g2;exact⟨k,c,q3,g2⟩
 have W:WEvo X Y:=⟨rfl,rfl,rfl,Nat.le_refl _,fun _ c _ _ h=>⟨c,h,rfl⟩,fun _ _ _=>rfl,fun b _ h=>own b h,fun _ h=>h,fun _ h=>.inl h⟩
 have H:HEvo X Y:=⟨fun k b hb hn=>by
  by_cases hk:k=id
  ·subst hk;rw[hB] at hb;cases hb
   exact⟨_,gId,.ob _ _ _ _ _ _ _ (by simp)⟩
  ·by_cases hl:k∈l
   ·exact⟨.gone,gL k hl,.gone _⟩
   ·exact⟨b,gOld k b hb hk hl,.refl hn⟩,fun k b hb hn=>by
  by_cases hk:k=id
  ·subst hk;rw[hB] at hb;cases hb
   show(Y.ρ k).map br=(X.ρ k).map br
   rw[ρId,h1];simp[hroot]
  ·rw[ρO k hk];exact .rfl⟩
 refine⟨Y,rfl,rfl,⟨fun k c hc=>?_,fun k k' b c c' g1 g2 g3 g4=>?_,fun b hb=>⟨(ok.fo b hb).1,fun ho=>(ok.fo b hb).2 (own b ho)⟩⟩,W,H⟩
 ·by_cases hlv:c.live=true
  ·rcases cases' k c hc hlv with ⟨rfl,rfl⟩|⟨q1,q2,q3⟩
   ·refine .inr ⟨p',cur,cap,css,ρId,by rw[hroot];exact h2,h3,by simpa using h4,h5,by simpa using h6,h7,by simpa using h8,fun j1 j2 i1 i2 b hb1 hb2=>?_,fun j1 i1 hb=>?_,fun j' x' cs' hx' hc' _=>?_,fun j' w hw=>by cases hw⟩
    ·by_cases e1:j1=j
     ·subst e1
      by_cases e2:j2=j1
      ·subst e2
       refine⟨rfl,?_⟩
       obtain⟨id1,c1,r1,r2,r3⟩:=ownJ i1 b hb1
       obtain⟨id2,c2,s1,s2,s3⟩:=ownJ i2 b hb2
       have e:=ok.inj _ _ b _ _ r2 s2 r3 s3
       subst e
       have:=iG hnd r1
       rw[iG hnd s1] at this
       exact(Option.some.inj this).symm
      ·exact absurd (ownO j2 i2 b e2 hb2).2 (apart i1 b hb1)
     ·by_cases e2:j2=j
      ·subst e2
       exact absurd (ownO j1 i1 b e1 hb1).2 (apart i2 b hb2)
      ·exact h9 _ _ _ _ b (ownO j1 i1 b e1 hb1).1 (ownO j2 i2 b e2 hb2).1
    ·rw[hroot] at hb
     by_cases e1:j1=j
     ·subst e1;exact apart i1 _ hb rootAt
     ·exact h10 _ _ (ownO j1 i1 _ e1 hb).1
    ·by_cases e:j'=j
     ·subst e
      rw[List.getElem?_set_self hj] at hx'
      cases hx'
      rw[hcs] at hc';cases hc'
      have hob:d9 Z.F X.w Z.ρ o K x cs:=by
       refine⟨by rw[← hel];exact mI hfit,?_,fun i d hd=>?_⟩
       ·have:=RA.emb zE (fun _=>rfl) hra
        rw[hel] at this
        have e:Z=⟨Z.ρ,o.bl x,Z.F,X.w⟩:=by rw[← zhp,← zw]
        rw[e] at this;exact this
       ·have:=(zok.blk i d (by rw[zhp];exact hd)).rb0 (gH hd).1 (gH hd).2
        have e:Z=⟨Z.ρ,o.bl x,Z.F,X.w⟩:=by rw[← zhp,← zw]
        rw[e] at this;exact this
      refine d9.congr (π:=Z.ρ) (fun i hi=>by rw[plJ,if_pos (by omega)]) ?_
      exact hob.evo zFX (fun _ _=>rfl) (fun _ c _ _ h=>⟨c,h,rfl⟩) (fun _ _ _ _ _=>rfl)
     ·rw[List.getElem?_set_ne (Ne.symm e)] at hx'
      refine d9.congr (π:=bm p j') (fun i hi=>by rw[plO j' i e,hx'];simp[hi]) ?_
      exact h11 j' x' cs' hx' hc' (fun w hw=>by cases hw;exact e rfl)
   ·exact(ok.blk k c q3).evo W H ok.fo (ρO k q1) fun _ _=>rfl
  ·cases c<;>first|trivial|(simp[Blk.live] at hlv)
 ·rcases cases' k c g1 g3.live with ⟨rfl,rfl⟩|⟨q1,q2,q3⟩
  ·rw[ρId] at g3
   rcases cases' k' c' g2 g4.live with ⟨rfl,rfl⟩|⟨r1,r2,r3⟩
   ·rfl
   ·rw[ρO k' r1] at g4
    obtain⟨k2,c2,s1,s2,s3⟩:=toOwn b g3
    have e:=ok.inj _ _ b _ _ s2 r3 s3 g4
    subst e
    exact s1.elim (fun h=>absurd h r1) (fun h=>absurd h r2)
  ·rw[ρO k q1] at g3
   rcases cases' k' c' g2 g4.live with ⟨rfl,rfl⟩|⟨r1,r2,r3⟩
   ·rw[ρId] at g4
    obtain⟨k2,c2,s1,s2,s3⟩:=toOwn b g4
    have e:=ok.inj _ _ b _ _ s2 q3 s3 g3
    subst e
    exact s1.elim (fun h=>absurd h q1) (fun h=>absurd h q2)
   ·rw[ρO k' r1] at g4
    exact ok.inj _ _ b _ _ q3 r3 g3 g4
theorem aba{gl:GL}{X:Cx}{s:St}{a:Act}(h:Rel gl X s a)(kp:List Nat)(id:Nat):∃ Z:Cx,Z.w=X.w∧WEvo X Z∧HEvo X Z∧Rel gl Z (lW kp s id) a:=by
 unfold lW
 split
 ·rename_i t K o xs j v hB
  simp only
  cases hc:dJ (dg (dZ s.hp) 1000 v.ids []) kp&&dJ (dg (dZ s.hp) 1000 v.ids []) [id] with
  | false=>exact⟨X,rfl,.refl X,.refl X,h⟩
  | true=>
   rw[Bool.and_eq_true] at hc
   simp only[cond_true]
   split
   ·rename_i x hread
    have hnd:(dg (dZ s.hp) 1000 v.ids []).Nodup:=nM _ _ _ _ (by simp)
    have hid:id ∉ dg (dZ s.hp) 1000 v.ids []:=fun hin=>Qs hc.2 _ hin (by simp)
    obtain⟨Y,g1,g2,g3,g4,g5⟩:=abb h.ok (by rw[h.hp];exact hB) hnd hid (by rw[h.hp];exact hread)
    exact⟨Y,g1,g4,g5,⟨h.glo.evo g4 h.ok.fo,h.defers,h.size,fun i av hi=>by
     obtain⟨u,q1,q2⟩:=h.tm i av hi
     exact⟨u,q1,q2.evo g4 g5 h.ok.fo⟩,by rw[g2,h.hp],g3⟩⟩
   ·exact⟨X,rfl,.refl X,.refl X,h⟩
 ·exact⟨X,rfl,.refl X,.refl X,h⟩
theorem PW(kp:List Nat)(s:St)(id:Nat):(lW kp s id).m=s.m:=by
 unfold lW
 split
 ·simp only
  cases dJ (dg (dZ s.hp) 1000 (AV.ids _) []) kp&&dJ (dg (dZ s.hp) 1000 (AV.ids _) []) [id] with
  | false=>rfl
  | true=>
   simp only[cond_true]
   split<;>rfl
 ·rfl
theorem PY{gl:GL}(kp:List Nat):∀ (l:List Nat) {X:Cx} {s:St} {a:Act},Rel gl X s a→(l.foldl (lW kp) s).m=s.m∧∃ Z:Cx,Z.w=X.w∧WEvo X Z∧HEvo X Z∧Rel gl Z (l.foldl (lW kp) s) a
 | [],X,s,a,h=>⟨rfl,X,rfl,.refl X,.refl X,h⟩
 | id::l,X,s,a,h=>by
  obtain⟨Y,g1,g2,g3,g4⟩:=aba h kp id
  obtain⟨m,Z,k1,k2,k3,k4⟩:=PY kp l g4
  exact⟨m.trans (PW kp s id),Z,k1.trans g1,g2.trans k2,g3.trans k3,k4⟩
theorem PX(kp:List Nat):∀ (l:List Nat) (s:St),(l.foldl (lW kp) s).m=s.m
 | [],_=>rfl
 | id::l,s=>(PX kp l _).trans (PW kp s id)
theorem aa8(kp:List Nat)(s:St):(nL kp s).m=s.m:=PX kp _ s
theorem aa9{gl:GL}{X:Cx}{s:St}{a:Act}(h:Rel gl X s a)(kp:List Nat):∃ Z:Cx,Z.w=X.w∧WEvo X Z∧HEvo X Z∧Rel gl Z (nL kp s) a:=(PY kp _ h).2
end Go.Ev
