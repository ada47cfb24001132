import Derived.Test.YtbgcimciannhmaaGreatDoorB9
import Derived.Test.YtbgcimciannhmaaGreatDoorB11
/- A part of the proof of TopQuiet; no condition. -/
set_option linter.all false
set_option maxRecDepth 100000
namespace Go.Ev
open Go.Proofs
variable{A:Type}
abbrev dE:List Int:=List.replicate 32 0
abbrev Od:=Int×(List (List Int)×(List Int×(List bC×(List Int×(ByteArray×(ByteArray×(List (ByteArray×((Int×(Int×(List (List Int)×Unit)))×Unit))×(Int×(Int×(Int×Unit))))))))))
def eU(h:List Int)(v:Int):Od:=(1,([h],(dE,([],(dE,(ByteArray.empty,(ByteArray.empty,([],(v,(0,(0,())))))))))))
def jU(h:List Int)(v:Nat):List Int:=[1]++(cC 1++h)++dE++bv 8 v
theorem alr(n:Nat)(hn:10<n)(h:List Int)(hh:h.length=32∧aq h)(g:ByteArray→Option A):pe n [h] g=g (am (cC 1++h)):=by
 obtain⟨m,rfl⟩:∃ m,n=m+5:=⟨n-5,by omega⟩
 have h0:pe (m+5) [h] g=jH (m+5) 1 fun r1=>if r1.size+(am ((h.drop 0).take 32)).size≤9223372036854775807 then g (r1++am ((h.drop 0).take 32)) else none:=by kernel_rfl
 rw[h0,show(1:Int)=((1:Nat):Int) from rfl,Nz (m+5) 1 hn (by decide),List.drop_zero,List.take_of_length_le (by omega),bQ,bQ,if_pos (by rw[hh.1];show 1+32≤_;decide),gf]
theorem MC{α:Type}{c:Prop}[Decidable c]{x y z:α}(h:x=y):(if c then x else z)=(if c then y else z):=by rw[h]
theorem amQ:(fP.toList==ByteArray.empty.toList)=false:=by
 rw[show fP=am [108,115,110] from rfl,← akt,CN (by intro x hx;simp only[List.mem_cons,List.not_mem_nil,or_false] at hx;rcases hx with rfl|rfl|rfl<;>decide) (fun x hx=>absurd hx (List.not_mem_nil))]
 rfl
theorem aly(n m:Nat)(h:List Int)(v:Int)(k0 k1:Option A):uQ (BG (A:=A) (m+20)) (IJ (m+20)) (IM (m+20)) (jg (m+20)) (iw (m+20)) n fP XE (eU h v) k0 k1 (m+20) 0=k1:=by kernel_rfl
theorem alB(m:Nat)(h:List Int)(v:Int)(k:ByteArray→Option A):BG (m+20) (eU h v).1 k=k fP:=by kernel_rfl
theorem alC(m:Nat)(h:List Int)(v:Int)(k:Bool→Option A):jg (m+20) (eU h v) 108 k=k true∧jg (m+20) (eU h v) 115 k=k true∧jg (m+20) (eU h v) 110 k=k true:=⟨by kernel_rfl,by kernel_rfl,by kernel_rfl⟩
theorem Nm(m:Nat)(h:List Int)(v:Int)(k:ByteArray→Option A):iw (m+20) (eU h v) 108 k=pe (m+20) [h] k∧iw (m+20) (eU h v) 115 k=k (am ((dE.drop 0).take 32))∧iw (m+20) (eU h v) 110 k=jc (m+20) v 8 k:=by
 refine⟨?_,?_,?_⟩<;>unfold iw IS
 ·rw[show((108:Int)==108)=true from rfl,cond_true];rfl
 ·rw[show((115:Int)==108)=false from rfl,cond_false,show((115:Int)==115)=true from rfl,cond_true];rfl
 ·rw[show((110:Int)==108)=false from rfl,cond_false,show((110:Int)==115)=false from rfl,cond_false,show((110:Int)==104)=false from rfl,cond_false,show((110:Int)==98)=false from rfl,cond_false,show((110:Int)==105)=false from rfl,cond_false,
   show((110:Int)==100)=false from rfl,cond_false,show((110:Int)==101)=false from rfl,cond_false,show((110:Int)==110)=true from rfl,cond_true];rfl
theorem alz(G1:Int→(ByteArray→Option A)→Option A)(G2:ByteArray→Int→(Bool→Option A)→Option A)(G3:Od→Int→(Bool→Option A)→Option A)(n m:Nat)(h:List Int)(v:Int)(k0:ByteArray→Option A)(k1:ByteArray→Option A)(b:ByteArray):jL G1 G2 G3 (jg (m+20)) (iw (m+20)) n fP (eU h v) k0 k1 (m+20) b 0=
   pe (m+20) [h] fun r9=>if b.size+r9.size≤9223372036854775807 then(if (b++r9).size+(am ((dE.drop 0).take 32)).size≤9223372036854775807 then jc (m+20) v 8 fun aM=>if ((b++r9)++am ((dE.drop 0).take 32)).size+aM.size≤9223372036854775807 then k1 (((b++r9)++am ((dE.drop 0).take 32))++aM) else none else none) else none:=by
 have s:∀ (f i:Nat) (y:Int) (b:ByteArray),(bd fP)[i]?=some y→(i:Int)<(fP.size:Int)→jg (A:=A) (m+20) (eU h v) y=(fun k=>k true)→i<10→jL G1 G2 G3 (jg (m+20)) (iw (m+20)) n fP (eU h v) k0 k1 (f+1) b (i:Int)=
   iw (m+20) (eU h v) y fun r9=>if b.size+r9.size≤9223372036854775807 then jL G1 G2 G3 (jg (m+20)) (iw (m+20)) n fP (eU h v) k0 k1 f (b++r9) ((i+1:Nat):Int) else none:=fun f i y b h1 h2 h3 h4=>by
  rw[jL,Ac,decide_eq_true h2,cond_true,if_pos (Int.natCast_nonneg _),Int.toNat_natCast,h1,Option.bind_some,h3]
  simp only
  rw[Bool.not_true,cond_false,if_pos (Int.natCast_nonneg _),Option.bind_some,aU i (by omega)]
 have w:=fun k=>alC (A:=A) m h v k
 have a0:(bd fP)[0]?=some (108:Int):=by kernel_rfl
 have a1:(bd fP)[1]?=some (115:Int):=by kernel_rfl
 have a2:(bd fP)[2]?=some (110:Int):=by kernel_rfl
 have sz:(fP.size:Int)=3:=by kernel_rfl
 refine(s (m+19) 0 108 b a0 (by rw[sz];decide) (funext fun k=>(w k).1) (by decide)).trans ?_
 rw[(Nm m h v _).1]
 refine congrArg (pe (m+20) [h]) (funext fun r9=>MC ?_)
 refine(s (m+18) 1 115 (b++r9) a1 (by rw[sz];decide) (funext fun k=>(w k).2.1) (by decide)).trans ?_
 rw[(Nm m h v _).2.1]
 refine MC ?_
 refine(s (m+17) 2 110 _ a2 (by rw[sz];decide) (funext fun k=>(w k).2.2) (by decide)).trans ?_
 rw[(Nm m h v _).2.2]
 refine congrArg (jc (m+20) v 8) (funext fun aM=>MC ?_)
 rw[jL,Ac,sz,show decide (((2+1:Nat):Int)<3)=false from rfl,cond_false]
theorem ajI{h:List Int}(hh:h.length=32)(v:Nat):(jU h v).length=74:=by
 unfold jU
 rw[List.length_append,List.length_append,List.length_append,List.length_append,hh,bP];rfl
theorem alA(n:Nat)(hn:100<n)(h:List Int)(hh:h.length=32∧aq h)(v:Nat)(hv:v<18446744073709551616)(g:ByteArray→Int→Option A):Ad n (eU h (v:Int)) g=g (am (jU h v)) 0:=by
 obtain⟨m,rfl⟩:∃ m,n=m+20:=⟨n-20,by omega⟩
 unfold Ad GX
 rw[alB,amQ,cond_false,aly,alz,alr (m+20) (by omega) h hh]
 have hz:(dE.drop 0).take 32=dE:=by rfl
 have hw:am [IntKind.wrap .u8 (eU h (v:Int)).1]=am [1]:=by rfl
 have he:(cC 1).length=1:=by rfl
 have l1:([1]++(cC 1++h):List Int).length=34:=by rw[List.length_append,List.length_append,hh.1,he];rfl
 have l2:([1]++(cC 1++h)++dE:List Int).length=66:=by rw[List.length_append,l1];rfl
 have l0:(cC 1++h).length=33:=by rw[List.length_append,hh.1,he]
 rw[hz,hw,bQ,bQ,l0,if_pos (by show 1+33≤_;omega),gf,bQ,bQ,l1,if_pos (by show 34+32≤_;omega),gf,show(8:Int)=((8:Nat):Int) from rfl,tt (m+20) v 8 (by omega) hv (by decide),bQ,bQ,bP,
  l2,if_pos (by omega),gf]
 rfl
abbrev d8:=Int×(List Int×(Int×Unit))
abbrev tG:=Int×(Int×(Bool×(d8×(Int×(List d8×(Int×(Int×(Int×(Bool×Unit)))))))))
abbrev Yp:=Int×(List (List Int×(List Int×Unit))×Unit)
abbrev lC:=tG×(Yp×(List Int×(Bool×(Int×(Int×(Bool×Unit))))))
abbrev Oe:=(bC×(List Int×Unit))×(Int×(List Int×Unit))
abbrev Og:=ij×(List Oe×Unit)
abbrev lB:=ij×(Int×(Int×(Int×(Int×(List ByteArray×Unit)))))
def s6:d8:=(0,(dE,(0,())))
def jq(base most:Int):tG:=(base,(most,(false,(s6,(0,([],(0,(0,(0,(false,()))))))))))
def W7(base most now:Int):tG:=(base,(most,(true,((1,(dE,(1,()))),(IntKind.wrap .i64 (now+base),([],(0,(0,(0,(false,()))))))))))
def eB(base most items:Int):lC:=(jq base most,((items,([],())),(dE,(false,(0,(0,(false,())))))))
def qf(base most items now:Int):lC:=(W7 base most now,((items,([],())),(dE,(false,(0,(1,(false,())))))))
theorem Xb(n:Nat)(base most now:Int)(h:0≤now)(g:Bool→Option A):uO n (jq base most) now g=g true:=by
 unfold uO GB jq
 simp only
 rw[Bool.not_false,cond_true,cond_true,decide_eq_true (show now≥0 from h)]
theorem Xh(n:Nat)(hn:1000≤n)(P:ij)(hd:bC×(List Int×Unit))(on:Int)(s:Nat)(hs:s<2^256)(u u2:Unit)(g:Int→Option A):zY n (P,([(hd,(on,(al (ar s),u)))],u2)) g=g 0:=by
 obtain⟨m,rfl⟩:∃ m,n=m+2:=⟨n-2,by omega⟩
 have hd2:=jG s hs
 unfold zY GJ
 rw[sx,zX]
 simp only[List.length_cons,List.length_nil]
 rw[show decide ((0:Int)<((0+1:Nat):Int))=true from rfl,cond_true,if_pos (by decide),show(Int.toNat 0)=0 from rfl,List.getElem?_cons_zero,Option.bind_some,if_pos (by decide),Option.bind_some,vY (m+2) s s (by omega) (by omega),decide_eq_false (Nat.lt_irrefl s),cond_false,
  sx,zX,show IntKind.wrap .i64 ((0:Int)+1)=1 from rfl]
 simp only[List.length_cons,List.length_nil]
 rw[show decide ((1:Int)<((0+1:Nat):Int))=false from rfl,cond_false]
theorem amb(m:Nat)(P:ij)(nd:Oe)(h:nd.2.1=-1)(u:Unit)(g:List Int→Option A):fH (m+2) (P,([nd],u)) 0 g=g [0]:=by
 obtain⟨hd,on,w⟩:=nd
 simp only at h
 subst h
 kernel_rfl
theorem WJ(m:Nat)(P:ij)(hd:bC)(h:List Int)(u1:Unit)(w:List Int×Unit)(u:Unit)(g:List (List Int)→Option A):zU (m+5) (P,([((hd,(h,u1)),(-1,w))],u)) 0 g=g [h]:=by
 unfold zU GG
 rw[show m+5=(m+3)+2 by omega,amb (m+3) P _ rfl u]
 kernel_rfl
theorem alE(m:Nat)(items:Int)(u u2:Unit)(h:List Int)(g:d8→Bool→Option A):zS (m+5) (items,([],u)) [h] g=g s6 false:=by
 unfold zS GD
 cases (items==0) with
 | true=>rfl
 | false=>rfl
theorem als(m:Nat)(g:List Int→Option A):GQ (m+20) 1 g=g [0]:=by kernel_rfl
theorem ak6(n:Nat)(base most now:Int)(h0:0≤now)(h1:now≤1099511627776)(g:tG→Int→Option A):Ab n (jq base most) (1,(dE,(1,()))) now g=g (W7 base most now) 0:=by
 unfold Ab GU
 rw[show decide (now<0)=false from decide_eq_false (by omega),cond_false,show decide (now>1099511627776)=false from decide_eq_false (by omega),cond_false,Xb n base most now h0,Bool.not_true,cond_false]
 rfl
theorem Xr(n:Nat)(c:lB)(t:Og)(now:Int)(ss:List lC)(r)(i:Nat)(hi:i<ss.length)(hl:ss.length<1000)(s:lC)(g:_→Option A):sm n (c,(t,(now,(ss,r)))) (i:Int) s g=g (c,(t,(now,(ss.set i s,r)))):=by
 unfold sm Fd
 simp only
 rw[if_pos (by omega),if_pos (Int.natCast_nonneg _),if_pos (by omega),Int.toNat_natCast,if_pos hi]
theorem alu{g1 g2 g3 g4 g5 g6 g7 g8 g9}{n:Nat}(m:Nat){i x t4a t4ba t4bba t4bbbb t4bbba s ma mbba mbbbba mbbbbba mbbbbbba mbbbbbbbb mbbba mbbbbbbba k_}(h:List Int){k0:List (List Int)→Option A} :
  l6 g1 g2 g3 g4 g5 g6 g7 g8 g9 n i 1 x t4a t4ba t4bba t4bbbb t4bbba s ma mbba mbbbba mbbbbba mbbbbbba mbbbbbbbb mbbba mbbbbbbba k_ [h] [0] k0 (m+2) 0 []=k0 [h]:=by kernel_rfl
theorem ak5(n:Nat)(hn:1000≤n)(c:lB)(P:ij)(hd:bC)(h:List Int)(hh:h.length=32∧aq h)(u1:Unit)(s:Nat)(hs:s<2^256)(u2 u3:Unit)(now base most items:Int)(h0:0≤now)(h1:now≤1099511627776)(ss:List lC)(i:Nat)(hi:i<ss.length)(hl:ss.length<1000)(hsi:ss[i]?=some (eB base most items))(r)(g:_→_→Option A) :
  ur n (c,((P,([((hd,(h,u1)),(-1,(al (ar s),u2)))],u3)),(now,(ss,r)))) (i:Int) g=
   g (c,((P,([((hd,(h,u1)),(-1,(al (ar s),u2)))],u3)),(now,(ss.set i (qf base most items now),r)))) [((i:Int),(am (jU h 1),()))]:=by
 obtain⟨m,rfl⟩:∃ m,n=m+20:=⟨n-20,by omega⟩
 unfold ur Fb
 simp only
 rw[if_pos (Int.natCast_nonneg _),Int.toNat_natCast,hsi,Option.bind_some]
 unfold eB
 simp only
 rw[Xb _ _ _ _ h0,Bool.not_true,cond_false,Xh _ hn P _ _ s hs,WJ (m+15),alE (m+15) items () (),show decide (now≥0)=true from decide_eq_true h0,cond_true,cond_false,Xh _ hn P _ _ s hs,cond_false,WJ (m+15)]
 simp only[List.length_cons,List.length_nil]
 rw[show(((0+1:Nat):Int))=1 from rfl,als]
 refine Eq.trans (alu (m+18) h) ?_
 rw[show IntKind.wrap .i64 ((0:Int)+1)=1 from rfl,show IntKind.wrap .u64 (1:Int)=((1:Nat):Int) from rfl]
 refine Eq.trans (ak6 (m+20) base most now h0 h1 _) ?_
 refine Eq.trans (alA (m+20) (by omega) h hh 1 (by decide) _) ?_
 exact Xr _ c _ now ss r i hi hl _ _
def fO(b m it now:Int)(p i:Nat):List lC:=List.replicate i (qf b m it now)++List.replicate (p-i) (eB b m it)
theorem Xs(b m it now:Int)(p i:Nat)(h:i≤p):(fO b m it now p i).length=p:=by
 rw[fO,List.length_append,List.length_replicate,List.length_replicate];omega
theorem amp(b m it now:Int)(p i:Nat)(h:i<p):(fO b m it now p i)[i]?=some (eB b m it):=by
 unfold fO
 rw[List.getElem?_append_right (by rw[List.length_replicate];exact Nat.le_refl _),List.length_replicate,Nat.sub_self,show p-i=(p-i-1)+1 by omega,List.replicate_succ];rfl
theorem amq(b m it now:Int)(p i:Nat)(h:i<p):(fO b m it now p i).set i (qf b m it now)=fO b m it now p (i+1):=by
 unfold fO
 rw[List.set_append_right _ _ (by rw[List.length_replicate];exact Nat.le_refl _),List.length_replicate,Nat.sub_self,show p-i=(p-(i+1))+1 by omega,List.replicate_succ,List.set_cons_zero,List.replicate_succ',List.append_assoc];rfl
theorem NC{α:Type}{l:List α}{i:Nat}{x:α}(h:l[i]?=some x):l.set i x=l:=by
 apply List.ext_getElem?
 intro j
 rw[List.getElem?_set]
 split
 ·rename_i hij
  subst hij
  split
  ·exact h.symm
  ·rename_i hl;rw[List.getElem?_eq_none (by omega)] at h;cases h
 ·rfl
def iF(t:ByteArray)(i:Nat):List (Int×(ByteArray×Unit)):=(List.range i).map fun j:Nat=>((j:Int),(t,()))
theorem Wc(t:ByteArray)(i:Nat):(iF t i).length=i:=by simp[iF]
theorem akT(t:ByteArray)(i:Nat):iF t i++[((i:Int),(t,()))]=iF t (i+1):=by simp[iF,List.range_succ]
theorem amc(n:Nat)(b m now:Int)(g:tG→d8→Bool→Option A):uq n (jq b m) now g=g (jq b m) s6 false:=by
 unfold uq E9 jq
 rfl
theorem Xg(m n:Nat)(hm:1000≤m)(c:lB)(P:ij)(hd:bC)(h:List Int)(hh:h.length=32∧aq h)(u1:Unit)(s:Nat)(hs:s<2^256)(u2 u3:Unit)(now base most items:Int)(h0:0≤now)(h1:now≤1099511627776)(p:Nat)(hp:p<100)(r)(z1 z2 z3 z4 z5)(k0:_→_→Option A) :
  ∀ (d f i:Nat),i+d=p→d<f→
  pN (uq m) (sm m) (ur m) n now z1 z2 z3 z4 z5 k0 f (i:Int) (c,((P,([((hd,(h,u1)),(-1,(al (ar s),u2)))],u3)),(now,(fO base most items now p i,r)))) (iF (am (jU h 1)) i)=
   k0 (c,((P,([((hd,(h,u1)),(-1,(al (ar s),u2)))],u3)),(now,(fO base most items now p p,r)))) (iF (am (jU h 1)) p)
 | 0,f+1,i,hi,_=>by
  obtain rfl:i=p:=by omega
  rw[pN,Cc]
  refine(nI (by simp only;rw[Xs _ _ _ _ _ _ (Nat.le_refl _)];omega) _ _).trans rfl
 | d+1,0,i,_,h=>by omega
 | d+1,f+1,i,hi,hf=>by
  have hlen:=Xs base most items now p i (by omega)
  have hat:=amp base most items now p i (by omega)
  rw[pN,Cc]
  refine(uc (by simp only;rw[hlen];omega) _ _).trans ?_
  rw[if_pos (Int.natCast_nonneg _),Int.toNat_natCast]
  simp only
  rw[hat,Option.bind_some,show(eB base most items).1=jq base most from rfl,amc,Xr m c _ now _ r i (by omega) (by omega)]
  have hsame:(fO base most items now p i).set i (jq base most,(eB base most items).2)=fO base most items now p i:=by
   have e:(jq base most,(eB base most items).2)=eB base most items:=rfl
   rw[e]
   exact NC hat
  rw[hsame,ak5 m hm c P hd h hh u1 s hs u2 u3 now base most items h0 h1 _ i (by omega) (by omega) hat r,amq _ _ _ _ _ _ (by omega),Wc,if_pos (by show(i+1)*24≤_;omega),aU i (by omega),akT]
  exact Xg m n hm c P hd h hh u1 s hs u2 u3 now base most items h0 h1 p hp r z1 z2 z3 z4 z5 k0 d f (i+1) (by omega) (by omega)
theorem ak3(n:Nat)(hn:1000≤n)(c:lB)(P:ij)(hd:bC)(h:List Int)(hh:h.length=32∧aq h)(u1:Unit)(s:Nat)(hs:s<2^256)(u2 u3:Unit)(now base most items:Int)(h0:0≤now)(h1:now≤1099511627776)(p:Nat)(hp:p<100)(r)(g:_→_→_→Option A) :
  Cd n (c,((P,([((hd,(h,u1)),(-1,(al (ar s),u2)))],u3)),(now,(List.replicate p (eB base most items),r)))) now g=
   g (c,((P,([((hd,(h,u1)),(-1,(al (ar s),u2)))],u3)),(now,(fO base most items now p p,r)))) 0 (iF (am (jU h 1)) p):=by
 unfold Cd LK
 refine(nI (by simp only;omega) _ _).trans ?_
 refine(nI (by omega) _ _).trans ?_
 have h2:=Xg n n hn c P hd h hh u1 s hs u2 u3 now base most items h0 h1 p hp r ((0,(0,(0,(0,(0,((0,((List.replicate 32 (0:Int)),((List.replicate 32 (0:Int)),(0,(0,(0,())))))),([],()))))))),(0,(0,(0,(0,([],())))))) ((0,(0,(0,(0,(0,((0,((List.replicate 32 (0:Int)),((List.replicate 32 (0:Int)),(0,(0,(0,())))))),([],()))))))),([],())) 0 ([],()) [] (fun y8 y9=>g y8 0 y9) p n 0 (by omega) (by omega)
 have e:fO base most items now p 0=List.replicate p (eB base most items):=by simp[fO]
 rw[e] at h2
 exact h2
abbrev ii:=List (ByteArray×(Int×Unit))
def gx(p:Nat)(L:List ii):Prop:=L.length=2*p∧∀ x∈L,x.length≤64
theorem gx.set{p:Nat}{L:List ii}(h:gx p L)(i:Nat){x:ii}(hx:x.length≤64):gx p (L.set i x):=⟨by rw[List.length_set];exact h.1,fun y hy=>(List.mem_or_eq_of_mem_set hy).elim (h.2 y) fun e=>e▸hx⟩
theorem alv(n:Nat)(l:ii)(hl:l.length≤64)(t:ByteArray)(now:Int)(g:ii→Int→Option A)(W:Option A)(hg:∀ l' e,l'.length≤64→g l' e=W):Ae n l t now g=W:=by
 unfold Ae Ha
 by_cases h1:(t.size:Int)>200000
 ·rw[decide_eq_true h1,cond_true];exact hg _ _ hl
 ·rw[decide_eq_false h1,cond_false]
  by_cases h2:(l.length:Int)≥64
  ·rw[decide_eq_true h2,cond_true];exact hg _ _ hl
  ·rw[decide_eq_false h2,cond_false,if_pos (by omega),if_pos (by omega)]
   exact hg _ _ (by rw[List.length_append];show l.length+1≤64;omega)
abbrev xM:=(lB×(Og×(Int×(List lC×(List (List Int×(List Int×((ByteArray×((Int×(Int×(List (List Int)×Unit)))×Unit))×Unit)))×Unit)))))×(List Bool×(List ((List nj×(List (List Int)×Unit))×(Int×(Int×(Int×Unit))))×(List ii×(Int×(Int×Unit)))))
theorem amf(n p:Nat)(hp:p<100)(c)(ho:List Bool)(se)(L:List ii)(hL:gx p L)(z)(i:Nat)(hi:i<2*p)(t:ByteArray)(g:xM→Option A)(W:Option A)(hg:∀ L',gx p L'→g (c,(ho,(se,(L',z))))=W):ut n (c,(ho,(se,(L,z)))) (i:Int) t g=W:=by
 have hlen:=hL.1
 have hlt:i<L.length:=by omega
 unfold ut Ff
 simp only
 rw[if_pos (Int.natCast_nonneg _),Int.toNat_natCast,List.getElem?_eq_getElem hlt,Option.bind_some]
 refine alv n _ (hL.2 _ (List.getElem_mem hlt)) t _ _ W fun l' e hl'=>?_
 unfold Hc Hd
 simp only
 rw[if_pos (by omega),if_pos (Int.natCast_nonneg _),if_pos (by omega),Int.toNat_natCast,if_pos hlt]
 exact hg _ (hL.set i hl')
theorem W6(m n p:Nat)(hp:p<100)(t:ByteArray)(c)(ho:List Bool)(se)(z1 z2 z3 z4 z5)(k0:xM→Option A)(W:Option A)(hk:∀ w,k0 w=W):∀ (d f i:Nat) (L:List ii) (s b:Int),gx p L→i+d=p→d<f→
  pO (ut m) n (iF t p) (p:Int) z1 z2 z3 z4 z5 k0 f (i:Int) (c,(ho,(se,(L,(s,(b,()))))))=W
 | 0,f+1,i,L,s,b,hL,h,_=>by
  rw[pO,Ce,show decide ((i:Int)<(p:Int))=false from decide_eq_false (by omega),cond_false];exact hk _
 | d+1,0,i,_,_,_,_,_,h=>by omega
 | d+1,f+1,i,L,s,b,hL,h,hf=>by
  have e:(iF t p)[i]?=some ((i:Int),(t,())):=by unfold iF;rw[List.getElem?_map,List.getElem?_range (by omega)];rfl
  rw[pO,Ce,show decide ((i:Int)<(p:Int))=true from decide_eq_true (by omega),cond_true,if_pos (Int.natCast_nonneg _),Int.toNat_natCast,e,Option.bind_some]
  simp only
  rw[show IntKind.wrap .i64 (2*(i:Int))=((2*i:Nat):Int) from(ap (by omega) (by omega)).trans (by omega),aU i (by omega)]
  exact amf m p hp c ho se L hL _ (2*i) (by omega) t _ W fun L' hL'=>W6 m n p hp t c ho se z1 z2 z3 z4 z5 k0 W hk d f (i+1) L' _ _ hL' (by omega) (by omega)
theorem ak4(n:Nat)(hn:1000≤n)(c:lB)(P:ij)(hd:bC)(h:List Int)(hh:h.length=32∧aq h)(u1:Unit)(s:Nat)(hs:s<2^256)(u2 u3:Unit)(now base most items:Int)(h0:0≤now)(h1:now≤1099511627776)(p:Nat)(hp:p<100)(r)(ho:List Bool)(se)(L:List ii)(hL:gx p L)(sn b:Int)(g:xM→Option A)(W:Option A)(hg:∀ w,g w=W) :
  vA n ((c,((P,([((hd,(h,u1)),(-1,(al (ar s),u2)))],u3)),(now,(List.replicate p (eB base most items),r)))),(ho,(se,(L,(sn,(b,())))))) now g=W:=by
 unfold vA KI
 simp only
 rw[ak3 n hn c P hd h hh u1 s hs u2 u3 now base most items h0 h1 p hp r]
 unfold LN LO
 rw[Wc]
 exact W6 n n p hp _ _ ho se _ _ _ _ _ _ W (fun w=>hg w) p n 0 L sn b hL (by omega) (by omega)
theorem Ww(G)(n:Nat)(par:ij)(b m e:Int)(p:Nat)(hp:p<100)(w:List ByteArray)(u:Unit)(z1 z2 z3 z4 z5 z6 z7 z8 z9)(k0:List lC→Option A):∀ (d f i:Nat),i+d=p→d<f→
  pA G n (par,(b,(m,(e,((p:Int),(w,u)))))) z1 z2 z3 z4 z5 z6 z7 z8 z9 k0 f (i:Int) (List.replicate i (eB b m (w.length:Int)))=k0 (List.replicate p (eB b m (w.length:Int)))
 | 0,f+1,i,h,_=>by
  obtain rfl:i=p:=by omega
  rw[pA,BM]
  exact(nI (by simp only;omega) _ _).trans rfl
 | d+1,0,i,_,h=>by omega
 | d+1,f+1,i,h,hf=>by
  rw[pA,BM]
  refine(uc (by simp only;omega) _ _).trans ?_
  rw[List.length_replicate,if_pos (by omega),aU i (by omega)]
  have e2:List.replicate i (eB b m (w.length:Int))++[eB b m (w.length:Int)]=List.replicate (i+1) (eB b m (w.length:Int)):=List.replicate_succ'.symm
  refine Eq.trans ?_ (Ww G n par b m e p hp w u z1 z2 z3 z4 z5 z6 z7 z8 z9 k0 d f (i+1) (by omega) (by omega))
  rw[← e2];rfl
theorem alg(n:Nat)(hn:1000≤n)(lim per spa fut cap:Int)(gen:bC)(og:dO gen)(sum:List Int)(u2:Unit)(b m e:Int)(p:Nat)(hp:p<100)(w:List ByteArray)(u:Unit)(now:Int)(g:_→Option A) :
  vx n ((lim,(per,(spa,(fut,(cap,(gen,(sum,u2))))))),(b,(m,(e,((p:Int),(w,u)))))) now g=
   g (((lim,(per,(spa,(fut,(cap,(gen,(sum,u2))))))),(b,(m,(e,((p:Int),(w,u)))))),(((lim,(per,(spa,(fut,(cap,(gen,(sum,u2))))))),([((gen,(bW (cQ gen),())),(-1,(sum,())))],())),(now,(List.replicate p (eB b m (w.length:Int)),([],()))))):=by
 unfold vx KA Ca LC EP EQ
 simp only
 rw[Nl n (by omega) gen og]
 exact Ww (Ca n) n _ b m e p hp w u _ _ _ _ _ _ _ _ _ _ p n 0 (by omega) (by omega)
def jE(chs:List (List bo))(k:Int):List bo:=chs.getD (k-1).toNat []
def lU(chs:List (List bo))(gh:List Int):List Int→Nat
 | []=>0
 | k::r=>if 0<k then(if (dP (jE chs k) [gh]).1≠0 then(dP (jE chs k) [gh]).1 else lU chs gh r) else lU chs gh r
def dT(c:Nat)(k:Int):Bool:=decide (0≤k)&&decide (k≤(c:Int))
def m0(chs:List (List bo)):Prop:=chs.length<100∧∀ c∈chs,c.length≤500∧∀ b∈c,kh b
theorem PQ{chs:List (List bo)}(h:m0 chs)(k:Int):(jE chs k).length≤500∧∀ b∈jE chs k,kh b:=by
 unfold jE
 rw[List.getD_eq_getElem?_getD]
 rcases Nat.lt_or_ge (k-1).toNat chs.length with hi|hi
 ·rw[List.getElem?_eq_getElem hi];exact h.2 _ (List.getElem_mem hi)
 ·rw[List.getElem?_eq_none hi];exact⟨Nat.zero_le _,fun b hb=>nomatch hb⟩
theorem Xc{G1 G2 G3 G4 G5}(n:Nat)(roles:List Int)(hl:roles.length<1000000){cfg:lB}{st:Int}(chs:List (List nj)){r1}{z1 z2 z3 z4 z5}(k0 k1:Option A):∀ (d f i:Nat),i+d=roles.length→d<f→
  oY G1 G2 G3 G4 G5 n roles (roles.length:Int) (cfg,(st,(chs,r1))) z1 z2 z3 z4 z5 k0 k1 f (i:Int)=bif (roles.drop i).all (dT chs.length) then k1 else k0
 | 0,f+1,i,h,_=>by
  rw[oY,A2,show decide ((i:Int)<(roles.length:Int))=false from decide_eq_false (by omega),cond_false,List.drop_of_length_le (by omega)];rfl
 | d+1,0,i,_,h=>by omega
 | d+1,f+1,i,h,hf=>by
  have hlt:i<roles.length:=by omega
  rw[oY,A2,show decide ((i:Int)<(roles.length:Int))=true from decide_eq_true (by omega),cond_true,if_pos (Int.natCast_nonneg _),Int.toNat_natCast,List.getElem?_eq_getElem hlt,Option.bind_some,List.drop_eq_getElem_cons hlt,List.all_cons]
  simp only
  by_cases h1:roles[i]<0
  ·rw[decide_eq_true h1,cond_true,show dT chs.length roles[i]=false by unfold dT;rw[decide_eq_false (by omega)];rfl,Bool.false_and,cond_false]
  ·rw[decide_eq_false h1,cond_false]
   by_cases h2:roles[i]>(chs.length:Int)
   ·rw[decide_eq_true h2,cond_true,show dT chs.length roles[i]=false by unfold dT;rw[decide_eq_false (show ¬ roles[i]≤(chs.length:Int) by omega),Bool.and_false],Bool.false_and,cond_false]
   ·rw[decide_eq_false h2,cond_false,show dT chs.length roles[i]=true by unfold dT;rw[decide_eq_true (show 0≤roles[i] by omega),decide_eq_true (show roles[i]≤(chs.length:Int) by omega)];rfl,Bool.true_and,aU i (by omega)]
    exact Xc n roles hl chs k0 k1 d f (i+1) (by omega) (by omega)
theorem gx.grow{p:Nat}{L:List ii}(h:gx p L):gx (p+1) (L++[[],[]]):=⟨by rw[List.length_append,h.1];rfl,fun x hx=>(List.mem_append.1 hx).elim (h.2 x) fun h2=>by
 simp only[List.mem_cons,List.not_mem_nil,or_false] at h2;rcases h2 with rfl|rfl<;>exact Nat.zero_le _⟩
theorem Nu{G1 G2 G5}(m n:Nat)(hm:1000<m)(roles:List Int)(hl:roles.length<1000){lim per spa fut cap:Int}(gen:bC)(og:dO gen){u1 u2 st:_}(chs:List (List bo))(hch:m0 chs)(hr:roles.all (dT chs.length)=true){r1}{z1 z2 z3 z4 z5 z6 z7}(k0:Int→_→_→_→Option A)(k1:_→_→_→Option A)(K:Int→Option A)(h0:∀ e x y z,k0 e x y z=K e)(h1:∀ x y z,gx roles.length z→k1 x y z=K 0):∀ (d f i:Nat) (x:List Bool) (y) (z:List ii),i+d=roles.length→d<f→x.length=i→y.length=i→gx i z→
  oZ G1 G2 (mw m) (vy m) G5 n roles (roles.length:Int) (((lim,(per,(spa,(fut,(cap,(gen,u1)))))),u2),(st,(chs.map (List.map fb),r1))) z1 z2 z3 z4 z5 z6 z7 k0 k1 f (i:Int) x y z=K ((lU chs (bW (cQ gen)) (roles.drop i):Nat):Int)
 | 0,f+1,i,x,y,z,h,_,_,_,hz=>by
  obtain rfl:i=roles.length:=by omega
  rw[oZ,A3,show decide ((roles.length:Int)<(roles.length:Int))=false from decide_eq_false (by omega),cond_false,List.drop_of_length_le (Nat.le_refl _)];exact h1 _ _ _ hz
 | d+1,0,i,_,_,_,_,h,_,_,_=>by omega
 | d+1,f+1,i,x,y,z,h,hf,hx,hy,hz=>by
  have hlt:i<roles.length:=by omega
  have hro:dT chs.length roles[i]=true:=List.all_eq_true.1 hr _ (List.getElem_mem hlt)
  unfold dT at hro
  rw[Bool.and_eq_true,decide_eq_true_eq,decide_eq_true_eq] at hro
  obtain⟨k,hk⟩:∃ k,k=roles[i]:=⟨_,rfl⟩
  rw[← hk] at hro
  rw[oZ,A3,show decide ((i:Int)<(roles.length:Int))=true from decide_eq_true (by omega),cond_true,if_pos (Int.natCast_nonneg _),Int.toNat_natCast,List.getElem?_eq_getElem hlt,Option.bind_some,List.drop_eq_getElem_cons hlt,lU,← hk]
  simp only
  have hzl:=hz.1
  by_cases hp:0<k
  ·obtain⟨q,hq⟩:∃ q:Nat,k=((q+1:Nat):Int):=⟨(k-1).toNat,by omega⟩
   have hql:q<chs.length:=by omega
   have hca:jE chs k=chs[q]:=by unfold jE;rw[hq,show(((q+1:Nat):Int)-1).toNat=q by omega,List.getD_eq_getElem?_getD,List.getElem?_eq_getElem hql];rfl
   have hco:=PQ hch k
   have hc100:=hch.1
   rw[hca] at hco
   rw[decide_eq_true (show k>0 from hp),cond_true,Nl m (by omega) gen og,show IntKind.wrap .i64 (k-1)=(q:Int) from(ap (by omega) (by omega)).trans (by omega),if_pos (Int.natCast_nonneg _),Int.toNat_natCast,CK _ _ _ hql,Option.bind_some,ali m hm _ _ hco.2 hco.1,if_pos hp,hca]
   by_cases he:(dP chs[q] [bW (cQ gen)]).1=0
   ·have hne:¬ ((dP chs[q] [bW (cQ gen)]).1≠0):=by omega
    rw[if_neg hne,show(((0:Int)) != 0)=false from rfl,cond_false,if_neg hne,hx,hy,if_pos (by omega),if_pos (by omega),if_pos (by omega),aU i (by omega)]
    exact Nu m n hm roles hl gen og chs hch hr k0 k1 K h0 h1 d f (i+1) _ _ _ (by omega) (by omega) (by rw[List.length_append,hx];rfl) (by rw[List.length_append,hy];rfl) hz.grow
   ·rw[if_pos he,show((((dP chs[q] [bW (cQ gen)]).1:Nat):Int) != 0)=true by simp;omega,cond_true,if_pos he];exact h0 _ _ _ _
  ·rw[decide_eq_false (show ¬ k>0 from hp),cond_false,if_neg hp,hx,hy,if_pos (by omega),if_pos (by omega),if_pos (by omega),aU i (by omega)]
   exact Nu m n hm roles hl gen og chs hch hr k0 k1 K h0 h1 d f (i+1) _ _ _ (by omega) (by omega) (by rw[List.length_append,hx];rfl) (by rw[List.length_append,hy];rfl) hz.grow
def mQ(lim gb:Nat)(per spa fut cap:Int)(gen:bC)(base most every peers:Int)(w:List (List Int))(start:Int)(chs:List (List bo))(roles:List Int)(batch quota:Int):Nat:=
 if gW lim gb per spa fut cap base most every peers w=false then 1 else if start<0∨1099511627776<start then 5 else
 if (roles.length:Int)≠peers∨batch<1∨2000<batch∨quota<1∨1000<quota then 1 else
 if roles.all (dT chs.length)=false then 1 else lU chs (bW (cQ gen)) roles
theorem alD(n:Nat)(hn:1000<n)(lim:Nat)(hl:lim<4294967296)(per spa fut cap:Int)(v:Int)(pv rt:List Int)(tm:Int)(gb:Nat)(hg:gb<4294967296)(nc:Int)(u:Unit)(og:dO (v,(pv,(rt,(tm,((gb:Int),(nc,u)))))))(s:Nat)(hs:s<2^256)(u2:Unit)(base most every peers:Int)(w:List (List Int))(hB:∀ x∈w,aq x)(u3:Unit)(start:Int)(chs:List (List bo))(hch:m0 chs)(roles:List Int)(hrl:roles.length<1000)(batch quota:Int)(u4:Unit)(k:xM→Int→Option A)(K:Int→Option A)(hk:∀ w e,k w e=K e) :
  A4 n ((((lim:Int),(per,(spa,(fut,(cap,((v,(pv,(rt,(tm,((gb:Int),(nc,u)))))),(al (ar s),u2))))))),(base,(most,(every,(peers,(w.map am,u3)))))),(start,(chs.map (List.map fb),(roles,(batch,(quota,u4)))))) k=
   K ((mQ lim gb per spa fut cap (v,(pv,(rt,(tm,((gb:Int),(nc,u)))))) base most every peers w start chs roles batch quota:Nat):Int):=by
 unfold A4 IX mQ
 simp only
 rw[alw n (by omega) lim hl per spa fut cap v pv rt tm gb hg nc u (al (ar s)) u2 base most every peers w hB u3]
 cases hm:gW lim gb per spa fut cap base most every peers w with
 | false=>rw[Bool.not_false,cond_true,if_pos rfl];exact hk _ _
 | true=>
  rw[Bool.not_true,cond_false,if_neg (by simp)]
  by_cases h1:start<0
  ·rw[decide_eq_true h1,cond_true,if_pos (Or.inl h1)];exact hk _ _
  ·rw[decide_eq_false h1,cond_false]
   by_cases h2:start>1099511627776
   ·rw[decide_eq_true h2,cond_true,if_pos (Or.inr h2)];exact hk _ _
   ·rw[decide_eq_false h2,cond_false,if_neg (by omega)]
    by_cases h3:(roles.length:Int)=peers
    ·rw[show((roles.length:Int) != peers)=false by rw[bne_eq_false_iff_eq];exact h3,cond_false]
     by_cases h4:batch<1
     ·rw[decide_eq_true h4,cond_true,if_pos (Or.inr (Or.inl h4))];exact hk _ _
     ·rw[decide_eq_false h4,cond_false]
      by_cases h5:batch>2000
      ·rw[decide_eq_true h5,cond_true,if_pos (by omega)];exact hk _ _
      ·rw[decide_eq_false h5,cond_false]
       by_cases h6:quota<1
       ·rw[decide_eq_true h6,cond_true,if_pos (by omega)];exact hk _ _
       ·rw[decide_eq_false h6,cond_false]
        by_cases h7:quota>1000
        ·rw[decide_eq_true h7,cond_true,if_pos (by omega)];exact hk _ _
        ·rw[decide_eq_false h7,cond_false,if_neg (by omega)]
         refine Eq.trans (Xc n roles (by omega) (chs.map (List.map fb)) _ _ roles.length n 0 (by omega) (by omega)) ?_
         rw[List.drop_zero,List.length_map]
         cases hr:roles.all (dT chs.length) with
         | false=>rw[cond_false,if_pos rfl];exact hk _ _
         | true=>
          rw[cond_true,if_neg (by simp)]
          subst h3
          have hp8:roles.length<100:=by
           unfold gW at hm
           simp only[Bool.and_eq_true,decide_eq_true_eq] at hm
           omega
          rw[alg n (by omega) _ per spa fut cap _ og _ u2 base most every roles.length hp8 (w.map am) u3 start]
          refine Eq.trans (Nu (A:=A) (G1:=vw n) (G2:=vx n) (G5:=vA n) n n hn roles hrl (lim:=(lim:Int)) (per:=per) (spa:=spa) (fut:=fut) (cap:=cap) _ og (u1:=(al (ar s),u2)) (u2:=(base,(most,(every,((roles.length:Int),(w.map am,u3)))))) (st:=start) chs hch hr (r1:=(roles,(batch,(quota,u4))))
           _ _ K (fun e x y z=>hk _ _) (fun x y z hz=>?_) roles.length n 0 [] [] [] (by omega) (by omega) rfl rfl ⟨rfl,fun x hx=>nomatch hx⟩) ?_
          ·exact ak4 n (by omega) _ _ _ _ (wA _) _ s hs _ _ start base most _ (by omega) (by omega) roles.length hp8 _ x y z hz 0 0 _ _ fun w'=>hk _ _
          ·rw[List.drop_zero]
    ·rw[show((roles.length:Int) != peers)=true by rw[bne_iff_ne];exact h3,cond_true,if_pos (Or.inl h3)];exact hk _ _
theorem ama(n:Nat)(hn:1000<n)(lim per spa fut cap:Int)(gen:bC)(ws:List Nat)(hw:Wd ws)(hl:ws.length=4)(u:Unit)(g:ij→Option A) :
  Cf n (lim,(per,(spa,(fut,(cap,(gen,(al ws,u))))))) g=g (lim,(per,(spa,(fut,(cap,(gen,(al (ar (ff ws)),()))))))):=by
 match ws,hl,hw with
 | [a,b,c,d],_,hw=>
  obtain⟨v,p,r,t,bb,nn,uu⟩:=gen
  have h0:Cf n (lim,(per,(spa,(fut,(cap,((v,(p,(r,(t,(bb,(nn,uu)))))),(al [a,b,c,d],u))))))) g=l7 n (al [a,b,c,d]) fun r6=>g (lim,(per,(spa,(fut,(cap,((v,(p,(r,(t,(bb,(nn,())))))),(r6,()))))))):=rfl
  rw[h0,V4 n [a,b,c,d] hw (by show 4<100;decide) (by omega)]
theorem Ws{G}(n:Nat)(l:List (List Int))(hlen:l.length<100000){z1 z2 z3 z4 z5}(k0:List ByteArray→Option A):∀ (d f i:Nat),i+d=l.length→d<f→
  pD G n l (l.length:Int) z1 z2 z3 z4 z5 k0 f (i:Int) ((l.take i).map am)=k0 (l.map am)
 | 0,f+1,i,h,_=>by
  rw[pD,BQ,show decide ((i:Int)<(l.length:Int))=false from decide_eq_false (by omega),cond_false,List.take_of_length_le (by omega)]
 | d+1,0,i,_,h=>by omega
 | d+1,f+1,i,h,hf=>by
  have hlt:i<l.length:=by omega
  rw[pD,BQ,show decide ((i:Int)<(l.length:Int))=true from decide_eq_true (by omega),cond_true,if_pos (Int.natCast_nonneg _),Int.toNat_natCast,List.getElem?_eq_getElem hlt,Option.bind_some,List.length_map,if_pos (by rw[List.length_take];omega),aU i (by omega),qi am l i hlt]
  exact Ws n l hlen k0 d f (i+1) (by omega) (by omega)
theorem alc(n:Nat)(hn:1000<n)(b:bo)(hl:b.2.1.length<1000)(g:nj→Option A):sL n b g=g (fb b):=by
 obtain⟨⟨v,p,r,t,bb,nn,uu⟩,l,u⟩:=b
 unfold sL KO
 exact Ws n l (by simp only at hl;omega) _ l.length n 0 (by omega) (by simp only at hl;omega)
theorem Xn{G}(n:Nat)(l:List (List Int))(hlen:l.length<100000){z1 z2 z3 z4 z5 z6 z7 z8 z9 z10 z11 z12 z13}(k0:List ByteArray→Option A):∀ (d f i:Nat),i+d=l.length→d<f→
  pC G n l (l.length:Int) z1 z2 z3 z4 z5 z6 z7 z8 z9 z10 z11 z12 z13 k0 f (i:Int) ((l.take i).map am)=k0 (l.map am)
 | 0,f+1,i,h,_=>by
  rw[pC,BO,show decide ((i:Int)<(l.length:Int))=false from decide_eq_false (by omega),cond_false,List.take_of_length_le (by omega)]
 | d+1,0,i,_,h=>by omega
 | d+1,f+1,i,h,hf=>by
  have hlt:i<l.length:=by omega
  rw[pC,BO,show decide ((i:Int)<(l.length:Int))=true from decide_eq_true (by omega),cond_true,if_pos (Int.natCast_nonneg _),Int.toNat_natCast,List.getElem?_eq_getElem hlt,Option.bind_some,List.length_map,if_pos (by rw[List.length_take];omega),aU i (by omega),qi am l i hlt]
  exact Xn n l hlen k0 d f (i+1) (by omega) (by omega)
theorem ale(n:Nat)(hn:1000<n)(lim per spa fut cap:Int)(gen:bC)(ws:List Nat)(hw:Wd ws)(hl:ws.length=4)(u:Unit)(b m e p:Int)(w:List (List Int))(hwl:w.length<1000)(u2:Unit)(g:lB→Option A) :
  BP n ((lim,(per,(spa,(fut,(cap,(gen,(al ws,u))))))),(b,(m,(e,(p,(w,u2)))))) g=g ((lim,(per,(spa,(fut,(cap,(gen,(al (ar (ff ws)),()))))))),(b,(m,(e,(p,(w.map am,())))))):=by
 unfold BP KL
 simp only
 rw[ama n hn lim per spa fut cap gen ws hw hl u]
 exact Xn n w (by omega) _ w.length n 0 (by omega) (by omega)
theorem Wu{G}(m n:Nat)(hm:1000<m)(l:List bo)(hb:∀ b∈l,b.2.1.length<1000)(hlen:l.length<100000){z1 z2 z3 z4 z5 z6 z7 z8 z9 z10 z11}(k0:List nj→Option A):∀ (d f i:Nat),i+d=l.length→d<f→
  o8 G (sL m) n z1 z2 z3 l (l.length:Int) z4 z5 z6 z7 z8 z9 z10 z11 k0 f (i:Int) ((l.take i).map fb)=k0 (l.map fb)
 | 0,f+1,i,h,_=>by
  rw[o8,Bf,show decide ((i:Int)<(l.length:Int))=false from decide_eq_false (by omega),cond_false,List.take_of_length_le (by omega)]
 | d+1,0,i,_,h=>by omega
 | d+1,f+1,i,h,hf=>by
  have hlt:i<l.length:=by omega
  rw[o8,Bf,show decide ((i:Int)<(l.length:Int))=true from decide_eq_true (by omega),cond_true,if_pos (Int.natCast_nonneg _),Int.toNat_natCast,List.getElem?_eq_getElem hlt,Option.bind_some,alc m hm _ (hb _ (List.getElem_mem hlt)),List.length_map,if_pos (by rw[List.length_take];omega),aU i (by omega),qi fb l i hlt]
  exact Wu m n hm l hb hlen k0 d f (i+1) (by omega) (by omega)
theorem Wv{G}(m n:Nat)(hm:1000<m)(hn:1000<n)(cs:List (List bo))(hc:∀ c∈cs,c.length≤500∧∀ b∈c,b.2.1.length<1000)(hlen:cs.length<100000){z1 z2 z3 z4 z5 z6 z7}(k0:List (List nj)→Option A):∀ (d f i:Nat),i+d=cs.length→d<f→
  o7 G (sL m) n cs (cs.length:Int) z1 z2 z3 z4 z5 z6 z7 k0 f (i:Int) ((cs.take i).map (List.map fb))=k0 (cs.map (List.map fb))
 | 0,f+1,i,h,_=>by
  rw[o7,Be,show decide ((i:Int)<(cs.length:Int))=false from decide_eq_false (by omega),cond_false,List.take_of_length_le (by omega)]
 | d+1,0,i,_,h=>by omega
 | d+1,f+1,i,h,hf=>by
  have hlt:i<cs.length:=by omega
  have hci:=hc _ (List.getElem_mem hlt)
  rw[o7,Be,show decide ((i:Int)<(cs.length:Int))=true from decide_eq_true (by omega),cond_true,if_pos (Int.natCast_nonneg _),Int.toNat_natCast,List.getElem?_eq_getElem hlt,Option.bind_some]
  refine Eq.trans (Wu m n hm cs[i] hci.2 (by omega) _ cs[i].length n 0 (by omega) (by omega)) ?_
  rw[List.length_map,if_pos (by rw[List.length_take];omega),aU i (by omega),qi (List.map fb) cs i hlt]
  exact Wv m n hm hn cs hc hlen k0 d f (i+1) (by omega) (by omega)
theorem amg(n:Nat)(hn:1000<n)(lim per spa fut cap:Int)(gen:bC)(ws:List Nat)(hw:Wd ws)(hl:ws.length=4)(u:Unit)(b m e p:Int)(w:List (List Int))(hwl:w.length<1000)(u2:Unit)(st:Int)(cs:List (List bo))(hc:∀ c∈cs,c.length≤500∧∀ b∈c,b.2.1.length<1000)(hlen:cs.length<1000)(ro:List Int)(ba qu:Int)(u3:Unit)(g:_→Option A) :
  Bg n (((lim,(per,(spa,(fut,(cap,(gen,(al ws,u))))))),(b,(m,(e,(p,(w,u2)))))),(st,(cs,(ro,(ba,(qu,u3)))))) g=
   g (((lim,(per,(spa,(fut,(cap,(gen,(al (ar (ff ws)),()))))))),(b,(m,(e,(p,(w.map am,())))))),(st,(cs.map (List.map fb),(ro,(ba,(qu,())))))):=by
 unfold Bg Jc
 simp only
 rw[ale n hn lim per spa fut cap gen ws hw hl u b m e p w hwl u2]
 exact Wv n n hn hn cs hc (by omega) _ cs.length n 0 (by omega) (by omega)
def mG(b:bo):Bool:=decide (b.2.1.length≤17)&&b.2.1.all fun t=>decide (t.length≤300)
def pP(c:List bo):Bool:=decide (c.length≤10)&&c.all mG
theorem UR(n:Nat)(l:List (List Int))(hlen:l.length<100000){z1 z2 z3}(k0 k1:Option A):∀ (d f i:Nat),i+d=l.length→d<f→
  pw n z1 z2 z3 l (l.length:Int) k0 k1 f (i:Int)=bif (l.drop i).all (fun t=>decide (t.length≤300)) then k1 else k0
 | 0,f+1,i,h,_=>by
  rw[pw,BJ,show decide ((i:Int)<(l.length:Int))=false from decide_eq_false (by omega),cond_false,List.drop_of_length_le (by omega)];rfl
 | d+1,0,i,_,h=>by omega
 | d+1,f+1,i,h,hf=>by
  have hlt:i<l.length:=by omega
  rw[pw,BJ,show decide ((i:Int)<(l.length:Int))=true from decide_eq_true (by omega),cond_true,if_pos (Int.natCast_nonneg _),Int.toNat_natCast,List.getElem?_eq_getElem hlt,Option.bind_some,List.drop_eq_getElem_cons hlt,List.all_cons]
  by_cases h1:l[i].length≤300
  ·rw[show decide (((l[i].length:Nat):Int)>300)=false from decide_eq_false (by omega),cond_false,decide_eq_true h1,Bool.true_and,aU i (by omega)]
   exact UR n l hlen k0 k1 d f (i+1) (by omega) (by omega)
  ·rw[show decide (((l[i].length:Nat):Int)>300)=true from decide_eq_true (by omega),cond_true,decide_eq_false h1,Bool.false_and,cond_false]
theorem UQ(n:Nat)(hn:1000<n)(c:List bo)(hlen:c.length<100000)(k0 k1:Option A):∀ (d f i:Nat),i+d=c.length→d<f→
  pu n c (c.length:Int) k0 k1 f (i:Int)=bif (c.drop i).all mG then k1 else k0
 | 0,f+1,i,h,_=>by
  rw[pu,BI,show decide ((i:Int)<(c.length:Int))=false from decide_eq_false (by omega),cond_false,List.drop_of_length_le (by omega)];rfl
 | d+1,0,i,_,h=>by omega
 | d+1,f+1,i,h,hf=>by
  have hlt:i<c.length:=by omega
  rw[pu,BI,show decide ((i:Int)<(c.length:Int))=true from decide_eq_true (by omega),cond_true,if_pos (Int.natCast_nonneg _),Int.toNat_natCast,List.getElem?_eq_getElem hlt,Option.bind_some,List.drop_eq_getElem_cons hlt,List.all_cons]
  by_cases h1:c[i].2.1.length≤17
  ·rw[show decide (((c[i].2.1.length:Nat):Int)>17)=false from decide_eq_false (by omega),cond_false]
   refine Eq.trans (UR n c[i].2.1 (by omega) _ _ c[i].2.1.length n 0 (by omega) (by omega)) ?_
   rw[List.drop_zero,aU i (by omega),UQ n hn c hlen k0 k1 d f (i+1) (by omega) (by omega)]
   unfold mG
   rw[decide_eq_true h1,Bool.true_and]
   cases c[i].2.1.all fun t=>decide (t.length≤300)<;>rfl
  ·rw[show decide (((c[i].2.1.length:Nat):Int)>17)=true from decide_eq_true (by omega),cond_true]
   unfold mG
   rw[decide_eq_false h1,Bool.false_and,Bool.false_and,cond_false]
theorem ajw(n:Nat)(hn:1000<n)(x:List Int)(c:List bo)(u:Unit)(g:Bool→Option A):vv n (x,(c,u)) g=g (pP c):=by
 unfold vv Kq pP
 simp only
 by_cases h1:c.length≤10
 ·rw[show decide (((c.length:Nat):Int)>10)=false from decide_eq_false (by omega),cond_false,decide_eq_true h1,Bool.true_and]
  refine Eq.trans (UQ n hn c (by omega) _ _ c.length n 0 (by omega) (by omega)) ?_
  rw[List.drop_zero]
  cases c.all mG<;>rfl
 ·rw[show decide (((c.length:Nat):Int)>10)=true from decide_eq_true (by omega),cond_true,decide_eq_false h1,Bool.false_and]
theorem UP(m n:Nat)(hm:1000<m)(cs:List (List bo))(hlen:cs.length<100000){z1}(k0 k1:Option A):∀ (d f i:Nat),i+d=cs.length→d<f→
  oU (vv m) n z1 cs (cs.length:Int) k0 k1 f (i:Int)=bif (cs.drop i).all pP then k1 else k0
 | 0,f+1,i,h,_=>by
  rw[oU,AS,show decide ((i:Int)<(cs.length:Int))=false from decide_eq_false (by omega),cond_false,List.drop_of_length_le (by omega)];rfl
 | d+1,0,i,_,h=>by omega
 | d+1,f+1,i,h,hf=>by
  have hlt:i<cs.length:=by omega
  rw[oU,AS,show decide ((i:Int)<(cs.length:Int))=true from decide_eq_true (by omega),cond_true,if_pos (Int.natCast_nonneg _),Int.toNat_natCast,List.getElem?_eq_getElem hlt,Option.bind_some,ajw m hm,List.drop_eq_getElem_cons hlt,List.all_cons]
  cases pP cs[i] with
  | false=>rfl
  | true=>rw[Bool.not_true,cond_false,Bool.true_and,aU i (by omega)];exact UP m n hm cs hlen k0 k1 d f (i+1) (by omega) (by omega)
def mH(peers:Int)(w:List (List Int))(cs:List (List bo))(ro:List Int):Bool:=decide (cs.length≤3)&&(decide (ro.length≤8)&&(decide (w.length≤9)&&(decide (peers≤9)&&cs.all pP)))
theorem UN(n:Nat)(hn:1000<n)(par)(b m e p:Int)(w:List (List Int))(u2:Unit)(st:Int)(cs:List (List bo))(ro:List Int)(r)(u:Unit)(g:Bool→Option A) :
  uZ n ((((par,(b,(m,(e,(p,(w,u2)))))),(st,(cs,(ro,r)))),([],u))) g=g (mH p w cs ro):=by
 unfold uZ Iw mH
 simp only
 by_cases h1:cs.length≤3
 ·rw[show decide (((cs.length:Nat):Int)>3)=false from decide_eq_false (by omega),cond_false,decide_eq_true h1,Bool.true_and]
  by_cases h2:ro.length≤8
  ·rw[show decide (((ro.length:Nat):Int)>8)=false from decide_eq_false (by omega),cond_false,decide_eq_true h2,Bool.true_and]
   rw[show decide (((([]:List (Int×(Int×(Int×(List Int×Unit))))).length:Nat):Int)>60)=false from rfl,cond_false]
   by_cases h3:w.length≤9
   ·rw[show decide (((w.length:Nat):Int)>9)=false from decide_eq_false (by omega),cond_false,decide_eq_true h3,Bool.true_and]
    by_cases h4:p≤9
    ·rw[show decide (p>9)=false from decide_eq_false (by omega),cond_false,decide_eq_true h4,Bool.true_and]
     obtain⟨q,rfl⟩:∃ q,n=q+1:=⟨n-1,by omega⟩
     rw[va,Iv,show decide ((0:Int)<((([]:List (Int×(Int×(Int×(List Int×Unit))))).length:Nat):Int))=false from rfl,cond_false]
     refine Eq.trans (UP (q+1) (q+1) hn cs (by omega) _ _ cs.length (q+1) 0 (by omega) (by omega)) ?_
     rw[List.drop_zero]
     cases cs.all pP<;>rfl
    ·rw[show decide (p>9)=true from decide_eq_true (by omega),cond_true,decide_eq_false h4,Bool.false_and]
   ·rw[show decide (((w.length:Nat):Int)>9)=true from decide_eq_true (by omega),cond_true,decide_eq_false h3,Bool.false_and]
  ·rw[show decide (((ro.length:Nat):Int)>8)=true from decide_eq_true (by omega),cond_true,decide_eq_false h2,Bool.false_and]
 ·rw[show decide (((cs.length:Nat):Int)>3)=true from decide_eq_true (by omega),cond_true,decide_eq_false h1,Bool.false_and]
def N1(b:bo):Prop:=dO b.1∧∀ t∈b.2.1,aq t
def wQ(cs:List (List bo)):Prop:=∀ c∈cs,∀ b∈c,N1 b
theorem UM{b:bo}(h:mG b=true)(hi:N1 b):kh b:=by
 unfold mG at h
 rw[Bool.and_eq_true,decide_eq_true_eq,List.all_eq_true] at h
 exact⟨hi.1,fun x hx=>⟨hi.2 x hx,by have:=h.2 x hx;rw[decide_eq_true_eq] at this;omega⟩,by omega⟩
theorem UO{p:Int}{w:List (List Int)}{cs:List (List bo)}{ro:List Int}(h:mH p w cs ro=true)(hi:wQ cs):cs.length≤3∧ro.length≤8∧w.length≤9∧m0 cs∧∀ c∈cs,c.length≤500∧∀ b∈c,b.2.1.length<1000:=by
 unfold mH at h
 rw[Bool.and_eq_true,Bool.and_eq_true,Bool.and_eq_true,Bool.and_eq_true,decide_eq_true_eq,decide_eq_true_eq,decide_eq_true_eq,decide_eq_true_eq,List.all_eq_true] at h
 obtain⟨h1,h2,h3,h4,h5⟩:=h
 have hc:∀ c∈cs,c.length≤10∧∀ b∈c,mG b=true:=fun c hc=>by
  have:=h5 c hc
  unfold pP at this
  rw[Bool.and_eq_true,decide_eq_true_eq,List.all_eq_true] at this
  exact this
 refine⟨h1,h2,h3,⟨by omega,fun c hcc=>⟨by have:=(hc c hcc).1;omega,fun b hb=>UM ((hc c hcc).2 b hb) (hi c hcc b hb)⟩⟩,fun c hcc=>⟨by have:=(hc c hcc).1;omega,fun b hb=>?_⟩⟩
 have:=(UM ((hc c hcc).2 b hb) (hi c hcc b hb)).2.2;omega
theorem anq(ws:List Nat)(hw:Wd ws)(hl:ws.length=4):ff ws<2^256:=by
 match ws,hl,hw with
 | [a,b,c,d],_,hw=>
  have ha:=hw a (by simp);have hb:=hw b (by simp);have hc:=hw c (by simp);have hd:=hw d (by simp)
  rw[show 2^256=115792089237316195423570985008687907853269984665640564039457584007913129639936 by decide]
  simp only[ff]
  omega
theorem akq(n:Nat)(hn:1000<n)(lim:Nat)(hl:lim<4294967296)(per spa fut cap:Int)(v:Int)(pv rt:List Int)(tm:Int)(gb:Nat)(hg:gb<4294967296)(nc:Int)(u:Unit)(og:dO (v,(pv,(rt,(tm,((gb:Int),(nc,u)))))))(ws:List Nat)(hw:Wd ws)(hwl:ws.length=4)(u2:Unit)(base most every peers:Int)(w:List (List Int))(hB:∀ x∈w,aq x)(u3:Unit)(start:Int)(cs:List (List bo))(hi:wQ cs)(ro:List Int)(batch quota:Int)(u4 u5:Unit)(g:Bool→Option A) :
  B7 n ((((((lim:Int),(per,(spa,(fut,(cap,((v,(pv,(rt,(tm,((gb:Int),(nc,u)))))),(al ws,u2))))))),(base,(most,(every,(peers,(w,u3)))))),(start,(cs,(ro,(batch,(quota,u4))))))),([],u5)) g=
   g (mH peers w cs ro&&decide (mQ lim gb per spa fut cap (v,(pv,(rt,(tm,((gb:Int),(nc,())))))) base most every peers w start cs ro batch quota=0)):=by
 unfold B7 Lu
 simp only
 rw[UN n hn]
 cases hf:mH peers w cs ro with
 | false=>rfl
 | true=>
  obtain⟨h1,h2,h3,h4,h5⟩:=UO hf hi
  rw[Bool.not_true,cond_false,amg n hn _ per spa fut cap _ ws hw hwl u2 base most every peers w (by omega) u3 start cs h5 (by omega) ro batch quota u4]
  refine Eq.trans (alD n hn lim hl per spa fut cap v pv rt tm gb hg nc u og (ff ws) (anq ws hw hwl) () base most every peers w hB () start cs h4 ro (by omega) batch quota () _ (fun e=>g (e==0)) fun w e=>rfl) ?_
  rw[Bool.true_and]
  congr 1
  rw[Bool.eq_iff_iff,beq_iff_eq,decide_eq_true_eq]
  exact⟨fun h=>by exact_mod_cast h,fun h=>by exact_mod_cast h⟩
abbrev Ym:=Int×(List (List Int)×(List Int×(List bC×(List Int×(List Int×(List Int×(List (List Int×((Int×(Int×(List (List Int)×Unit)))×Unit))×(Int×(Int×(Int×Unit))))))))))
def eI(h:List Int)(v:Int):Ym:=(1,([h],(dE,([],(dE,([],([],([],(v,(0,(0,())))))))))))
theorem abi(m:Nat)(h:List Int)(v:Int)(k:ByteArray→Option A):zn (m+20) (eI h v).1 k=k NK:=by kernel_rfl
theorem abf(G1:Int→(ByteArray→Option A)→Option A)(G3 G5 G6 G7 G8 G9 G10)(n m:Nat)(h:List Int)(v:Int)(k0 k1:Option A):uk G1 (uC (m+20)) G3 (FS (m+20)) G5 G6 G7 G8 G9 G10 n (eI h v) k0 k1 (m+20) 0=k1:=by kernel_rfl
theorem abg(G1:Int→(ByteArray→Option A)→Option A)(G3 G4 G5 G6 G7 G10)(P)(n m:Nat)(h:List Int)(v:Int)(k0 k1:Unit→List Int→Option A)(wb:Unit)(wa:List Int):ul G1 (uC (m+20)) G3 G4 G5 G6 G7 (FY (m+20)) P G10 n (eI h v) k0 k1 (m+20) 0 wb wa=
  P (eI h v) 0 wb wa (fun a b=>P (eI h v) 1 a b (fun a b=>P (eI h v) 8 a b (fun a b=>k1 a b) (fun a b=>k1 a b)) (fun a b=>P (eI h v) 8 a b (fun a b=>k1 a b) (fun a b=>k1 a b)))
   (fun a b=>P (eI h v) 1 a b (fun a b=>P (eI h v) 8 a b (fun a b=>k1 a b) (fun a b=>k1 a b)) (fun a b=>P (eI h v) 8 a b (fun a b=>k1 a b) (fun a b=>k1 a b))):=by kernel_rfl
theorem abq(n:Nat)(h:List Int)(v:Int)(wb:Unit)(wa:List Int)(k0 k1:Unit→List Int→Option A):l9 n (eI h v) 0 wb wa k0 k1=uW n [h] wb wa fun r1 r2=>k0 r1 r2:=by
 unfold l9 uF
 rw[show((0:Int)==0)=true from rfl,cond_true];rfl
theorem abr(n:Nat)(h:List Int)(v:Int)(wb:Unit)(wa:List Int)(k0 k1:Unit→List Int→Option A):l9 n (eI h v) 1 wb wa k0 k1=iq n [dE] wb wa fun r1 r2=>k0 r1 r2:=by
 unfold l9 uF
 rw[show((1:Int)==0)=false from rfl,cond_false,show((1:Int)==1)=true from rfl,cond_true];rfl
theorem abs(n:Nat)(h:List Int)(v:Int)(wb:Unit)(wa:List Int)(k0 k1:Unit→List Int→Option A):l9 n (eI h v) 8 wb wa k0 k1=fF n v 8 wb wa fun r1 r2=>k0 r1 r2:=by
 unfold l9 uF
 rw[show((8:Int)==0)=false from rfl,cond_false,show((8:Int)==1)=false from rfl,cond_false,show((8:Int)==2)=false from rfl,cond_false,show((8:Int)==3)=false from rfl,cond_false,show((8:Int)==4)=false from rfl,cond_false,show((8:Int)==5)=false from rfl,cond_false,
  show((8:Int)==6)=false from rfl,cond_false,show((8:Int)==7)=false from rfl,cond_false,show((8:Int)==8)=true from rfl,cond_true];rfl
theorem abz(n v:Nat)(hn:10<n)(hv:v<253)(wb:Unit)(wa:List Int)(hl:wa.length<1000000)(g:Unit→List Int→Option A):oP n (v:Int) wb wa g=g wb (wa++bv 1 v):=by
 unfold oP H9
 rw[show decide ((v:Int)<253)=true from decide_eq_true (by omega),cond_true,show(1:Int)=((1:Nat):Int) from rfl,yy n v 1 hn (by omega) (by decide) wb wa (by omega)]
theorem aaY(n:Nat)(hn:10<n)(h:List Int)(hh:h.length=32∧aq h)(wb:Unit)(wa:List Int)(hl:wa.length<1000000)(g:Unit→List Int→Option A):uW n [h] wb wa g=g wb (wa++bv 1 1++h):=by
 obtain⟨m,rfl⟩:∃ m,n=m+5:=⟨n-5,by omega⟩
 have h0:uW (m+5) [h] wb wa g=oP (m+5) 1 wb wa fun r1 r2=>iq (m+5) [(h.drop 0).take 32] r1 r2 fun r4 r5=>g r4 r5:=by
  rfl
 rw[h0,show(1:Int)=((1:Nat):Int) from rfl,abz (m+5) 1 hn (by decide) wb wa hl,List.drop_zero,List.take_of_length_le (by omega),M7 (m+5) [h] wb _ (by show 1<1000000;decide) (by show 1<_;omega) (by rw[List.length_append,bP];simp[hh.1];omega)]
 simp
theorem abh(n:Nat)(hn:100<n)(h:List Int)(hh:h.length=32∧aq h)(v:Nat)(hv:v<18446744073709551616)(g:Int→List Int→Option A):yE n (eI h (v:Int)) g=g 0 (jU h v):=by
 obtain⟨m,rfl⟩:∃ m,n=m+20:=⟨n-20,by omega⟩
 have hs:(NK.toList==ByteArray.empty.toList)=false:=by
  rw[Bool.eq_false_iff]
  intro hh2
  rw[beq_iff_eq,toList_inj] at hh2
  exact absurd (congrArg ByteArray.size hh2) (by decide)
 have hnew:∀ k:Unit→List Int→Option A,ol (m+20) k=k () []:=fun k=>rfl
 unfold yE EB
 rw[abi,hs,cond_false,abf,hnew,show IntKind.wrap .u64 (eI h (v:Int)).1=((1:Nat):Int) from rfl,show(1:Int)=((1:Nat):Int) from rfl,yy (m+20) 1 1 (by omega) (by decide) (by decide) () [] (by decide),abg,abq,aaY (m+20) (by omega) h hh () _ (by simp[bP]),abr]
 have l1:(bv 1 1).length=1:=bP 1 1
 rw[M7 (m+20) [dE] () _ (by show 1<1000000;decide) (by show 1<_;omega) (by simp[hh.1,l1]),abs,show(8:Int)=((8:Nat):Int) from rfl,yy (m+20) v 8 (by omega) hv (by decide) () _ (by simp[hh.1,l1]),PN _ _ _ (by simp[hh.1,l1,bP])]
 congr 1
abbrev ki:=Unit×((Unit×(Unit×(Option (List Int)×(Int×(Int×(Bool×Unit))))))×((Int×(Int×(d8×(Int×(Bool×(Unit×(Int×(Int×(Int×(Bool×Unit))))))))))×(List (d8×Int)×((Int×(Unit×Unit))×(List (List Int×Int)×Unit)))))
abbrev Dn:=bC×(List Int×(Int×(Int×(List Int×Unit))))
structure PS where
 asks:Nat
 key:d8
 dl:Int
 wt:Bool
 fails:Nat
 wake:Int
 late:List (d8×Int)
def nN(b m it a:Int)(key:d8)(dl:Int)(wt:Bool)(f w:Int)(late:List (d8×Int)):ki:=((),(((),((),(none,(0,(a,(false,())))))),((b,(m,(key,(dl,(wt,((),(f,(w,(0,(false,())))))))))),(late,((it,((),())),([],()))))))
def cs(b m it:Int)(s:PS):ki:=nN b m it (s.asks:Int) s.key s.dl s.wt (s.fails:Int) s.wake s.late
def fa:PS:=⟨0,s6,0,false,0,0,[]⟩
def ub(b now:Int)(s:PS):PS:=⟨s.asks+1,(1,(dE,(((s.asks+1:Nat):Int),()))),now+b,true,s.fails,s.wake,s.late⟩
theorem PM(m:Nat)(par:dH)(u:Unit)(hd:bC)(h:List Int)(r)(mp:List (List Int×Int))(g:List (List Int)→Option A):Aw (m+5) par u [(hd,(h,r))] mp [0] g=g [h]:=by kernel_rfl
theorem abk(m:Nat)(it:Int)(u:Unit)(h:List Int)(g:d8→Bool→Option A):As (m+5) [h] it u [] g=g s6 false:=by
 unfold As HH
 cases (it==0) with
 | true=>rfl
 | false=>kernel_rfl
theorem abd(m:Nat)(h:List Int)(g:List (List Int)→Option A):HL (m+5) [h] g=g [h]:=by kernel_rfl
theorem Eh(n:Nat)(now b m:Int)(s:PS)(g:Bool→Option A):uz n now b m s.key s.dl s.wt ((s.fails:Int),(s.wake,(0,(false,())))) s.late g=g (!s.wt&&decide (s.wake≤now)):=by
 unfold uz FD
 simp only
 rw[Bool.not_false,cond_true]
 cases s.wt<;>rfl
theorem aaI(n:Nat)(i:Nat)(c1:dH)(c2 c3 c4 c5:Int)(c6:Unit)(now:Int)(c8:Unit)(w:List (List Int))(c10:dH)(c11:Unit)(nds:List Dn)(mp)(bst:List Int)(b m it:Int)(ss:List ki)(s:PS)(hi:ss[i]?=some (cs b m it s))(e1)(e2)(out)(hr:(!s.wt&&decide (s.wake≤now))=false)(k0 k1:_→_→_→_→_→_→_→_→_→_→_→_→_→_→_→_→_→_→Option A) :
  jS n (i:Int) c1 c2 c3 c4 c5 c6 now c8 w c10 c11 nds mp bst ss e1 e2 out k0 k1=k0 c1 c2 c3 c4 c5 c6 now c8 w c10 c11 nds mp bst ss e1 e2 out:=by
 have hlt:i<ss.length:=(List.getElem?_eq_some_iff.1 hi).1
 unfold jS Cn
 rw[if_pos (Int.natCast_nonneg _),if_pos (by omega),Int.toNat_natCast,hi,Option.bind_some]
 simp only[cs,nN]
 rw[Eh,hr,Bool.not_false,cond_true]
 have e:=NC hi
 simp only[cs,nN] at e
 rw[e]
theorem aaP(n:Nat)(hn:20<n)(c1:dH)(c2 c3 c4 c5:Int)(c6:Unit)(now:Int)(h0:0≤now)(c8:Unit)(w:List (List Int))(c10:dH)(c11:Unit)(hd:bC)(h:List Int)(nr)(mp)(ss:List ki)(j:Nat)(a:Nat)(ha:a<1000000000000)(b m:Int)(key:d8)(dl:Int)(wt:Bool)(fw:Int×(Int×(Int×(Bool×Unit))))(late:List (d8×Int))(it:Int)(u1:Unit)(e1)(e2)(g:_→_→_→_→_→_→_→_→_→_→_→_→_→_→_→_→_→_→_→_→_→_→_→_→_→_→_→_→_→_→_→_→_→Option A) :
  zk n c1 c2 c3 c4 c5 c6 now c8 w c10 c11 [(hd,(h,nr))] mp [0] ss j none (0,((a:Int),(false,()))) b m key dl wt fw late it u1 [] e1 e2 g=
   g (eI h ((a+1:Nat):Int)) (1,(dE,(((a+1:Nat):Int),()))) true c1 c2 c3 c4 c5 c6 now c8 w c10 c11 [(hd,(h,nr))] mp [0] ss j none (0,(((a+1:Nat):Int),(false,()))) b m key dl wt fw late it u1 [] e1 e2:=by
 obtain⟨q,rfl⟩:∃ q,n=q+5:=⟨n-5,by omega⟩
 have hl:∀ (G:List (List Int)→Option A) (x1:Int×(Int×(Bool×Unit))),Az (q+5) c1 c2 c3 c4 c5 c6 now c8 w c10 c11 [(hd,(h,nr))] mp [0] ss j none x1 b m key dl wt fw late it u1 [] e1 e2 G=G [h]:=fun G x1=>by
  unfold Az HO
  rw[show(none:Option (List Int)).isNone=true from rfl,cond_true,PM q]
 unfold zk FF
 rw[PM q,abk q]
 simp only
 rw[show decide (now≥0)=true from decide_eq_true h0,cond_true,cond_false,hl,abd q,aU a (by omega),dU (a+1) (by omega)]
 rfl
theorem aaJ(n:Nat)(hn:100<n)(i:Nat)(c1:dH)(c2 c3 c4 c5:Int)(c6:Unit)(now:Int)(h0:0≤now)(h1:now≤1099511627776)(c8:Unit)(w:List (List Int))(c10:dH)(c11:Unit)(hd:bC)(h:List Int)(hh:h.length=32∧aq h)(nr)(mp)(b m it:Int)(hb:0≤b∧b≤65536)(ss:List ki)(s:PS)(ha:s.asks<1000000000000)(hi:ss[i]?=some (cs b m it s))(e1)(e2)(out:List (Int×(List Int×Unit)))(ho:out.length<1000)(hr:(!s.wt&&decide (s.wake≤now))=true)(k0 k1:_→_→_→_→_→_→_→_→_→_→_→_→_→_→_→_→_→_→Option A) :
  jS n (i:Int) c1 c2 c3 c4 c5 c6 now c8 w c10 c11 [(hd,(h,nr))] mp [0] ss e1 e2 out k0 k1=k1 c1 c2 c3 c4 c5 c6 now c8 w c10 c11 [(hd,(h,nr))] mp [0] (ss.set i (cs b m it (ub b now s))) e1 e2 (out++[((i:Int),(jU h (s.asks+1),()))]):=by
 have hlt:i<ss.length:=(List.getElem?_eq_some_iff.1 hi).1
 unfold jS Cn
 rw[if_pos (Int.natCast_nonneg _),if_pos (by omega),Int.toNat_natCast,hi,Option.bind_some]
 simp only[cs,nN]
 rw[Eh,hr,Bool.not_true,cond_false,aaP n (by omega) c1 c2 c3 c4 c5 c6 now h0 c8 w c10 c11 hd h nr mp ss i s.asks ha,Bool.not_true,cond_false]
 unfold FH FI
 rw[show decide (now<0)=false from decide_eq_false (by omega),cond_false,show decide (now>1099511627776)=false from decide_eq_false (by omega),cond_false,Eh,hr,Bool.not_true,cond_false]
 unfold yG EF
 refine Eq.trans (abh n hn h hh (s.asks+1) (by omega) _) ?_
 rw[show(((0:Int)) != 0)=false from rfl,cond_false,if_pos (by omega),show IntKind.wrap .i64 (now+b)=now+b from ap (by omega) (by omega)]
 rfl
def nP(m f:Int):Nat→Int→Int→Int
 | 0,d,_=>d
 | k+1,d,nn=>if nn<f then(if d<m then nP m f k (d*2) (nn+1) else d) else d
theorem Qu(m f:Int):∀ (k:Nat) (d nn:Int),1≤d→d≤nP m f k d nn
 | 0,_,_,_=>Int.le_refl _
 | k+1,d,nn,h=>by
  rw[nP]
  split
  ·split
   ·have:=Qu m f k (d*2) (nn+1) (by omega);omega
   ·exact Int.le_refl _
  ·exact Int.le_refl _
theorem Qw(G:Int→Int→(Bool→Option A)→Option A)(n:Nat)(m f:Int)(hm:m≤1048576)(k0:Int→Option A):∀ (k fuel:Nat) (d:Int) (nn:Nat),2097152≤d*2^k→k<fuel→1≤d→d≤4194304→nn+k<1000000→
  oK G n m f k0 fuel d (nn:Int)=k0 (nP m f k d (nn:Int))
 | 0,fuel+1,d,nn,h,_,h1,h2,_=>by
  have h2m:(2097152:Int)≤d:=by simpa using h
  rw[oK,Aq,nP]
  by_cases hn:(nn:Int)<f
  ·rw[decide_eq_true hn,cond_true,show decide (d<m)=false from decide_eq_false (by omega),cond_false]
  ·rw[decide_eq_false hn,cond_false]
 | k+1,0,_,_,_,h,_,_,_=>by omega
 | k+1,fuel+1,d,nn,h,hf,h1,h2,hb=>by
  rw[oK,Aq,nP]
  by_cases hn:(nn:Int)<f
  ·rw[decide_eq_true hn,cond_true,if_pos hn]
   by_cases hd:d<m
   ·have e:shl .i64 d 1=d*2:=by
     unfold shl
     rw[show min (Int.toNat 1) IntKind.i64.bits=1 from rfl,Int.pow_succ,Int.pow_zero,Int.one_mul]
     exact ap (by omega) (by omega)
    rw[decide_eq_true hd,cond_true,if_pos hd,e,aU nn (by omega)]
    exact Qw G n m f hm k0 k fuel (d*2) (nn+1) (by rw[Int.mul_assoc,Int.mul_comm 2,← Int.pow_succ];exact h) (by omega) (by omega) (by omega) (by omega)
   ·rw[decide_eq_false hd,cond_false,if_neg hd]
  ·rw[decide_eq_false hn,cond_false,if_neg hn]
def lZ(b m f:Int):Int:=cf (nP m f 21 b 1) m
theorem abN(n:Nat)(hn:100<n)(b m f:Int)(hr:cM b m=true)(hf:1≤f)(g:Int→Option A):Ar n b m f g=g (lZ b m f):=by
 unfold cM at hr
 simp only[Bool.and_eq_true,decide_eq_true_eq] at hr
 obtain⟨r1,r2,r3,r4⟩:=hr
 unfold Ar HE
 rw[P5,show cM b m=true by unfold cM;simp only[Bool.and_eq_true,decide_eq_true_eq];exact⟨r1,r2,r3,r4⟩,Bool.not_true,cond_false,show decide (f<1)=false from decide_eq_false (by omega),cond_false]
 exact Qw (so n) n m f (by omega) _ 21 n b 1 (by rw[show(2:Int)^21=2097152 from by decide];omega) (by omega) (by omega) (by omega) (by omega)
theorem Qv(b m f:Int)(hr:cM b m=true):b≤lZ b m f∧lZ b m f≤m:=by
 unfold cM at hr
 simp only[Bool.and_eq_true,decide_eq_true_eq] at hr
 have:=Qu m f 21 b 1 hr.1
 unfold lZ cf
 split<;>omega
def vO(b m now:Int)(s:PS):PS:=⟨s.asks,s6,0,false,s.fails+1,now+lZ b m ((s.fails+1:Nat):Int),bw aP (bw aP s.late s.key ((aY aP s.late s.key).getD 0)) s.key (IntKind.wrap .i64 (((aY aP s.late s.key).getD 0)+1))⟩
def cV(b m now:Int)(s:PS):PS:=bif s.wt&&decide (s.dl≤now) then vO b m now s else s
theorem abp(n:Nat)(hn:100<n)(now b m:Int)(h0:0≤now)(h1:now≤1099511627776)(hr:cM b m=true)(s:PS)(hf:s.fails<1000000000000)(g:d8→Bool→Int→Int→d8→Int→Bool→(Int×(Int×(Int×(Bool×Unit))))→List (d8×Int)→Option A)(W:Option A)(hg:∀ x y,g x y b m (cV b m now s).key (cV b m now s).dl (cV b m now s).wt (((cV b m now s).fails:Int),((cV b m now s).wake,(0,(false,())))) (cV b m now s).late=W) :
  sS n now b m s.key s.dl s.wt ((s.fails:Int),(s.wake,(0,(false,())))) s.late g=W:=by
 unfold sS Mg
 unfold cV at hg
 cases hw:s.wt with
 | false=>rw[hw] at hg;rw[Bool.not_false,cond_true];rw[Bool.false_and,cond_false] at hg;have:=hg (0,((List.replicate 32 (0:Int)),(0,()))) false;rw[hw] at this;exact this
 | true=>
  rw[hw,Bool.true_and] at hg
  rw[Bool.not_true,cond_false]
  by_cases hd:now<s.dl
  ·rw[decide_eq_true hd,cond_true]
   rw[decide_eq_false (show ¬ s.dl≤now by omega),cond_false] at hg
   have:=hg (0,((List.replicate 32 (0:Int)),(0,()))) false;rw[hw] at this;exact this
  ·rw[decide_eq_false hd,cond_false]
   rw[decide_eq_true (show s.dl≤now by omega),cond_true] at hg
   unfold zi Fz FB FC
   simp only
   have hb:=Qv b m ((s.fails+1:Nat):Int) hr
   have hmm:m≤1048576:=by unfold cM at hr;simp only[Bool.and_eq_true,decide_eq_true_eq] at hr;omega
   have hbb:1≤b:=by unfold cM at hr;simp only[Bool.and_eq_true,decide_eq_true_eq] at hr;omega
   rw[aU s.fails (by omega)]
   refine Eq.trans (abN n hn b m _ hr (by omega) _) ?_
   rw[show IntKind.wrap .i64 (now+lZ b m ((s.fails+1:Nat):Int))=now+lZ b m ((s.fails+1:Nat):Int) from ap (by omega) (by omega)]
   exact hg s.key true
def dG(b st now:Int)(s:PS):Prop:=
 1≤s.asks∧2*b*((s.asks:Int)-1)≤now-st∧(s.fails:Int)≤now-st∧(s.wt=true→now<s.dl∧s.dl≤now+b∧2*b*((s.asks:Int)-1)≤s.dl-b-st)∧(s.wt=false→now<s.wake∧2*b*(s.asks:Int)≤s.wake-st)
def dY(b now:Int)(s:PS):PS:=bif !s.wt&&decide (s.wake≤now) then ub b now s else s
theorem dG.step{b m st now:Int}(hr:cM b m=true){s:PS}(h:dG b st now s):dG b st (now+1) (dY b (now+1) (cV b m (now+1) s))∧(cV b m (now+1) s).asks=s.asks:=by
 obtain⟨h1,h2,h3,h4,h5⟩:=h
 have hb:=Qv b m ((s.fails+1:Nat):Int) hr
 have hbb:1≤b:=by unfold cM at hr;simp only[Bool.and_eq_true,decide_eq_true_eq] at hr;omega
 cases hw:s.wt with
 | true=>
  obtain⟨a1,a2,a3⟩:=h4 hw
  by_cases hd:s.dl≤now+1
  ·have e:cV b m (now+1) s=vO b m (now+1) s:=by unfold cV;rw[hw,decide_eq_true hd];rfl
   have e2:dY b (now+1) (vO b m (now+1) s)=vO b m (now+1) s:=by
    unfold dY vO
    simp only
    rw[decide_eq_false (by omega)];rfl
   have e3:2*b*(s.asks:Int)=2*b*((s.asks:Int)-1)+2*b:=by rw[Int.mul_sub,Int.mul_one];omega
   rw[e,e2]
   refine⟨⟨h1,by show 2*b*((s.asks:Int)-1)≤_;omega,by show((s.fails+1:Nat):Int)≤_;omega,(fun h=>by cases h),fun _=>⟨by show now+1<now+1+_;omega,?_⟩⟩,rfl⟩
   show 2*b*(s.asks:Int)≤now+1+lZ b m ((s.fails+1:Nat):Int)-st
   omega
  ·have e:cV b m (now+1) s=s:=by unfold cV;rw[hw,decide_eq_false hd];rfl
   have e2:dY b (now+1) s=s:=by unfold dY;rw[hw];rfl
   rw[e,e2]
   exact⟨⟨h1,by omega,by omega,fun _=>⟨by omega,by omega,a3⟩,fun h=>by rw[hw] at h;cases h⟩,rfl⟩
 | false=>
  obtain⟨a1,a2⟩:=h5 hw
  have e:cV b m (now+1) s=s:=by unfold cV;rw[hw];rfl
  rw[e]
  by_cases hk:s.wake≤now+1
  ·have e2:dY b (now+1) s=ub b (now+1) s:=by unfold dY;rw[hw,decide_eq_true hk];rfl
   rw[e2]
   have e3:2*b*(((s.asks+1:Nat):Int)-1)=2*b*(s.asks:Int):=by congr 1;omega
   refine⟨⟨by show 1≤s.asks+1;omega,?_,by show(s.fails:Int)≤_;omega,fun _=>⟨by show now+1<now+1+b;omega,by show now+1+b≤_;omega,?_⟩,fun h=>by cases h⟩,rfl⟩
   ·show 2*b*(((s.asks+1:Nat):Int)-1)≤_
    rw[e3];omega
   ·show 2*b*(((s.asks+1:Nat):Int)-1)≤now+1+b-b-st
    rw[e3];omega
  ·have e2:dY b (now+1) s=s:=by unfold dY;rw[hw,decide_eq_false hk];rfl
   rw[e2]
   exact⟨⟨h1,by omega,by omega,(fun h=>by rw[hw] at h;cases h),fun _=>⟨by omega,a2⟩⟩,rfl⟩
theorem dG.first(b st:Int)(hb:1≤b)(hs:0≤st)(m:Int):dG b st st (dY b st (cV b m st fa))∧(cV b m st fa).asks=fa.asks:=by
 have e:cV b m st fa=fa:=rfl
 have e2:dY b st fa=ub b st fa:=by unfold dY fa;simp only;rw[decide_eq_true hs];rfl
 rw[e,e2]
 refine⟨⟨by show 1≤0+1;decide,?_,by show((0:Nat):Int)≤_;omega,fun _=>⟨by show st<st+b;omega,by show st+b≤_;omega,?_⟩,fun h=>by cases h⟩,rfl⟩
 ·show 2*b*(((0+1:Nat):Int)-1)≤_
  rw[show(((0+1:Nat):Int)-1)=0 from rfl,Int.mul_zero];omega
 ·show 2*b*(((0+1:Nat):Int)-1)≤st+b-b-st
  rw[show(((0+1:Nat):Int)-1)=0 from rfl,Int.mul_zero];omega
def iz(v:List Nat)(j:Nat):List Nat:=v.set j (v.getD j 0+1)
def eJ(v:List Nat)(js:List Nat):List Nat:=js.foldl iz v
theorem Mx(v:List Nat)(j:Nat):(iz v j).length=v.length:=by simp[iz]
theorem My:∀ (js:List Nat) (v:List Nat),(eJ v js).length=v.length
 | [],_=>rfl
 | j::r,v=>by rw[eJ,List.foldl_cons];exact(My r _).trans (Mx v j)
theorem Vh(v:List Nat)(js:List Nat)(j:Nat):eJ v (js++[j])=iz (eJ v js) j:=by simp[eJ]
theorem Vg:∀ (v:List Nat) (j:Nat),j<v.length→(iz v j).sum=v.sum+1
 | [],_,h=>by cases h
 | x::v,0,_=>by simp[iz];omega
 | x::v,j+1,h=>by
  have:=Vg v j (by simpa using h)
  simp only[iz,List.set_cons_succ,List.sum_cons,List.getD_cons_succ] at this ⊢
  omega
theorem Mz:∀ (js:List Nat) (v:List Nat),(∀ j∈js,j<v.length)→(eJ v js).sum=v.sum+js.length
 | [],_,_=>rfl
 | j::r,v,h=>by
  rw[eJ,List.foldl_cons]
  have:=Mz r (iz v j) (fun x hx=>by rw[Mx];exact h x (List.mem_cons_of_mem _ hx))
  rw[eJ] at this
  rw[this,Vg v j (h j (List.mem_cons_self ..)),List.length_cons];omega
def gy(out:List (Int×(List Int×Unit)))(js:List Nat)(p:Nat):Prop:=
 out.length=js.length∧∀ i,i<js.length→∃ o,out[i]?=some o∧o.1=((js.getD i 0:Nat):Int)∧js.getD i 0<p∧o.2.1.length=74
theorem gy.nil(p:Nat):gy [] [] p:=⟨rfl,fun i h=>by cases h⟩
theorem gy.snoc{out:List (Int×(List Int×Unit))}{js:List Nat}{p:Nat}(h:gy out js p)(j:Nat)(hj:j<p)(t:List Int)(ht:t.length=74)(u:Unit):gy (out++[((j:Int),(t,u))]) (js++[j]) p:=by
 obtain⟨h1,h2⟩:=h
 refine⟨by simp[h1],fun i hi=>?_⟩
 rw[List.length_append] at hi
 by_cases hlt:i<js.length
 ·obtain⟨o,q1,q2,q3,q4⟩:=h2 i hlt
  have e:(js++[j]).getD i 0=js.getD i 0:=by rw[List.getD_eq_getElem?_getD,List.getD_eq_getElem?_getD,List.getElem?_append_left hlt]
  exact⟨o,by rw[List.getElem?_append_left (by omega)];exact q1,by rw[e];exact q2,by rw[e];exact q3,q4⟩
 ·have e0:i=js.length:=by simp at hi;omega
  subst e0
  have e:(js++[j]).getD js.length 0=j:=by rw[List.getD_eq_getElem?_getD,List.getElem?_append_right (Nat.le_refl _),Nat.sub_self];rfl
  exact⟨((j:Int),(t,u)),by rw[List.getElem?_append_right (by omega),h1,Nat.sub_self];rfl,by rw[e],by rw[e];exact hj,ht⟩
theorem CL{α β:Type}(f:α→β)(l:List α)(i:Nat)(x:α):(l.map f).set i (f x)=(l.set i x).map f:=by rw[List.map_set]
theorem Qf(q n:Nat)(hq:200<q)(c1:dH)(c2 c3 c4 c5:Int)(c6:Unit)(now:Int)(h0:0≤now)(h1:now≤1099511627776)(c8:Unit)(w:List (List Int))(c10:dH)(c11:Unit)(hd:bC)(h:List Int)(hh:h.length=32∧aq h)(nr)(mp)(b m it:Int)(hr:cM b m=true)(e1)(e2)(p:Nat)(hp:p<100)(P Q:PS→Prop)(hP:∀ s,P s→s.fails<1000000000∧s.asks<1000000000∧Q (dY b now (cV b m now s))∧(cV b m now s).asks=s.asks)(v0:List Nat)(hv0:v0.length=p)(k0:_→_→_→_→_→_→_→_→_→_→_→_→_→_→_→_→_→_→Option A)(W:Option A)(hk:∀ (l:List PS) (js:List Nat) (out),l.length=p→(∀ s∈l,Q s)→l.map PS.asks=eJ v0 js→js.length≤p→gy out js p→k0 c1 c2 c3 c4 c5 c6 now c8 w c10 c11 [(hd,(h,nr))] mp [0] (l.map (cs b m it)) e1 e2 out=W) :
  ∀ (d f i:Nat) (l:List PS) (js:List Nat) (out),i+d=p→d<f→l.length=p→(∀ j,j<i→∀ s,l[j]?=some s→Q s)→(∀ j,i≤j→∀ s,l[j]?=some s→P s)→l.map PS.asks=eJ v0 js→js.length≤i→gy out js p→
  mA (sS q) (jS q) n now (p:Int) k0 f (i:Int) c1 c2 c3 c4 c5 c6 now c8 w c10 c11 [(hd,(h,nr))] mp [0] (l.map (cs b m it)) e1 e2 out=W
 | 0,f+1,i,l,js,out,hi,_,hl,hQ,hPP,ha,hjs,ho=>by
  rw[mA,BW,show decide ((i:Int)<(p:Int))=false from decide_eq_false (by omega),cond_false]
  refine hk l js out hl (fun s hs=>?_) ha (by omega) ho
  obtain⟨j,hj⟩:=List.mem_iff_getElem?.1 hs
  have hjl:j<l.length:=(List.getElem?_eq_some_iff.1 hj).1
  exact hQ j (by omega) s hj
 | d+1,0,i,_,_,_,_,h,_,_,_,_,_,_=>by omega
 | d+1,f+1,i,l,js,out,hi,hf,hl,hQ,hPP,ha,hjs,ho=>by
  have hlt:i<l.length:=by omega
  obtain⟨s,hs⟩:∃ s,l[i]?=some s:=⟨_,List.getElem?_eq_getElem hlt⟩
  obtain⟨hf1,ha1,hq1,hpa⟩:=hP s (hPP i (Nat.le_refl _) s hs)
  have hb1:1≤b∧b≤65536:=by unfold cM at hr;simp only[Bool.and_eq_true,decide_eq_true_eq] at hr;omega
  have hsi:(l.map (cs b m it))[i]?=some (cs b m it s):=by rw[List.getElem?_map,hs];rfl
  rw[mA,BW,show decide ((i:Int)<(p:Int))=true from decide_eq_true (by omega),cond_true,if_pos (Int.natCast_nonneg _),List.length_map,if_pos (by omega),Int.toNat_natCast,hsi,Option.bind_some]
  refine abp q (by omega) now b m h0 h1 hr s (by omega) _ W fun x y=>?_
  obtain⟨s1,hs1⟩:∃ s1,s1=cV b m now s:=⟨_,rfl⟩
  rw[← hs1] at hq1 hpa ⊢
  have hset:(l.map (cs b m it)).set i (nN b m it (s.asks:Int) s1.key s1.dl s1.wt (s1.fails:Int) s1.wake s1.late)=(l.set i s1).map (cs b m it):=by
   rw[← CL];congr 1;unfold cs;rw[hpa]
  have hat:((l.set i s1).map (cs b m it))[i]?=some (cs b m it s1):=by rw[List.getElem?_map,List.getElem?_set_self hlt];rfl
  have hmapA:(l.set i s1).map PS.asks=eJ v0 js:=by
   rw[← ha,← CL,hpa]
   exact NC (by rw[List.getElem?_map,hs];rfl)
  simp only[cs,nN]
  simp only[nN] at hset
  have key:∀ (l':List PS) (js':List Nat) (out'),l'.length=p→(∀ j,j≠i→l'[j]?=l[j]?)→(∀ s',l'[i]?=some s'→Q s')→l'.map PS.asks=eJ v0 js'→js'.length≤i+1→gy out' js' p→
    mA (sS q) (jS q) n now (p:Int) k0 f (IntKind.wrap .i64 ((i:Int)+1)) c1 c2 c3 c4 c5 c6 now c8 w c10 c11 [(hd,(h,nr))] mp [0] (l'.map (cs b m it)) e1 e2 out'=W:=fun l' js' out' g1 g2 g3 g4 g5 g6=>by
   rw[aU i (by omega)]
   refine Qf q n hq c1 c2 c3 c4 c5 c6 now h0 h1 c8 w c10 c11 hd h hh nr mp b m it hr e1 e2 p hp P Q hP v0 hv0 k0 W hk d f (i+1) l' js' out' (by omega) (by omega) g1 (fun j hj s' hs'=>?_) (fun j hj s' hs'=>?_) g4 g5 g6
   ·by_cases hji:j=i
    ·subst hji;exact g3 s' hs'
    ·rw[g2 j hji] at hs';exact hQ j (by omega) s' hs'
   ·rw[g2 j (by omega)] at hs';exact hPP j (by omega) s' hs'
  cases hrd:(!s1.wt&&decide (s1.wake≤now)) with
  | false=>
   have e:=aaI (A:=A) q i c1 c2 c3 c4 c5 c6 now c8 w c10 c11 [(hd,(h,nr))] mp [0] b m it ((l.set i s1).map (cs b m it)) s1 hat e1 e2 out hrd
   rw[← hset] at e
   refine(e _ _).trans ?_
   rw[hset]
   refine key (l.set i s1) js out (by rw[List.length_set];exact hl) (fun j hj=>List.getElem?_set_ne (Ne.symm hj)) (fun s' hs'=>?_) hmapA (by omega) ho
   rw[List.getElem?_set_self hlt] at hs'
   cases hs'
   unfold dY at hq1
   rw[hrd,cond_false] at hq1;exact hq1
  | true=>
   have e:=aaJ (A:=A) q (by omega) i c1 c2 c3 c4 c5 c6 now h0 h1 c8 w c10 c11 hd h hh nr mp b m it (by omega) ((l.set i s1).map (cs b m it)) s1 (by omega) hat e1 e2 out (by rw[ho.1];omega) hrd
   rw[← hset] at e
   refine(e _ _).trans ?_
   rw[hset,CL,List.set_set]
   have hlen0:=My js v0
   refine key (l.set i (ub b now s1)) (js++[i]) _ (by rw[List.length_set];exact hl) (fun j hj=>List.getElem?_set_ne (Ne.symm hj)) (fun s' hs'=>?_) ?_ (by rw[List.length_append];show js.length+1≤_;omega) (ho.snoc i (by omega) _ (ajI hh.1 _) ())
   ·rw[List.getElem?_set_self hlt] at hs'
    cases hs'
    unfold dY at hq1
    rw[hrd,cond_true] at hq1;exact hq1
   ·rw[Vh,← ha,← CL]
    unfold iz
    have e2:(l.map PS.asks).getD i 0=s.asks:=by rw[List.getD_eq_getElem?_getD,List.getElem?_map,hs];rfl
    rw[e2,← hpa];rfl
abbrev na:=List Int×(Int×Unit)
abbrev cN:=(Unit×(Unit×(Unit×Unit)))×((Unit×Unit)×(List na×((Unit×Unit)×(List na×Unit))))
abbrev cO:=(Unit×(Unit×(Unit×Unit)))×((Unit×(Int×(Int×(Int×Unit))))×((Unit×(Unit×(Unit×Unit)))×(List bo×(List (List Int)×(List (List Int×Int)×((Unit×Unit)×(List na×((Unit×Unit)×(List na×Unit)))))))))
def iJ:cN⊕cO→Nat
 | .inl y=>y.2.2.1.length
 | .inr y=>y.2.2.2.2.2.2.2.1.length
def de(sd:List (cN⊕cO))(v:List Nat):Prop:=sd.length=v.length∧∀ i x,sd[i]?=some x→iJ x≤v.getD i 0
theorem de.put{sd:List (cN⊕cO)}{v:List Nat}(h:de sd v){j:Nat}{x y:cN⊕cO}(hx:sd[j]?=some x)(hy:iJ y≤iJ x+1):de (sd.set j y) (iz v j):=by
 have hlt:j<sd.length:=(List.getElem?_eq_some_iff.1 hx).1
 refine⟨by rw[List.length_set,Mx];exact h.1,fun i z hz=>?_⟩
 unfold iz
 by_cases hij:j=i
 ·subst hij
  rw[List.getElem?_set_self hlt] at hz
  cases hz
  rw[List.getD_eq_getElem?_getD,List.getElem?_set_self (by have:=h.1;omega)]
  have:=h.2 j x hx
  show iJ y≤v.getD j 0+1
  omega
 ·rw[List.getElem?_set_ne hij] at hz
  rw[List.getD_eq_getElem?_getD,List.getElem?_set_ne hij,← List.getD_eq_getElem?_getD]
  exact h.2 i z hz
theorem de.same{sd:List (cN⊕cO)}{v:List Nat}(h:de sd v){j:Nat}{x y:cN⊕cO}(hx:sd[j]?=some x)(hy:iJ y≤iJ x):de (sd.set j y) v:=by
 have hlt:j<sd.length:=(List.getElem?_eq_some_iff.1 hx).1
 refine⟨by rw[List.length_set];exact h.1,fun i z hz=>?_⟩
 by_cases hij:j=i
 ·subst hij
  rw[List.getElem?_set_self hlt] at hz
  cases hz
  have:=h.2 j x hx
  omega
 ·rw[List.getElem?_set_ne hij] at hz
  exact h.2 i z hz
theorem PZ(n:Nat)(b:List Int)(hb:b.length<1000000)(now:Int)(lb:Unit)(la:List na)(k0 k1:Int→Unit→List na→Option A)(W:Option A)(h0:∀ e,k0 e lb la=W)(h1:∀ e la',la'.length=la.length+1→k1 e lb la'=W):jQ n b now lb la k0 k1=W:=by
 unfold jQ Ki
 by_cases g1:(b.length:Int)>200000
 ·rw[decide_eq_true g1,cond_true];exact h0 _
 ·rw[decide_eq_false g1,cond_false]
  by_cases g2:(la.length:Int)≥64
  ·rw[decide_eq_true g2,cond_true];exact h0 _
  ·rw[decide_eq_false g2,cond_false,rX n b (by omega),if_pos (by omega)]
   exact h1 _ _ (by rw[List.length_append];rfl)
theorem P9(q n:Nat)(c1:dH)(c2 c3 c4 c5:Int)(c6:Unit)(now:Int)(c8:Unit)(w:List (List Int))(c10:dH)(c11:Unit)(nds:List Dn)(mp)(bst:List Int)(ss:List ki)(e1)(e2)(out:List (Int×(List Int×Unit)))(js:List Nat)(p:Nat)(ho:gy out js p)(hjl:js.length<1000)(k0:_→List (cN⊕cO)→Option A)(W:Option A)(v0:List Nat)(hv:v0.length=p)(N:Nat)(hN:N<1000000000000)(hk:∀ sd by_,de sd (eJ v0 js)→k0 (((N+js.length:Nat):Int),(by_,())) sd=W) :
  ∀ (d f i:Nat) (sd:List (cN⊕cO)) (by_:Int),i+d=js.length→d<f→de sd (eJ v0 (js.take i))→
  mB (iy q) (jQ q) n out (js.length:Int) c1 c2 c3 c4 c5 c6 now c8 w c10 c11 nds mp bst ss e1 e2 k0 f (i:Int) (((N+i:Nat):Int),(by_,())) sd=W
 | 0,f+1,i,sd,by_,h,_,hs=>by
  obtain rfl:i=js.length:=by omega
  rw[mB,BY,show decide (((js.length:Nat):Int)<(js.length:Int))=false from decide_eq_false (by omega),cond_false]
  rw[List.take_of_length_le (Nat.le_refl _)] at hs
  exact hk sd by_ hs
 | d+1,0,i,_,_,_,h,_=>by omega
 | d+1,f+1,i,sd,by_,h,hf,hs=>by
  obtain⟨⟨o1,o2,o3⟩,q1,q2,q3,q4⟩:=ho.2 i (by omega)
  simp only at q2 q4
  obtain⟨j,hj⟩:∃ j,j=js.getD i 0:=⟨_,rfl⟩
  rw[← hj] at q2 q3
  subst q2
  have hsl:sd.length=p:=by rw[hs.1,My,hv]
  obtain⟨x,hx⟩:∃ x,sd[j]?=some x:=⟨_,List.getElem?_eq_getElem (by omega)⟩
  have htk:js.take (i+1)=js.take i++[j]:=by rw[List.take_add_one,bZ js i (by omega) 0,← hj];rfl
  have e1':IntKind.wrap .i64 (((N+i:Nat):Int)+1)=((N+(i+1):Nat):Int):=(ap (by omega) (by omega)).trans (by omega)
  have next:∀ (y:cN⊕cO) (z:Int),iJ y≤iJ x+1→mB (iy q) (jQ q) n out (js.length:Int) c1 c2 c3 c4 c5 c6 now c8 w c10 c11 nds mp bst ss e1 e2 k0 f (IntKind.wrap .i64 ((i:Int)+1)) (IntKind.wrap .i64 (((N+i:Nat):Int)+1),(z,())) (sd.set j y)=W:=fun y z hy=>by
   rw[aU i (by omega),e1']
   refine P9 q n c1 c2 c3 c4 c5 c6 now c8 w c10 c11 nds mp bst ss e1 e2 out js p ho hjl k0 W v0 hv N hN hk d f (i+1) _ _ (by omega) (by omega) ?_
   rw[htk,Vh]
   exact hs.put hx hy
  rw[mB,BY,show decide ((i:Int)<(js.length:Int))=true from decide_eq_true (by omega),cond_true,if_pos (Int.natCast_nonneg _),Int.toNat_natCast,q1,Option.bind_some]
  simp only
  rw[if_pos (Int.natCast_nonneg _),if_pos (by omega),Int.toNat_natCast,hx,Option.bind_some]
  have hnow:∀ g:Int→Option A,iy q c1 c2 c3 c4 c5 c6 now c8 w c10 c11 nds mp bst ss e1 e2 g=g now:=fun g=>rfl
  cases x with
  | inl y=>
   simp only
   rw[hnow]
   exact PZ q o2 (by omega) now _ _ _ _ W (fun e=>next _ _ (Nat.le_succ _)) (fun e la' hla=>next _ _ (by show la'.length≤y.2.2.1.length+1;omega))
  | inr y=>
   simp only
   rw[hnow]
   exact PZ q o2 (by omega) now _ _ _ _ W (fun e=>next _ _ (Nat.le_succ _)) (fun e la' hla=>next _ _ (by show la'.length≤y.2.2.2.2.2.2.2.1.length+1;omega))
theorem PG(n:Nat)(hn:200<n)(c1:dH)(c2 c3 c4 c5:Int)(c6:Unit)(now0 now:Int)(h0:0≤now)(hle:now0≤now)(h1:now≤1099511627776)(c8:Unit)(w:List (List Int))(c10:dH)(c11:Unit)(hd:bC)(h:List Int)(hh:h.length=32∧aq h)(nr)(mp)(b m it:Int)(hr:cM b m=true)(e1)(e2)(p:Nat)(hp:p<100)(P Q:PS→Prop)(hP:∀ s,P s→s.fails<1000000000∧s.asks<1000000000∧Q (dY b now (cV b m now s))∧(cV b m now s).asks=s.asks)(l:List PS)(hl:l.length=p)(hPl:∀ s∈l,P s)(k:_→_→_→_→_→_→_→_→_→_→_→_→_→_→_→_→_→_→_→Option A)(W:Option A)(hk:∀ (l':List PS) (js:List Nat) (out),l'.length=p→(∀ s∈l',Q s)→l'.map PS.asks=eJ (l.map PS.asks) js→js.length≤p→gy out js p→k 0 c1 c2 c3 c4 c5 c6 now c8 w c10 c11 [(hd,(h,nr))] mp [0] (l'.map (cs b m it)) e1 e2 out=W) :
  vC n now c1 c2 c3 c4 c5 c6 now0 c8 w c10 c11 [(hd,(h,nr))] mp [0] (l.map (cs b m it)) e1 e2 k=W:=by
 unfold vC K9
 rw[show decide (now<now0)=false from decide_eq_false (by omega),cond_false,show decide (now>1099511627776)=false from decide_eq_false (by omega),cond_false,List.length_map,hl]
 exact Qf n n hn c1 c2 c3 c4 c5 c6 now h0 h1 c8 w c10 c11 hd h hh nr mp b m it hr e1 e2 p hp P Q hP (l.map PS.asks) (by rw[List.length_map];exact hl) _ W (fun l' js out a1 a2 a3 a4 a5=>hk l' js out a1 a2 a3 a4 a5) p n 0 l [] [] (by omega) (by omega) hl
  (fun j hj=>absurd hj (by omega)) (fun j _ s hs=>hPl s (List.mem_of_getElem? hs)) rfl (Nat.le_refl _) (gy.nil p)
theorem P8(n:Nat)(hn:1000<n)(c1:dH)(c2 c3 c4 c5:Int)(c6:Unit)(now:Int)(c8:Unit)(w:List (List Int))(c10:dH)(c11:Unit)(nds:List Dn)(mp)(bst:List Int)(ss:List ki)(e1)(e2)(out:List (Int×(List Int×Unit)))(js:List Nat)(p:Nat)(hp:p<100)(ho:gy out js p)(hjl:js.length≤p)(v0:List Nat)(hv:v0.length=p)(sd:List (cN⊕cO))(hs:de sd v0)(N:Nat)(hN:N<1000000000000)(by0:Int)(k:_→_→_→_→_→_→_→_→_→_→_→_→_→_→_→_→_→_→List (cN⊕cO)→Option A)(W:Option A)(hk:∀ sd by_,de sd (eJ v0 js)→k (((N+js.length:Nat):Int),(by_,())) c1 c2 c3 c4 c5 c6 now c8 w c10 c11 nds mp bst ss e1 e2 sd=W) :
  sM n out ((N:Int),(by0,())) c1 c2 c3 c4 c5 c6 now c8 w c10 c11 nds mp bst ss e1 e2 sd k=W:=by
 unfold sM Lc
 rw[ho.1]
 exact P9 n n c1 c2 c3 c4 c5 c6 now c8 w c10 c11 nds mp bst ss e1 e2 out js p ho (by omega) _ W v0 hv N hN (fun sd by_ h=>hk sd by_ h) js.length n 0 sd by0 (by omega) (by omega) hs
theorem Ei{G1 G3 G4}(q n:Nat)(p:Nat)(hp:p<100){z1 z2 z3 z4 z5 z6 z7 z8 z9 z10 z11 z12 z13 z14 z15 z16 z17 z18 z19 z20}(v:List Nat)(hv:v.length=p)(k0:List (cN⊕cO)→Option A)(W:Option A)(hk:∀ sd,de sd v→k0 sd=W):∀ (d f i:Nat) (sd:List (cN⊕cO)),i+d=p→d<f→de sd v→
  po G1 (B1 q) G3 G4 n z1 z2 (p:Int) z3 z4 z5 z6 z7 z8 z9 z10 z11 z12 z13 z14 z15 z16 z17 z18 z19 z20 k0 f (i:Int) sd=W
 | 0,f+1,i,sd,h,_,hs=>by
  rw[po,Bz,show decide ((i:Int)<(p:Int))=false from decide_eq_false (by omega),cond_false];exact hk sd hs
 | d+1,0,i,_,_,h,_=>by omega
 | d+1,f+1,i,sd,h,hf,hs=>by
  have hsl:sd.length=p:=by rw[hs.1,hv]
  obtain⟨x,hx⟩:∃ x,sd[i]?=some x:=⟨_,List.getElem?_eq_getElem (by omega)⟩
  rw[po,Bz,show decide ((i:Int)<(p:Int))=true from decide_eq_true (by omega),cond_true,if_pos (Int.natCast_nonneg _),if_pos (by omega),Int.toNat_natCast,hx,Option.bind_some]
  cases x with
  | inl y=>
   simp only
   rw[aU i (by omega)]
   exact Ei q n p hp v hv k0 W hk d f (i+1) _ (by omega) (by omega) (hs.same hx (Nat.le_refl _))
  | inr y=>
   simp only
   unfold B1 Lm
   rw[aU i (by omega)]
   exact Ei q n p hp v hv k0 W hk d f (i+1) _ (by omega) (by omega) (hs.same hx (Nat.le_refl _))
theorem abC(n:Nat)(hn:1000<n)(c1:dH)(c2 c3 c4 c5:Int)(c6:Unit)(st now:Int)(h0:0≤st)(hsn:st≤now)(h1:now<1000000000+st)(hst:st≤1073741824)(c8:Unit)(w:List (List Int))(c10:dH)(c11:Unit)(hd:bC)(h:List Int)(hh:h.length=32∧aq h)(nr)(mp)(b m it:Int)(hr:cM b m=true)(e1)(e2)(p:Nat)(hp:p<100)(l:List PS)(hl:l.length=p)(hI:∀ s∈l,dG b st now s)(sd:List (cN⊕cO))(hs:de sd (l.map PS.asks))(by0:Int)(hN:(l.map PS.asks).sum<1000000000000)(k0:_→_→_→_→_→_→_→_→_→_→_→_→_→_→_→_→_→_→_→List (cN⊕cO)→Option A)(W:Option A)(hk:∀ (l':List PS) (sd':List (cN⊕cO)) (by_:Int),l'.length=p→(∀ s∈l',dG b st (now+1) s)→de sd' (l'.map PS.asks)→k0 0 (((l'.map PS.asks).sum:Int),(by_,())) c1 c2 c3 c4 c5 c6 (now+1) c8 w c10 c11 [(hd,(h,nr))] mp [0] (l'.map (cs b m it)) e1 e2 sd'=W) :
  uE n (8,(0,(1,([],())))) (((l.map PS.asks).sum:Int),(by0,())) c1 c2 c3 c4 c5 c6 now c8 w c10 c11 [(hd,(h,nr))] mp [0] (l.map (cs b m it)) e1 e2 sd k0=W:=by
 obtain⟨q,rfl⟩:∃ q,n=q+2:=⟨n-2,by omega⟩
 have hnow:∀ g:Int→Option A,iy (q+2) c1 c2 c3 c4 c5 c6 now c8 w c10 c11 [(hd,(h,nr))] mp [0] (l.map (cs b m it)) e1 e2 g=g now:=fun g=>rfl
 have hb:1≤b:=by unfold cM at hr;simp only[Bool.and_eq_true,decide_eq_true_eq] at hr;omega
 unfold uE FU
 simp only
 rw[show decide ((8:Int)<1)=false from rfl,cond_false,show decide ((8:Int)>8)=false from rfl,cond_false,show((8:Int)==8)=true from rfl,cond_true]
 unfold BB J8
 rw[show decide ((1:Int)<1)=false from rfl,cond_false,show decide ((1:Int)>100)=false from rfl,cond_false,hnow,show IntKind.wrap .i64 (1099511627776-1)=1099511627775 from rfl,show decide (now>1099511627775)=false from decide_eq_false (by omega),cond_false,
  sI,By,show decide ((0:Int)<1)=true from rfl,cond_true]
 have hsl:sd.length=p:=by rw[hs.1,List.length_map,hl]
 rw[hsl]
 refine Ei (q+2) (q+2) p hp (l.map PS.asks) (by rw[List.length_map];exact hl) _ W (fun sd1 hs1=>?_) p (q+2) 0 sd (by omega) (by omega) hs
 rw[hnow,show IntKind.wrap .i64 (now+1)=now+1 from ap (by omega) (by omega)]
 have hP:∀ s,dG b st now s→s.fails<1000000000∧s.asks<1000000000∧dG b st (now+1) (dY b (now+1) (cV b m (now+1) s))∧(cV b m (now+1) s).asks=s.asks:=fun s hs=>by
  have h3:=hs.2.1
  have h4:=hs.2.2.1
  have h5:2*((s.asks:Int)-1)≤2*b*((s.asks:Int)-1):=by
   have:=hs.1
   exact Int.mul_le_mul_of_nonneg_right (by omega) (by omega)
  exact⟨by omega,by omega,dG.step hr hs⟩
 refine PG (q+2) (by omega) c1 c2 c3 c4 c5 c6 now (now+1) (by omega) (by omega) (by omega) c8 w c10 c11 hd h hh nr mp b m it hr e1 e2 p hp (dG b st now) (dG b st (now+1)) hP l hl hI _ W fun l' js out g1 g2 g3 g4 g5=>?_
 refine P8 (q+2) hn c1 c2 c3 c4 c5 c6 (now+1) c8 w c10 c11 _ mp _ _ e1 e2 out js p hp g5 g4 (l.map PS.asks) (by rw[List.length_map];exact hl) sd1 hs1 _ hN by0 _ W fun sd2 by2 hs2=>?_
 have hsum:(l'.map PS.asks).sum=(l.map PS.asks).sum+js.length:=by
  rw[g3]
  refine Mz js _ fun j hj=>?_
  obtain⟨i,hi⟩:=List.mem_iff_getElem?.1 hj
  have hil:i<js.length:=(List.getElem?_eq_some_iff.1 hi).1
  obtain⟨o,_,_,o3,_⟩:=g5.2 i hil
  rw[bZ js i hil 0] at hi
  rw[List.length_map,hl,← Option.some.inj hi];exact o3
 rw[show IntKind.wrap .i64 ((0:Int)+1)=1 from rfl,sI,By,show decide ((1:Int)<1)=false from rfl,cond_false,← hsum]
 exact hk l' sd2 by2 g1 g2 (by rw[g3];exact hs2)
theorem Qj{G1 G3 G4 G5}(q n:Nat)(w:List (List Int))(hw:∀ x∈w,x.length≤64)(hl:w.length<1000){z1 z2}(k0:List (List Int)→Option A):∀ (d f i:Nat),i+d=w.length→d<f→
  pF G1 (fX q) G3 G4 G5 n z1 w (w.length:Int) z2 k0 f (i:Int) (w.take i)=k0 w
 | 0,f+1,i,h,_=>by
  rw[pF,BR,show decide ((i:Int)<(w.length:Int))=false from decide_eq_false (by omega),cond_false,List.take_of_length_le (by omega)]
 | d+1,0,i,_,h=>by omega
 | d+1,f+1,i,h,hf=>by
  have hlt:i<w.length:=by omega
  have hx:=hw _ (List.getElem_mem hlt)
  rw[pF,BR,show decide ((i:Int)<(w.length:Int))=true from decide_eq_true (by omega),cond_true,if_pos (Int.natCast_nonneg _),Int.toNat_natCast,List.getElem?_eq_getElem hlt,Option.bind_some,rX q _ (by omega),if_pos (by rw[List.length_take];omega),aU i (by omega),List.take_append_getElem hlt]
  exact Qj q n w hw hl k0 d f (i+1) (by omega) (by omega)
theorem Qb{G1 G2 G3}(q n:Nat)(p:Nat)(hp:p<100)(b m:Int)(hr:cM b m=true)(w:List (List Int))(hw:w.length≤8){z1 z4 z5 z6 y1 y2 y3 y4 y5 y6 y7 y8 y9 y10 y11 y12 y13 y14 y15}(k0:List ki→Option A):∀ (d f i:Nat),i+d=p→d<f→
  pG G1 G2 G3 (sR q) (vJ q) n (p:Int) z1 b m z4 z5 z6 w y1 y2 y3 y4 y5 y6 y7 y8 y9 y10 y11 y12 y13 y14 y15 k0 f (i:Int) ((List.replicate i fa).map (cs b m (w.length:Int)))=k0 ((List.replicate p fa).map (cs b m (w.length:Int)))
 | 0,f+1,i,h,_=>by
  obtain rfl:i=p:=by omega
  rw[pG,BS,show decide ((i:Int)<(i:Int))=false from decide_eq_false (by omega),cond_false]
 | d+1,0,i,_,h=>by omega
 | d+1,f+1,i,h,hf=>by
  rw[pG,BS,show decide ((i:Int)<(p:Int))=true from decide_eq_true (by omega),cond_true,P4 q b m hr]
  have h90:∀ (K0:Int→Option A) (K1:Int→Int→Unit→List (List Int×Int)→Option A),vJ q (w.length:Int) K0 K1=K1 0 (w.length:Int) () []:=fun K0 K1=>by
   unfold vJ L4
   rw[show decide (((w.length:Nat):Int)<0)=false from decide_eq_false (by omega),cond_false,show decide (((w.length:Nat):Int)>8)=false from decide_eq_false (by omega),cond_false]
  rw[h90,List.length_map,List.length_replicate,if_pos (by omega),aU i (by omega)]
  have key:=Qb (G1:=G1) (G2:=G2) (G3:=G3) q n p hp b m hr w hw (z1:=z1) (z4:=z4) (z5:=z5) (z6:=z6) (y1:=y1) (y2:=y2) (y3:=y3) (y4:=y4) (y5:=y5) (y6:=y6) (y7:=y7) (y8:=y8) (y9:=y9) (y10:=y10) (y11:=y11) (y12:=y12) (y13:=y13) (y14:=y14) (y15:=y15) k0 d f (i+1) (by omega) (by omega)
  rw[List.replicate_succ',List.map_append] at key
  exact key
theorem abj(n:Nat)(hn:1000<n)(lim:Nat)(hl:lim<4294967296)(per spa fut cap:Int)(v:Int)(pv rt:List Int)(tm:Int)(gb:Nat)(hg:gb<4294967296)(nc:Int)(u:Unit)(og:dO (v,(pv,(rt,(tm,((gb:Int),(nc,u)))))))(sum:List Int)(u2:Unit)(b m e:Int)(p:Nat)(w:List (List Int))(hB:∀ x∈w,aq x)(u3:Unit)(hm:gW lim gb per spa fut cap b m e (p:Int) w=true)(start:Int)(h0:0≤start)(h1:start≤1099511627776)(k0:Int→Option A)(k1:_→_→_→_→_→_→_→_→_→_→_→_→_→_→_→_→_→_→Option A) :
  BT n (((lim:Int),(per,(spa,(fut,(cap,((v,(pv,(rt,(tm,((gb:Int),(nc,u)))))),(sum,u2))))))),(b,(m,(e,((p:Int),(w,u3)))))) start k0 k1=
   k1 0 ((lim:Int),(per,(spa,(fut,(cap,((v,(pv,(rt,(tm,((gb:Int),(nc,u)))))),(sum,u2))))))) b m e (p:Int) u3 start () w ((lim:Int),(per,(spa,(fut,(cap,((v,(pv,(rt,(tm,((gb:Int),(nc,u)))))),(sum,u2))))))) ()
    [((v,(pv,(rt,(tm,((gb:Int),(nc,u)))))),(bW (cQ (v,(pv,(rt,(tm,((gb:Int),(nc,u))))))),(-1,(0,(sum,())))))] (bw aa [] (bW (cQ (v,(pv,(rt,(tm,((gb:Int),(nc,u)))))))) 0) [0] ((List.replicate p fa).map (cs b m (w.length:Int))) [] []:=by
 have hm2:=hm
 unfold gW at hm2
 simp only[Bool.and_eq_true,decide_eq_true_eq] at hm2
 obtain⟨m1,m2,m3,m4,m5,m6,m7,m8⟩:=hm2
 have hwl:∀ x∈w,x.length≤64:=fun x hx=>by
  obtain⟨i,hi⟩:=List.mem_iff_getElem?.1 hx
  have hil:i<w.length:=(List.getElem?_eq_some_iff.1 hi).1
  have:=(XZ m8 hil).1
  rw[bZ w i hil []] at hi
  rw[← Option.some.inj hi];exact this
 unfold BT KX
 simp only
 rw[abe n (by omega) lim hl per spa fut cap v pv rt tm gb hg nc u sum u2 b m e (p:Int) w hB u3 hm,show(((0:Int)) != 0)=false from rfl,cond_false,show decide (start<0)=false from decide_eq_false (by omega),cond_false,show decide (start>1099511627776)=false from decide_eq_false (by omega),cond_false]
 refine Eq.trans (Qj n n w hwl (by omega) _ w.length n 0 (by omega) (by omega)) ?_
 unfold LV LX
 simp only
 rw[P0 n (by omega) lim hl per spa fut cap v pv rt tm gb hg nc u sum u2 m1,show(((0:Int)) != 0)=false from rfl,cond_false,Mw n (by omega) _ og]
 exact Qb n n p (by omega) b m m2 w m7 _ p n 0 (by omega) (by omega)
theorem de.snoc{sd:List (cN⊕cO)}{i:Nat}(h:de sd (List.replicate i 0))(x:cN⊕cO)(hx:iJ x=0):de (sd++[x]) (List.replicate (i+1) 0):=by
 have hl:sd.length=i:=by rw[h.1,List.length_replicate]
 refine⟨by simp[hl],fun j y hy=>?_⟩
 by_cases hj:j<sd.length
 ·rw[List.getElem?_append_left hj] at hy
  have:=h.2 j y hy
  rw[List.getD_eq_getElem?_getD,List.getElem?_replicate_of_lt (by omega)] at this
  rw[List.getD_eq_getElem?_getD,List.getElem?_replicate_of_lt (by omega)]
  exact this
 ·rw[List.getElem?_append_right (by omega)] at hy
  have hj0:j-sd.length=0:=by
   have:=(List.getElem?_eq_some_iff.1 hy).1
   simp at this;omega
  rw[hj0] at hy
  cases hy
  rw[hx];exact Nat.zero_le _
theorem P6{G1 G2 G3 G4 G5}(n:Nat)(roles:List Int)(hl:roles.length<1000000){cfg st}(chs:List (List bo)){r1}(hr:roles.all (dT chs.length)=true)(k0 k1:Option A):∀ (d f i:Nat),i+d=roles.length→d<f→
  pH G1 G2 G3 G4 G5 n roles (roles.length:Int) (cfg,(st,(chs,r1))) k0 k1 f (i:Int)=k1
 | 0,f+1,i,h,_=>by
  rw[pH,BU,show decide ((i:Int)<(roles.length:Int))=false from decide_eq_false (by omega),cond_false]
 | d+1,0,i,_,h=>by omega
 | d+1,f+1,i,h,hf=>by
  have hlt:i<roles.length:=by omega
  have hro:dT chs.length roles[i]=true:=List.all_eq_true.1 hr _ (List.getElem_mem hlt)
  unfold dT at hro
  rw[Bool.and_eq_true,decide_eq_true_eq,decide_eq_true_eq] at hro
  rw[pH,BU,show decide ((i:Int)<(roles.length:Int))=true from decide_eq_true (by omega),cond_true,if_pos (Int.natCast_nonneg _),Int.toNat_natCast,List.getElem?_eq_getElem hlt,Option.bind_some]
  simp only
  rw[decide_eq_false (show ¬ roles[i]<0 by omega),cond_false,decide_eq_false (show ¬ roles[i]>(chs.length:Int) by omega),cond_false,aU i (by omega)]
  exact P6 n roles hl chs hr k0 k1 d f (i+1) (by omega) (by omega)
theorem Qa(n:Nat)(ba qu:Int)(h:¬ (ba<1∨2000<ba∨qu<1∨1000<qu))(a b c d)(k0:Int→Option A)(k1:Int→(Int×(Int×(Int×Unit)))→Option A):vK n ba qu a b c d k0 k1=k1 0 (ba,(qu,(qu,())))∧vL n ba qu k0 k1=k1 0 (ba,(qu,(qu,()))):=by
 unfold vK L6 vL L8
 rw[decide_eq_false (show ¬ ba<1 by omega),decide_eq_false (show ¬ ba>2000 by omega),decide_eq_false (show ¬ qu<1 by omega),decide_eq_false (show ¬ qu>1000 by omega)]
 exact⟨rfl,rfl⟩
theorem Ej(q n:Nat)(hq:1000<q)(roles:List Int)(hl:roles.length<1000){lim per spa fut cap:Int}(gen:bC)(og:dO gen){u1 u2 st:_}(chs:List (List bo))(hch:m0 chs)(hr:roles.all (dT chs.length)=true){ba qu:Int}{u:Unit}(hbq:¬ (ba<1∨2000<ba∨qu<1∨1000<qu))(k0:Int→_→Option A)(k1:List (cN⊕cO)→Option A)(W:Option A)(h1:∀ sd,de sd (List.replicate roles.length 0)→k1 sd=W):∀ (d f i:Nat) (sd:List (cN⊕cO)),i+d=roles.length→d<f→de sd (List.replicate i 0)→lU chs (bW (cQ gen)) (roles.drop i)=0→
  mz (vK q) (vL q) (Ck q) (jR q) (vM q) n roles (roles.length:Int) (((lim,(per,(spa,(fut,(cap,(gen,u1)))))),u2),(st,(chs,(roles,(ba,(qu,u)))))) k0 k1 f (i:Int) sd=W
 | 0,f+1,i,sd,h,_,hs,_=>by
  obtain rfl:i=roles.length:=by omega
  rw[mz,BV,show decide ((roles.length:Int)<(roles.length:Int))=false from decide_eq_false (by omega),cond_false];exact h1 sd hs
 | d+1,0,i,_,_,h,_,_=>by omega
 | d+1,f+1,i,sd,h,hf,hs,he=>by
  have hlt:i<roles.length:=by omega
  have hro:dT chs.length roles[i]=true:=List.all_eq_true.1 hr _ (List.getElem_mem hlt)
  unfold dT at hro
  rw[Bool.and_eq_true,decide_eq_true_eq,decide_eq_true_eq] at hro
  obtain⟨k,hk⟩:∃ k,k=roles[i]:=⟨_,rfl⟩
  rw[← hk] at hro
  have hsl:sd.length=i:=by rw[hs.1,List.length_replicate]
  rw[List.drop_eq_getElem_cons hlt,lU,← hk] at he
  have hlink:∀ g:Unit→List na→Option A,Ck q g=g () []:=fun g=>rfl
  rw[mz,BV,show decide ((i:Int)<(roles.length:Int))=true from decide_eq_true (by omega),cond_true,if_pos (Int.natCast_nonneg _),Int.toNat_natCast,List.getElem?_eq_getElem hlt,Option.bind_some,← hk,hlink,hlink]
  simp only
  by_cases hp:0<k
  ·obtain⟨c,hc⟩:∃ c:Nat,k=((c+1:Nat):Int):=⟨(k-1).toNat,by omega⟩
   have hql:c<chs.length:=by omega
   have hca:jE chs k=chs[c]:=by unfold jE;rw[hc,show(((c+1:Nat):Int)-1).toNat=c by omega,List.getD_eq_getElem?_getD,List.getElem?_eq_getElem hql];rfl
   have hco:=PQ hch k
   have hc100:=hch.1
   rw[hca] at hco
   rw[if_pos hp,hca] at he
   have he0:(dP chs[c] [bW (cQ gen)]).1=0:=by
    by_cases h0:(dP chs[c] [bW (cQ gen)]).1=0
    ·exact h0
    ·rw[if_pos h0] at he;exact absurd he h0
   rw[if_neg (by omega)] at he
   rw[decide_eq_true (show k>0 from hp),cond_true,Mw q (by omega) gen og,show IntKind.wrap .i64 (k-1)=(c:Int) from(ap (by omega) (by omega)).trans (by omega),if_pos (Int.natCast_nonneg _),Int.toNat_natCast,List.getElem?_eq_getElem hql,Option.bind_some]
   refine aaU q hq _ _ hco.2 hco.1 he0 _ _ W fun da hh dm=>?_
   rw[show(((0:Int)) != 0)=false from rfl,cond_false,(Qa q ba qu hbq _ _ _ _ _ _).1,if_pos (by omega),aU i (by omega)]
   exact Ej q n hq roles hl gen og chs hch hr hbq k0 k1 W h1 d f (i+1) _ (by omega) (by omega) (hs.snoc _ rfl) he
  ·rw[if_neg hp] at he
   rw[decide_eq_false (show ¬ k>0 from hp),cond_false,if_pos (by omega),aU i (by omega)]
   exact Ej q n hq roles hl gen og chs hch hr hbq k0 k1 W h1 d f (i+1) _ (by omega) (by omega) (hs.snoc _ rfl) he
theorem VW{lim gb:Nat}{per spa fut cap:Int}{gen:bC}{b m e peers:Int}{w:List (List Int)}{start:Int}{cs:List (List bo)}{ro:List Int}{ba qu:Int}(h:mQ lim gb per spa fut cap gen b m e peers w start cs ro ba qu=0) :
  gW lim gb per spa fut cap b m e peers w=true∧0≤start∧start≤1099511627776∧(ro.length:Int)=peers∧¬ (ba<1∨2000<ba∨qu<1∨1000<qu)∧ro.all (dT cs.length)=true∧lU cs (bW (cQ gen)) ro=0:=by
 unfold mQ at h
 split at h
 ·cases h
 ·rename_i g1
  split at h
  ·cases h
  ·rename_i g2
   split at h
   ·cases h
   ·rename_i g3
    split at h
    ·cases h
    ·rename_i g4
     exact⟨by simpa using g1,by omega,by omega,by omega,by omega,by simpa using g4,h⟩
theorem abB(n:Nat)(hn:1000<n)(lim:Nat)(hl:lim<4294967296)(per spa fut cap:Int)(v:Int)(pv rt:List Int)(tm:Int)(gb:Nat)(hg:gb<4294967296)(nc:Int)(u:Unit)(og:dO (v,(pv,(rt,(tm,((gb:Int),(nc,u)))))))(sum:List Int)(u2:Unit)(b m e peers:Int)(w:List (List Int))(hB:∀ x∈w,aq x)(u3:Unit)(start:Int)(cs0:List (List bo))(hch:m0 cs0)(ro:List Int)(hrl:ro.length<100)(ba qu:Int)(u4:Unit)(h:mQ lim gb per spa fut cap (v,(pv,(rt,(tm,((gb:Int),(nc,u)))))) b m e peers w start cs0 ro ba qu=0)(k0:Int→Option A)(k1:_→_→_→_→_→_→_→_→_→_→_→_→_→_→_→_→_→_→_→List (cN⊕cO)→Option A)(W:Option A)(hk:∀ (l:List PS) (sd:List (cN⊕cO)) (by_:Int),l.length=ro.length→(∀ s∈l,dG b start start s)→de sd (l.map PS.asks)→k1 0 (((l.map PS.asks).sum:Int),(by_,())) ((lim:Int),(per,(spa,(fut,(cap,((v,(pv,(rt,(tm,((gb:Int),(nc,u)))))),(sum,u2))))))) b m e peers u3 start () w ((lim:Int),(per,(spa,(fut,(cap,((v,(pv,(rt,(tm,((gb:Int),(nc,u)))))),(sum,u2))))))) ()
    [((v,(pv,(rt,(tm,((gb:Int),(nc,u)))))),(bW (cQ (v,(pv,(rt,(tm,((gb:Int),(nc,u))))))),(-1,(0,(sum,())))))] (bw aa [] (bW (cQ (v,(pv,(rt,(tm,((gb:Int),(nc,u)))))))) 0) [0] (l.map (cs b m (w.length:Int))) [] [] sd=W) :
  vu n ((((lim:Int),(per,(spa,(fut,(cap,((v,(pv,(rt,(tm,((gb:Int),(nc,u)))))),(sum,u2))))))),(b,(m,(e,(peers,(w,u3)))))),(start,(cs0,(ro,(ba,(qu,u4)))))) k0 k1=W:=by
 obtain⟨h1,h2,h3,h4,h5,h6,h7⟩:=VW h
 subst h4
 have hm2:=h1
 unfold gW at hm2
 simp only[Bool.and_eq_true,decide_eq_true_eq] at hm2
 have hb1:1≤b:=by have:=hm2.2.1;unfold cM at this;simp only[Bool.and_eq_true,decide_eq_true_eq] at this;omega
 unfold vu JT
 simp only
 rw[abj n hn lim hl per spa fut cap v pv rt tm gb hg nc u og sum u2 b m e ro.length w hB u3 h1 start h2 h3,show(((0:Int)) != 0)=false from rfl,cond_false]
 unfold K5 K6
 simp only
 rw[show((ro.length:Int) != (ro.length:Int))=false by rw[bne_eq_false_iff_eq],cond_false]
 refine Eq.trans (P6 n ro (by omega) cs0 h6 _ _ ro.length n 0 (by omega) (by omega)) ?_
 rw[(Qa n ba qu h5 () [] [] [] _ _).2,show(((0:Int)) != 0)=false from rfl,cond_false]
 refine Ej n n hn ro (by omega) _ og cs0 hch h6 h5 _ _ W (fun sd hs=>?_) ro.length n 0 [] (by omega) (by omega) ⟨rfl,fun i x hx=>by cases hx⟩ (by rw[List.drop_zero];exact h7)
 rw[cond_false]
 have hP:∀ s,s=fa→s.fails<1000000000∧s.asks<1000000000∧dG b start start (dY b start (cV b m start s))∧(cV b m start s).asks=s.asks:=fun s hs=>by
  subst hs
  exact⟨by show 0<_;decide,by show 0<_;decide,dG.first b start hb1 h2 m⟩
 refine PG n (by omega) _ b m e _ u3 start start h2 (Int.le_refl _) h3 () w _ () _ _ (wA _) _ _ b m _ hm2.2.1 [] [] ro.length hrl (fun s=>s=fa) (dG b start start) hP (List.replicate ro.length fa) (List.length_replicate ..) (fun s hs=>(List.mem_replicate.1 hs).2) _ W fun l' js out g1 g2 g3 g4 g5=>?_
 have hrep:(List.replicate ro.length fa).map PS.asks=List.replicate ro.length 0:=by rw[List.map_replicate];rfl
 rw[hrep] at g3
 refine P8 n hn _ b m e _ u3 start () w _ () _ _ _ _ [] [] out js ro.length hrl g5 g4 (List.replicate ro.length 0) (List.length_replicate ..) sd hs 0 (by decide) 0 _ W fun sd2 by2 hs2=>?_
 have hsum:(l'.map PS.asks).sum=0+js.length:=by
  rw[g3]
  have:=Mz js (List.replicate ro.length 0) fun j hj=>by
   obtain⟨i,hi⟩:=List.mem_iff_getElem?.1 hj
   have hil:i<js.length:=(List.getElem?_eq_some_iff.1 hi).1
   obtain⟨o,_,_,o3,_⟩:=g5.2 i hil
   rw[bZ js i hil 0] at hi
   rw[List.length_replicate,← Option.some.inj hi];exact o3
  rw[this,List.sum_replicate_nat];omega
 rw[← hsum]
 exact hk l' sd2 by2 g1 g2 (by rw[g3];exact hs2)
end Go.Ev
