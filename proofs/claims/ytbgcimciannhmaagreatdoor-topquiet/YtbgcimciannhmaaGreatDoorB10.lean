import Derived.Test.YtbgcimciannhmaaGreatDoorB9
/- A part of the proof of TopQuiet; no condition. -/
set_option linter.all false
set_option maxRecDepth 100000
namespace Go.Ev
open Go.Proofs
variable{A:Type}
def fW(n:Nat):List Int:=128::List.replicate ((119-n%64)%64) 0
def mS(l:List Int):List Int:=l++fW l.length++lP (l.length*8)
def fN(v:List Int):List Int:=v.flatMap i7
def jr(l:List Int):List Int:=fN (vS (mS l))
def bW(l:List Int):List Int:=jr (jr l)
theorem Es(n:Nat):(fW n).length=1+(119-n%64)%64:=by simp[fW];omega
theorem Er(n:Nat):aq (fW n):=fun x hx=>by
 rcases List.mem_cons.1 hx with rfl|h
 ·decide
 ·exact aq.rep _ x h
theorem PA(x:Nat):aq (lP x):=fun y hy=>by
 simp only[lP,List.mem_cons,List.not_mem_nil,or_false] at hy
 rcases hy with rfl|rfl|rfl|rfl|rfl|rfl|rfl|rfl<;>omega
theorem aaq{x:Int}(hx:bj x):aq (i7 x):=fun y hy=>by
 have h1:=hx.1;have h2:=hx.2
 simp only[i7,List.mem_cons,List.not_mem_nil,or_false] at hy
 rcases hy with rfl|rfl|rfl|rfl<;>omega
theorem We(v:List Int):(fN v).length=4*v.length:=by
 unfold fN;induction v with
 | nil=>rfl
 | cons x v ih=>rw[List.flatMap_cons,List.length_append,ih];simp[i7];omega
theorem akU{v:List Int}(hv:ig v):aq (fN v):=fun y hy=>by
 obtain⟨x,hx,h⟩:=List.mem_flatMap.1 hy
 exact aaq (hv x hx) y h
theorem NE(l:List Int):(jr l).length=32:=by rw[jr,We,(vT _).1]
theorem ND(l:List Int):aq (jr l):=akU (vT _).2
theorem XG(G:List Int→(List Int×(List Int×(Int×Unit)))→((List Int×(List Int×(Int×Unit)))→Option A)→Option A)(n m:Nat)(hm:20<m)(v t2:List Int)(h0:(List Int×(List Int×(Int×Unit))))(hv:v.length=8)(hu:ig v)(k0:List Int→Option A):∀ (d f i:Nat),i+d=8→d<f→
  pc G (pg m) n v h0 t2 k0 f (i:Int) (fN (v.take i)++List.replicate (32-4*i) 0)=k0 (fN v)
 | 0,f+1,i,hi,_=>by
  rw[pc,Bp,show decide ((i:Int)<8)=false from decide_eq_false (by omega),cond_false,List.take_of_length_le (by omega),show 32-4*i=0 by omega];simp
 | d+1,0,i,_,h=>by omega
 | d+1,f+1,i,hi,hf=>by
  have e0:IntKind.wrap .i64 (4*(i:Int))=((4*i:Nat):Int):=(ap (by omega) (by omega)).trans (by omega)
  have hx:=hu.at i
  obtain⟨y,hy,hy2⟩:=hx.nat
  have hlen:(fN (v.take i)).length=4*i:=by rw[We,List.length_take];omega
  have hb4:(i7 (v.getD i 0)).length=4:=rfl
  rw[pc,Bp,show decide ((i:Int)<8)=true from decide_eq_true (by omega),cond_true,if_pos (Int.natCast_nonneg _),Int.toNat_natCast,bZ v i (by omega) 0,Option.bind_some,e0,if_pos (Int.natCast_nonneg _),if_pos (by omega),
   show IntKind.wrap .u64 (v.getD i 0)=v.getD i 0 by rw[hy];exact dU y (by omega),ajJ m hm _ hx,Int.toNat_natCast,aU i (by omega)]
  have e1:(fN (v.take i)++List.replicate (32-4*i) (0:Int)).take (4*i)=fN (v.take i):=by rw[List.take_append_of_le_length (by omega),List.take_of_length_le (by omega)]
  have e2:(i7 (v.getD i 0)).take (32-4*i)=i7 (v.getD i 0):=List.take_of_length_le (by omega)
  have e3:(fN (v.take i)++List.replicate (32-4*i) (0:Int)).drop (4*i+min (i7 (v.getD i 0)).length (32-4*i))=List.replicate (32-4*(i+1)) 0:=by
   rw[hb4,List.drop_append,List.drop_of_length_le (by omega),hlen,List.drop_replicate,List.nil_append];congr 1;omega
  have e4:fN (v.take (i+1))=fN (v.take i)++i7 (v.getD i 0):=by
   rw[List.take_add_one,bZ v i (by omega) 0];simp[fN]
  rw[e1,e2,e3,← List.append_assoc,← e4]
  exact XG G n m hm v t2 h0 hv hu k0 d f (i+1) (by omega) (by omega)
theorem ajP(n:Nat)(hn:200<n)(l:List Int)(h:List Int×(List Int×(Int×Unit)))(hh:Hr h l)(hl:aq l)(hlen:l.length<100000000)(g:List Int→Option A):vn n h g=g (jr l):=by
 obtain⟨h1,h2,h3,h4,h5⟩:=hh
 unfold vn Jz
 have e0:Int.tmod (l.length:Int) 64=((l.length%64:Nat):Int):=by rw[show(64:Int)=((64:Nat):Int) from rfl,dy]
 obtain⟨z,hz⟩:∃ z,z=(119-l.length%64)%64:=⟨_,rfl⟩
 have e1:IntKind.wrap .i64 (119-((l.length%64:Nat):Int))=((119-l.length%64:Nat):Int):=(ap (by omega) (by omega)).trans (by omega)
 have e2:Int.tmod ((119-l.length%64:Nat):Int) 64=(z:Int):=by rw[show(64:Int)=((64:Nat):Int) from rfl,dy,hz]
 have e3:IntKind.wrap .i64 (1+(z:Int))=((1+z:Nat):Int):=(ap (by omega) (by omega)).trans (by omega)
 rw[h5,e0,e1,e2,e3,if_pos (Int.natCast_nonneg _),if_pos (Int.le_refl _),if_pos (by omega),Int.toNat_natCast,List.length_replicate,if_pos (by omega),if_pos (by omega)]
 have e4:(List.replicate (1+z) (0:Int)).set 0 128=fW l.length:=by
  rw[show 1+z=z+1 by omega,List.replicate_succ,List.set_cons_zero,fW,hz]
 have e5:IntKind.wrap .u64 (l.length:Int)=(l.length:Int):=dU _ (by omega)
 have e6:shl .u64 (l.length:Int) 3=((l.length*8:Nat):Int):=by
  rw[show(3:Int)=((3:Nat):Int) from rfl,wB l.length 3 (by decide)];congr 1;omega
 have hel:=Es l.length
 rw[e4,e5,e6]
 refine NZ n (by omega) (fW l.length) l h ⟨h1,h2,h3,h4,h5⟩ hl (Er _) (by omega) (by omega) _ _ fun h' hh'=>?_
 rw[ajK n (by omega)]
 refine NZ n (by omega) (lP (l.length*8)) (l++fW l.length) h' hh' (hl.app (Er _)) (PA _) (by show 8<n;omega) (by rw[List.length_append];show _+8<_;omega) _ _ fun h2 hh2=>?_
 have hs:=vT (l++fW l.length++lP (l.length*8))
 rw[hh2.1]
 exact XG (pb n) n n (by omega) _ _ h hs.1 hs.2 _ 8 n 0 (by omega) (by omega)
theorem Yn:Hr (pQ,(List.replicate 64 (0:Int),(0,()))) []:=⟨rfl,rfl,aq.rep 64,rfl,rfl⟩
theorem XI(G1:((List Int×(List Int×(Int×Unit)))→Option A)→Option A)(n m:Nat)(hm:100<m)(ls:List (List Int))(t2:List Int)(hls:∀ x∈ls,aq x)(hlen:∀ x∈ls,x.length<m)(htot:ls.flatten.length<1000000000)(k0:(List Int×(List Int×(Int×Unit)))→Option A)(W:Option A)(hk:∀ h,Hr h ls.flatten→k0 h=W)(hc:ls.length<1000000):∀ (d f i:Nat) (h:List Int×(List Int×(Int×Unit))),i+d=ls.length→d<f→Hr h (ls.take i).flatten→
  oI G1 (pb m) (vn m) n ls (ls.length:Int) t2 k0 f (i:Int) h=W
 | 0,f+1,i,h,hi,_,hh=>by
  rw[oI,Al,show decide ((i:Int)<(ls.length:Int))=false from decide_eq_false (by omega),cond_false]
  exact hk h (by rw[List.take_of_length_le (by omega)] at hh;exact hh)
 | d+1,0,i,_,_,h,_=>by omega
 | d+1,f+1,i,h,hi,hf,hh=>by
  have hlt:i<ls.length:=by omega
  have hmem:ls[i]∈ls:=List.getElem_mem hlt
  have hfl:(ls.take (i+1)).flatten=(ls.take i).flatten++ls[i]:=by
   rw[← List.take_append_getElem hlt,List.flatten_append];simp only[List.flatten_cons,List.flatten_nil,List.append_nil]
  have hsub:(ls.take (i+1)).flatten.length≤ls.flatten.length:=by
   have e:ls.flatten=(ls.take (i+1)).flatten++(ls.drop (i+1)).flatten:=by rw[← List.flatten_append,List.take_append_drop]
   rw[e,List.length_append];omega
  rw[hfl,List.length_append] at hsub
  rw[oI,Al,show decide ((i:Int)<(ls.length:Int))=true from decide_eq_true (by omega),cond_true,if_pos (Int.natCast_nonneg _),Int.toNat_natCast,List.getElem?_eq_getElem hlt,Option.bind_some]
  refine NZ m hm ls[i] (ls.take i).flatten h hh (fun x hx=>?_) (hls _ hmem) (hlen _ hmem) (by omega) _ _ fun h' hh'=>?_
  ·obtain⟨y,hy,hxy⟩:=List.mem_flatten.1 hx
   exact hls y (List.mem_of_mem_take hy) x hxy
  ·rw[aU i (by omega)]
   exact XI G1 n m hm ls t2 hls hlen htot k0 W hk hc d f (i+1) h' (by omega) (by omega) (by rw[hfl];exact hh')
theorem XH(n:Nat)(hn:200<n)(ls:List (List Int))(hls:∀ x∈ls,aq x)(hlen:∀ x∈ls,x.length<n)(htot:ls.flatten.length<100000000)(hc:ls.length<n)(hc2:ls.length<1000000)(g:List Int→Option A) :
  Am n ls g=g (jr ls.flatten):=by
 unfold Am Hy
 have hnew:∀ k:(List Int×(List Int×(Int×Unit)))→Option A,vm n k=k (pQ,(List.replicate 64 (0:Int),(0,()))):=fun k=>by
  unfold vm Ju;rw[ajx]
 rw[hnew]
 refine XI (vm n) n n (by omega) ls _ hls hlen (by omega) _ _ (fun h hh=>?_) hc2 ls.length n 0 _ (by omega) hc Yn
 refine ajP n hn ls.flatten h hh (fun x hx=>?_) htot g
 obtain⟨y,hy,hxy⟩:=List.mem_flatten.1 hx
 exact hls y hy x hxy
theorem NR(n:Nat)(hn:200<n)(ls:List (List Int))(hls:∀ x∈ls,aq x)(hlen:∀ x∈ls,x.length<n)(htot:ls.flatten.length<100000000)(hc:ls.length<n)(hc2:ls.length<1000000)(g:List Int→Option A) :
  od n ls g=g (bW ls.flatten):=by
 unfold od Fw
 have h32:=NE ls.flatten
 rw[XH n hn ls hls hlen htot hc hc2,List.drop_zero,List.take_of_length_le (by omega),
  XH n hn [jr ls.flatten] (fun x hx=>by rw[List.mem_singleton.1 hx];exact ND _) (fun x hx=>by rw[List.mem_singleton.1 hx];omega) (by simp[h32]) (by show 1<n;omega) (by show 1<1000000;decide)]
 simp[bW]
theorem gf(a b:List Int):am a++am b=am (a++b):=by
 apply ByteArray.ext
 simp[am]
theorem bQ(l:List Int):(am l).size=l.length:=by
 show(List.map (fun n=>UInt8.ofNat n.toNat) l).toArray.size=_
 rw[List.size_toArray,List.length_map]
theorem kb{l:List Int}(h:aq l):bd (am l)=l:=by
 unfold bd am
 rw[List.toList_toArray,List.map_map]
 conv=>rhs;rw[← List.map_id l]
 refine List.map_congr_left fun x hx=>?_
 obtain⟨h1,h2⟩:=h x hx
 obtain⟨m,rfl⟩:∃ m:Nat,x=m:=⟨x.toNat,by omega⟩
 simp only[Function.comp,Int.toNat_natCast,id]
 rw[UInt8.toNat_ofNat',Nat.mod_eq_of_lt (by omega)]
def bv(w x:Nat):List Int:=(List.range w).map fun i=>((x/256^i%256:Nat):Int)
theorem bP(w x:Nat):(bv w x).length=w:=by simp[bv]
theorem MI(w x:Nat):bv (w+1) x=bv w x++[((x/256^w%256:Nat):Int)]:=by simp[bv,List.range_succ]
theorem mO(w x:Nat):aq (bv w x):=fun y hy=>by
 obtain⟨i,_,rfl⟩:=List.mem_map.1 hy;omega
theorem Vy(n x w:Nat)(hx:x<18446744073709551616)(hw:w≤8)(k0:List Int→Option A):∀ (d f i:Nat),i+d=w→d<f→
  oO n (x:Int) (w:Int) k0 f (i:Int) (bv i x++List.replicate (w-i) 0)=k0 (bv w x)
 | 0,f+1,i,hi,_=>by
  rw[oO,AF,show decide ((i:Int)<(w:Int))=false from decide_eq_false (by omega),cond_false]
  obtain rfl:i=w:=by omega
  simp
 | d+1,0,i,_,h=>by omega
 | d+1,f+1,i,hi,hf=>by
  have e0:IntKind.wrap .i64 (8*(i:Int))=((8*i:Nat):Int):=(ap (by omega) (by omega)).trans (by omega)
  have hl:(bv i x++List.replicate (w-i) (0:Int)).length=w:=by rw[List.length_append,bP,List.length_replicate];omega
  rw[oO,AF,show decide ((i:Int)<(w:Int))=true from decide_eq_true (by omega),cond_true,e0,if_neg (by omega),if_pos (Int.natCast_nonneg _),hl,if_pos (by omega),Int.toNat_natCast,if_pos (by omega),aU i (by omega),
   gi x _ (by omega),show 2^(8*i)=256^i by rw[Nat.pow_mul],NB _ _ _ i (bP i x) (by omega),← MI,show w-i-1=w-(i+1) by omega]
  exact Vy n x w hx hw k0 d f (i+1) (by omega) (by omega)
theorem akd(n x w:Nat)(hn:10<n)(hx:x<18446744073709551616)(hw:w≤8)(g:List Int→Option A):uV n (x:Int) (w:Int) g=g (bv w x):=by
 unfold uV HY
 have e1:bi (w:Int) 0=(w:Int):=by unfold bi;split<;>omega
 have e2:cf (w:Int) 8=(w:Int):=by unfold cf;split<;>omega
 rw[e1,e2,if_pos (Int.natCast_nonneg _),if_pos (Int.le_refl _),if_pos (by omega),Int.toNat_natCast,List.length_replicate]
 have h:=Vy n x w hx hw g w n 0 (by omega) (by omega)
 simpa[bv] using h
theorem yy(n x w:Nat)(hn:10<n)(hx:x<18446744073709551616)(hw:w≤8)(wb:Unit)(wa:List Int)(hl:wa.length<1000000000)(g:Unit→List Int→Option A):fF n (x:Int) (w:Int) wb wa g=g wb (wa++bv w x):=by
 unfold fF FV
 rw[akd n x w hn hx hw,bP,if_pos (by omega)]
theorem rX(n:Nat)(a:List Int)(h:a.length<1000000000)(g:List Int→Option A):fX n a g=g a:=by
 unfold fX;rw[if_pos (by omega)]
theorem PN(n:Nat)(wb:Unit)(wa:List Int)(h:wa.length<1000000000)(g:List Int→Option A):om n wb wa g=g wa:=by
 unfold om F3;exact rX n wa h g
theorem Wi(n:Nat)(ls:List (List Int))(wb:Unit)(hlen:ls.length<1000000)(k0:List Int→Option A):∀ (d f i:Nat) (wa:List Int),i+d=ls.length→d<f→wa.length+(ls.drop i).flatten.length<1000000000→
  oJ n ls (ls.length:Int) wb k0 f (i:Int) wa=k0 (wa++(ls.drop i).flatten)
 | 0,f+1,i,wa,hi,_,_=>by
  rw[oJ,Ao,show decide ((i:Int)<(ls.length:Int))=false from decide_eq_false (by omega),cond_false,List.drop_of_length_le (by omega)];simp
 | d+1,0,i,_,_,h,_=>by omega
 | d+1,f+1,i,wa,hi,hf,hb=>by
  have hlt:i<ls.length:=by omega
  have e:(ls.drop i).flatten=ls[i]++(ls.drop (i+1)).flatten:=by rw[List.drop_eq_getElem_cons hlt];rfl
  rw[e,List.length_append] at hb
  rw[oJ,Ao,show decide ((i:Int)<(ls.length:Int))=true from decide_eq_true (by omega),cond_true,if_pos (Int.natCast_nonneg _),Int.toNat_natCast,List.getElem?_eq_getElem hlt,Option.bind_some,if_pos (by omega),aU i (by omega),e,← List.append_assoc]
  exact Wi n ls wb hlen k0 d f (i+1) (wa++ls[i]) (by omega) (by omega) (by rw[List.length_append];omega)
theorem M7(n:Nat)(ls:List (List Int))(wb:Unit)(wa:List Int)(hlen:ls.length<1000000)(hn:ls.length<n)(hb:wa.length+ls.flatten.length<1000000000)(g:Unit→List Int→Option A):iq n ls wb wa g=g wb (wa++ls.flatten):=by
 unfold iq HB
 exact Wi n ls wb hlen _ ls.length n 0 wa (by omega) hn hb
abbrev bC:=Int×(List Int×(List Int×(Int×(Int×(Int×Unit)))))
def dO(h:bC):Prop:=bj h.1∧h.2.1.length=32∧aq h.2.1∧h.2.2.1.length=32∧aq h.2.2.1∧bj h.2.2.2.1∧bj h.2.2.2.2.1∧bj h.2.2.2.2.2.1
def cQ(h:bC):List Int:=bv 4 h.1.toNat++(h.2.1++h.2.2.1)++bv 4 h.2.2.2.1.toNat++bv 4 h.2.2.2.2.1.toNat++bv 4 h.2.2.2.2.2.1.toNat
theorem U6{h:bC}(o:dO h):(cQ h).length=80:=by
 obtain⟨h1,h2,h3,h4,h5,h6,h7,h8⟩:=o
 simp only[cQ,List.length_append,bP,h2,h4]
theorem U5{h:bC}(o:dO h):aq (cQ h):=by
 obtain⟨h1,h2,h3,h4,h5,h6,h7,h8⟩:=o
 exact((((mO _ _).app (h3.app h5)).app (mO _ _)).app (mO _ _)).app (mO _ _)
theorem tC{x:Int}(hx:bj x):IntKind.wrap .u64 x=((x.toNat:Nat):Int)∧x.toNat<4294967296:=by
 obtain⟨m,rfl,hm⟩:=hx.nat
 exact⟨by rw[dU m (by omega),Int.toNat_natCast],by rw[Int.toNat_natCast];exact hm⟩
theorem ajM(n:Nat)(hn:20<n)(h:bC)(o:dO h)(g:List Int→Option A):uy n h g=g (cQ h):=by
 obtain⟨v,p,r,t,b,c,u⟩:=h
 obtain⟨h1,h2,h3,h4,h5,h6,h7,h8⟩:=o
 simp only at h1 h2 h3 h4 h5 h6 h7 h8
 obtain⟨m,rfl⟩:∃ m,n=m+9:=⟨n-9,by omega⟩
 unfold uy Fx
 have hw1:=tC h1;have hw2:=tC h6;have hw3:=tC h7;have hw4:=tC h8
 have step:∀ (y:Int) (hy:bj y) (wb:Unit) (wa:List Int) (hl:wa.length<1000000) (G:Unit→List Int→Option A),fF (m+9) (IntKind.wrap .u64 y) 4 wb wa G=G wb (wa++bv 4 y.toNat):=fun y hy wb wa hl G=>by
  have hw:=tC hy
  rw[hw.1];exact yy (m+9) _ 4 (by omega) (by omega) (by decide) wb wa (by omega) G
 have hnew:∀ k:Unit→List Int→Option A,ol (m+9) k=k () []:=fun k=>rfl
 rw[hnew,step v h1 _ _ (by decide)]
 simp only[List.nil_append,List.drop_zero]
 rw[List.take_of_length_le (by omega),List.take_of_length_le (by omega),M7 (m+9) [p,r] () _ (by show 2<1000000;decide) (by show 2<_;omega) (by simp[bP,h2,h4])]
 have e:([p,r]:List (List Int)).flatten=p++r:=by simp
 rw[e]
 have hl1:(bv 4 v.toNat++(p++r)).length=68:=by simp[bP,h2,h4]
 have loop:∀ (k0:Unit→List Int→Option A) (wa:List Int),wa.length=68→sr (ol (m+9)) (fF (m+9)) (iq (m+9)) (om (m+9)) (m+9) [t,b,c] k0 (m+9) 0 () wa=k0 () (wa++bv 4 t.toNat++bv 4 b.toNat++bv 4 c.toNat):=fun k0 wa hwa=>by
  have s0:sr (ol (m+9)) (fF (m+9)) (iq (m+9)) (om (m+9)) (m+9) [t,b,c] k0 (m+9) 0 () wa=fF (m+9) (IntKind.wrap .u64 t) 4 () wa (fun r8 r9=>fF (m+9) (IntKind.wrap .u64 b) 4 r8 r9 (fun r10 r11=>fF (m+9) (IntKind.wrap .u64 c) 4 r10 r11 (fun r12 r13=>k0 r12 r13))):=by kernel_rfl
  rw[s0,step t h6 _ _ (by omega),step b h7 _ _ (by rw[List.length_append,bP];omega),step c h8 _ _ (by rw[List.length_append,List.length_append,bP,bP];omega)]
 rw[loop _ _ hl1,PN _ _ _ (by simp[bP,h2,h4])]
 rfl
theorem Mw(n:Nat)(hn:200<n)(h:bC)(o:dO h)(g:List Int→Option A):jR n h g=g (bW (cQ h)):=by
 unfold jR Me
 have h80:=U6 o
 rw[ajM n (by omega) h o,NR n hn [cQ h] (fun x hx=>by rw[List.mem_singleton.1 hx];exact U5 o) (fun x hx=>by rw[List.mem_singleton.1 hx];omega) (by simp[h80]) (by show 1<n;omega) (by show 1<1000000;decide)]
 simp
theorem WK(n w:Nat)(hw:w≤8)(g:Int→Option A):sN n (w:Int) g=g (w:Int):=by
 unfold sN Lp
 rw[show decide ((w:Int)<0)=false from decide_eq_false (by omega),cond_false,show decide ((w:Int)>8)=false from decide_eq_false (by omega),cond_false]
theorem WB(n x w:Nat)(hx:x<18446744073709551616)(hw:w≤8)(k0:List Int→Option A):∀ (d f i:Nat),i+d=w→d<f→
  oF n (w:Int) k0 f ((x/256^i:Nat):Int) (i:Int) (bv i x)=k0 (bv w x)
 | 0,f+1,i,hi,_=>by
  rw[oF,zQ,show decide ((i:Int)<(w:Int))=false from decide_eq_false (by omega),cond_false]
  obtain rfl:i=w:=by omega
  rfl
 | d+1,0,i,_,h=>by omega
 | d+1,f+1,i,hi,hf=>by
  have hle:x/256^i≤x:=Nat.div_le_self _ _
  obtain⟨y,hy⟩:∃ y,y=x/256^i:=⟨_,rfl⟩
  rw[← hy] at hle
  have e1:IntKind.wrap .u64 (Int.tdiv (y:Int) 256)=((x/256^(i+1):Nat):Int):=by
   rw[show(256:Int)=((256:Nat):Int) from rfl,dn,Nat.pow_succ,← Nat.div_div_eq_div_mul,← hy,dU _ (by omega)]
  have e2:IntKind.wrap .i64 (Int.tmod (y:Int) 256)=((y%256:Nat):Int):=by
   rw[show(256:Int)=((256:Nat):Int) from rfl,dy];exact mZ _ (by omega)
  rw[← hy,oF,zQ,show decide ((i:Int)<(w:Int))=true from decide_eq_true (by omega),cond_true,bP,if_pos (by omega),e1,e2,aU i (by omega),hy,← MI]
  exact WB n x w hx hw k0 d f (i+1) (by omega) (by omega)
theorem alk(n x w:Nat)(hn:10<n)(hx:x<18446744073709551616)(hw:w≤8)(g:List Int→Option A):uN n (x:Int) (w:Int) g=g (bv w x):=by
 unfold uN Gx
 have h:=WB n x w hx hw g w n 0 (by omega) (by omega)
 simpa[bv] using h
theorem WQ(G1:Int→(Int→Option A)→Option A)(G2:Int→Int→(List Int→Option A)→Option A)(n x w:Nat)(hw:w≤8)(k0:List Int→Option A):∀ (d f i:Nat),i+d=w→d<f→
  nY G1 G2 n (w:Int) (bv w x) k0 f (i:Int) (bv i x)=k0 (bv w x)
 | 0,f+1,i,hi,_=>by
  rw[nY,yV,show decide ((i:Int)<(w:Int))=false from decide_eq_false (by omega),cond_false]
  obtain rfl:i=w:=by omega
  rfl
 | d+1,0,i,_,h=>by omega
 | d+1,f+1,i,hi,hf=>by
  have e0:(bv w x)[i]?=some ((x/256^i%256:Nat):Int):=by
   unfold bv;rw[List.getElem?_map,List.getElem?_range (by omega)];rfl
  rw[nY,yV,show decide ((i:Int)<(w:Int))=true from decide_eq_true (by omega),cond_true,if_pos (Int.natCast_nonneg _),bP,if_pos (by omega),Int.toNat_natCast,e0,Option.bind_some,bP,if_pos (by omega),aU i (by omega),
   show IntKind.wrap .u8 ((x/256^i%256:Nat):Int)=((x/256^i%256:Nat):Int) by rw[wM];omega,← MI]
  exact WQ G1 G2 n x w hw k0 d f (i+1) (by omega) (by omega)
theorem tt(n x w:Nat)(hn:10<n)(hx:x<18446744073709551616)(hw:w≤8)(g:ByteArray→Option A):jc n (x:Int) (w:Int) g=g (am (bv w x)):=by
 unfold jc E6
 rw[WK n w hw,alk n x w hn hx hw,bP]
 exact WQ (sN n) (uN n) n x w hw (fun y4=>g (am y4)) w n 0 (by omega) (by omega)
theorem ald(n:Nat)(hn:20<n)(h:bC)(o:dO h)(g:ByteArray→Option A):vI n h g=g (am (cQ h)):=by
 obtain⟨v,p,r,t,b,c,u⟩:=h
 obtain⟨h1,h2,h3,h4,h5,h6,h7,h8⟩:=o
 simp only at h1 h2 h3 h4 h5 h6 h7 h8
 have step:∀ (y:Int) (hy:bj y) (G:ByteArray→Option A),jc n (IntKind.wrap .u64 y) 4 G=G (am (bv 4 y.toNat)):=fun y hy G=>by
  have hw:=tC hy
  rw[hw.1];exact tt n _ 4 (by omega) (by omega) (by decide) G
 unfold vI LH
 simp only[List.drop_zero]
 rw[List.take_of_length_le (by omega),List.take_of_length_le (by omega),step v h1,gf,gf,bQ,bQ,bQ,bQ,bP,if_pos (by omega),List.length_append,bP,if_pos (by omega),step t h6,gf,bQ,bQ,bP]
 rw[List.length_append,List.length_append,bP,if_pos (by omega),step b h7,gf,bQ,bQ,bP]
 simp only[List.length_append,bP,h2,h4]
 rw[if_pos (by omega),step c h8,gf,bQ,bQ,bP]
 simp only[List.length_append,bP,h2,h4]
 rw[if_pos (by omega)]
 simp[cQ]
def be:List Int→Nat
 | []=>0
 | x::l=>x.toNat+256*be l
theorem aq.cons{x:Int}{l:List Int}(h:aq (x::l)):(0≤x∧x<256)∧aq l:=⟨h x (List.mem_cons_self ..),fun y hy=>h y (List.mem_cons_of_mem _ hy)⟩
theorem Di:∀ {l:List Int},aq l→be l<256^l.length
 | [],_=>by decide
 | x::l,h=>by
  have h1:=h.cons.1;have h2:=Di h.cons.2
  rw[be,List.length_cons,Nat.pow_succ];omega
theorem XX:∀ (l:List Int) (x:Int),be (l++[x])=be l+256^l.length*x.toNat
 | [],x=>by simp[be]
 | y::l,x=>by
  rw[List.cons_append,be,XX l x,be,List.length_cons,Nat.pow_succ,Nat.mul_add,← Nat.mul_assoc,Nat.mul_comm 256 (256^l.length)];omega
theorem aj7(w x:Nat):bv (w+1) x=((x%256:Nat):Int)::bv w (x/256):=by
 unfold bv
 rw[List.range_succ_eq_map,List.map_cons,List.map_map,Nat.pow_zero,Nat.div_one]
 congr 1
 refine List.map_congr_left fun i _=>?_
 simp only[Function.comp]
 rw[Nat.succ_eq_add_one,Nat.pow_succ',Nat.div_div_eq_div_mul]
theorem Vs:∀ {l:List Int},aq l→bv l.length (be l)=l
 | [],_=>rfl
 | x::l,h=>by
  obtain⟨⟨h1,h2⟩,h3⟩:=h.cons
  rw[List.length_cons,aj7,be,show(x.toNat+256*be l)/256=be l by omega,Vs h3]
  congr 1;omega
theorem M2{m:Nat}(h:m≤8):256^m≤18446744073709551616:=Nat.le_trans (Nat.pow_le_pow_right (by decide) h) (by decide)
theorem V5(n:Nat)(b:List Int)(hb:aq b)(hl:b.length≤8)(k0:Int→Option A):∀ (d f i:Nat),i+d=b.length→d<f→
  oL n b (b.length:Int) k0 f ((be (b.take i):Nat):Int) (i:Int)=k0 ((be b:Nat):Int)
 | 0,f+1,i,hi,_=>by
  rw[oL,AA,show decide ((i:Int)<(b.length:Int))=false from decide_eq_false (by omega),cond_false,List.take_of_length_le (by omega)]
 | d+1,0,i,_,h=>by omega
 | d+1,f+1,i,hi,hf=>by
  have hlt:i<b.length:=by omega
  have e0:IntKind.wrap .i64 (8*(i:Int))=((8*i:Nat):Int):=(ap (by omega) (by omega)).trans (by omega)
  have hx:=hb.at i
  obtain⟨y,hy⟩:∃ y:Nat,b.getD i 0=y:=⟨(b.getD i 0).toNat,by omega⟩
  have hv:=Di (hb.take i)
  rw[List.length_take,Nat.min_eq_left (by omega)] at hv
  have hp:=M2 (m:=i) (by omega)
  have hp2:=M2 (m:=i+1) (by omega)
  have h8:2^(8*i)=256^i:=by rw[Nat.pow_mul]
  have hy2:y<256:=by omega
  have hmul:y*256^i<18446744073709551616:=by
   rw[Nat.pow_succ] at hp2
   have:=Nat.mul_le_mul_right (256^i) (show y+1≤256 by omega)
   rw[Nat.add_mul,Nat.one_mul] at this
   have h0:0<256^i:=Nat.pow_pos (by decide)
   rw[Nat.mul_comm (256^i)] at hp2
   omega
  have e1:shl .u64 (IntKind.wrap .u64 (y:Int)) ((8*i:Nat):Int)=((y*256^i:Nat):Int):=by
   rw[dU y (by omega),wB y _ (by omega),h8,Nat.mod_eq_of_lt hmul]
  have e2:dL .u64 ((be (b.take i):Nat):Int) ((y*256^i:Nat):Int)=((be (b.take (i+1)):Nat):Int):=by
   rw[Cy _ _ (by omega) hmul,Nat.or_comm,← h8,CS y _ _ (by rw[h8];exact hv),h8]
   rw[List.take_add_one,bZ b i hlt 0,hy]
   show _=((be (b.take i++[(y:Int)]):Nat):Int)
   rw[XX,List.length_take,Nat.min_eq_left (by omega),Int.toNat_natCast,Nat.mul_comm,Nat.add_comm]
  rw[oL,AA,show decide ((i:Int)<(b.length:Int))=true from decide_eq_true (by omega),cond_true,if_pos (Int.natCast_nonneg _),Int.toNat_natCast,bZ b i hlt 0,Option.bind_some,e0,if_neg (by omega),hy,e1,e2,aU i (by omega)]
  exact V5 n b hb hl k0 d f (i+1) (by omega) (by omega)
theorem akL(n:Nat)(hn:10<n)(b:List Int)(hb:aq b)(hl:b.length≤8)(g:Int→Option A):AB n b g=g ((be b:Nat):Int):=by
 unfold AB HQ
 rw[show cf (b.length:Int) 8=(b.length:Int) by unfold cf;split<;>omega]
 exact V5 n b hb hl (fun y=>g y) b.length n 0 (by omega) (by omega)
theorem Xm(n:Nat)(b:List Int)(hb:aq b)(hl:b.length≤8)(k0:Int→Option A):∀ (i f:Nat),i≤b.length→i<f→
  pL n b k0 f ((be (b.drop i):Nat):Int) ((i:Int)-1)=k0 ((be b:Nat):Int)
 | 0,f+1,_,_=>by
  rw[pL,B5,show decide ((((0:Nat):Int)-1)≥0)=false from rfl,cond_false,List.drop_zero]
 | _,0,_,h=>by omega
 | i+1,f+1,hi,hf=>by
  have hlt:i<b.length:=by omega
  have hx:=hb.at i
  obtain⟨y,hy⟩:∃ y:Nat,b.getD i 0=y:=⟨(b.getD i 0).toNat,by omega⟩
  have hv:=Di (hb.drop (i+1))
  rw[List.length_drop] at hv
  have hp:=Nat.le_trans (Nat.pow_le_pow_right (show 0<256 by decide) (show b.length-(i+1)≤7 by omega)) (show 256^7≤72057594037927936 by decide)
  have e1:(((i+1:Nat):Int)-1)=(i:Int):=by omega
  have e3:be (b.drop i)=y+256*be (b.drop (i+1)):=by
   rw[List.drop_eq_getElem_cons hlt,be]
   have:b[i]=(y:Int):=by rw[← hy,List.getD_eq_getElem?_getD,List.getElem?_eq_getElem hlt];rfl
   rw[this,Int.toNat_natCast]
  rw[pL,B5,e1,show decide ((i:Int)≥0)=true from decide_eq_true (by omega),cond_true,show decide ((i:Int)<8)=true from decide_eq_true (by omega),cond_true,if_pos (Int.natCast_nonneg _),Int.toNat_natCast,bZ b i hlt 0,Option.bind_some,hy]
  have e2:IntKind.wrap .u64 (IntKind.wrap .u64 (((be (b.drop (i+1)):Nat):Int)*256)+IntKind.wrap .u64 (y:Int))=((be (b.drop i):Nat):Int):=by
   rw[e3];simp only[ql];omega
  rw[e2,show IntKind.wrap .i64 ((i:Int)-1)=(i:Int)-1 from ap (by omega) (by omega)]
  exact Xm n b hb hl k0 i f (by omega) (by omega)
theorem Ny(n:Nat)(hn:10<n)(b:List Int)(hb:aq b)(hl:b.length≤8)(g:Int→Option A):sO n b g=g ((be b:Nat):Int):=by
 unfold sO Lr
 rw[show IntKind.wrap .i64 ((b.length:Int)-1)=(b.length:Int)-1 from ap (by omega) (by omega)]
 have h:=Xm n b hb hl (fun y=>g y) b.length n (Nat.le_refl _) (by omega)
 rw[List.drop_of_length_le (Nat.le_refl _)] at h
 exact h
abbrev Rd:=List Int×Nat
def tk(w:Nat)(s:Rd):Rd×List Int:=
 if s.2≠0 then(s,[]) else if s.1.length<w then((s.1,2),[]) else((s.1.drop w,0),s.1.take w)
def cx(ra:List Int)(s:Rd):Int×(Int×Unit):=(((ra.length-s.1.length:Nat):Int),((s.2:Int),()))
def df(ra:List Int)(s:Rd):Prop:=s.1.length≤ra.length∧s.1=ra.drop (ra.length-s.1.length)
theorem df.drop{ra:List Int}{s:Rd}(h:df ra s)(w:Nat)(hw:w≤s.1.length)(e:Nat):df ra (s.1.drop w,e):=by
 obtain⟨h1,h2⟩:=h
 refine⟨by show(s.1.drop w).length≤_;rw[List.length_drop];omega,?_⟩
 show s.1.drop w=_
 conv=>lhs;rw[h2]
 rw[List.drop_drop]
 congr 1
 show _=ra.length-(s.1.drop w).length
 rw[List.length_drop];omega
theorem XJ{ra:List Int}{s:Rd}(h:df ra s)(w:Nat):df ra (tk w s).1:=by
 unfold tk;split
 ·exact h
 ·split
  ·exact h
  ·exact h.drop w (by omega) 0
theorem wG{s:Rd}(h:aq s.1)(w:Nat):aq (tk w s).1.1∧aq (tk w s).2:=by
 unfold tk;split
 ·exact⟨h,fun x hx=>nomatch hx⟩
 ·split
  ·exact⟨h,fun x hx=>nomatch hx⟩
  ·exact⟨h.drop w,h.take w⟩
theorem XK(w:Nat)(s:Rd):(tk w s).2.length≤w∧(tk w s).1.1.length≤s.1.length∧(tk w s).2.length≤s.1.length:=by
 unfold tk;split
 ·exact⟨Nat.zero_le _,Nat.le_refl _,Nat.zero_le _⟩
 ·split
  ·exact⟨Nat.zero_le _,Nat.le_refl _,Nat.zero_le _⟩
  ·refine⟨?_,?_,?_⟩<;>simp<;>omega
theorem Qe(n w:Nat)(hw:w<1000000000)(ra:List Int)(hr:ra.length<1000000000)(s:Rd)(hs:df ra s)(g:(Int×(Int×Unit))→List Int→List Int→Option A) :
  oM n (w:Int) (cx ra s) ra g=g (cx ra (tk w s).1) ra (tk w s).2:=by
 obtain⟨l,e⟩:=s
 obtain⟨hl,hd⟩:=hs
 simp only at hl hd
 unfold oM HS cx tk
 simp only
 by_cases he:e=0
 ·subst he
  rw[show((((0:Nat):Int)) != 0)=false from rfl,cond_false,show bi (w:Int) 0=(w:Int) by unfold bi;split<;>omega,
   show IntKind.wrap .i64 ((ra.length:Int)-((ra.length-l.length:Nat):Int))=(l.length:Int) from(ap (by omega) (by omega)).trans (by omega),if_neg (show ¬ ((0:Nat)≠0) by simp)]
  by_cases hw2:l.length<w
  ·rw[show decide ((w:Int)>(l.length:Int))=true from decide_eq_true (by omega),cond_true,if_pos hw2]
   rfl
  ·have e1:IntKind.wrap .i64 (((ra.length-l.length:Nat):Int)+(w:Int))=((ra.length-l.length+w:Nat):Int):=(ap (by omega) (by omega)).trans (by omega)
   have e2:IntKind.wrap .i64 (((ra.length-l.length+w:Nat):Int)-(w:Int))=((ra.length-l.length:Nat):Int):=(ap (by omega) (by omega)).trans (by omega)
   rw[show decide ((w:Int)>(l.length:Int))=false from decide_eq_false (by omega),cond_false,e1,e2,if_pos (Int.natCast_nonneg _),if_pos (by omega),if_pos (Int.natCast_nonneg _),Int.toNat_natCast,Int.toNat_natCast,if_pos (by omega),if_neg hw2,
    ← hd,show ra.length-l.length+w-(ra.length-l.length)=w by omega,rX n _ (by rw[List.length_take];omega)]
   congr 1
   rw[List.length_drop,show ra.length-l.length+w=ra.length-(l.length-w) by omega]
 ·rw[show(((e:Nat):Int) != 0)=true by simp;omega,cond_true,if_pos he]
def aS(w:Nat)(s:Rd):Rd×Nat:=((tk w s).1,be (tk w s).2)
theorem ue(n w:Nat)(hn:10<n)(hw:w≤8)(ra:List Int)(hr:ra.length<1000000000)(s:Rd)(hs:df ra s)(hb:aq s.1)(g:Int→(Int×(Int×Unit))→List Int→Option A) :
  gQ n (w:Int) (cx ra s) ra g=g ((aS w s).2:Int) (cx ra (aS w s).1) ra:=by
 unfold gQ FL
 rw[show cf (bi (w:Int) 0) 8=(w:Int) by unfold bi cf;split<;>split<;>omega,Qe n w (by omega) ra hr s hs,
  akL n hn _ (wG hb w).2 (Nat.le_trans (XK w s).1 hw)]
 rfl
def dD(s:Rd):ByteArray×(Int×Unit):=(am s.1,((s.2:Int),()))
theorem p5(l:List Int)(a b:Nat):(am l).extract a b=am ((l.drop a).take (b-a)):=by
 apply ByteArray.ext
 rw[ByteArray.data_extract]
 unfold am
 simp only
 rw[List.extract_toArray,List.extract_eq_drop_take,← List.map_drop,← List.map_take]
theorem akt:am []=ByteArray.empty:=rfl
theorem Xf(n w:Nat)(s:Rd)(g:(ByteArray×(Int×Unit))→ByteArray→Option A):vE n (dD s) (w:Int) g=g (dD (tk w s).1) (am (tk w s).2):=by
 obtain⟨l,e⟩:=s
 unfold vE Lo dD tk
 simp only
 by_cases he:e=0
 ·subst he
  rw[show((((0:Nat):Int)) != 0)=false from rfl,cond_false,show decide ((w:Int)<0)=false from decide_eq_false (by omega),cond_false,if_neg (show ¬ ((0:Nat)≠0) by simp),bQ]
  by_cases hw2:l.length<w
  ·rw[show decide ((w:Int)>(l.length:Int))=true from decide_eq_true (by omega),cond_true,if_pos hw2];rfl
  ·rw[show decide ((w:Int)>(l.length:Int))=false from decide_eq_false (by omega),cond_false,if_pos (Int.natCast_nonneg _),if_pos (by omega),if_pos (Int.natCast_nonneg _),if_pos (by omega),if_neg hw2,Int.toNat_natCast,p5,p5,List.drop_zero,Nat.sub_zero,
    List.take_of_length_le (show(l.drop w).length≤l.length-w by rw[List.length_drop];omega)]
   rfl
 ·rw[show(((e:Nat):Int) != 0)=true by simp;omega,cond_true,if_pos he];rfl
theorem No(n w:Nat)(hn:10<n)(hw:w≤8)(s:Rd)(hb:aq s.1)(g:(ByteArray×(Int×Unit))→Int→Option A):pt n (dD s) (w:Int) g=g (dD (aS w s).1) ((aS w s).2:Int):=by
 unfold pt Kk
 rw[WK n w hw,Xf,kb (wG hb w).2,Ny n hn _ (wG hb w).2 (Nat.le_trans (XK w s).1 hw)]
 rfl
def eZ(b:Int):Nat:=if b=253 then 3 else if b=254 then 5 else if b=255 then 9 else 1
def fM(b:Int):Nat:=if b=253 then 253 else if b=254 then 65536 else if b=255 then 4294967296 else 0
def eR(b:Int)(l:List Int):Nat:=if eZ b=1 then b.toNat else be (l.take (eZ b-1))
def bD(most:Nat)(s:Rd):Rd×Nat:=
 if s.2≠0 then(s,0) else
 match s.1 with
 | []=>((s.1,2),0)
 | b::l=>if l.length<eZ b-1 then((b::l,2),0) else if eR b l<fM b then((b::l,3),0) else if most<eR b l then((b::l,4),0) else((l.drop (eZ b-1),0),eR b l)
theorem akA{w:Nat}{s:Rd}(h:s.2≠0):aS w s=(s,0):=by unfold aS tk;rw[if_pos h];rfl
theorem V1{w:Nat}{l:List Int}(h:l.length<w):aS w (l,0)=((l,2),0):=by
 unfold aS tk;rw[if_neg (show ¬ ((0:Nat)≠0) by simp),if_pos h];rfl
theorem V0{w:Nat}{l:List Int}(h:w≤l.length):aS w (l,0)=((l.drop w,0),be (l.take w)):=by
 unfold aS tk;rw[if_neg (show ¬ ((0:Nat)≠0) by simp),if_neg (Nat.not_lt.2 h)]
theorem D9(n:Nat)(f:Int)(e:Int)(a:Int)(ra:List Int)(g:(Int×(Int×Unit))→List Int→Option A):pd n f e (a,(0,())) ra g=g (f,(e,())) ra:=by
 unfold pd JC
 rw[show(((0:Int))==0)=true from rfl,cond_true]
theorem Em(n w lst most:Nat)(hn:10<n)(hw:w≤8)(hlst:lst<18446744073709551616)(ra:List Int)(hr:ra.length<1000000000)(b:Int)(l:List Int)(hs:df ra (b::l,0))(hs2:df ra (l,0))(hb:aq l)(g:Int→(Int×(Int×Unit))→List Int→Option A) :
  (gQ n (w:Int) (cx ra (l,0)) ra fun r4 r5 r6=>
   bif (r5.2.1 != 0) then g 0 ((cx ra (b::l,0)).1,r5.2) r6
   else bif (decide (r4<(lst:Int))) then pd n (cx ra (b::l,0)).1 3 r5 r6 fun r7 r8=>g 0 r7 r8
   else bif (decide (r4>(most:Int))) then pd n (cx ra (b::l,0)).1 4 r5 r6 fun r9 r10=>g 0 r9 r10
   else g r4 r5 r6)=
  (if l.length<w then g 0 (cx ra (b::l,2)) ra else if be (l.take w)<lst then g 0 (cx ra (b::l,3)) ra else if most<be (l.take w) then g 0 (cx ra (b::l,4)) ra else g ((be (l.take w):Nat):Int) (cx ra (l.drop w,0)) ra):=by
 rw[ue n w hn hw ra hr _ hs2 hb]
 by_cases h:l.length<w
 ·rw[V1 h,if_pos h];rfl
 ·rw[V0 (by omega),if_neg h]
  simp only[cx]
  rw[show(((((0:Nat):Int))) != 0)=false from rfl,cond_false]
  by_cases h1:be (l.take w)<lst
  ·rw[show decide (((be (l.take w):Nat):Int)<(lst:Int))=true from decide_eq_true (by omega),cond_true,if_pos h1]
   exact D9 n _ _ _ _ _
  ·rw[show decide (((be (l.take w):Nat):Int)<(lst:Int))=false from decide_eq_false (by omega),cond_false,if_neg h1]
   by_cases h2:most<be (l.take w)
   ·rw[show decide (((be (l.take w):Nat):Int)>(most:Int))=true from decide_eq_true (by omega),cond_true,if_pos h2]
    exact D9 n _ _ _ _ _
   ·rw[show decide (((be (l.take w):Nat):Int)>(most:Int))=false from decide_eq_false (by omega),cond_false,if_neg h2]
theorem Qh(n most:Nat)(hn:10<n)(ra:List Int)(hr:ra.length<1000000000)(s:Rd)(hs:df ra s)(hb:aq s.1)(g:Int→(Int×(Int×Unit))→List Int→Option A) :
  jf n (most:Int) (cx ra s) ra g=g ((bD most s).2:Int) (cx ra (bD most s).1) ra:=by
 obtain⟨l,e⟩:=s
 unfold jf HT bD
 rw[show(1:Int)=((1:Nat):Int) from rfl,ue n 1 hn (by decide) ra hr _ hs hb]
 by_cases he:e=0
 ·subst he
  rw[if_neg (show ¬ ((0:Nat)≠0) by simp)]
  match l,hs,hb with
  | [],hs,hb=>
   rw[V1 (by decide)]
   rfl
  | b::l,hs,hb=>
   obtain⟨hb1,hb2⟩:=hb.cons
   have hs2:df ra (l,0):=hs.drop 1 (by show 1≤(b::l).length;simp) 0
   rw[V0 (by simp)]
   simp only[List.take_succ_cons,List.take_zero,List.drop_succ_cons,List.drop_zero,be]
   obtain⟨y,rfl⟩:∃ y:Nat,b=y:=⟨b.toNat,by omega⟩
   rw[Int.toNat_natCast,show y+256*0=y by omega]
   by_cases h1:(y:Int)=253
   ·have hk:eZ (y:Int)=3:=by rw[h1];rfl
    have hl:fM (y:Int)=253:=by rw[h1];rfl
    have hc:eR (y:Int) l=be (l.take 2):=by unfold eR;rw[hk];rfl
    rw[show(((y:Nat):Int)==253)=true by rw[h1];rfl,cond_true,hk,hl,hc]
    have:=Em n 2 253 most hn (by decide) (by decide) ra hr (y:Int) l hs hs2 hb2 g
    refine Eq.trans this ?_
    repeat' split<;>try rfl
   ·rw[show(((y:Nat):Int)==253)=false by simp;omega,cond_false]
    by_cases h2:(y:Int)=254
    ·have hk:eZ (y:Int)=5:=by rw[h2];rfl
     have hl:fM (y:Int)=65536:=by rw[h2];rfl
     have hc:eR (y:Int) l=be (l.take 4):=by unfold eR;rw[hk];rfl
     rw[show(((y:Nat):Int)==254)=true by rw[h2];rfl,cond_true,hk,hl,hc]
     have:=Em n 4 65536 most hn (by decide) (by decide) ra hr (y:Int) l hs hs2 hb2 g
     refine Eq.trans this ?_
     repeat' split<;>try rfl
    ·rw[show(((y:Nat):Int)==254)=false by simp;omega,cond_false]
     by_cases h3:(y:Int)=255
     ·have hk:eZ (y:Int)=9:=by rw[h3];rfl
      have hl:fM (y:Int)=4294967296:=by rw[h3];rfl
      have hc:eR (y:Int) l=be (l.take 8):=by unfold eR;rw[hk];rfl
      rw[show(((y:Nat):Int)==255)=true by rw[h3];rfl,cond_true,hk,hl,hc]
      have:=Em n 8 4294967296 most hn (by decide) (by decide) ra hr (y:Int) l hs hs2 hb2 g
      refine Eq.trans this ?_
      repeat' split<;>try rfl
     ·have hk:eZ (y:Int)=1:=by unfold eZ;rw[if_neg h1,if_neg h2,if_neg h3]
      have hl:fM (y:Int)=0:=by unfold fM;rw[if_neg h1,if_neg h2,if_neg h3]
      have hc:eR (y:Int) l=y:=by unfold eR;rw[hk];rfl
      rw[show(((y:Nat):Int)==255)=false by simp;omega,cond_false,hk,hl,hc]
      simp only[cx]
      rw[show(((((0:Nat):Int))) != 0)=false from rfl,cond_false,show decide (((y:Nat):Int)<0)=false from decide_eq_false (by omega),cond_false,if_neg (by omega),if_neg (by omega)]
      by_cases h4:most<y
      ·rw[show decide (((y:Nat):Int)>(most:Int))=true from decide_eq_true (by omega),cond_true,if_pos h4]
       exact D9 n _ _ _ _ _
      ·rw[show decide (((y:Nat):Int)>(most:Int))=false from decide_eq_false (by omega),cond_false,if_neg h4]
       rfl
 ·rw[akA he,if_pos he]
  simp only[cx]
  rw[show((((0:Nat):Int))==253)=false from rfl,cond_false,show((((0:Nat):Int))==254)=false from rfl,cond_false,show((((0:Nat):Int))==255)=false from rfl,cond_false,show(((e:Nat):Int) != 0)=true by simp;omega,cond_true]
  rfl
def cC(v:Nat):List Int:=if v<253 then bv 1 v else if v<65536 then 253::bv 2 v else if v<4294967296 then 254::bv 4 v else 255::bv 8 v
theorem Nz(n v:Nat)(hn:10<n)(hv:v<18446744073709551616)(g:ByteArray→Option A):jH n (v:Int) g=g (am (cC v)):=by
 unfold jH EG cC
 have s0:NI=am [253]:=by rfl
 have s1:NJ=am [254]:=by rfl
 have s2:NL=am [255]:=by rfl
 by_cases h1:v<253
 ·rw[show decide ((v:Int)<253)=true from decide_eq_true (by omega),cond_true,if_pos h1,show(1:Int)=((1:Nat):Int) from rfl,tt n v 1 hn hv (by decide)]
 ·rw[show decide ((v:Int)<253)=false from decide_eq_false (by omega),cond_false,if_neg h1]
  by_cases h2:v<65536
  ·rw[show decide ((v:Int)<65536)=true from decide_eq_true (by omega),cond_true,if_pos h2,show(2:Int)=((2:Nat):Int) from rfl,tt n v 2 hn hv (by decide),s0,bQ,bQ,bP,if_pos (by decide),gf];rfl
  ·rw[show decide ((v:Int)<65536)=false from decide_eq_false (by omega),cond_false,if_neg h2]
   by_cases h3:v<4294967296
   ·rw[show decide ((v:Int)<4294967296)=true from decide_eq_true (by omega),cond_true,if_pos h3,show(4:Int)=((4:Nat):Int) from rfl,tt n v 4 hn hv (by decide),s1,bQ,bQ,bP,if_pos (by decide),gf];rfl
   ·rw[show decide ((v:Int)<4294967296)=false from decide_eq_false (by omega),cond_false,if_neg h3,show(8:Int)=((8:Nat):Int) from rfl,tt n v 8 hn hv (by decide),s2,bQ,bQ,bP,if_pos (by decide),gf];rfl
theorem VQ{a b:List Int}(ha:aq a)(hb:aq b):(am a).toList==(am b).toList↔a=b:=by
 rw[beq_iff_eq,toList_inj]
 refine⟨fun h=>?_,fun h=>by rw[h]⟩
 have:=congrArg bd h
 rwa [kb ha,kb hb] at this
theorem CN{a b:List Int}(ha:aq a)(hb:aq b):((am a).toList==(am b).toList)=decide (a=b):=by
 by_cases h:a=b
 ·rw[decide_eq_true h];exact(VQ ha hb).2 h
 ·rw[decide_eq_false h,Bool.eq_false_iff];exact fun hh=>h ((VQ ha hb).1 hh)
theorem abP(v:Nat):aq (cC v):=by
 unfold cC
 split
 ·exact mO _ _
 ·split
  ·exact fun x hx=>by rcases List.mem_cons.1 hx with rfl|h;decide;exact mO _ _ x h
  ·split
   ·exact fun x hx=>by rcases List.mem_cons.1 hx with rfl|h;decide;exact mO _ _ x h
   ·exact fun x hx=>by rcases List.mem_cons.1 hx with rfl|h;decide;exact mO _ _ x h
theorem Nf(n w most:Nat)(b:Int)(l:List Int)(hn:10<n)(hk:eZ b=w+1)(hw:1<eZ b)(hb:aq (b::l))(g:(ByteArray×(Int×Unit))→Int→Option A) :
  (bif (decide (((am (b::l)).size:Int)<((w+1:Nat):Int))) then g (am (b::l),(2,())) 0
   else if ((w+1:Nat):Int)≤(((am (b::l)).size:Nat):Int) then
    sO n (bd ((am (b::l)).extract 1 (w+1))) fun r2=>
    jH n r2 fun r3=>
    if ((w+1:Nat):Int)≤(((am (b::l)).size:Nat):Int) then
     bif (!(r3.toList==((am (b::l)).extract 0 (w+1)).toList)) then g (am (b::l),(3,())) 0
     else bif (decide (r2>(most:Int))) then g (am (b::l),(4,())) 0
     else if ((w+1:Nat):Int)≤(((am (b::l)).size:Nat):Int) then g (((am (b::l)).extract (w+1) (am (b::l)).size),(0,())) r2 else none
    else none
   else none)=g (dD (bD most (b::l,0)).1) ((bD most (b::l,0)).2:Int):=by
 obtain⟨hb1,hb2⟩:=hb.cons
 unfold bD
 rw[if_neg (show ¬ ((0:Nat)≠0) by simp),bQ]
 have hkc:(b=253∧w=2∧fM b=253)∨(b=254∧w=4∧fM b=65536)∨(b=255∧w=8∧fM b=4294967296):=by
  unfold eZ at hk hw;unfold fM
  by_cases h1:b=253
  ·rw[if_pos h1] at hk;exact Or.inl ⟨h1,by omega,by rw[if_pos h1]⟩
  ·rw[if_neg h1] at hk hw
   by_cases h2:b=254
   ·rw[if_pos h2] at hk;exact Or.inr (Or.inl ⟨h2,by omega,by rw[if_neg h1,if_pos h2]⟩)
   ·rw[if_neg h2] at hk hw
    by_cases h3:b=255
    ·rw[if_pos h3] at hk;exact Or.inr (Or.inr ⟨h3,by omega,by rw[if_neg h1,if_neg h2,if_pos h3]⟩)
    ·rw[if_neg h3] at hw;omega
 have hw8:w≤8:=by rcases hkc with h|h|h<;>omega
 have hcv:eR b l=be (l.take w):=by unfold eR;rw[hk,if_neg (by omega)];rfl
 simp only[hk,Nat.add_sub_cancel,hcv]
 by_cases hlen:l.length<w
 ·rw[show decide (((b::l).length:Int)<((w+1:Nat):Int))=true from decide_eq_true (by rw[List.length_cons];omega),cond_true,if_pos hlen];rfl
 ·have hle:((w+1:Nat):Int)≤(((b::l).length:Nat):Int):=by rw[List.length_cons];omega
  have e1:(am (b::l)).extract 1 (w+1)=am (l.take w):=by rw[p5];simp
  have e2:(am (b::l)).extract 0 (w+1)=am (b::l.take w):=by rw[p5];simp
  have e3:(am (b::l)).extract (w+1) (b::l).length=am (l.drop w):=by
   rw[p5,List.drop_succ_cons,List.take_of_length_le (by rw[List.length_drop,List.length_cons];omega)]
  have htl:(l.take w).length=w:=by rw[List.length_take];omega
  have hv:=Di (hb2.take w)
  rw[htl] at hv
  have hp:=M2 hw8
  rw[show decide (((b::l).length:Int)<((w+1:Nat):Int))=false from decide_eq_false (by rw[List.length_cons];omega),cond_false,if_pos hle,if_neg hlen,e1,e2,e3,kb (hb2.take w),Ny n hn _ (hb2.take w) (by omega),Nz n _ hn (by omega),if_pos hle,if_pos hle]
  have hAB:aq (b::l.take w):=fun x hx=>by rcases List.mem_cons.1 hx with rfl|h;exact hb1;exact hb2.take w x h
  rw[CN (abP _) hAB]
  have henc:(cC (be (l.take w))=b::l.take w)↔¬ (be (l.take w)<fM b):=by
   have hle2:=Vs (hb2.take w)
   rw[htl] at hle2
   have hlenE:∀ (u:Nat) (z:List Int),bv u (be (l.take w))=z→z.length=u:=fun u z h=>by rw[← h,bP]
   constructor
   ·intro h hlt
    have hl:=congrArg List.length h
    rw[List.length_cons,htl] at hl
    unfold cC at hl
    rcases hkc with ⟨h1,h2,h3⟩|⟨h1,h2,h3⟩|⟨h1,h2,h3⟩
    ·rw[h3] at hlt;rw[if_pos (by omega),bP] at hl;omega
    ·rw[h3] at hlt
     split at hl
     ·rw[bP] at hl;omega
     ·rw[List.length_cons,bP] at hl;omega
    ·rw[h3] at hlt
     split at hl
     ·rw[bP] at hl;omega
     ·split at hl
      ·rw[List.length_cons,bP] at hl;omega
      ·rw[List.length_cons,bP] at hl;omega
   ·intro h
    unfold cC
    rcases hkc with ⟨h1,h2,h3⟩|⟨h1,h2,h3⟩|⟨h1,h2,h3⟩
    ·subst h2;rw[h3] at h;rw[if_neg (by omega),if_pos (by omega),h1,hle2]
    ·subst h2;rw[h3] at h;rw[if_neg (by omega),if_neg (by omega),if_pos (by omega),h1,hle2]
    ·subst h2;rw[h3] at h;rw[if_neg (by omega),if_neg (by omega),if_neg (by omega),h1,hle2]
  by_cases hls:be (l.take w)<fM b
  ·rw[decide_eq_false (fun h=>(henc.1 h) hls),Bool.not_false,cond_true,if_pos hls];rfl
  ·rw[decide_eq_true (henc.2 hls),Bool.not_true,cond_false,if_neg hls]
   by_cases hm:most<be (l.take w)
   ·rw[show decide (((be (l.take w):Nat):Int)>(most:Int))=true from decide_eq_true (by omega),cond_true,if_pos hm];rfl
   ·rw[show decide (((be (l.take w):Nat):Int)>(most:Int))=false from decide_eq_false (by omega),cond_false,if_neg hm];rfl
theorem uc{α:Type}{p:Prop}[Decidable p](h:p)(a b:α):(bif decide p then a else b)=a:=by rw[decide_eq_true h,cond_true]
theorem nI{α:Type}{p:Prop}[Decidable p](h:¬ p)(a b:α):(bif decide p then a else b)=b:=by rw[decide_eq_false h,cond_false]
theorem Wx(n most:Nat)(hn:10<n)(s:Rd)(hb:aq s.1)(g:(ByteArray×(Int×Unit))→Int→Option A):mE n (dD s) (most:Int) g=g (dD (bD most s).1) ((bD most s).2:Int):=by
 obtain⟨l,e⟩:=s
 unfold mE Lv
 by_cases he:e=0
 ·subst he
  dsimp only[dD]
  rw[show((((0:Nat):Int)) != 0)=false from rfl,cond_false]
  match l,hb with
  | [],hb=>rfl
  | b::l,hb=>
   obtain⟨hb1,hb2⟩:=hb.cons
   refine(uc (by rw[bQ,List.length_cons];omega) _ _).trans ?_
   rw[kb hb,List.getElem?_cons_zero,Option.bind_some]
   by_cases h1:b=253
   ·rw[show(b==253)=true by rw[h1];rfl,cond_true]
    have:=Nf n 2 most b l hn (by rw[h1];rfl) (by rw[h1];decide) hb g
    exact this
   ·rw[show(b==253)=false by simp[h1],cond_false]
    by_cases h2:b=254
    ·rw[show(b==254)=true by rw[h2];rfl,cond_true]
     have:=Nf n 4 most b l hn (by rw[h2];rfl) (by rw[h2];decide) hb g
     exact this
    ·rw[show(b==254)=false by simp[h2],cond_false]
     by_cases h3:b=255
     ·rw[show(b==255)=true by rw[h3];rfl,cond_true]
      have:=Nf n 8 most b l hn (by rw[h3];rfl) (by rw[h3];decide) hb g
      exact this
     ·have hk:eZ b=1:=by unfold eZ;rw[if_neg h1,if_neg h2,if_neg h3]
      have hl:fM b=0:=by unfold fM;rw[if_neg h1,if_neg h2,if_neg h3]
      have hc:eR b l=b.toNat:=by unfold eR;rw[hk];rfl
      obtain⟨y,rfl⟩:∃ y:Nat,b=y:=⟨b.toNat,by omega⟩
      have e1:(am ((y:Int)::l)).extract 0 1=am [(y:Int)]:=by rw[p5];simp
      have e3:(am ((y:Int)::l)).extract 1 (am ((y:Int)::l)).size=am l:=by
       rw[bQ,p5,List.drop_succ_cons,List.drop_zero,List.take_of_length_le (by rw[List.length_cons];omega)]
      have hle:(1:Int)≤(((am ((y:Int)::l)).size:Nat):Int):=by rw[bQ,List.length_cons];omega
      have hyB:aq [(y:Int)]:=fun x hx=>by rw[List.mem_singleton.1 hx];exact hb1
      have henc:cC y=[(y:Int)]:=by
       unfold cC;rw[if_pos (by omega)]
       show[((y/256^0%256:Nat):Int)]=_
       rw[Nat.pow_zero,Nat.div_one];congr 1;omega
      rw[show((y:Int)==255)=false by simp[h3],cond_false]
      refine(nI (by rw[bQ,List.length_cons];omega) _ _).trans ?_
      refine(if_pos hle).trans ?_
      refine(if_pos hle).trans ?_
      have hv:be [(y:Int)]=y:=by simp[be]
      rw[e1,kb hyB,Ny n hn _ hyB (by show 1≤8;decide),hv,Nz n y hn (by omega)]
      refine(if_pos hle).trans ?_
      rw[henc,CN hyB hyB,decide_eq_true rfl,Bool.not_true,cond_false]
      unfold bD
      rw[if_neg (show ¬ ((0:Nat)≠0) by simp)]
      simp only[hk,hl,hc,Int.toNat_natCast]
      rw[if_neg (by omega),if_neg (by omega)]
      by_cases hm:most<y
      ·rw[show decide (((y:Nat):Int)>(most:Int))=true from decide_eq_true (by omega),cond_true,if_pos hm];rfl
      ·rw[show decide (((y:Nat):Int)>(most:Int))=false from decide_eq_false (by omega),cond_false,if_neg hm]
       refine(if_pos hle).trans ?_
       rw[e3];rfl
 ·dsimp only[dD]
  unfold bD
  rw[show(((e:Nat):Int) != 0)=true by simp;omega,cond_true,if_pos he];rfl
theorem yw{ra:List Int}{s:Rd}(h:df ra s)(m:Nat):df ra (bD m s).1:=by
 unfold bD
 split
 ·exact h
 ·obtain⟨l,e⟩:=s
  match l,h with
  | [],h=>exact h
  | b::l,h=>
   simp only
   split
   ·exact h
   ·split
    ·exact h
    ·split
     ·exact h
     ·exact(h.drop 1 (by show 1≤(b::l).length;simp) e).drop (eZ b-1) (by simp;omega) 0
theorem Ef{s:Rd}(h:aq s.1)(m:Nat):aq (bD m s).1.1:=by
 unfold bD
 split
 ·exact h
 ·obtain⟨l,e⟩:=s
  match l,h with
  | [],h=>exact h
  | b::l,h=>
   simp only
   split
   ·exact h
   ·split
    ·exact h
    ·split
     ·exact h
     ·exact h.cons.2.drop _
theorem yx(m:Nat)(s:Rd):(bD m s).2≤m:=by
 unfold bD
 split
 ·exact Nat.zero_le _
 ·obtain⟨l,e⟩:=s
  match l with
  | []=>exact Nat.zero_le _
  | b::l=>
   simp only
   split
   ·exact Nat.zero_le _
   ·split
    ·exact Nat.zero_le _
    ·split
     ·exact Nat.zero_le _
     ·simp only;omega
def eD(m:Nat)(s:Rd):Rd×List Int:=
 if (tk (bD m s).2 (bD m s).1).1.2≠0 then((s.1,(tk (bD m s).2 (bD m s).1).1.2),[]) else tk (bD m s).2 (bD m s).1
theorem Ya{ra:List Int}{s:Rd}(h:df ra s)(m:Nat):df ra (eD m s).1:=by
 unfold eD;split
 ·exact h
 ·exact XJ (yw h m) _
theorem X9{s:Rd}(h:aq s.1)(m:Nat):aq (eD m s).1.1∧aq (eD m s).2:=by
 unfold eD;split
 ·exact⟨h,fun x hx=>nomatch hx⟩
 ·exact wG (Ef h m) _
theorem p7{ra:List Int}{s:Rd}(h:df ra s)(w:Nat):df ra (aS w s).1:=XJ h w
theorem jn{s:Rd}(h:aq s.1)(w:Nat):aq (aS w s).1.1:=(wG h w).1
theorem abw(n m:Nat)(hn:10<n)(hm:m<1000000000)(ra:List Int)(hr:ra.length<1000000000)(s:Rd)(hs:df ra s)(hb:aq s.1)(g:(Int×(Int×Unit))→List Int→List Int→Option A) :
  oN n (m:Int) (cx ra s) ra g=g (cx ra (eD m s).1) ra (eD m s).2:=by
 have hle:=yx m s
 unfold oN HU
 rw[show bi (m:Int) 0=(m:Int) by unfold bi;split<;>omega,dU m (by omega),Qh n m hn ra hr s hs hb,mZ _ (by omega),Qe n _ (by omega) ra hr _ (yw hs m)]
 unfold eD
 by_cases h:(tk (bD m s).2 (bD m s).1).1.2=0
 ·rw[if_neg (by omega)]
  simp only[cx]
  rw[h,show((((0:Nat):Int)) != 0)=false from rfl,cond_false]
 ·rw[if_pos h]
  simp only[cx]
  rw[show((((tk (bD m s).2 (bD m s).1).1.2:Nat):Int) != 0)=true by simp;omega,cond_true]
theorem aml(n m:Nat)(hn:10<n)(hm:m<1000000000)(s:Rd)(hb:aq s.1)(g:(ByteArray×(Int×Unit))→ByteArray→Option A) :
  sP n (dD s) (m:Int) g=g (dD (eD m s).1) (am (eD m s).2):=by
 have hle:=yx m s
 unfold sP Lx
 rw[show decide ((m:Int)<0)=false from decide_eq_false (by omega),cond_false,dU m (by omega),Wx n m hn s hb,mZ _ (by omega),Xf]
 unfold eD
 by_cases h:(tk (bD m s).2 (bD m s).1).1.2=0
 ·rw[if_neg (by omega)]
  simp only[dD]
  rw[h,show((((0:Nat):Int)) != 0)=false from rfl,cond_false]
 ·rw[if_pos h]
  simp only[dD]
  rw[show((((tk (bD m s).2 (bD m s).1).1.2:Nat):Int) != 0)=true by simp;omega,cond_true];rfl
abbrev fx:=List (Nat×List Int)
def fe:Nat→Rd→fx→Rd×fx
 | 0,s,o=>(s,o)
 | c+1,s,o=>fe c (eD 64 (aS 8 s).1).1 (o++[((aS 8 s).2,(eD 64 (aS 8 s).1).2)])
theorem XN{ra:List Int}:∀ (c:Nat) {s:Rd} (o:fx),df ra s→df ra (fe c s o).1
 | 0,_,_,h=>h
 | c+1,s,o,h=>XN c _ (Ya (p7 h 8) 64)
def dM(l:List Int):(Nat×fx)×Nat:=
 if l.length=64 then((0,[]),3) else
 if (aS 1 (l,0)).1.2=0∧(aS 1 (l,0)).2≠1 then((0,[]),3) else
 let s2:=aS 8 (aS 1 (l,0)).1
 let s3:=bD 8 s2.1
 let s4:=fe s3.2 s3.1 []
 if s4.1.2≠0 then((0,[]),s4.1.2) else if 0<s4.1.1.length then((0,[]),3) else((s2.2,s4.2),0)
def jF(o:fx):List (Int×(List Int×Unit)):=o.map fun p=>((p.1:Int),(p.2,()))
def j9(o:fx):List (Int×(ByteArray×Unit)):=o.map fun p=>((p.1:Int),(am p.2,()))
theorem Qg(G1:List Int→((Int×(Int×Unit))→List Int→Option A)→Option A)(G3:(Int×(Int×Unit))→List Int→(Int→Option A)→Option A)(G4:Int→(Int×(Int×Unit))→List Int→(Int→(Int×(Int×Unit))→List Int→Option A)→Option A)(G6:(Int×(Int×Unit))→List Int→(Int→(Int×(Int×Unit))→List Int→Option A)→Option A)(n m c:Nat)(hm:10<m)(hc:c<1000)(ra:List Int)(hr:ra.length<1000000000)(z1 z2 z3 z4 z5)(k0:(Int×(Int×Unit))→List Int→List (Int×(List Int×Unit))→Option A) :
  ∀ (d f i:Nat) (s:Rd) (o:fx),i+d=c→d<f→o.length=i→df ra s→aq s.1→
  jO G1 (gQ m) G3 G4 (oN m) G6 n (c:Int) z1 z2 z3 z4 z5 k0 f (i:Int) (cx ra s) ra (jF o)=k0 (cx ra (fe d s o).1) ra (jF (fe d s o).2)
 | 0,f+1,i,s,o,hi,_,_,_,_=>by
  rw[jO,Bi,show decide ((i:Int)<(c:Int))=false from decide_eq_false (by omega),cond_false];rfl
 | d+1,0,i,_,_,_,h,_,_,_=>by omega
 | d+1,f+1,i,s,o,hi,hf,ho,hs,hb=>by
  have hl:(jF o).length=i:=by rw[jF,List.length_map,ho]
  rw[jO,Bi,show decide ((i:Int)<(c:Int))=true from decide_eq_true (by omega),cond_true,show(8:Int)=((8:Nat):Int) from rfl,ue m 8 hm (by decide) ra hr s hs hb,show(64:Int)=((64:Nat):Int) from rfl,
   abw m 64 hm (by decide) ra hr _ (p7 hs 8) (jn hb 8),hl,if_pos (by omega),show IntKind.wrap .u64 ((i:Int)+1)=((i+1:Nat):Int) by rw[ql];omega]
  have e:jF o++[(((aS 8 s).2:Int),((eD 64 (aS 8 s).1).2,()))]=jF (o++[((aS 8 s).2,(eD 64 (aS 8 s).1).2)]):=by simp[jF]
  rw[e]
  exact Qg G1 G3 G4 G6 n m c hm hc ra hr z1 z2 z3 z4 z5 k0 d f (i+1) _ _ (by omega) (by omega) (by simp[ho]) (Ya (p7 hs 8) 64) (X9 (jn hb 8) 64).1
theorem aaW(n:Nat)(ra:List Int)(hr:ra.length<1000000000)(s:Rd)(hs:df ra s)(g:Int→(Int×(Int×Unit))→List Int→Option A)(W:Option A)(h1:s.2≠0→∀ p q,g (s.2:Int) p q=W)(h2:s.2=0→0<s.1.length→∀ p q,g 3 p q=W)(h3:s.2=0→s.1.length=0→∀ p q,g 0 p q=W):jJ n (cx ra s) ra g=W:=by
 obtain⟨l,e⟩:=s
 have hle:l.length≤ra.length:=hs.1
 unfold jJ FN cx
 simp only
 by_cases he:e=0
 ·subst he
  rw[show((((0:Nat):Int))==0)=true from rfl,cond_true]
  unfold HW HX
  rw[show IntKind.wrap .i64 ((ra.length:Int)-((ra.length-l.length:Nat):Int))=(l.length:Int) from(ap (by omega) (by omega)).trans (by omega)]
  by_cases hl:0<l.length
  ·refine(uc (show(l.length:Int)>0 by omega) _ _).trans ?_;exact h2 rfl hl _ _
  ·refine(nI (show ¬ (l.length:Int)>0 by omega) _ _).trans ?_;exact h3 rfl (by simp only;omega) _ _
 ·rw[show(((e:Nat):Int)==0)=false by simp;omega,cond_false]
  exact h1 he _ _
theorem abx(n:Nat)(hn:100<n)(l:List Int)(hl:l.length<100000)(hb:aq l)(g:(Int×(List (Int×(List Int×Unit))×Unit))→Int→Option A):ve n l g=g (((dM l).1.1:Int),(jF (dM l).1.2,())) ((dM l).2:Int):=by
 have hof:∀ k:(Int×(Int×Unit))→List Int→Option A,l8 n l k=k (cx l (l,0)) l:=fun k=>by
  unfold l8 FK
  rw[rX n l (by omega)]
  have:cx l (l,0)=(0,(0,())):=by unfold cx;simp
  rw[this]
 have hS:df l (l,0):=⟨Nat.le_refl _,by simp⟩
 unfold ve Ji dM
 rw[hof,show(1:Int)=((1:Nat):Int) from rfl,ue n 1 (by omega) (by decide) l (by omega) _ hS hb]
 by_cases h64:l.length=64
 ·rw[h64,if_pos rfl];rfl
 ·rw[show(((l.length:Nat):Int)==64)=false by simp;omega,cond_false,if_neg h64]
  have herr:∀ (s:Rd) (k:Int→Option A),su n (cx l s) l k=k (s.2:Int):=fun s k=>rfl
  rw[herr]
  have hS1:=p7 hS 1
  have hB1:=jn (s:=(l,0)) hb 1
  have rest:(gQ n 8 (cx l (aS 1 (l,0)).1) l fun r7 r8 r9=>
    jf n 8 r8 r9 fun r10 r11 r12=>
    jO (l8 n) (gQ n) (su n) (jf n) (oN n) (jJ n) n r10 0 () [] r7 () (fun y19 y20 y21=>
     jJ n y19 y20 fun r22 r23 r24=>
     bif (r22 != 0) then g (0,([],())) r22 else g (r7,(y21,())) 0) n 0 r11 r12 [])=
    g (((let s2:=aS 8 (aS 1 (l,0)).1
      let s3:=bD 8 s2.1
      let s4:=fe s3.2 s3.1 []
      if s4.1.2≠0 then((0,[]),s4.1.2) else if 0<s4.1.1.length then((0,[]),3) else((s2.2,s4.2),0):(Nat×fx)×Nat).1.1:Int),(jF (let s2:=aS 8 (aS 1 (l,0)).1
      let s3:=bD 8 s2.1
      let s4:=fe s3.2 s3.1 []
      if s4.1.2≠0 then((0,[]),s4.1.2) else if 0<s4.1.1.length then((0,[]),3) else((s2.2,s4.2),0):(Nat×fx)×Nat).1.2,())) ((let s2:=aS 8 (aS 1 (l,0)).1
      let s3:=bD 8 s2.1
      let s4:=fe s3.2 s3.1 []
      if s4.1.2≠0 then((0,[]),s4.1.2) else if 0<s4.1.1.length then((0,[]),3) else((s2.2,s4.2),0):(Nat×fx)×Nat).2:Int):=by
   rw[show(8:Int)=((8:Nat):Int) from rfl,ue n 8 (by omega) (by decide) l (by omega) _ hS1 hB1,Qh n 8 (by omega) l (by omega) _ (p7 hS1 8) (jn hB1 8)]
   have hc:=yx 8 (aS 8 (aS 1 (l,0)).1).1
   refine Eq.trans (Qg (l8 n) (su n) (jf n) (jJ n) n n _ (by omega) (by omega) l (by omega) _ _ _ _ _ _ (bD 8 (aS 8 (aS 1 (l,0)).1).1).2 n 0 _ [] (by omega) (by omega) rfl (yw (p7 hS1 8) 8) (Ef (jn hB1 8) 8)) ?_
   generalize hs4:fe (bD 8 (aS 8 (aS 1 (l,0)).1).1).2 (bD 8 (aS 8 (aS 1 (l,0)).1).1).1 []=s4
   have hSuf:df l s4.1:=by rw[← hs4];exact XN _ _ (yw (p7 hS1 8) 8)
   refine aaW n l (by omega) s4.1 hSuf _ _ (fun h p q=>?_) (fun h h2 p q=>?_) (fun h h2 p q=>?_)
   ·rw[show(((s4.1.2:Nat):Int) != 0)=true by simp;omega,cond_true]
    simp only[hs4,if_pos h];rfl
   ·rw[show(((3:Int)) != 0)=true from rfl,cond_true]
    simp only[hs4,if_neg (show ¬ (s4.1.2≠0) by omega),if_pos h2];rfl
   ·rw[show(((0:Int)) != 0)=false from rfl,cond_false]
    simp only[hs4,if_neg (show ¬ (s4.1.2≠0) by omega),if_neg (show ¬ (0<s4.1.1.length) by omega)];rfl
  by_cases he:(aS 1 (l,0)).1.2=0
  ·rw[he,show((((0:Nat):Int))==0)=true from rfl,cond_true]
   by_cases h1:(aS 1 (l,0)).2=1
   ·rw[show((((aS 1 (l,0)).2:Nat):Int) != ((1:Nat):Int))=false by rw[h1];rfl,cond_false,if_neg (by omega)]
    exact rest
   ·rw[show((((aS 1 (l,0)).2:Nat):Int) != ((1:Nat):Int))=true by simp;omega,cond_true,if_pos ⟨rfl,h1⟩];rfl
  ·rw[show((((aS 1 (l,0)).1.2:Nat):Int)==0)=false by simp;omega,cond_false,if_neg (by omega)]
   exact rest
theorem Xi(G2:(ByteArray×(Int×Unit))→Int→((ByteArray×(Int×Unit))→Int→Option A)→Option A)(n m c:Nat)(hm:10<m)(hc:c<1000)(z1 z2 z3 z4 z5)(k0:(ByteArray×(Int×Unit))→List (Int×(ByteArray×Unit))→Option A) :
  ∀ (d f i:Nat) (s:Rd) (o:fx),i+d=c→d<f→o.length=i→aq s.1→
  jK (pt m) G2 (sP m) n (c:Int) z1 z2 z3 z4 z5 k0 f (i:Int) (dD s) (j9 o)=k0 (dD (fe d s o).1) (j9 (fe d s o).2)
 | 0,f+1,i,s,o,hi,_,_,_=>by
  rw[jK,zD,show decide ((i:Int)<(c:Int))=false from decide_eq_false (by omega),cond_false];rfl
 | d+1,0,i,_,_,_,h,_,_=>by omega
 | d+1,f+1,i,s,o,hi,hf,ho,hb=>by
  have hl:(j9 o).length=i:=by rw[j9,List.length_map,ho]
  rw[jK,zD,show decide ((i:Int)<(c:Int))=true from decide_eq_true (by omega),cond_true,show(8:Int)=((8:Nat):Int) from rfl,No m 8 hm (by decide) s hb,show(64:Int)=((64:Nat):Int) from rfl,
   aml m 64 hm (by decide) _ (jn hb 8),hl,if_pos (by omega),show IntKind.wrap .u64 ((i:Int)+1)=((i+1:Nat):Int) by rw[ql];omega]
  have e:j9 o++[(((aS 8 s).2:Int),(am (eD 64 (aS 8 s).1).2,()))]=j9 (o++[((aS 8 s).2,(eD 64 (aS 8 s).1).2)]):=by simp[j9]
  rw[e]
  exact Xi G2 n m c hm hc z1 z2 z3 z4 z5 k0 d f (i+1) _ _ (by omega) (by omega) (by simp[ho]) (X9 (jn hb 8) 64).1
theorem ami(n:Nat)(hn:100<n)(l:List Int)(hl:l.length<100000)(hb:aq l)(g:(Int×(List (Int×(ByteArray×Unit))×Unit))→Int→Option A):uJ n (am l) g=g (((dM l).1.1:Int),(j9 (dM l).1.2,())) ((dM l).2:Int):=by
 unfold uJ Gf dM
 rw[bQ,show((am l,((0:Int),())):ByteArray×(Int×Unit))=dD (l,0) from rfl]
 by_cases h64:l.length=64
 ·rw[h64,if_pos rfl];rfl
 ·rw[show(((l.length:Nat):Int)==64)=false by simp;omega,cond_false,if_neg h64,show(1:Int)=((1:Nat):Int) from rfl,No n 1 (by omega) (by decide) _ hb]
  have hB1:=jn (s:=(l,0)) hb 1
  have rest:(pt n (dD (aS 1 (l,0)).1) 8 fun r3 r4=>
    mE n r3 8 fun r5 r6=>
    jK (pt n) (mE n) (sP n) n r6 0 () [] r4 () (fun y11 y12=>
     bif (y11.2.1 != 0) then g (0,([],())) y11.2.1
     else bif (decide ((y11.1.size:Int)>0)) then g (0,([],())) 3 else g (r4,(y12,())) 0) n 0 r5 [])=
    g (((let s2:=aS 8 (aS 1 (l,0)).1
      let s3:=bD 8 s2.1
      let s4:=fe s3.2 s3.1 []
      if s4.1.2≠0 then((0,[]),s4.1.2) else if 0<s4.1.1.length then((0,[]),3) else((s2.2,s4.2),0):(Nat×fx)×Nat).1.1:Int),(j9 (let s2:=aS 8 (aS 1 (l,0)).1
      let s3:=bD 8 s2.1
      let s4:=fe s3.2 s3.1 []
      if s4.1.2≠0 then((0,[]),s4.1.2) else if 0<s4.1.1.length then((0,[]),3) else((s2.2,s4.2),0):(Nat×fx)×Nat).1.2,())) ((let s2:=aS 8 (aS 1 (l,0)).1
      let s3:=bD 8 s2.1
      let s4:=fe s3.2 s3.1 []
      if s4.1.2≠0 then((0,[]),s4.1.2) else if 0<s4.1.1.length then((0,[]),3) else((s2.2,s4.2),0):(Nat×fx)×Nat).2:Int):=by
   rw[show(8:Int)=((8:Nat):Int) from rfl,No n 8 (by omega) (by decide) _ hB1,Wx n 8 (by omega) _ (jn hB1 8)]
   have hc:=yx 8 (aS 8 (aS 1 (l,0)).1).1
   refine Eq.trans (Xi (mE n) n n _ (by omega) (by omega) _ _ _ _ _ _ (bD 8 (aS 8 (aS 1 (l,0)).1).1).2 n 0 _ [] (by omega) (by omega) rfl (Ef (jn hB1 8) 8)) ?_
   generalize hs4:fe (bD 8 (aS 8 (aS 1 (l,0)).1).1).2 (bD 8 (aS 8 (aS 1 (l,0)).1).1).1 []=s4
   simp only[dD]
   by_cases h:s4.1.2=0
   ·rw[show(((s4.1.2:Nat):Int) != 0)=false by rw[h];rfl,cond_false]
    by_cases h2:0<s4.1.1.length
    ·refine(uc (by rw[bQ];omega) _ _).trans ?_
     simp only[hs4,if_neg (show ¬ (s4.1.2≠0) by omega),if_pos h2];rfl
    ·refine(nI (by rw[bQ];omega) _ _).trans ?_
     simp only[hs4,if_neg (show ¬ (s4.1.2≠0) by omega),if_neg h2];rfl
   ·rw[show(((s4.1.2:Nat):Int) != 0)=true by simp;omega,cond_true]
    simp only[hs4,if_pos h];rfl
  simp only[dD]
  by_cases he:(aS 1 (l,0)).1.2=0
  ·rw[he,show((((0:Nat):Int))==0)=true from rfl,cond_true]
   by_cases h1:(aS 1 (l,0)).2=1
   ·rw[show((((aS 1 (l,0)).2:Nat):Int) != ((1:Nat):Int))=false by rw[h1];rfl,cond_false,if_neg (by omega)]
    have hr:=rest
    simp only[dD,he] at hr
    exact hr
   ·rw[show((((aS 1 (l,0)).2:Nat):Int) != ((1:Nat):Int))=true by simp;omega,cond_true,if_pos ⟨rfl,h1⟩];rfl
  ·rw[show((((aS 1 (l,0)).1.2:Nat):Int)==0)=false by simp;omega,cond_false,if_neg (by omega)]
   exact rest
theorem W9(G1:(List Int→Option A)→Option A)(G2:List Int→List Int→(List Int→Option A)→Option A)(n:Nat)(text:ByteArray)(t2:List Int)(k0:List Int→Option A):∀ (d f:Nat) (b:List Int),(b.length+d)%64=56→d<64→d<f→b.length+d<1000000000→
  nV G1 G2 n text t2 k0 f b=k0 (b++List.replicate d 0)
 | 0,f+1,b,h,_,_,_=>by
  rw[nV,yQ,show(64:Int)=((64:Nat):Int) from rfl,dy,show(((b.length%64:Nat):Int) != 56)=false by simp;omega,cond_false];simp
 | d+1,0,b,_,_,h,_=>by omega
 | d+1,f+1,b,h,h64,hf,hl=>by
  rw[nV,yQ,show(64:Int)=((64:Nat):Int) from rfl,dy,show(((b.length%64:Nat):Int) != 56)=true by simp;omega,cond_true,if_pos (by omega),W9 G1 G2 n text t2 k0 d f (b++[0]) (by rw[List.length_append];show(b.length+1+d)%64=56;omega) (by omega) (by omega) (by rw[List.length_append];show b.length+1+d<_;omega),
   List.replicate_succ,List.append_assoc,List.singleton_append]
theorem WD(G1:(List Int→Option A)→Option A)(G2:List Int→List Int→(List Int→Option A)→Option A)(n x i:Nat)(hi:i<8)(hx:x<18446744073709551616)(t2 b:List Int)(k0:Int→Option A):∀ (d f j:Nat),j+d=7-i→d<f→
  nW G1 G2 n (x:Int) (i:Int) t2 b k0 f ((x/256^j:Nat):Int) (j:Int)=k0 ((x/256^(7-i):Nat):Int)
 | 0,f+1,j,h,_=>by
  rw[nW,yS,show IntKind.wrap .i64 (7-(i:Int))=((7-i:Nat):Int) from(ap (by omega) (by omega)).trans (by omega),show decide ((j:Int)<((7-i:Nat):Int))=false from decide_eq_false (by omega),cond_false]
  obtain rfl:j=7-i:=by omega
  rfl
 | d+1,0,j,_,h=>by omega
 | d+1,f+1,j,h,hf=>by
  have hle:x/256^j≤x:=Nat.div_le_self _ _
  obtain⟨y,hy⟩:∃ y,y=x/256^j:=⟨_,rfl⟩
  rw[← hy] at hle
  have e1:IntKind.wrap .u64 (Int.tdiv (y:Int) 256)=((x/256^(j+1):Nat):Int):=by
   rw[show(256:Int)=((256:Nat):Int) from rfl,dn,Nat.pow_succ,← Nat.div_div_eq_div_mul,← hy,dU _ (by omega)]
  rw[← hy,nW,yS,show IntKind.wrap .i64 (7-(i:Int))=((7-i:Nat):Int) from(ap (by omega) (by omega)).trans (by omega),show decide ((j:Int)<((7-i:Nat):Int))=true from decide_eq_true (by omega),cond_true,e1,aU j (by omega)]
  exact WD G1 G2 n x i hi hx t2 b k0 d f (j+1) (by omega) (by omega)
def fT(x i:Nat):List Int:=(List.range i).map fun j=>((x/256^(7-j)%256:Nat):Int)
theorem WO(G1:(List Int→Option A)→Option A)(G2:List Int→List Int→(List Int→Option A)→Option A)(n x:Nat)(hn:10<n)(hx:x<18446744073709551616)(t2 b0:List Int)(hb:b0.length<1000000000)(k0:List Int→Option A):∀ (d f i:Nat),i+d=8→d<f→
  l4 G1 G2 n (x:Int) t2 k0 f (i:Int) (b0++fT x i)=k0 (b0++fT x 8)
 | 0,f+1,i,h,_=>by
  rw[l4,yR,show decide ((i:Int)<8)=false from decide_eq_false (by omega),cond_false]
  obtain rfl:i=8:=by omega
  rfl
 | d+1,0,i,_,h=>by omega
 | d+1,f+1,i,h,hf=>by
  have hl:(fT x i).length=i:=by simp[fT]
  have h0:=WD G1 G2 n x i (by omega) hx t2 (b0++fT x i) (fun y2=>if ((b0++fT x i).length+1)*1≤140737488355328 then
    l4 G1 G2 n (x:Int) t2 k0 f (IntKind.wrap .i64 ((i:Int)+1)) ((b0++fT x i)++[(IntKind.wrap .u8 (Int.tmod y2 256))]) else none) (7-i) n 0 (by omega) (by omega)
  rw[Nat.pow_zero,Nat.div_one] at h0
  rw[l4,yR,show decide ((i:Int)<8)=true from decide_eq_true (by omega),cond_true]
  refine Eq.trans h0 ?_
  rw[if_pos (by rw[List.length_append,hl];omega),aU i (by omega),show IntKind.wrap .u8 (Int.tmod ((x/256^(7-i):Nat):Int) 256)=((x/256^(7-i)%256:Nat):Int) by rw[show(256:Int)=((256:Nat):Int) from rfl,dy,wM];omega,
   List.append_assoc,show fT x i++[((x/256^(7-i)%256:Nat):Int)]=fT x (i+1) by simp[fT,List.range_succ]]
  exact WO G1 G2 n x hn hx t2 b0 hb k0 d f (i+1) (by omega) (by omega)
theorem aap(x:Nat):fT x 8=lP x:=by
 show[_,_,_,_,_,_,_,_]=_
 unfold lP
 simp only[Nat.sub_self,Nat.pow_zero,Nat.div_one]
theorem Wr(G1:(List Int→Option A)→Option A)(m n:Nat)(hm:100<m)(t2 b:List Int)(hb:aq b)(k0:List Int→Option A):∀ (d f lo len:Nat) (s:List Int),len=64*d→lo+len=b.length→d<f→cG s→
  l5 G1 (je m) n t2 b k0 f lo len s=k0 (fI d (b.drop lo) s)
 | 0,f+1,lo,len,s,h,_,_,_=>by
  rw[l5,yT,show decide (((len:Nat):Int)>0)=false from decide_eq_false (by omega),cond_false];rfl
 | d+1,0,lo,len,s,_,_,h,_=>by omega
 | d+1,f+1,lo,len,s,h,hl,hf,hs=>by
  rw[l5,yT,show decide (((len:Nat):Int)>0)=true from decide_eq_true (by omega),cond_true,if_pos (by omega),Nat.add_zero,amE m hm s _ hs (by rw[List.length_take,List.length_drop];omega) ((hb.drop _).take _),if_pos (by omega),
   Wr G1 m n hm t2 b hb k0 d f (lo+64) (len-64) _ (by omega) (by omega) (by omega) (PB hs),fI,List.drop_drop]
theorem al8(G1:(List Int→Option A)→Option A)(G2:List Int→List Int→(List Int→Option A)→Option A)(n m:Nat)(v t2:List Int)(hv:cG v)(k0:List Int→Option A) :
  nX G1 G2 n t2 v k0 (m+9) 0 (List.replicate 32 (0:Int))=k0 (fN v):=by
 obtain⟨a,b,c,d,e,f,g,i,rfl,ha,hb,hc,hd,he,hf,hg,hi⟩:=hv.eight
 have w8:∀ x:Int,bj x→IntKind.wrap .u8 (IntKind.wrap .u32 (Int.tdiv x 16777216))=x/16777216∧IntKind.wrap .u8 (Int.tmod (IntKind.wrap .u32 (Int.tdiv x 65536)) 256)=x/65536%256∧IntKind.wrap .u8 (Int.tmod (IntKind.wrap .u32 (Int.tdiv x 256)) 256)=x/256%256∧IntKind.wrap .u8 (Int.tmod x 256)=x%256:=fun x hx=>by
  obtain⟨y,rfl,hy⟩:=hx.nat
  rw[show(16777216:Int)=((16777216:Nat):Int) from rfl,show(65536:Int)=((65536:Nat):Int) from rfl,show(256:Int)=((256:Nat):Int) from rfl,dn,dn,dn,dy,wL _ (by omega),wL _ (by omega),wL _ (by omega),dy,dy]
  simp only[wM]
  omega
 have h0:nX G1 G2 n t2 [a,b,c,d,e,f,g,i] k0 (m+9) 0 (List.replicate 32 (0:Int))=k0 [
   IntKind.wrap .u8 (IntKind.wrap .u32 (Int.tdiv a 16777216)),IntKind.wrap .u8 (Int.tmod (IntKind.wrap .u32 (Int.tdiv a 65536)) 256),IntKind.wrap .u8 (Int.tmod (IntKind.wrap .u32 (Int.tdiv a 256)) 256),IntKind.wrap .u8 (Int.tmod a 256),
   IntKind.wrap .u8 (IntKind.wrap .u32 (Int.tdiv b 16777216)),IntKind.wrap .u8 (Int.tmod (IntKind.wrap .u32 (Int.tdiv b 65536)) 256),IntKind.wrap .u8 (Int.tmod (IntKind.wrap .u32 (Int.tdiv b 256)) 256),IntKind.wrap .u8 (Int.tmod b 256),
   IntKind.wrap .u8 (IntKind.wrap .u32 (Int.tdiv c 16777216)),IntKind.wrap .u8 (Int.tmod (IntKind.wrap .u32 (Int.tdiv c 65536)) 256),IntKind.wrap .u8 (Int.tmod (IntKind.wrap .u32 (Int.tdiv c 256)) 256),IntKind.wrap .u8 (Int.tmod c 256),
   IntKind.wrap .u8 (IntKind.wrap .u32 (Int.tdiv d 16777216)),IntKind.wrap .u8 (Int.tmod (IntKind.wrap .u32 (Int.tdiv d 65536)) 256),IntKind.wrap .u8 (Int.tmod (IntKind.wrap .u32 (Int.tdiv d 256)) 256),IntKind.wrap .u8 (Int.tmod d 256),
   IntKind.wrap .u8 (IntKind.wrap .u32 (Int.tdiv e 16777216)),IntKind.wrap .u8 (Int.tmod (IntKind.wrap .u32 (Int.tdiv e 65536)) 256),IntKind.wrap .u8 (Int.tmod (IntKind.wrap .u32 (Int.tdiv e 256)) 256),IntKind.wrap .u8 (Int.tmod e 256),
   IntKind.wrap .u8 (IntKind.wrap .u32 (Int.tdiv f 16777216)),IntKind.wrap .u8 (Int.tmod (IntKind.wrap .u32 (Int.tdiv f 65536)) 256),IntKind.wrap .u8 (Int.tmod (IntKind.wrap .u32 (Int.tdiv f 256)) 256),IntKind.wrap .u8 (Int.tmod f 256),
   IntKind.wrap .u8 (IntKind.wrap .u32 (Int.tdiv g 16777216)),IntKind.wrap .u8 (Int.tmod (IntKind.wrap .u32 (Int.tdiv g 65536)) 256),IntKind.wrap .u8 (Int.tmod (IntKind.wrap .u32 (Int.tdiv g 256)) 256),IntKind.wrap .u8 (Int.tmod g 256),
   IntKind.wrap .u8 (IntKind.wrap .u32 (Int.tdiv i 16777216)),IntKind.wrap .u8 (Int.tmod (IntKind.wrap .u32 (Int.tdiv i 65536)) 256),IntKind.wrap .u8 (Int.tmod (IntKind.wrap .u32 (Int.tdiv i 256)) 256),IntKind.wrap .u8 (Int.tmod i 256)]:=by kernel_rfl
 rw[h0]
 simp only[w8 a ha,w8 b hb,w8 c hc,w8 d hd,w8 e he,w8 f hf,w8 g hg,w8 i hi]
 rfl
theorem akW(l:List Int):(mS l).length=l.length+1+(119-l.length%64)%64+8:=by
 unfold mS
 rw[List.length_append,List.length_append,Es]
 show _+8=_
 omega
theorem Xe(n:Nat)(hn:200<n)(l:List Int)(hl:l.length+100<64*n)(hl2:l.length<100000000)(hb:aq l)(g:List Int→Option A):yU n (am l) g=g (jr l):=by
 unfold yU EZ
 rw[bQ,kb hb,if_pos (by omega),if_pos (by omega)]
 obtain⟨z,hz⟩:∃ z,z=(119-l.length%64)%64:=⟨_,rfl⟩
 refine Eq.trans (W9 (jd n) (je n) n _ _ _ z n (l++[128]) (by rw[List.length_append];show(l.length+1+z)%64=56;omega) (by omega) (by omega) (by rw[List.length_append];show l.length+1+z<_;omega)) ?_
 have e1:l++[128]++List.replicate z 0=l++fW l.length:=by rw[fW,← hz];simp
 have e2:IntKind.wrap .u64 (IntKind.wrap .u64 (l.length:Int)*8)=((l.length*8:Nat):Int):=by simp only[ql];omega
 rw[e1,e2]
 have hel:=Es l.length
 have h1:=WO (jd n) (je n) n (l.length*8) (by omega) (by omega) (List.replicate 32 (0:Int)) (l++fW l.length) (by rw[List.length_append];omega)
  (fun y3=>jd n fun r4=>l5 (jd n) (je n) n (List.replicate 32 (0:Int)) y3 (fun y6=>nX (jd n) (je n) n (List.replicate 32 (0:Int)) y6 (fun y11=>g y11) n 0 (List.replicate 32 (0:Int))) n 0 y3.length r4) 8 n 0 (by omega) (by omega)
 rw[show fT (l.length*8) 0=[] from rfl,List.append_nil] at h1
 refine Eq.trans h1 ?_
 have hp:l++fW l.length++fT (l.length*8) 8=mS l:=by rw[aap];rfl
 rw[hp,alq]
 have hpl:=akW l
 have hpb:aq (mS l):=(hb.app (Er _)).app (PA _)
 refine Eq.trans (Wr (jd n) n n (by omega) _ (mS l) hpb _ ((mS l).length/64) n 0 _ pQ (by omega) (by omega) (by omega) US) ?_
 rw[List.drop_zero]
 obtain⟨m,rfl⟩:∃ m,n=m+9:=⟨n-9,by omega⟩
 exact al8 (jd (m+9)) (je (m+9)) (m+9) m _ _ (vT (mS l)) _
theorem Nw(n:Nat)(hn:200<n)(l:List Int)(hl:l.length+100<64*n)(hl2:l.length<100000000)(hb:aq l)(g:List Int→Option A):pM n (am l) g=g (bW l):=by
 unfold pM LG
 have h32:=NE l
 rw[Xe n hn l hl hl2 hb,List.drop_zero,List.take_of_length_le (by omega),Xe n hn (jr l) (by omega) (by omega) (ND l)];rfl
theorem Nl(n:Nat)(hn:200<n)(h:bC)(o:dO h)(g:List Int→Option A):mw n h g=g (bW (cQ h)):=by
 have h80:=U6 o
 unfold mw KG
 rw[ald n (by omega) h o,Nw n hn _ (by omega) (by omega) (U5 o)]
def Hs(l:List (List Int)):Prop:=∀ x∈l,x.length=32∧aq x
theorem wA(l:List Int):(bW l).length=32∧aq (bW l):=⟨NE _,ND _⟩
theorem Hs.at{l:List (List Int)}(h:Hs l){i:Nat}(hi:i<l.length):(l.getD i []).length=32∧aq (l.getD i []):=by
 rw[List.getD_eq_getElem?_getD,List.getElem?_eq_getElem hi];exact h _ (List.getElem_mem hi)
def fD(l:List (List Int)):List (List Int):=(List.range ((l.length+1)/2)).map fun i=>bW (l.getD (2*i) []++l.getD (min (2*i+1) (l.length-1)) [])
theorem tY(l:List (List Int)):(fD l).length=(l.length+1)/2:=by simp[fD]
theorem aaf(l:List (List Int)):Hs (fD l):=fun x hx=>by
 obtain⟨i,_,rfl⟩:=List.mem_map.1 hx;exact wA _
theorem Pg(l:List (List Int))(i:Nat)(h:i<(l.length+1)/2):(fD l).getD i []=bW (l.getD (2*i) []++l.getD (min (2*i+1) (l.length-1)) []):=by
 unfold fD
 rw[List.getD_eq_getElem?_getD,List.getElem?_map,List.getElem?_range h];rfl
def aV(l:List (List Int)):Nat→List (List Int)
 | 0=>l
 | k+1=>fD (aV l k)
theorem CI{l:List (List Int)}(h:Hs l):∀ k,Hs (aV l k)
 | 0=>h
 | k+1=>aaf _
theorem Pe(m n:Nat)(hm:200<m)(l:List (List Int))(hl:Hs l)(hlen:l.length<100000)(k0:List (List Int)→Option A):∀ (d f j:Nat),j+d=(l.length+1)/2→d<f→
  ph (od m) n l k0 f ((2*j:Nat):Int) ((fD l).take j)=k0 (fD l)
 | 0,f+1,j,h,_=>by
  rw[ph,Bu,show decide (((2*j:Nat):Int)<(l.length:Int))=false from decide_eq_false (by omega),cond_false,List.take_of_length_le (by rw[tY];omega)]
 | d+1,0,j,_,h=>by omega
 | d+1,f+1,j,h,hf=>by
  have hj:2*j<l.length:=by omega
  have e1:IntKind.wrap .i64 (((2*j:Nat):Int)+1)=((2*j+1:Nat):Int):=(ap (by omega) (by omega)).trans (by omega)
  have e2:IntKind.wrap .i64 ((l.length:Int)-1)=((l.length-1:Nat):Int):=(ap (by omega) (by omega)).trans (by omega)
  have e3:cf ((2*j+1:Nat):Int) ((l.length-1:Nat):Int)=((min (2*j+1) (l.length-1):Nat):Int):=by unfold cf;split<;>omega
  have e4:IntKind.wrap .i64 (((2*j:Nat):Int)+2)=((2*(j+1):Nat):Int):=(ap (by omega) (by omega)).trans (by omega)
  have h1:=hl.at hj
  have hmn:min (2*j+1) (l.length-1)<l.length:=by omega
  have h2:=hl.at hmn
  rw[ph,Bu,show decide (((2*j:Nat):Int)<(l.length:Int))=true from decide_eq_true (by omega),cond_true,if_pos (Int.natCast_nonneg _),Int.toNat_natCast,bZ l _ hj [],Option.bind_some,e1,e2,e3,if_pos (Int.natCast_nonneg _),Int.toNat_natCast,bZ l _ hmn [],Option.bind_some,
   List.drop_zero,List.drop_zero,List.take_of_length_le (by omega),List.take_of_length_le (by omega),
   NR m hm _ (fun x hx=>by simp only[List.mem_cons,List.not_mem_nil,or_false] at hx;rcases hx with rfl|rfl;exact h1.2;exact h2.2) (fun x hx=>by simp only[List.mem_cons,List.not_mem_nil,or_false] at hx;rcases hx with rfl|rfl<;>omega) (by simp only[List.flatten_cons,List.flatten_nil,List.length_append,List.length_nil];omega) (by show 2<m;omega) (by show 2<1000000;decide),
   if_pos (by rw[List.length_take,tY];omega),e4]
  have e5:([l.getD (2*j) [],l.getD (min (2*j+1) (l.length-1)) []]:List (List Int)).flatten=l.getD (2*j) []++l.getD (min (2*j+1) (l.length-1)) []:=by simp
  have e6:(fD l).take j++[bW (l.getD (2*j) []++l.getD (min (2*j+1) (l.length-1)) [])]=(fD l).take (j+1):=by
   rw[List.take_add_one,bZ (fD l) j (by rw[tY];omega) [],Pg l j (by omega)];rfl
  rw[e5,e6]
  exact Pe m n hm l hl hlen k0 d f (j+1) (by omega) (by omega)
theorem Pf(n:Nat)(hn:200<n)(l:List (List Int))(hl:Hs l)(hlen:l.length<n)(hlen2:l.length<100000)(g:List (List Int)→Option A):jP n l g=g (fD l):=by
 unfold jP JW
 have e1:IntKind.wrap .i64 (Int.tdiv (IntKind.wrap .i64 ((l.length:Int)+1)) 2)=(((l.length+1)/2:Nat):Int):=by
  rw[aU _ (by omega),show(2:Int)=((2:Nat):Int) from rfl,dn,mZ _ (by omega)]
 rw[e1,if_pos (Int.natCast_nonneg _),if_pos (by omega)]
 have:=Pe n n hn l hl hlen2 (fun y=>g y) ((l.length+1)/2) n 0 (by omega) (by omega)
 rw[List.take_zero] at this
 exact this
def hU:Nat→Nat→Nat
 | x,0=>x
 | x,k+1=>hU ((x+1)/2) k
theorem X3:∀ (k x:Nat),hU x (k+1)=(hU x k+1)/2
 | 0,_=>rfl
 | k+1,x=>by rw[hU,X3 k,hU]
theorem e9(l:List (List Int)):∀ k,(aV l k).length=hU l.length k
 | 0=>rfl
 | k+1=>by rw[aV,tY,e9 l k,X3]
theorem qk:∀ (k x:Nat),hU x k≤x
 | 0,_=>Nat.le_refl _
 | k+1,x=>by rw[hU];have:=qk k ((x+1)/2);omega
theorem Xq(n k:Nat)(hk:k<1000)(k0:Int→Option A):∀ (d f i x:Nat),i+d=k→d<f→x<1000000→oT n (k:Int) k0 f (x:Int) (i:Int)=k0 ((hU x d:Nat):Int)
 | 0,f+1,i,x,h,_,_=>by
  rw[oT,AQ,show decide ((i:Int)<(k:Int))=false from decide_eq_false (by omega),cond_false];rfl
 | d+1,0,i,_,_,h,_=>by omega
 | d+1,f+1,i,x,h,hf,hx=>by
  have e1:IntKind.wrap .i64 (Int.tdiv (IntKind.wrap .i64 ((x:Int)+1)) 2)=(((x+1)/2:Nat):Int):=by
   rw[aU _ (by omega),show(2:Int)=((2:Nat):Int) from rfl,dn,mZ _ (by omega)]
  rw[oT,AQ,show decide ((i:Int)<(k:Int))=true from decide_eq_true (by omega),cond_true,e1,aU i (by omega)]
  exact Xq n k hk k0 d f (i+1) ((x+1)/2) (by omega) (by omega) (by omega)
theorem NA(n k x:Nat)(hk:k<1000)(hn:k<n)(hx:x<1000000)(g:Int→Option A):fG n (x:Int) (k:Int) g=g ((hU x k:Nat):Int):=by
 unfold fG Iq
 exact Xq n k hk _ k n 0 x (by omega) hn hx
def dK(n:Nat):Nat:=if n≤1 then 0 else if n≤2 then 1 else if n≤4 then 2 else if n≤8 then 3 else 4
theorem alj(m:Nat)(g:Int→Option A):∀ x:Nat,x≤16→oB (m+10) (x:Int) g=g ((dK x:Nat):Int)
 | 0,_=>by kernel_rfl
 | 1,_=>by kernel_rfl
 | 2,_=>by kernel_rfl
 | 3,_=>by kernel_rfl
 | 4,_=>by kernel_rfl
 | 5,_=>by kernel_rfl
 | 6,_=>by kernel_rfl
 | 7,_=>by kernel_rfl
 | 8,_=>by kernel_rfl
 | 9,_=>by kernel_rfl
 | 10,_=>by kernel_rfl
 | 11,_=>by kernel_rfl
 | 12,_=>by kernel_rfl
 | 13,_=>by kernel_rfl
 | 14,_=>by kernel_rfl
 | 15,_=>by kernel_rfl
 | 16,_=>by kernel_rfl
 | x+17,h=>by omega
theorem Ng(n:Nat)(hn:10<n)(x:Nat)(hx:x≤16)(g:Int→Option A):oB n (x:Int) g=g ((dK x:Nat):Int):=by
 obtain⟨m,rfl⟩:∃ m,n=m+10:=⟨n-10,by omega⟩
 exact alj m g x hx
theorem ug:∀ x,x<17→0<x→(hU x (dK x)=1∧∀ k,k<dK x→1<hU x k):=by decide
theorem uh(x:Nat):dK x≤4:=by unfold dK;split<;>(try split)<;>(try split)<;>(try split)<;>omega
theorem Xa(n:Nat)(hn:200<n)(a b:List Int)(ha:a.length=32∧aq a)(hb:b.length=32∧aq b)(g:List Int→Option A):iv n a b g=g (bW (a++b)):=by
 unfold iv It
 rw[List.drop_zero,List.drop_zero,List.take_of_length_le (by omega),List.take_of_length_le (by omega),bQ,bQ,if_pos (by omega),gf,Nw n hn _ (by rw[List.length_append];omega) (by rw[List.length_append];omega) (ha.2.app hb.2)]
theorem wu(l:List (List Int))(hl:Hs l)(hlen:l.length<1000):∀ (k n at_:Nat),300+k<n→k<100→at_<(aV l k).length→∀ g:List Int→Option A,dQ n l (k:Int) (at_:Int) g=g ((aV l k).getD at_ [])
 | 0,n+1,at_,hn,_,ha,g=>by
  unfold dQ zI
  rw[show((((0:Nat):Int))==0)=true from rfl,cond_true,if_pos (Int.natCast_nonneg _),Int.toNat_natCast,bZ l at_ ha [],Option.bind_some];rfl
 | k+1,n+1,at_,hn,hk,ha,g=>by
  have hla:(aV l (k+1)).length=((aV l k).length+1)/2:=tY _
  have hle:(aV l k).length<1000:=by rw[e9];exact Nat.lt_of_le_of_lt (qk k _) hlen
  have e0:IntKind.wrap .i64 (((k+1:Nat):Int)-1)=(k:Int):=(ap (by omega) (by omega)).trans (by omega)
  have e1:IntKind.wrap .i64 (2*(at_:Int))=((2*at_:Nat):Int):=(ap (by omega) (by omega)).trans (by omega)
  have e2:IntKind.wrap .i64 (((2*at_:Nat):Int)+1)=((2*at_+1:Nat):Int):=(ap (by omega) (by omega)).trans (by omega)
  unfold dQ zI
  rw[show((((k+1:Nat):Int))==0)=false by simp;omega,cond_false,e0,e1,e2,wu l hl hlen k n (2*at_) (by omega) (by omega) (by omega),NA n k l.length (by omega) (by omega) (by omega),← e9]
  have h1:=(CI hl k).at (i:=2*at_) (by omega)
  have hab:=Pg (aV l k) at_ (by omega)
  by_cases h:2*at_+1<(aV l k).length
  ·rw[show decide (((2*at_+1:Nat):Int)≥(((aV l k).length:Nat):Int))=false from decide_eq_false (by omega),cond_false,wu l hl hlen k n (2*at_+1) (by omega) (by omega) h,Xa n (by omega) _ _ h1 ((CI hl k).at h)]
   rw[show min (2*at_+1) ((aV l k).length-1)=2*at_+1 by omega] at hab
   rw[aV,hab]
  ·rw[show decide (((2*at_+1:Nat):Int)≥(((aV l k).length:Nat):Int))=true from decide_eq_true (by omega),cond_true,Xa n (by omega) _ _ h1 h1]
   rw[show min (2*at_+1) ((aV l k).length-1)=2*at_ by omega] at hab
   rw[aV,hab]
def j8(l:List (List Int)):List Int:=if l.length=0 then List.replicate 32 0 else(aV l (dK l.length)).getD 0 []
theorem ame(n:Nat)(hn:400<n)(l:List (List Int))(hl:Hs l)(hlen:l.length≤16)(g:List Int→Option A):yN n l g=g (j8 l):=by
 unfold yN EV j8
 by_cases h:l.length=0
 ·rw[h,if_pos rfl];rfl
 ·have hd:=uh l.length
  have hw:0<(aV l (dK l.length)).length:=by rw[e9,(ug l.length (by omega) (by omega)).1];decide
  have hnode:=wu (A:=A) l hl (by omega) (dK l.length) n 0 (by omega) (by omega) hw g
  rw[show(((l.length:Nat):Int)==0)=false by rw[beq_eq_false_iff_ne];omega,cond_false,if_neg h,Ng n (by omega) _ hlen]
  exact hnode
def qb(x:List (List Int))(a:Nat):Bool:=decide (x.getD (2*a) []=x.getD (2*a+1) [])
def wj(x:List (List Int)):Bool:=(List.range' 0 (x.length/2)).any (qb x)
def rY(l:List (List Int))(k d:Nat):Bool:=(List.range' k d).any fun i=>wj (aV l i)
def lY(l:List (List Int)):Bool:=rY l 0 (dK l.length)
theorem Wz(G:Int→(Int→Option A)→Option A)(m n k:Nat)(hm:300+k<m)(hk:k<100)(l:List (List Int))(hl:Hs l)(hlen:l.length<1000)(k0 k1:Option A):∀ (d f a:Nat),a+d=(aV l k).length/2→d<f→
  oy G (fG m) (dQ m) n l (k:Int) k0 k1 f (a:Int)=bif (List.range' a d).any (qb (aV l k)) then k0 else k1
 | 0,f+1,a,h,_=>by
  have hle:(aV l k).length<1000:=by rw[e9];exact Nat.lt_of_le_of_lt (qk k _) hlen
  have e1:IntKind.wrap .i64 (2*(a:Int))=((2*a:Nat):Int):=(ap (by omega) (by omega)).trans (by omega)
  have e2:IntKind.wrap .i64 (((2*a:Nat):Int)+1)=((2*a+1:Nat):Int):=(ap (by omega) (by omega)).trans (by omega)
  rw[oy,zH,NA m k l.length (by omega) (by omega) (by omega),← e9,e1,e2,show decide (((2*a+1:Nat):Int)<(((aV l k).length:Nat):Int))=false from decide_eq_false (by omega),cond_false];rfl
 | d+1,0,a,_,h=>by omega
 | d+1,f+1,a,h,hf=>by
  have hle:(aV l k).length<1000:=by rw[e9];exact Nat.lt_of_le_of_lt (qk k _) hlen
  have e1:IntKind.wrap .i64 (2*(a:Int))=((2*a:Nat):Int):=(ap (by omega) (by omega)).trans (by omega)
  have e2:IntKind.wrap .i64 (((2*a:Nat):Int)+1)=((2*a+1:Nat):Int):=(ap (by omega) (by omega)).trans (by omega)
  rw[oy,zH,NA m k l.length (by omega) (by omega) (by omega),← e9,e1,e2,show decide (((2*a+1:Nat):Int)<(((aV l k).length:Nat):Int))=true from decide_eq_true (by omega),cond_true,
   wu l hl hlen k m (2*a) hm hk (by omega),wu l hl hlen k m (2*a+1) hm hk (by omega),aU a (by omega),List.range'_succ,List.any_cons]
  by_cases hp:(aV l k).getD (2*a) []=(aV l k).getD (2*a+1) []
  ·rw[(gN aa _ _).2 hp,cond_true,show qb (aV l k) a=true from decide_eq_true hp,Bool.true_or,cond_true]
  ·rw[show cY aa ((aV l k).getD (2*a) []) ((aV l k).getD (2*a+1) [])=false by rw[Bool.eq_false_iff];exact fun hh=>hp ((gN aa _ _).1 hh),cond_false,show qb (aV l k) a=false from decide_eq_false hp,Bool.false_or]
   exact Wz G m n k hm hk l hl hlen k0 k1 d f (a+1) (by omega) (by omega)
theorem Wy(m n:Nat)(hm:400<m)(hn:1000<n)(l:List (List Int))(hl:Hs l)(hlen:l.length≤16)(k0 k1:Option A):∀ (d f k:Nat),k+d=dK l.length→d<f→
  ox (oB m) (fG m) (dQ m) n l k0 k1 f (k:Int)=bif rY l k d then k0 else k1
 | 0,f+1,k,h,_=>by
  rw[ox,zG,Ng m (by omega) _ hlen,show decide ((k:Int)<((dK l.length:Nat):Int))=false from decide_eq_false (by omega),cond_false];rfl
 | d+1,0,k,_,h=>by omega
 | d+1,f+1,k,h,hf=>by
  have hd:=uh l.length
  have hle:(aV l k).length<1000:=by rw[e9];exact Nat.lt_of_le_of_lt (qk k _) (by omega)
  rw[ox,zG,Ng m (by omega) _ hlen,show decide ((k:Int)<((dK l.length:Nat):Int))=true from decide_eq_true (by omega),cond_true,aU k (by omega)]
  refine Eq.trans (Wz (oB m) m n k (by omega) (by omega) l hl (by omega) _ _ ((aV l k).length/2) n 0 (by omega) (by omega)) ?_
  rw[Wy m n hm hn l hl hlen k0 k1 d f (k+1) (by omega) (by omega)]
  unfold rY
  rw[List.range'_succ,List.any_cons]
  show(bif wj (aV l k) then _ else _)=_
  cases wj (aV l k)<;>rfl
theorem alh(n:Nat)(hn:1000<n)(l:List (List Int))(hl:Hs l)(hlen:l.length≤16)(g:Bool→Option A):uK n l g=g (lY l):=by
 unfold uK Gj
 refine Eq.trans (Wy n n (by omega) hn l hl hlen _ _ (dK l.length) n 0 (by omega) (by have:=uh l.length;omega)) ?_
 unfold lY
 cases rY l 0 (dK l.length)<;>rfl
theorem D6(n:Nat)(x:List (List Int))(hlen:x.length<100000)(k0 k1:Option A):∀ (d f a:Nat),a+d=x.length/2→d<f→
  gS n x k0 k1 f ((2*a+1:Nat):Int)=bif (List.range' a d).any (qb x) then k0 else k1
 | 0,f+1,a,h,_=>by
  rw[gS,vg,show decide (((2*a+1:Nat):Int)<(x.length:Int))=false from decide_eq_false (by omega),cond_false];rfl
 | d+1,0,a,_,h=>by omega
 | d+1,f+1,a,h,hf=>by
  have e1:IntKind.wrap .i64 (((2*a+1:Nat):Int)-1)=((2*a:Nat):Int):=(ap (by omega) (by omega)).trans (by omega)
  have e2:IntKind.wrap .i64 (((2*a+1:Nat):Int)+2)=((2*(a+1)+1:Nat):Int):=(ap (by omega) (by omega)).trans (by omega)
  rw[gS,vg,show decide (((2*a+1:Nat):Int)<(x.length:Int))=true from decide_eq_true (by omega),cond_true,if_pos (Int.natCast_nonneg _),Int.toNat_natCast,bZ x (2*a+1) (by omega) [],Option.bind_some,e1,if_pos (Int.natCast_nonneg _),Int.toNat_natCast,bZ x (2*a) (by omega) [],Option.bind_some,e2,List.range'_succ,List.any_cons]
  by_cases hp:x.getD (2*a) []=x.getD (2*a+1) []
  ·rw[(gN aa _ _).2 hp.symm,cond_true,show qb x a=true from decide_eq_true hp,Bool.true_or,cond_true]
  ·rw[show cY aa (x.getD (2*a+1) []) (x.getD (2*a) [])=false by rw[Bool.eq_false_iff];exact fun hh=>hp ((gN aa _ _).1 hh).symm,cond_false,show qb x a=false from decide_eq_false hp,Bool.false_or]
   exact D6 n x hlen k0 k1 d f (a+1) (by omega) (by omega)
theorem PO(m n:Nat)(hm:1000<m)(hn:1000<n)(l:List (List Int))(hl:Hs l)(hlen:l.length≤16)(h0:0<l.length)(g:Bool→Option A):∀ (d f k:Nat),k+d=dK l.length→d<f→
  mt (jP m) n g f (aV l k)=g (rY l k d)
 | 0,f+1,k,h,_=>by
  have hD:=(ug l.length (by omega) h0).1
  rw[Nat.add_zero] at h
  have hl1:(aV l k).length=1:=by rw[e9,h,hD]
  rw[mt]
  refine Eq.trans (D6 n (aV l k) (by omega) _ _ 0 n 0 (by omega) (by omega)) ?_
  rw[List.range'_zero,List.any_nil,cond_false,show decide ((((aV l k).length:Nat):Int)>1)=false from decide_eq_false (by omega),cond_false];rfl
 | d+1,0,k,_,h=>by omega
 | d+1,f+1,k,h,hf=>by
  have hD:=(ug l.length (by omega) h0).2 k (by omega)
  have hle:(aV l k).length≤16:=by rw[e9];exact Nat.le_trans (qk k _) hlen
  rw[← e9] at hD
  rw[mt]
  refine Eq.trans (D6 n (aV l k) (by omega) _ _ ((aV l k).length/2) n 0 (by omega) (by omega)) ?_
  rw[show decide ((((aV l k).length:Nat):Int)>1)=true from decide_eq_true (by omega),cond_true,Pf m (by omega) _ (CI hl k) (by omega) (by omega),show fD (aV l k)=aV l (k+1) from rfl,PO m n hm hn l hl hlen h0 g d f (k+1) (by omega) (by omega)]
  unfold rY
  rw[List.range'_succ,List.any_cons]
  show(bif wj (aV l k) then _ else _)=_
  cases wj (aV l k)<;>rfl
theorem aaT(n:Nat)(hn:1000<n)(l:List (List Int))(hl:Hs l)(hlen:l.length≤16)(h0:0<l.length)(g:Bool→Option A):vi n l g=g (lY l):=by
 unfold vi lY
 have hd:=uh l.length
 exact PO n n hn hn l hl hlen h0 g (dK l.length) n 0 (by omega) (by omega)
theorem P7(m n:Nat)(hm:1000<m)(l:List (List Int))(hl:Hs l)(hlen:l.length≤16)(h0:0<l.length)(g:List Int→Option A)(root:List Int):∀ (d f k:Nat),k+d=dK l.length→d<f→
  jh (jP m) n g f (aV l k) root=g ((aV l (dK l.length)).getD 0 [])
 | 0,f+1,k,h,_=>by
  have hD:=(ug l.length (by omega) h0).1
  rw[Nat.add_zero] at h
  have hl1:(aV l k).length=1:=by rw[e9,h,hD]
  rw[jh]
  show(bif ((((aV l k).length:Nat):Int)==1) then _ else _)=_
  rw[hl1,show((((1:Nat):Int))==1)=true from rfl,cond_true,bZ _ 0 (by omega) [],Option.bind_some,show decide ((((1:Nat):Int))>1)=false from rfl,cond_false,h]
 | d+1,0,k,_,h=>by omega
 | d+1,f+1,k,h,hf=>by
  have hD:=(ug l.length (by omega) h0).2 k (by omega)
  have hle:(aV l k).length≤16:=by rw[e9];exact Nat.le_trans (qk k _) hlen
  rw[← e9] at hD
  rw[jh]
  show(bif ((((aV l k).length:Nat):Int)==1) then _ else _)=_
  rw[show((((aV l k).length:Nat):Int)==1)=false by rw[beq_eq_false_iff_ne];omega,cond_false,show decide ((((aV l k).length:Nat):Int)>1)=true from decide_eq_true (by omega),cond_true,Pf m (by omega) _ (CI hl k) (by omega) (by omega),show fD (aV l k)=aV l (k+1) from rfl]
  exact P7 m n hm l hl hlen h0 g root d f (k+1) (by omega) (by omega)
theorem abt(n:Nat)(hn:1000<n)(l:List (List Int))(hl:Hs l)(hlen:l.length≤16)(h0:0<l.length)(g:List Int→Option A):vk n l g=g (j8 l):=by
 unfold vk j8
 have hd:=uh l.length
 rw[if_neg (by omega)]
 exact P7 n n hn l hl hlen h0 g _ (dK l.length) n 0 (by omega) (by omega)
def ik(l:List (List Int)):Prop:=∀ x∈l,aq x∧x.length<1000
def ids(l:List (List Int)):List (List Int):=l.map bW
theorem Cu(l:List (List Int)):Hs (ids l):=fun x hx=>by
 obtain⟨y,_,rfl⟩:=List.mem_map.1 hx;exact wA y
theorem mJ(l:List (List Int)):(ids l).length=l.length:=by simp[ids]
theorem CK{α β:Type}(f:α→β)(l:List α)(i:Nat)(h:i<l.length):(l.map f)[i]?=some (f l[i]):=by
 rw[List.getElem?_map,List.getElem?_eq_getElem h];rfl
theorem qi{α β:Type}(f:α→β)(l:List α)(i:Nat)(h:i<l.length):(l.take i).map f++[f l[i]]=(l.take (i+1)).map f:=by
 rw[← List.take_append_getElem h,List.map_append];rfl
theorem WL(m n:Nat)(hm:200<m)(l:List (List Int))(hl:ik l)(hlen:l.length<100000)(k0:List (List Int)→Option A):∀ (d f i:Nat),i+d=l.length→d<f→
  nU (pM m) n (l.map am) (l.length:Int) k0 f (i:Int) (ids (l.take i))=k0 (ids l)
 | 0,f+1,i,h,_=>by
  rw[nU,yO,show decide ((i:Int)<(l.length:Int))=false from decide_eq_false (by omega),cond_false,List.take_of_length_le (by omega)]
 | d+1,0,i,_,h=>by omega
 | d+1,f+1,i,h,hf=>by
  have hlt:i<l.length:=by omega
  have hx:=hl _ (List.getElem_mem hlt)
  rw[nU,yO,show decide ((i:Int)<(l.length:Int))=true from decide_eq_true (by omega),cond_true,if_pos (Int.natCast_nonneg _),Int.toNat_natCast,CK _ _ _ hlt,Option.bind_some,Nw m hm _ (by omega) (by omega) hx.1,
   mJ,if_pos (by rw[List.length_take];omega),aU i (by omega),show ids (l.take i)++[bW l[i]]=ids (l.take (i+1)) from qi bW l i hlt]
  exact WL m n hm l hl hlen k0 d f (i+1) (by omega) (by omega)
theorem WM(n:Nat)(hn:200<n)(l:List (List Int))(hl:ik l)(hlen:l.length<n)(hlen2:l.length<100000)(g:List (List Int)→Option A):sg n (l.map am) g=g (ids l):=by
 unfold sg EW
 rw[List.length_map]
 exact WL n n hn l hl hlen2 (fun y=>g y) l.length n 0 (by omega) hlen
theorem aaZ(n:Nat)(hn:1000<n)(x:List Int)(hx:aq x∧x.length<1000)(g:List Int→Option A):vo n x g=g (bW x):=by
 unfold vo JE
 rw[NR n (by omega) [x] (fun y hy=>by rw[List.mem_singleton.1 hy];exact hx.1) (fun y hy=>by rw[List.mem_singleton.1 hy];omega) (by simp;omega) (by show 1<n;omega) (by show 1<1000000;decide)]
 simp
theorem PR(m n:Nat)(hm:1000<m)(l:List (List Int))(hl:ik l)(hlen:l.length<100000)(k0:List (List Int)→Option A):∀ (d f i:Nat),i+d=l.length→d<f→
  o9 (vo m) n l (l.length:Int) k0 f (i:Int) (ids (l.take i))=k0 (ids l)
 | 0,f+1,i,h,_=>by
  rw[o9,Bj,show decide ((i:Int)<(l.length:Int))=false from decide_eq_false (by omega),cond_false,List.take_of_length_le (by omega)]
 | d+1,0,i,_,h=>by omega
 | d+1,f+1,i,h,hf=>by
  have hlt:i<l.length:=by omega
  have hx:=hl _ (List.getElem_mem hlt)
  rw[o9,Bj,show decide ((i:Int)<(l.length:Int))=true from decide_eq_true (by omega),cond_true,if_pos (Int.natCast_nonneg _),Int.toNat_natCast,List.getElem?_eq_getElem hlt,Option.bind_some,aaZ m hm _ hx,
   mJ,if_pos (by rw[List.length_take];omega),aU i (by omega),show ids (l.take i)++[bW l[i]]=ids (l.take (i+1)) from qi bW l i hlt]
  exact PR m n hm l hl hlen k0 d f (i+1) (by omega) (by omega)
abbrev bo:=bC×(List (List Int)×Unit)
theorem aa0(n:Nat)(hn:1000<n)(h:bC)(l:List (List Int))(u:Unit)(hl:ik l)(hlen:l.length<n)(hlen2:l.length<100000)(g:List (List Int)→Option A):vf n (h,(l,u)) g=g (ids l):=by
 unfold vf Jl
 rw[if_pos (Int.natCast_nonneg _),if_pos (by show(l.length:Int)*32≤_;omega)]
 exact PR n n hn l hl hlen2 (fun y=>g y) l.length n 0 (by omega) hlen
def eS:List (List Int)→Nat
 | []=>0
 | t::r=>if (dM t).2≠0 then(dM t).2 else eS r
def fc(l:List (List Int)):Nat:=if l.length=0∨16<l.length then 5 else if eS l≠0 then eS l else if lY (ids l) then 7 else 0
def ej(h:bC)(l:List (List Int)):Nat:=if fc l≠0 then fc l else if j8 (ids l)=h.2.2.1 then 0 else 15
theorem Xd(G2:List ByteArray→(List (List Int)→Option A)→Option A)(G3:List (List Int)→(Bool→Option A)→Option A)(m n:Nat)(hm:100<m)(l:List (List Int))(z:List ByteArray)(hl:ik l)(hlen:l.length<100000)(k0:Int→Option A)(k1:Option A):∀ (d f i:Nat),i+d=l.length→d<f→
  nT (uJ m) G2 G3 n z (l.map am) (l.length:Int) k0 k1 f (i:Int)=if eS (l.drop i)≠0 then k0 ((eS (l.drop i):Nat):Int) else k1
 | 0,f+1,i,h,_=>by
  rw[nT,yL,show decide ((i:Int)<(l.length:Int))=false from decide_eq_false (by omega),cond_false,List.drop_of_length_le (by omega)];rfl
 | d+1,0,i,_,h=>by omega
 | d+1,f+1,i,h,hf=>by
  have hlt:i<l.length:=by omega
  have hx:=hl _ (List.getElem_mem hlt)
  rw[nT,yL,show decide ((i:Int)<(l.length:Int))=true from decide_eq_true (by omega),cond_true,if_pos (Int.natCast_nonneg _),Int.toNat_natCast,CK _ _ _ hlt,Option.bind_some,ami m hm _ (by omega) hx.1,List.drop_eq_getElem_cons hlt,eS]
  by_cases he:(dM l[i]).2=0
  ·rw[show(((dM l[i]).2:Int) != 0)=false by rw[he];rfl,cond_false,if_neg (show ¬ ((dM l[i]).2≠0) by omega),aU i (by omega)]
   exact Xd G2 G3 m n hm l z hl hlen k0 k1 d f (i+1) (by omega) (by omega)
  ·rw[show(((dM l[i]).2:Int) != 0)=true by simp;omega,cond_true,if_pos (show(dM l[i]).2≠0 from he),if_pos he]
theorem amh(n:Nat)(hn:1000<n)(l:List (List Int))(hl:ik l)(hlen:l.length<n)(hlen2:l.length<100000)(g:Int→Option A):yM n (l.map am) g=g ((fc l:Nat):Int):=by
 unfold yM ES fc
 rw[List.length_map]
 by_cases h0:l.length=0
 ·rw[h0,if_pos (Or.inl rfl)];rfl
 ·rw[show(((l.length:Nat):Int)==0)=false by rw[beq_eq_false_iff_ne];omega,cond_false]
  by_cases h1:16<l.length
  ·rw[show decide (((l.length:Nat):Int)>16)=true from decide_eq_true (by omega),cond_true,if_pos (Or.inr h1)];rfl
  ·rw[show decide (((l.length:Nat):Int)>16)=false from decide_eq_false (by omega),cond_false,if_neg (by omega)]
   refine Eq.trans (Xd (sg n) (uK n) n n (by omega) l (l.map am) hl hlen2 _ _ l.length n 0 (by omega) hlen) ?_
   rw[List.drop_zero]
   by_cases he:eS l≠0
   ·rw[if_pos he,if_pos he]
   ·rw[if_neg he,if_neg he,WM n (by omega) l hl hlen hlen2,alh n hn _ (Cu l) (by rw[mJ];omega)]
    cases lY (ids l)<;>rfl
theorem alf(n:Nat)(hn:1000<n)(h:bC)(l:List (List Int))(u:Unit)(hl:ik l)(hlen:l.length<n)(hlen2:l.length<100000)(g:Int→Option A):vG n (h,(l.map am,u)) g=g ((ej h l:Nat):Int):=by
 unfold vG LE ej
 simp only
 rw[amh n hn l hl hlen hlen2]
 by_cases hs:fc l≠0
 ·rw[show(((fc l:Nat):Int) != 0)=true by simp;omega,cond_true,if_pos hs]
 ·have hle:¬ (l.length=0∨16<l.length):=fun hh=>by unfold fc at hs;rw[if_pos hh] at hs;omega
  rw[show(((fc l:Nat):Int) != 0)=false by rw[show fc l=0 by omega];rfl,cond_false,if_neg hs,WM n (by omega) l hl hlen hlen2,ame n (by omega) _ (Cu l) (by rw[mJ];omega)]
  by_cases hr:j8 (ids l)=h.2.2.1
  ·rw[(gN aa _ _).2 hr,Bool.not_true,cond_false,if_pos hr];rfl
  ·rw[show cY aa (j8 (ids l)) h.2.2.1=false by rw[Bool.eq_false_iff];exact fun hh=>hr ((gN aa _ _).1 hh),Bool.not_false,cond_true,if_neg hr];rfl
theorem Qc(G2:bo→(List (List Int)→Option A)→Option A)(G3:List (List Int)→(Bool→Option A)→Option A)(G4:List (List Int)→(List Int→Option A)→Option A)(m n:Nat)(hm:100<m)(l:List (List Int))(z:bo)(z2:List Int)(hl:ik l)(hlen:l.length<100000)(k0:Int→Option A)(k1:Option A):∀ (d f i:Nat),i+d=l.length→d<f→
  oH (ve m) G2 G3 G4 n l (l.length:Int) z z2 k0 k1 f (i:Int)=if eS (l.drop i)≠0 then k0 ((eS (l.drop i):Nat):Int) else k1
 | 0,f+1,i,h,_=>by
  rw[oH,Ak,show decide ((i:Int)<(l.length:Int))=false from decide_eq_false (by omega),cond_false,List.drop_of_length_le (by omega)];rfl
 | d+1,0,i,_,h=>by omega
 | d+1,f+1,i,h,hf=>by
  have hlt:i<l.length:=by omega
  have hx:=hl _ (List.getElem_mem hlt)
  rw[oH,Ak,show decide ((i:Int)<(l.length:Int))=true from decide_eq_true (by omega),cond_true,if_pos (Int.natCast_nonneg _),Int.toNat_natCast,List.getElem?_eq_getElem hlt,Option.bind_some,abx m hm _ (by omega) hx.1,List.drop_eq_getElem_cons hlt,eS]
  by_cases he:(dM l[i]).2=0
  ·rw[show(((dM l[i]).2:Int) != 0)=false by rw[he];rfl,cond_false,if_neg (show ¬ ((dM l[i]).2≠0) by omega),aU i (by omega)]
   exact Qc G2 G3 G4 m n hm l z z2 hl hlen k0 k1 d f (i+1) (by omega) (by omega)
  ·rw[show(((dM l[i]).2:Int) != 0)=true by simp;omega,cond_true,if_pos (show(dM l[i]).2≠0 from he),if_pos he]
theorem aaS(n:Nat)(hn:1000<n)(h:bC)(l:List (List Int))(u:Unit)(hl:ik l)(hlen:l.length<n)(hlen2:l.length<100000)(g:Int→Option A):n9 n (h,(l,u)) g=g ((ej h l:Nat):Int):=by
 unfold n9 Fr Hu Hv
 simp only
 have five:fc l=5→ej h l=5:=fun hh=>by unfold ej;rw[hh,if_pos (by decide)]
 by_cases h0:l.length=0
 ·rw[show decide (((l.length:Nat):Int)<1)=true from decide_eq_true (by omega),cond_true,five (by unfold fc;rw[if_pos (Or.inl h0)])];rfl
 ·rw[show decide (((l.length:Nat):Int)<1)=false from decide_eq_false (by omega),cond_false]
  by_cases h1:16<l.length
  ·rw[show decide (((l.length:Nat):Int)>16)=true from decide_eq_true (by omega),cond_true,five (by unfold fc;rw[if_pos (Or.inr h1)])];rfl
  ·rw[show decide (((l.length:Nat):Int)>16)=false from decide_eq_false (by omega),cond_false]
   refine Eq.trans (Qc (vf n) (vi n) (vk n) n n (by omega) l _ _ hl hlen2 _ _ l.length n 0 (by omega) hlen) ?_
   rw[List.drop_zero]
   have hS:fc l=if eS l≠0 then eS l else if lY (ids l) then 7 else 0:=by unfold fc;rw[if_neg (by omega)]
   by_cases he:eS l≠0
   ·rw[if_pos he] at hS
    have hc:ej h l=eS l:=by unfold ej;rw[hS,if_pos he]
    rw[if_pos he,show(((eS l:Nat):Int)==0)=false by rw[beq_eq_false_iff_ne];omega,cond_false,hc]
   ·rw[if_neg he] at hS
    rw[if_neg he,aa0 n hn h l u hl hlen hlen2,aaT n hn _ (Cu l) (by rw[mJ];omega) (by rw[mJ];omega)]
    cases hd:lY (ids l) with
    | true=>
     rw[hd,if_pos rfl] at hS
     have hc:ej h l=7:=by unfold ej;rw[hS,if_pos (by decide)]
     rw[cond_true,hc];rfl
    | false=>
     rw[hd] at hS
     have hS0:fc l=0:=hS
     rw[cond_false,abt n hn _ (Cu l) (by rw[mJ];omega) (by rw[mJ];omega),show(((0:Int))==0)=true from rfl,cond_true]
     unfold ej
     rw[hS0,if_neg (by decide)]
     by_cases hr:j8 (ids l)=h.2.2.1
     ·rw[(gN aa _ _).2 hr,Bool.not_true,cond_false,if_pos hr];rfl
     ·rw[show cY aa (j8 (ids l)) h.2.2.1=false by rw[Bool.eq_false_iff];exact fun hh=>hr ((gN aa _ _).1 hh),Bool.not_false,cond_true,if_neg hr];rfl
end Go.Ev
