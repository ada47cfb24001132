import Derived.Test.YtbgcimciannhmaaGreatDoorB6
import Derived.Test.YtbgcimciannhmaaGreatDoorB9
import Derived.Test.YtbgcimciannhmaaGreatDoorB10
/- A part of the proof of TopQuiet; no condition. -/
set_option linter.all false
set_option maxRecDepth 100000
namespace Go.Ev
variable{A:Type}
def wd(x i:Nat):Nat:=x/2^(64*i)%18446744073709551616
theorem wI(x i:Nat):wd x i<18446744073709551616:=Nat.mod_lt _ (by decide)
theorem XV(x:Nat):uw x=[wd x 0,wd x 1,wd x 2,wd x 3]:=by
 unfold uw wd
 simp only[Nat.mul_zero,Nat.pow_zero,Nat.div_one,show 2^(64*1)=18446744073709551616 from by decide,show 2^(64*2)=340282366920938463463374607431768211456 from by decide,show 2^(64*3)=6277101735386680763835789423207666416102355444464034512896 from by decide]
theorem ana(x:Nat):(uw x).length=4:=rfl
theorem XT(x i:Nat)(h:i<4):(uw x)[i]?=some (wd x i):=by
 rw[XV]
 rcases i with _|_|_|_|i
 ·rfl
 ·rfl
 ·rfl
 ·rfl
 ·omega
theorem jW(x i:Nat)(h:i<4):(al (uw x))[i]?=some ((wd x i:Nat):Int):=by rw[Cw,XT x i h];rfl
theorem XU(x:Nat)(l:List Nat)(hl:l.length=4)(h:∀ i,i<4→l[i]?=some (wd x i)):l=uw x:=by
 apply List.ext_getElem?
 intro i
 by_cases hi:i<4
 ·rw[h i hi,XT x i hi]
 ·rw[List.getElem?_eq_none (by omega),List.getElem?_eq_none (by rw[ana];omega)]
theorem tA(x n i:Nat):(x/2^n).testBit i=x.testBit (n+i):=by rw[Nat.testBit_div_two_pow,Nat.add_comm]
theorem mY(x i t:Nat):(wd x i).testBit t=(decide (t<64)&&x.testBit (64*i+t)):=by
 unfold wd
 rw[show(18446744073709551616:Nat)=2^64 from by decide,Nat.testBit_mod_two_pow,tA]
theorem anc(x i n s:Nat)(hs:s<64)(hi:i<4)(hn:n≤i) :
  wd (x*2^(64*n+s)%2^256) i=(wd x (i-n)*2^s%18446744073709551616) ||| (if n<i then wd x (i-n-1)/2^(64-s) else 0):=by
 apply Nat.eq_of_testBit_eq
 intro t
 rw[mY,Nat.testBit_mod_two_pow,Nat.testBit_mul_two_pow,Nat.testBit_or,show(18446744073709551616:Nat)=2^64 from by decide,Nat.testBit_mod_two_pow,Nat.testBit_mul_two_pow,mY]
 have e:(if n<i then wd x (i-n-1)/2^(64-s) else 0).testBit t=(decide (n<i)&&(decide (64-s+t<64)&&x.testBit (64*(i-n-1)+(64-s+t)))):=by
  by_cases h:n<i
  ·rw[if_pos h,tA,mY];simp[h]
  ·rw[if_neg h];simp[h]
 rw[e]
 by_cases ht:t<64
 ·by_cases hts:s≤t
  ·have h1:64*i+t-(64*n+s)=64*(i-n)+(t-s):=by omega
   have h2:¬ (64-s+t<64):=by omega
   have h3:64*n+s≤64*i+t:=by omega
   have h4:64*i+t<256:=by omega
   have h5:t-s<64:=by omega
   simp[ht,hts,h1,h2,h3,h4,h5]
  ·by_cases hni:n<i
   ·have h1:64*i+t-(64*n+s)=64*(i-n-1)+(64-s+t):=by omega
    have h2:64-s+t<64:=by omega
    have h3:64*n+s≤64*i+t:=by omega
    have h4:64*i+t<256:=by omega
    simp[ht,hts,h1,h2,h3,h4,hni]
   ·have h3:¬ (64*n+s≤64*i+t):=by omega
    simp[ht,hts,h3,hni]
 ·have h2:¬ (64-s+t<64):=by omega
  simp[ht,h2]
theorem ane(x i n s:Nat)(hn:i<n):wd (x*2^(64*n+s)%2^256) i=0:=by
 apply Nat.eq_of_testBit_eq
 intro t
 rw[mY,Nat.testBit_mod_two_pow,Nat.testBit_mul_two_pow,Nat.zero_testBit]
 by_cases ht:t<64
 ·have h3:¬ (64*n+s≤64*i+t):=by omega
  simp[ht,h3]
 ·simp[ht]
theorem anf(x i n s:Nat)(hx:x<2^256)(hs:s<64) :
  wd (x/2^(64*n+s)) i=(wd x (i+n)/2^s) ||| (if i+n+1<4 then wd x (i+n+1)*2^(64-s)%18446744073709551616 else 0):=by
 apply Nat.eq_of_testBit_eq
 intro t
 have hbig:∀ j,256≤j→x.testBit j=false:=fun j hj=>Nat.testBit_lt_two_pow (Nat.lt_of_lt_of_le hx (Nat.pow_le_pow_right (by decide) hj))
 rw[mY,tA,Nat.testBit_or,tA,mY]
 have e:(if i+n+1<4 then wd x (i+n+1)*2^(64-s)%18446744073709551616 else 0).testBit t=(decide (i+n+1<4)&&(decide (t<64)&&(decide (64-s≤t)&&(decide (t-(64-s)<64)&&x.testBit (64*(i+n+1)+(t-(64-s))))))):=by
  by_cases h:i+n+1<4
  ·rw[if_pos h,show(18446744073709551616:Nat)=2^64 from by decide,Nat.testBit_mod_two_pow,Nat.testBit_mul_two_pow,mY];simp[h]
  ·rw[if_neg h];simp[h]
 rw[e]
 by_cases ht:t<64
 ·by_cases hts:64-s≤t
  ·have h1:64*n+s+(64*i+t)=64*(i+n+1)+(t-(64-s)):=by omega
   have h2:¬ (s+t<64):=by omega
   have h5:t-(64-s)<64:=by omega
   by_cases h:i+n+1<4
   ·simp[ht,hts,h1,h2,h5,h]
   ·rw[h1,hbig _ (by omega)];simp[h2]
  ·have h1:64*n+s+(64*i+t)=64*(i+n)+(s+t):=by omega
   have h2:s+t<64:=by omega
   simp[ht,hts,h1,h2]
 ·have h2:¬ (s+t<64):=by omega
  simp[ht,h2]
theorem am7(n f:Nat)(t4:List Int)(k0:List Int→Option A)(x m s i:Nat)(hs:s<64)(hi:i<4)(hn:m≤i)(out:List Nat)(ho:out.length=4) :
  jN n (m:Int) (s:Int) (al (uw x)) t4 k0 (f+1) (i:Int) (al out)=jN n (m:Int) (s:Int) (al (uw x)) t4 k0 f ((i:Int)-1) (al (out.set i (wd (x*2^(64*m+s)%2^256) i))):=by
 rw[jN,Bb,anc x i m s hs hi hn]
 have e:decide ((i:Int)≥(m:Int))=true:=decide_eq_true (by omega)
 have e1:IntKind.wrap .i64 ((i:Int)-(m:Int))=((i-m:Nat):Int):=by rw[ap (by omega) (by omega)];omega
 have e2:IntKind.wrap .i64 ((i:Int)-1)=(i:Int)-1:=ap (by omega) (by omega)
 have e3:shl .u64 ((wd x (i-m):Nat):Int) (s:Int)=((wd x (i-m)*2^s%18446744073709551616:Nat):Int):=wB _ _ (by omega)
 rw[e,cond_true,e1,if_pos (by omega),if_pos (by omega),Int.toNat_natCast,jW _ _ (by omega),Option.bind_some,if_neg (by omega),if_pos (by omega),if_pos (by omega),Int.toNat_natCast,if_pos (by omega),e3,e2]
 by_cases hmi:m<i
 ·have d1:decide ((i:Int)>(m:Int))=true:=decide_eq_true (by omega)
  rw[d1,cond_true,if_pos hmi]
  by_cases hs0:0<s
  ·have d2:decide ((s:Int)>0)=true:=decide_eq_true (by omega)
   have e4:IntKind.wrap .i64 (((i-m:Nat):Int)-1)=((i-m-1:Nat):Int):=by rw[ap (by omega) (by omega)];omega
   have e5:IntKind.wrap .i64 (64-(s:Int))=((64-s:Nat):Int):=by rw[ap (by omega) (by omega)];omega
   have e6:shr .u64 ((wd x (i-m-1):Nat):Int) ((64-s:Nat):Int)=((wd x (i-m-1)/2^(64-s):Nat):Int):=De _ _ (by omega)
   have e7:dL .u64 ((wd x (i-m)*2^s%18446744073709551616:Nat):Int) ((wd x (i-m-1)/2^(64-s):Nat):Int)=((wd x (i-m)*2^s%18446744073709551616 ||| wd x (i-m-1)/2^(64-s):Nat):Int):=
    Cy _ _ (Nat.mod_lt _ (by decide)) (Nat.lt_of_le_of_lt (Nat.div_le_self _ _) (wI x _))
   rw[d2,cond_true,if_pos (by omega),if_pos (by omega),fK,fJ _ _ (by rw[List.length_set];omega),Option.bind_some,e4,if_pos (by omega),if_pos (by omega),Int.toNat_natCast,jW _ _ (by omega),Option.bind_some,e5,if_neg (by omega),if_pos (by omega),if_pos (by omega),if_pos (by omega),e6,List.getElem_set_self,e7,fK,List.set_set]
  ·have d2:decide ((s:Int)>0)=false:=decide_eq_false (by omega)
   have hs1:s=0:=by omega
   subst hs1
   have e8:wd x (i-m-1)/2^(64-0)=0:=Nat.div_eq_of_lt (wI x _)
   rw[d2,cond_false,e8,Nat.or_zero,fK]
 ·have d1:decide ((i:Int)>(m:Int))=false:=decide_eq_false (by omega)
  rw[d1,cond_false,if_neg hmi,Nat.or_zero,fK]
theorem XP(n:Nat)(t4:List Int)(k0:List Int→Option A)(x m s:Nat)(hs:s<64)(hm:m≤4):∀ (d f:Nat) (out:List Nat),out.length=4→m+d≤4→d<f→
  (∀ j,j<m→out[j]?=some 0)→(∀ j,m+d≤j→j<4→out[j]?=some (wd (x*2^(64*m+s)%2^256) j))→
  jN n (m:Int) (s:Int) (al (uw x)) t4 k0 f (((m+d:Nat):Int)-1) (al out)=k0 (al (uw (x*2^(64*m+s)%2^256)))
 | _,0,_,_,_,h,_,_=>by omega
 | 0,f+1,out,ho,_,_,h1,h2=>by
  rw[jN,Bb]
  have e:decide (((m+0:Nat):Int)-1≥(m:Int))=false:=decide_eq_false (by omega)
  rw[e,cond_false,XU (x*2^(64*m+s)%2^256) out ho fun i hi=>?_]
  by_cases him:i<m
  ·rw[h1 i him,ane x i m s him]
  ·exact h2 i (by omega) hi
 | d+1,f+1,out,ho,hd,hf,h1,h2=>by
  have e:((m+(d+1):Nat):Int)-1=((m+d:Nat):Int):=by omega
  rw[e,am7 n f t4 k0 x m s (m+d) hs (by omega) (by omega) out ho]
  refine XP n t4 k0 x m s hs hm d f _ (by rw[List.length_set];exact ho) (by omega) (by omega) (fun j hj=>?_) (fun j hj hj4=>?_)
  ·rw[List.getElem?_set_ne (by omega)];exact h1 j hj
  ·by_cases hjm:m+d=j
   ·subst hjm;rw[List.getElem?_set_self (by omega)]
   ·rw[List.getElem?_set_ne hjm];exact h2 j (by omega) hj4
theorem qm:([0,0,0,0]:List Int)=al (uw 0):=by simp[al,uw]
theorem XQ(n:Nat)(hn:10<n)(x m:Nat)(g:List Int→Option A):o6 n (al (uw x)) (m:Int) g=g (al (uw (x*2^m%2^256))):=by
 unfold o6 Bd
 have e0:bi (m:Int) 0=(m:Int):=by unfold bi;split<;>omega
 rw[e0]
 by_cases h:256≤m
 ·have e:decide ((m:Int)≥256)=true:=decide_eq_true (by omega)
  have e2:x*2^m%2^256=0:=by
   rw[show m=(m-256)+256 from by omega,Nat.pow_add,← Nat.mul_assoc,Nat.mul_mod_left]
  rw[e,cond_true,e2,qm]
 ·have e:decide ((m:Int)≥256)=false:=decide_eq_false (by omega)
  have e1:IntKind.wrap .i64 (Int.tdiv (m:Int) 64)=((m/64:Nat):Int):=by
   rw[show(64:Int)=((64:Nat):Int) from rfl,dn];exact ap (by omega) (by omega)
  have e2:Int.tmod (m:Int) 64=((m%64:Nat):Int):=by rw[show(64:Int)=((64:Nat):Int) from rfl,dy]
  rw[e,cond_false,e1,e2]
  have h0:=XP n [0,0,0,0] (fun y4=>g y4) x (m/64) (m%64) (by omega) (by omega) (4-m/64) n [0,0,0,0] rfl (by omega) (by omega)
   (fun j hj=>by
    have:j=0∨j=1∨j=2∨j=3:=by omega
    rcases this with rfl|rfl|rfl|rfl<;>rfl) (fun j hj hj2=>by omega)
  rw[show((m/64+(4-m/64):Nat):Int)-1=3 from by omega,show 64*(m/64)+m%64=m from by omega] at h0
  exact h0
theorem am9(n f:Nat)(t4:List Int)(k0:List Int→Option A)(x m s i:Nat)(hx:x<2^256)(hs:s<64)(hi:i+m<4)(out:List Nat)(ho:out.length=4) :
  jM n (m:Int) (s:Int) (al (uw x)) t4 k0 (f+1) (i:Int) (al out)=jM n (m:Int) (s:Int) (al (uw x)) t4 k0 f ((i+1:Nat):Int) (al (out.set i (wd (x/2^(64*m+s)) i))):=by
 rw[jM,A6,anf x i m s hx hs]
 have e1:IntKind.wrap .i64 ((i:Int)+(m:Int))=((i+m:Nat):Int):=by rw[ap (by omega) (by omega)];omega
 have e:decide (((i+m:Nat):Int)<4)=true:=decide_eq_true (by omega)
 have e2:IntKind.wrap .i64 ((i:Int)+1)=((i+1:Nat):Int):=by rw[ap (by omega) (by omega)];omega
 have e3:shr .u64 ((wd x (i+m):Nat):Int) (s:Int)=((wd x (i+m)/2^s:Nat):Int):=De _ _ (by omega)
 have e4:IntKind.wrap .i64 (((i+m:Nat):Int)+1)=((i+m+1:Nat):Int):=by rw[ap (by omega) (by omega)];omega
 rw[e1,e,cond_true,if_pos (by omega),if_pos (by omega),Int.toNat_natCast,jW _ _ (by omega),Option.bind_some,if_neg (by omega),if_pos (by omega),if_pos (by omega),Int.toNat_natCast,if_pos (by omega),e3,e2,e4]
 by_cases hmi:i+m+1<4
 ·have d1:decide (((i+m+1:Nat):Int)<4)=true:=decide_eq_true (by omega)
  rw[d1,cond_true,if_pos hmi]
  by_cases hs0:0<s
  ·have d2:decide ((s:Int)>0)=true:=decide_eq_true (by omega)
   have e5:IntKind.wrap .i64 (64-(s:Int))=((64-s:Nat):Int):=by rw[ap (by omega) (by omega)];omega
   have e6:shl .u64 ((wd x (i+m+1):Nat):Int) ((64-s:Nat):Int)=((wd x (i+m+1)*2^(64-s)%18446744073709551616:Nat):Int):=wB _ _ (by omega)
   have e7:dL .u64 ((wd x (i+m)/2^s:Nat):Int) ((wd x (i+m+1)*2^(64-s)%18446744073709551616:Nat):Int)=((wd x (i+m)/2^s ||| wd x (i+m+1)*2^(64-s)%18446744073709551616:Nat):Int):=
    Cy _ _ (Nat.lt_of_le_of_lt (Nat.div_le_self _ _) (wI x _)) (Nat.mod_lt _ (by decide))
   rw[d2,cond_true,if_pos (by omega),if_pos (by omega),fK,fJ _ _ (by rw[List.length_set];omega),Option.bind_some,if_pos (by omega),if_pos (by omega),Int.toNat_natCast,jW _ _ (by omega),Option.bind_some,e5,if_neg (by omega),if_pos (by omega),if_pos (by omega),if_pos (by omega),e6,List.getElem_set_self,e7,fK,List.set_set]
  ·have d2:decide ((s:Int)>0)=false:=decide_eq_false (by omega)
   have hs1:s=0:=by omega
   subst hs1
   have e8:wd x (i+m+1)*2^(64-0)%18446744073709551616=0:=by
    rw[show 2^(64-0)=18446744073709551616 from by decide,Nat.mul_mod_left]
   rw[d2,cond_false,e8,Nat.or_zero,fK]
 ·have d1:decide (((i+m+1:Nat):Int)<4)=false:=decide_eq_false (by omega)
  rw[d1,cond_false,if_neg hmi,Nat.or_zero,fK]
theorem ang(x i n s:Nat)(hx:x<2^256)(hn:4≤i+n):wd (x/2^(64*n+s)) i=0:=by
 apply Nat.eq_of_testBit_eq
 intro t
 rw[mY,tA,Nat.zero_testBit]
 rw[Nat.testBit_lt_two_pow (Nat.lt_of_lt_of_le hx (Nat.pow_le_pow_right (by decide) (show 256≤64*n+s+(64*i+t) by omega)))]
 simp
theorem XR(n:Nat)(t4:List Int)(k0:List Int→Option A)(x m s:Nat)(hx:x<2^256)(hs:s<64):∀ (d f i:Nat) (out:List Nat),out.length=4→i+m+d=4→d<f→
  (∀ j,j<4→out[j]?=some (if j<i then wd (x/2^(64*m+s)) j else 0))→
  jM n (m:Int) (s:Int) (al (uw x)) t4 k0 f (i:Int) (al out)=k0 (al (uw (x/2^(64*m+s))))
 | _,0,_,_,_,_,h,_=>by omega
 | 0,f+1,i,out,ho,hd,_,h1=>by
  rw[jM,A6]
  have e1:IntKind.wrap .i64 ((i:Int)+(m:Int))=((i+m:Nat):Int):=by rw[ap (by omega) (by omega)];omega
  have e:decide (((i+m:Nat):Int)<4)=false:=decide_eq_false (by omega)
  rw[e1,e,cond_false,XU (x/2^(64*m+s)) out ho fun j hj=>?_]
  rw[h1 j hj]
  split
  ·rfl
  ·rw[ang x j m s hx (by omega)]
 | d+1,f+1,i,out,ho,hd,hf,h1=>by
  rw[am9 n f t4 k0 x m s i hx hs (by omega) out ho]
  refine XR n t4 k0 x m s hx hs d f (i+1) _ (by rw[List.length_set];exact ho) (by omega) (by omega) (fun j hj=>?_)
  by_cases hjm:i=j
  ·subst hjm;rw[List.getElem?_set_self (by omega),if_pos (by omega)]
  ·rw[List.getElem?_set_ne hjm,h1 j hj]
   by_cases hji:j<i
   ·rw[if_pos hji,if_pos (by omega)]
   ·rw[if_neg hji,if_neg (by omega)]
theorem XS(n:Nat)(hn:10<n)(x m:Nat)(hx:x<2^256)(g:List Int→Option A):o0 n (al (uw x)) (m:Int) g=g (al (uw (x/2^m))):=by
 unfold o0 A8
 have e0:bi (m:Int) 0=(m:Int):=by unfold bi;split<;>omega
 rw[e0]
 by_cases h:256≤m
 ·have e:decide ((m:Int)≥256)=true:=decide_eq_true (by omega)
  have e2:x/2^m=0:=Nat.div_eq_of_lt (Nat.lt_of_lt_of_le hx (Nat.pow_le_pow_right (by decide) h))
  rw[e,cond_true,e2,qm]
 ·have e:decide ((m:Int)≥256)=false:=decide_eq_false (by omega)
  have e1:IntKind.wrap .i64 (Int.tdiv (m:Int) 64)=((m/64:Nat):Int):=by
   rw[show(64:Int)=((64:Nat):Int) from rfl,dn];exact ap (by omega) (by omega)
  have e2:Int.tmod (m:Int) 64=((m%64:Nat):Int):=by rw[show(64:Int)=((64:Nat):Int) from rfl,dy]
  rw[e,cond_false,e1,e2]
  have h0:=XR n [0,0,0,0] (fun y4=>g y4) x (m/64) (m%64) hx (by omega) (4-m/64) n 0 [0,0,0,0] rfl (by omega) (by omega)
   (fun j hj=>by
    have:j=0∨j=1∨j=2∨j=3:=by omega
    rcases this with rfl|rfl|rfl|rfl<;>rfl)
  rw[show 64*(m/64)+m%64=m from by omega] at h0
  exact h0
theorem NU(x i:Nat):x/2^(64*i)=wd x i+18446744073709551616*(x/2^(64*(i+1))):=by
 unfold wd
 rw[show 64*(i+1)=64*i+64 from by omega,Nat.pow_add,← Nat.div_div_eq_div_mul,show(2:Nat)^64=18446744073709551616 from by decide]
 omega
def qj(x y:Nat):Int:=if x<y then -1 else if y<x then 1 else 0
theorem am1(n:Nat)(x y:Nat)(g:Int→Option A):∀ (f i:Nat),i≤4→i<f→x/2^(64*i)=y/2^(64*i)→
  oG n (al (uw x)) (al (uw y)) g (g 0) f ((i:Int)-1)=g (qj x y):=by
 intro f
 induction f with
 | zero=>intro i _ h;omega
 | succ f ih=>
 intro i hi hf he
 rcases i with _|i
 ·rw[oG,Ah]
  have e:decide (((0:Nat):Int)-1≥0)=false:=by decide
  rw[Nat.mul_zero,Nat.pow_zero,Nat.div_one,Nat.div_one] at he
  rw[e,cond_false,he]
  unfold qj
  rw[if_neg (by omega),if_neg (by omega)]
 ·rw[oG,Ah]
  have e0:((i+1:Nat):Int)-1=(i:Int):=by omega
  have e:decide ((i:Int)≥0)=true:=decide_eq_true (by omega)
  have e2:IntKind.wrap .i64 ((i:Int)-1)=(i:Int)-1:=ap (by omega) (by omega)
  rw[e0,e,cond_true,if_pos (by omega),if_pos (by omega),Int.toNat_natCast,jW _ _ (by omega),Option.bind_some,if_pos (by omega),if_pos (by omega),jW _ _ (by omega),Option.bind_some]
  have hx:=NU x i
  have hy:=NU y i
  by_cases h1:wd x i<wd y i
  ·have d:decide (((wd x i:Nat):Int)<((wd y i:Nat):Int))=true:=decide_eq_true (by omega)
   rw[d,cond_true]
   unfold qj
   have:x<y:=by
    rcases Nat.lt_or_ge x y with h|h
    ·exact h
    ·have:=Nat.div_le_div_right (c:=2^(64*i)) h;omega
   rw[if_pos this]
  ·have d:decide (((wd x i:Nat):Int)<((wd y i:Nat):Int))=false:=decide_eq_false (by omega)
   rw[d,cond_false,if_pos (by omega),if_pos (by omega),Option.bind_some,if_pos (by omega),if_pos (by omega),Option.bind_some]
   by_cases h2:wd y i<wd x i
   ·have d:decide (((wd x i:Nat):Int)>((wd y i:Nat):Int))=true:=decide_eq_true (by omega)
    rw[d,cond_true]
    unfold qj
    have:y<x:=by
     rcases Nat.lt_or_ge y x with h|h
     ·exact h
     ·have:=Nat.div_le_div_right (c:=2^(64*i)) h;omega
    rw[if_neg (by omega),if_pos this]
   ·have d:decide (((wd x i:Nat):Int)>((wd y i:Nat):Int))=false:=decide_eq_false (by omega)
    rw[d,cond_false,e2]
    exact ih i (by omega) (by omega) (by omega)
theorem am2(n:Nat)(hn:10<n)(x y:Nat)(hx:x<2^256)(hy:y<2^256)(g:Int→Option A):Ai n (al (uw x)) (al (uw y)) g=g (qj x y):=by
 unfold Ai Hn
 exact am1 n x y (fun y5=>g y5) n 4 (by omega) (by omega) (by
  rw[show(2:Nat)^(64*4)=2^256 from by decide,Nat.div_eq_of_lt hx,Nat.div_eq_of_lt hy])
def bl(x:Nat):Nat:=if x=0 then 0 else Nat.log2 x+1
theorem gG(x k:Nat):bl x≤k↔x<2^k:=by
 unfold bl
 split
 ·rename_i h;subst h;exact⟨fun _=>Nat.two_pow_pos k,fun _=>Nat.zero_le _⟩
 ·rename_i h
  rw[← Nat.log2_lt h];omega
theorem VH(x:Nat):x<2^bl x:=(gG x _).1 (Nat.le_refl _)
theorem jC(x j:Nat)(h:x/2^j≠0):bl x=j+bl (x/2^j):=by
 apply Nat.le_antisymm
 ·rw[gG,Nat.pow_add,Nat.mul_comm]
  exact(Nat.div_lt_iff_lt_mul (Nat.two_pow_pos j)).1 (VH _)
 ·have hj:j≤bl x:=by
   rcases Nat.lt_or_ge (bl x) j with h2|h2
   ·exact absurd (Nat.div_eq_of_lt ((gG x j).1 (by omega))) h
   ·exact h2
  have:bl (x/2^j)≤bl x-j:=by
   rw[gG,Nat.div_lt_iff_lt_mul (Nat.two_pow_pos j),← Nat.pow_add,show bl x-j+j=bl x from by omega]
   exact VH x
  omega
theorem DW(x j:Nat)(h:x≠0):bl (x*2^j)=j+bl x:=by
 have e:x*2^j/2^j=x:=Nat.mul_div_cancel _ (Nat.two_pow_pos j)
 rw[jC (x*2^j) j (by rw[e];exact h),e]
theorem amY:bd iI=al ((List.range 256).map bl):=by kernel_rfl
theorem amX(i:Nat)(h:i<256):(bd iI)[i]?=some ((bl i:Nat):Int):=by
 rw[amY,Cw,List.getElem?_map,List.getElem?_range h];rfl
theorem mP(k:Int→Option A)(x y j:Nat)(hy:y<256)(hj:j<100)(h:bl x=j+bl y) :
  (if 0≤IntKind.wrap .u8 (y:Int) then((bd iI)[(IntKind.wrap .u8 (y:Int)).toNat]?).bind fun t=>k (IntKind.wrap .i64 ((j:Int)+IntKind.wrap .i64 t)) else none)=k ((bl x:Nat):Int):=by
 have e:IntKind.wrap .u8 (y:Int)=(y:Int):=by rw[wM];omega
 have e0:bl y≤8:=by rw[gG];omega
 have e1:IntKind.wrap .i64 ((bl y:Nat):Int)=((bl y:Nat):Int):=ap (by omega) (by omega)
 have e2:IntKind.wrap .i64 ((j:Int)+((bl y:Nat):Int))=((bl x:Nat):Int):=by rw[ap (by omega) (by omega)];omega
 rw[e,if_pos (by omega),Int.toNat_natCast,amX y hy,Option.bind_some,e1,e2]
theorem mW(x k:Nat)(hk:k≤64)(K:Int)(hK:K=(k:Int)):shr .u64 (x:Int) K=((x/2^k:Nat):Int):=by rw[hK];exact De x k hk
theorem aj9(n x:Nat)(hx:x<18446744073709551616)(g:Int→Option A):vq n (x:Int) g=g ((bl x:Nat):Int):=by
 unfold vq JJ
 rw[mW x 32 (by decide) 32 rfl,mW x 16 (by decide) 16 rfl,mW x 8 (by decide) 8 rfl,mW (x/2^32) 16 (by decide) 16 rfl,mW (x/2^32) 8 (by decide) 8 rfl,mW (x/2^32/2^16) 8 (by decide) 8 rfl,mW (x/2^16) 8 (by decide) 8 rfl]
 by_cases h1:4294967296≤x
 ·have b1:bl x=32+bl (x/2^32):=jC x 32 (by omega)
  rw[decide_eq_true (show(x:Int)≥4294967296 by omega),cond_true]
  by_cases h2:65536≤x/2^32
  ·have b2:bl (x/2^32)=16+bl (x/2^32/2^16):=jC _ 16 (by omega)
   rw[decide_eq_true (show((x/2^32:Nat):Int)≥65536 by omega),cond_true]
   by_cases h3:256≤x/2^32/2^16
   ·have b3:bl (x/2^32/2^16)=8+bl (x/2^32/2^16/2^8):=jC _ 8 (by omega)
    rw[decide_eq_true (show((x/2^32/2^16:Nat):Int)≥256 by omega),cond_true]
    exact mP g x _ 56 (by omega) (by decide) (by omega)
   ·rw[decide_eq_false (show ¬ ((x/2^32/2^16:Nat):Int)≥256 by omega),cond_false]
    exact mP g x _ 48 (by omega) (by decide) (by omega)
  ·rw[decide_eq_false (show ¬ ((x/2^32:Nat):Int)≥65536 by omega),cond_false]
   by_cases h3:256≤x/2^32
   ·have b3:bl (x/2^32)=8+bl (x/2^32/2^8):=jC _ 8 (by omega)
    rw[decide_eq_true (show((x/2^32:Nat):Int)≥256 by omega),cond_true]
    exact mP g x _ 40 (by omega) (by decide) (by omega)
   ·rw[decide_eq_false (show ¬ ((x/2^32:Nat):Int)≥256 by omega),cond_false]
    exact mP g x _ 32 (by omega) (by decide) (by omega)
 ·rw[decide_eq_false (show ¬ (x:Int)≥4294967296 by omega),cond_false]
  by_cases h2:65536≤x
  ·have b2:bl x=16+bl (x/2^16):=jC _ 16 (by omega)
   rw[decide_eq_true (show(x:Int)≥65536 by omega),cond_true]
   by_cases h3:256≤x/2^16
   ·have b3:bl (x/2^16)=8+bl (x/2^16/2^8):=jC _ 8 (by omega)
    rw[decide_eq_true (show((x/2^16:Nat):Int)≥256 by omega),cond_true]
    exact mP g x _ 24 (by omega) (by decide) (by omega)
   ·rw[decide_eq_false (show ¬ ((x/2^16:Nat):Int)≥256 by omega),cond_false]
    exact mP g x _ 16 (by omega) (by decide) (by omega)
  ·rw[decide_eq_false (show ¬ (x:Int)≥65536 by omega),cond_false]
   by_cases h3:256≤x
   ·have b3:bl x=8+bl (x/2^8):=jC _ 8 (by omega)
    rw[decide_eq_true (show(x:Int)≥256 by omega),cond_true]
    exact mP g x _ 8 (by omega) (by decide) (by omega)
   ·rw[decide_eq_false (show ¬ (x:Int)≥256 by omega),cond_false]
    exact mP g x x 0 (by omega) (by decide) (by omega)
theorem am3(n:Nat)(x:Nat)(g:Int→Option A):∀ (f i:Nat),i≤4→i<f→x/2^(64*i)=0→
  o5 (vq n) n (al (uw x)) g (g 0) f ((i:Int)-1)=g ((bl x:Nat):Int):=by
 intro f
 induction f with
 | zero=>intro i _ h;omega
 | succ f ih=>
 intro i hi hf he
 rcases i with _|i
 ·rw[o5,A9]
  have e:decide (((0:Nat):Int)-1≥0)=false:=by decide
  rw[Nat.mul_zero,Nat.pow_zero,Nat.div_one] at he
  rw[e,cond_false,he];rfl
 ·rw[o5,A9]
  have e0:((i+1:Nat):Int)-1=(i:Int):=by omega
  have e:decide ((i:Int)≥0)=true:=decide_eq_true (by omega)
  have e2:IntKind.wrap .i64 ((i:Int)-1)=(i:Int)-1:=ap (by omega) (by omega)
  rw[e0,e,cond_true,if_pos (by omega),if_pos (by omega),Int.toNat_natCast,jW _ _ (by omega),Option.bind_some]
  have hx:=NU x i
  rw[he,Nat.mul_zero,Nat.add_zero] at hx
  by_cases h1:wd x i=0
  ·have d:(((wd x i:Nat):Int) != 0)=false:=by rw[h1];rfl
   rw[d,cond_false,e2]
   exact ih i (by omega) (by omega) (by omega)
  ·have d:(((wd x i:Nat):Int) != 0)=true:=by simp;omega
   have hb:bl x=64*i+bl (wd x i):=by rw[jC x (64*i) (by omega),hx]
   have hb2:bl (wd x i)≤64:=by rw[gG];exact wI x i
   have e3:IntKind.wrap .i64 (64*(i:Int))=((64*i:Nat):Int):=by rw[ap (by omega) (by omega)];omega
   have e4:IntKind.wrap .i64 (((64*i:Nat):Int)+((bl (wd x i):Nat):Int))=((bl x:Nat):Int):=by rw[ap (by omega) (by omega)];omega
   rw[d,cond_true,if_pos (by omega),if_pos (by omega),Option.bind_some,aj9 n _ (wI x i),e3,e4]
theorem XO(n:Nat)(hn:10<n)(x:Nat)(hx:x<2^256)(g:Int→Option A):vd n (al (uw x)) g=g ((bl x:Nat):Int):=by
 unfold vd I7
 exact am3 n x (fun y5=>g y5) n 4 (by omega) (by omega) (by
  rw[show(2:Nat)^(64*4)=2^256 from by decide,Nat.div_eq_of_lt hx])
theorem am5(n x:Nat)(hx:x<18446744073709551616)(g:List Int→Option A):A5 n (x:Int) g=g (al (uw x)):=by
 unfold A5 I5
 have e:al (uw x)=[(x:Int),0,0,0]:=by
  simp only[al,uw,List.map_cons,List.map_nil]
  rw[Nat.mod_eq_of_lt hx,Nat.div_eq_of_lt hx,Nat.div_eq_of_lt (show x<340282366920938463463374607431768211456 by omega),Nat.div_eq_of_lt (show x<6277101735386680763835789423207666416102355444464034512896 by omega)];rfl
 rw[e]
theorem Ve(a:Int):bi (bi a 0) 0=bi a 0:=by unfold bi;split<;>(try split)<;>omega
theorem Vf(a:Int):bi a 0=(a.toNat:Int):=by unfold bi;split<;>omega
theorem am6(n:Nat)(hn:10<n)(x:Nat)(a:Int)(g:List Int→Option A):o6 n (al (uw x)) a g=g (al (uw (x*2^a.toNat%2^256))):=by
 rw[← XQ n hn x a.toNat g,← Vf]
 unfold o6 Bd
 rw[Ve]
theorem am8(n:Nat)(hn:10<n)(x:Nat)(hx:x<2^256)(a:Int)(g:List Int→Option A):o0 n (al (uw x)) a g=g (al (uw (x/2^a.toNat))):=by
 rw[← XS n hn x a.toNat hx g,← Vf]
 unfold o0 A8
 rw[Ve]
theorem eL(x:Nat)(h:x<4294967296):IntKind.wrap .u32 (x:Int)=(x:Int):=by rw[ic];omega
theorem Vd(a b:Nat)(ha:a<4294967296)(hb:b<4294967296):bL .u32 (a:Int) (b:Int)=((a &&& b:Nat):Int):=by
 rw[Ct];unfold Cs
 rw[BitVec.toNat_and,iE,iE,lQ,Nat.mod_eq_of_lt (show a<2^32 by omega),Nat.mod_eq_of_lt (show b<2^32 by omega)]
 exact eL _ (Nat.and_lt_two_pow (n:=32) _ (by omega))
theorem ajY(a b:Nat)(ha:a<4294967296)(hb:b<4294967296):dL .u32 (a:Int) (b:Int)=((a ||| b:Nat):Int):=by
 rw[vV];unfold vU
 rw[BitVec.toNat_or,iE,iE,lQ,Nat.mod_eq_of_lt (show a<2^32 by omega),Nat.mod_eq_of_lt (show b<2^32 by omega)]
 exact eL _ (Nat.or_lt_two_pow (n:=32) (by omega) (by omega))
theorem amu(x k:Nat)(hk:k≤32):shl .u32 (x:Int) (k:Int)=((x*2^k%4294967296:Nat):Int):=by
 unfold shl
 rw[lQ,Int.toNat_natCast,Nat.min_eq_left hk,ic]
 have:(x:Int)*2^k=((x*2^k:Nat):Int):=by simp
 rw[this];rfl
theorem amv(x k:Nat)(hk:k≤32):shr .u32 (x:Int) (k:Int)=((x/2^k:Nat):Int):=by
 unfold shr
 rw[lQ,Int.toNat_natCast,Nat.min_eq_left hk,Int.fdiv_eq_ediv_of_nonneg _ (by exact Int.le_of_lt (Int.pow_pos (by decide)))]
 simp
theorem Pi(a k:Nat):a &&& 2^k=a/2^k%2*2^k:=by
 apply Nat.eq_of_testBit_eq
 intro t
 rw[Nat.testBit_and,Nat.testBit_two_pow,Nat.testBit_mul_two_pow,show a/2^k%2=a/2^k%2^1 from rfl,Nat.testBit_mod_two_pow,tA]
 by_cases h:k=t
 ·subst h;simp
 ·by_cases h2:k≤t
  ·have:¬ (t-k<1):=by omega
   simp[h,this]
  ·simp[h,h2]
def bs(x:Nat):Nat:=(bl x+7)/8
theorem DY(x k:Nat):bs x≤k↔x<2^(8*k):=by rw[← gG];unfold bs;omega
theorem VI(x:Nat):x<2^(8*bs x):=(DY x _).1 (Nat.le_refl _)
theorem aj8{x k:Nat}(h:k<bs x):2^(8*k)≤x:=by
 rcases Nat.lt_or_ge x (2^(8*k)) with h2|h2
 ·have:=(DY x k).2 h2;omega
 ·exact h2
theorem DX{x:Nat}(h:x<2^256):bs x≤32:=(DY x 32).2 h
def zN(x:Nat):Nat:=x*2^(8*(3-bs x))/2^(8*(bs x-3))
theorem Yi(x:Nat):x*2^(8*(3-bs x))<2^(24+8*(bs x-3)):=by
 have h:=VI x
 calc x*2^(8*(3-bs x))<2^(8*bs x)*2^(8*(3-bs x)):=Nat.mul_lt_mul_of_pos_right h (Nat.two_pow_pos _)
  _=2^(24+8*(bs x-3)):=by rw[← Nat.pow_add];congr 1;omega
theorem Yh(x:Nat):zN x<16777216:=by
 unfold zN
 rw[Nat.div_lt_iff_lt_mul (Nat.two_pow_pos _),show 16777216=2^24 from by decide,← Nat.pow_add]
 exact Yi x
def lT(x:Nat):Nat:=if 8388608≤zN x then(bs x+1)*16777216+zN x/256 else bs x*16777216+zN x
theorem Wa(s z:Nat)(hs:s<256)(hz:z<16777216):dL .u32 (shl .u32 (s:Int) 24) (z:Int)=((s*16777216+z:Nat):Int):=by
 rw[show(24:Int)=((24:Nat):Int) from rfl,amu s 24 (by decide),Nat.mod_eq_of_lt (by omega),ajY _ _ (by omega) (by omega),CS s z 24 (by omega)]
theorem aaR(n:Nat)(hn:10<n)(x:Nat)(hx:x<2^256)(g:Int→Option A):Bh n (al (uw x)) g=g ((lT x:Nat):Int):=by
 unfold Bh Jg
 have hbl:bl x≤256:=(gG x 256).2 hx
 have hbs:=DX hx
 rw[XO n hn x hx]
 have e0:IntKind.wrap .i64 (((bl x:Nat):Int)+8)=((bl x+8:Nat):Int):=by rw[ap (by omega) (by omega)];omega
 have e1:IntKind.wrap .i64 (((bl x+8:Nat):Int)-1)=((bl x+7:Nat):Int):=by rw[ap (by omega) (by omega)];omega
 have e2:IntKind.wrap .i64 (Int.tdiv ((bl x+7:Nat):Int) 8)=((bs x:Nat):Int):=by
  unfold bs
  rw[show(8:Int)=((8:Nat):Int) from rfl,dn];exact ap (by omega) (by omega)
 have e3:IntKind.wrap .i64 (3-((bs x:Nat):Int))=3-((bs x:Nat):Int):=ap (by omega) (by omega)
 have e4:IntKind.wrap .i64 (8*(3-((bs x:Nat):Int)))=8*(3-((bs x:Nat):Int)):=ap (by omega) (by omega)
 have e5:IntKind.wrap .i64 (((bs x:Nat):Int)-3)=((bs x:Nat):Int)-3:=ap (by omega) (by omega)
 have e6:IntKind.wrap .i64 (8*(((bs x:Nat):Int)-3))=8*(((bs x:Nat):Int)-3):=ap (by omega) (by omega)
 have e7:IntKind.wrap .i64 (((bs x:Nat):Int)+1)=((bs x+1:Nat):Int):=by rw[ap (by omega) (by omega)];omega
 rw[e0,e1,e2,e3,e4,e5,e6,e7,am6 n hn]
 have t1:(8*(3-((bs x:Nat):Int))).toNat=8*(3-bs x):=by omega
 have t2:(8*(((bs x:Nat):Int)-3)).toNat=8*(bs x-3):=by omega
 have hp:x*2^(8*(3-bs x))<2^256:=Nat.lt_of_lt_of_le (Yi x) (Nat.pow_le_pow_right (by decide) (by omega))
 rw[t1,Nat.mod_eq_of_lt hp,am8 n hn _ hp,t2]
 show((al (uw (zN x)))[0]?).bind _=_
 have hz:=Yh x
 have w0:wd (zN x) 0=zN x:=by unfold wd;rw[Nat.mul_zero,Nat.pow_zero,Nat.div_one];omega
 rw[jW _ 0 (by decide),Option.bind_some,w0]
 have i1:bL .u64 ((zN x:Nat):Int) 8388608=((zN x/8388608%2*8388608:Nat):Int):=by
  rw[show(8388608:Int)=((8388608:Nat):Int) from rfl,ajQ _ _ (by omega) (by omega),show 8388608=2^23 from by decide,Pi]
 rw[i1]
 have u1:IntKind.wrap .u32 ((bs x+1:Nat):Int)=((bs x+1:Nat):Int):=eL _ (by omega)
 have u2:IntKind.wrap .u32 ((bs x:Nat):Int)=((bs x:Nat):Int):=eL _ (by omega)
 have u3:IntKind.wrap .u32 ((zN x:Nat):Int)=((zN x:Nat):Int):=eL _ (by omega)
 have u4:IntKind.wrap .u32 (shr .u64 ((zN x:Nat):Int) 8)=((zN x/256:Nat):Int):=by rw[mW _ 8 (by decide) 8 rfl];exact eL _ (by omega)
 rw[u1,u2,u3,u4,Wa _ _ (by omega) (by omega),Wa _ _ (by omega) (by omega)]
 unfold lT
 by_cases h:8388608≤zN x
 ·have d:(((zN x/8388608%2*8388608:Nat):Int) != 0)=true:=by simp;omega
  rw[d,cond_true,if_pos h]
 ·have d:(((zN x/8388608%2*8388608:Nat):Int) != 0)=false:=by simp;omega
  rw[d,cond_false,if_neg h]
def gM(c:Nat):Option Nat:=
 if c/8388608%2≠0 then none else
 if c/16777216≤3 then(if c%8388608/2^(8*(3-c/16777216))=0 then none else some (c%8388608/2^(8*(3-c/16777216))))
 else if 256<bl (c%8388608)+8*(c/16777216-3) then none else
  (if c%8388608*2^(8*(c/16777216-3))=0 then none else some (c%8388608*2^(8*(c/16777216-3))))
theorem XW(x:Nat)(hx:x<2^256):cY a8 (al (uw x)) ([0,0,0,0]:List Int)=decide (x=0):=by
 by_cases h:x=0
 ·subst h;rw[qm,abH];rfl
 ·rw[decide_eq_false h]
  cases hd:cY a8 (al (uw x)) ([0,0,0,0]:List Int) with
  | false=>rfl
  | true=>
   have h1:=(gN a8 _ _).1 hd
   rw[qm] at h1
   have inj:∀ a b:List Nat,al a=al b→a=b:=fun a b hab=>by
    have:=congrArg (List.map Int.toNat) hab
    simpa[al,List.map_map,Function.comp_def] using this
   have h2:=congrArg ff (inj _ _ h1)
   rw[Yg x hx,Yg 0 (by decide)] at h2
   exact absurd h2 h
theorem Ek(c t:Nat)(h:gM c=some t):t<2^256∧t≠0:=by
 unfold gM at h
 split at h
 ·cases h
 ·split at h
  ·split at h
   ·cases h
   ·rename_i h3
    cases h
    refine⟨Nat.lt_of_le_of_lt (Nat.div_le_self _ _) ?_,h3⟩
    exact Nat.lt_of_lt_of_le (Nat.mod_lt _ (by decide)) (by decide)
  ·split at h
   ·cases h
   ·rename_i h2
    split at h
    ·cases h
    ·rename_i h3
     cases h
     refine⟨?_,h3⟩
     have hm:c%8388608≠0:=fun e=>h3 (by rw[e,Nat.zero_mul])
     rw[← gG,DW _ _ hm];omega
theorem El(n:Nat)(hn:10<n)(c:Nat)(hc:c<4294967296)(g:List Int→Int→Option A) :
  uU n (c:Int) g=match gM c with
   | none=>g (al (uw 0)) 5
   | some t=>g (al (uw t)) 0:=by
 unfold uU Hj gM
 have i0:IntKind.wrap .u64 (bL .u32 (c:Int) 8388607)=((c%8388608:Nat):Int):=by
  rw[show(8388607:Int)=((8388607:Nat):Int) from rfl,Vd _ _ hc (by omega),show(8388607:Nat)=2^23-1 from by decide,Nat.and_two_pow_sub_one_eq_mod,show 8388608=2^23 from by decide]
  exact dU _ (by omega)
 have i1:bL .u32 (c:Int) 8388608=((c/8388608%2*8388608:Nat):Int):=by
  rw[show(8388608:Int)=((8388608:Nat):Int) from rfl,Vd _ _ hc (by omega),show 8388608=2^23 from by decide,Pi]
 have i2:IntKind.wrap .i64 (shr .u32 (c:Int) 24)=((c/16777216:Nat):Int):=by
  rw[show(24:Int)=((24:Nat):Int) from rfl,amv c 24 (by decide),show 2^24=16777216 from by decide]
  exact ap (by omega) (by omega)
 have hm:c%8388608<8388608:=Nat.mod_lt _ (by decide)
 have hm2:c%8388608<2^256:=Nat.lt_trans hm (by decide)
 rw[i0,i1,i2,am5 n _ (by omega),qm]
 by_cases h1:c/8388608%2=0
 ·have d:(((c/8388608%2*8388608:Nat):Int) != 0)=false:=by rw[h1];rfl
  rw[d,cond_false,if_neg (by omega)]
  by_cases h2:c/16777216≤3
  ·have d2:decide (((c/16777216:Nat):Int)≤3)=true:=decide_eq_true (by omega)
   have e1:IntKind.wrap .i64 (3-((c/16777216:Nat):Int))=((3-c/16777216:Nat):Int):=by rw[ap (by omega) (by omega)];omega
   have e2:IntKind.wrap .i64 (8*((3-c/16777216:Nat):Int))=((8*(3-c/16777216):Nat):Int):=by rw[ap (by omega) (by omega)];omega
   rw[d2,cond_true,if_pos h2,e1,e2,XS n hn _ _ hm2,← qm,XW _ (Nat.lt_of_le_of_lt (Nat.div_le_self _ _) hm2)]
   by_cases h3:c%8388608/2^(8*(3-c/16777216))=0
   ·rw[decide_eq_true h3,cond_true,if_pos h3]
   ·rw[decide_eq_false h3,cond_false,if_neg h3]
  ·have d2:decide (((c/16777216:Nat):Int)≤3)=false:=decide_eq_false (by omega)
   have hbm:bl (c%8388608)≤23:=(gG _ 23).2 (by omega)
   have e1:IntKind.wrap .i64 (((c/16777216:Nat):Int)-3)=((c/16777216-3:Nat):Int):=by rw[ap (by omega) (by omega)];omega
   have e2:IntKind.wrap .i64 (8*((c/16777216-3:Nat):Int))=((8*(c/16777216-3):Nat):Int):=by rw[ap (by omega) (by omega)];omega
   have e3:IntKind.wrap .i64 (((bl (c%8388608):Nat):Int)+((8*(c/16777216-3):Nat):Int))=((bl (c%8388608)+8*(c/16777216-3):Nat):Int):=by rw[ap (by omega) (by omega)];omega
   rw[d2,cond_false,if_neg h2,XO n hn _ hm2,e1,e2,e3]
   by_cases h3:256<bl (c%8388608)+8*(c/16777216-3)
   ·rw[decide_eq_true (show((bl (c%8388608)+8*(c/16777216-3):Nat):Int)>256 by omega),cond_true,if_pos h3]
   ·rw[decide_eq_false (show ¬ ((bl (c%8388608)+8*(c/16777216-3):Nat):Int)>256 by omega),cond_false,if_neg h3]
    have hlt:c%8388608*2^(8*(c/16777216-3))<2^256:=by
     by_cases h0:c%8388608=0
     ·rw[h0,Nat.zero_mul];exact Nat.two_pow_pos _
     ·rw[← gG,DW _ _ h0];omega
    rw[XQ n hn,Nat.mod_eq_of_lt hlt,← qm,XW _ hlt]
    by_cases h4:c%8388608*2^(8*(c/16777216-3))=0
    ·rw[decide_eq_true h4,cond_true,if_pos h4]
    ·rw[decide_eq_false h4,cond_false,if_neg h4]
 ·have d:(((c/8388608%2*8388608:Nat):Int) != 0)=true:=by simp;omega
  rw[d,cond_true,if_pos h1]
def i9(c:Nat):Bool:=match gM c with
 | none=>false
 | some t=>lT t==c
theorem PK(n:Nat)(hn:10<n)(c:Nat)(hc:c<4294967296)(g:Bool→Option A):Ag n (c:Int) g=g (i9 c):=by
 unfold Ag Hl
 rw[El n hn c hc]
 unfold i9
 cases h:gM c with
 | none=>rfl
 | some t=>
  show(bif ((0:Int)==0) then _ else _)=_
  rw[show((0:Int)==0)=true from rfl,cond_true,aaR n hn t (Ek c t h).1]
  show g (((lT t:Nat):Int)==(c:Int))=g (lT t==c)
  congr 1
  by_cases h2:lT t=c
  ·rw[h2];simp
  ·rw[beq_eq_false_iff_ne.2 h2];simp;omega
end Go.Ev
namespace Go.Ev
theorem anr{x:Nat}(h:3≤bs x):zN x=x/2^(8*(bs x-3)):=by
 unfold zN
 rw[show 3-bs x=0 from by omega,Nat.mul_zero,Nat.pow_zero,Nat.mul_one]
theorem ans{x:Nat}(h:bs x<3):zN x=x*2^(8*(3-bs x)):=by
 unfold zN
 rw[show bs x-3=0 from by omega,Nat.mul_zero,Nat.pow_zero,Nat.div_one]
end Go.Ev
namespace Go.Ev
variable{A:Type}
theorem XL(n:Nat)(l:List Nat)(hl:l.length<100000)(k0:Int→Option A):∀ (i f:Nat),i≤l.length→i<f→(∀ j,i≤j→(h:j<l.length)→l[j]=0)→
  ∃ m,m≤l.length∧(∀ j,m≤j→(h:j<l.length)→l[j]=0)∧(∀ (h:0<m) (h2:m-1<l.length),l[m-1]≠0)∧mf n (al l) k0 f (i:Int)=k0 (m:Int)
 | _,0,_,h,_=>by omega
 | 0,f+1,_,_,hz=>⟨0,by omega,hz,fun h=>by omega,by simp only[mf,uR];rfl⟩
 | i+1,f+1,hi,hf,hz=>by
  have hlt:i<l.length:=by omega
  have e:decide (((i+1:Nat):Int)>0)=true:=decide_eq_true (by omega)
  have hw:IntKind.wrap .i64 (((i+1:Nat):Int)-1)=(i:Int):=(ap (by omega) (by omega)).trans (by omega)
  by_cases h0:l[i]=0
  ·obtain⟨m,h1,h2,h3,h4⟩:=XL n l hl k0 i f (by omega) (by omega) (fun j hj hlj=>by
    rcases Nat.lt_or_ge i j with h|h
    ·exact hz j (by omega) hlj
    ·have:j=i:=by omega
     subst this;exact h0)
   refine⟨m,h1,h2,h3,?_⟩
   simp only[mf,uR]
   rw[e,cond_true,hw,if_pos (by omega),Int.toNat_natCast,fJ l i hlt,Option.bind_some,h0]
   exact h4
  ·refine⟨i+1,hi,hz,fun _ _=>h0,?_⟩
   simp only[mf,uR]
   have e2:(((l[i]:Nat):Int)==0)=false:=by simp;omega
   rw[e,cond_true,hw,if_pos (by omega),Int.toNat_natCast,fJ l i hlt,Option.bind_some,e2,cond_false]
theorem NP(n:Nat)(l:List Nat)(hd:cz l)(hl:l.length<100000)(hn:l.length<n)(g:List Int→Option A):gR n (al l) g=g (al (ar (aH l))):=by
 unfold gR Hf
 obtain⟨m,h1,h2,h3,h4⟩:=XL n l hl (fun y2=>if 0≤y2 then if y2≤((al l).length:Int) then g (((al l).drop 0).take ((Int.toNat y2)-0)) else none else none) l.length n (Nat.le_refl _) hn (fun j hj h=>by omega)
 rw[di] at h4 ⊢
 refine Eq.trans h4 ?_
 rw[if_pos (by omega),if_pos (by omega),Int.toNat_natCast,List.drop_zero,Nat.sub_zero,ajX,abM l hd m h1 h2 fun h=>h3 h (by omega)]
def d4(w:Nat):List Nat:=[w%65536,w/65536%65536,w/4294967296%65536,w/281474976710656%65536]
theorem abE(w:Nat)(h:w<18446744073709551616):aH (d4 w)=w:=by unfold d4;simp only[aH];omega
theorem abD(w:Nat):cz (d4 w):=fun x hx=>by
 simp only[d4,List.mem_cons,List.not_mem_nil,or_false] at hx
 rcases hx with rfl|rfl|rfl|rfl<;>omega
theorem CQ(G:List Int→(List Int→Option A)→Option A)(n:Nat)(t7:List Int)(t8 t9:Int)(k0:List Int→Option A)(f w i:Nat)(hw:w<18446744073709551616)(hi:i<4)(out:List Nat)(ho:out.length<100000) :
  jI G n t7 t8 t9 k0 (f+1) (w:Int) (i:Int) (al out)=jI G n t7 t8 t9 k0 f ((w/65536:Nat):Int) ((i+1:Nat):Int) (al (out++[w%65536])):=by
 rw[jI,yY]
 have e:decide ((i:Int)<4)=true:=by simp;omega
 have e1:IntKind.wrap .u64 (Int.tdiv (w:Int) 65536)=((w/65536:Nat):Int):=by
  rw[show(65536:Int)=((65536:Nat):Int) from rfl,dn];exact dU _ (by omega)
 have e2:IntKind.wrap .i64 ((i:Int)+1)=((i+1:Nat):Int):=by rw[ap (by omega) (by omega)];omega
 have e3:IntKind.wrap .i64 (Int.tmod (w:Int) 65536)=((w%65536:Nat):Int):=by
  rw[show(65536:Int)=((65536:Nat):Int) from rfl,dy];exact ap (by omega) (by omega)
 rw[e,cond_true,if_pos (by rw[di];omega),e1,e2,e3,ajW]
theorem akH(G:List Int→(List Int→Option A)→Option A)(n:Nat)(t7:List Int)(t8 t9:Int)(k0:List Int→Option A)(f w:Nat)(hf:4<f)(hw:w<18446744073709551616)(out:List Nat)(ho:out.length<10000) :
  jI G n t7 t8 t9 k0 f (w:Int) 0 (al out)=k0 (al (out++d4 w)):=by
 obtain⟨f,rfl⟩:∃ g,f=g+1+1+1+1+1:=⟨f-5,by omega⟩
 have h0:=CQ G n t7 t8 t9 k0 (f+1+1+1+1) w 0 hw (by decide) out (by omega)
 have h1:=CQ G n t7 t8 t9 k0 (f+1+1+1) (w/65536) 1 (by omega) (by decide) (out++[w%65536]) (by simp;omega)
 have h2:=CQ G n t7 t8 t9 k0 (f+1+1) (w/65536/65536) 2 (by omega) (by decide) (out++[w%65536]++[w/65536%65536]) (by simp;omega)
 have h3:=CQ G n t7 t8 t9 k0 (f+1) (w/65536/65536/65536) 3 (by omega) (by decide) (out++[w%65536]++[w/65536%65536]++[w/65536/65536%65536]) (by simp;omega)
 refine h0.trans (h1.trans (h2.trans (h3.trans ?_)))
 rw[jI,yY]
 have e:decide (((3+1:Nat):Int)<4)=false:=by decide
 rw[e,cond_false]
 unfold d4
 rw[Nat.div_div_eq_div_mul,Nat.div_div_eq_div_mul]
 simp[List.append_assoc]
theorem V3(G:List Int→(List Int→Option A)→Option A)(n:Nat)(hn:4<n)(k0:List Int→Option A)(ws:List Nat)(hw:Wd ws)(hl:ws.length<1000):∀ (d f i:Nat) (out:List Nat),i+d=ws.length→d<f→out.length≤4*i→
  nZ G n (al ws) (ws.length:Int) k0 f (i:Int) (al out)=k0 (al (out++(ws.drop i).flatMap d4))
 | _,0,_,_,_,h,_=>by omega
 | 0,f+1,i,out,hi,_,_=>by
  have:i=ws.length:=by omega
  subst this
  rw[nZ,yX]
  have e:decide ((ws.length:Int)<(ws.length:Int))=false:=by simp
  rw[e,cond_false,List.drop_length];simp
 | d+1,f+1,i,out,hi,hf,ho=>by
  have hlt:i<ws.length:=by omega
  rw[nZ,yX]
  have e:decide ((i:Int)<(ws.length:Int))=true:=by simp;omega
  have e2:IntKind.wrap .i64 ((i:Int)+1)=((i+1:Nat):Int):=by rw[ap (by omega) (by omega)];omega
  rw[e,cond_true,if_pos (by omega),Int.toNat_natCast,fJ ws i hlt,Option.bind_some,akH G n _ _ _ _ n _ hn (hw _ (List.getElem_mem hlt)) out (by omega),e2]
  rw[V3 G n hn k0 ws hw hl d f (i+1) (out++d4 ws[i]) (by omega) (by omega) (by simp[d4];omega)]
  rw[List.drop_eq_getElem_cons hlt,List.flatMap_cons,List.append_assoc]
theorem UU:∀ (ws:List Nat),Wd ws→aH (ws.flatMap d4)=ff ws∧cz (ws.flatMap d4)
 | [],_=>⟨rfl,fun x hx=>by cases hx⟩
 | w::r,h=>by
  obtain⟨h1,h2⟩:=UU r fun x hx=>h x (by simp[hx])
  have hw:=h w (by simp)
  refine⟨?_,fun x hx=>?_⟩
  ·have e:65536^(d4 w).length=18446744073709551616:=by simp[d4]
   rw[List.flatMap_cons,yq,abE w hw,h1,e,ff]
  ·rw[List.flatMap_cons] at hx
   rcases List.mem_append.1 hx with hx|hx
   ·exact abD w x hx
   ·exact h2 x hx
theorem V4(n:Nat)(ws:List Nat)(hw:Wd ws)(hl:ws.length<100)(hn:401<n)(g:List Int→Option A):l7 n (al ws) g=g (al (ar (ff ws))):=by
 unfold l7 Fh
 rw[di]
 have h0:=V3 (gR n) n (by omega) (fun y3=>gR n y3 fun r4=>g r4) ws hw (by omega) ws.length n 0 [] (by omega) (by omega) (by simp)
 refine Eq.trans h0 ?_
 rw[List.drop_zero,List.nil_append]
 obtain⟨h1,h2⟩:=UU ws hw
 have hlen:(ws.flatMap d4).length=4*ws.length:=by
  have:∀ ws:List Nat,(ws.flatMap d4).length=4*ws.length:=fun ws=>by
   induction ws with
   | nil=>rfl
   | cons w r ih=>rw[List.flatMap_cons,List.length_append,ih];simp[d4];omega
  exact this ws
 rw[NP n _ h2 (by omega) (by omega),h1]
theorem Vv(n:Nat)(a b:List Nat)(ha:cz a)(hb:cz b)(hab:a.length=b.length)(hl:a.length<100000)(g:Bool→Option A):∀ (i f:Nat),i≤a.length→i<f→
  nS n (al a) (al b) (fun y5=>g y5) (g false) f ((i:Int)-1)=g (decide (aH (a.take i)<aH (b.take i)))
 | _,0,_,h=>by omega
 | 0,f+1,_,_=>by
  rw[nS,yK]
  have e:decide (((0:Nat):Int)-1≥0)=false:=by decide
  rw[e,cond_false]
  simp[aH]
 | i+1,f+1,hi,hf=>by
  have hlt:i<a.length:=by omega
  have hlt2:i<b.length:=by omega
  rw[nS,yK]
  have e0:((i+1:Nat):Int)-1=(i:Int):=by omega
  rw[e0]
  have e:decide ((i:Int)≥0)=true:=by simp
  have e2:IntKind.wrap .i64 ((i:Int)-1)=(i:Int)-1:=ap (by omega) (by omega)
  rw[e,cond_true,if_pos (by omega),Int.toNat_natCast,fJ a i hlt,Option.bind_some,if_pos (by omega),fJ b i hlt2,Option.bind_some,e2,D1 hlt,D1 hlt2]
  have h1:=nH (a.take i) (ha.take i)
  have h2:=nH (b.take i) (hb.take i)
  rw[List.length_take,Nat.min_eq_left (by omega)] at h1 h2
  have ih:=Vv n a b ha hb hab hl g i f (by omega) (by omega)
  by_cases hq:a[i]=b[i]
  ·have e3:(((a[i]:Nat):Int) != ((b[i]:Nat):Int))=false:=by rw[hq];simp
   rw[e3,cond_false,ih,hq]
   congr 1
   simp
  ·have e3:(((a[i]:Nat):Int) != ((b[i]:Nat):Int))=true:=by simp;omega
   rw[e3,cond_true,if_pos (by omega),Option.bind_some,if_pos (by omega),Option.bind_some]
   congr 1
   rw[decide_eq_decide]
   generalize aH (a.take i)=p at *
   generalize aH (b.take i)=q at *
   generalize a[i]=x at *
   generalize b[i]=y at *
   generalize 65536^i=M at *
   constructor
   ·intro h
    have:M*(x+1)≤M*y:=Nat.mul_le_mul_left _ (by omega)
    rw[Nat.mul_add,Nat.mul_one] at this
    omega
   ·intro h
    rcases Nat.lt_or_ge x y with h3|h3
    ·omega
    ·have:M*(y+1)≤M*x:=Nat.mul_le_mul_left _ (by omega)
     rw[Nat.mul_add,Nat.mul_one] at this
     omega
theorem vY(n x y:Nat)(hx:(ar x).length<100000)(hn:(ar x).length<n)(g:Bool→Option A):jb n (al (ar x)) (al (ar y)) g=g (decide (x<y)):=by
 unfold jb EL
 rw[di,di]
 by_cases h:(ar x).length=(ar y).length
 ·have e:(((ar x).length:Int) != ((ar y).length:Int))=false:=by rw[h];simp
  have e2:IntKind.wrap .i64 (((ar x).length:Int)-1)=((ar x).length:Int)-1:=ap (by omega) (by omega)
  rw[e,cond_false,e2]
  have:=Vv n (ar x) (ar y) (nO x) (nO y) h hx g (ar x).length n (Nat.le_refl _) hn
  rw[List.take_length,h,List.take_length,nG,nG] at this
  rw[h]
  exact this
 ·have e:(((ar x).length:Int) != ((ar y).length:Int))=true:=by simp;omega
  rw[e,cond_true]
  congr 1
  rw[decide_eq_decide]
  constructor
  ·intro h1;exact Qq (by omega)
  ·intro h1
   rcases Nat.lt_or_ge (ar x).length (ar y).length with h2|h2
   ·omega
   ·have:=Qq (x:=y) (y:=x) (by omega);omega
theorem Wg(n k:Nat)(hk:k<100000)(g:List Int→Option A):∀ (d f i:Nat),i+d=k%16→d<f→
  oQ n (k:Int) g f (i:Int) (al (List.replicate (k/16) 0++[2^i]))=g (al (List.replicate (k/16) 0++[2^(k%16)]))
 | _,0,_,_,h=>by omega
 | 0,f+1,i,hi,_=>by
  have:i=k%16:=by omega
  subst this
  rw[oQ,AK]
  have e:decide (((k%16:Nat):Int)<Int.tmod (k:Int) 16)=false:=by rw[show(16:Int)=((16:Nat):Int) from rfl,dy];simp
  rw[e,cond_false]
 | d+1,f+1,i,hi,hf=>by
  rw[oQ,AK]
  have e:decide ((i:Int)<Int.tmod (k:Int) 16)=true:=by rw[show(16:Int)=((16:Nat):Int) from rfl,dy];simp;omega
  have e1:IntKind.wrap .i64 (Int.tdiv (k:Int) 16)=((k/16:Nat):Int):=by rw[show(16:Int)=((16:Nat):Int) from rfl,dn];exact ap (by omega) (by omega)
  have e2:IntKind.wrap .i64 ((i:Int)+1)=((i+1:Nat):Int):=by rw[ap (by omega) (by omega)];omega
  have hlen:(List.replicate (k/16) 0++[2^i]).length=k/16+1:=by simp
  have hp:2^(i+1)≤2^16:=Nat.pow_le_pow_right (by decide) (by omega)
  have hat:(List.replicate (k/16) 0++[2^i])[k/16]'(by omega)=2^i:=by rw[List.getElem_append_right (by simp)];simp
  have e3:IntKind.wrap .i64 (((2^i:Nat):Int)*2)=((2^(i+1):Nat):Int):=by
   rw[Nat.pow_succ] at hp ⊢
   rw[ap (by omega) (by omega)];omega
  have hset:(List.replicate (k/16) 0++[2^i]).set (k/16) (2^(i+1))=List.replicate (k/16) 0++[2^(i+1)]:=by
   rw[List.set_append_right _ _ (by simp)];simp
  rw[e,cond_true,e1,if_pos (by omega),if_pos (by rw[di,hlen];omega),Int.toNat_natCast,fJ _ _ (by omega),Option.bind_some,hat,if_pos (by omega),if_pos (by rw[di,hlen];omega),if_pos (by rw[di,hlen];omega),e2,e3,fK,hset]
  exact Wg n k hk g d f (i+1) (by omega) (by omega)
theorem M4(n k:Nat)(hk:k<10000)(hn:20<n)(g:List Int→Option A):ir n (k:Int) g=g (al (ar (2^k))):=by
 unfold ir Ie
 have e1:IntKind.wrap .i64 (Int.tdiv (k:Int) 16)=((k/16:Nat):Int):=by rw[show(16:Int)=((16:Nat):Int) from rfl,dn];exact ap (by omega) (by omega)
 have e2:IntKind.wrap .i64 (((k/16:Nat):Int)+1)=((k/16+1:Nat):Int):=by rw[ap (by omega) (by omega)];omega
 have hz:List.replicate (k/16+1) (0:Int)=al (List.replicate (k/16+1) 0):=by simp[al]
 have hset:(List.replicate (k/16+1) 0).set (k/16) 1=List.replicate (k/16) 0++[2^0]:=by
  rw[List.replicate_succ',List.set_append_right _ _ (by simp)];simp
 rw[e1,e2,if_pos (by omega),if_pos (by omega),if_pos (by omega),Int.toNat_natCast,if_pos (by omega),if_pos (by simp;omega),Int.toNat_natCast,if_pos (by simp),hz,show(1:Int)=((1:Nat):Int) from rfl,fK,hset]
 have h:=Wg n k (by omega) (fun y2=>g y2) (k%16) n 0 (by omega) (by omega)
 refine Eq.trans h ?_
 have hd:cz (List.replicate (k/16) 0++[2^(k%16)]):=fun x hx=>by
  have hp:2^(k%16)≤2^15:=Nat.pow_le_pow_right (by decide) (by omega)
  simp only[List.mem_append,List.mem_replicate,List.mem_singleton] at hx
  rcases hx with ⟨_,rfl⟩|rfl<;>omega
 have hb:aH (List.replicate (k/16) 0++[2^(k%16)])=2^k:=by
  rw[PF,D2,List.length_replicate,Nat.zero_add,show 65536=2^16 from rfl,← Nat.pow_mul,← Nat.pow_add]
  congr 1;omega
 rw[← hb,Eo _ hd fun _=>by simp]
theorem MT(G:List Int→(List Int→Option A)→Option A)(n:Nat)(a b:List Nat)(ha:cz a)(hb:cz b)(i:Nat)(hi:i<a.length)(hl:a.length+b.length<100000)(T:Nat)(hT:T<65536^(i+1+b.length))(k0:List Int→Option A) :
  ∀ (d f j c:Nat) (out:List Nat),j+d=b.length+1→d<f→cz out→out.length=a.length+b.length+1→c<65536→aH out+65536^(i+j)*(c+a[i]*aH (b.drop j))=T→
  ∃ out',cz out'∧out'.length=a.length+b.length+1∧aH out'=T∧mn G n (al a) (al b) (i:Int) k0 f (c:Int) (j:Int) (al out)=k0 (al out')
 | _,0,_,_,_,_,h,_,_,_,_=>by omega
 | d,f+1,j,c,out,hj,hf,hd,ho,hc,hv=>by
  have hij:IntKind.wrap .i64 ((i:Int)+(j:Int))=((i+j:Nat):Int):=by rw[ap (by omega) (by omega)];omega
  have e2:IntKind.wrap .i64 ((j:Int)+1)=((j+1:Nat):Int):=by rw[ap (by omega) (by omega)];omega
  by_cases hjb:j<b.length
  ·have e:decide ((j:Int)<((al b).length:Int))=true:=by rw[di];simp;omega
   have hlt:i+j<out.length:=by omega
   have x1:=hd.at hlt
   have x2:=ha.at hi
   have x3:=hb.at hjb
   have x4:a[i]*b[j]≤65535*65535:=Nat.mul_le_mul (by omega) (by omega)
   have n1:IntKind.wrap .i64 (((out[i+j]:Nat):Int)+(c:Int))=((out[i+j]+c:Nat):Int):=by rw[ap (by omega) (by omega)];omega
   have n2:IntKind.wrap .i64 (((a[i]:Nat):Int)*((b[j]:Nat):Int))=((a[i]*b[j]:Nat):Int):=by rw[← Int.natCast_mul];exact ap (by omega) (by omega)
   have n3:IntKind.wrap .i64 (((out[i+j]+c:Nat):Int)+((a[i]*b[j]:Nat):Int))=((out[i+j]+c+a[i]*b[j]:Nat):Int):=by rw[ap (by omega) (by omega)];omega
   have n4:IntKind.wrap .i64 (Int.tdiv ((out[i+j]+c+a[i]*b[j]:Nat):Int) 65536)=(((out[i+j]+c+a[i]*b[j])/65536:Nat):Int):=by rw[show(65536:Int)=((65536:Nat):Int) from rfl,dn];exact ap (by omega) (by omega)
   have n5:Int.tmod ((out[i+j]+c+a[i]*b[j]:Nat):Int) 65536=(((out[i+j]+c+a[i]*b[j])%65536:Nat):Int):=by rw[show(65536:Int)=((65536:Nat):Int) from rfl,dy]
   obtain⟨d',rfl⟩:∃ d',d=d'+1:=⟨d-1,by omega⟩
   have hs:=D0 out (i+j) ((out[i+j]+c+a[i]*b[j])%65536) hlt
   rw[PE hjb] at hv
   have hv':aH (out.set (i+j) ((out[i+j]+c+a[i]*b[j])%65536))+65536^(i+(j+1))*((out[i+j]+c+a[i]*b[j])/65536+a[i]*aH (b.drop (j+1)))=T:=by
    rw[← Nat.add_assoc,Nat.pow_succ]
    generalize 65536^(i+j)=P at *
    have q:=Nat.div_add_mod (out[i+j]+c+a[i]*b[j]) 65536
    have hm:a[i]*(b[j]+65536*aH (b.drop (j+1)))=a[i]*b[j]+65536*(a[i]*aH (b.drop (j+1))):=by rw[Nat.mul_add,Nat.mul_left_comm]
    rw[hm] at hv
    generalize a[i]*b[j]=ab at *
    generalize a[i]*aH (b.drop (j+1))=aB at *
    generalize out[i+j]=o at *
    generalize (o+c+ab)/65536=q1 at *
    generalize (o+c+ab)%65536=r1 at *
    have h5:P*(o+c+ab)=P*(65536*q1+r1):=by rw[q]
    have h6:P*65536*(q1+aB)=P*(65536*q1)+P*(65536*aB):=by rw[Nat.mul_assoc,Nat.mul_add,Nat.mul_add]
    have h7:P*(c+(ab+65536*aB))=P*c+P*ab+P*(65536*aB):=by rw[Nat.mul_add,Nat.mul_add,Nat.add_assoc]
    rw[Nat.mul_add,Nat.mul_add,Nat.mul_add] at h5
    rw[h6]
    rw[h7] at hv
    omega
   obtain⟨out',g1,g2,g3,g4⟩:=MT G n a b ha hb i hi hl T hT k0 d' f (j+1) ((out[i+j]+c+a[i]*b[j])/65536) (out.set (i+j) ((out[i+j]+c+a[i]*b[j])%65536)) (by omega) (by omega) (hd.set _ (by omega)) (by simp[ho]) (by omega) hv'
   refine⟨out',g1,g2,g3,?_⟩
   rw[mn,uY]
   rw[e,cond_true,hij,if_pos (by omega),if_pos (by rw[di];omega),Int.toNat_natCast,fJ out _ hlt,Option.bind_some,cond_true,if_pos (by omega),Int.toNat_natCast,fJ a i hi,Option.bind_some,if_pos (by omega),Int.toNat_natCast,fJ b j hjb,Option.bind_some,
    if_pos (by omega),if_pos (by rw[di];omega),if_pos (by rw[di];omega),n1,n2,n3,n4,n5,e2,fK]
   exact g4
  ·have e:decide ((j:Int)<((al b).length:Int))=false:=by rw[di];simp;omega
   have hdr:b.drop j=[]:=List.drop_eq_nil_of_le (by omega)
   rw[hdr] at hv
   simp only[aH,Nat.mul_zero,Nat.add_zero] at hv
   by_cases hc0:c=0
   ·subst hc0
    refine⟨out,hd,ho,by simpa using hv,?_⟩
    rw[mn,uY]
    have e3:decide (((0:Nat):Int)>0)=false:=by decide
    rw[e,cond_false,e3,cond_false]
   ·have e3:decide ((c:Int)>0)=true:=by simp;omega
    have hjl:j≤b.length:=by
     rcases Nat.lt_or_ge b.length j with h|h
     ·exfalso
      have h1:65536^(i+1+b.length)≤65536^(i+j):=Nat.pow_le_pow_right (by decide) (by omega)
      have h2:65536^(i+j)*1≤65536^(i+j)*c:=Nat.mul_le_mul_left _ (by omega)
      omega
     ·exact h
    have hlt:i+j<out.length:=by omega
    have x1:=hd.at hlt
    have n1:IntKind.wrap .i64 (((out[i+j]:Nat):Int)+(c:Int))=((out[i+j]+c:Nat):Int):=by rw[ap (by omega) (by omega)];omega
    have n4:IntKind.wrap .i64 (Int.tdiv ((out[i+j]+c:Nat):Int) 65536)=(((out[i+j]+c)/65536:Nat):Int):=by rw[show(65536:Int)=((65536:Nat):Int) from rfl,dn];exact ap (by omega) (by omega)
    have n5:Int.tmod ((out[i+j]+c:Nat):Int) 65536=(((out[i+j]+c)%65536:Nat):Int):=by rw[show(65536:Int)=((65536:Nat):Int) from rfl,dy]
    obtain⟨d',rfl⟩:∃ d',d=d'+1:=⟨d-1,by omega⟩
    have hs:=D0 out (i+j) ((out[i+j]+c)%65536) hlt
    have hdr2:b.drop (j+1)=[]:=List.drop_eq_nil_of_le (by omega)
    have hv':aH (out.set (i+j) ((out[i+j]+c)%65536))+65536^(i+(j+1))*((out[i+j]+c)/65536+a[i]*aH (b.drop (j+1)))=T:=by
     rw[hdr2,← Nat.add_assoc,Nat.pow_succ]
     simp only[aH,Nat.mul_zero,Nat.add_zero]
     generalize 65536^(i+j)=P at *
     have q:=Nat.div_add_mod (out[i+j]+c) 65536
     generalize out[i+j]=o at *
     generalize (o+c)/65536=q1 at *
     generalize (o+c)%65536=r1 at *
     have h5:P*(o+c)=P*(65536*q1+r1):=by rw[q]
     rw[Nat.mul_add,Nat.mul_add] at h5
     rw[Nat.mul_assoc]
     omega
    obtain⟨out',g1,g2,g3,g4⟩:=MT G n a b ha hb i hi hl T hT k0 d' f (j+1) ((out[i+j]+c)/65536) (out.set (i+j) ((out[i+j]+c)%65536)) (by omega) (by omega) (hd.set _ (by omega)) (by simp[ho]) (by omega) hv'
    refine⟨out',g1,g2,g3,?_⟩
    rw[mn,uY]
    rw[e,cond_false,e3,cond_true,hij,if_pos (by omega),if_pos (by rw[di];omega),Int.toNat_natCast,fJ out _ hlt,Option.bind_some,cond_false,if_pos (by omega),if_pos (by rw[di];omega),if_pos (by rw[di];omega),n1,n4,n5,e2,fK]
    exact g4
theorem VU(G:List Int→(List Int→Option A)→Option A)(n:Nat)(a b:List Nat)(ha:cz a)(hb:cz b)(hl:a.length+b.length<100000)(hn:b.length+2<n)(k0:List Int→Option A) :
  ∀ (d f i:Nat) (out:List Nat),i+d=a.length→d<f→cz out→out.length=a.length+b.length+1→aH out=aH (a.take i)*aH b→
  ∃ out',cz out'∧out'.length=a.length+b.length+1∧aH out'=aH a*aH b∧mj G n (al a) (al b) k0 f (i:Int) (al out)=k0 (al out')
 | _,0,_,_,_,h,_,_,_=>by omega
 | 0,f+1,i,out,hi,_,hd,ho,hv=>by
  have:i=a.length:=by omega
  subst this
  refine⟨out,hd,ho,by rw[List.take_length] at hv;exact hv,?_⟩
  rw[mj,AN]
  have e:decide ((a.length:Int)<((al a).length:Int))=false:=by rw[di];simp
  rw[e,cond_false]
 | d+1,f+1,i,out,hi,hf,hd,ho,hv=>by
  have hlt:i<a.length:=by omega
  have e:decide ((i:Int)<((al a).length:Int))=true:=by rw[di];simp;omega
  have e2:IntKind.wrap .i64 ((i:Int)+1)=((i+1:Nat):Int):=by rw[ap (by omega) (by omega)];omega
  have h1:=nH (a.take (i+1)) (ha.take _)
  have h2:=nH b hb
  rw[List.length_take,Nat.min_eq_left (by omega)] at h1
  have hT:aH (a.take (i+1))*aH b<65536^(i+1+b.length):=by
   rw[Nat.pow_add]
   exact Nat.mul_lt_mul_of_lt_of_le h1 (Nat.le_of_lt h2) (Nat.pow_pos (by decide))
  have hv2:aH out+65536^(i+0)*(0+a[i]*aH (b.drop 0))=aH (a.take (i+1))*aH b:=by
   rw[hv,D1 hlt,List.drop_zero,Nat.add_mul,Nat.add_zero,Nat.zero_add,Nat.mul_assoc]
  obtain⟨o1,g1,g2,g3,g4⟩:=MT G n a b ha hb i hlt hl _ hT (fun y1=>mj G n (al a) (al b) k0 f (IntKind.wrap .i64 ((i:Int)+1)) y1) (b.length+1) n 0 0 out (by omega) (by omega) hd ho (by omega) hv2
  obtain⟨o2,g5,g6,g7,g8⟩:=VU G n a b ha hb hl hn k0 d f (i+1) o1 (by omega) (by omega) g1 g2 g3
  refine⟨o2,g5,g6,g7,?_⟩
  rw[mj,AN,e,cond_true]
  refine Eq.trans g4 ?_
  rw[e2]
  exact g8
theorem VV(n x y:Nat)(hl:(ar x).length+(ar y).length<1000)(hn:(ar x).length+(ar y).length+2<n)(g:List Int→Option A):iu n (al (ar x)) (al (ar y)) g=g (al (ar (x*y))):=by
 unfold iu Ik
 rw[di,di]
 have e1:IntKind.wrap .i64 (((ar x).length:Int)+((ar y).length:Int))=(((ar x).length+(ar y).length:Nat):Int):=by rw[ap (by omega) (by omega)];omega
 have e2:IntKind.wrap .i64 ((((ar x).length+(ar y).length:Nat):Int)+1)=(((ar x).length+(ar y).length+1:Nat):Int):=by rw[ap (by omega) (by omega)];omega
 have hz:List.replicate ((ar x).length+(ar y).length+1) (0:Int)=al (List.replicate ((ar x).length+(ar y).length+1) 0):=by simp[al]
 rw[e1,e2,if_pos (by omega),if_pos (by omega),if_pos (by omega),Int.toNat_natCast,hz]
 have hzd:cz (List.replicate ((ar x).length+(ar y).length+1) 0):=fun x hx=>by
  have:=(List.mem_replicate.1 hx).2;omega
 obtain⟨o,g1,g2,g3,g4⟩:=VU (gR n) n (ar x) (ar y) (nO x) (nO y) (by omega) (by omega) (fun y2=>gR n y2 fun r3=>g r3) (ar x).length n 0 _ (by omega) (by omega) hzd (by simp) (by rw[D2];simp[aH])
 refine Eq.trans g4 ?_
 rw[NP n o g1 (by omega) (by omega),g3,nG,nG]
theorem rZ(x m:Nat)(h:x<2^(16*m)):(ar x).length≤m:=Ep m x (by rw[show 65536=2^16 from by decide,← Nat.pow_mul];exact h)
theorem akY(a b:Nat)(h:a<b):2^a<2^b:=Nat.pow_lt_pow_right (by decide) h
theorem abK(x a m:Nat)(ha:a<16*m)(h:x≤2^a):(ar x).length≤m:=rZ x m (Nat.lt_of_le_of_lt h (akY a (16*m) ha))
theorem jG(x:Nat)(h:x<2^256):(ar x).length≤16:=rZ x 16 h
theorem Qn:∀ (i x:Nat),(h:i<(ar x).length)→(ar x)[i]=x/65536^i%65536
 | i,x,h=>by
  have hx:x≠0:=fun e=>by subst e;rw[gP] at h;exact Nat.not_lt_zero _ h
  have e:=gO hx
  match i with
  | 0=>
   simp only[e,List.getElem_cons_zero,Nat.pow_zero,Nat.div_one]
  | i+1=>
   have h2:i<(ar (x/65536)).length:=by rw[e] at h;simp at h;omega
   have:=Qn i (x/65536) h2
   simp only[e,List.getElem_cons_succ]
   rw[this,Nat.div_div_eq_div_mul,Nat.pow_succ,Nat.mul_comm]
def dk(x i j:Nat):Nat:=x/2^(16*max i (4*j))%2^(16*(4*j+4-max i (4*j)))
def ow(x i:Nat):List Nat:=[dk x i 0,dk x i 1,dk x i 2,dk x i 3]
theorem akR(x i j:Nat):dk x i j<18446744073709551616:=by
 refine Nat.lt_of_lt_of_le (Nat.mod_lt _ (Nat.two_pow_pos _)) ?_
 rw[show 18446744073709551616=2^64 from by decide]
 exact Nat.pow_le_pow_right (by decide) (by omega)
theorem Wb(x i j:Nat)(h:4*j+4≤i):dk x i j=0:=by
 unfold dk
 rw[show 4*j+4-max i (4*j)=0 from by omega,Nat.mul_zero,Nat.pow_zero,Nat.mod_one]
theorem CT(x i j:Nat)(h:x<2^(16*i)):dk x i j=0:=by
 unfold dk
 rw[Nat.div_eq_of_lt (Nat.lt_of_lt_of_le h (Nat.pow_le_pow_right (by decide) (by omega))),Nat.zero_mod]
theorem CU(x j:Nat):dk x 0 j=wd x j:=by
 unfold dk wd
 rw[show max 0 (4*j)=4*j from by omega,show 4*j+4-4*j=4 from by omega,show 16*(4*j)=64*j from by omega]
theorem akS(x i:Nat):dk x i (i/4)=dk x (i+1) (i/4)*65536+x/65536^i%65536:=by
 unfold dk
 have h1:max i (4*(i/4))=i:=by omega
 have h2:max (i+1) (4*(i/4))=i+1:=by omega
 have h3:16*(4*(i/4)+4-i)=16+16*(4*(i/4)+4-(i+1)):=by omega
 rw[h1,h2,h3,Nat.pow_add 2 16,Nat.mod_mul,show 16*(i+1)=16*i+16 from by omega,Nat.pow_add,← Nat.div_div_eq_div_mul,show(65536:Nat)=2^16 from by decide,← Nat.pow_mul]
 rw[Nat.mul_comm (2^16),Nat.add_comm]
theorem wi(x i j:Nat)(h:j≠i/4):dk x (i+1) j=dk x i j:=by
 rcases Nat.lt_or_ge (i/4) j with h1|h1
 ·unfold dk
  rw[show max (i+1) (4*j)=4*j from by omega,show max i (4*j)=4*j from by omega]
 ·rw[Wb _ _ _ (by omega),Wb _ _ _ (by omega)]
theorem MZ(x i j:Nat)(h:j<4):(ow x i)[j]?=some (dk x i j):=by
 rcases j with _|_|_|_|j
 ·rfl
 ·rfl
 ·rfl
 ·rfl
 ·omega
theorem akV(x i:Nat)(h:i<16):(ow x (i+1)).set (i/4) (dk x i (i/4))=ow x i:=by
 apply List.ext_getElem?
 intro j
 by_cases hj:j<4
 ·rw[MZ x i j hj]
  by_cases he:i/4=j
  ·subst he;rw[List.getElem?_set_self (by exact hj)]
  ·rw[List.getElem?_set_ne he,MZ _ _ _ hj,wi _ _ _ (fun e=>he e.symm)]
 ·rw[List.getElem?_eq_none (by rw[List.length_set];show 4≤j;omega),List.getElem?_eq_none (by show 4≤j;omega)]
theorem anh(n:Nat)(x:Nat)(t2:List Int)(k0:List Int→Option A)(hl:(ar x).length<100000):∀ (i f:Nat),i≤(ar x).length→i<f→
  oS n (al (ar x)) t2 k0 f ((i:Int)-1) (al (ow x i))=k0 (al (uw x)):=by
 intro i
 induction i with
 | zero=>
  intro f _ hf
  obtain⟨f,rfl⟩:∃ g,f=g+1:=⟨f-1,by omega⟩
  rw[oS,AP,decide_eq_false (show ¬ ((0:Nat):Int)-1≥0 by omega),cond_false]
  have e:ow x 0=uw x:=by rw[XV];unfold ow;rw[CU,CU,CU,CU]
  rw[e]
 | succ i ih=>
  intro f hi hf
  obtain⟨f,rfl⟩:∃ g,f=g+1:=⟨f-1,by omega⟩
  have e0:((i+1:Nat):Int)-1=(i:Int):=by omega
  have e1:IntKind.wrap .i64 ((i:Int)-1)=(i:Int)-1:=ap (by omega) (by omega)
  rw[oS,AP,e0,decide_eq_true (show(i:Int)≥0 by omega),cond_true,e1]
  by_cases h16:i<16
  ·have e2:IntKind.wrap .i64 (Int.tdiv (i:Int) 4)=((i/4:Nat):Int):=by
    rw[show(4:Int)=((4:Nat):Int) from rfl,dn];exact ap (by omega) (by omega)
   have hlt:i<(ar x).length:=by omega
   have ho:=akS x i
   have hb:=akR x i (i/4)
   have hd:x/65536^i%65536<65536:=Nat.mod_lt _ (by decide)
   have e3:(al (ow x (i+1)))[i/4]?=some ((dk x (i+1) (i/4):Nat):Int):=by rw[Cw,MZ _ _ _ (by omega)];rfl
   have e4:IntKind.wrap .u64 (IntKind.wrap .u64 (((dk x (i+1) (i/4):Nat):Int)*65536)+IntKind.wrap .u64 ((x/65536^i%65536:Nat):Int))=((dk x i (i/4):Nat):Int):=by
    rw[dU (x/65536^i%65536) (by omega),show((dk x (i+1) (i/4):Nat):Int)*65536=((dk x (i+1) (i/4)*65536:Nat):Int) from by omega,dU _ (by omega),← Int.natCast_add,dU _ (by omega),← ho]
   rw[decide_eq_true (show(i:Int)<16 by omega),cond_true,e2,if_pos (by omega),if_pos (by omega),Int.toNat_natCast,Int.toNat_natCast,e3,Option.bind_some,if_pos (by omega),fJ _ i hlt,Option.bind_some,if_pos (by omega),if_pos (by omega),if_pos (by omega),Qn i x hlt,e4,fK,akV x i h16]
   exact ih f (by omega) (by omega)
  ·rw[decide_eq_false (show ¬ (i:Int)<16 by omega),cond_false]
   have e2:ow x (i+1)=ow x i:=by
    unfold ow
    rw[wi x i 0 (by omega),wi x i 1 (by omega),wi x i 2 (by omega),wi x i 3 (by omega)]
   rw[e2]
   exact ih f (by omega) (by omega)
theorem yB(x:Nat):x<2^(16*(ar x).length):=by
 have h:=nH (ar x) (nO x)
 rw[nG,show 65536=2^16 from by decide,← Nat.pow_mul] at h
 exact h
theorem Yb(n x:Nat)(hl:(ar x).length<100000)(hn:(ar x).length<n)(g:List Int→Option A):mo n (al (ar x)) g=g (al (uw x)):=by
 unfold mo Io
 have e:ow x (ar x).length=[0,0,0,0]:=by
  unfold ow
  rw[CT x _ 0 (yB x),CT x _ 1 (yB x),CT x _ 2 (yB x),CT x _ 3 (yB x)]
 have h:=anh n x [0,0,0,0] (fun y3=>g y3) hl (ar x).length n (Nat.le_refl _) hn
 rw[e] at h
 rw[di,ap (x:=((ar x).length:Int)-1) (by omega) (by omega)]
 exact h
theorem ams(i v:Nat)(o:List Nat):(List.replicate (i+1) 0++o).set i v=List.replicate i 0++v::o:=by
 rw[List.replicate_succ',List.append_assoc,List.set_append_right _ _ (by simp)]
 simp
theorem ajL(n:Nat)(a:List Nat)(ha:cz a)(hl:a.length<100000)(k0:List Int→Option A):∀ (i f:Nat) (o:List Nat),i≤a.length→i<f→o.length+i=a.length→cz o→aH o=aH (a.drop i)/2→
  ∃ o',o'.length=a.length∧cz o'∧aH o'=aH a/2∧oR (gR n) n (al a) k0 f ((aH (a.drop i)%2:Nat):Int) ((i:Int)-1) (al (List.replicate i 0++o))=k0 (al o'):=by
 intro i
 induction i with
 | zero=>
  intro f o _ hf ho hd hb
  obtain⟨f,rfl⟩:∃ g,f=g+1:=⟨f-1,by omega⟩
  refine⟨o,by omega,hd,by rw[hb,List.drop_zero],?_⟩
  rw[oR,AM,decide_eq_false (show ¬ ((0:Nat):Int)-1≥0 by omega),cond_false]
  rfl
 | succ i ih=>
  intro f o hi hf ho hd hb
  obtain⟨f,rfl⟩:∃ g,f=g+1:=⟨f-1,by omega⟩
  have hlt:i<a.length:=by omega
  have ha1:=ha.at hlt
  have hdrop:=PE hlt
  generalize hT:aH (a.drop (i+1))=T at *
  have e0:((i+1:Nat):Int)-1=(i:Int):=by omega
  have e1:IntKind.wrap .i64 ((i:Int)-1)=(i:Int)-1:=ap (by omega) (by omega)
  have e2:IntKind.wrap .i64 (IntKind.wrap .i64 (((T%2:Nat):Int)*65536)+((a[i]:Nat):Int))=((T%2*65536+a[i]:Nat):Int):=by
   rw[ap (x:=((T%2:Nat):Int)*65536) (by omega) (by omega),ap (by omega) (by omega)];omega
  have e3:IntKind.wrap .i64 (Int.tdiv ((T%2*65536+a[i]:Nat):Int) 2)=(((T%2*65536+a[i])/2:Nat):Int):=by
   rw[show(2:Int)=((2:Nat):Int) from rfl,dn];exact ap (by omega) (by omega)
  have e4:Int.tmod ((T%2*65536+a[i]:Nat):Int) 2=((aH (a.drop i)%2:Nat):Int):=by
   rw[show(2:Int)=((2:Nat):Int) from rfl,dy];omega
  have hlen:(al (List.replicate (i+1) 0++o)).length=a.length:=by rw[di,List.length_append,List.length_replicate];omega
  rw[oR,AM,e0,decide_eq_true (show(i:Int)≥0 by omega),cond_true,if_pos (by omega),Int.toNat_natCast,fJ a i hlt,Option.bind_some,if_pos (by omega),if_pos (by omega),if_pos (by omega),e1,e2,e3,e4,fK,ams]
  refine ih f ((T%2*65536+a[i])/2::o) (by omega) (by omega) (by rw[List.length_cons];omega) (fun x hx=>?_) ?_
  ·rcases List.mem_cons.1 hx with rfl|hx
   ·omega
   ·exact hd x hx
  ·rw[aH,hb,hdrop];omega
theorem U4(n x:Nat)(hl:(ar x).length<100000)(hn:(ar x).length<n)(g:List Int→Option A):mg n (al (ar x)) g=g (al (ar (x/2))):=by
 unfold mg Ih
 obtain⟨o,h1,h2,h3,h4⟩:=ajL n (ar x) (nO x) hl (fun y2=>gR n y2 fun r3=>g r3) (ar x).length n [] (Nat.le_refl _) hn (by simp) (fun x hx=>by cases hx) (by rw[List.drop_length];rfl)
 rw[di,if_pos (by omega),if_pos (by omega),if_pos (by omega),ap (x:=((ar x).length:Int)-1) (by omega) (by omega),Int.toNat_natCast]
 rw[List.drop_length,List.append_nil] at h4
 have e:al (List.replicate (ar x).length 0)=List.replicate (ar x).length (0:Int):=by simp[al]
 rw[e] at h4
 refine Eq.trans h4 ?_
 rw[NP n o h2 (by omega) (by omega),h3,nG]
theorem ak7(n:Nat)(hn:100<n)(x:Nat)(hx:x<2^256)(k0:Int→Option A):∀ (d f e:Nat),e+d=bs x→d<f→
  oq (ir n) (jb n) (mg n) (iu n) (mo n) n (al (ar x)) k0 f (e:Int)=k0 ((bs x:Nat):Int):=by
 have hb:=DX hx
 have hl:=jG x hx
 intro d
 induction d with
 | zero=>
  intro f e he hf
  obtain⟨f,rfl⟩:∃ g,f=g+1:=⟨f-1,by omega⟩
  have:e=bs x:=by omega
  subst this
  rw[oq,zv]
  by_cases h:bs x<32
  ·have e1:IntKind.wrap .i64 (8*((bs x:Nat):Int))=((8*bs x:Nat):Int):=by rw[ap (by omega) (by omega)];omega
   rw[decide_eq_true (show((bs x:Nat):Int)<32 by omega),cond_true,e1,M4 n _ (by omega) (by omega),vY n _ _ (by omega) (by omega),decide_eq_true (VI x),Bool.not_true,cond_false]
  ·rw[decide_eq_false (show ¬ ((bs x:Nat):Int)<32 by omega),cond_false]
 | succ d ih=>
  intro f e he hf
  obtain⟨f,rfl⟩:∃ g,f=g+1:=⟨f-1,by omega⟩
  have e1:IntKind.wrap .i64 (8*(e:Int))=((8*e:Nat):Int):=by rw[ap (by omega) (by omega)];omega
  have e2:IntKind.wrap .i64 ((e:Int)+1)=((e+1:Nat):Int):=by rw[ap (by omega) (by omega)];omega
  have h:=aj8 (x:=x) (k:=e) (by omega)
  rw[oq,zv,decide_eq_true (show(e:Int)<32 by omega),cond_true,e1,M4 n _ (by omega) (by omega),vY n _ _ (by omega) (by omega),decide_eq_false (by omega),Bool.not_false,cond_true,e2]
  exact ih f (e+1) (by omega) (by omega)
theorem ak8(n:Nat)(hn:1000≤n)(e:Nat)(he:e≤32)(k0:List Int→Option A):∀ (d f i m:Nat),i+d=8*(e-3)→d<f→m<2^256→
  ot (ir n) (jb n) (mg n) (iu n) (mo n) n (e:Int) k0 f (al (ar m)) (i:Int)=k0 (al (ar (m/2^d))):=by
 intro d
 induction d with
 | zero=>
  intro f i m hi hf hm
  obtain⟨f,rfl⟩:∃ g,f=g+1:=⟨f-1,by omega⟩
  have e1:IntKind.wrap .i64 (8*IntKind.wrap .i64 ((e:Int)-3))=8*((e:Int)-3):=by rw[ap (x:=(e:Int)-3) (by omega) (by omega),ap (by omega) (by omega)]
  rw[ot,zx,e1,decide_eq_false (show ¬ (i:Int)<8*((e:Int)-3) by omega),cond_false,Nat.pow_zero,Nat.div_one]
 | succ d ih=>
  intro f i m hi hf hm
  obtain⟨f,rfl⟩:∃ g,f=g+1:=⟨f-1,by omega⟩
  have hl:=jG m hm
  have e1:IntKind.wrap .i64 (8*IntKind.wrap .i64 ((e:Int)-3))=8*((e:Int)-3):=by rw[ap (x:=(e:Int)-3) (by omega) (by omega),ap (by omega) (by omega)]
  have e2:IntKind.wrap .i64 ((i:Int)+1)=((i+1:Nat):Int):=by rw[ap (by omega) (by omega)];omega
  rw[ot,zx,e1,decide_eq_true (show(i:Int)<8*((e:Int)-3) by omega),cond_true,U4 n m (by omega) (by omega),e2,ih f (i+1) (m/2) (by omega) (by omega) (Nat.lt_of_le_of_lt (Nat.div_le_self _ _) hm),Nat.div_div_eq_div_mul,Nat.pow_succ,Nat.mul_comm]
theorem abI:([256]:List Int)=al (ar 256):=by rw[gO (by decide),show 256/65536=0 from rfl,gP];rfl
theorem abJ:([0,128]:List Int)=al (ar 8388608):=by rw[gO (by decide),show 8388608/65536=128 from rfl,gO (by decide),show 128/65536=0 from rfl,gP];rfl
theorem ak9(n:Nat)(hn:1000≤n)(e:Nat)(k0:List Int→Option A)(E:Int):∀ (d f i m:Nat),(i<3→i+d=3)→(3≤i→d=0)→d<f→m<2^256→m*2^(8*d)<2^256→
  ou (ir n) (jb n) (mg n) (iu n) (mo n) n E k0 f (al (ar m)) (i:Int)=k0 (al (ar (m*2^(8*d)))):=by
 intro d
 induction d with
 | zero=>
  intro f i m hi hi2 hf hm hm2
  obtain⟨f,rfl⟩:∃ g,f=g+1:=⟨f-1,by omega⟩
  rw[ou,zy,decide_eq_false (show ¬ (i:Int)<3 by omega),cond_false,Nat.mul_zero,Nat.pow_zero,Nat.mul_one]
 | succ d ih=>
  intro f i m hi hi2 hf hm hm2
  obtain⟨f,rfl⟩:∃ g,f=g+1:=⟨f-1,by omega⟩
  have hl:=jG m hm
  have l3:(ar 256).length≤1:=rZ 256 1 (by decide)
  have hi3:i<3:=by omega
  have e2:IntKind.wrap .i64 ((i:Int)+1)=((i+1:Nat):Int):=by rw[ap (by omega) (by omega)];omega
  have e3:m*2^(8*(d+1))=m*256*2^(8*d):=by
   rw[show 8*(d+1)=8+8*d from by omega,Nat.pow_add,show 256=2^8 from by decide,Nat.mul_assoc]
  have h5:m*256<2^256:=by
   rw[e3] at hm2
   exact Nat.lt_of_le_of_lt (Nat.le_mul_of_pos_right _ (Nat.two_pow_pos _)) hm2
  rw[ou,zy,decide_eq_true (show(i:Int)<3 by omega),cond_true,abI,VV n m 256 (by omega) (by omega),e2,ih f (i+1) (m*256) (by omega) (by omega) (by omega) h5 (by rw[← e3];exact hm2),e3]
theorem ala(n:Nat)(hn:1000≤n)(k0:List Int→Option A)(E:Int):∀ (d f i m:Nat),i+d=8→d<f→m<2^256→
  ov (ir n) (jb n) (mg n) (iu n) (mo n) n E k0 f (al (ar m)) (i:Int)=k0 (al (ar (m/2^d))):=by
 intro d
 induction d with
 | zero=>
  intro f i m hi hf hm
  obtain⟨f,rfl⟩:∃ g,f=g+1:=⟨f-1,by omega⟩
  rw[ov,zz,decide_eq_false (show ¬ (i:Int)<8 by omega),cond_false,Nat.pow_zero,Nat.div_one]
 | succ d ih=>
  intro f i m hi hf hm
  obtain⟨f,rfl⟩:∃ g,f=g+1:=⟨f-1,by omega⟩
  have hl:=jG m hm
  have e2:IntKind.wrap .i64 ((i:Int)+1)=((i+1:Nat):Int):=by rw[ap (by omega) (by omega)];omega
  rw[ov,zz,decide_eq_true (show(i:Int)<8 by omega),cond_true,U4 n m (by omega) (by omega),e2,ih f (i+1) (m/2) (by omega) (by omega) (Nat.lt_of_le_of_lt (Nat.div_le_self _ _) hm),Nat.div_div_eq_div_mul,Nat.pow_succ,Nat.mul_comm]
theorem X8(x:Nat)(h:x<18446744073709551616):(al (uw x))[0]?=some ((x:Nat):Int):=by
 have w0:wd x 0=x:=by unfold wd;rw[Nat.mul_zero,Nat.pow_zero,Nat.div_one];omega
 rw[jW _ 0 (by decide),w0]
theorem alb(n:Nat)(hn:1000≤n)(x:Nat)(hx:x<2^256)(g:Int→Option A):zA n (al (ar x)) g=g ((lT x:Nat):Int):=by
 unfold zA F5
 have hb:=DX hx
 have hz:=Yh x
 have hm:x/2^(8*(bs x-3))<2^256:=Nat.lt_of_le_of_lt (Nat.div_le_self _ _) hx
 have ez:x/2^(8*(bs x-3))*2^(8*(3-bs x))=zN x:=by
  rcases Nat.lt_or_ge (bs x) 3 with h|h
  ·rw[ans h,show bs x-3=0 from by omega,Nat.mul_zero,Nat.pow_zero,Nat.div_one]
  ·rw[anr h,show 3-bs x=0 from by omega,Nat.mul_zero,Nat.pow_zero,Nat.mul_one]
 have hz256:zN x<2^256:=Nat.lt_trans hz (by decide)
 refine Eq.trans (ak7 n (by omega) x hx _ (bs x) n 0 (by omega) (by omega)) ?_
 refine Eq.trans (ak8 n hn (bs x) hb _ (8*(bs x-3)) n 0 x (by omega) (by omega) hx) ?_
 refine Eq.trans (ak9 n hn 0 _ ((bs x:Nat):Int) (3-bs x) n (bs x) _ (by omega) (by omega) (by omega) hm (by rw[ez];exact hz256)) ?_
 have hl:=jG (zN x) hz256
 have u1:IntKind.wrap .u32 (IntKind.wrap .i64 (((bs x:Nat):Int)+1))=((bs x+1:Nat):Int):=by
  rw[ap (x:=((bs x:Nat):Int)+1) (by omega) (by omega),show((bs x:Nat):Int)+1=((bs x+1:Nat):Int) from by omega];exact eL _ (by omega)
 have u2:IntKind.wrap .u32 ((bs x:Nat):Int)=((bs x:Nat):Int):=eL _ (by omega)
 rw[ez,abJ,vY n _ _ (by omega) (by omega),u1,u2]
 unfold lT
 by_cases h:8388608≤zN x
 ·rw[decide_eq_false (by omega),Bool.not_false,cond_true,if_pos h]
  refine Eq.trans (ala n hn _ ((bs x:Nat):Int) 8 n 0 (zN x) (by omega) (by omega) hz256) ?_
  have hz2:zN x/2^8<2^256:=Nat.lt_of_le_of_lt (Nat.div_le_self _ _) hz256
  have hl2:=jG _ hz2
  rw[Yb n _ (by omega) (by omega),X8 _ (by omega),Option.bind_some,show(2:Nat)^8=256 from by decide]
  rw[show((bs x+1:Nat):Int)*16777216=(((bs x+1)*16777216:Nat):Int) from by omega,eL _ (by omega),eL (zN x/256) (by omega),← Int.natCast_add,eL _ (by omega)]
 ·rw[decide_eq_true (by omega),Bool.not_true,cond_false,if_neg h]
  rw[Yb n _ (by omega) (by omega),X8 _ (by omega),Option.bind_some]
  rw[show((bs x:Nat):Int)*16777216=((bs x*16777216:Nat):Int) from by omega,eL _ (by omega),eL (zN x) (by omega),← Int.natCast_add,eL _ (by omega)]
def gY(c:Nat):Nat:=if c/16777216≤3 then c%8388608/2^(8*(3-c/16777216)) else c%8388608*2^(8*(c/16777216-3))
theorem akB(P:Int→(Int→Bool→Int→Option A)→Option A)(n:Nat)(k0:Int→Int→Option A):∀ (d f e m:Nat),e+d=3→d<f→m<8388608→
  mb P (l7 n) (ir n) (iu n) n k0 f (e:Int) (m:Int)=k0 3 ((m/2^(8*d):Nat):Int):=by
 intro d
 induction d with
 | zero=>
  intro f e m he hf hm
  obtain⟨f,rfl⟩:∃ g,f=g+1:=⟨f-1,by omega⟩
  have:e=3:=by omega
  subst this
  rw[mb,uI,decide_eq_false (show ¬ ((3:Nat):Int)<3 by omega),cond_false,Nat.mul_zero,Nat.pow_zero,Nat.div_one]
  rfl
 | succ d ih=>
  intro f e m he hf hm
  obtain⟨f,rfl⟩:∃ g,f=g+1:=⟨f-1,by omega⟩
  have e2:IntKind.wrap .i64 ((e:Int)+1)=((e+1:Nat):Int):=by rw[ap (by omega) (by omega)];omega
  have e3:IntKind.wrap .i64 (Int.tdiv (m:Int) 256)=((m/256:Nat):Int):=by
   rw[show(256:Int)=((256:Nat):Int) from rfl,dn];exact ap (by omega) (by omega)
  rw[mb,uI,decide_eq_true (show(e:Int)<3 by omega),cond_true,e2,e3,ih f (e+1) (m/256) (by omega) (by omega) (by omega),Nat.div_div_eq_div_mul,show 256=2^8 from by decide,← Nat.pow_add]
  rw[show 8+8*d=8*(d+1) from by omega]
theorem Wf(n c:Nat)(hc:c<4294967296)(g:Int→Bool→Int→Option A):uH n (c:Int) g=g ((c/16777216:Nat):Int) (decide (c/8388608%2=1)) ((c%8388608:Nat):Int):=by
 unfold uH Ga
 have e1:IntKind.wrap .i64 (IntKind.wrap .u32 (Int.tdiv (c:Int) 16777216))=((c/16777216:Nat):Int):=by
  rw[show(16777216:Int)=((16777216:Nat):Int) from rfl,dn,eL _ (by omega)];exact ap (by omega) (by omega)
 have e2:(Int.tmod (IntKind.wrap .u32 (Int.tdiv (c:Int) 8388608)) 2==1)=decide (c/8388608%2=1):=by
  rw[show(8388608:Int)=((8388608:Nat):Int) from rfl,dn,eL _ (by omega),show(2:Int)=((2:Nat):Int) from rfl,dy]
  by_cases h:c/8388608%2=1
  ·rw[h];rfl
  ·rw[decide_eq_false h,beq_eq_false_iff_ne];omega
 have e3:IntKind.wrap .i64 (Int.tmod (c:Int) 8388608)=((c%8388608:Nat):Int):=by
  rw[show(8388608:Int)=((8388608:Nat):Int) from rfl,dy];exact ap (by omega) (by omega)
 rw[e1,e2,e3]
theorem akC(n:Nat)(hn:1000≤n)(c:Nat)(hc:c<4294967296)(g:List Int→Option A):zC n (c:Int) g=g (al (ar (gY c)))∧(ar (gY c)).length≤200:=by
 unfold zC Gc
 have hm:c%8388608<8388608:=Nat.mod_lt _ (by decide)
 have fin:∀ (e m:Nat),m<8388608→3≤e→e<256→(l7 n [IntKind.wrap .u64 (m:Int)] fun r6=>ir n (IntKind.wrap .i64 (8*IntKind.wrap .i64 ((e:Int)-3))) fun r7=>iu n r6 r7 fun r8=>g r8)=g (al (ar (m*2^(8*(e-3))))):=fun e m hm he he2=>by
  have w1:IntKind.wrap .u64 (m:Int)=(m:Int):=dU _ (by omega)
  have w2:IntKind.wrap .i64 (8*IntKind.wrap .i64 ((e:Int)-3))=((8*(e-3):Nat):Int):=by
   rw[ap (x:=(e:Int)-3) (by omega) (by omega),ap (by omega) (by omega)];omega
  have l1:(ar m).length≤2:=rZ m 2 (by omega)
  have l2:(ar (2^(8*(e-3)))).length≤127:=abK _ (8*(e-3)) 127 (by omega) (Nat.le_refl _)
  have ho:=V4 (A:=A) n [m] (fun x hx=>by rw[List.mem_singleton.1 hx];omega) (show 1<100 by decide) (by omega)
  rw[w1,w2,show([(m:Int)]:List Int)=al [m] from rfl,ho,show ff [m]=m from by simp[ff],M4 n _ (by omega) (by omega),VV n _ _ (by omega) (by omega)]
 rw[Wf n c hc]
 unfold gY
 by_cases h:c/16777216≤3
 ·rw[if_pos h]
  have hm2:c%8388608/2^(8*(3-c/16777216))<8388608:=Nat.lt_of_le_of_lt (Nat.div_le_self _ _) hm
  refine⟨?_,Nat.le_trans (rZ _ 2 (by omega)) (by decide)⟩
  refine Eq.trans (akB _ n _ (3-c/16777216) n (c/16777216) (c%8388608) (by omega) (by omega) hm) ?_
  have:=fin 3 _ hm2 (by omega) (by omega)
  rw[Nat.sub_self,Nat.mul_zero,Nat.pow_zero,Nat.mul_one] at this
  exact this
 ·rw[if_neg h]
  obtain⟨f,rfl⟩:∃ g,n=g+1:=⟨n-1,by omega⟩
  refine⟨?_,Nat.le_trans (rZ _ 150 ?_) (by decide)⟩
  ·rw[mb,uI,decide_eq_false (show ¬ ((c/16777216:Nat):Int)<3 by omega),cond_false]
   exact fin (c/16777216) (c%8388608) hm (by omega) (by omega)
  ·calc c%8388608*2^(8*(c/16777216-3))<2^23*2^(8*(c/16777216-3)):=Nat.mul_lt_mul_of_pos_right (by omega) (Nat.two_pow_pos _)
    _=2^(23+8*(c/16777216-3)):=by rw[← Nat.pow_add]
    _≤2^(16*150):=Nat.pow_le_pow_right (by decide) (by omega)
theorem abu(c:Nat):gM c=if c/8388608%2=1 then none else if gY c=0 then none else if gY c<2^256 then some (gY c) else none:=by
 have hm:c%8388608<8388608:=Nat.mod_lt _ (by decide)
 unfold gM gY
 by_cases h1:c/8388608%2=1
 ·rw[if_pos (by omega),if_pos h1]
 ·rw[if_neg (by omega),if_neg h1]
  by_cases h2:c/16777216≤3
  ·rw[if_pos h2,if_pos h2]
   have:c%8388608/2^(8*(3-c/16777216))<2^256:=Nat.lt_of_le_of_lt (Nat.div_le_self _ _) (Nat.lt_trans hm (by decide))
   rw[if_pos this]
  ·rw[if_neg h2,if_neg h2]
   by_cases h0:c%8388608=0
   ·rw[h0,Nat.zero_mul,if_pos rfl]
    split<;>rfl
   ·have hne:c%8388608*2^(8*(c/16777216-3))≠0:=Nat.mul_ne_zero h0 (Nat.ne_of_gt (Nat.two_pow_pos _))
    have hb:=gG (c%8388608*2^(8*(c/16777216-3))) 256
    rw[DW _ _ h0] at hb
    rw[if_neg hne,if_neg hne]
    by_cases h3:c%8388608*2^(8*(c/16777216-3))<2^256
    ·rw[if_pos h3,if_neg (by have:=hb.2 h3;omega)]
    ·rw[if_neg h3,if_pos (by
      rcases Nat.lt_or_ge 256 (bl (c%8388608)+8*(c/16777216-3)) with h|h
      ·exact h
      ·exact absurd (hb.1 (by omega)) h3)]
theorem Nv(n:Nat)(hn:1000≤n)(c:Nat)(hc:c<4294967296)(g:List Int→Bool→Option A):um n (c:Int) g=match gM c with
  | none=>g [] false
  | some t=>g (al (ar t)) true:=by
 unfold um EJ
 rw[Wf n c hc,(akC n hn c hc _).1,abu c,di]
 by_cases h1:c/8388608%2=1
 ·rw[decide_eq_true h1,cond_true,if_pos h1]
 ·rw[decide_eq_false h1,cond_false,if_neg h1]
  by_cases h2:gY c=0
  ·rw[h2,gP];rfl
  ·have h3:(ar (gY c)).length≠0:=fun h=>h2 (abL.1 (List.length_eq_zero_iff.1 h))
   rw[if_neg h2,show(((ar (gY c)).length:Int)==0)=false from by rw[beq_eq_false_iff_ne];omega,cond_false]
   by_cases h4:gY c<2^256
   ·have:=jG _ h4
    rw[if_pos h4,decide_eq_false (by omega),cond_false]
   ·have:=Qp 16 (gY c) (by rw[show 65536=2^16 from by decide,← Nat.pow_mul];omega)
    rw[if_neg h4,decide_eq_true (by omega),cond_true]
end Go.Ev
namespace Go.Ev
open Go.Proofs
variable{A:Type}
abbrev dH:=Int×(Int×(Int×(Int×(Int×(bC×(List Int×Unit))))))
def Nd(per spa fut cap:Int):Bool:=decide (1≤per)&&(decide (per≤65536)&&(decide (1≤spa)&&(decide (spa≤65536)&&(decide (0≤fut)&&(decide (fut≤4294967296)&&(decide (1≤cap)&&decide (cap≤4096)))))))
def Dg(c:Nat):Nat:=(gM c).getD 0
def s9(lim gb:Nat)(per spa fut cap:Int):Bool:=i9 lim&&(i9 gb&&(decide (Dg gb≤Dg lim)&&Nd per spa fut cap))
theorem yr{c:Nat}(h:i9 c=true):∃ t,gM c=some t∧t<2^256:=by
 unfold i9 at h
 split at h
 ·cases h
 ·rename_i t ht;exact⟨t,ht,(Ek c t ht).1⟩
theorem Wt(n:Nat)(hn:1000≤n)(c:Nat)(hc:c<4294967296)(g:Bool→Option A):yI n (c:Int) g=g (i9 c):=by
 unfold yI EI i9
 rw[Nv n hn c hc]
 cases h:gM c with
 | none=>rfl
 | some t=>
  simp only
  rw[cond_true,alb n hn t (Ek c t h).1]
  congr 1
  rw[Bool.eq_iff_iff,beq_iff_eq,beq_iff_eq];omega
theorem alx(n:Nat)(hn:1000≤n)(lim:Nat)(hl:lim<4294967296)(per spa fut cap:Int)(v:Int)(pv rt:List Int)(tm:Int)(gb:Nat)(hg:gb<4294967296)(nc:Int)(u:Unit)(s:List Int)(u2:Unit)(g:Bool→Option A) :
  vF n ((lim:Int),(per,(spa,(fut,(cap,((v,(pv,(rt,(tm,((gb:Int),(nc,u)))))),(s,u2))))))) g=g (s9 lim gb per spa fut cap):=by
 unfold vF Lz s9
 simp only
 rw[Wt n hn lim hl]
 cases h1:i9 lim with
 | false=>rfl
 | true=>
  rw[Bool.not_true,cond_false,Wt n hn gb hg]
  cases h2:i9 gb with
  | false=>rfl
  | true=>
   obtain⟨a,ha,ha2⟩:=yr h2
   obtain⟨b,hb,hb2⟩:=yr h1
   rw[Bool.not_true,cond_false,Nv n hn gb hg,ha]
   simp only
   rw[Nv n hn lim hl,hb]
   simp only
   have hd:=jG b hb2
   rw[vY n b a (by omega) (by omega)]
   simp only[Dg,ha,hb,Option.getD_some,Bool.true_and]
   by_cases h3:b<a
   ·rw[decide_eq_true h3,cond_true,decide_eq_false (show ¬ a≤b by omega),Bool.false_and]
   ·rw[decide_eq_false h3,cond_false,decide_eq_true (show a≤b by omega),Bool.true_and]
    unfold Nd
    simp only[ge_iff_le]
    cases decide (1≤per)<;>cases decide (per≤65536)<;>cases decide (1≤spa)<;>cases decide (spa≤65536)<;>cases decide (0≤fut)<;>cases decide (fut≤4294967296)<;>cases decide (1≤cap)<;>cases decide (cap≤4096)<;>rfl
theorem Dk(n:Nat)(x a b:Int)(g:Bool→Option A):Aj n x a b g=g (decide (a≤x)&&decide (x≤b)):=by
 unfold Aj Hq
 simp only[ge_iff_le]
 cases decide (a≤x)<;>rfl
theorem P0(n:Nat)(hn:1000≤n)(lim:Nat)(hl:lim<4294967296)(per spa fut cap:Int)(v:Int)(pv rt:List Int)(tm:Int)(gb:Nat)(hg:gb<4294967296)(nc:Int)(u:Unit)(s:List Int)(u2:Unit)(hm:s9 lim gb per spa fut cap=true)(g:Int→Option A) :
  uv n ((lim:Int),(per,(spa,(fut,(cap,((v,(pv,(rt,(tm,((gb:Int),(nc,u)))))),(s,u2))))))) g=g 0:=by
 unfold s9 at hm
 simp only[Bool.and_eq_true] at hm
 obtain⟨h1,h2,h3,h4⟩:=hm
 obtain⟨a,ha,ha2⟩:=yr h2
 obtain⟨b,hb,hb2⟩:=yr h1
 simp only[Dg,ha,hb,Option.getD_some,decide_eq_true_eq] at h3
 simp only[Nd,Bool.and_eq_true] at h4
 obtain⟨r1,r2,r3,r4,r5,r6,r7,r8⟩:=h4
 unfold uv Fk
 simp only
 rw[El n (by omega) lim hl,hb]
 simp only
 rw[El n (by omega) gb hg,ha]
 simp only
 rw[PK n (by omega) lim hl,h1,Bool.not_true,cond_false,PK n (by omega) gb hg,h2,Bool.not_true,cond_false,am2 n (by omega) a b ha2 hb2,
  show decide (qj a b>0)=false from decide_eq_false (by unfold qj;split<;>(try split)<;>omega),cond_false,
  Dk,r1,r2,Bool.true_and,Bool.not_true,cond_false,Dk,r3,r4,Bool.true_and,Bool.not_true,cond_false,Dk,r5,r6,Bool.true_and,Bool.not_true,cond_false,Dk,r7,r8,Bool.true_and,Bool.not_true,cond_false]
def cM(b m:Int):Bool:=decide (1≤b)&&(decide (b≤65536)&&(decide (b≤m)&&decide (m≤1048576)))
theorem amd(n:Nat)(b m:Int)(g:Bool→Option A):sQ n b m g=g (cM b m):=by
 unfold sQ LA cM
 simp only[ge_iff_le]
 cases decide (1≤b)<;>cases decide (b≤65536)<;>cases decide (b≤m)<;>rfl
theorem P5(n:Nat)(b m:Int)(g:Bool→Option A):so n b m g=g (cM b m):=by
 unfold so Fo cM
 simp only[ge_iff_le]
 cases decide (1≤b)<;>cases decide (b≤65536)<;>cases decide (b≤m)<;>rfl
def sX(l:List (List Int))(i:Nat):Bool:=decide ((l.getD i []).length≤64)&&!((List.range' 0 i).any fun q=>decide (l.getD i []=l.getD q []))
def wH(l:List (List Int)):Bool:=(List.range' 0 l.length).all (sX l)
theorem VO{α β:Type}[Inhabited α](f:α→β)(l:List α)(i:Nat)(h:i<l.length)(a:α):(l.map f)[i]?=some (f (l.getD i a)):=by
 rw[List.getElem?_map,bZ l i h a];rfl
theorem wP{l:List (List Int)}(h:∀ x∈l,aq x)(i:Nat):aq (l.getD i []):=by
 rw[List.getD_eq_getElem?_getD]
 rcases Nat.lt_or_ge i l.length with hi|hi
 ·rw[List.getElem?_eq_getElem hi];exact h _ (List.getElem_mem hi)
 ·rw[List.getElem?_eq_none hi];exact fun x hx=>nomatch hx
theorem Xp(G1:_→(Bool→Option A)→Option A)(G2:Int→Int→(Bool→Option A)→Option A)(n:Nat)(l:List (List Int))(hB:∀ x∈l,aq x)(s:List Int)(hs:aq s)(i:Nat)(hi:i≤l.length)(hi2:i<1000000)(z1 z2 z3 c)(k0 k1:Option A) :
  ∀ (d f j:Nat),j+d=i→d<f→pz G1 G2 n (am s) z1 z2 z3 ((l.map am).take i) (i:Int) c k0 k1 f (j:Int)=bif (List.range' j d).any (fun q=>decide (s=l.getD q [])) then k0 else k1
 | 0,f+1,j,h,_=>by
  rw[pz,BL,show decide ((j:Int)<(i:Int))=false from decide_eq_false (by omega),cond_false];rfl
 | d+1,0,j,_,h=>by omega
 | d+1,f+1,j,h,hf=>by
  have e:((l.map am).take i)[j]?=some (am (l.getD j [])):=by rw[List.getElem?_take,if_pos (by omega),VO _ _ _ (by omega) []]
  rw[pz,BL,show decide ((j:Int)<(i:Int))=true from decide_eq_true (by omega),cond_true,if_pos (Int.natCast_nonneg _),Int.toNat_natCast,e,Option.bind_some,CN hs (wP hB j),aU j (by omega),List.range'_succ,List.any_cons]
  by_cases h1:s=l.getD j []
  ·rw[decide_eq_true h1,cond_true,Bool.true_or,cond_true]
  ·rw[decide_eq_false h1,cond_false,Bool.false_or]
   exact Xp G1 G2 n l hB s hs i hi hi2 z1 z2 z3 c k0 k1 d f (j+1) (by omega) (by omega)
abbrev ij:=Int×(Int×(Int×(Int×(Int×(bC×(List Int×Unit))))))
theorem Xo(G1:_→(Bool→Option A)→Option A)(G2:Int→Int→(Bool→Option A)→Option A)(n:Nat)(l:List (List Int))(hB:∀ x∈l,aq x)(hl:l.length<1000000)(hn:l.length<n)(a1 a2 a3 a4 a5 a6)(k0 k1:Option A) :
  ∀ (d f i:Nat),i+d=l.length→d<f→py G1 G2 n (l.map am) (l.length:Int) (a1,(a2,(a3,(a4,(a5,(l.map am,a6)))))) k0 k1 f (i:Int)=bif (List.range' i d).all (sX l) then k1 else k0
 | 0,f+1,i,h,_=>by
  rw[py,BK,show decide ((i:Int)<(l.length:Int))=false from decide_eq_false (by omega),cond_false];rfl
 | d+1,0,i,_,h=>by omega
 | d+1,f+1,i,h,hf=>by
  rw[py,BK,show decide ((i:Int)<(l.length:Int))=true from decide_eq_true (by omega),cond_true,if_pos (Int.natCast_nonneg _),Int.toNat_natCast,VO _ _ _ (by omega) [],Option.bind_some,bQ,List.range'_succ,List.all_cons]
  by_cases h1:(l.getD i []).length≤64
  ·rw[show decide ((((l.getD i []).length:Nat):Int)>64)=false from decide_eq_false (by omega),cond_false,if_pos (Int.natCast_nonneg _)]
   simp only[List.drop_zero,Nat.sub_zero]
   rw[if_pos (by rw[List.length_map];omega),show((((l.map am).take i).length:Nat):Int)=(i:Int) by rw[List.length_take,List.length_map];congr 1;omega]
   refine Eq.trans (Xp G1 G2 n l hB _ (wP hB i) i (by omega) (by omega) _ _ _ _ _ _ i n 0 (by omega) (by omega)) ?_
   rw[aU i (by omega),Xo G1 G2 n l hB hl hn a1 a2 a3 a4 a5 a6 k0 k1 d f (i+1) (by omega) (by omega)]
   unfold sX
   rw[decide_eq_true h1,Bool.true_and]
   cases (List.range' 0 i).any fun q=>decide (l.getD i []=l.getD q [])<;>rfl
  ·rw[show decide ((((l.getD i []).length:Nat):Int)>64)=true from decide_eq_true (by omega),cond_true]
   unfold sX
   rw[decide_eq_false h1,Bool.false_and,Bool.false_and,cond_false]
def gW(lim gb:Nat)(per spa fut cap base most every peers:Int)(l:List (List Int)):Bool:=
 s9 lim gb per spa fut cap&&(cM base most&&(decide (1≤every)&&(decide (every≤65536)&&(decide (1≤peers)&&(decide (peers≤8)&&(decide (l.length≤8)&&wH l))))))
theorem alw(n:Nat)(hn:1000≤n)(lim:Nat)(hl:lim<4294967296)(per spa fut cap:Int)(v:Int)(pv rt:List Int)(tm:Int)(gb:Nat)(hg:gb<4294967296)(nc:Int)(u:Unit)(s:List Int)(u2:Unit)(base most every peers:Int)(l:List (List Int))(hB:∀ x∈l,aq x)(u3:Unit)(g:Bool→Option A) :
  vw n (((lim:Int),(per,(spa,(fut,(cap,((v,(pv,(rt,(tm,((gb:Int),(nc,u)))))),(s,u2))))))),(base,(most,(every,(peers,(l.map am,u3)))))) g=g (gW lim gb per spa fut cap base most every peers l):=by
 unfold vw Kw gW
 simp only
 rw[alx n hn lim hl per spa fut cap v pv rt tm gb hg nc u s u2]
 cases s9 lim gb per spa fut cap with
 | false=>rfl
 | true=>
  rw[Bool.not_true,cond_false,amd,Bool.true_and]
  cases cM base most with
  | false=>rfl
  | true=>
   rw[Bool.not_true,cond_false,Bool.true_and]
   by_cases h1:1≤every
   ·rw[show decide (every<1)=false from decide_eq_false (by omega),cond_false,decide_eq_true h1,Bool.true_and]
    by_cases h2:every≤65536
    ·rw[show decide (every>65536)=false from decide_eq_false (by omega),cond_false,decide_eq_true h2,Bool.true_and]
     by_cases h3:1≤peers
     ·rw[show decide (peers<1)=false from decide_eq_false (by omega),cond_false,decide_eq_true h3,Bool.true_and]
      by_cases h4:peers≤8
      ·rw[show decide (peers>8)=false from decide_eq_false (by omega),cond_false,decide_eq_true h4,Bool.true_and,List.length_map]
       by_cases h5:l.length≤8
       ·rw[show decide (((l.length:Nat):Int)>8)=false from decide_eq_false (by omega),cond_false,decide_eq_true h5,Bool.true_and]
        refine Eq.trans (Xo (vF n) (sQ n) n l hB (by omega) (by omega) _ _ _ _ _ _ _ _ l.length n 0 (by omega) (by omega)) ?_
        unfold wH
        cases (List.range' 0 l.length).all (sX l)<;>rfl
       ·rw[show decide (((l.length:Nat):Int)>8)=true from decide_eq_true (by omega),cond_true,decide_eq_false h5,Bool.false_and]
      ·rw[show decide (peers>8)=true from decide_eq_true (by omega),cond_true,decide_eq_false h4,Bool.false_and]
     ·rw[show decide (peers<1)=true from decide_eq_true (by omega),cond_true,decide_eq_false h3,Bool.false_and]
    ·rw[show decide (every>65536)=true from decide_eq_true (by omega),cond_true,decide_eq_false h2,Bool.false_and]
   ·rw[show decide (every<1)=true from decide_eq_true (by omega),cond_true,decide_eq_false h1,Bool.false_and]
theorem XZ{l:List (List Int)}(h:wH l=true){i:Nat}(hi:i<l.length):(l.getD i []).length≤64∧∀ j,j<i→l.getD i []≠l.getD j []:=by
 have:=List.all_eq_true.1 h i (List.mem_range'_1.2 ⟨Nat.zero_le _,by omega⟩)
 unfold sX at this
 rw[Bool.and_eq_true,decide_eq_true_eq,Bool.not_eq_true',List.any_eq_false] at this
 exact⟨this.1,fun j hj e=>this.2 j (List.mem_range'_1.2 ⟨Nat.zero_le _,by omega⟩) (decide_eq_true e)⟩
theorem Qi(n:Nat)(l:List (List Int))(hB:∀ x∈l,aq x)(hw:wH l=true)(hl:l.length<1000000)(k0 k1:List (ByteArray×Int)→Option A)(W:Option A)(hk:∀ m:List (ByteArray×Int),m.length=l.length→k1 m=W) :
  ∀ (d f i:Nat) (m:List (ByteArray×Int)),i+d=l.length→d<f→m.map (·.1)=(l.take i).map am→n0 n l l (l.length:Int) k0 k1 f (i:Int) m=W
 | 0,f+1,i,m,h,_,hm=>by
  rw[n0,zc,show decide ((i:Int)<(l.length:Int))=false from decide_eq_false (by omega),cond_false]
  refine hk m ?_
  have:=congrArg List.length hm
  rw[List.length_map,List.length_map,List.length_take] at this;omega
 | d+1,0,i,m,_,h,_=>by omega
 | d+1,f+1,i,m,h,hf,hm=>by
  have hlt:i<l.length:=by omega
  obtain⟨h1,h2⟩:=XZ hw hlt
  rw[n0,zc,show decide ((i:Int)<(l.length:Int))=true from decide_eq_true (by omega),cond_true,if_pos (Int.natCast_nonneg _),Int.toNat_natCast,bZ l i hlt [],Option.bind_some,show decide ((((l.getD i []).length:Nat):Int)>64)=false from decide_eq_false (by omega),cond_false,aU i (by omega)]
  refine Qi n l hB hw hl k0 k1 W hk d f (i+1) _ (by omega) (by omega) ?_
  rcases VT (K:=.str) m (am (l.getD i [])) (IntKind.wrap .i64 (((aY .str m (am (l.getD i []))).getD 0)+1)) with ⟨hin,_⟩|⟨_,hk2⟩
  ·rw[hm] at hin
   obtain⟨y,hy,he⟩:=List.mem_map.1 hin
   obtain⟨j,hj⟩:=List.mem_iff_getElem?.1 hy
   rw[List.getElem?_take] at hj
   split at hj
   ·rename_i hji
    rw[bZ l j (by omega) []] at hj
    have he2:bd (am y)=bd (am (l.getD i [])):=by rw[he]
    have hy2:y=l.getD j []:=(Option.some.inj hj).symm
    rw[hy2,kb (wP hB j),kb (wP hB i)] at he2
    exact absurd he2.symm (h2 j hji)
   ·cases hj
  ·rw[hk2,hm]
   have e:l.getD i []=l[i]:=by rw[List.getD_eq_getElem?_getD,List.getElem?_eq_getElem hlt];rfl
   rw[e];exact qi am l i hlt
theorem abA(n:Nat)(l:List (List Int))(hB:∀ x∈l,aq x)(hw:wH l=true)(hl:l.length≤8)(hn:10<n)(g:Bool→Option A):zd n l g=g true:=by
 unfold zd Fm
 refine Qi n l hB hw (by omega) _ _ _ (fun m hm=>?_) l.length n 0 [] (by omega) (by omega) rfl
 rw[show decide (((l.length:Nat):Int)≤8)=true from decide_eq_true (by omega),cond_true,hm,beq_self_eq_true]
theorem P4(n:Nat)(b m:Int)(h:cM b m=true)(k0:Int→Option A)(k1:_→_→_→_→_→_→_→_→Option A):sR n b m k0 k1=k1 0 b m (0,((List.replicate 32 (0:Int)),(0,()))) 0 false (0,(0,(0,(false,())))) []:=by
 unfold sR LY
 rw[P5,h,Bool.not_true,cond_false]
theorem abe(n:Nat)(hn:1000≤n)(lim:Nat)(hl:lim<4294967296)(per spa fut cap:Int)(v:Int)(pv rt:List Int)(tm:Int)(gb:Nat)(hg:gb<4294967296)(nc:Int)(u:Unit)(s:List Int)(u2:Unit)(base most every peers:Int)(l:List (List Int))(hB:∀ x∈l,aq x)(u3:Unit)(hm:gW lim gb per spa fut cap base most every peers l=true)(g:Int→Option A) :
  Ch n (((lim:Int),(per,(spa,(fut,(cap,((v,(pv,(rt,(tm,((gb:Int),(nc,u)))))),(s,u2))))))),(base,(most,(every,(peers,(l,u3)))))) g=g 0:=by
 unfold gW at hm
 simp only[Bool.and_eq_true,decide_eq_true_eq] at hm
 obtain⟨h1,h2,h3,h4,h5,h6,h7,h8⟩:=hm
 unfold Ch LT
 simp only
 rw[P0 n hn lim hl per spa fut cap v pv rt tm gb hg nc u s u2 h1,show(((0:Int)) != 0)=false from rfl,cond_false,P4 n base most h2,show(((0:Int)) != 0)=false from rfl,cond_false,
  show decide (every<1)=false from decide_eq_false (by omega),cond_false,show decide (every>65536)=false from decide_eq_false (by omega),cond_false,show decide (peers<1)=false from decide_eq_false (by omega),cond_false,show decide (peers>8)=false from decide_eq_false (by omega),cond_false,
  abA n l hB h8 h7 (by omega),Bool.not_true,cond_false]
def kh(b:bo):Prop:=dO b.1∧ik b.2.1∧b.2.1.length≤100
abbrev nj:=bC×(List ByteArray×Unit)
def fb(b:bo):nj:=(b.1,(b.2.1.map am,b.2.2))
def dP:List bo→List (List Int)→Nat×List (List Int)
 | [],hs=>(0,hs)
 | b::r,hs=>if ej b.1 b.2.1≠0 then(ej b.1 b.2.1,hs) else if b.1.2.1=hs.getD (hs.length-1) [] then dP r (hs++[bW (cQ b.1)]) else(9,hs)
theorem Qm(x y:List Int):cY aa x y=decide (x=y):=by
 by_cases h:x=y
 ·rw[decide_eq_true h];exact(gN aa _ _).2 h
 ·rw[decide_eq_false h,Bool.eq_false_iff];exact fun hh=>h ((gN aa _ _).1 hh)
theorem WA(m n:Nat)(hm:1000<m)(bs:List bo)(hb:∀ b∈bs,kh b)(hl:bs.length<1000)(z1 z2 z3)(k0:Int→List (List Int)→Option A)(k1:List (List Int)→Option A):∀ (d f i:Nat) (hs:List (List Int)),i+d=bs.length→d<f→hs.length=i+1→
  pB (vG m) (mw m) n (bs.map fb) (bs.length:Int) z1 z2 z3 k0 k1 f (i:Int) hs=if (dP (bs.drop i) hs).1≠0 then k0 ((dP (bs.drop i) hs).1:Int) (dP (bs.drop i) hs).2 else k1 (dP (bs.drop i) hs).2
 | 0,f+1,i,hs,h,_,_=>by
  rw[pB,BN,show decide ((i:Int)<(bs.length:Int))=false from decide_eq_false (by omega),cond_false,List.drop_of_length_le (by omega)];rfl
 | d+1,0,i,_,_,h,_=>by omega
 | d+1,f+1,i,hs,h,hf,hh=>by
  have hlt:i<bs.length:=by omega
  obtain⟨o1,o2,o3⟩:=hb _ (List.getElem_mem hlt)
  rw[pB,BN,show decide ((i:Int)<(bs.length:Int))=true from decide_eq_true (by omega),cond_true,if_pos (Int.natCast_nonneg _),Int.toNat_natCast,CK _ _ _ hlt,Option.bind_some,List.drop_eq_getElem_cons hlt,dP]
  unfold fb
  simp only
  rw[alf m hm _ _ _ o2 (by omega) (by omega)]
  by_cases hc:ej bs[i].1 bs[i].2.1=0
  ·rw[hc,show((((0:Nat):Int)) != 0)=false from rfl,cond_false,if_neg (show ¬ ((0:Nat)≠0) by simp),if_pos (Int.natCast_nonneg _),if_pos (by omega),bZ hs i (by omega) [],Option.bind_some,Qm,show hs.length-1=i by omega]
   by_cases hp:bs[i].1.2.1=hs.getD i []
   ·rw[decide_eq_true hp,Bool.not_true,cond_false,if_pos hp,Nl m (by omega) _ o1,if_pos (by omega),aU i (by omega)]
    exact WA m n hm bs hb hl z1 z2 z3 k0 k1 d f (i+1) _ (by omega) (by omega) (by rw[List.length_append,hh];rfl)
   ·rw[decide_eq_false hp,Bool.not_false,cond_true,if_neg hp];rfl
  ·rw[show(((ej bs[i].1 bs[i].2.1:Nat):Int) != 0)=true by simp;omega,cond_true,if_pos hc,if_pos (show(ej bs[i].1 bs[i].2.1,hs).1≠0 from hc)]
theorem ali(n:Nat)(hn:1000<n)(a0:List Int)(bs:List bo)(hb:∀ b∈bs,kh b)(hl:bs.length≤500)(g:(List nj×(List (List Int)×Unit))→Int→Option A) :
  vy n a0 (bs.map fb) g=if (dP bs [a0]).1≠0 then g ([],([],())) ((dP bs [a0]).1:Int) else g (bs.map fb,((dP bs [a0]).2,())) 0:=by
 unfold vy KD
 rw[List.length_map,show decide (((bs.length:Nat):Int)>512)=false from decide_eq_false (by omega),cond_false]
 exact WA n n hn bs hb (by omega) _ _ _ _ _ bs.length n 0 [a0] (by omega) (by omega) rfl
theorem P3(m n:Nat)(l:List (List Int))(hl:ik l)(hlen:l.length<1000)(z1 z2 z3 z4 z5)(k0:List (List Int)→Option A):∀ (d f i:Nat),i+d=l.length→d<f→
  oa (fX m) n l (l.length:Int) z1 z2 z3 z4 z5 k0 f (i:Int) (l.take i)=k0 l
 | 0,f+1,i,h,_=>by
  rw[oa,zf,show decide ((i:Int)<(l.length:Int))=false from decide_eq_false (by omega),cond_false,List.take_of_length_le (by omega)]
 | d+1,0,i,_,h=>by omega
 | d+1,f+1,i,h,hf=>by
  have hlt:i<l.length:=by omega
  have hx:=hl _ (List.getElem_mem hlt)
  rw[oa,zf,show decide ((i:Int)<(l.length:Int))=true from decide_eq_true (by omega),cond_true,if_pos (Int.natCast_nonneg _),Int.toNat_natCast,List.getElem?_eq_getElem hlt,Option.bind_some,rX m _ (by omega),if_pos (by rw[List.length_take];omega),aU i (by omega),List.take_append_getElem hlt]
  exact P3 m n l hl hlen z1 z2 z3 z4 z5 k0 d f (i+1) (by omega) (by omega)
theorem abo(n:Nat)(hn:1000<n)(b:bo)(hb:kh b)(g:bo→Option A):sq n b g=g (b.1,(b.2.1,())):=by
 unfold sq Ft
 exact P3 n n b.2.1 hb.2.1 (by have:=hb.2.2;omega) _ _ _ _ _ _ b.2.1.length n 0 (by omega) (by have:=hb.2.2;omega)
theorem PP(m n:Nat)(hm:1000<m)(bs:List bo)(hb:∀ b∈bs,kh b)(hl:bs.length<1000)(z:Unit)(k0:Int→List bo→List (List Int)→List (List Int×Int)→Option A)(k1:List bo→List (List Int)→List (List Int×Int)→Option A)(W:Option A)(h1:∀ da hs dm,k1 da hs dm=W):∀ (d f i:Nat) (da:List bo) (hs:List (List Int)) (dm:List (List Int×Int)),i+d=bs.length→d<f→hs.length=i+1→da.length=i→(dP (bs.drop i) hs).1=0→
  mF (n9 m) (jR m) (sq m) n bs (bs.length:Int) z k0 k1 f (i:Int) da hs dm=W
 | 0,f+1,i,da,hs,dm,h,_,_,_,_=>by
  rw[mF,Cl,show decide ((i:Int)<(bs.length:Int))=false from decide_eq_false (by omega),cond_false];exact h1 _ _ _
 | d+1,0,i,_,_,_,_,h,_,_,_=>by omega
 | d+1,f+1,i,da,hs,dm,h,hf,hh,hda,he=>by
  have hlt:i<bs.length:=by omega
  have ob:=hb _ (List.getElem_mem hlt)
  obtain⟨o1,o2,o3⟩:=ob
  rw[List.drop_eq_getElem_cons hlt,dP] at he
  have hc:ej bs[i].1 bs[i].2.1=0:=by
   by_cases hc:ej bs[i].1 bs[i].2.1=0
   ·exact hc
   ·rw[if_pos hc] at he;exact absurd he hc
  rw[if_neg (by omega),show hs.length-1=i by omega] at he
  have hp:bs[i].1.2.1=hs.getD i []:=by
   by_cases hp:bs[i].1.2.1=hs.getD i []
   ·exact hp
   ·rw[if_neg hp] at he;cases he
  rw[if_pos hp] at he
  have hck:n9 (A:=A) m bs[i]=fun g=>g 0:=funext fun g=>by
   have:=aaS m hm bs[i].1 bs[i].2.1 bs[i].2.2 o2 (by omega) (by omega) g
   rw[hc] at this;exact this
  rw[mF,Cl,show decide ((i:Int)<(bs.length:Int))=true from decide_eq_true (by omega),cond_true,if_pos (Int.natCast_nonneg _),Int.toNat_natCast,List.getElem?_eq_getElem hlt,Option.bind_some,hck]
  simp only
  rw[show(((0:Int)) != 0)=false from rfl,cond_false,if_pos (Int.natCast_nonneg _),if_pos (by omega),bZ hs i (by omega) [],Option.bind_some,Qm,decide_eq_true hp,Bool.not_true,cond_false,Mw m (by omega) _ o1,abo m hm _ ⟨o1,o2,o3⟩,if_pos (by omega),if_pos (by omega),aU i (by omega)]
  have step:∀ dm',mF (n9 m) (jR m) (sq m) n bs (bs.length:Int) z k0 k1 f ((i+1:Nat):Int) (da++[(bs[i].1,(bs[i].2.1,()))]) (hs++[bW (cQ bs[i].1)]) dm'=W:=fun dm'=>
   PP m n hm bs hb hl z k0 k1 W h1 d f (i+1) _ _ dm' (by omega) (by omega) (by rw[List.length_append,hh];rfl) (by rw[List.length_append,hda];rfl) he
  cases (!(aY aa dm (bW (cQ bs[i].1))).isSome) with
  | true=>rw[cond_true];exact step _
  | false=>rw[cond_false];exact step _
theorem aaU(n:Nat)(hn:1000<n)(a0:List Int)(bs:List bo)(hb:∀ b∈bs,kh b)(hl:bs.length≤500)(he:(dP bs [a0]).1=0)(k0:Int→Option A)(k1:Int→Unit→List bo→List (List Int)→List (List Int×Int)→Option A)(W:Option A)(h1:∀ da hs dm,k1 0 () da hs dm=W):vM n a0 bs k0 k1=W:=by
 unfold vM Mb
 rw[show decide (((bs.length:Nat):Int)>512)=false from decide_eq_false (by omega),cond_false]
 exact PP n n hn bs hb (by omega) () _ _ W (fun da hs dm=>h1 da hs dm) bs.length n 0 [] [a0] _ (by omega) (by omega) rfl rfl he
end Go.Ev
