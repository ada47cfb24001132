import Derived.Test.YtbgcimciannhmaaGreatDoorB6
import Derived.Test.YtbgcimciannhmaaGreatDoorB8
/- A part of the proof of TopQuiet; no condition. -/
set_option linter.all false
set_option maxRecDepth 100000
namespace Go.Ev
open Go.Proofs
variable{A:Type}
abbrev lv(A:Type):=(List Int)→Y8→(ae A)→(OU A)→Option A
def Cl(g130:qv A)(g94:fv A)(g131:qw A)(n:Nat)(t23:gA)(t24:Int)(dbbb:Unit)(k0:tT A)(k1:DA A)(r:(tT A))(t25:Int)(da:gA)(dba:List (List Int))(dbba:bO):Option A:=bif (decide (t25<t24)) then if 0≤t25 then(t23[(Int.toNat t25)]?).bind fun y1=>g130 y1 fun r2=>bif (r2 != 0) then k0 r2 da dba dbba else if 0≤t25 then if t25<(dba.length:Int) then(dba[(Int.toNat t25)]?).bind fun y3=>bif (!(cY aa y1.1.2.1 y3)) then k0 9 da dba dbba else g94 y1.1 fun r4=>g131 y1 fun r5=>if (da.length+1)*104≤140737488355328 then if (dba.length+1)*32≤140737488355328 then bif (!(aY aa dbba r4).isSome) then r (IntKind.wrap .i64 (t25+1)) (da++[r5]) (dba++[r4]) (bw aa dbba r4 (IntKind.wrap .i64 (t25+1))) else r (IntKind.wrap .i64 (t25+1)) (da++[r5]) (dba++[r4]) dbba else none else none else none else none else none else k1 da dba dbba
def mF(g130:qv A)(g94:fv A)(g131:qw A)(n:Nat)(t23:gA)(t24:Int)(dbbb:Unit)(k0:tT A)(k1:DA A):Nat→(tT A)|0=>fun _ _ _ _=>none|f+1=>Cl g130 g94 g131 n t23 t24 dbbb k0 k1 (mF g130 g94 g131 n t23 t24 dbbb k0 k1 f)
def Mb(g130:qv A)(g94:fv A)(g131:qw A)(n:Nat)(a0:List Int)(a1:gA)(k0:ae A)(k1:OU A):Option A:=bif (decide ((a1.length:Int)>512)) then k0 4 else mF g130 g94 g131 n a1 (a1.length:Int) () (fun y6 y7 y8 y9=>k0 y6) (fun y10 y11 y12=>k1 0 () y10 y11 y12) n 0 [] [a0] (bw aa [] a0 0)
def vM(n:Nat):lv A:=Mb (n9 n) (jR n) (sq n) n
abbrev xH(A:Type):=iZ→(jz A)→Option A
def BV(g91:lq A)(g91n:lr A)(g92:lu A)(g94:fv A)(g93:lv A)(n:Nat)(t50:List Int)(t51:Int)(s:gB)(k0:jz A)(k1:rI A)(r:(jz A))(t52:Int)(out:gD):Option A:=bif (decide (t52<t51)) then if 0≤t52 then(t50[(Int.toNat t52)]?).bind fun y4=>g92 fun r5 r6=>g92 fun r7 r8=>bif (decide (y4>0)) then g94 s.1.1.2.2.2.2.2.1 fun r9=>if 0≤(IntKind.wrap .i64 (y4-1)) then(s.2.2.1[(Int.toNat (IntKind.wrap .i64 (y4-1)))]?).bind fun y10=>g93 r9 y10 (fun aX=>bif (aX != 0) then k0 aX out else g91n s.2.2.2.2.1 s.2.2.2.2.2.1 (fun r22=>if (out.length+1)*24≤140737488355328 then r (IntKind.wrap .i64 (t52+1)) (out++[(.inl (((),((),((),()))),(((),r5),(r6,(((),r7),(r8,()))))))]) else none) (fun bn r21=>none)) (fun r11 r12 r13 aQ aM=>bif (r11 != 0) then k0 r11 out else g91 s.2.2.2.2.1 s.2.2.2.2.2.1 r12 r13 aQ aM (fun r18=>if (out.length+1)*24≤140737488355328 then r (IntKind.wrap .i64 (t52+1)) (out++[(.inl (((),((),((),()))),(((),r5),(r6,(((),r7),(r8,()))))))]) else none) (fun r16 r17=>if (out.length+1)*24≤140737488355328 then r (IntKind.wrap .i64 (t52+1)) (out++[(.inr (((),((),((),()))),(((),r17),(((),((),((),r12))),(r13,(aQ,(aM,(((),r5),(r6,(((),r7),(r8,())))))))))))]) else none)) else none else if (out.length+1)*24≤140737488355328 then r (IntKind.wrap .i64 (t52+1)) (out++[(.inl (((),((),((),()))),(((),r5),(r6,(((),r7),(r8,()))))))]) else none else none else k1 out
def mz(g91:lq A)(g91n:lr A)(g92:lu A)(g94:fv A)(g93:lv A)(n:Nat)(t50:List Int)(t51:Int)(s:gB)(k0:jz A)(k1:rI A):Nat→(jz A)|0=>fun _ _=>none|f+1=>BV g91 g91n g92 g94 g93 n t50 t51 s k0 k1 (mz g91 g91n g92 g94 g93 n t50 t51 s k0 k1 f)
def BU(g91:lq A)(g91n:lr A)(g92:lu A)(g94:fv A)(g93:lv A)(n:Nat)(t22:List Int)(t23:Int)(s:gB)(k0 k1:Option A)(r:(ae A))(t24:Int):Option A:=bif (decide (t24<t23)) then if 0≤t24 then(t22[(Int.toNat t24)]?).bind fun y1=>bif (decide (y1<0)) then k0 else bif (decide (y1>(s.2.2.1.length:Int))) then k0 else r (IntKind.wrap .i64 (t24+1)) else none else k1
def pH(g91:lq A)(g91n:lr A)(g92:lu A)(g94:fv A)(g93:lv A)(n:Nat)(t22:List Int)(t23:Int)(s:gB)(k0 k1:Option A):Nat→(ae A)|0=>fun _=>none|f+1=>BU g91 g91n g92 g94 g93 n t22 t23 s k0 k1 (pH g91 g91n g92 g94 g93 n t22 t23 s k0 k1 f)
def K6(g91:lq A)(g91n:lr A)(g92:lu A)(g94:fv A)(g93:lv A)(n:Nat)(a0:gB)(k:jz A):Option A:=bif ((a0.2.2.2.1.length:Int) != a0.1.2.2.2.2.1) then k 1 [] else pH g91 g91n g92 g94 g93 n a0.2.2.2.1 (a0.2.2.2.1.length:Int) a0 ( k 1 []) ( g91n a0.2.2.2.2.1 a0.2.2.2.2.2.1 (fun bV=>bif (bV != 0) then k bV [] else mz g91 g91n g92 g94 g93 n a0.2.2.2.1 (a0.2.2.2.1.length:Int) a0 (fun y27 y28=>k y27 []) (fun y29=>k 0 y29) n 0 []) (fun r2 r3=>bif (r2 != 0) then k r2 [] else mz g91 g91n g92 g94 g93 n a0.2.2.2.1 (a0.2.2.2.1.length:Int) a0 (fun y23 y24=>k y23 []) (fun y25=>k 0 y25) n 0 [])) n 0
def K5(n:Nat):xH A:=K6 (vK n) (vL n) (Ck n) (jR n) (vM n) n
abbrev w7(A:Type):=Int→Int→cP→Int→Bool→eH→eN→(ya A)→Option A
def Fz(n:Nat)(pa pba:Int)(pbba:ec)(pbbba:Int)(pbbbba:Bool)(pbbbbbb:jA)(pbbbbba:jB)(k:ya A):Option A:=k pa pba (0,((List.replicate 32 (0:Int)),(0,()))) 0 false pbbbbbb pbbbbba
def zi(n:Nat):w7 A:=Fz n
abbrev xo(A:Type):=Int→Int→Int→(ae A)→Option A
def Aq(g129:km A)(n:Nat)(most fails:Int)(k0:ae A)(r:(cq A))(d_ n_:Int):Option A:=bif (decide (n_<fails)) then bif (decide (d_<most)) then r (shl .i64 d_ 1) (IntKind.wrap .i64 (n_+1)) else k0 d_ else k0 d_
def oK(g129:km A)(n:Nat)(most fails:Int)(k0:ae A):Nat→(cq A)|0=>fun _ _=>none|f+1=>Aq g129 n most fails k0 (oK g129 n most fails k0 f)
def HE(g129:km A)(n:Nat)(a0 a1 a2:Int)(k:ae A):Option A:=g129 a0 a1 fun r1=>bif (!r1) then k 0 else bif (decide (a2<1)) then k 0 else oK g129 n a1 a2 (fun y2=>k (cf y2 a1)) n a0 1
def Ar(n:Nat):xo A:=HE (so n) n
abbrev w9(A:Type):=Int→Int→Int→cP→Int→Bool→eH→eN→(ya A)→Option A
def FC(g191:xo A)(n:Nat)(now pa pba:Int)(pbba:ec)(pbbba:Int)(pbbbba:Bool)(pbbbbbb:jA)(pbbbbba:jB)(k:ya A):Option A:=g191 pa pba (IntKind.wrap .i64 (pbbbbbb.1+1)) fun r1=>k pa pba pbba pbbba pbbbba ((IntKind.wrap .i64 (pbbbbbb.1+1)),((IntKind.wrap .i64 (now+r1)),pbbbbbb.2.2)) pbbbbba
def FB(n:Nat):w9 A:=FC (Ar n) n
abbrev rv(A:Type):=Int→Int→Int→cP→Int→Bool→eH→eN→(OV A)→Option A
def Mg(g134:w7 A)(g135:w9 A)(n:Nat)(now pa pba:Int)(pbba:ec)(pbbba:Int)(pbbbba:Bool)(pbbbbbb:jA)(pbbbbba:jB)(k:OV A):Option A:=bif (!pbbbba) then k (0,((List.replicate 32 (0:Int)),(0,()))) false pa pba pbba pbbba pbbbba pbbbbbb pbbbbba else bif (decide (now<pbbba)) then k (0,((List.replicate 32 (0:Int)),(0,()))) false pa pba pbba pbbba pbbbba pbbbbbb pbbbbba else g134 pa pba pbba pbbba pbbbba pbbbbbb (bw aP (bw aP pbbbbba pbba ((aY aP pbbbbba pbba).getD 0)) pbba (IntKind.wrap .i64 (((aY aP pbbbbba pbba).getD 0)+1))) fun r1 r2 r3 r4 r5 r6 r7=>g135 now r1 r2 r3 r4 r5 r6 r7 fun r8 r9 r10 r11 r12 r13 aQ=>k pbba true r8 r9 r10 r11 r12 r13 aQ
def sS(n:Nat):rv A:=Mg (zi n) (FB n) n
abbrev kq(A:Type):=Int→(cJ A)→Option A
def Q9(n:Nat)(a0:Int)(k:cJ A):Option A:=bif (decide (a0<1)) then k ByteArray.empty else bif (decide (a0>9)) then k ByteArray.empty else if 0≤(IntKind.wrap .i64 (a0-1)) then(((((((((((List.replicate 9 (ByteArray.empty:ByteArray)).set 0 NK).set 1 amI).set 2 amJ).set 3 amK).set 4 amL).set 5 amM).set 6 amN).set 7 amO).set 8 amP)[(Int.toNat (IntKind.wrap .i64 (a0-1)))]?).bind fun y1=>k y1 else none
def zn(n:Nat):kq A:=Q9 n
abbrev kr(A:Type):=Int→Int→(aW A)→Option A
def Rb(n:Nat)(a0 a1:Int)(k:aW A):Option A:=if 0≤a0 then if a0<10 then(((((((((((List.replicate 10 (0:Int)).set 1 259).set 2 260).set 3 16).set 4 48).set 5 80).set 6 208).set 7 256).set 8 256).set 9 856)[(Int.toNat a0)]?).bind fun y1=>if a1<0 then none else k ((bL .u16 (shr .u16 y1 a1) 1)==1) else none else none
def uC(n:Nat):kr A:=Rb n
abbrev ku(A:Type):=Int→io→(aW A)→Option A
def Re(n:Nat)(field:Int)(m:ip)(k:aW A):Option A:=bif (field==0) then k ((m.2.1.length:Int)==0) else bif (field==1) then k (cY aa m.2.2.1 (List.replicate 32 (0:Int))) else bif (field==2) then k ((m.2.2.2.1.length:Int)==0) else bif (field==3) then k (m.2.2.2.2.2.2.2.2.2.1==0) else bif (field==4) then k (cY aa m.2.2.2.2.1 (List.replicate 32 (0:Int))) else bif (field==5) then k ((m.2.2.2.2.2.2.1.length:Int)==0) else bif (field==6) then k ((m.2.2.2.2.2.1.length:Int)==0) else bif (field==7) then k ((m.2.2.2.2.2.2.2.1.length:Int)==0) else bif (field==8) then k (m.2.2.2.2.2.2.2.2.1==0) else k (m.2.2.2.2.2.2.2.2.2.2.1==0)
def Rc(n:Nat):ku A:=Re n
abbrev kw(A:Type):=io→Int→(aW A)→Option A
def Rg(n:Nat)(m:ip)(field:Int)(k:aW A):Option A:=bif (field==0) then k ((m.2.1.length:Int)==0) else bif (field==1) then k (cY aa m.2.2.1 (List.replicate 32 (0:Int))) else bif (field==2) then k ((m.2.2.2.1.length:Int)==0) else bif (field==3) then k (m.2.2.2.2.2.2.2.2.2.1==0) else bif (field==4) then k (cY aa m.2.2.2.2.1 (List.replicate 32 (0:Int))) else bif (field==5) then k ((m.2.2.2.2.2.2.1.length:Int)==0) else bif (field==6) then k ((m.2.2.2.2.2.1.length:Int)==0) else bif (field==7) then k ((m.2.2.2.2.2.2.2.1.length:Int)==0) else bif (field==8) then k (m.2.2.2.2.2.2.2.2.1==0) else k (m.2.2.2.2.2.2.2.2.2.2.1==0)
def FS(n:Nat):kw A:=Rg n
abbrev qQ(A:Type):=tU→(aW A)→Option A
def So(n:Nat)(t8:tV)(t9:Int)(k0 k1:Option A)(r:(ae A))(t10:Int):Option A:=bif (decide (t10<t9)) then if 0≤t10 then(t8[(Int.toNat t10)]?).bind fun y1=>bif (decide ((y1.1.length:Int)>700)) then k0 else bif (decide (y1.2.1.1<0)) then k0 else bif (decide (y1.2.1.1>65536)) then k0 else bif (decide (y1.2.1.2.1<0)) then k0 else bif (decide (y1.2.1.2.1>65536)) then k0 else bif (decide ((y1.2.1.2.2.1.length:Int)>16)) then k0 else r (IntKind.wrap .i64 (t10+1)) else none else k1
def AI(n:Nat)(t8:tV)(t9:Int)(k0 k1:Option A):Nat→(ae A)|0=>fun _=>none|f+1=>So n t8 t9 k0 k1 (AI n t8 t9 k0 k1 f)
def Sq(n:Nat)(a0:tV)(k:aW A):Option A:=bif (decide ((a0.length:Int)>16)) then k false else AI n a0 (a0.length:Int) ( k false) ( k true) n 0
def H4(n:Nat):qQ A:=Sq n
abbrev kx(A:Type):=Int→io→(aW A)→Option A
def Rk(g211:qQ A)(n:Nat)(field:Int)(m:ip)(k:aW A):Option A:=bif (field==0) then k (decide ((m.2.1.length:Int)≤64)) else bif (field==2) then k (decide ((m.2.2.2.1.length:Int)≤2000)) else bif (field==3) then bif (decide (m.2.2.2.2.2.2.2.2.2.1≥0)) then k (decide (m.2.2.2.2.2.2.2.2.2.1≤255)) else k false else bif (field==5) then k (decide ((m.2.2.2.2.2.2.1.length:Int)≤2048)) else bif (field==6) then k (decide ((m.2.2.2.2.2.1.length:Int)≤64)) else bif (field==7) then g211 m.2.2.2.2.2.2.2.1 fun r1=>k r1 else bif (field==9) then bif (decide (m.2.2.2.2.2.2.2.2.2.2.1≥0)) then k (decide (m.2.2.2.2.2.2.2.2.2.2.1≤255)) else k false else k true
def Rj(n:Nat):kx A:=Rk (H4 n) n
abbrev ky(A:Type):=io→Int→(aW A)→Option A
def Rm(g211:qQ A)(n:Nat)(m:ip)(field:Int)(k:aW A):Option A:=bif (field==0) then k (decide ((m.2.1.length:Int)≤64)) else bif (field==2) then k (decide ((m.2.2.2.1.length:Int)≤2000)) else bif (field==3) then bif (decide (m.2.2.2.2.2.2.2.2.2.1≥0)) then k (decide (m.2.2.2.2.2.2.2.2.2.1≤255)) else k false else bif (field==5) then k (decide ((m.2.2.2.2.2.2.1.length:Int)≤2048)) else bif (field==6) then k (decide ((m.2.2.2.2.2.1.length:Int)≤64)) else bif (field==7) then g211 m.2.2.2.2.2.2.2.1 fun r1=>k r1 else bif (field==9) then bif (decide (m.2.2.2.2.2.2.2.2.2.2.1≥0)) then k (decide (m.2.2.2.2.2.2.2.2.2.2.1≤255)) else k false else k true
def FY(n:Nat):ky A:=Rm (H4 n) n
abbrev fq(A:Type):=Int→Unit→(List Int)→(co A)→Option A
def H9(g150:dF A)(n:Nat)(n_:Int)(wb:Unit)(wa:List Int)(k:co A):Option A:=bif (decide (n_<253)) then g150 n_ 1 wb wa fun r1 r2=>k r1 r2 else bif (decide (n_≤65535)) then g150 253 1 wb wa fun r3 r4=>g150 n_ 2 r3 r4 fun r5 r6=>k r5 r6 else bif (decide (n_≤4294967295)) then g150 254 1 wb wa fun r7 r8=>g150 n_ 4 r7 r8 fun r9 r10=>k r9 r10 else g150 255 1 wb wa fun r11 r12=>g150 n_ 8 r11 r12 fun r13 aQ=>k r13 aQ
def oP(n:Nat):fq A:=H9 (fF n) n
abbrev kH(A:Type):=(List (List Int))→Unit→(List Int)→(co A)→Option A
def Ss(g213:fq A)(g190:dX A)(n:Nat)(l:List (List Int))(t11:Int)(k0:co A)(r:(iY A))(t12:Int)(wb:Unit)(wa:List Int):Option A:=bif (decide (t12<t11)) then if 0≤t12 then(l[(Int.toNat t12)]?).bind fun y3=>g190 [((y3.drop 0).take 32)] wb wa fun r4 r5=>r (IntKind.wrap .i64 (t12+1)) r4 r5 else none else k0 wb wa
def AJ(g213:fq A)(g190:dX A)(n:Nat)(l:List (List Int))(t11:Int)(k0:co A):Nat→(iY A)|0=>fun _ _ _=>none|f+1=>Ss g213 g190 n l t11 k0 (AJ g213 g190 n l t11 k0 f)
def Su(g213:fq A)(g190:dX A)(n:Nat)(l:List (List Int))(wb:Unit)(wa:List Int)(k:co A):Option A:=g213 (IntKind.wrap .u64 (l.length:Int)) wb wa fun r1 r2=>AJ g213 g190 n l (l.length:Int) (fun y6 y7=>k y6 y7) n 0 r1 r2
def uW(n:Nat):kH A:=Su (oP n) (iq n) n
abbrev kJ(A:Type):=(List Int)→Unit→(List Int)→(co A)→Option A
def Sw(g213:fq A)(g190:dX A)(n:Nat)(b:List Int)(wb:Unit)(wa:List Int)(k:co A):Option A:=g213 (IntKind.wrap .u64 (b.length:Int)) wb wa fun r1 r2=>g190 [b] r1 r2 fun r3 r4=>k r3 r4
def Sv(n:Nat):kJ A:=Sw (oP n) (iq n) n
abbrev kz(A:Type):=io→Int→Unit→(List Int)→(co A)→(co A)→Option A
def Ro(g212:kH A)(g190:dX A)(g213:fq A)(g133:iN A)(g150:dF A)(g214:kJ A)(n:Nat)(t100:tV)(t101:Int)(k0:co A)(r:(iY A))(t102:Int)(wb:Unit)(wa:List Int):Option A:=bif (decide (t102<t101)) then if 0≤t102 then(t100[(Int.toNat t102)]?).bind fun y23=>g214 y23.1 wb wa fun r24 cD=>g213 (IntKind.wrap .u64 y23.2.1.1) r24 cD fun bV r27=>g213 (IntKind.wrap .u64 y23.2.1.2.1) bV r27 fun r28 r29=>g212 y23.2.1.2.2.1 r28 r29 fun r30 r31=>r (IntKind.wrap .i64 (t102+1)) r30 r31 else none else k0 wb wa
def zt(g212:kH A)(g190:dX A)(g213:fq A)(g133:iN A)(g150:dF A)(g214:kJ A)(n:Nat)(t100:tV)(t101:Int)(k0:co A):Nat→(iY A)|0=>fun _ _ _=>none|f+1=>Ro g212 g190 g213 g133 g150 g214 n t100 t101 k0 (zt g212 g190 g213 g133 g150 g214 n t100 t101 k0 f)
def Rn(g212:kH A)(g190:dX A)(g213:fq A)(g133:iN A)(g150:dF A)(g214:kJ A)(n:Nat)(t41:rD)(t42:Int)(k0:co A)(r:(iY A))(t43:Int)(wb:Unit)(wa:List Int):Option A:=bif (decide (t43<t42)) then if 0≤t43 then(t41[(Int.toNat t43)]?).bind fun y7=>g133 y7 fun r8=>g190 [r8] wb wa fun r9 r10=>r (IntKind.wrap .i64 (t43+1)) r9 r10 else none else k0 wb wa
def zr(g212:kH A)(g190:dX A)(g213:fq A)(g133:iN A)(g150:dF A)(g214:kJ A)(n:Nat)(t41:rD)(t42:Int)(k0:co A):Nat→(iY A)|0=>fun _ _ _=>none|f+1=>Rn g212 g190 g213 g133 g150 g214 n t41 t42 k0 (zr g212 g190 g213 g133 g150 g214 n t41 t42 k0 f)
def uF(g212:kH A)(g190:dX A)(g213:fq A)(g133:iN A)(g150:dF A)(g214:kJ A)(n:Nat)(m:ip)(field:Int)(wb:Unit)(wa:List Int)(k0 k1:co A):Option A:=bif (field==0) then g212 m.2.1 wb wa fun r1 r2=>k0 r1 r2 else bif (field==1) then g190 [((m.2.2.1.drop 0).take 32)] wb wa fun r3 r4=>k0 r3 r4 else bif (field==2) then g213 (IntKind.wrap .u64 (m.2.2.2.1.length:Int)) wb wa fun r5 r6=>zr g212 g190 g213 g133 g150 g214 n m.2.2.2.1 (m.2.2.2.1.length:Int) (fun y11 y12=>k0 y11 y12) n 0 r5 r6 else bif (field==3) then g150 (IntKind.wrap .u64 m.2.2.2.2.2.2.2.2.2.1) 1 wb wa fun r13 aQ=>k0 r13 aQ else bif (field==4) then g190 [((m.2.2.2.2.1.drop 0).take 32)] wb wa fun aM r16=>k0 aM r16 else bif (field==5) then g214 m.2.2.2.2.2.2.1 wb wa fun r17 r18=>k0 r17 r18 else bif (field==6) then g214 m.2.2.2.2.2.1 wb wa fun aX bn=>k0 aX bn else bif (field==7) then g213 (IntKind.wrap .u64 (m.2.2.2.2.2.2.2.1.length:Int)) wb wa fun r21 r22=>zt g212 g190 g213 g133 g150 g214 n m.2.2.2.2.2.2.2.1 (m.2.2.2.2.2.2.2.1.length:Int) (fun y32 y33=>k0 y32 y33) n 0 r21 r22 else bif (field==8) then g150 m.2.2.2.2.2.2.2.2.1 8 wb wa fun dC r35=>k0 dC r35 else bif (field==9) then g150 (IntKind.wrap .u64 m.2.2.2.2.2.2.2.2.2.2.1) 1 wb wa fun r36 r37=>k0 r36 r37 else k1 wb wa
def l9(n:Nat):kz A:=uF (uW n) (iq n) (oP n) (uy n) (fF n) (Sv n) n
abbrev wR(A:Type):=io→(bt A)→Option A
def QH(g142:kq A)(g143:kr A)(g148:ku A)(g148n:kw A)(g149:gm A)(g150:dF A)(g151:kx A)(g151n:ky A)(g152:kz A)(g153:gq A)(n:Nat)(m:ip)(k0 k1:co A)(r:(iY A))(t31:Int)(wb:Unit)(wa:List Int):Option A:=bif (decide (t31<10)) then g143 m.1 t31 fun r8=>bif (!r8) then r (IntKind.wrap .i64 (t31+1)) wb wa else g151n m t31 fun r9=>bif (!r9) then k0 wb wa else g152 m t31 wb wa (fun r10 r11=>r (IntKind.wrap .i64 (t31+1)) r10 r11) (fun r12 r13=>r (IntKind.wrap .i64 (t31+1)) r12 r13) else k1 wb wa
def ul(g142:kq A)(g143:kr A)(g148:ku A)(g148n:kw A)(g149:gm A)(g150:dF A)(g151:kx A)(g151n:ky A)(g152:kz A)(g153:gq A)(n:Nat)(m:ip)(k0 k1:co A):Nat→(iY A)|0=>fun _ _ _=>none|f+1=>QH g142 g143 g148 g148n g149 g150 g151 g151n g152 g153 n m k0 k1 (ul g142 g143 g148 g148n g149 g150 g151 g151n g152 g153 n m k0 k1 f)
def QG(g142:kq A)(g143:kr A)(g148:ku A)(g148n:kw A)(g149:gm A)(g150:dF A)(g151:kx A)(g151n:ky A)(g152:kz A)(g153:gq A)(n:Nat)(m:ip)(k0 k1:Option A)(r:(ae A))(t11:Int):Option A:=bif (decide (t11<10)) then g143 m.1 t11 fun r2=>bif (!r2) then g148n m t11 fun r3=>bif (!r3) then k0 else r (IntKind.wrap .i64 (t11+1)) else r (IntKind.wrap .i64 (t11+1)) else k1
def uk(g142:kq A)(g143:kr A)(g148:ku A)(g148n:kw A)(g149:gm A)(g150:dF A)(g151:kx A)(g151n:ky A)(g152:kz A)(g153:gq A)(n:Nat)(m:ip)(k0 k1:Option A):Nat→(ae A)|0=>fun _=>none|f+1=>QG g142 g143 g148 g148n g149 g150 g151 g151n g152 g153 n m k0 k1 (uk g142 g143 g148 g148n g149 g150 g151 g151n g152 g153 n m k0 k1 f)
def EB(g142:kq A)(g143:kr A)(g148:ku A)(g148n:kw A)(g149:gm A)(g150:dF A)(g151:kx A)(g151n:ky A)(g152:kz A)(g153:gq A)(n:Nat)(a0:ip)(k:bt A):Option A:=g142 a0.1 fun r1=>bif (r1.toList==ByteArray.empty.toList) then k 3 [] else uk g142 g143 g148 g148n g149 g150 g151 g151n g152 g153 n a0 ( k 3 []) ( g149 fun r4 r5=>g150 (IntKind.wrap .u64 a0.1) 1 r4 r5 fun r6 r7=>ul g142 g143 g148 g148n g149 g150 g151 g151n g152 g153 n a0 (fun y14 y15=>k 4 []) (fun y16 y17=>g153 y16 y17 fun r18=>k 0 r18) n 0 r6 r7) n 0
def yE(n:Nat):wR A:=EB (zn n) (uC n) (Rc n) (FS n) (ol n) (fF n) (Rj n) (FY n) (l9 n) (om n) n
abbrev wS(A:Type):=Int→io→fA→(DB A)→(DB A)→Option A
def EF(g101:wR A)(n:Nat)(i:Int)(m:ip)(out:jy)(k0 k1:DB A):Option A:=g101 m fun r1 r2=>bif (r1 != 0) then k0 out else if (out.length+1)*32≤140737488355328 then k1 (out++[(i,(r2,()))]) else none
def yG(n:Nat):wS A:=EF (yE n) n
abbrev qx(A:Type):=Int→Int→Int→cP→Int→Bool→eH→eN→(aW A)→Option A
def FD(n:Nat)(now pa pba:Int)(pbba:ec)(pbbba:Int)(pbbbba:Bool)(pbbbbbb:jA)(pbbbbba:jB)(k:aW A):Option A:=bif (!pbbbbbb.2.2.2.1) then bif (!pbbbba) then k (decide (now≥pbbbbbb.2.1)) else k false else k false
def uz(n:Nat):qx A:=FD n
abbrev rd(A:Type):=Int→(ae A)→Option A
def Tm(n:Nat)(a0:Int)(k:ae A):Option A:=bif (a0==0) then k 16 else if 0≤(shr .u32 (IntKind.wrap .u32 ((IntKind.wrap .u32 (bL .u16 a0 (IntKind.wrap .u16 (0-a0))))*125613361)) 27) then if (shr .u32 (IntKind.wrap .u32 ((IntKind.wrap .u32 (bL .u16 a0 (IntKind.wrap .u16 (0-a0))))*125613361)) 27)<32 then(Mu[(Int.toNat (shr .u32 (IntKind.wrap .u32 ((IntKind.wrap .u32 (bL .u16 a0 (IntKind.wrap .u16 (0-a0))))*125613361)) 27))]?).bind fun y1=>k (IntKind.wrap .i64 y1) else none else none
def Tl(n:Nat):rd A:=Tm n
abbrev xp(A:Type):=(List (List Int))→Int→Unit→bc→(xS A)→Option A
def Sa(g258:rd A)(n:Nat)(t20:List (List Int))(t21 sa:Int)(sbb:Unit)(sba:bO)(t4:ec)(k0:rA A)(k1:Option A)(r:(ae A))(t22:Int):Option A:=bif (decide (t22<t21)) then if 0≤t22 then(t20[(Int.toNat t22)]?).bind fun y1=>bif (!(aY aa sba y1).isSome) then k0 (3,(y1,(0,()))) else bif (((aY aa sba y1).getD 0) != 0) then g258 ((aY aa sba y1).getD 0) fun r2=>k0 (5,(y1,(r2,()))) else r (IntKind.wrap .i64 (t22+1)) else none else k1
def Au(g258:rd A)(n:Nat)(t20:List (List Int))(t21 sa:Int)(sbb:Unit)(sba:bO)(t4:ec)(k0:rA A)(k1:Option A):Nat→(ae A)|0=>fun _=>none|f+1=>Sa g258 n t20 t21 sa sbb sba t4 k0 k1 (Au g258 n t20 t21 sa sbb sba t4 k0 k1 f)
def HH(g258:rd A)(n:Nat)(line:List (List Int))(sa:Int)(sbb:Unit)(sba:bO)(k:xS A):Option A:=bif (sa==0) then k (0,((List.replicate 32 (0:Int)),(0,()))) false else if 0≤(cf 1 (line.length:Int)) then if (cf 1 (line.length:Int))≤(line.length:Int) then Au g258 n ((line.drop (Int.toNat (cf 1 (line.length:Int)))).take (line.length-(Int.toNat (cf 1 (line.length:Int))))) (((line.drop (Int.toNat (cf 1 (line.length:Int)))).take (line.length-(Int.toNat (cf 1 (line.length:Int))))).length:Int) sa sbb sba (0,((List.replicate 32 (0:Int)),(0,()))) (fun y3=>k y3 true) ( k (0,((List.replicate 32 (0:Int)),(0,()))) false) n 0 else none else none
def As(n:Nat):xp A:=HH (Tl n) n
abbrev qM(A:Type):=aJ→Unit→bR→bc→(List Int)→(bx A)→Option A
def Sc(n:Nat)(t10:Int)(ta:aT)(tbbbb:Unit)(tba:cA)(tbba:bO)(t9:List Int)(k0:bx A)(r:(dz A))(t11:Int)(out:List (List Int)):Option A:=bif (decide (t11<t10)) then if 0≤t11 then if t11<(t9.length:Int) then(t9[(Int.toNat t11)]?).bind fun y1=>if 0≤y1 then if y1<(tba.length:Int) then(tba[(Int.toNat y1)]?).bind fun y2=>if (out.length+1)*32≤140737488355328 then r (IntKind.wrap .i64 (t11+1)) (out++[y2.2.1]) else none else none else none else none else none else k0 out
def Ax(n:Nat)(t10:Int)(ta:aT)(tbbbb:Unit)(tba:cA)(tbba:bO)(t9:List Int)(k0:bx A):Nat→(dz A)|0=>fun _ _=>none|f+1=>Sc n t10 ta tbbbb tba tbba t9 k0 (Ax n t10 ta tbbbb tba tbba t9 k0 f)
def Se(n:Nat)(ta:aT)(tbbbb:Unit)(tba:cA)(tbba:bO)(tbbba:List Int)(k:bx A):Option A:=Ax n (tbbba.length:Int) ta tbbbb tba tbba tbbba (fun y3=>k y3) n 0 []
def Aw(n:Nat):qM A:=Se n
abbrev xq(A:Type):=(List (List Int))→(bx A)→Option A
def Sg(n:Nat)(line:List (List Int))(k0:bx A)(r:(OW A))(step at_:Int)(out:List (List Int)):Option A:=bif (decide (at_>0)) then if 0≤at_ then(line[(Int.toNat at_)]?).bind fun y1=>if (out.length+1)*32≤140737488355328 then bif (decide (((out++[y1]).length:Int)≥10)) then r (shl .i64 step 1) (IntKind.wrap .i64 (at_-(shl .i64 step 1))) (out++[y1]) else r step (IntKind.wrap .i64 (at_-step)) (out++[y1]) else none else none else k0 out
def Ay(n:Nat)(line:List (List Int))(k0:bx A):Nat→(OW A)|0=>fun _ _ _=>none|f+1=>Sg n line k0 (Ay n line k0 f)
def Si(n:Nat)(a0:List (List Int))(k:bx A):Option A:=bif ((a0.length:Int)==0) then k [] else Ay n a0 (fun y2=>(a0[0]?).bind fun y3=>if (y2.length+1)*32≤140737488355328 then k (y2++[y3]) else none) n 1 (IntKind.wrap .i64 ((a0.length:Int)-1)) []
def HL(n:Nat):xq A:=Si n
abbrev xr(A:Type):=aJ→Int→Int→Int→Int→Unit→Int→Unit→(List (List Int))→aJ→Unit→bR→bc→(List Int)→cn→Nat→(Option (List Int))→nA→Int→Int→cP→Int→Bool→eH→eN→Int→Unit→bc→cI→cB→(bx A)→Option A
def HO(g193:qM A)(n:Nat)(caa:aT)(caba cabba cabbba cabbbba:Int)(cabbbbbb:Unit)(cbba:Int)(cbbbbbb:Unit)(cabbbbba:List (List Int))(cbaa:aT)(cbabbbb:Unit)(cbaba:cA)(cbabba:bO)(cbabbba:List Int)(cbbba:dw)(cbbbaj:Nat)(sbba:Option (List Int))(sbbb:OX)(saa saba:Int)(sabba:ec)(sabbba:Int)(sabbbba:Bool)(sabbbbbb:jA)(sabbbbba:jB)(sbaa:Int)(sbabb:Unit)(sbaba:bO)(cbbbba:dq)(cbbbbba:dr)(k:bx A):Option A:=bif (sbba.isNone) then g193 cbaa cbabbbb cbaba cbabba cbabbba fun r1=>k r1 else(sbba).bind fun y2=>none
def Az(n:Nat):xr A:=HO (Aw n) n
abbrev xb(A:Type):=aJ→Int→Int→Int→Int→Unit→Int→Unit→(List (List Int))→aJ→Unit→bR→bc→(List Int)→cn→Nat→(Option (List Int))→nA→Int→Int→cP→Int→Bool→eH→eN→Int→Unit→bc→cI→cB→(OY A)→Option A
def FF(g193:qM A)(g192:xp A)(g195:xr A)(g194:xq A)(g65:dI A)(n:Nat)(caa:aT)(caba cabba cabbba cabbbba:Int)(cabbbbbb:Unit)(cbba:Int)(cbbbbbb:Unit)(cabbbbba:List (List Int))(cbaa:aT)(cbabbbb:Unit)(cbaba:cA)(cbabba:bO)(cbabbba:List Int)(cbbba:dw)(cbbbaj:Nat)(sbba:Option (List Int))(sbbb:OX)(saa saba:Int)(sabba:ec)(sabbba:Int)(sabbbba:Bool)(sabbbbbb:jA)(sabbbbba:jB)(sbaa:Int)(sbabb:Unit)(sbaba:bO)(cbbbba:dq)(cbbbbba:dr)(k:OY A):Option A:=g193 cbaa cbabbbb cbaba cbabba cbabbba fun r1=>g192 r1 sbaa sbabb sbaba fun r2 r3=>bif (decide (cbba≥sbbb.1)) then bif sbbb.2.2.1 then bif (!r3) then g195 caa caba cabba cabbba cabbbba cabbbbbb cbba cbbbbbb cabbbbba cbaa cbabbbb cbaba cbabba cbabbba cbbba cbbbaj sbba (sbbb.1,((IntKind.wrap .i64 (sbbb.2.1+1)),sbbb.2.2)) saa saba sabba sabbba sabbbba sabbbbbb sabbbbba sbaa sbabb sbaba cbbbba cbbbbba fun r4=>g194 r4 fun r5=>k (1,(r5,((List.replicate 32 (0:Int)),([],((List.replicate 32 (0:Int)),([],([],([],((IntKind.wrap .u64 (IntKind.wrap .i64 (sbbb.2.1+1))),(0,(0,()))))))))))) (1,((List.replicate 32 (0:Int)),((IntKind.wrap .i64 (sbbb.2.1+1)),()))) true caa caba cabba cabbba cabbbba cabbbbbb cbba cbbbbbb cabbbbba cbaa cbabbbb cbaba cbabba cbabbba cbbba cbbbaj sbba (sbbb.1,((IntKind.wrap .i64 (sbbb.2.1+1)),sbbb.2.2)) saa saba sabba sabbba sabbbba sabbbbbb sabbbbba sbaa sbabb sbaba cbbbba cbbbbba else bif (r2.1==5) then if 0≤r2.2.2.1 then if r2.2.2.1<(cabbbbba.length:Int) then(cabbbbba[(Int.toNat r2.2.2.1)]?).bind fun y6=>g65 y6 fun r7=>k (r2.1,([],((List.replicate 32 (0:Int)),([],(r2.2.1,(r7,([],([],(0,(0,(0,()))))))))))) r2 r3 caa caba cabba cabbba cabbbba cabbbbbb cbba cbbbbbb cabbbbba cbaa cbabbbb cbaba cbabba cbabbba cbbba cbbbaj sbba sbbb saa saba sabba sabbba sabbbba sabbbbbb sabbbbba sbaa sbabb sbaba cbbbba cbbbbba else none else none else k (r2.1,([],((List.replicate 32 (0:Int)),([],(r2.2.1,([],([],([],(0,(0,(0,()))))))))))) r2 r3 caa caba cabba cabbba cabbbba cabbbbbb cbba cbbbbbb cabbbbba cbaa cbabbbb cbaba cbabba cbabbba cbbba cbbbaj sbba sbbb saa saba sabba sabbba sabbbba sabbbbbb sabbbbba sbaa sbabb sbaba cbbbba cbbbbba else g195 caa caba cabba cabbba cabbbba cabbbbbb cbba cbbbbbb cabbbbba cbaa cbabbbb cbaba cbabba cbabbba cbbba cbbbaj sbba (sbbb.1,((IntKind.wrap .i64 (sbbb.2.1+1)),sbbb.2.2)) saa saba sabba sabbba sabbbba sabbbbbb sabbbbba sbaa sbabb sbaba cbbbba cbbbbba fun r8=>g194 r8 fun r9=>k (1,(r9,((List.replicate 32 (0:Int)),([],((List.replicate 32 (0:Int)),([],([],([],((IntKind.wrap .u64 (IntKind.wrap .i64 (sbbb.2.1+1))),(0,(0,()))))))))))) (1,((List.replicate 32 (0:Int)),((IntKind.wrap .i64 (sbbb.2.1+1)),()))) true caa caba cabba cabbba cabbbba cabbbbbb cbba cbbbbbb cabbbbba cbaa cbabbbb cbaba cbabba cbabbba cbbba cbbbaj sbba (sbbb.1,((IntKind.wrap .i64 (sbbb.2.1+1)),sbbb.2.2)) saa saba sabba sabbba sabbbba sabbbbbb sabbbbba sbaa sbabb sbaba cbbbba cbbbbba else bif (r2.1==5) then if 0≤r2.2.2.1 then if r2.2.2.1<(cabbbbba.length:Int) then(cabbbbba[(Int.toNat r2.2.2.1)]?).bind fun y10=>g65 y10 fun r11=>k (r2.1,([],((List.replicate 32 (0:Int)),([],(r2.2.1,(r11,([],([],(0,(0,(0,()))))))))))) r2 r3 caa caba cabba cabbba cabbbba cabbbbbb cbba cbbbbbb cabbbbba cbaa cbabbbb cbaba cbabba cbabbba cbbba cbbbaj sbba sbbb saa saba sabba sabbba sabbbba sabbbbbb sabbbbba sbaa sbabb sbaba cbbbba cbbbbba else none else none else k (r2.1,([],((List.replicate 32 (0:Int)),([],(r2.2.1,([],([],([],(0,(0,(0,()))))))))))) r2 r3 caa caba cabba cabbba cabbbba cabbbbbb cbba cbbbbbb cabbbbba cbaa cbabbbb cbaba cbabba cbabbba cbbba cbbbaj sbba sbbb saa saba sabba sabbba sabbbba sabbbbbb sabbbbba sbaa sbabb sbaba cbbbba cbbbbba
def zk(n:Nat):xb A:=FF (Aw n) (As n) (Az n) (HL n) (fX n) n
abbrev xc(A:Type):=cP→Int→Int→Int→cP→Int→Bool→eH→eN→(xX A)→Option A
def FI(g136:qx A)(n:Nat)(k_:ec)(now pa pba:Int)(pbba:ec)(pbbba:Int)(pbbbba:Bool)(pbbbbbb:jA)(pbbbbba:jB)(k:xX A):Option A:=bif (decide (now<0)) then k 5 pa pba pbba pbbba pbbbba pbbbbbb pbbbbba else bif (decide (now>1099511627776)) then k 5 pa pba pbba pbbba pbbbba pbbbbbb pbbbbba else g136 now pa pba pbba pbbba pbbbba pbbbbbb pbbbbba fun r1=>bif (!r1) then k 16 pa pba pbba pbbba pbbbba pbbbbbb pbbbbba else k 0 pa pba k_ (IntKind.wrap .i64 (now+pa)) true pbbbbbb pbbbbba
def FH(n:Nat):xc A:=FI (uz n) n
abbrev rx(A:Type):=Int→aJ→Int→Int→Int→Int→Unit→Int→Unit→(List (List Int))→aJ→Unit→bR→bc→(List Int)→cn→cI→cB→fA→(rJ A)→(rJ A)→Option A
def Cn(g136:qx A)(g137:xb A)(g138:xc A)(g103:wS A)(n:Nat)(i:Int)(caa:aT)(caba cabba cabbba cabbbba:Int)(cabbbbbb:Unit)(cbba:Int)(cbbbbbb:Unit)(cabbbbba:List (List Int))(cbaa:aT)(cbabbbb:Unit)(cbaba:cA)(cbabba:bO)(cbabbba:List Int)(cbbba:dw)(cbbbba:dq)(cbbbbba:dr)(out:jy)(k0 k1:rJ A):Option A:=if 0≤i then if i<(cbbba.length:Int) then(cbbba[(Int.toNat i)]?).bind fun y1=>g136 cbba y1.2.2.1.1 y1.2.2.1.2.1 y1.2.2.1.2.2.1 y1.2.2.1.2.2.2.1 y1.2.2.1.2.2.2.2.1 y1.2.2.1.2.2.2.2.2.2 y1.2.2.2.1 fun r2=>bif (!r2) then k0 caa caba cabba cabbba cabbbba cabbbbbb cbba cbbbbbb cabbbbba cbaa cbabbbb cbaba cbabba cbabbba (cbbba.set (Int.toNat i) ((),(((),((),(y1.2.1.2.2.1,y1.2.1.2.2.2))),((y1.2.2.1.1,(y1.2.2.1.2.1,(y1.2.2.1.2.2.1,(y1.2.2.1.2.2.2.1,(y1.2.2.1.2.2.2.2.1,((),y1.2.2.1.2.2.2.2.2.2)))))),(y1.2.2.2.1,((y1.2.2.2.2.1.1,((),y1.2.2.2.2.1.2.2)),(y1.2.2.2.2.2.1,()))))))) cbbbba cbbbbba out else g137 caa caba cabba cabbba cabbbba cabbbbbb cbba cbbbbbb cabbbbba cbaa cbabbbb cbaba cbabba cbabbba cbbba (Int.toNat i) y1.2.1.2.2.1 y1.2.1.2.2.2 y1.2.2.1.1 y1.2.2.1.2.1 y1.2.2.1.2.2.1 y1.2.2.1.2.2.2.1 y1.2.2.1.2.2.2.2.1 y1.2.2.1.2.2.2.2.2.2 y1.2.2.2.1 y1.2.2.2.2.1.1 y1.2.2.2.2.1.2.2 y1.2.2.2.2.2.1 cbbbba cbbbbba fun r3 r4 r5 r6 r7 r8 r9 r10 r11 r12 r13 aQ aM r16 r17 r18 aX bn r21 r22 r23 r24 cD bV r27 r28 r29 r30 r31 r32 eA dC r35=>bif (!r5) then k0 r6 r7 r8 r9 r10 r11 r12 r13 aQ aM r16 r17 r18 aX (bn.set r21 ((),(((),((),(r22,r23))),((r24,(cD,(bV,(r27,(r28,((),r29)))))),(r30,((r31,((),r32)),(eA,()))))))) dC r35 out else g138 r4 r12 r24 cD bV r27 r28 r29 r30 fun r36 r37 r38 r39 r40 r41 r42 r43=>g103 i r3 out (fun r44=>k0 r6 r7 r8 r9 r10 r11 r12 r13 aQ aM r16 r17 r18 aX (bn.set r21 ((),(((),((),(r22,r23))),((r37,(r38,(r39,(r40,(r41,((),r42)))))),(r43,((r31,((),r32)),(eA,()))))))) dC r35 r44) (fun r45=>k1 r6 r7 r8 r9 r10 r11 r12 r13 aQ aM r16 r17 r18 aX (bn.set r21 ((),(((),((),(r22,r23))),((r37,(r38,(r39,(r40,(r41,((),r42)))))),(r43,((r31,((),r32)),(eA,()))))))) dC r35 r45) else none else none
def jS(n:Nat):rx A:=Cn (uz n) (zk n) (FH n) (yG n) n
abbrev iR(A:Type):=Int→aJ→Int→Int→Int→Int→Unit→Int→Unit→(List (List Int))→aJ→Unit→bR→bc→(List Int)→cn→cI→cB→(yb A)→Option A
def BW(g95:rv A)(g96:rx A)(n:Nat)(now t27:Int)(k0:rJ A)(r:(yb A))(t28:Int)(caa:aT)(caba cabba cabbba cabbbba:Int)(cabbbbbb:Unit)(cbba:Int)(cbbbbbb:Unit)(cabbbbba:List (List Int))(cbaa:aT)(cbabbbb:Unit)(cbaba:cA)(cbabba:bO)(cbabbba:List Int)(t26:dw)(cbbbba:dq)(cbbbbba:dr)(out:jy):Option A:=bif (decide (t28<t27)) then if 0≤t28 then if t28<(t26.length:Int) then(t26[(Int.toNat t28)]?).bind fun y1=>g95 now y1.2.2.1.1 y1.2.2.1.2.1 y1.2.2.1.2.2.1 y1.2.2.1.2.2.2.1 y1.2.2.1.2.2.2.2.1 y1.2.2.1.2.2.2.2.2.2 y1.2.2.2.1 fun r2 r3 r4 r5 r6 r7 r8 r9 r10=>g96 t28 caa caba cabba cabbba cabbbba cabbbbbb cbba cbbbbbb cabbbbba cbaa cbabbbb cbaba cbabba cbabbba (t26.set (Int.toNat t28) ((),(((),((),(y1.2.1.2.2.1,y1.2.1.2.2.2))),((r4,(r5,(r6,(r7,(r8,((),r9)))))),(r10,((y1.2.2.2.2.1.1,((),y1.2.2.2.2.1.2.2)),(y1.2.2.2.2.2.1,()))))))) cbbbba cbbbbba out (fun r11 r12 r13 aQ aM r16 r17 r18 aX bn r21 r22 r23 r24 cD bV r27 r28=>r (IntKind.wrap .i64 (t28+1)) r11 r12 r13 aQ aM r16 r17 r18 aX bn r21 r22 r23 r24 cD bV r27 r28) (fun r29 r30 r31 r32 eA dC r35 r36 r37 r38 r39 r40 r41 r42 r43 r44 r45 r46=>r (IntKind.wrap .i64 (t28+1)) r29 r30 r31 r32 eA dC r35 r36 r37 r38 r39 r40 r41 r42 r43 r44 r45 r46) else none else none else k0 caa caba cabba cabbba cabbbba cabbbbbb cbba cbbbbbb cabbbbba cbaa cbabbbb cbaba cbabba cbabbba t26 cbbbba cbbbbba out
def mA(g95:rv A)(g96:rx A)(n:Nat)(now t27:Int)(k0:rJ A):Nat→(yb A)|0=>fun _ _ _ _ _ _ _ _ _ _ _ _ _ _ _ _ _ _ _=>none|f+1=>BW g95 g96 n now t27 k0 (mA g95 g96 n now t27 k0 f)
def K9(g95:rv A)(g96:rx A)(n:Nat)(now:Int)(caa:aT)(caba cabba cabbba cabbbba:Int)(cabbbbbb:Unit)(cbba:Int)(cbbbbbb:Unit)(cabbbbba:List (List Int))(cbaa:aT)(cbabbbb:Unit)(cbaba:cA)(cbabba:bO)(cbabbba:List Int)(cbbba:dw)(cbbbba:dq)(cbbbbba:dr)(k:yb A):Option A:=bif (decide (now<cbba)) then k 5 caa caba cabba cabbba cabbbba cabbbbbb cbba cbbbbbb cabbbbba cbaa cbabbbb cbaba cbabba cbabbba cbbba cbbbba cbbbbba [] else bif (decide (now>1099511627776)) then k 5 caa caba cabba cabbba cabbbba cabbbbbb cbba cbbbbbb cabbbbba cbaa cbabbbb cbaba cbabba cbabbba cbbba cbbbba cbbbbba [] else mA g95 g96 n now (cbbba.length:Int) (fun y47 y48 y49 y50 y51 y52 y53 y54 y55 y56 y57 y58 y59 y60 y61 y62 y63 y64=>k 0 y47 y48 y49 y50 y51 y52 y53 y54 y55 y56 y57 y58 y59 y60 y61 y62 y63 y64) n 0 caa caba cabba cabbba cabbbba cabbbbbb now cbbbbbb cabbbbba cbaa cbabbbb cbaba cbabba cbabbba cbbba cbbbba cbbbbba []
def vC(n:Nat):iR A:=K9 (sS n) (jS n) n
abbrev ft(A:Type):=aJ→Int→Int→Int→Int→Unit→Int→Unit→(List (List Int))→aJ→Unit→bR→bc→(List Int)→cn→cI→cB→(ae A)→Option A
def Tv(n:Nat)(caa:aT)(caba cabba cabbba cabbbba:Int)(cabbbbbb:Unit)(cbba:Int)(cbbbbbb:Unit)(cabbbbba:List (List Int))(cbaa:aT)(cbabbbb:Unit)(cbaba:cA)(cbabba:bO)(cbabbba:List Int)(cbbba:dw)(cbbbba:dq)(cbbbbba:dr)(k:ae A):Option A:=k cbba
def iy(n:Nat):ft A:=Tv n
abbrev kX(A:Type):=(List Int)→Int→Unit→gC→(DC A)→(DC A)→Option A
def Ki(g65:dI A)(n:Nat)(b:List Int)(now:Int)(lb:Unit)(la:DD)(k0 k1:DC A):Option A:=bif (decide ((b.length:Int)>200000)) then k0 4 lb la else bif (decide ((la.length:Int)≥64)) then k0 8 lb la else g65 b fun r1=>if (la.length+1)*32≤140737488355328 then k1 0 lb (la++[(r1,(now,()))]) else none
def jQ(n:Nat):kX A:=Ki (fX n) n
abbrev iS(A:Type):=fA→Y1→aJ→Int→Int→Int→Int→Unit→Int→Unit→(List (List Int))→aJ→Unit→bR→bc→(List Int)→cn→cI→cB→dA→(fS A)→Option A
def BY(g27:ft A)(g37:kX A)(n:Nat)(t6:jy)(t7:Int)(waaa:aT)(waaba waabba waabbba waabbbba:Int)(waabbbbbb:Unit)(wabba:Int)(wabbbbbb:Unit)(waabbbbba:List (List Int))(wabaa:aT)(wababbbb:Unit)(wababa:cA)(wababba:bO)(wababbba:List Int)(wabbba:dw)(wabbbba:dq)(wabbbbba:dr)(k0:DE A)(r:(OZ A))(t8:Int)(wbb:cH)(wba:gD):Option A:=bif (decide (t8<t7)) then if 0≤t8 then(t6[(Int.toNat t8)]?).bind fun y1=>if 0≤y1.1 then if y1.1<(wba.length:Int) then(wba[(Int.toNat y1.1)]?).bind fun y2=>match y2 with|.inl y3=>g27 waaa waaba waabba waabbba waabbbba waabbbbbb wabba wabbbbbb waabbbbba wabaa wababbbb wababa wababba wababbba wabbba wabbbba wabbbbba fun r5=>g37 y1.2.1 r5 y3.2.1.2 y3.2.2.1 (fun r6 r7 r8=>r (IntKind.wrap .i64 (t8+1)) ((IntKind.wrap .i64 (wbb.1+1)),((IntKind.wrap .i64 (wbb.2.1+(y1.2.1.length:Int))),wbb.2.2)) (wba.set (Int.toNat y1.1) (.inl (((),((),((),y3.1.2.2.2))),(((),r7),(r8,(((),y3.2.2.2.1.2),(y3.2.2.2.2.1,())))))))) (fun r9 r10 r11=>r (IntKind.wrap .i64 (t8+1)) ((IntKind.wrap .i64 (wbb.1+1)),((IntKind.wrap .i64 (wbb.2.1+(y1.2.1.length:Int))),wbb.2.2)) (wba.set (Int.toNat y1.1) (.inl (((),((),((),y3.1.2.2.2))),(((),r10),(r11,(((),y3.2.2.2.1.2),(y3.2.2.2.2.1,()))))))))|.inr y4=>g27 waaa waaba waabba waabbba waabbbba waabbbbbb wabba wabbbbbb waabbbbba wabaa wababbbb wababa wababba wababbba wabbba wabbbba wabbbbba fun r12=>g37 y1.2.1 r12 y4.2.2.2.2.2.2.1.2 y4.2.2.2.2.2.2.2.1 (fun r13 aQ aM=>r (IntKind.wrap .i64 (t8+1)) ((IntKind.wrap .i64 (wbb.1+1)),((IntKind.wrap .i64 (wbb.2.1+(y1.2.1.length:Int))),wbb.2.2)) (wba.set (Int.toNat y1.1) (.inr (((),((),((),y4.1.2.2.2))),(((),y4.2.1.2),(((),((),((),y4.2.2.1.2.2.2))),(y4.2.2.2.1,(y4.2.2.2.2.1,(y4.2.2.2.2.2.1,(((),aQ),(aM,(((),y4.2.2.2.2.2.2.2.2.1.2),(y4.2.2.2.2.2.2.2.2.2.1,()))))))))))))) (fun r16 r17 r18=>r (IntKind.wrap .i64 (t8+1)) ((IntKind.wrap .i64 (wbb.1+1)),((IntKind.wrap .i64 (wbb.2.1+(y1.2.1.length:Int))),wbb.2.2)) (wba.set (Int.toNat y1.1) (.inr (((),((),((),y4.1.2.2.2))),(((),y4.2.1.2),(((),((),((),y4.2.2.1.2.2.2))),(y4.2.2.2.1,(y4.2.2.2.2.1,(y4.2.2.2.2.2.1,(((),r17),(r18,(((),y4.2.2.2.2.2.2.2.2.1.2),(y4.2.2.2.2.2.2.2.2.2.1,()))))))))))))) else none else none else none else k0 wbb wba
def mB(g27:ft A)(g37:kX A)(n:Nat)(t6:jy)(t7:Int)(waaa:aT)(waaba waabba waabbba waabbbba:Int)(waabbbbbb:Unit)(wabba:Int)(wabbbbbb:Unit)(waabbbbba:List (List Int))(wabaa:aT)(wababbbb:Unit)(wababa:cA)(wababba:bO)(wababbba:List Int)(wabbba:dw)(wabbbba:dq)(wabbbbba:dr)(k0:DE A):Nat→(OZ A)|0=>fun _ _ _=>none|f+1=>BY g27 g37 n t6 t7 waaa waaba waabba waabbba waabbbba waabbbbbb wabba wabbbbbb waabbbbba wabaa wababbbb wababa wababba wababbba wabbba wabbbba wabbbbba k0 (mB g27 g37 n t6 t7 waaa waaba waabba waabbba waabbbba waabbbbbb wabba wabbbbbb waabbbbba wabaa wababbbb wababa wababba wababbba wabbba wabbbba wabbbbba k0 f)
def Lc(g27:ft A)(g37:kX A)(n:Nat)(l:jy)(wbb:cH)(waaa:aT)(waaba waabba waabbba waabbbba:Int)(waabbbbbb:Unit)(wabba:Int)(wabbbbbb:Unit)(waabbbbba:List (List Int))(wabaa:aT)(wababbbb:Unit)(wababa:cA)(wababba:bO)(wababbba:List Int)(wabbba:dw)(wabbbba:dq)(wabbbbba:dr)(wba:gD)(k:fS A):Option A:=mB g27 g37 n l (l.length:Int) waaa waaba waabba waabbba waabbbba waabbbbbb wabba wabbbbbb waabbbbba wabaa wababbbb wababa wababba wababbba wabbba wabbbba wabbbbba (fun y19 y20=>k y19 waaa waaba waabba waabbba waabbbba waabbbbbb wabba wabbbbbb waabbbbba wabaa wababbbb wababa wababba wababbba wabbba wabbbba wabbbbba y20) n 0 wbb wba
def sM(n:Nat):iS A:=Lc (iy n) (jQ n) n
abbrev xB(A:Type):=iZ→(ae A)→(gE A)→Option A
def JT(g54:xG A)(g55:xH A)(g56:iR A)(g57:iS A)(n:Nat)(a0:gB)(k0:ae A)(k1:gE A):Option A:=g54 a0.1 a0.2.1 (fun r59=>bif (r59 != 0) then k0 r59 else g55 a0 fun r60 tp=>bif (r60 != 0) then k0 r60 else none) (fun r1 r2 r3 r4 r5 r6 r7 r8 r9 r10 r11 r12 r13 aQ aM r16 r17 r18=>bif (r1 != 0) then k0 r1 else g55 a0 fun aX bn=>bif (aX != 0) then k0 aX else g56 a0.2.1 r2 r3 r4 r5 r6 r7 r8 r9 r10 r11 r12 r13 aQ aM r16 r17 r18 fun r21 r22 r23 r24 cD bV r27 r28 r29 r30 r31 r32 eA dC r35 r36 r37 r38 r39=>g57 r39 (0,(0,())) r22 r23 r24 cD bV r27 r28 r29 r30 r31 r32 eA dC r35 r36 r37 r38 bn fun r40 r41 r42 r43 r44 r45 r46 r47 r48 r49 r50 to r52 r53 r54 r55 r56 r57 r58=>k1 0 r40 r41 r42 r43 r44 r45 r46 r47 r48 r49 r50 to r52 r53 r54 r55 r56 r57 r58)
def vu(n:Nat):xB A:=JT (BT n) (K5 n) (vC n) (sM n) n
abbrev G8(A:Type):=tW→Option A→(fS A)→Option A
def L1(g22:qR A)(g29:xB A)(g9:G9 A)(n:Nat)(a0:tX)(k0:Option A)(k1:fS A):Option A:=g22 (a0.1,(a0.2.1,())) fun r1=>bif (!r1) then k0 else g29 a0.1 (fun r22=>bif (r22 != 0) then k0 else k0) (fun r2 r3 r4 r5 r6 r7 r8 r9 r10 r11 r12 r13 aQ aM r16 r17 r18 aX bn r21=>bif (r2 != 0) then k0 else g9 r3 r4 r5 r6 r7 r8 r9 r10 r11 r12 r13 aQ aM r16 r17 r18 aX bn r21 ( k1 r3 r4 r5 r6 r7 r8 r9 r10 r11 r12 r13 aQ aM r16 r17 r18 aX bn r21))
def Cj(n:Nat):G8 A:=L1 (uZ n) (vu n) (Mk n) n
abbrev lg(A:Type):=Y2→Unit→Y8→(List (List Int))→bc→(O0 A)→Option A
def Lm(n:Nat)(sb:Ds)(sabbb:Unit)(saa:gA)(saba:List (List Int))(sabba:bO)(k:O0 A):Option A:=k (sb.1,(sb.2.1,(sb.2.1,sb.2.2.2))) sabbb saa saba sabba
def B1(n:Nat):lg A:=Lm n
abbrev xE(A:Type):=Int→Y1→aJ→Int→Int→Int→Int→Unit→Int→Unit→(List (List Int))→aJ→Unit→bR→bc→(List Int)→cn→cI→cB→dA→(gE A)→Option A
def Bz(g27:ft A)(g60:lg A)(g56:iR A)(g57:iS A)(n:Nat)(t25 t26 t32:Int)(wbb:cH)(waaa:aT)(waaba waabba waabbba waabbbba:Int)(waabbbbbb:Unit)(wabba:Int)(wabbbbbb:Unit)(waabbbbba:List (List Int))(wabaa:aT)(wababbbb:Unit)(wababa:cA)(wababba:bO)(wababbba:List Int)(wabbba:dw)(wabbbba:dq)(wabbbbba:dr)(k0:rI A)(r:(jz A))(t33:Int)(t31:gD):Option A:=bif (decide (t33<t32)) then if 0≤t33 then if t33<(t31.length:Int) then(t31[(Int.toNat t33)]?).bind fun y2=>match y2 with|.inl y3=>r (IntKind.wrap .i64 (t33+1)) (t31.set (Int.toNat t33) (.inl (((),((),((),y3.1.2.2.2))),(((),y3.2.1.2),(y3.2.2.1,(((),y3.2.2.2.1.2),(y3.2.2.2.2.1,())))))))|.inr y4=>g60 y4.2.1.2 y4.2.2.1.2.2.2 y4.2.2.2.1 y4.2.2.2.2.1 y4.2.2.2.2.2.1 fun r5 r6 r7 r8 r9=>r (IntKind.wrap .i64 (t33+1)) (t31.set (Int.toNat t33) (.inr (((),((),((),y4.1.2.2.2))),(((),r5),(((),((),((),r6))),(r7,(r8,(r9,(((),y4.2.2.2.2.2.2.1.2),(y4.2.2.2.2.2.2.2.1,(((),y4.2.2.2.2.2.2.2.2.1.2),(y4.2.2.2.2.2.2.2.2.2.1,())))))))))))) else none else none else k0 t31
def po(g27:ft A)(g60:lg A)(g56:iR A)(g57:iS A)(n:Nat)(t25 t26 t32:Int)(wbb:cH)(waaa:aT)(waaba waabba waabbba waabbbba:Int)(waabbbbbb:Unit)(wabba:Int)(wabbbbbb:Unit)(waabbbbba:List (List Int))(wabaa:aT)(wababbbb:Unit)(wababa:cA)(wababba:bO)(wababbba:List Int)(wabbba:dw)(wabbbba:dq)(wabbbbba:dr)(k0:rI A):Nat→(jz A)|0=>fun _ _=>none|f+1=>Bz g27 g60 g56 g57 n t25 t26 t32 wbb waaa waaba waabba waabbba waabbbba waabbbbbb wabba wabbbbbb waabbbbba wabaa wababbbb wababa wababba wababbba wabbba wabbbba wabbbbba k0 (po g27 g60 g56 g57 n t25 t26 t32 wbb waaa waaba waabba waabbba waabbbba waabbbbbb wabba wabbbbbb waabbbbba wabaa wababbbb wababa wababba wababbba wabbba wabbbba wabbbbba k0 f)
def By(g27:ft A)(g60:lg A)(g56:iR A)(g57:iS A)(n:Nat)(t25:Int)(k0:fS A)(r:(gE A))(t26:Int)(wbb:cH)(waaa:aT)(waaba waabba waabbba waabbbba:Int)(waabbbbbb:Unit)(wabba:Int)(wabbbbbb:Unit)(waabbbbba:List (List Int))(wabaa:aT)(wababbbb:Unit)(wababa:cA)(wababba:bO)(wababbba:List Int)(wabbba:dw)(wabbbba:dq)(wabbbbba:dr)(wba:gD):Option A:=bif (decide (t26<t25)) then po g27 g60 g56 g57 n t25 t26 (wba.length:Int) wbb waaa waaba waabba waabbba waabbbba waabbbbbb wabba wabbbbbb waabbbbba wabaa wababbbb wababa wababba wababbba wabbba wabbbba wabbbbba (fun y2=>g27 waaa waaba waabba waabbba waabbbba waabbbbbb wabba wabbbbbb waabbbbba wabaa wababbbb wababa wababba wababbba wabbba wabbbba wabbbbba fun r3=>g56 (IntKind.wrap .i64 (r3+1)) waaa waaba waabba waabbba waabbbba waabbbbbb wabba wabbbbbb waabbbbba wabaa wababbbb wababa wababba wababbba wabbba wabbbba wabbbbba fun r4 r5 r6 r7 r8 r9 r10 r11 r12 r13 aQ aM r16 r17 r18 aX bn r21 r22=>g57 r22 wbb r5 r6 r7 r8 r9 r10 r11 r12 r13 aQ aM r16 r17 r18 aX bn r21 y2 fun r23 r24 cD bV r27 r28 r29 r30 r31 r32 eA dC r35 r36 r37 r38 r39 r40 r41=>r (IntKind.wrap .i64 (t26+1)) r23 r24 cD bV r27 r28 r29 r30 r31 r32 eA dC r35 r36 r37 r38 r39 r40 r41) n 0 wba else k0 wbb waaa waaba waabba waabbba waabbbba waabbbbbb wabba wabbbbbb waabbbbba wabaa wababbbb wababa wababba wababbba wabbba wabbbba wabbbbba wba
def sI(g27:ft A)(g60:lg A)(g56:iR A)(g57:iS A)(n:Nat)(t25:Int)(k0:fS A):Nat→(gE A)|0=>fun _ _ _ _ _ _ _ _ _ _ _ _ _ _ _ _ _ _ _ _=>none|f+1=>By g27 g60 g56 g57 n t25 k0 (sI g27 g60 g56 g57 n t25 k0 f)
def J8(g27:ft A)(g60:lg A)(g56:iR A)(g57:iS A)(n:Nat)(n_:Int)(wbb:cH)(waaa:aT)(waaba waabba waabbba waabbbba:Int)(waabbbbbb:Unit)(wabba:Int)(wabbbbbb:Unit)(waabbbbba:List (List Int))(wabaa:aT)(wababbbb:Unit)(wababa:cA)(wababba:bO)(wababbba:List Int)(wabbba:dw)(wabbbba:dq)(wabbbbba:dr)(wba:gD)(k:gE A):Option A:=bif (decide (n_<1)) then k 1 wbb waaa waaba waabba waabbba waabbbba waabbbbbb wabba wabbbbbb waabbbbba wabaa wababbbb wababa wababba wababbba wabbba wabbbba wabbbbba wba else bif (decide (n_>100)) then k 1 wbb waaa waaba waabba waabbba waabbbba waabbbbbb wabba wabbbbbb waabbbbba wabaa wababbbb wababa wababba wababbba wabbba wabbbba wabbbbba wba else g27 waaa waaba waabba waabbba waabbbba waabbbbbb wabba wabbbbbb waabbbbba wabaa wababbbb wababa wababba wababbba wabbba wabbbba wabbbbba fun r1=>bif (decide (r1>(IntKind.wrap .i64 (1099511627776-n_)))) then k 5 wbb waaa waaba waabba waabbba waabbbba waabbbbbb wabba wabbbbbb waabbbbba wabaa wababbbb wababa wababba wababbba wabbba wabbbba wabbbbba wba else sI g27 g60 g56 g57 n n_ (fun y42 y43 y44 y45 y46 y47 y48 y49 y50 y51 y52 y53 y54 y55 y56 y57 y58 y59 y60=>k 0 y42 y43 y44 y45 y46 y47 y48 y49 y50 y51 y52 y53 y54 y55 y56 y57 y58 y59 y60) n 0 wbb waaa waaba waabba waabbba waabbbba waabbbbbb wabba wabbbbbb waabbbbba wabaa wababbbb wababa wababba wababbba wabbba wabbbba wabbbbba wba
def BB(n:Nat):xE A:=J8 (iy n) (B1 n) (vC n) (sM n) n
abbrev kn(A:Type):=DG→Y1→aJ→Int→Int→Int→Int→Unit→Int→Unit→(List (List Int))→aJ→Unit→bR→bc→(List Int)→cn→cI→cB→dA→(gE A)→Option A
def FU(g32:xE A)(g27:ft A)(g37:kX A)(n:Nat)(e:ZL)(wbb:cH)(waaa:aT)(waaba waabba waabbba waabbbba:Int)(waabbbbbb:Unit)(wabba:Int)(wabbbbbb:Unit)(waabbbbba:List (List Int))(wabaa:aT)(wababbbb:Unit)(wababa:cA)(wababba:bO)(wababbba:List Int)(wabbba:dw)(wabbbba:dq)(wabbbbba:dr)(wba:gD)(k:gE A):Option A:=bif (decide (e.1<1)) then k 1 wbb waaa waaba waabba waabbba waabbbba waabbbbbb wabba wabbbbbb waabbbbba wabaa wababbbb wababa wababba wababbba wabbba wabbbba wabbbbba wba else bif (decide (e.1>8)) then k 1 wbb waaa waaba waabba waabbba waabbbba waabbbbbb wabba wabbbbbb waabbbbba wabaa wababbbb wababa wababba wababbba wabbba wabbbba wabbbbba wba else bif (e.1==8) then g32 e.2.2.1 wbb waaa waaba waabba waabbba waabbbba waabbbbbb wabba wabbbbbb waabbbbba wabaa wababbbb wababa wababba wababbba wabbba wabbbba wabbbbba wba fun r1 r2 r3 r4 r5 r6 r7 r8 r9 r10 r11 r12 r13 aQ aM r16 r17 r18 aX bn=>k r1 r2 r3 r4 r5 r6 r7 r8 r9 r10 r11 r12 r13 aQ aM r16 r17 r18 aX bn else bif (decide (e.2.1<0)) then k 5 wbb waaa waaba waabba waabbba waabbbba waabbbbbb wabba wabbbbbb waabbbbba wabaa wababbbb wababa wababba wababbba wabbba wabbbba wabbbbba wba else bif (decide (e.2.1≥(wba.length:Int))) then k 5 wbb waaa waaba waabba waabbba waabbbba waabbbbbb wabba wabbbbbb waabbbbba wabaa wababbbb wababa wababba wababbba wabbba wabbbba wabbbbba wba else if 0≤e.2.1 then if e.2.1<(wba.length:Int) then(wba[(Int.toNat e.2.1)]?).bind fun y21=>match y21 with|.inl y22=>bif (e.1==1) then none else bif (e.1==2) then none else bif (e.1==3) then none else bif (e.1==4) then none else bif (e.1==5) then none else bif (e.1==6) then none else g27 waaa waaba waabba waabbba waabbbba waabbbbbb wabba wabbbbbb waabbbbba wabaa wababbbb wababa wababba wababbba wabbba wabbbba wabbbbba fun r24=>g37 e.2.2.2.1 r24 y22.2.2.2.1.2 y22.2.2.2.2.1 (fun cD bV r27=>k cD wbb waaa waaba waabba waabbba waabbbba waabbbbbb wabba wabbbbbb waabbbbba wabaa wababbbb wababa wababba wababbba wabbba wabbbba wabbbbba (wba.set (Int.toNat e.2.1) (.inl (((),((),((),y22.1.2.2.2))),(((),y22.2.1.2),(y22.2.2.1,(((),bV),(r27,())))))))) (fun r28 r29 r30=>k r28 wbb waaa waaba waabba waabbba waabbbba waabbbbbb wabba wabbbbbb waabbbbba wabaa wababbbb wababa wababba wababbba wabbba wabbbba wabbbbba (wba.set (Int.toNat e.2.1) (.inl (((),((),((),y22.1.2.2.2))),(((),y22.2.1.2),(y22.2.2.1,(((),r29),(r30,()))))))))|.inr y23=>bif (e.1==1) then none else bif (e.1==2) then none else bif (e.1==3) then none else bif (e.1==4) then none else bif (e.1==5) then none else bif (e.1==6) then none else k 16 wbb waaa waaba waabba waabbba waabbbba waabbbbbb wabba wabbbbbb waabbbbba wabaa wababbbb wababa wababba wababbba wabbba wabbbba wabbbbba (wba.set (Int.toNat e.2.1) (.inr (((),((),((),y23.1.2.2.2))),(((),y23.2.1.2),(((),((),((),y23.2.2.1.2.2.2))),(y23.2.2.2.1,(y23.2.2.2.2.1,(y23.2.2.2.2.2.1,(((),y23.2.2.2.2.2.2.1.2),(y23.2.2.2.2.2.2.2.1,(((),y23.2.2.2.2.2.2.2.2.1.2),(y23.2.2.2.2.2.2.2.2.2.1,())))))))))))) else none else none
def uE(n:Nat):kn A:=FU (BB n) (iy n) (jQ n) n
abbrev kD(A:Type):=Int→Bool→Y1→aJ→Int→Int→Int→Int→Unit→Int→Unit→(List (List Int))→aJ→Unit→bR→bc→(List Int)→cn→cI→cB→dA→(fS A)→(yc A)→(yd A)→(yc A)→(yd A)→Option A
def Hi(n:Nat)(peer:Int)(up:Bool)(wbb:cH)(waaa:aT)(waaba waabba waabbba waabbbba:Int)(waabbbbbb:Unit)(wabba:Int)(wabbbbbb:Unit)(waabbbbba:List (List Int))(wabaa:aT)(wababbbb:Unit)(wababa:cA)(wababba:bO)(wababbba:List Int)(wabbba:dw)(wabbbba:dq)(wabbbbba:dr)(wba:gD)(k0:fS A)(k1:yc A)(k2:yd A)(k3:yc A)(k4:yd A):Option A:=bif (decide (peer<0)) then k0 wbb waaa waaba waabba waabbba waabbbba waabbbbbb wabba wabbbbbb waabbbbba wabaa wababbbb wababa wababba wababbba wabbba wabbbba wabbbbba wba else bif (decide (peer≥(wba.length:Int))) then k0 wbb waaa waaba waabba waabbba waabbbba waabbbbbb wabba wabbbbbb waabbbbba wabaa wababbbb wababa wababba wababbba wabbba wabbbba wabbbbba wba else bif up then if 0≤peer then if peer<(wba.length:Int) then(wba[(Int.toNat peer)]?).bind fun y1=>match y1 with|.inl y2=>k1 wbb waaa waaba waabba waabbba waabbbba waabbbbbb wabba wabbbbbb waabbbbba wabaa wababbbb wababa wababba wababbba wabbba wabbbba wabbbbba wba (Int.toNat peer) y2.1.2.2.2 y2.2.1.2 y2.2.2.1 y2.2.2.2.1.2 y2.2.2.2.2.1|.inr y3=>k2 wbb waaa waaba waabba waabbba waabbbba waabbbbbb wabba wabbbbbb waabbbbba wabaa wababbbb wababa wababba wababbba wabbba wabbbba wabbbbba wba (Int.toNat peer) y3.1.2.2.2 y3.2.1.2 y3.2.2.1.2.2.2 y3.2.2.2.1 y3.2.2.2.2.1 y3.2.2.2.2.2.1 y3.2.2.2.2.2.2.1.2 y3.2.2.2.2.2.2.2.1 y3.2.2.2.2.2.2.2.2.1.2 y3.2.2.2.2.2.2.2.2.2.1 else none else none else if 0≤peer then if peer<(wba.length:Int) then(wba[(Int.toNat peer)]?).bind fun y4=>match y4 with|.inl y5=>k3 wbb waaa waaba waabba waabbba waabbbba waabbbbbb wabba wabbbbbb waabbbbba wabaa wababbbb wababa wababba wababbba wabbba wabbbba wabbbbba wba (Int.toNat peer) y5.1.2.2.2 y5.2.1.2 y5.2.2.1 y5.2.2.2.1.2 y5.2.2.2.2.1|.inr y6=>k4 wbb waaa waaba waabba waabbba waabbbba waabbbbbb wabba wabbbbbb waabbbbba wabaa wababbbb wababa wababba wababbba wabbba wabbbba wabbbbba wba (Int.toNat peer) y6.1.2.2.2 y6.2.1.2 y6.2.2.1.2.2.2 y6.2.2.2.1 y6.2.2.2.2.1 y6.2.2.2.2.2.1 y6.2.2.2.2.2.2.1.2 y6.2.2.2.2.2.2.2.1 y6.2.2.2.2.2.2.2.2.1.2 y6.2.2.2.2.2.2.2.2.2.1 else none else none
def uT(n:Nat):kD A:=Hi n
abbrev kE(A:Type):=Unit→gC→(ae A)→Option A
def An(n:Nat)(lb:Unit)(la:DD)(k:ae A):Option A:=k (la.length:Int)
def sy(n:Nat):kE A:=An n
abbrev kG(A:Type):=Y1→aJ→Int→Int→Int→Int→Unit→Int→Unit→(List (List Int))→aJ→Unit→bR→bc→(List Int)→cn→cI→cB→dA→(cq A)→Option A
def Id(n:Nat)(wbb:cH)(waaa:aT)(waaba waabba waabbba waabbbba:Int)(waabbbbbb:Unit)(wabba:Int)(wabbbbbb:Unit)(waabbbbba:List (List Int))(wabaa:aT)(wababbbb:Unit)(wababa:cA)(wababba:bO)(wababbba:List Int)(wabbba:dw)(wabbbba:dq)(wabbbbba:dr)(wba:gD)(k:cq A):Option A:=k wbb.1 wbb.2.1
def Ic(n:Nat):kG A:=Id n
abbrev G5(A:Type):=iZ→Int→(aW A)→Option A
def B0(g6:G6 A)(g7:rK A)(g8:G8 A)(g14:kn A)(g21:kG A)(g17:kD A)(g18:kE A)(n:Nat)(n_ sent t47:Int)(s:gB)(k0 k1:Option A)(r:(gE A))(t48:Int)(wbb:cH)(waaa:aT)(waaba waabba waabbba waabbbba:Int)(waabbbbbb:Unit)(wabba:Int)(wabbbbbb:Unit)(waabbbbba:List (List Int))(wabaa:aT)(wababbbb:Unit)(wababa:cA)(wababba:bO)(wababbba:List Int)(wabbba:dw)(wabbbba:dq)(wabbbbba:dr)(wba:gD):Option A:=bif (decide (t48<t47)) then g17 t48 true wbb waaa waaba waabba waabbba waabbbba waabbbbbb wabba wabbbbbb waabbbbba wabaa wababbbb wababa wababba wababbba wabbba wabbbba wabbbbba wba (fun wo r200 M9 r202 r203 r204 r205 r206 r207 r208 r209 r210 r211 r212 r213 r214 r215 r216 r217=>none) (fun C9 r86 r87 r88 r89 r90 r91 r92 r93 r94 r95 r96 r97 r98 Da r100 r101 CZ r103 r104 r105 r106 r107 r108 r109=>g18 r106 r107 fun r110=>if (IntKind.wrap .i64 (2*s.1.2.1))=0 then none else bif (decide (r110>(IntKind.wrap .i64 (1+(IntKind.wrap .i64 (Int.tdiv n_ (IntKind.wrap .i64 (2*s.1.2.1)))))))) then k0 else r (IntKind.wrap .i64 (t48+1)) C9 r86 r87 r88 r89 r90 r91 r92 r93 r94 r95 r96 r97 r98 Da r100 r101 CZ (r103.set r104 (.inl (((),((),((),r105))),(((),r106),(r107,(((),r108),(r109,())))))))) (fun r111 r112 r113 r114 r115 r116 r117 r118 r119 r120 C0 C1 C2 r124 C3 C4 r127 r128 r129 r130 r131 r132 r133 r134 r135 r136 r137 r138 r139 r140=>g18 r137 r138 fun r141=>if (IntKind.wrap .i64 (2*s.1.2.1))=0 then none else bif (decide (r141>(IntKind.wrap .i64 (1+(IntKind.wrap .i64 (Int.tdiv n_ (IntKind.wrap .i64 (2*s.1.2.1)))))))) then k0 else r (IntKind.wrap .i64 (t48+1)) r111 r112 r113 r114 r115 r116 r117 r118 r119 r120 C0 C1 C2 r124 C3 C4 r127 r128 (r129.set r130 (.inr (((),((),((),r131))),(((),r132),(((),((),((),r133))),(r134,(r135,(r136,(((),r137),(r138,(((),r139),(r140,()))))))))))))) (fun r142 r143 C5 r145 r146 r147 r148 r149 r150 r151 r152 r153 r154 r155 r156 r157 r158 r159 r160 r161 r162 r163 r164 r165 r166=>g18 r165 r166 fun r167=>if (IntKind.wrap .i64 (2*s.1.2.1))=0 then none else bif (decide (r167>(IntKind.wrap .i64 (1+(IntKind.wrap .i64 (Int.tdiv n_ (IntKind.wrap .i64 (2*s.1.2.1)))))))) then k0 else r (IntKind.wrap .i64 (t48+1)) r142 r143 C5 r145 r146 r147 r148 r149 r150 r151 r152 r153 r154 r155 r156 r157 r158 r159 (r160.set r161 (.inl (((),((),((),r162))),(((),r163),(r164,(((),r165),(r166,())))))))) (fun r168 r169 r170 r171 r172 r173 r174 r175 r176 r177 r178 r179 wm C6 wn C7 r184 r185 r186 r187 r188 r189 r190 r191 r192 r193 r194 r195 r196 r197=>g18 r196 r197 fun C8=>if (IntKind.wrap .i64 (2*s.1.2.1))=0 then none else bif (decide (C8>(IntKind.wrap .i64 (1+(IntKind.wrap .i64 (Int.tdiv n_ (IntKind.wrap .i64 (2*s.1.2.1)))))))) then k0 else r (IntKind.wrap .i64 (t48+1)) r168 r169 r170 r171 r172 r173 r174 r175 r176 r177 r178 r179 wm C6 wn C7 r184 r185 (r186.set r187 (.inr (((),((),((),r188))),(((),r189),(((),((),((),r190))),(r191,(r192,(r193,(((),r194),(r195,(((),r196),(r197,()))))))))))))) else k1
def mC(g6:G6 A)(g7:rK A)(g8:G8 A)(g14:kn A)(g21:kG A)(g17:kD A)(g18:kE A)(n:Nat)(n_ sent t47:Int)(s:gB)(k0 k1:Option A):Nat→(gE A)|0=>fun _ _ _ _ _ _ _ _ _ _ _ _ _ _ _ _ _ _ _ _=>none|f+1=>B0 g6 g7 g8 g14 g21 g17 g18 n n_ sent t47 s k0 k1 (mC g6 g7 g8 g14 g21 g17 g18 n n_ sent t47 s k0 k1 f)
def BZ(g6:G6 A)(g7:rK A)(g8:G8 A)(g14:kn A)(g21:kG A)(g17:kD A)(g18:kE A)(n:Nat)(n_ t32:Int)(s:gB)(k0 k1:fS A)(r:(gE A))(t33:Int)(wbb:cH)(waaa:aT)(waaba waabba waabbba waabbbba:Int)(waabbbbbb:Unit)(wabba:Int)(wabbbbbb:Unit)(waabbbbba:List (List Int))(wabaa:aT)(wababbbb:Unit)(wababa:cA)(wababba:bO)(wababbba:List Int)(wabbba:dw)(wabbbba:dq)(wabbbbba:dr)(wba:gD):Option A:=bif (decide (t33<t32)) then g14 (8,(0,(1,([],())))) wbb waaa waaba waabba waabbba waabbbba waabbbbbb wabba wabbbbbb waabbbbba wabaa wababbbb wababa wababba wababbba wabbba wabbbba wabbbbba wba fun cD bV r27 r28 r29 r30 r31 r32 eA dC r35 r36 r37 r38 r39 r40 r41 r42 r43 r44=>bif (cD != 0) then k0 bV r27 r28 r29 r30 r31 r32 eA dC r35 r36 r37 r38 r39 r40 r41 r42 r43 r44 else r (IntKind.wrap .i64 (t33+1)) bV r27 r28 r29 r30 r31 r32 eA dC r35 r36 r37 r38 r39 r40 r41 r42 r43 r44 else k1 wbb waaa waaba waabba waabbba waabbbba waabbbbbb wabba wabbbbbb waabbbbba wabaa wababbbb wababa wababba wababbba wabbba wabbbba wabbbbba wba
def pJ(g6:G6 A)(g7:rK A)(g8:G8 A)(g14:kn A)(g21:kG A)(g17:kD A)(g18:kE A)(n:Nat)(n_ t32:Int)(s:gB)(k0 k1:fS A):Nat→(gE A)|0=>fun _ _ _ _ _ _ _ _ _ _ _ _ _ _ _ _ _ _ _ _=>none|f+1=>BZ g6 g7 g8 g14 g21 g17 g18 n n_ t32 s k0 k1 (pJ g6 g7 g8 g14 g21 g17 g18 n n_ t32 s k0 k1 f)
def Li(g6:G6 A)(g7:rK A)(g8:G8 A)(g14:kn A)(g21:kG A)(g17:kD A)(g18:kE A)(n:Nat)(a0:gB)(a1:Int)(k:aW A):Option A:=g6 (a0,([],())) fun r1=>bif (!r1) then g7 fun r2=>k r2 else bif (decide (a1<0)) then g7 fun r3=>k r3 else bif (decide (a1>400)) then g7 fun r4=>k r4 else bif (decide (a0.2.1>1073741824)) then g7 fun r5=>k r5 else g8 (a0,([],())) ( k false) (fun r6 r7 r8 r9 r10 r11 r12 r13 aQ aM r16 r17 r18 aX bn r21 r22 r23 r24=>pJ g6 g7 g8 g14 g21 g17 g18 n a1 a1 a0 (fun y45 y46 y47 y48 y49 y50 y51 y52 y53 y54 y55 y56 y57 y58 y59 y60 y61 y62 y63=>k false) (fun y64 y65 y66 y67 y68 y69 y70 y71 y72 y73 y74 y75 y76 y77 y78 y79 y80 y81 y82=>g21 y64 y65 y66 y67 y68 y69 y70 y71 y72 y73 y74 y75 y76 y77 y78 y79 y80 y81 y82 fun r83 Nc=>mC g6 g7 g8 g14 g21 g17 g18 n a1 r83 (a0.2.2.2.1.length:Int) a0 ( k false) ( bif (decide (r83≥(a0.2.2.2.1.length:Int))) then if (IntKind.wrap .i64 (2*a0.1.2.1))=0 then none else bif (decide (r83≤(IntKind.wrap .i64 ((a0.2.2.2.1.length:Int)*(IntKind.wrap .i64 (1+(IntKind.wrap .i64 (Int.tdiv a1 (IntKind.wrap .i64 (2*a0.1.2.1)))))))))) then g7 fun r218=>k r218 else k false else k false) n 0 y64 y65 y66 y67 y68 y69 y70 y71 y72 y73 y74 y75 y76 y77 y78 y79 y80 y81 y82) n 0 r6 r7 r8 r9 r10 r11 r12 r13 aQ aM r16 r17 r18 aX bn r21 r22 r23 r24)
def pI(n:Nat):G5 A:=Li (B7 n) (LI n) (Cj n) (uE n) (Ic n) (uT n) (sy n) n
abbrev xI(A:Type):=aJ→Unit→bR→bc→(List Int)→(ae A)→Option A
def Ud(n:Nat)(ta:aT)(tbbbb:Unit)(tba:cA)(tbba:bO)(tbbba:List Int)(k:ae A):Option A:=if 0≤(IntKind.wrap .i64 ((tbbba.length:Int)-1)) then if (IntKind.wrap .i64 ((tbbba.length:Int)-1))<(tbbba.length:Int) then(tbbba[(Int.toNat (IntKind.wrap .i64 ((tbbba.length:Int)-1)))]?).bind fun y1=>k y1 else none else none
def Uc(n:Nat):xI A:=Ud n
abbrev xC(A:Type):=aJ→Unit→bR→bc→(List Int)→(ah A)→Option A
def TG(g58:xI A)(n:Nat)(ta:aT)(tbbbb:Unit)(tba:cA)(tbba:bO)(tbbba:List Int)(k:ah A):Option A:=g58 ta tbbbb tba tbba tbbba fun r1=>if 0≤r1 then if r1<(tba.length:Int) then(tba[(Int.toNat r1)]?).bind fun y2=>k y2.2.1 else none else none
def TF(n:Nat):xC A:=TG (Uc n) n
abbrev wY(A:Type):=aJ→Int→Int→Int→Int→Unit→Int→Unit→(List (List Int))→aJ→Unit→bR→bc→(List Int)→cn→cI→cB→(ah A)→Option A
def QZ(g30:xC A)(n:Nat)(caa:aT)(caba cabba cabbba cabbbba:Int)(cabbbbbb:Unit)(cbba:Int)(cbbbbbb:Unit)(cabbbbba:List (List Int))(cbaa:aT)(cbabbbb:Unit)(cbaba:cA)(cbabba:bO)(cbabbba:List Int)(cbbba:dw)(cbbbba:dq)(cbbbbba:dr)(k:ah A):Option A:=g30 cbaa cbabbbb cbaba cbabba cbabbba fun r1=>k r1
def QY(n:Nat):wY A:=QZ (TF n) n
abbrev xJ(A:Type):=(List Int)→aJ→Unit→bR→bc→(List Int)→(O1 A)→Option A
def Uf(n:Nat)(x:List Int)(ta:aT)(tbbbb:Unit)(tba:cA)(tbba:bO)(tbbba:List Int)(k:O1 A):Option A:=bif (!(aY aa tbba x).isSome) then k ((0,((List.replicate 32 (0:Int)),((List.replicate 32 (0:Int)),(0,(0,(0,())))))),((List.replicate 32 (0:Int)),(0,(0,([0,0,0,0],()))))) 6 else if 0≤((aY aa tbba x).getD 0) then if ((aY aa tbba x).getD 0)<(tba.length:Int) then(tba[(Int.toNat ((aY aa tbba x).getD 0))]?).bind fun y1=>k y1 0 else none else none
def Ue(n:Nat):xJ A:=Uf n
abbrev xF(A:Type):=(List Int)→aJ→Unit→bR→bc→(List Int)→(cq A)→Option A
def T8(g59:xJ A)(n:Nat)(x:List Int)(ta:aT)(tbbbb:Unit)(tba:cA)(tbba:bO)(tbbba:List Int)(k:cq A):Option A:=g59 x ta tbbbb tba tbba tbbba fun r1 r2=>k r1.2.2.2.1 r2
def T7(n:Nat):xF A:=T8 (Ue n) n
abbrev N3(A:Type):=aJ→Int→Int→Int→Int→Unit→Int→Unit→(List (List Int))→aJ→Unit→bR→bc→(List Int)→cn→cI→cB→(ae A)→Option A
def TC(g12:wY A)(g53:xF A)(n:Nat)(caa:aT)(caba cabba cabbba cabbbba:Int)(cabbbbbb:Unit)(cbba:Int)(cbbbbbb:Unit)(cabbbbba:List (List Int))(cbaa:aT)(cbabbbb:Unit)(cbaba:cA)(cbabba:bO)(cbabbba:List Int)(cbbba:dw)(cbbbba:dq)(cbbbbba:dr)(k:ae A):Option A:=g12 caa caba cabba cabbba cabbbba cabbbbbb cbba cbbbbbb cabbbbba cbaa cbabbbb cbaba cbabba cbabbba cbbba cbbbba cbbbbba fun r1=>g53 r1 cbaa cbabbbb cbaba cbabba cbabbba fun r2 r3=>k r2
def TB(n:Nat):N3 A:=TC (QY n) (T7 n) n
abbrev N5(A:Type):=Int→Int→cP→Int→Bool→eH→eN→(aW A)→Option A
def TV(n:Nat)(pa pba:Int)(pbba:ec)(pbbba:Int)(pbbbba:Bool)(pbbbbbb:jA)(pbbbbba:jB)(k:aW A):Option A:=k pbbbbbb.2.2.2.1
def Km(n:Nat):N5 A:=TV n
abbrev N6(A:Type):=Int→Int→cP→Int→Bool→eH→eN→(ae A)→Option A
def TX(n:Nat)(pa pba:Int)(pbba:ec)(pbbba:Int)(pbbbba:Bool)(pbbbbbb:jA)(pbbbbba:jB)(k:ae A):Option A:=k pbbbbbb.2.2.1
def TW(n:Nat):N6 A:=TX n
abbrev N7(A:Type):=(xU A)→Option A
def Uv(n:Nat)(k:xU A):Option A:=k (545259519,(4,(10,(100,(50,((0,((List.replicate 32 (0:Int)),((List.replicate 32 (0:Int)),(1000,(545259519,(0,())))))),([0,0,0,0],())))))))
def Uu(n:Nat):N7 A:=Uv n
abbrev N8(A:Type):=Int→Unit→gC→(ae A)→Option A
def UC(n:Nat)(pick:Int)(lb:Unit)(la:DD)(k:ae A):Option A:=bif ((la.length:Int)==0) then k (-1) else if (la.length:Int)=0 then none else if (la.length:Int)=0 then none else k (Int.tmod (IntKind.wrap .i64 ((Int.tmod pick (la.length:Int))+(la.length:Int))) (la.length:Int))
def UB(n:Nat):N8 A:=UC n
def Tu(n:Nat)(s:ByteArray)(c:Int)(k:Int→Option A):Option A:=k (NM s c)
def Tx(n:Nat)(s:ByteArray)(c:Int)(k:Int→Option A):Option A:=k (Df s c)
def bj(x:Int):Prop:=0≤x∧x<4294967296
def ig(l:List Int):Prop:=∀ x∈l,bj x
def aq(l:List Int):Prop:=∀ x∈l,0≤x∧x<256
theorem bZ{α:Type}[Inhabited α](l:List α)(j:Nat)(h:j<l.length)(a:α):l[j]?=some (l.getD j a):=by
 rw[List.getD_eq_getElem?_getD,List.getElem?_eq_getElem h];rfl
theorem wL(x:Nat)(h:x<4294967296):IntKind.wrap .u32 (x:Int)=(x:Int):=by rw[ic];omega
theorem bj.wrap(x:Int):bj (IntKind.wrap .u32 x):=by unfold bj;rw[ic];omega
theorem ig.at{l:List Int}(h:ig l)(i:Nat):bj (l.getD i 0):=by
 rw[List.getD_eq_getElem?_getD]
 rcases Nat.lt_or_ge i l.length with hi|hi
 ·rw[List.getElem?_eq_getElem hi];exact h _ (List.getElem_mem hi)
 ·rw[List.getElem?_eq_none hi];exact⟨by decide,by decide⟩
theorem aq.at{l:List Int}(h:aq l)(i:Nat):0≤l.getD i 0∧l.getD i 0<256:=by
 rw[List.getD_eq_getElem?_getD]
 rcases Nat.lt_or_ge i l.length with hi|hi
 ·rw[List.getElem?_eq_getElem hi];exact h _ (List.getElem_mem hi)
 ·rw[List.getElem?_eq_none hi];exact⟨by decide,by decide⟩
theorem mZ(x:Nat)(h:x<9223372036854775808):IntKind.wrap .i64 (x:Int)=(x:Int):=ap (by omega) (by omega)
theorem aU(x:Nat)(h:x<9223372036854775807):IntKind.wrap .i64 ((x:Int)+1)=((x+1:Nat):Int):=(ap (by omega) (by omega)).trans (by omega)
def iH(x:Int)(k:Nat):Int:=x/2^k+x%2^k*2^(32-k)
theorem Nr(x k:Nat):iH (x:Int) k=((x/2^k+x%2^k*2^(32-k):Nat):Int):=by
 unfold iH;push_cast;rfl
theorem M3(k:Nat)(hk:k≤32):2^(32-k)*2^k=4294967296:=by
 rw[← Nat.pow_add,Nat.sub_add_cancel hk]
theorem Nq{x k:Nat}(hx:x<4294967296)(hk:k≤32):x/2^k+x%2^k*2^(32-k)<4294967296:=by
 have h1:=M3 k hk
 have h2:x/2^k<2^(32-k):=by rw[Nat.div_lt_iff_lt_mul (Nat.two_pow_pos k),h1];exact hx
 have h3:x%2^k<2^k:=Nat.mod_lt _ (Nat.two_pow_pos k)
 have h4:(x%2^k+1)*2^(32-k)≤2^k*2^(32-k):=Nat.mul_le_mul_right _ h3
 rw[Nat.add_mul,Nat.one_mul,Nat.mul_comm (2^k),h1] at h4
 generalize x%2^k*2^(32-k)=a at h4 ⊢
 generalize x/2^k=b at h2 ⊢
 generalize 2^(32-k)=c at h4 h2
 omega
theorem anu{x:Int}{k:Nat}(hx:bj x)(hk:k≤32):bj (iH x k):=by
 obtain⟨n,rfl⟩:∃ n:Nat,x=n:=⟨x.toNat,by have:=hx.1;omega⟩
 rw[Nr]
 have h:=Nq (x:=n) (k:=k) (by have:=hx.2;omega) hk
 exact⟨Int.natCast_nonneg _,Int.ofNat_lt.2 h⟩
theorem al7{x k:Nat}(hx:x<4294967296)(hk:k<32):∀ y,y=x/2^k+x%2^k*2^(32-k)→y/2+y%2*2147483648=x/2^(k+1)+x%2^(k+1)*2^(32-(k+1)):=by
 intro y hy
 obtain⟨q,hq⟩:∃ q,q=x/2^k:=⟨_,rfl⟩
 obtain⟨r,hr⟩:∃ r,r=x%2^k:=⟨_,rfl⟩
 have e:2^(32-k)=2*2^(32-(k+1)):=by
  rw[← Nat.pow_succ'];congr 1;omega
 have h1:x/2^(k+1)=q/2:=by rw[hq,Nat.pow_succ,Nat.div_div_eq_div_mul]
 have h2:x%2^(k+1)=r+q%2*2^k:=by
  rw[Nat.pow_succ,Nat.mod_mul,← hr,← hq,Nat.mul_comm]
 have h3:2^k*2^(32-(k+1))=2147483648:=by
  rw[← Nat.pow_add,show k+(32-(k+1))=31 by omega]
 rw[h1,h2,Nat.add_mul,Nat.mul_assoc,h3,hy,← hq,← hr,e]
 obtain⟨z,hz⟩:∃ z,z=r*2^(32-(k+1)):=⟨_,rfl⟩
 have:r*(2*2^(32-(k+1)))=2*z:=by rw[hz,Nat.mul_left_comm]
 rw[this,← hz]
 omega
theorem WN(n x k:Nat)(hx:x<4294967296)(hk:k≤32)(k0:Int→Option A):∀ (d f i:Nat),i+d=k→d<f→
  oV n (k:Int) k0 f ((x/2^i+x%2^i*2^(32-i):Nat):Int) (i:Int)=k0 (iH x k)
 | 0,f+1,i,h,_=>by
  rw[oV,AU,show decide ((i:Int)<(k:Int))=false from decide_eq_false (by omega),cond_false,Nr]
  obtain rfl:i=k:=by omega
  rfl
 | d+1,0,i,_,h=>by omega
 | d+1,f+1,i,h,hf=>by
  obtain⟨y,hy⟩:∃ y,y=x/2^i+x%2^i*2^(32-i):=⟨_,rfl⟩
  have hlt:=Nq (x:=x) (k:=i) hx (by omega)
  rw[← hy] at hlt
  have hs:=al7 (x:=x) (k:=i) hx (by omega) y hy
  rw[← hy,oV,AU,show decide ((i:Int)<(k:Int))=true from decide_eq_true (by omega),cond_true,aU i (by omega)]
  have e1:IntKind.wrap .u32 (Int.tdiv (y:Int) 2)=((y/2:Nat):Int):=by rw[show(2:Int)=((2:Nat):Int) from rfl,dn,ic];omega
  have e2:IntKind.wrap .u32 (Int.tmod (y:Int) 2*2147483648)=((y%2*2147483648:Nat):Int):=by rw[show(2:Int)=((2:Nat):Int) from rfl,dy,ic];omega
  have e3:IntKind.wrap .u32 (((y/2:Nat):Int)+((y%2*2147483648:Nat):Int))=((y/2+y%2*2147483648:Nat):Int):=by rw[ic];omega
  rw[e1,e2,e3,hs]
  exact WN n x k hx hk k0 d f (i+1) (by omega) (by omega)
theorem jp(n:Nat)(hn:40<n)(x:Int)(hx:bj x)(k:Nat)(hk:k≤32)(g:Int→Option A):mr n x (k:Int) g=g (iH x k):=by
 obtain⟨m,rfl⟩:∃ m:Nat,x=m:=⟨x.toNat,by have:=hx.1;omega⟩
 unfold mr IA
 have h:=WN n m k (by have:=hx.2;omega) hk g k n 0 (by omega) (by omega)
 simpa[Nat.mod_one] using h
theorem qd(n:Nat)(x:Int)(hx:bj x)(k:Nat)(h0:0<k)(hk:k<32)(g:Int→Option A):pq n x (k:Int) g=g (iH x k):=by
 obtain⟨m,rfl⟩:∃ m:Nat,x=m:=⟨x.toNat,by have:=hx.1;omega⟩
 have hm:m<4294967296:=by have:=hx.2;omega
 unfold pq Kh
 have e1:Int.tmod (IntKind.wrap .u64 (k:Int)) 32=(k:Int):=by
  rw[dU k (by omega),show(32:Int)=((32:Nat):Int) from rfl,dy];omega
 have e2:IntKind.wrap .u64 (32-(k:Int))=((32-k:Nat):Int):=by rw[ql];omega
 rw[e1,e2,if_neg (by omega),if_neg (by omega),Nr]
 have e3:shr .u32 (m:Int) (k:Int)=((m/2^k:Nat):Int):=by
  unfold shr
  rw[Int.toNat_natCast,lQ,Nat.min_eq_left (by omega),Int.fdiv_eq_ediv_of_nonneg _ (by exact Int.le_of_lt (Int.pow_pos (by decide)))]
  simp
 have e4:shl .u32 (m:Int) ((32-k:Nat):Int)=((m%2^k*2^(32-k):Nat):Int):=by
  unfold shl
  rw[Int.toNat_natCast,lQ,Nat.min_eq_left (by omega),ic]
  have h1:=M3 k (by omega)
  have h2:m*2^(32-k)%4294967296=m%2^k*2^(32-k):=by
   rw[← h1,Nat.mul_comm (2^(32-k)) (2^k),Nat.mul_mod_mul_right]
  have h3:(m:Int)*2^(32-k)=((m*2^(32-k):Nat):Int):=by simp
  rw[← h2,h3];rfl
 rw[e3,e4,vV]
 unfold vU
 have hlt:=Nq (x:=m) (k:=k) hm (by omega)
 have h5:m/2^k<2^(32-k):=by rw[Nat.div_lt_iff_lt_mul (Nat.two_pow_pos k),M3 k (by omega)];exact hm
 have h6:m/2^k<2^32:=Nat.lt_of_le_of_lt (Nat.le_add_right _ _) hlt
 have h7:m%2^k*2^(32-k)<2^32:=Nat.lt_of_le_of_lt (Nat.le_add_left _ _) hlt
 rw[BitVec.toNat_or,lQ,iE,iE,Nat.mod_eq_of_lt h6,Nat.mod_eq_of_lt h7,Nat.or_comm,CS _ _ _ h5,Nat.add_comm,wL _ hlt]
theorem bj.nat{x:Int}(h:bj x):∃ m:Nat,x=(m:Int)∧m<4294967296:=⟨x.toNat,by have:=h.1;omega,by have:=h.2;have:=h.1;omega⟩
theorem akx{x:Int}(hx:bj x):bp .u32 4294967295 x=IntKind.wrap .u32 (4294967295-x):=by
 obtain⟨m,rfl,hm⟩:=hx.nat
 rw[CA]
 unfold Cz
 change IntKind.wrap .u32 ((BitVec.ofInt 32 4294967295 ^^^ BitVec.ofInt 32 (m:Int)).toNat:Int)=_
 have h1:BitVec.ofInt 32 4294967295 ^^^ BitVec.ofInt 32 (m:Int)= ~~~(BitVec.ofInt 32 (m:Int)):=by
  rw[BitVec.not_def];rfl
 rw[h1,BitVec.toNat_not,iE,ic,ic]
 omega
def CM(x:Int)(a b c:Nat):Int:=bp .u32 (bp .u32 (iH x a) (iH x b)) (iH x c)
def VF(x:Int)(a b s:Nat):Int:=bp .u32 (bp .u32 (iH x a) (iH x b)) (x/2^s)
def nw(w:List Int)(i:Nat):Int:=
 IntKind.wrap .u32 (IntKind.wrap .u32 (IntKind.wrap .u32 (w.getD (i-16) 0+VF (w.getD (i-15) 0) 7 18 3)+w.getD (i-7) 0)+VF (w.getD (i-2) 0) 17 19 10)
def ek:Nat→List Int→List Int
 | 0,w=>w
 | d+1,w=>ek d (w++[nw w w.length])
def lO(b:List Int)(i:Nat):Int:=b.getD (4*i) 0*16777216+b.getD (4*i+1) 0*65536+b.getD (4*i+2) 0*256+b.getD (4*i+3) 0
def eC(b:List Int)(m:Nat):List Int:=(List.range m).map (lO b)
theorem wJ(b:List Int)(m:Nat):(eC b m).length=m:=by simp[eC]
theorem X5(b:List Int)(m:Nat):eC b m++[lO b m]=eC b (m+1):=by simp[eC,List.range_succ]
theorem ig.snoc{l:List Int}{x:Int}(h:ig l)(hx:bj x):ig (l++[x]):=fun y hy=>by
 rcases List.mem_append.1 hy with h1|h1
 ·exact h y h1
 ·rw[List.mem_singleton] at h1;subst h1;exact hx
theorem Pz{b:List Int}(hb:aq b)(i:Nat):bj (lO b i):=by
 have h0:=hb.at (4*i);have h1:=hb.at (4*i+1);have h2:=hb.at (4*i+2);have h3:=hb.at (4*i+3)
 unfold lO bj;omega
theorem X4{b:List Int}(hb:aq b)(m:Nat):ig (eC b m):=fun x hx=>by
 obtain⟨i,_,rfl⟩:=List.mem_map.1 hx;exact Pz hb i
theorem Ey:∀ (d:Nat) (w:List Int),(ek d w).length=w.length+d
 | 0,_=>rfl
 | d+1,w=>by rw[ek,Ey d];simp;omega
theorem Qt{x:Int}(hx:bj x)(m:Nat)(hm:0<m):IntKind.wrap .u32 (Int.tdiv x (m:Int))=x/(m:Int):=by
 obtain⟨y,rfl,hy⟩:=hx.nat
 rw[dn,wL _ (Nat.lt_of_le_of_lt (Nat.div_le_self _ _) hy)];rfl
theorem XA(G1:Int→Int→(Int→Option A)→Option A)(G2:(List Int→Option A)→Option A)(n:Nat)(b h t4:List Int)(hl:64≤b.length)(hb:aq b)(k0:List Int→Option A):∀ (d f i:Nat),i+d=16→d<f→
  oC G1 G2 n b h t4 k0 f (i:Int) (eC b i)=k0 (eC b 16)
 | 0,f+1,i,hi,_=>by
  rw[oC,zL,show decide ((i:Int)<16)=false from decide_eq_false (by omega),cond_false]
  obtain rfl:i=16:=by omega
  rfl
 | d+1,0,i,_,h=>by omega
 | d+1,f+1,i,hi,hf=>by
  have e0:IntKind.wrap .i64 (4*(i:Int))=((4*i:Nat):Int):=(ap (by omega) (by omega)).trans (by omega)
  have e1:IntKind.wrap .i64 (((4*i:Nat):Int)+1)=((4*i+1:Nat):Int):=(ap (by omega) (by omega)).trans (by omega)
  have e2:IntKind.wrap .i64 (((4*i:Nat):Int)+2)=((4*i+2:Nat):Int):=(ap (by omega) (by omega)).trans (by omega)
  have e3:IntKind.wrap .i64 (((4*i:Nat):Int)+3)=((4*i+3:Nat):Int):=(ap (by omega) (by omega)).trans (by omega)
  rw[oC,zL,show decide ((i:Int)<16)=true from decide_eq_true (by omega),cond_true,e0,e1,e2,e3,if_pos (Int.natCast_nonneg _),Int.toNat_natCast,bZ b (4*i) (by omega) 0,Option.bind_some,if_pos (Int.natCast_nonneg _),Int.toNat_natCast,bZ b (4*i+1) (by omega) 0,Option.bind_some,
   if_pos (Int.natCast_nonneg _),Int.toNat_natCast,bZ b (4*i+2) (by omega) 0,Option.bind_some,if_pos (Int.natCast_nonneg _),Int.toNat_natCast,bZ b (4*i+3) (by omega) 0,Option.bind_some,
   wJ,if_pos (by omega),aU i (by omega)]
  have h0:=hb.at (4*i);have h1:=hb.at (4*i+1);have h2:=hb.at (4*i+2);have h3:=hb.at (4*i+3)
  have e:IntKind.wrap .u32 (IntKind.wrap .u32 (IntKind.wrap .u32 (IntKind.wrap .u32 (IntKind.wrap .u32 (b.getD (4*i) 0)*16777216)+IntKind.wrap .u32 (IntKind.wrap .u32 (b.getD (4*i+1) 0)*65536))+IntKind.wrap .u32 (IntKind.wrap .u32 (b.getD (4*i+2) 0)*256))+IntKind.wrap .u32 (b.getD (4*i+3) 0))=lO b i:=by
   simp only[ic];unfold lO;omega
  rw[e,X5]
  exact XA G1 G2 n b h t4 hl hb k0 d f (i+1) (by omega) (by omega)
theorem XB(G2:(List Int→Option A)→Option A)(n m:Nat)(hm:40<m)(h t4:List Int)(k0:List Int→Option A):∀ (d f i:Nat) (w:List Int),w.length=i→ig w→16≤i→i+d=64→d<f→
  oD (mr m) G2 n h t4 k0 f (i:Int) w=k0 (ek d w)
 | 0,f+1,i,w,hw,hu,h16,hi,_=>by
  rw[oD,zM,show decide ((i:Int)<64)=false from decide_eq_false (by omega),cond_false];rfl
 | d+1,0,i,_,_,_,_,_,h=>by omega
 | d+1,f+1,i,w,hw,hu,h16,hi,hf=>by
  have e0:IntKind.wrap .i64 ((i:Int)-15)=((i-15:Nat):Int):=(ap (by omega) (by omega)).trans (by omega)
  have e1:IntKind.wrap .i64 ((i:Int)-2)=((i-2:Nat):Int):=(ap (by omega) (by omega)).trans (by omega)
  have e2:IntKind.wrap .i64 ((i:Int)-16)=((i-16:Nat):Int):=(ap (by omega) (by omega)).trans (by omega)
  have e3:IntKind.wrap .i64 ((i:Int)-7)=((i-7:Nat):Int):=(ap (by omega) (by omega)).trans (by omega)
  rw[oD,zM,show decide ((i:Int)<64)=true from decide_eq_true (by omega),cond_true,e0,e1,e2,e3]
  rw[if_pos (Int.natCast_nonneg _),if_pos (by omega),Int.toNat_natCast,bZ w (i-15) (by omega) 0,Option.bind_some,
   if_pos (Int.natCast_nonneg _),if_pos (by omega),Int.toNat_natCast,bZ w (i-2) (by omega) 0,Option.bind_some,
   if_pos (Int.natCast_nonneg _),if_pos (by omega),Int.toNat_natCast,bZ w (i-16) (by omega) 0,Option.bind_some,
   show(7:Int)=((7:Nat):Int) from rfl,show(18:Int)=((18:Nat):Int) from rfl,jp m hm _ (hu.at _) _ (by decide),jp m hm _ (hu.at _) _ (by decide),
   if_pos (Int.natCast_nonneg _),if_pos (by omega),Int.toNat_natCast,bZ w (i-7) (by omega) 0,Option.bind_some,
   show(17:Int)=((17:Nat):Int) from rfl,show(19:Int)=((19:Nat):Int) from rfl,jp m hm _ (hu.at _) _ (by decide),jp m hm _ (hu.at _) _ (by decide),
   show(8:Int)=((8:Nat):Int) from rfl,show(1024:Int)=((1024:Nat):Int) from rfl,Qt (hu.at _) _ (by decide),Qt (hu.at _) _ (by decide),if_pos (by omega),aU i (by omega)]
  have e:ek (d+1) w=ek d (w++[nw w i]):=by rw[ek,hw]
  rw[e]
  exact XB G2 n m hm h t4 k0 d f (i+1) (w++[nw w i]) (by simp[hw]) (hu.snoc (.wrap _)) (by omega) (by omega) (by omega)
def WP(k w:Int):List Int→List Int
 | [a,b,c,d,e,f,g,h]=>
  [IntKind.wrap .u32 (IntKind.wrap .u32 (IntKind.wrap .u32 (IntKind.wrap .u32 (IntKind.wrap .u32 (h+CM e 6 11 25)+bp .u32 (bL .u32 e f) (bL .u32 (IntKind.wrap .u32 (4294967295-e)) g))+k)+w)+IntKind.wrap .u32 (CM a 2 13 22+bp .u32 (bp .u32 (bL .u32 a b) (bL .u32 a c)) (bL .u32 b c))),
   a,b,c,IntKind.wrap .u32 (d+IntKind.wrap .u32 (IntKind.wrap .u32 (IntKind.wrap .u32 (IntKind.wrap .u32 (h+CM e 6 11 25)+bp .u32 (bL .u32 e f) (bL .u32 (IntKind.wrap .u32 (4294967295-e)) g))+k)+w)),e,f,g]
 | l=>l
def wr(ks w:List Int):Nat→Nat→List Int→List Int
 | 0,_,v=>v
 | d+1,i,v=>wr ks w d (i+1) (WP (ks.getD i 0) (w.getD i 0) v)
def cG(v:List Int):Prop:=v.length=8∧ig v
theorem cG.eight{v:List Int}(h:cG v):∃ a b c d e f g i,v=[a,b,c,d,e,f,g,i]∧bj a∧bj b∧bj c∧bj d∧bj e∧bj f∧bj g∧bj i:=by
 obtain⟨hl,hu⟩:=h
 match v,hl,hu with
 | [a,b,c,d,e,f,g,i],_,hu=>exact⟨a,b,c,d,e,f,g,i,rfl,hu _ (by simp),hu _ (by simp),hu _ (by simp),hu _ (by simp),hu _ (by simp),hu _ (by simp),hu _ (by simp),hu _ (by simp)⟩
theorem cG.of{a b c d e f g i:Int}(ha:bj a)(hb:bj b)(hc:bj c)(hd:bj d)(he:bj e)(hf:bj f)(hg:bj g)(hi:bj i):cG [a,b,c,d,e,f,g,i]:=by
 refine⟨rfl,fun x hx=>?_⟩
 simp only[List.mem_cons,List.not_mem_nil,or_false] at hx
 rcases hx with rfl|rfl|rfl|rfl|rfl|rfl|rfl|rfl<;>assumption
theorem Nn{v:List Int}(k w:Int)(h:cG v):cG (WP k w v):=by
 obtain⟨a,b,c,d,e,f,g,i,rfl,ha,hb,hc,hd,he,hf,hg,hi⟩:=h.eight
 exact .of (.wrap _) ha hb hc (.wrap _) he hf hg
theorem Db(ks w:List Int):∀ (d i:Nat) (v:List Int),cG v→cG (wr ks w d i v)
 | 0,_,_,h=>h
 | d+1,i,v,h=>Db ks w d (i+1) _ (Nn _ _ h)
theorem Yo(n:Nat)(g:List Int→Option A):oW n g=g gU:=by kernel_rfl
theorem XC(G2:(List Int→Option A)→Option A)(n m:Nat)(hm:40<m)(h t4 w ks:List Int)(hw:w.length=64)(hk:ks.length=64)(k0:List Int→Option A):∀ (d f i:Nat) (v:List Int),cG v→i+d=64→d<f→
  oE (mr m) G2 n h t4 w ks k0 f (i:Int) v=k0 (wr ks w d i v)
 | 0,f+1,i,v,hv,hi,_=>by
  rw[oE,zO,show decide ((i:Int)<64)=false from decide_eq_false (by omega),cond_false];rfl
 | d+1,0,i,_,_,_,h=>by omega
 | d+1,f+1,i,v,hv,hi,hf=>by
  obtain⟨a,b,c,e,p,q,r,s,rfl,ha,hb,hc,he,hp,hq,hr,hs⟩:=hv.eight
  rw[oE,zO,show decide ((i:Int)<64)=true from decide_eq_true (by omega),cond_true]
  simp only[List.getElem?_cons_zero,List.getElem?_cons_succ,Option.bind_some]
  rw[show(6:Int)=((6:Nat):Int) from rfl,show(11:Int)=((11:Nat):Int) from rfl,show(25:Int)=((25:Nat):Int) from rfl,jp m hm _ hp _ (by decide),jp m hm _ hp _ (by decide),jp m hm _ hp _ (by decide),
   if_pos (Int.natCast_nonneg _),if_pos (by omega),Int.toNat_natCast,bZ ks i (by omega) 0,Option.bind_some,if_pos (Int.natCast_nonneg _),if_pos (by omega),bZ w i (by omega) 0,Option.bind_some,
   show(2:Int)=((2:Nat):Int) from rfl,show(13:Int)=((13:Nat):Int) from rfl,show(22:Int)=((22:Nat):Int) from rfl,jp m hm _ ha _ (by decide),jp m hm _ ha _ (by decide),jp m hm _ ha _ (by decide),aU i (by omega)]
  exact XC G2 n m hm h t4 w ks hw hk k0 d f (i+1) _ (Nn (ks.getD i 0) (w.getD i 0) (.of ha hb hc he hp hq hr hs)) (by omega) (by omega)
def nB:List Int→List Int→List Int
 | [a,b,c,d,e,f,g,h],[a',b',c',d',e',f',g',h']=>[IntKind.wrap .u32 (a+a'),IntKind.wrap .u32 (b+b'),IntKind.wrap .u32 (c+c'),IntKind.wrap .u32 (d+d'),IntKind.wrap .u32 (e+e'),IntKind.wrap .u32 (f+f'),IntKind.wrap .u32 (g+g'),IntKind.wrap .u32 (h+h')]
 | l,_=>l
theorem aah{u v:List Int}(hu:cG u)(hv:cG v):cG (nB u v):=by
 obtain⟨a,b,c,d,e,f,g,i,rfl,ha,hb,hc,hd,he,hf,hg,hi⟩:=hu.eight
 obtain⟨a',b',c',d',e',f',g',i',rfl,ha',hb',hc',hd',he',hf',hg',hi'⟩:=hv.eight
 exact .of (.wrap _) (.wrap _) (.wrap _) (.wrap _) (.wrap _) (.wrap _) (.wrap _) (.wrap _)
theorem amD(G1:Int→Int→(Int→Option A)→Option A)(G2:(List Int→Option A)→Option A)(n m:Nat)(u v t4:List Int)(hu:cG u)(hv:cG v)(k0:List Int→Option A) :
  uM G1 G2 n v t4 k0 (m+9) 0 u=k0 (nB u v):=by
 obtain⟨a,b,c,d,e,f,g,i,rfl,ha,hb,hc,hd,he,hf,hg,hi⟩:=hu.eight
 obtain⟨a',b',c',d',e',f',g',i',rfl,ha',hb',hc',hd',he',hf',hg',hi'⟩:=hv.eight
 kernel_rfl
theorem aax(G1:List Int→(List Int→Option A)→Option A)(G2:Int→Int→Int→Int→(Int→Option A)→Option A)(n m:Nat)(u v t4:List Int)(hu:cG u)(hv:cG v)(k0:List Int→Option A) :
  vt G1 G2 n t4 v k0 (m+9) 0 u=k0 (nB u v):=by
 obtain⟨a,b,c,d,e,f,g,i,rfl,ha,hb,hc,hd,he,hf,hg,hi⟩:=hu.eight
 obtain⟨a',b',c',d',e',f',g',i',rfl,ha',hb',hc',hd',he',hf',hg',hi'⟩:=hv.eight
 kernel_rfl
theorem aai{u v:List Int}(hu:cG u)(hv:cG v):nB u v=nB v u:=by
 obtain⟨a,b,c,d,e,f,g,i,rfl,ha,hb,hc,hd,he,hf,hg,hi⟩:=hu.eight
 obtain⟨a',b',c',d',e',f',g',i',rfl,ha',hb',hc',hd',he',hf',hg',hi'⟩:=hv.eight
 simp only[nB,Int.add_comm a,Int.add_comm b,Int.add_comm c,Int.add_comm d,Int.add_comm e,Int.add_comm f,Int.add_comm g,Int.add_comm i]
def blk(h b:List Int):List Int:=nB h (wr gU (ek 48 (eC b 16)) 64 0 h)
theorem PB{h b:List Int}(hh:cG h):cG (blk h b):=aah hh (Db _ _ _ _ _ hh)
theorem amE(n:Nat)(hn:100<n)(h b:List Int)(hh:cG h)(hl:64≤b.length)(hb:aq b)(g:List Int→Option A):je n h b g=g (blk h b):=by
 obtain⟨m,rfl⟩:∃ m,n=m+9:=⟨n-9,by omega⟩
 unfold je Gr
 have h0:=XA (mr (A:=A) (m+9)) (oW (m+9)) (m+9) b h [0,0,0,0,0,0,0,0] hl hb
 refine Eq.trans (h0 _ 16 (m+9) 0 (by omega) (by omega)) ?_
 have hw:=wJ b 16
 refine Eq.trans (XB (oW (m+9)) (m+9) (m+9) (by omega) h _ _ 48 (m+9) 16 (eC b 16) hw (X4 hb 16) (by omega) (by omega) (by omega)) ?_
 rw[Yo]
 refine Eq.trans (XC (oW (m+9)) (m+9) (m+9) (by omega) h _ (ek 48 (eC b 16)) gU (by rw[Ey,hw]) (by rfl) _ 64 (m+9) 0 h hh (by omega) (by omega)) ?_
 have hv:=Db gU (ek 48 (eC b 16)) 64 0 h hh
 refine Eq.trans (amD (mr (m+9)) (oW (m+9)) (m+9) m _ h _ hv hh _) ?_
 rw[aai hv hh];rfl
theorem XM(n:Nat)(x:Int)(hx:bj x)(a b c:Nat)(ha:0<a∧a<32)(hb:0<b∧b<32)(hc:0<c∧c<32)(g:Int→Option A):sH n x (a:Int) (b:Int) (c:Int) g=g (CM x a b c):=by
 unfold sH J4
 rw[qd n x hx a ha.1 ha.2,qd n x hx b hb.1 hb.2,qd n x hx c hc.1 hc.2];rfl
theorem NB(w:List Int)(x:Int)(z i:Nat)(hw:w.length=i)(hz:0<z):(w++List.replicate z (0:Int)).set i x=(w++[x])++List.replicate (z-1) 0:=by
 obtain⟨y,rfl⟩:∃ y,z=y+1:=⟨z-1,by omega⟩
 rw[List.set_append_right _ _ (by omega),hw,Nat.sub_self,List.replicate_succ,List.set_cons_zero];simp
theorem CV(w:List Int)(z j:Nat)(h:j<w.length):(w++List.replicate z (0:Int))[j]?=some (w.getD j 0):=by
 rw[List.getElem?_append_left h,bZ w j h 0]
theorem aat(n:Nat)(hn:10<n)(a b c d:Int)(ha:0≤a∧a<256)(hb:0≤b∧b<256)(hc:0≤c∧c<256)(hd:0≤d∧d<256)(g:Int→Option A) :
  sJ n [a,b,c,d] g=g (a*16777216+b*65536+c*256+d):=by
 have key:∀ (x y:Nat),x<16777216→y<256→dL .u64 (shl .u64 (x:Int) 8) (IntKind.wrap .u64 (y:Int))=((x*256+y:Nat):Int):=fun x y hx hy=>by
  have e1:shl .u64 (x:Int) 8=((x*256:Nat):Int):=by
   rw[show(8:Int)=((8:Nat):Int) from rfl,wB x 8 (by decide)];congr 1<;>omega
  have e2:=CS x y 8 hy
  rw[e1,dU y (by omega),Cy _ _ (by omega) (by omega),← e2]
 obtain⟨m,rfl⟩:∃ m,n=m+5:=⟨n-5,by omega⟩
 obtain⟨p,rfl⟩:∃ p:Nat,a=p:=⟨a.toNat,by omega⟩
 obtain⟨q,rfl⟩:∃ p:Nat,b=p:=⟨b.toNat,by omega⟩
 obtain⟨r,rfl⟩:∃ p:Nat,c=p:=⟨c.toNat,by omega⟩
 obtain⟨s,rfl⟩:∃ p:Nat,d=p:=⟨d.toNat,by omega⟩
 have h0:sJ (m+5) [(p:Int),(q:Int),(r:Int),(s:Int)] g=g (dL .u64 (shl .u64 (dL .u64 (shl .u64 (dL .u64 (shl .u64 (dL .u64 (shl .u64 0 8) (IntKind.wrap .u64 (p:Int))) 8) (IntKind.wrap .u64 (q:Int))) 8) (IntKind.wrap .u64 (r:Int))) 8) (IntKind.wrap .u64 (s:Int))):=by kernel_rfl
 rw[h0,show(0:Int)=((0:Nat):Int) from rfl,key 0 p (by omega) (by omega),key _ q (by omega) (by omega),key _ r (by omega) (by omega),key _ s (by omega) (by omega)]
 congr 1;omega
theorem ajG(b:List Int)(i:Nat)(h:4*i+4≤b.length):(b.drop (4*i)).take (4*i+4-4*i)=[b.getD (4*i) 0,b.getD (4*i+1) 0,b.getD (4*i+2) 0,b.getD (4*i+3) 0]:=by
 apply List.ext_getElem?
 intro j
 rw[List.getElem?_take,show 4*i+4-4*i=4 by omega]
 split
 ·rename_i hj
  rw[List.getElem?_drop,bZ b (4*i+j) (by omega) 0]
  match j,hj with
  | 0,_=>rfl
  | 1,_=>rfl
  | 2,_=>rfl
  | 3,_=>rfl
 ·rename_i hj
  rw[List.getElem?_eq_none];simp;omega
theorem Xx(G2:Int→Int→(Int→Option A)→Option A)(n m:Nat)(hm:10<m)(b t2:List Int)(hl:b.length=64)(hb:aq b)(k0:List Int→Option A):∀ (d f i:Nat),i+d=16→d<f→
  pm (sJ m) G2 n b t2 k0 f (i:Int) (eC b i++List.replicate (64-i) 0)=k0 (eC b 16++List.replicate 48 0)
 | 0,f+1,i,hi,_=>by
  rw[pm,Bv,show decide ((i:Int)<16)=false from decide_eq_false (by omega),cond_false]
  obtain rfl:i=16:=by omega
  rfl
 | d+1,0,i,_,h=>by omega
 | d+1,f+1,i,hi,hf=>by
  have e0:IntKind.wrap .i64 (4*(i:Int))=((4*i:Nat):Int):=(ap (by omega) (by omega)).trans (by omega)
  have e1:IntKind.wrap .i64 (((4*i:Nat):Int)+4)=((4*i+4:Nat):Int):=(ap (by omega) (by omega)).trans (by omega)
  rw[pm,Bv,show decide ((i:Int)<16)=true from decide_eq_true (by omega),cond_true,e0,e1,if_pos (Int.natCast_nonneg _),if_pos (by omega),if_pos (Int.natCast_nonneg _),Int.toNat_natCast,Int.toNat_natCast,if_pos (by omega),
   ajG b i (by omega),aat m hm _ _ _ _ (hb.at _) (hb.at _) (hb.at _) (hb.at _),if_pos (Int.natCast_nonneg _),if_pos (by omega),Int.toNat_natCast,if_pos (by omega),aU i (by omega),NB _ _ _ i (wJ b i) (by omega)]
  have hu:=Pz hb i
  have e:IntKind.wrap .u32 (b.getD (4*i) 0*16777216+b.getD (4*i+1) 0*65536+b.getD (4*i+2) 0*256+b.getD (4*i+3) 0)=lO b i:=by
   rw[ic];unfold lO bj at *;omega
  rw[e,X5,show 64-i-1=64-(i+1) by omega]
  exact Xx G2 n m hm b t2 hl hb k0 d f (i+1) (by omega) (by omega)
theorem Xv{x:Int}(hx:bj x)(k:Nat)(hk:k≤32):shr .u32 x (k:Int)=x/2^k:=by
 unfold shr
 rw[Int.toNat_natCast,lQ,Nat.min_eq_left hk,Int.fdiv_eq_ediv_of_nonneg _ (by exact Int.le_of_lt (Int.pow_pos (by decide)))]
theorem Xy(G1:List Int→(Int→Option A)→Option A)(n m:Nat)(h0 t2:List Int)(k0:List Int→Option A):∀ (d f i:Nat) (w:List Int),w.length=i→ig w→16≤i→i+d=64→d<f→
  pn G1 (pq m) n h0 t2 k0 f (i:Int) (w++List.replicate (64-i) 0)=k0 (ek d w)
 | 0,f+1,i,w,hw,hu,h16,hi,_=>by
  rw[pn,Bw,show decide ((i:Int)<64)=false from decide_eq_false (by omega),cond_false,show 64-i=0 by omega];simp[ek]
 | d+1,0,i,_,_,_,_,_,h=>by omega
 | d+1,f+1,i,w,hw,hu,h16,hi,hf=>by
  have e0:IntKind.wrap .i64 ((i:Int)-15)=((i-15:Nat):Int):=(ap (by omega) (by omega)).trans (by omega)
  have e1:IntKind.wrap .i64 ((i:Int)-2)=((i-2:Nat):Int):=(ap (by omega) (by omega)).trans (by omega)
  have e2:IntKind.wrap .i64 ((i:Int)-16)=((i-16:Nat):Int):=(ap (by omega) (by omega)).trans (by omega)
  have e3:IntKind.wrap .i64 ((i:Int)-7)=((i-7:Nat):Int):=(ap (by omega) (by omega)).trans (by omega)
  rw[pn,Bw,show decide ((i:Int)<64)=true from decide_eq_true (by omega),cond_true,e0,e1,e2,e3]
  rw[if_pos (Int.natCast_nonneg _),if_pos (by omega),Int.toNat_natCast,CV w _ (i-15) (by omega),Option.bind_some,
   if_pos (Int.natCast_nonneg _),if_pos (by omega),Int.toNat_natCast,CV w _ (i-2) (by omega),Option.bind_some,
   show(7:Int)=((7:Nat):Int) from rfl,show(18:Int)=((18:Nat):Int) from rfl,qd m _ (hu.at _) _ (by decide) (by decide),qd m _ (hu.at _) _ (by decide) (by decide),
   show(17:Int)=((17:Nat):Int) from rfl,show(19:Int)=((19:Nat):Int) from rfl,qd m _ (hu.at _) _ (by decide) (by decide),qd m _ (hu.at _) _ (by decide) (by decide),
   if_pos (Int.natCast_nonneg _),if_pos (by omega),Int.toNat_natCast,CV w _ (i-16) (by omega),Option.bind_some,
   if_pos (Int.natCast_nonneg _),if_pos (by omega),Int.toNat_natCast,CV w _ (i-7) (by omega),Option.bind_some,
   if_pos (Int.natCast_nonneg _),if_pos (by omega),Int.toNat_natCast,if_pos (by omega),
   show(3:Int)=((3:Nat):Int) from rfl,show(10:Int)=((10:Nat):Int) from rfl,Xv (hu.at _) _ (by decide),Xv (hu.at _) _ (by decide),aU i (by omega),NB _ _ _ i hw (by omega),show 64-i-1=64-(i+1) by omega]
  have e:ek (d+1) w=ek d (w++[nw w i]):=by rw[ek,hw]
  rw[e]
  exact Xy G1 n m h0 t2 k0 d f (i+1) (w++[nw w i]) (by simp[hw]) (hu.snoc (.wrap _)) (by omega) (by omega) (by omega)
theorem amz(n:Nat)(hn:100<n)(b:List Int)(hl:b.length=64)(hb:aq b)(g:List Int→Option A):sG n b g=g (ek 48 (eC b 16)):=by
 unfold sG J0
 refine Eq.trans (Xx (pq n) n n (by omega) b _ hl hb _ 16 n 0 (by omega) (by omega)) ?_
 exact Xy (sJ n) n n b _ _ 48 n 16 (eC b 16) (wJ b 16) (X4 hb 16) (by omega) (by omega) (by omega)
theorem PD(G1:List Int→(List Int→Option A)→Option A)(n m:Nat)(h t4 w:List Int)(hw:w.length=64)(k0:List Int→Option A):∀ (d f i:Nat) (v:List Int),cG v→i+d=64→d<f→
  pf G1 (sH m) n h t4 w k0 f (i:Int) v=k0 (wr gU w d i v)
 | 0,f+1,i,v,hv,hi,_=>by
  rw[pf,Bs,show decide ((i:Int)<64)=false from decide_eq_false (by omega),cond_false];rfl
 | d+1,0,i,_,_,_,h=>by omega
 | d+1,f+1,i,v,hv,hi,hf=>by
  obtain⟨a,b,c,e,p,q,r,s,rfl,ha,hb,hc,he,hp,hq,hr,hs⟩:=hv.eight
  rw[pf,Bs,show decide ((i:Int)<64)=true from decide_eq_true (by omega),cond_true]
  simp only[List.getElem?_cons_zero,List.getElem?_cons_succ,Option.bind_some]
  rw[show(6:Int)=((6:Nat):Int) from rfl,show(11:Int)=((11:Nat):Int) from rfl,show(25:Int)=((25:Nat):Int) from rfl,XM m _ hp 6 11 25 (by decide) (by decide) (by decide),
   if_pos (Int.natCast_nonneg _),if_pos (by omega),Int.toNat_natCast,bZ gU i (by rw[show gU.length=64 from rfl];omega) 0,Option.bind_some,if_pos (Int.natCast_nonneg _),if_pos (by omega),bZ w i (by omega) 0,Option.bind_some,
   show(2:Int)=((2:Nat):Int) from rfl,show(13:Int)=((13:Nat):Int) from rfl,show(22:Int)=((22:Nat):Int) from rfl,XM m _ ha 2 13 22 (by decide) (by decide) (by decide),aU i (by omega),akx hp]
  exact PD G1 n m h t4 w hw k0 d f (i+1) _ (Nn (gU.getD i 0) (w.getD i 0) (.of ha hb hc he hp hq hr hs)) (by omega) (by omega)
theorem aay(n:Nat)(hn:100<n)(h b:List Int)(hh:cG h)(hl:b.length=64)(hb:aq b)(g:List Int→Option A):vr n h b g=g (blk h b):=by
 obtain⟨m,rfl⟩:∃ m,n=m+9:=⟨n-9,by omega⟩
 unfold vr JO
 rw[amz (m+9) hn b hl hb]
 refine Eq.trans (PD (sG (m+9)) (m+9) (m+9) h _ _ (by rw[Ey,wJ]) _ 64 (m+9) 0 h hh (by omega) (by omega)) ?_
 have hv:=Db gU (ek 48 (eC b 16)) 64 0 h hh
 exact aax (sG (m+9)) (sH (m+9)) (m+9) m h _ _ hh hv _
def pQ:List Int:=[1779033703,3144134277,1013904242,2773480762,1359893119,2600822924,528734635,1541459225]
theorem US:cG pQ:=.of ⟨by decide,by decide⟩ ⟨by decide,by decide⟩ ⟨by decide,by decide⟩ ⟨by decide,by decide⟩ ⟨by decide,by decide⟩ ⟨by decide,by decide⟩ ⟨by decide,by decide⟩ ⟨by decide,by decide⟩
theorem ajx(n:Nat)(g:List Int→Option A):JL n g=g pQ:=by kernel_rfl
theorem alq(n:Nat)(g:List Int→Option A):jd n g=g pQ:=by kernel_rfl
def fI:Nat→List Int→List Int→List Int
 | 0,_,h=>h
 | m+1,l,h=>fI m (l.drop 64) (blk h (l.take 64))
theorem UY:∀ (m:Nat) (l h:List Int),cG h→cG (fI m l h)
 | 0,_,_,hh=>hh
 | m+1,l,h,hh=>UY m _ _ (PB hh)
theorem UZ:∀ (m:Nat) (l h:List Int),fI (m+1) l h=blk (fI m l h) ((l.drop (64*m)).take 64)
 | 0,l,h=>by simp[fI]
 | m+1,l,h=>by
  rw[fI,UZ m,fI,List.drop_drop,show 64*(m+1)=64+64*m by omega]
theorem Mr:∀ (m:Nat) (l x h:List Int),64*m≤l.length→fI m (l++x) h=fI m l h
 | 0,_,_,_,_=>rfl
 | m+1,l,x,h,hl=>by
  rw[fI,fI,List.drop_append_of_le_length (by omega),List.take_append_of_le_length (by omega)]
  exact Mr m _ x _ (by simp;omega)
def vS(l:List Int):List Int:=fI (l.length/64) l pQ
theorem vT(l:List Int):cG (vS l):=UY _ _ _ US
theorem aq.take{l:List Int}(h:aq l)(n:Nat):aq (l.take n):=fun x hx=>h x (List.mem_of_mem_take hx)
theorem aq.drop{l:List Int}(h:aq l)(n:Nat):aq (l.drop n):=fun x hx=>h x (List.mem_of_mem_drop hx)
theorem aq.app{l m:List Int}(h:aq l)(h2:aq m):aq (l++m):=fun x hx=>(List.mem_append.1 hx).elim (h x) (h2 x)
theorem aq.rep(n:Nat):aq (List.replicate n 0):=fun x hx=>by rw[(List.mem_replicate.1 hx).2];decide
def Hr(h:List Int×(List Int×(Int×Unit)))(l:List Int):Prop:=
 h.1=vS l∧h.2.1.length=64∧aq h.2.1∧h.2.1.take (l.length%64)=l.drop (64*(l.length/64))∧h.2.2.1=(l.length:Int)
theorem NY(m n:Nat)(hm:100<m)(k0:(List Int×(List Int×(Int×Unit)))→Option A)(W:Option A) :
  ∀ (f:Nat) (b l:List Int) (h:List Int×(List Int×(Int×Unit))),Hr h l→aq l→aq b→b.length<f→l.length+b.length<1000000000→(∀ h',Hr h' (l++b)→k0 h'=W)→
  sE (vr m) n k0 f b h=W
 | 0,b,l,h,_,_,_,hf,_,_=>by omega
 | f+1,b,l,h,hh,hl,hb,hf,hlen,hk=>by
  obtain⟨h1,h2,h3,h4,h5⟩:=hh
  rw[sE,Jv,h5]
  by_cases hb0:b.length=0
  ·have e:b=[]:=List.length_eq_zero_iff.1 hb0
   subst e
   rw[show decide ((([]:List Int).length:Int)>0)=false from rfl,cond_false]
   exact hk h (by rw[List.append_nil];exact⟨h1,h2,h3,h4,h5⟩)
  ·have e0:Int.tmod (l.length:Int) 64=((l.length%64:Nat):Int):=by rw[show(64:Int)=((64:Nat):Int) from rfl,dy]
   have hat:l.length%64<64:=Nat.mod_lt _ (by decide)
   obtain⟨at_,hat_⟩:∃ x,x=l.length%64:=⟨_,rfl⟩
   obtain⟨q,hq⟩:∃ x,x=l.length/64:=⟨_,rfl⟩
   have hdiv:l.length=64*q+at_:=by rw[hq,hat_];omega
   rw[← hat_] at hat h4 e0
   rw[← hq] at h4
   obtain⟨k,hk'⟩:∃ x,x=min b.length (64-at_):=⟨_,rfl⟩
   have e2:IntKind.wrap .i64 ((at_:Int)+(k:Int))=((at_+k:Nat):Int):=(ap (by omega) (by omega)).trans (by omega)
   have e3:IntKind.wrap .i64 ((l.length:Int)+(k:Int))=((l.length+k:Nat):Int):=(ap (by omega) (by omega)).trans (by omega)
   rw[show decide ((b.length:Int)>0)=true from decide_eq_true (by omega),cond_true,e0,if_pos (Int.natCast_nonneg _),if_pos (by omega),Int.toNat_natCast,← hk',if_pos (Int.natCast_nonneg _),if_pos (by omega),e2,e3,Int.toNat_natCast]
   have hrest:(b.drop k).take (b.length-k)=b.drop k:=by rw[List.take_of_length_le (by simp)]
   rw[hrest]
   have hll:l++b=(l++b.take k)++b.drop k:=by rw[List.append_assoc,List.take_append_drop]
   have hblen:(b.drop k).length<f:=by simp;omega
   have hsum:(l++b.take k).length=l.length+k:=by simp;omega
   have hAl:aq (l++b.take k):=hl.app (hb.take k)
   have htk:b.take (64-at_)=b.take k:=by
    rw[hk']
    rcases Nat.le_total b.length (64-at_) with h|h
    ·rw[Nat.min_eq_left h,List.take_of_length_le h,List.take_of_length_le (Nat.le_refl _)]
    ·rw[Nat.min_eq_right h]
   rw[htk]
   have hpend:h.2.1.take at_=l.drop (64*q):=h4
   have hnb:(h.2.1.take at_++(b.take k++h.2.1.drop (at_+k))).length=64:=by simp;omega
   have hab:aq (h.2.1.take at_++(b.take k++h.2.1.drop (at_+k))):=(h3.take _).app ((hb.take _).app (h3.drop _))
   have hdl:(l.drop (64*q)).length=at_:=by rw[List.length_drop];omega
   have htl:(b.take k).length=k:=by rw[List.length_take];omega
   by_cases hfull:at_+k=64
   ·rw[show((((at_+k:Nat):Int)==64))=true by rw[hfull];rfl,cond_true]
    have hblk:h.2.1.take at_++(b.take k++h.2.1.drop (at_+k))=((l++b.take k).drop (64*q)).take 64:=by
     rw[hpend,List.drop_append_of_le_length (by omega),List.drop_of_length_le (by omega:h.2.1.length≤at_+k),List.append_nil,List.take_of_length_le (show(l.drop (64*q)++b.take k).length≤64 by rw[List.length_append,hdl,htl];omega)]
    rw[aay m hm _ _ (by rw[h1];exact vT l) hnb hab]
    refine NY m n hm k0 W f (b.drop k) (l++b.take k) _ ⟨?_,hnb,hab,?_,?_⟩ hAl (hb.drop k) hblen (by simp;omega) (by rw[← hll];exact hk)
    ·show blk h.1 _=_
     rw[hblk,h1]
     unfold vS
     rw[hsum,show(l.length+k)/64=q+1 by omega,UZ,Mr q _ _ _ (by omega),hq]
    ·show List.take _ (h.2.1.take at_++_)=_
     rw[hsum,show(l.length+k)%64=0 by omega,List.take_zero,List.drop_of_length_le (by rw[hsum];omega)]
    ·show((l.length+k:Nat):Int)=_
     rw[hsum]
   ·rw[show((((at_+k:Nat):Int)==64))=false by simp;omega,cond_false]
    have hkb:k=b.length:=by omega
    refine NY m n hm k0 W f (b.drop k) (l++b.take k) _ ⟨?_,hnb,hab,?_,?_⟩ hAl (hb.drop k) hblen (by simp;omega) (by rw[← hll];exact hk)
    ·show h.1=_
     rw[h1]
     unfold vS
     rw[hsum,show(l.length+k)/64=q by omega,← hq,Mr q _ _ _ (by omega)]
    ·show List.take _ (h.2.1.take at_++_)=_
     rw[hsum,show(l.length+k)%64=at_+k by omega,show(l.length+k)/64=q by omega,List.drop_append_of_le_length (by omega),hpend,← List.append_assoc,List.take_append_of_le_length (show at_+k≤(l.drop (64*q)++b.take k).length by rw[List.length_append,hdl,htl];omega),List.take_of_length_le (show(l.drop (64*q)++b.take k).length≤at_+k by rw[List.length_append,hdl,htl];omega)]
    ·show((l.length+k:Nat):Int)=_
     rw[hsum]
theorem NZ(n:Nat)(hn:100<n)(b l:List Int)(h:List Int×(List Int×(Int×Unit)))(hh:Hr h l)(hl:aq l)(hb:aq b)(hf:b.length<n)(hlen:l.length+b.length<1000000000)(g:(List Int×(List Int×(Int×Unit)))→Option A)(W:Option A)(hg:∀ h',Hr h' (l++b)→g h'=W):pb n b h g=W:=by
 unfold pb Jw
 exact NY n n hn _ W n b l h hh hl hb hf hlen hg
def lP(x:Nat):List Int:=[((x/72057594037927936%256:Nat):Int),((x/281474976710656%256:Nat):Int),((x/1099511627776%256:Nat):Int),((x/4294967296%256:Nat):Int),((x/16777216%256:Nat):Int),((x/65536%256:Nat):Int),((x/256%256:Nat):Int),((x%256:Nat):Int)]
def i7(x:Int):List Int:=[x/16777216,x/65536%256,x/256%256,x%256]
theorem gi(x k:Nat)(hk:k≤64):IntKind.wrap .u8 (shr .u64 (x:Int) (k:Int))=((x/2^k%256:Nat):Int):=by
 rw[De x k hk,wM];rfl
theorem ajK(n:Nat)(hn:20<n)(x:Nat)(g:List Int→Option A):pg n (x:Int) 8 g=g (lP x):=by
 obtain⟨m,rfl⟩:∃ m,n=m+9:=⟨n-9,by omega⟩
 have h0:pg (m+9) (x:Int) 8 g=g [IntKind.wrap .u8 (shr .u64 (x:Int) ((56:Nat):Int)),IntKind.wrap .u8 (shr .u64 (x:Int) ((48:Nat):Int)),IntKind.wrap .u8 (shr .u64 (x:Int) ((40:Nat):Int)),IntKind.wrap .u8 (shr .u64 (x:Int) ((32:Nat):Int)),IntKind.wrap .u8 (shr .u64 (x:Int) ((24:Nat):Int)),IntKind.wrap .u8 (shr .u64 (x:Int) ((16:Nat):Int)),IntKind.wrap .u8 (shr .u64 (x:Int) ((8:Nat):Int)),IntKind.wrap .u8 (shr .u64 (x:Int) ((0:Nat):Int))]:=by kernel_rfl
 rw[h0,gi x _ (by decide),gi x _ (by decide),gi x _ (by decide),gi x _ (by decide),gi x _ (by decide),gi x _ (by decide),gi x _ (by decide),gi x _ (by decide)]
 rw[Nat.pow_zero,Nat.div_one];rfl
theorem ajJ(n:Nat)(hn:20<n)(x:Int)(hx:bj x)(g:List Int→Option A):pg n x 4 g=g (i7 x):=by
 obtain⟨y,rfl,hy⟩:=hx.nat
 obtain⟨m,rfl⟩:∃ m,n=m+9:=⟨n-9,by omega⟩
 have h0:pg (m+9) (y:Int) 4 g=g [IntKind.wrap .u8 (shr .u64 (y:Int) ((24:Nat):Int)),IntKind.wrap .u8 (shr .u64 (y:Int) ((16:Nat):Int)),IntKind.wrap .u8 (shr .u64 (y:Int) ((8:Nat):Int)),IntKind.wrap .u8 (shr .u64 (y:Int) ((0:Nat):Int))]:=by kernel_rfl
 rw[h0,gi y _ (by decide),gi y _ (by decide),gi y _ (by decide),gi y _ (by decide)]
 rw[show((y/2^24%256:Nat):Int)=(y:Int)/16777216 by omega,show((y/2^16%256:Nat):Int)=(y:Int)/65536%256 by omega,show((y/2^8%256:Nat):Int)=(y:Int)/256%256 by omega,show((y/2^0%256:Nat):Int)=(y:Int)%256 by omega];rfl
end Go.Ev
