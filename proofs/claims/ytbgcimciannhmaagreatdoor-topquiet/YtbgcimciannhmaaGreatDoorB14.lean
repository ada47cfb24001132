import Derived.Test.YtbgcimciannhmaaGreatDoorB7
import Derived.Test.YtbgcimciannhmaaGreatDoorB9
import Derived.Test.YtbgcimciannhmaaGreatDoorB13
import Derived.Tactics
import Derived.Tactics2
import Derived.StillTactics
import Derived.Laws.Rows
import Derived.Laws.Cells
import Derived.Laws.Entries
import Derived.Laws.World
import Derived.Laws.Sem
import Derived.Laws.Small
import Derived.Laws.Pointers
import Derived.Laws.RangeString
import Derived.Scope
import Derived.LoopTactic
import Derived.LoopN
import Derived.Handy
import Derived.Below
/- A part of the proof of TopQuiet; no condition. -/
set_option linter.all false
set_option maxRecDepth 100000
namespace Go.Ev
open Go.Proofs
variable{A:Type}
def Gk{R:Type}(F:(List (List Int))→Option A→Option A→R→Int→Option A)(k:KK A)(d:LSh.den ⟨[(0,(.p (.sl aa))),(2,(.p kI))],30,[],0⟩)(t:R):Option A:=F d.1.1 (k .ret ⟨.any::.any::(.p .bool true)::an 31 [],[],0⟩) (k (.exit 0) ⟨an 34 [],[],0⟩) t d.1.2.1
def Gl{R:Type}(F:(List (List Int))→Int→Option A→Option A→R→Int→Option A)(k:KK A)(d:LSh.den ⟨[(0,(.p (.sl aa))),(2,(.p kI)),(0,(.p kI))],29,[],0⟩)(t:R):Option A:=F d.1.1 d.1.2.1 (k .ret ⟨(.p (.sl aa) d.1.1)::.any::(.p .bool true)::(.p kI d.1.2.1)::an 30 [],[],0⟩) (k (.exit 2) ⟨(.p (.sl aa) d.1.1)::.any::.any::(.p kI d.1.2.1)::an 30 [],[],0⟩) t d.1.2.2.1
def Gi(g:qC A):Entry A:=ai [] ⟨[(.p (.sl aa))],[],0⟩ fun d k=>g d.1.1 (fun r0=>k (.p .bool r0) [])
section
variable(g163:iO A)(g228:kK A)(g162:lF A)(n:Nat)
noncomputable def Gh:Env A:=Ev [(163,zJ g163),(228,AR g228),(162,sw g162)] [(0,au (dl 34 [0,3]) (Gk (ox g163 g228 g162 n)) n),(1,au (dl 34 [0,3,4]) (Gl (oy g163 g228 g162 n)) n)] [] []
theorem adB:Lst A (Gh g163 g228 g162 n) Tryz.f161 1 (dl 34 [0,2,3]) (Gl (zH g163 g228 g162 n)) (Gl (oy g163 g228 g162 n)) fun r d at_=>r ((d.1.1,d.1.2.1,at_,d.1.2.2.2),d.2):=.mk
theorem adA:Lst A (Gh g163 g228 g162 n) Tryz.f161 0 (dl 34 [2]) (Gk (zG g163 g228 g162 n)) (Gk (ox g163 g228 g162 n)) fun r d level=>r ((d.1.1,level,d.1.2.2),d.2):=.mk
theorem adz:Qo A (Gh g163 g228 g162 n) Tryz.f161 [.pure] (Gi (Gj g163 g228 g162 n)):=.mk
end
theorem ady(n:Nat):OK A 161 (Gi (uK n)):=ak (adz _ _ _ n) Tryz.func161 (ax (adA _ _ _ n)<|ax (adB _ _ _ n) ag) (oc (Rw n)<|oc (SD n)<|oc (Gm n) oz)
def ET{R:Type}(F:(List ByteArray)→(List ByteArray)→Int→(ae A)→Option A→R→Int→Option A)(k:KK A)(d:LSh.den ⟨[(0,(.p (.sl .str))),(14,(.p (.sl .str))),(0,(.p kI)),(0,(.p kI))],15,[],0⟩)(t:R):Option A:=F d.1.1 d.1.2.1 d.1.2.2.1 (fun z1=>k .ret ⟨(.p (.sl .str) d.1.1)::.any::(.p kI z1)::an 30 [],[],0⟩) (k (.exit 0) ⟨(.p (.sl .str) d.1.1)::an 32 [],[],0⟩) t d.1.2.2.2.1
def ER(g:wV A):Entry A:=ai [] ⟨[(.p (.sl .str))],[],0⟩ fun d k=>g d.1.1 (fun r0=>k (.p kI r0) [])
section
variable(g160:qB A)(g113:kj A)(g161:qC A)(n:Nat)
noncomputable def QL:Env A:=Ev [(160,Ge g160),(113,yP g113),(161,Gi g161)] [(0,au (dl 33 [0,15,16,17]) (ET (nT g160 g113 g161 n)) n)] [] []
theorem ab8:Lst A (QL g160 g113 g161 n) Tryz.f111 0 (dl 33 [0,2]) (ET (yL g160 g113 g161 n)) (ET (nT g160 g113 g161 n)) fun r d t17=>r ((d.1.1,d.1.2.1,d.1.2.2.1,t17,d.1.2.2.2.2),d.2):=.mk
theorem ab7:Qo A (QL g160 g113 g161 n) Tryz.f111 [.pure] (ER (ES g160 g113 g161 n)):=.mk
end
theorem ab6(n:Nat):OK A 111 (ER (yM n)):=ak (ab7 _ _ _ n) Tryz.func111 (ax (ab8 _ _ _ n) ag) (oc (adv n)<|oc (QN n)<|oc (ady n) oz)
def EU(g:wW A):Entry A:=ai [] ⟨[(.p (.sl aa))],[],0⟩ fun d k=>g d.1.1 (fun r0=>k (.p aa r0) [])
theorem aca(g163:iO A)(g162:lF A)(n:Nat):Qo A (Ev [(163,zJ g163),(162,sw g162)] [] [] []) Tryz.f112 [.pure] (EU (EV g163 g162 n)):=.mk
theorem ab9(n:Nat):OK A 112 (EU (yN n)):=ak (aca _ _ n) Tryz.func112 ag (oc (Rw n)<|oc (Gm n) oz)
def LD(g:rr A):Entry A:=ai [] ⟨[(.p c7)],[],0⟩ fun d k=>g d.1.1 (fun r0=>k (.p kI r0) [])
theorem aiL(g111:wV A)(g113:kj A)(g112:wW A)(n:Nat):Qo A (Ev [(111,ER g111),(113,yP g113),(112,EU g112)] [] [] []) Tryz.f77 [.pure] (LD (LE g111 g113 g112 n)):=.mk
theorem aiK(n:Nat):OK A 77 (LD (vG n)):=ak (aiL _ _ _ n) Tryz.func77 ag (oc (ab6 n)<|oc (QN n)<|oc (ab9 n) oz)
def KE{R:Type}(F:jv→Int→xQ→jv→Unit→(dz A)→(bx A)→R→Int→(List (List Int))→Option A)(k:KK A)(d:LSh.den ⟨[(4,(.ptr 0)),(1,(.ptr 1)),(11,(.p (.sl c7))),(0,(.p kI)),(0,(.p kI))],30,[(.var 154 gV (.p gV)),(.var 154 gV (.pr (.p (.sl c7)) (.pr (.row 2) (.p .unit)))),(.row 23 aa)],0⟩)(t:R):Option A:=F d.1.2.2.1 d.1.2.2.2.1 d.2.1 d.2.2.1.1 d.2.2.1.2.2 (fun z0 z4=>k .ret ⟨an 4 ((.ptr 0 [])::(.p kI z0)::(.ptr 1 [])::an 44 []),[.var 154 gV (.p gV ([],([],()))),.var 154 gV (.pr (.p (.sl c7) d.2.2.1.1) (.pr (.row 2) (.p .unit d.2.2.1.2.2))),.row 23 aa z4],0⟩) (fun z3=>k (.exit 0) ⟨an 4 ((.ptr 0 [])::.any::(.ptr 1 [])::an 44 []),[.var 154 gV (.p gV d.2.1),.var 154 gV (.pr (.p (.sl c7) d.2.2.1.1) (.pr (.row 2) (.p .unit d.2.2.1.2.2))),.row 23 aa z3],0⟩) t d.1.2.2.2.2.1 d.2.2.2.1
def KC(g:k8 A):Entry A:=ai [] ⟨[(.p aa),(.p (.sl c7))],[],0⟩ fun d k=>g d.1.1 d.1.2.1 (fun r0 r1=>k (.tup [.p gV r0,.p kI r1]) [])
section
variable(g77:rr A)(g47:fu A)(n:Nat)
noncomputable def TZ:Env A:=Ev [(77,LD g77),(47,vz g47)] [(0,au (dl 51 [4,6,18,19,20]) (KE (pB g77 g47 n)) n)] [] []
theorem ahS:Lst A (TZ g77 g47 n) Tryz.f46 0 (dl 51 [4,5,6]) (KE (BN g77 g47 n)) (KE (pB g77 g47 n)) fun r d t20 dba=>r (((),(),d.1.2.2.1,d.1.2.2.2.1,t20,d.1.2.2.2.2.2),(d.2.1,d.2.2.1,dba,d.2.2.2.2)):=.mk
theorem ahR:Qo A (TZ g77 g47 n) Tryz.f46 [.pure,.pure] (KC (KD g77 g47 n)):=.mk
end
theorem ahQ(n:Nat):OK A 46 (KC (vy n)):=ak (ahR _ _ n) Tryz.func46 (ax (ahS _ _ n) ag) (oc (aiK n)<|oc (KF n) oz)
def GA(g:xg A):Entry A:=ai [] ⟨[(.p iA)],[],0⟩ fun d k=>g d.1.1 (fun r0=>k (.p iA r0) [])
theorem adX(n:Nat):Qo A (Ev [] [] [] []) Tryz.f168 [.pure] (GA (RG n)):=.mk
theorem adW(n:Nat):OK A 168 (GA (RF n)):=ak (adX n) Tryz.func168 ag oz
def IE{R:Type}(F:Int→Int→(ae A)→(ae A)→R→Int→Int→Option A)(k:KK A)(d:LSh.den ⟨[(1,(.p kI)),(0,(.p kI)),(4,(.p kI)),(0,(.p kI))],26,[],0⟩)(t:R):Option A:=F d.1.1 d.1.2.1 (fun z2=>k .ret ⟨.any::(.p kI d.1.1)::an 4 ((.p kI d.1.1)::(.p kI z2)::an 27 []),[],0⟩) (fun z1=>k (.exit 0) ⟨.any::(.p kI d.1.1)::an 5 ((.p kI z1)::an 27 []),[],0⟩) t d.1.2.2.1 d.1.2.2.2.1
def ID(g:xw A):Entry A:=ai [] ⟨[(.p kI),(.p kI),(.p kI)],[],0⟩ fun d k=>g d.1.1 d.1.2.1 d.1.2.2.1 (fun r0=>k (.p kI r0) [])
section
variable(g75:gw A)(n:Nat)
noncomputable def SH:Env A:=Ev [(75,B9 g75)] [(0,au (dl 35 [1,2,7,8]) (IE (AW g75 n)) n)] [] []
theorem afH:Lst A (SH g75 n) Tryz.f232 0 (dl 35 [1,6,7]) (IE (SI g75 n)) (IE (AW g75 n)) fun r d d_ i=>r ((d.1.1,d.1.2.1,d_,i,d.1.2.2.2.2),d.2):=.mk
theorem afG:Qo A (SH g75 n) Tryz.f232 [.pure] (ID (SK g75 n)):=.mk
end
theorem afF(n:Nat):OK A 232 (ID (SJ n)):=ak (afG _ n) Tryz.func232 (ax (afH _ n) ag) (oc (Ul n) oz)
def Gz(g:xf A):Entry A:=ai [] ⟨[(.p iA),(.p kI)],[],0⟩ fun d k=>g d.1.1 d.1.2.1 (fun r0=>k (.p iA r0) [])
theorem adV(g232:xw A)(n:Nat):Qo A (Ev [(232,ID g232)] [] [] []) Tryz.f167 [.pure] (Gz (RE g232 n)):=.mk
theorem adU(n:Nat):OK A 167 (Gz (RD n)):=ak (adV _ n) Tryz.func167 ag (oc (afF n) oz)
def E8(g:qq A):Entry A:=ai [] ⟨[(.p iA),(.p kI)],[],0⟩ fun d k=>g d.1.1 d.1.2.1 (fun r0 r1 r2=>k (.tup [.p iA r0,.p aP r1,.p .bool r2]) [])
theorem aco(g168:xg A)(g167:xf A)(n:Nat):Qo A (Ev [(168,GA g168),(167,Gz g167)] [] [] []) Tryz.f116 [.pure,.pure,.pure] (E8 (E9 g168 g167 n)):=.mk
theorem acn(n:Nat):OK A 116 (E8 (uq n)):=ak (aco _ _ n) Tryz.func116 ag (oc (adW n)<|oc (adU n) oz)
def yW(g:iL A):Entry A:=ai [] ⟨[(.p bU),(.p kI),(.p eK)],[],0⟩ fun d k=>g d.1.1 d.1.2.1 d.1.2.2.1 (fun r0=>k (.p bU r0) [])
theorem acs(n:Nat):Qo A (Ev [] [] [] []) Tryz.f118 [.pure] (yW (Fd n)):=.mk
theorem QS(n:Nat):OK A 118 (yW (sm n)):=ak (acs n) Tryz.func118 ag oz
def zR(g:kC A):Entry A:=ai [] ⟨[(.p iA),(.p kI)],[],0⟩ fun d k=>g d.1.1 d.1.2.1 (fun r0=>k (.p .bool r0) [])
theorem adY(n:Nat):Qo A (Ev [] [] [] []) Tryz.f169 [.pure] (zR (GB n)):=.mk
theorem RH(n:Nat):OK A 169 (zR (uO n)):=ak (adY n) Tryz.func169 ag oz
def GK{R:Type}(F:dt→(ae A)→R→Int→Int→Option A)(k:KK A)(d:LSh.den ⟨[(1,(.ptr 0)),(1,(.p kI)),(0,(.p kI))],22,[(.var 88 dv (.p dv))],0⟩)(t:R):Option A:=F d.2.1 (fun z0=>k (.exit 0) ⟨.any::.any::.any::(.p kI z0)::an 23 [],[],0⟩) t d.1.2.1 d.1.2.2.1
def GI(g:qG A):Entry A:=ai [] ⟨[(.p dv)],[],0⟩ fun d k=>g d.1.1 (fun r0=>k (.p kI r0) [])
section
variable(g109:dV A)(n:Nat)
noncomputable def RN:Env A:=Ev [(109,un g109)] [(0,au (dl 27 [1,3,4]) (GK (sx g109 n)) n)] [] []
theorem ad7:Lst A (RN g109 n) Tryz.f172 0 (dl 27 [3]) (GK (zX g109 n)) (GK (sx g109 n)) fun r d best i=>r (((),best,i,d.1.2.2.2),d.2):=.mk
theorem ad6:Qo A (RN g109 n) Tryz.f172 [.pure] (GI (GJ g109 n)):=.mk
end
theorem ad5(n:Nat):OK A 172 (GI (zY n)):=ak (ad6 _ n) Tryz.func172 (ax (ad7 _ n) ag) (oc (EK n) oz)
def SR:Shape:=⟨[(.p dv),(.p (.int .i64))],[],0⟩
def vb(g:dt→Int→(ah A)→Option A):Entry A:=ai [false,false] SR fun d k=>g d.1.1 d.1.2.1 (fun r0=>k (.row 0) [.row 3 (.int .i64) r0])
noncomputable def oX(g_f234:dt→Int→(ah A)→Option A)(n:Nat):Env A:=⟨aN,aw,[(234,vb g_f234)],[],[],[],bI,obs⟩
theorem afL(g_f234:dt→Int→(ah A)→Option A)(n:Nat):aO Tryz.prog (oX g_f234 n):=bz rfl bA
theorem afO(n:Nat)(ih:aI Tryz.prog aw 234 (vb (A:=A) (fH n))):cS Tryz.prog (oX (A:=A) (fH n) n):=aj.env rfl rfl (aj.cons ih aj.nil)
theorem afN(g_f234:dt→Int→(ah A)→Option A)(n:Nat)(a0:dt)(a1:Int)(k:AV→List Blk→Option A):fY (oX g_f234 n) Tryz.f234 [.own] [.p dv a0,.p (.int .i64) a1] [] k=SQ g_f234 n a0 a1 (fun r0=>k (.row 0) [.row 3 (.int .i64) r0]):=by kernel_rfl
theorem afM(n:Nat)(a0:dt)(a1:Int)(k:AV→List Blk→Option A):fY (oX (fH n) n) Tryz.f234 [.own] [.p dv a0,.p (.int .i64) a1] [] k=fH (n+1) a0 a1 (fun r0=>k (.row 0) [.row 3 (.int .i64) r0]):=afN (fH n) n a0 a1 k
theorem afP(n:Nat)(ih:aI Tryz.prog aw 234 (vb (A:=A) (fH n))):∀ c,Tryz.f234.body=some c→∀ q∈aD 0 c,∀ L,(oX (A:=A) (fH n) n).lps.lookup q.1=some L→cl Tryz.prog aw q.2 L:=
 Vz (E:=oX (fH n) n) (by kernel_rfl:Tryz.f234.body=some (eh Tryz.f234)) (vZ (E:=oX (fH n) n) (by kernel_rfl:aD 0 (eh Tryz.f234)=[]) s8)
theorem SP:∀ (n:Nat),aI Tryz.prog aw 234 (vb (A:=A) (fH n))
 | 0=>aI.ownNone fun _ _=>rfl
 | n+1=>have ih:=SP n
  aI.ofOwn (afL (fH n) n) (afO n ih) follows ⟨Tryz.func234,by kernel_rfl⟩ (afP n ih) (rm:=[.own]) (S:=SR) fun d k=>Eq.trans (by kernel_rfl) (afM n d.1.1 d.1.2.1 k)
def GH{R:Type}(F:Int→dt→(List Int)→(bx A)→R→Int→(List (List Int))→Option A)(k:KK A)(d:LSh.den ⟨[(2,(.ptr 0)),(2,(.row 1)),(4,(.row 2)),(0,(.p kI)),(0,(.p kI))],15,[(.var 88 dv (.p dv)),(.row 23 aa),(.row 3 kI)],0⟩)(t:R):Option A:=F d.1.2.2.2.1 d.2.1 d.2.2.2.1 (fun z0=>k (.exit 0) ⟨an 5 ((.row 0)::an 22 []),[.row 23 aa z0],0⟩) t d.1.2.2.2.2.1 d.2.2.1
def GF(g:qF A):Entry A:=ai [] ⟨[(.p dv),(.p kI)],[],0⟩ fun d k=>g d.1.1 d.1.2.1 (fun r0=>k (.row 0) [.row 23 aa r0])
section
variable(g234:xT A)(n:Nat)
noncomputable def RL:Env A:=Ev [(234,vb g234)] [(0,au (dl 28 [2,5,10,11,12]) (GH (zV g234 n)) n)] [] []
theorem ad4:Lst A (RL g234 n) Tryz.f171 0 (dl 28 [5]) (GH (RM g234 n)) (GH (zV g234 n)) fun r d t12 out=>r (((),(),(),d.1.2.2.2.1,t12,d.1.2.2.2.2.2),(d.2.1,out,d.2.2.2)):=.mk
theorem ad3:Qo A (RL g234 n) Tryz.f171 [.own] (GF (GG g234 n)):=.mk
end
theorem ad2(n:Nat):OK A 171 (GF (zU n)):=ak (ad3 _ n) Tryz.func171 (ax (ad4 _ n) ag) (oc (SP n) oz)
def IG{R:Type}(F:rM→(List Int)→(ae A)→Option A→R→Int→Option A)(k:KK A)(d:LSh.den ⟨[(2,(.ptr 0)),(0,(.ptr 1)),(1,(.p kI))],16,[(.var 223 mL (.p mL)),(.var 23 aa (.p aa))],0⟩)(t:R):Option A:=F d.2.1 d.2.2.1 (fun z0=>k .ret ⟨an 4 ((.p kI z0)::an 17 []),[],0⟩) (k (.exit 0) ⟨an 22 [],[],0⟩) t d.1.2.2.1
def IF(g:qS A):Entry A:=ai [] ⟨[(.p mL),(.p aa)],[],0⟩ fun d k=>g d.1.1 d.1.2.1 (fun r0=>k (.p kI r0) [])
section
variable(n:Nat)
noncomputable def SL:Env A:=Ev [] [(0,au (dl 22 [2,3,5]) (IG (AX n)) n)] [] []
theorem afK:Lst A (SL n) Tryz.f233 0 (dl 22 [4]) (IG (SM n)) (IG (AX n)) fun r d i=>r (((),(),i,d.1.2.2.2),d.2):=.mk
theorem afJ:Qo A (SL n) Tryz.f233 [.pure] (IF (SO n)):=.mk
end
theorem afI(n:Nat):OK A 233 (IF (SN n)):=ak (afJ n) Tryz.func233 (ax (afK n) ag) oz
def GE{R:Type}(F:(List (List Int))→rM→cP→(rA A)→Option A→R→Int→Option A)(k:KK A)(d:LSh.den ⟨[(1,(.p (.sl aa))),(0,(.ptr 0)),(1,(.ptr 1)),(1,(.p kI))],46,[(.var 223 mL (.p mL)),(.var 347 aP (.p aP))],0⟩)(t:R):Option A:=F d.1.1 d.2.1 d.2.2.1 (fun z1=>k .ret ⟨an 4 ((.ptr 0 [])::(.p .bool true)::an 47 []),[.var 347 aP (.p aP z1)],0⟩) (k (.exit 0) ⟨an 4 ((.ptr 0 [])::an 48 []),[.var 347 aP (.p aP d.2.2.1)],0⟩) t d.1.2.2.2.1
def GC(g:qE A):Entry A:=ai [] ⟨[(.p mL),(.p (.sl aa))],[],0⟩ fun d k=>g d.1.1 d.1.2.1 (fun r0 r1=>k (.tup [.p aP r0,.p .bool r1]) [])
section
variable(g233:qS A)(n:Nat)
noncomputable def RI:Env A:=Ev [(233,IF g233)] [(0,au (dl 53 [1,2,4,6]) (GE (zT g233 n)) n)] [] []
theorem ad1:Lst A (RI g233 n) Tryz.f170 0 (dl 53 [4,5]) (GE (RJ g233 n)) (GE (zT g233 n)) fun r d i=>r ((d.1.1,(),(),i,d.1.2.2.2.2),d.2):=.mk
theorem ad0:Qo A (RI g233 n) Tryz.f170 [.pure,.pure] (GC (GD g233 n)):=.mk
end
theorem adZ(n:Nat):OK A 170 (GC (zS n)):=ak (ad0 _ n) Tryz.func170 (ax (ad1 _ n) ag) (oc (afI n) oz)
def GN{R:Type}(F:dt→(List Int)→(ae A)→Option A→R→Int→Option A)(k:KK A)(d:LSh.den ⟨[(2,(.ptr 0)),(0,(.ptr 1)),(1,(.p kI))],17,[(.var 88 dv (.p dv)),(.var 23 aa (.p aa))],0⟩)(t:R):Option A:=F d.2.1 d.2.2.1 (fun z0=>k .ret ⟨an 4 ((.p kI z0)::an 18 []),[],0⟩) (k (.exit 0) ⟨an 23 [],[],0⟩) t d.1.2.2.1
def GM(g:qH A):Entry A:=ai [] ⟨[(.p dv),(.p aa)],[],0⟩ fun d k=>g d.1.1 d.1.2.1 (fun r0=>k (.p kI r0) [])
section
variable(n:Nat)
noncomputable def RO:Env A:=Ev [] [(0,au (dl 23 [2,3,5]) (GN (zZ n)) n)] [] []
theorem aea:Lst A (RO n) Tryz.f173 0 (dl 23 [4]) (GN (RQ n)) (GN (zZ n)) fun r d i=>r (((),(),i,d.1.2.2.2),d.2):=.mk
theorem ad9:Qo A (RO n) Tryz.f173 [.pure] (GM (RT n)):=.mk
end
theorem ad8(n:Nat):OK A 173 (GM (RR n)):=ak (ad9 n) Tryz.func173 (ax (aea n) ag) oz
def GR{R:Type}(F:(bt A)→R→Int→Int→(List Int)→Option A)(k:KK A)(d:LSh.den ⟨[(3,(.row 0)),(0,(.p kI)),(0,(.p kI))],49,[(.row 3 kI)],0⟩)(t:R):Option A:=F (fun z0 z1=>k (.exit 0) ⟨.any::.any::.any::(.row 0)::(.p kI z0)::an 50 [],[.row 3 kI z1],0⟩) t d.1.2.1 d.1.2.2.1 d.2.1
def GS{R:Type}(F:(ah A)→R→Int→Int→(List Int)→Option A)(k:KK A)(d:LSh.den ⟨[(3,(.row 0)),(0,(.p kI)),(1,(.p kI))],48,[(.row 3 kI)],0⟩)(t:R):Option A:=F (fun z0=>k (.exit 2) ⟨.any::.any::.any::(.row 0)::an 51 [],[.row 3 kI z0],0⟩) t d.1.2.1 d.1.2.2.1 d.2.1
def GP(g:qI A):Entry A:=ai [] ⟨[(.p kI)],[],0⟩ fun d k=>g d.1.1 (fun r0=>k (.row 0) [.row 3 kI r0])
section
variable(n:Nat)
noncomputable def GO:Env A:=Ev [] [(0,au (dl 55 [3,4,5]) (GR (Aa n)) n),(1,au (dl 55 [3,4,6]) (GS (uP n)) n)] [] []
theorem aee:Lst A (GO n) Tryz.f174 1 (dl 55 [3]) (GS (RW n)) (GS (uP n)) fun r d at_ step out=>r (((),at_,step,d.1.2.2.2),(out,d.2.2)):=.mk
theorem aed:Lst A (GO n) Tryz.f174 0 (dl 55 [3,4]) (GR (RU n)) (GR (Aa n)) fun r d at_ i out=>r (((),at_,i,d.1.2.2.2),(out,d.2.2)):=.mk
theorem aec:Qo A (GO n) Tryz.f174 [.own] (GP (RX n)):=.mk
end
theorem aeb(n:Nat):OK A 174 (GP (GQ n)):=ak (aec n) Tryz.func174 (ax (aed n)<|ax (aee n) ag) oz
def GT(g:qJ A):Entry A:=ai [] ⟨[(.p iA),(.p aP),(.p kI)],[],0⟩ fun d k=>g d.1.1 d.1.2.1 d.1.2.2.1 (fun r0 r1=>k (.tup [.p iA r0,.p kI r1]) [])
theorem aeg(g169:kC A)(n:Nat):Qo A (Ev [(169,zR g169)] [] [] []) Tryz.f175 [.pure,.pure] (GT (GU g169 n)):=.mk
theorem aef(n:Nat):OK A 175 (GT (Ab n)):=ak (aeg _ n) Tryz.func175 ag (oc (RH n) oz)
def Kl(g:kY A):Entry A:=ai [] ⟨[(.p kI)],[],0⟩ fun d k=>g d.1.1 (fun r0=>k (.p .str r0) [])
theorem ahB(n:Nat):Qo A (Ev [] [] [] []) Tryz.f39 [.pure] (Kl (TT n)):=.mk
theorem ahA(n:Nat):OK A 39 (Kl (BG n)):=ak (ahB n) Tryz.func39 ag oz
def IK{R:Type}(F:ByteArray→Int→Option A→Option A→R→Int→Option A)(k:KK A)(d:LSh.den ⟨[(0,(.p .str)),(0,(.p kB)),(3,(.p kI))],11,[],0⟩)(t:R):Option A:=F d.1.1 d.1.2.1 (k .ret ⟨an 4 ((.p .bool true)::an 12 []),[],0⟩) (k (.exit 0) ⟨an 17 [],[],0⟩) t d.1.2.2.1
def II(g:kM A):Entry A:=ai [] ⟨[(.p .str),(.p kB)],[],0⟩ fun d k=>g d.1.1 d.1.2.1 (fun r0=>k (.p .bool r0) [])
section
variable(n:Nat)
noncomputable def SS:Env A:=Ev [] [(0,au (dl 17 [0,1,5]) (IK (AY n)) n)] [] []
theorem afS:Lst A (SS n) Tryz.f235 0 (dl 17 [4]) (IK (ST n)) (IK (AY n)) fun r d i=>r ((d.1.1,d.1.2.1,i,d.1.2.2.2),d.2):=.mk
theorem afR:Qo A (SS n) Tryz.f235 [.pure] (II (SU n)):=.mk
end
theorem afQ(n:Nat):OK A 235 (II (IJ n)):=ak (afR n) Tryz.func235 (ax (afS n) ag) oz
def IL(g:kN A):Entry A:=ai [] ⟨[(.p eX),(.p kB)],[],0⟩ fun d k=>g d.1.1 d.1.2.1 (fun r0=>k (.p .bool r0) [])
theorem afU(n:Nat):Qo A (Ev [] [] [] []) Tryz.f236 [.pure] (IL (SV n)):=.mk
theorem afT(n:Nat):OK A 236 (IL (IM n)):=ak (afU n) Tryz.func236 ag oz
def IP{R:Type}(F:tJ→Int→Option A→Option A→R→Int→Option A)(k:KK A)(d:LSh.den ⟨[(60,(.p (.sl mK))),(0,(.p kI)),(0,(.p kI))],36,[],0⟩)(t:R):Option A:=F d.1.1 d.1.2.1 (k .ret ⟨an 4 ((.p .bool false)::an 94 []),[],0⟩) (k (.exit 1) ⟨an 99 [],[],0⟩) t d.1.2.2.1
def IN(g:kO A):Entry A:=ai [] ⟨[(.p eX),(.p kB)],[],0⟩ fun d k=>g d.1.1 d.1.2.1 (fun r0=>k (.p .bool r0) [])
section
variable(n:Nat)
noncomputable def SW:Env A:=Ev [] [(0,au (dl 99 [60,61,62]) (IP (AZ n)) n)] [] []
theorem afX:Lst A (SW n) Tryz.f237 0 (dl 99 [4]) (IP (SX n)) (IP (AZ n)) fun r d t62=>r ((d.1.1,d.1.2.1,t62,d.1.2.2.2),d.2):=.mk
theorem afW:Qo A (SW n) Tryz.f237 [.pure] (IN (SY n)):=.mk
end
theorem afV(n:Nat):OK A 237 (IN (jg n)):=ak (afW n) Tryz.func237 (ax (afX n) ag) oz
def JG{R:Type}(F:(List (List Int))→Int→(cJ A)→R→ByteArray→Int→Option A)(k:KK A)(d:LSh.den ⟨[(3,(.p .str)),(6,(.p (.sl aa))),(0,(.p kI)),(0,(.p kI))],9,[],0⟩)(t:R):Option A:=F d.1.2.1 d.1.2.2.1 (fun z0=>k (.exit 0) ⟨.any::.any::.any::(.p .str z0)::an 18 [],[],0⟩) t d.1.1 d.1.2.2.2.1
def JF(g:kQ A):Entry A:=ai [] ⟨[(.p (.sl aa))],[],0⟩ fun d k=>g d.1.1 (fun r0=>k (.p .str r0) [])
section
variable(g105:eE A)(n:Nat)
noncomputable def To:Env A:=Ev [(105,sf g105)] [(0,au (dl 22 [3,10,11,12]) (JG (Br g105 n)) n)] [] []
theorem agU:Lst A (To g105 n) Tryz.f277 0 (dl 22 [3]) (JG (Tp g105 n)) (JG (Br g105 n)) fun r d out t12=>r ((out,d.1.2.1,d.1.2.2.1,t12,d.1.2.2.2.2),d.2):=.mk
theorem agT:Qo A (To g105 n) Tryz.f277 [.pure] (JF (Tq g105 n)):=.mk
end
theorem agS(n:Nat):OK A 277 (JF (pe n)):=ak (agT _ n) Tryz.func277 (ax (agU _ n) ag) (oc (yH n) oz)
def JH(g:kR A):Entry A:=ai [] ⟨[(.p .str)],[],0⟩ fun d k=>g d.1.1 (fun r0=>k (.p .str r0) [])
theorem agW(g105:eE A)(n:Nat):Qo A (Ev [(105,sf g105)] [] [] []) Tryz.f278 [.pure] (JH (Ts g105 n)):=.mk
theorem agV(n:Nat):OK A 278 (JH (Tr n)):=ak (agW _ n) Tryz.func278 ag (oc (yH n) oz)
def IT{R:Type}(F:rB→Int→(cJ A)→R→ByteArray→Int→Option A)(k:KK A)(d:LSh.den ⟨[(5,(.p .str)),(24,(.p (.sl ci))),(0,(.p kI)),(0,(.p kI))],77,[],0⟩)(t:R):Option A:=F d.1.2.1 d.1.2.2.1 (fun z0=>k (.exit 1) ⟨an 5 ((.p .str z0)::an 104 []),[],0⟩) t d.1.1 d.1.2.2.2.1
def IU{R:Type}(F:tJ→Int→(cJ A)→R→ByteArray→Int→Option A)(k:KK A)(d:LSh.den ⟨[(8,(.p .str)),(56,(.p (.sl mK))),(0,(.p kI)),(0,(.p kI))],42,[],0⟩)(t:R):Option A:=F d.1.2.1 d.1.2.2.1 (fun z0=>k (.exit 3) ⟨an 8 ((.p .str z0)::an 101 []),[],0⟩) t d.1.1 d.1.2.2.2.1
def IR(g:kP A):Entry A:=ai [] ⟨[(.p eX),(.p kB)],[],0⟩ fun d k=>g d.1.1 d.1.2.1 (fun r0=>k (.p .str r0) [])
section
variable(g277:kQ A)(g105:eE A)(g79:iU A)(g278:kR A)(g115:gk A)(n:Nat)
noncomputable def IQ:Env A:=Ev [(277,JF g277),(105,sf g105),(79,Cb g79),(278,JH g278),(115,uo g115)] [(0,au (dl 110 [5,30,31,32]) (IT (A0 g277 g105 g79 g278 g115 n)) n),(1,au (dl 110 [8,65,66,67]) (IU (A1 g277 g105 g79 g278 g115 n)) n)] [] []
theorem af1:Lst A (IQ g277 g105 g79 g278 g115 n) Tryz.f238 1 (dl 110 [8]) (IU (S0 g277 g105 g79 g278 g115 n)) (IU (A1 g277 g105 g79 g278 g115 n)) fun r d out t67=>r ((out,d.1.2.1,d.1.2.2.1,t67,d.1.2.2.2.2),d.2):=.mk
theorem af0:Lst A (IQ g277 g105 g79 g278 g115 n) Tryz.f238 0 (dl 110 [5]) (IT (SZ g277 g105 g79 g278 g115 n)) (IT (A0 g277 g105 g79 g278 g115 n)) fun r d out t32=>r ((out,d.1.2.1,d.1.2.2.1,t32,d.1.2.2.2.2),d.2):=.mk
theorem afZ:Qo A (IQ g277 g105 g79 g278 g115 n) Tryz.f238 [.pure] (IR (IS g277 g105 g79 g278 g115 n)):=.mk
end
theorem afY(n:Nat):OK A 238 (IR (iw n)):=ak (afZ _ _ _ _ _ n) Tryz.func238 (ax (af0 _ _ _ _ _ n)<|ax (af1 _ _ _ _ _ n) ag) (oc (agS n)<|oc (yH n)<|oc (Um n)<|oc (agV n)<|oc (E5 n) oz)
def GY{R:Type}(F:ByteArray→ByteArray→no→Option A→Option A→R→Int→Option A)(k:KK A)(d:LSh.den ⟨[(1,(.ptr 0)),(2,(.p .str)),(0,(.p .str)),(0,(.p kI))],52,[(.var 65 eX (.p eX))],0⟩)(t:R):Option A:=F d.1.2.1 d.1.2.2.1 d.2.1 (k .ret ⟨.any::(.ptr 0 [])::(.p .str ByteArray.empty)::(.p kI 3)::(.p .str d.1.2.1)::an 54 [],[.var 65 eX (.p eX d.2.1)],0⟩) (k (.exit 0) ⟨.any::(.ptr 0 [])::.any::.any::(.p .str d.1.2.1)::an 54 [],[.var 65 eX (.p eX d.2.1)],0⟩) t d.1.2.2.2.1
def GZ{R:Type}(F:ByteArray→no→(cJ A)→(cJ A)→R→ByteArray→Int→Option A)(k:KK A)(d:LSh.den ⟨[(1,(.ptr 0)),(2,(.p .str)),(2,(.p .str)),(0,(.p kI))],50,[(.var 65 eX (.p eX))],0⟩)(t:R):Option A:=F d.1.2.1 d.2.1 (fun z2=>k .ret ⟨.any::.any::(.p .str ByteArray.empty)::(.p kI 4)::.any::.any::.any::(.p .str z2)::an 51 [],[],0⟩) (fun z0=>k (.exit 2) ⟨an 7 ((.p .str z0)::an 51 []),[],0⟩) t d.1.2.2.1 d.1.2.2.2.1
def GW(g:qK A):Entry A:=ai [] ⟨[(.p eX)],[],0⟩ fun d k=>g d.1.1 (fun r0 r1=>k (.tup [.p .str r0,.p kI r1]) [])
section
variable(g39:kY A)(g235:kM A)(g236:kN A)(g237:kO A)(g238:kP A)(n:Nat)
noncomputable def GV:Env A:=Ev [(39,Kl g39),(235,II g235),(236,IL g236),(237,IN g237),(238,IR g238)] [(0,au (dl 59 [1,4,5,6]) (GY (uQ g39 g235 g236 g237 g238 n)) n),(1,au (dl 59 [1,4,7,8]) (GZ (jL g39 g235 g236 g237 g238 n)) n)] [] []
theorem aek:Lst A (GV g39 g235 g236 g237 g238 n) Tryz.f176 1 (dl 59 [2,3,7]) (GZ (Ac g39 g235 g236 g237 g238 n)) (GZ (jL g39 g235 g236 g237 g238 n)) fun r d out i=>r (((),d.1.2.1,out,i,d.1.2.2.2.2),d.2):=.mk
theorem aej:Lst A (GV g39 g235 g236 g237 g238 n) Tryz.f176 0 (dl 59 [1,2,3,4]) (GY (RY g39 g235 g236 g237 g238 n)) (GY (uQ g39 g235 g236 g237 g238 n)) fun r d i=>r (((),d.1.2.1,d.1.2.2.1,i,d.1.2.2.2.2),d.2):=.mk
theorem aei:Qo A (GV g39 g235 g236 g237 g238 n) Tryz.f176 [.pure,.pure] (GW (GX g39 g235 g236 g237 g238 n)):=.mk
end
theorem aeh(n:Nat):OK A 176 (GW (Ad n)):=ak (aei _ _ _ _ _ n) Tryz.func176 (ax (aej _ _ _ _ _ n)<|ax (aek _ _ _ _ _ n) ag) (oc (ahA n)<|oc (afQ n)<|oc (afT n)<|oc (afV n)<|oc (afY n) oz)
def Fc{R:Type}(F:Int→Int→eO→ef→dt→Int→rN→lL→ye→Int→(List Int)→(List Int)→ByteArray→ByteArray→Y2→rB→tJ→cP→(List (List Int))→(List Int)→(bx A)→R→Int→(List (List Int))→Option A)(k:KK A)(d:LSh.den ⟨[(1,(.p kI)),(0,(.ptr 0)),(1,(.ptr 1)),(1,(.ptr 3)),(0,(.ptr 4)),(0,(.ptr 8)),(3,(.row 9)),(72,(.row 10)),(0,(.p kI)),(0,(.p kI))],63,[(.var 92 bU (.p bU)),(.var 92 bU (.pr (.p bT) (.pr (.p dv) (.pr (.p kI) (.pr (.row 2) (.p (.pair (.sl iC) .unit))))))),(.row 225 eK),(.var 225 eK (.p eK)),(.var 65 eX (.pr (.p kI) (.pr (.row 5) (.pr (.p aa) (.pr (.row 6) (.pr (.p aa) (.pr (.p .str) (.pr (.p .str) (.pr (.row 7) (.p (.pair kL (.pair kI (.pair kI .unit))))))))))))),(.row 23 aa),(.row 79 ci),(.row 205 mK),(.var 217 aP (.p aP)),(.row 23 aa),(.row 3 kI)],0⟩)(t:R):Option A:=F d.1.1 d.1.2.2.2.2.2.2.2.2.1 d.2.1 d.2.2.1.1 d.2.2.1.2.1 d.2.2.1.2.2.1 d.2.2.1.2.2.2.2 d.2.2.2.1 d.2.2.2.2.1 d.2.2.2.2.2.1.1 d.2.2.2.2.2.1.2.2.1 d.2.2.2.2.2.1.2.2.2.2.1 d.2.2.2.2.2.1.2.2.2.2.2.1 d.2.2.2.2.2.1.2.2.2.2.2.2.1 d.2.2.2.2.2.1.2.2.2.2.2.2.2.2 d.2.2.2.2.2.2.2.1 d.2.2.2.2.2.2.2.2.1 d.2.2.2.2.2.2.2.2.2.1 d.2.2.2.2.2.2.2.2.2.2.1 d.2.2.2.2.2.2.2.2.2.2.2.1 (fun z14=>k (.exit 0) ⟨.any::(.p kI d.1.1)::(.ptr 0 [])::.any::(.ptr 1 [])::.any::(.ptr 3 [])::(.ptr 4 [])::(.ptr 8 [])::an 142 [],[.var 92 bU (.p bU d.2.1),.var 92 bU (.pr (.p bT d.2.2.1.1) (.pr (.p dv d.2.2.1.2.1) (.pr (.p kI d.2.2.1.2.2.1) (.pr (.row 2) (.p (.pair (.sl iC) .unit) d.2.2.1.2.2.2.2))))),.row 225 eK d.2.2.2.1,.var 225 eK (.p eK d.2.2.2.2.1),.var 65 eX (.pr (.p kI d.2.2.2.2.2.1.1) (.pr (.row 5) (.pr (.p aa d.2.2.2.2.2.1.2.2.1) (.pr (.row 6) (.pr (.p aa d.2.2.2.2.2.1.2.2.2.2.1) (.pr (.p .str d.2.2.2.2.2.1.2.2.2.2.2.1) (.pr (.p .str d.2.2.2.2.2.1.2.2.2.2.2.2.1) (.pr (.row 7) (.p (.pair kL (.pair kI (.pair kI .unit))) d.2.2.2.2.2.1.2.2.2.2.2.2.2.2))))))))),.row 23 aa z14,.row 79 ci d.2.2.2.2.2.2.2.1,.row 205 mK d.2.2.2.2.2.2.2.2.1,.var 217 aP (.p aP d.2.2.2.2.2.2.2.2.2.1)],0⟩) t d.1.2.2.2.2.2.2.2.2.2.1 d.2.2.2.2.2.2.1
def Fa(g:qr A):Entry A:=ai [] ⟨[(.p bU),(.p kI)],[],0⟩ fun d k=>g d.1.1 d.1.2.1 (fun r0 r1=>k (.tup [.p bU r0,.row 0]) [.row 296 mN r1])
section
variable(g169:kC A)(g172:qG A)(g171:qF A)(g170:qE A)(g173:qH A)(g174:qI A)(g175:qJ A)(g176:qK A)(g118:iL A)(n:Nat)
noncomputable def QQ:Env A:=Ev [(169,zR g169),(172,GI g172),(171,GF g171),(170,GC g170),(173,GM g173),(174,GP g174),(175,GT g175),(176,GW g176),(118,yW g118)] [(0,au (dl 151 [1,2,4,6,7,8,12,85,86,87]) (Fc (l6 g169 g172 g171 g170 g173 g174 g175 g176 g118 n)) n)] [] []
theorem acr:Lst A (QQ g169 g172 g171 g170 g173 g174 g175 g176 g118 n) Tryz.f117 0 (dl 151 [1,2,4,6,7,8]) (Fc (QR g169 g172 g171 g170 g173 g174 g175 g176 g118 n)) (Fc (l6 g169 g172 g171 g170 g173 g174 g175 g176 g118 n)) fun r d t87 mba=>r ((d.1.1,(),(),(),(),(),(),(),d.1.2.2.2.2.2.2.2.2.1,t87,d.1.2.2.2.2.2.2.2.2.2.2),(d.2.1,d.2.2.1,d.2.2.2.1,d.2.2.2.2.1,d.2.2.2.2.2.1,mba,d.2.2.2.2.2.2.2)):=.mk
theorem acq:Qo A (QQ g169 g172 g171 g170 g173 g174 g175 g176 g118 n) Tryz.f117 [.pure,.own] (Fa (Fb g169 g172 g171 g170 g173 g174 g175 g176 g118 n)):=.mk
end
theorem acp(n:Nat):OK A 117 (Fa (ur n)):=ak (acq _ _ _ _ _ _ _ _ _ n) Tryz.func117 (ax (acr _ _ _ _ _ _ _ _ _ n) ag) (oc (RH n)<|oc (ad5 n)<|oc (ad2 n)<|oc (adZ n)<|oc (ad8 n)<|oc (aeb n)<|oc (aef n)<|oc (aeh n)<|oc (QS n) oz)
def LL{R:Type}(F:Int→ef→dt→Int→rN→lL→(tL A)→R→Int→eO→gz→Option A)(k:KK A)(d:LSh.den ⟨[(1,(.p kI)),(0,(.ptr 0)),(1,(.ptr 1)),(2,(.row 3)),(0,(.p kI))],50,[(.var 92 bU (.p bU)),(.var 92 bU (.pr (.p bT) (.pr (.p dv) (.pr (.p kI) (.pr (.row 2) (.p (.pair (.sl iC) .unit))))))),(.row 225 eK),(.row 296 mN)],0⟩)(t:R):Option A:=F d.1.1 d.2.2.1.1 d.2.2.1.2.1 d.2.2.1.2.2.1 d.2.2.1.2.2.2.2 d.2.2.2.1 (fun z0 z6=>k (.exit 0) ⟨.any::.any::(.ptr 0 [])::.any::(.ptr 1 [])::.any::.any::(.row 3)::an 51 [],[.var 92 bU (.p bU z0),.var 92 bU (.pr (.p bT d.2.2.1.1) (.pr (.p dv d.2.2.1.2.1) (.pr (.p kI d.2.2.1.2.2.1) (.pr (.row 2) (.p (.pair (.sl iC) .unit) d.2.2.1.2.2.2.2))))),.row 225 eK d.2.2.2.1,.row 296 mN z6],0⟩) t d.1.2.2.2.2.1 d.2.1 d.2.2.2.2.1
def LJ(g:xK A):Entry A:=ai [] ⟨[(.p bU),(.p kI)],[],0⟩ fun d k=>g d.1.1 d.1.2.1 (fun r0 r1 r2=>k (.tup [.p bU r0,.row 0,.p kI r1]) [.row 296 mN r2])
section
variable(g116:qq A)(g118:iL A)(g117:qr A)(n:Nat)
noncomputable def Uo:Env A:=Ev [(116,E8 g116),(118,yW g118),(117,Fa g117)] [(0,au (dl 59 [1,2,4,7,8]) (LL (pN g116 g118 g117 n)) n)] [] []
theorem aiS:Lst A (Uo g116 g118 g117 n) Tryz.f80 0 (dl 59 [2,4,7]) (LL (Cc g116 g118 g117 n)) (LL (pN g116 g118 g117 n)) fun r d i x out=>r ((d.1.1,(),(),(),i,d.1.2.2.2.2.2),(x,d.2.2.1,d.2.2.2.1,out,d.2.2.2.2.2)):=.mk
theorem aiR:Qo A (Uo g116 g118 g117 n) Tryz.f80 [.pure,.own,.pure] (LJ (LK g116 g118 g117 n)):=.mk
end
theorem aiQ(n:Nat):OK A 80 (LJ (Cd n)):=ak (aiR _ _ _ n) Tryz.func80 (ax (aiS _ _ _ n) ag) (oc (acn n)<|oc (QS n)<|oc (acp n) oz)
def G0(g:xh A):Entry A:=ai [] ⟨[(.p (.sl cr)),(.p .str),(.p kI)],[],0⟩ fun d k=>g d.1.1 d.1.2.1 d.1.2.2.1 (fun r0 r1=>k (.tup [.p (.sl cr) r0,.p kI r1]) [])
theorem aem(n:Nat):Qo A (Ev [] [] [] []) Tryz.f177 [.pure,.pure] (G0 (Ha n)):=.mk
theorem ael(n:Nat):OK A 177 (G0 (Ae n)):=ak (aem n) Tryz.func177 ag oz
def Hb(g:xi A):Entry A:=ai [] ⟨[(.p db),(.p kI),(.p (.sl cr))],[],0⟩ fun d k=>g d.1.1 d.1.2.1 d.1.2.2.1 (fun r0=>k (.p db r0) [])
theorem aeo(n:Nat):Qo A (Ev [] [] [] []) Tryz.f178 [.pure] (Hb (Hd n)):=.mk
theorem aen(n:Nat):OK A 178 (Hb (Hc n)):=ak (aeo n) Tryz.func178 ag oz
def Fe(g:qs A):Entry A:=ai [] ⟨[(.p db),(.p kI),(.p .str)],[],0⟩ fun d k=>g d.1.1 d.1.2.1 d.1.2.2.1 (fun r0=>k (.p db r0) [])
theorem acv(g177:xh A)(g178:xi A)(n:Nat):Qo A (Ev [(177,G0 g177),(178,Hb g178)] [] [] []) Tryz.f119 [.pure] (Fe (Ff g177 g178 n)):=.mk
theorem acu(n:Nat):OK A 119 (Fe (ut n)):=ak (acv _ _ n) Tryz.func119 ag (oc (ael n)<|oc (aen n) oz)
def LP{R:Type}(F:gz→Int→eO→Y1→(List Bool)→lH→lI→(im A)→R→Int→jw→Option A)(k:KK A)(d:LSh.den ⟨[(2,(.ptr 0)),(1,(.ptr 1)),(2,(.p (.sl mN))),(0,(.p kI)),(0,(.p kI))],23,[(.var 97 db (.p db)),(.var 97 db (.pr (.p bU) (.pr (.row 2) (.pr (.row 3) (.pr (.row 4) (.p (.pair kI (.pair kI .unit)))))))),(.row 4 .bool),(.row 156 fL),(.row 358 (.sl cr))],0⟩)(t:R):Option A:=F d.1.2.2.1 d.1.2.2.2.1 d.2.2.1.1 d.2.2.1.2.2.2.2 d.2.2.2.1 d.2.2.2.2.1 d.2.2.2.2.2.1 (fun z0=>k (.exit 0) ⟨.any::.any::(.ptr 0 [])::.any::(.ptr 1 [])::an 28 [],[.var 97 db (.p db z0),.var 97 db (.pr (.p bU d.2.2.1.1) (.pr (.row 2) (.pr (.row 3) (.pr (.row 4) (.p (.pair kI (.pair kI .unit)) d.2.2.1.2.2.2.2))))),.row 4 .bool d.2.2.2.1,.row 156 fL d.2.2.2.2.1,.row 358 (.sl cr) d.2.2.2.2.2.1],0⟩) t d.1.2.2.2.2.1 d.2.1
def LM(g:xL A):Entry A:=ai [] ⟨[(.p db),(.p (.sl mN))],[],0⟩ fun d k=>g d.1.1 d.1.2.1 (fun r0=>k (.p db r0) [])
section
variable(g119:qs A)(n:Nat)
noncomputable def Up:Env A:=Ev [(119,Fe g119)] [(0,au (dl 33 [2,4,7,8,9]) (LP (pO g119 n)) n)] [] []
theorem aiV:Lst A (Up g119 n) Tryz.f81 0 (dl 33 [2,4]) (LP (Ce g119 n)) (LP (pO g119 n)) fun r d t9 w=>r (((),(),d.1.2.2.1,d.1.2.2.2.1,t9,d.1.2.2.2.2.2),(w,d.2.2)):=.mk
theorem aiU:Qo A (Up g119 n) Tryz.f81 [.pure] (LM (LO g119 n)):=.mk
end
theorem aiT(n:Nat):OK A 81 (LM (LN n)):=ak (aiU _ n) Tryz.func81 (ax (aiV _ n) ag) (oc (acu n) oz)
def KH(g:k9 A):Entry A:=ai [] ⟨[(.p db),(.p kI)],[],0⟩ fun d k=>g d.1.1 d.1.2.1 (fun r0=>k (.p db r0) [])
theorem ahV(g80:xK A)(g81:xL A)(n:Nat):Qo A (Ev [(80,LJ g80),(81,LM g81)] [] [] []) Tryz.f48 [.pure] (KH (KI g80 g81 n)):=.mk
theorem ahU(n:Nat):OK A 48 (KH (vA n)):=ak (ahV _ _ n) Tryz.func48 ag (oc (aiQ n)<|oc (aiT n) oz)
def IY{R:Type}(F:(List Int)→Int→tO→eO→Y1→(List Bool)→lH→lI→Option A→Option A→R→Int→Option A)(k:KK A)(d:LSh.den ⟨[(1,(.ptr 0)),(0,(.ptr 1)),(52,(.p (.sl kI))),(0,(.p kI)),(0,(.p kI))],78,[(.var 102 du (.p du)),(.var 97 db (.pr (.p bU) (.pr (.row 2) (.pr (.row 3) (.pr (.row 4) (.p (.pair kI (.pair kI .unit)))))))),(.row 4 .bool),(.row 156 fL),(.row 358 (.sl cr))],0⟩)(t:R):Option A:=F d.1.2.2.1 d.1.2.2.2.1 d.2.1 d.2.2.1.1 d.2.2.1.2.2.2.2 d.2.2.2.1 d.2.2.2.2.1 d.2.2.2.2.2.1 (k .ret ⟨.any::(.ptr 0 [])::(.ptr 1 [])::(.p kI 1)::an 132 [],[.var 102 du (.p du d.2.1),.var 97 db (.pr (.p bU (((0,(0,(0,(0,(0,((0,((List.replicate 32 (0:Int)),((List.replicate 32 (0:Int)),(0,(0,(0,())))))),([],()))))))),(0,(0,(0,(0,([],())))))),(((0,(0,(0,(0,(0,((0,((List.replicate 32 (0:Int)),((List.replicate 32 (0:Int)),(0,(0,(0,())))))),([],()))))))),([],())),(0,([],([],())))))) (.pr (.row 2) (.pr (.row 3) (.pr (.row 4) (.p (.pair kI (.pair kI .unit)) (0,(0,()))))))),.row 4 .bool [],.row 156 fL [],.row 358 (.sl cr) []],0⟩) (k (.exit 0) ⟨.any::(.ptr 0 [])::(.ptr 1 [])::an 133 [],[.var 102 du (.p du d.2.1),.var 97 db (.pr (.p bU d.2.2.1.1) (.pr (.row 2) (.pr (.row 3) (.pr (.row 4) (.p (.pair kI (.pair kI .unit)) d.2.2.1.2.2.2.2))))),.row 4 .bool d.2.2.2.1,.row 156 fL d.2.2.2.2.1,.row 358 (.sl cr) d.2.2.2.2.2.1],0⟩) t d.1.2.2.2.2.1
def IZ{R:Type}(F:(List Int)→Int→tO→eO→Y1→(List Bool)→lH→lI→eO→Y1→(tP A)→(Du A)→R→Int→(List Bool)→lH→lI→Option A)(k:KK A)(d:LSh.den ⟨[(1,(.ptr 0)),(0,(.ptr 1)),(3,(.ptr 5)),(72,(.p (.sl kI))),(0,(.p kI)),(0,(.p kI))],54,[(.var 102 du (.p du)),(.var 97 db (.pr (.p bU) (.pr (.row 2) (.pr (.row 3) (.pr (.row 4) (.p (.pair kI (.pair kI .unit)))))))),(.row 4 .bool),(.row 156 fL),(.row 358 (.sl cr)),(.var 97 db (.pr (.p bU) (.pr (.row 6) (.pr (.row 7) (.pr (.row 8) (.p (.pair kI (.pair kI .unit)))))))),(.row 4 .bool),(.row 156 fL),(.row 358 (.sl cr))],0⟩)(t:R):Option A:=F d.1.2.2.2.1 d.1.2.2.2.2.1 d.2.1 d.2.2.1.1 d.2.2.1.2.2.2.2 d.2.2.2.1 d.2.2.2.2.1 d.2.2.2.2.2.1 d.2.2.2.2.2.2.1.1 d.2.2.2.2.2.2.1.2.2.2.2 (fun z0 z9 z10 z11=>k .ret ⟨.any::(.ptr 0 [])::(.ptr 1 [])::(.p kI z0)::.any::.any::(.ptr 5 [])::an 129 [],[.var 102 du (.p du d.2.1),.var 97 db (.pr (.p bU (((0,(0,(0,(0,(0,((0,((List.replicate 32 (0:Int)),((List.replicate 32 (0:Int)),(0,(0,(0,())))))),([],()))))))),(0,(0,(0,(0,([],())))))),(((0,(0,(0,(0,(0,((0,((List.replicate 32 (0:Int)),((List.replicate 32 (0:Int)),(0,(0,(0,())))))),([],()))))))),([],())),(0,([],([],())))))) (.pr (.row 2) (.pr (.row 3) (.pr (.row 4) (.p (.pair kI (.pair kI .unit)) (0,(0,()))))))),.row 4 .bool [],.row 156 fL [],.row 358 (.sl cr) [],.var 97 db (.pr (.p bU d.2.2.2.2.2.2.1.1) (.pr (.row 6) (.pr (.row 7) (.pr (.row 8) (.p (.pair kI (.pair kI .unit)) d.2.2.2.2.2.2.1.2.2.2.2))))),.row 4 .bool z9,.row 156 fL z10,.row 358 (.sl cr) z11],0⟩) (fun z8 z9 z10=>k (.exit 2) ⟨.any::(.ptr 0 [])::(.ptr 1 [])::.any::.any::.any::(.ptr 5 [])::an 129 [],[.var 102 du (.p du d.2.1),.var 97 db (.pr (.p bU d.2.2.1.1) (.pr (.row 2) (.pr (.row 3) (.pr (.row 4) (.p (.pair kI (.pair kI .unit)) d.2.2.1.2.2.2.2))))),.row 4 .bool d.2.2.2.1,.row 156 fL d.2.2.2.2.1,.row 358 (.sl cr) d.2.2.2.2.2.1,.var 97 db (.pr (.p bU d.2.2.2.2.2.2.1.1) (.pr (.row 6) (.pr (.row 7) (.pr (.row 8) (.p (.pair kI (.pair kI .unit)) d.2.2.2.2.2.2.1.2.2.2.2))))),.row 4 .bool z8,.row 156 fL z9,.row 358 (.sl cr) z10],0⟩) t d.1.2.2.2.2.2.1 d.2.2.2.2.2.2.2.1 d.2.2.2.2.2.2.2.2.1 d.2.2.2.2.2.2.2.2.2.1
def IW(g:xv A):Entry A:=ai [] ⟨[(.p du)],[],0⟩ fun d k=>g d.1.1 (fun r0 r1=>k (.tup [.p db r0,.p kI r1]) [])
section
variable(g44:k6 A)(g45:k7 A)(g47:fu A)(g46:k8 A)(g48:k9 A)(n:Nat)
noncomputable def IV:Env A:=Ev [(44,Kv g44),(45,Kz g45),(47,vz g47),(46,KC g46),(48,KH g48)] [(0,au (dl 136 [1,2,55,56,57]) (IY (oY g44 g45 g47 g46 g48 n)) n),(1,au (dl 136 [1,2,6,79,80,81]) (IZ (oZ g44 g45 g47 g46 g48 n)) n)] [] []
theorem af5:Lst A (IV g44 g45 g47 g46 g48 n) Tryz.f23 1 (dl 136 [1,2,3,6]) (IZ (A3 g44 g45 g47 g46 g48 n)) (IZ (oZ g44 g45 g47 g46 g48 n)) fun r d t81 wba wbba wbbba=>r (((),(),(),d.1.2.2.2.1,d.1.2.2.2.2.1,t81,d.1.2.2.2.2.2.2),(d.2.1,d.2.2.1,d.2.2.2.1,d.2.2.2.2.1,d.2.2.2.2.2.1,d.2.2.2.2.2.2.1,wba,wbba,wbbba,d.2.2.2.2.2.2.2.2.2.2)):=.mk
theorem af4:Lst A (IV g44 g45 g47 g46 g48 n) Tryz.f23 0 (dl 136 [1,2,3]) (IY (A2 g44 g45 g47 g46 g48 n)) (IY (oY g44 g45 g47 g46 g48 n)) fun r d t57=>r (((),(),d.1.2.2.1,d.1.2.2.2.1,t57,d.1.2.2.2.2.2),d.2):=.mk
theorem af3:Qo A (IV g44 g45 g47 g46 g48 n) Tryz.f23 [.pure,.pure] (IW (IX g44 g45 g47 g46 g48 n)):=.mk
end
theorem af2(n:Nat):OK A 23 (IW (A4 n)):=ak (af3 _ _ _ _ _ n) Tryz.func23 (ax (af4 _ _ _ _ _ n)<|ax (af5 _ _ _ _ _ n) ag) (oc (ahJ n)<|oc (ahN n)<|oc (KF n)<|oc (ahQ n)<|oc (ahU n) oz)
def Lt(g:G6 A):Entry A:=ai [] ⟨[(.p jX)],[],0⟩ fun d k=>g d.1.1 (fun r0=>k (.p .bool r0) [])
theorem aiB(g22:qR A)(g24:xx A)(g23:xv A)(n:Nat):Qo A (Ev [(22,AT g22),(24,Jb g24),(23,IW g23)] [] [] []) Tryz.f6 [.pure] (Lt (Lu g22 g24 g23 n)):=.mk
theorem aiA(n:Nat):OK A 6 (Lt (B7 n)):=ak (aiB _ _ _ n) Tryz.func6 ag (oc (SE n)<|oc (age n)<|oc (af2 n) oz)
def zm(g:kq A):Entry A:=ai [] ⟨[(.p kI)],[],0⟩ fun d k=>g d.1.1 (fun r0=>k (.p .str r0) [])
theorem ac0(n:Nat):Qo A (Ev [] [] [] []) Tryz.f142 [.pure] (zm (Q9 n)):=.mk
theorem Q8(n:Nat):OK A 142 (zm (zn n)):=ak (ac0 n) Tryz.func142 ag oz
def zo(g:kr A):Entry A:=ai [] ⟨[(.p kI),(.p kI)],[],0⟩ fun d k=>g d.1.1 d.1.2.1 (fun r0=>k (.p .bool r0) [])
theorem ac1(n:Nat):Qo A (Ev [] [] [] []) Tryz.f143 [.pure] (zo (Rb n)):=.mk
theorem Ra(n:Nat):OK A 143 (zo (uC n)):=ak (ac1 n) Tryz.func143 ag oz
def Rf:Shape:=⟨[(.ptr 0),(.p kI)],[(.var 266 eW (.p eW))],1⟩
def FO(g:ku A):Entry A:=cu [true,false] Rf fun d k=>g d.1.2.1 d.2.1 (fun r0=>k (.p .bool r0) [])
theorem ac4(n:Nat):Qr A (Ev [] [] [] []) Tryz.f148 [.pure] (FO (Re n)):=.mk
theorem ac3(n:Nat):OK A 148 (FO (Rc n)):=cR (ac4 n) Tryz.func148 ag oz
def FQ(g:kw A):Entry A:=cu [true,false] ⟨[(.vp eW),(.p kI)],[],0⟩ fun d k=>g d.1.1 d.1.2.1 (fun r0=>k (.p .bool r0) [])
theorem ac6(n:Nat):Qr A (Ev [] [] [] []) Tryz.f148 [.pure] (FQ (Rg n)):=.mk
theorem ac5(n:Nat):OK A 148 (FQ (FS n)):=cR (ac6 n) Tryz.func148 ag oz
def zp(g:gm A):Entry A:=ai [] ⟨[],[],0⟩ fun d k=>g (fun r0 r1=>k (.ptr 0 []) [.var 406 ct (.pr (.row 1) (.p .unit r0)),.row 5 kB r1])
theorem ac7(n:Nat):Qo A (Ev [] [] [] []) Tryz.f149 [.own] (zp (Ri n)):=.mk
theorem Rh(n:Nat):OK A 149 (zp (ol n)):=ak (ac7 n) Tryz.func149 ag oz
def sv(g:dF A):Entry A:=ai [true,false,false] ⟨[(.ptr 0),(.p kL),(.p kI)],[(.var 406 ct (.pr (.row 1) (.p .unit))),(.row 5 kB)],2⟩ fun d k=>g d.1.2.1 d.1.2.2.1 d.2.1.2 d.2.2.1 (fun r0 r1=>k (.tup []) [.var 406 ct (.pr (.row 2) (.p .unit r0)),.gone,.row 5 kB r1])
theorem ada(g210:qP A)(n:Nat):Qo A (Ev [(210,AG g210)] [] [] []) Tryz.f150 [] (sv (FV g210 n)):=.mk
theorem zq(n:Nat):OK A 150 (sv (fF n)):=ak (ada _ n) Tryz.func150 ag (oc (Sm n) oz)
def H5{R:Type}(F:tU→Int→Option A→Option A→R→Int→Option A)(k:KK A)(d:LSh.den ⟨[(8,(.p (.sl bk))),(0,(.p kI)),(0,(.p kI))],39,[],0⟩)(t:R):Option A:=F d.1.1 d.1.2.1 (k .ret ⟨.any::.any::(.p .bool false)::an 47 [],[],0⟩) (k (.exit 0) ⟨an 50 [],[],0⟩) t d.1.2.2.1
def AH(g:qQ A):Entry A:=ai [] ⟨[(.p (.sl bk))],[],0⟩ fun d k=>g d.1.1 (fun r0=>k (.p .bool r0) [])
section
variable(n:Nat)
noncomputable def Sn:Env A:=Ev [] [(0,au (dl 50 [8,9,10]) (H5 (AI n)) n)] [] []
theorem ae9:Lst A (Sn n) Tryz.f211 0 (dl 50 [2]) (H5 (So n)) (H5 (AI n)) fun r d t10=>r ((d.1.1,d.1.2.1,t10,d.1.2.2.2),d.2):=.mk
theorem ae8:Qo A (Sn n) Tryz.f211 [.pure] (AH (Sq n)):=.mk
end
theorem Sp(n:Nat):OK A 211 (AH (H4 n)):=ak (ae8 n) Tryz.func211 (ax (ae9 n) ag) oz
def Rl:Shape:=⟨[(.ptr 0),(.p kI)],[(.var 266 eW (.p eW))],1⟩
def FW(g:kx A):Entry A:=cu [true,false] Rl fun d k=>g d.1.2.1 d.2.1 (fun r0=>k (.p .bool r0) [])
theorem adc(g211:qQ A)(n:Nat):Qr A (Ev [(211,AH g211)] [] [] []) Tryz.f151 [.pure] (FW (Rk g211 n)):=.mk
theorem adb(n:Nat):OK A 151 (FW (Rj n)):=cR (adc _ n) Tryz.func151 ag (oc (Sp n) oz)
def FX(g:ky A):Entry A:=cu [true,false] ⟨[(.vp eW),(.p kI)],[],0⟩ fun d k=>g d.1.1 d.1.2.1 (fun r0=>k (.p .bool r0) [])
theorem adf(g211:qQ A)(n:Nat):Qr A (Ev [(211,AH g211)] [] [] []) Tryz.f151 [.pure] (FX (Rm g211 n)):=.mk
theorem ade(n:Nat):OK A 151 (FX (FY n)):=cR (adf _ n) Tryz.func151 ag (oc (Sp n) oz)
def uX(g:fq A):Entry A:=ai [true,false] ⟨[(.ptr 0),(.p kL)],[(.var 406 ct (.pr (.row 1) (.p .unit))),(.row 5 kB)],2⟩ fun d k=>g d.1.2.1 d.2.1.2 d.2.2.1 (fun r0 r1=>k (.tup []) [.var 406 ct (.pr (.row 2) (.p .unit r0)),.gone,.row 5 kB r1])
theorem afd(g150:dF A)(n:Nat):Qo A (Ev [(150,sv g150)] [] [] []) Tryz.f213 [] (uX (H9 g150 n)):=.mk
theorem H8(n:Nat):OK A 213 (uX (oP n)):=ak (afd _ n) Tryz.func213 ag (oc (zq n) oz)
def HC{R:Type}(F:(List (List Int))→Int→Unit→(ah A)→R→Int→(List Int)→Option A)(k:KK A)(d:LSh.den ⟨[(0,(.ptr 0)),(5,(.p (.sl kS))),(0,(.p kI)),(0,(.p kI))],13,[(.var 406 ct (.pr (.row 2) (.p .unit))),.gone,(.row 5 kB)],2⟩)(t:R):Option A:=F d.1.2.1 d.1.2.2.1 d.2.1.2 (fun z1=>k (.exit 0) ⟨an 22 [],[.var 406 ct (.pr (.row 2) (.p .unit d.2.1.2)),.gone,.row 5 kB z1],2⟩) t d.1.2.2.2.1 d.2.2.2.1
def sA(g:dX A):Entry A:=ai [true,false] ⟨[(.ptr 0),(.p (.sl kS))],[(.var 406 ct (.pr (.row 1) (.p .unit))),(.row 5 kB)],2⟩ fun d k=>g d.1.2.1 d.2.1.2 d.2.2.1 (fun r0 r1=>k (.tup []) [.var 406 ct (.pr (.row 2) (.p .unit r0)),.gone,.row 5 kB r1])
section
variable(n:Nat)
noncomputable def R7:Env A:=Ev [] [(0,au (dl 22 [0,6,7,8]) (HC (oJ n)) n)] [] [1]
theorem aeK:Lst A (R7 n) Tryz.f190 0 (dl 22 []) (HC (Ao n)) (HC (oJ n)) fun r d t8 wa=>r (((),d.1.2.1,d.1.2.2.1,t8,d.1.2.2.2.2),(d.2.1,(),wa,d.2.2.2.2)):=.mk
theorem aeJ:Qo A (R7 n) Tryz.f190 [] (sA (HB n)):=.mk
end
theorem Ap(n:Nat):OK A 190 (sA (iq n)):=ak (aeJ n) Tryz.func190 (ax (aeK n) ag) oz
def H7{R:Type}(F:(List (List Int))→Int→(co A)→R→Int→Unit→(List Int)→Option A)(k:KK A)(d:LSh.den ⟨[(0,(.ptr 0)),(0,(.p (.sl aa))),(9,(.p kI)),(0,(.p kI))],10,[(.var 406 ct (.pr (.row 2) (.p .unit))),.gone,(.row 5 kB)],2⟩)(t:R):Option A:=F d.1.2.1 d.1.2.2.1 (fun z0 z1=>k (.exit 0) ⟨an 23 [],[.var 406 ct (.pr (.row 2) (.p .unit z0)),.gone,.row 5 kB z1],2⟩) t d.1.2.2.2.1 d.2.1.2 d.2.2.2.1
def H6(g:kH A):Entry A:=ai [true,false] ⟨[(.ptr 0),(.p (.sl aa))],[(.var 406 ct (.pr (.row 1) (.p .unit))),(.row 5 kB)],2⟩ fun d k=>g d.1.2.1 d.2.1.2 d.2.2.1 (fun r0 r1=>k (.tup []) [.var 406 ct (.pr (.row 2) (.p .unit r0)),.gone,.row 5 kB r1])
section
variable(g213:fq A)(g190:dX A)(n:Nat)
noncomputable def Sr:Env A:=Ev [(213,uX g213),(190,sA g190)] [(0,au (dl 23 [0,1,11,12]) (H7 (AJ g213 g190 n)) n)] [] []
theorem afc:Lst A (Sr g213 g190 n) Tryz.f212 0 (dl 23 []) (H7 (Ss g213 g190 n)) (H7 (AJ g213 g190 n)) fun r d t12 wb wa=>r (((),d.1.2.1,d.1.2.2.1,t12,d.1.2.2.2.2),(((),wb),(),wa,d.2.2.2.2)):=.mk
theorem afb:Qo A (Sr g213 g190 n) Tryz.f212 [] (H6 (Su g213 g190 n)):=.mk
end
theorem afa(n:Nat):OK A 212 (H6 (uW n)):=ak (afb _ _ n) Tryz.func212 (ax (afc _ _ n) ag) (oc (H8 n)<|oc (Ap n) oz)
def mD(g:(List Int)→(ah A)→Option A):Entry A:=jo fun args k=>nD args (.sl (.int .u8)) fun a0=>g a0 (fun r0=>k (.row 0) [.row 5 (.int .u8) r0])
noncomputable def Ln:Env ZM:=⟨aN,aw,[],[],[],[],bI,obs⟩
theorem aiv:Tryz.f65.body=some (.seq (lV 46 0 "slices.go:355") (.seq (.seq (Ee 46 4 "slices.go:357" "slices.go:357" #[⟨0,.data⟩]) (.cond (.tmp 4) (.seq (lV 46 2 "slices.go:358") .ret) .skip)) (fU [1,1] (eh Tryz.f65)))):=by kernel_rfl
theorem pK(n:Nat):aI Tryz.prog aw 65 (mD (A:=A) (fX n)):=fun args hp0 k out h=>by
 cases hp0 with
 | cons b r=>cases h
 | nil=>
  obtain⟨a0,rfl,h1⟩:=ua h
  simp only[fX] at h1
  split at h1
  ·rename_i hlen
   exact⟨_,_,h1,aa7 (E:=Ln) (bz rfl bA) (aj.env rfl rfl aj.nil) follows ⟨Tryz.func65,by kernel_rfl⟩ aiv (by kernel_rfl) Tryz.underlying46 (by kernel_rfl)
    ((by kernel_rfl:bY Ln 0 (fU [1,1] (eh Tryz.f65)) ⟨[.p (.sl (.int .u8)) a0,.any,.any,.any,.any,.any,.any,.any],[],0⟩ (nR Ln Tryz.f65 [.own] fun r hp=>some (r,hp))=if (0+a0.length)*1≤140737488355328 then some (.row 0,[.row 5 (.int .u8) a0]) else none).trans (if_pos hlen)) (by kernel_rfl),fun h=>nomatch h⟩
  ·cases h1
def zu(g:gq A):Entry A:=cu [true] ⟨[(.ptr 0)],[(.var 406 ct (.pr (.row 1) (.p .unit))),(.row 5 kB)],2⟩ fun d k=>g d.2.1.2 d.2.2.1 (fun r0=>k (.row 2) [.row 5 kB r0])
theorem adk(g65:dI A)(n:Nat):Qr A (Ev [(65,mD g65)] [] [] []) Tryz.f153 [.own] (zu (F3 g65 n)):=.mk
theorem Rp(n:Nat):OK A 153 (zu (om n)):=cR (adk _ n) Tryz.func153 ag (oc (pK n) oz)
def Fy{R:Type}(F:(List Int)→(co A)→R→Int→Unit→(List Int)→Option A)(k:KK A)(d:LSh.den ⟨[(3,(.ptr 0)),(21,(.p Vl)),(0,(.p kI))],9,[(.var 406 ct (.pr (.row 1) (.p .unit))),(.row 5 kB)],0⟩)(t:R):Option A:=F d.1.2.1 (fun z0 z1=>k (.exit 0) ⟨.any::.any::.any::(.ptr 0 [])::an 32 [],[.var 406 ct (.pr (.row 1) (.p .unit z0)),.row 5 kB z1],0⟩) t d.1.2.2.1 d.2.1.2 d.2.2.1
def zg(g:iN A):Entry A:=ai [] ⟨[(.p ci)],[],0⟩ fun d k=>g d.1.1 (fun r0=>k (.row 0) [.row 5 kB r0])
section
variable(g149:gm A)(g150:dF A)(g190:dX A)(g153:gq A)(n:Nat)
noncomputable def Q1:Env A:=Ev [(149,zp g149),(150,sv g150),(190,sA g190),(153,zu g153)] [(0,au (dl 36 [3,25,26]) (Fy (sr g149 g150 g190 g153 n)) n)] [1] []
theorem acO:Lst A (Q1 g149 g150 g190 g153 n) Tryz.f133 0 (dl 36 [3]) (Fy (Q2 g149 g150 g190 g153 n)) (Fy (sr g149 g150 g190 g153 n)) fun r d t26 wb wa=>r (((),d.1.2.1,t26,d.1.2.2.2),(((),wb),wa,d.2.2.2)):=.mk
theorem acN:Qo A (Q1 g149 g150 g190 g153 n) Tryz.f133 [.own] (zg (Fx g149 g150 g190 g153 n)):=.mk
end
theorem Q3(n:Nat):OK A 133 (zg (uy n)):=ak (acN _ _ _ _ n) Tryz.func133 (ax (acO _ _ _ _ n) ag) (oc (Rh n)<|oc (zq n)<|oc (Ap n)<|oc (Rp n) oz)
def Ia(g:kJ A):Entry A:=ai [true,false] ⟨[(.ptr 0),(.p kS)],[(.var 406 ct (.pr (.row 1) (.p .unit))),(.row 5 kB)],2⟩ fun d k=>g d.1.2.1 d.2.1.2 d.2.2.1 (fun r0 r1=>k (.tup []) [.var 406 ct (.pr (.row 2) (.p .unit r0)),.gone,.row 5 kB r1])
theorem aff(g213:fq A)(g190:dX A)(n:Nat):Qo A (Ev [(213,uX g213),(190,sA g190)] [] [] []) Tryz.f214 [] (Ia (Sw g213 g190 n)):=.mk
theorem afe(n:Nat):OK A 214 (Ia (Sv n)):=ak (aff _ _ n) Tryz.func214 ag (oc (H8 n)<|oc (Ap n) oz)
def F1{R:Type}(F:rB→Int→(co A)→R→Int→Unit→(List Int)→Option A)(k:KK A)(d:LSh.den ⟨[(1,(.ptr 0)),(39,(.p (.sl ci))),(0,(.p kI)),(0,(.p kI))],101,[(.var 406 ct (.pr (.row 2) (.p .unit))),.gone,(.row 5 kB)],2⟩)(t:R):Option A:=F d.1.2.1 d.1.2.2.1 (fun z0 z1=>k (.exit 1) ⟨an 145 [],[.var 406 ct (.pr (.row 2) (.p .unit z0)),.gone,.row 5 kB z1],2⟩) t d.1.2.2.2.1 d.2.1.2 d.2.2.2.1
def F2{R:Type}(F:tU→Int→(co A)→R→Int→Unit→(List Int)→Option A)(k:KK A)(d:LSh.den ⟨[(1,(.ptr 0)),(98,(.p (.sl bk))),(0,(.p kI)),(0,(.p kI))],42,[(.var 406 ct (.pr (.row 2) (.p .unit))),.gone,(.row 5 kB)],2⟩)(t:R):Option A:=F d.1.2.1 d.1.2.2.1 (fun z0 z1=>k (.exit 3) ⟨an 145 [],[.var 406 ct (.pr (.row 2) (.p .unit z0)),.gone,.row 5 kB z1],2⟩) t d.1.2.2.2.1 d.2.1.2 d.2.2.2.1
def F0(g:kz A):Entry A:=ai [true,true,false] ⟨[(.vp eW),(.ptr 0),(.p kI)],[(.var 406 ct (.pr (.row 1) (.p .unit))),(.row 5 kB)],2⟩ fun d k=>g d.1.1 d.1.2.2.1 d.2.1.2 d.2.2.1 (fun r0 r1=>k (.tup []) [.var 406 ct (.pr (.row 2) (.p .unit r0)),.gone,.row 5 kB r1]) (fun r0 r1=>k (.tup []) [.var 406 ct (.pr (.row 1) (.p .unit r0)),.row 5 kB r1])
section
variable(g212:kH A)(g190:dX A)(g213:fq A)(g133:iN A)(g150:dF A)(g214:kJ A)(n:Nat)
noncomputable def FZ:Env A:=Ev [(212,H6 g212),(190,sA g190),(213,uX g213),(133,zg g133),(150,sv g150),(214,Ia g214)] [(0,au (dl 145 [1,41,42,43]) (F1 (zr g212 g190 g213 g133 g150 g214 n)) n),(1,au (dl 145 [1,100,101,102]) (F2 (zt g212 g190 g213 g133 g150 g214 n)) n)] [] []
theorem adj:Lst A (FZ g212 g190 g213 g133 g150 g214 n) Tryz.f152 1 (dl 145 []) (F2 (Ro g212 g190 g213 g133 g150 g214 n)) (F2 (zt g212 g190 g213 g133 g150 g214 n)) fun r d t102 wb wa=>r (((),d.1.2.1,d.1.2.2.1,t102,d.1.2.2.2.2),(((),wb),(),wa,d.2.2.2.2)):=.mk
theorem adi:Lst A (FZ g212 g190 g213 g133 g150 g214 n) Tryz.f152 0 (dl 145 []) (F1 (Rn g212 g190 g213 g133 g150 g214 n)) (F1 (zr g212 g190 g213 g133 g150 g214 n)) fun r d t43 wb wa=>r (((),d.1.2.1,d.1.2.2.1,t43,d.1.2.2.2.2),(((),wb),(),wa,d.2.2.2.2)):=.mk
theorem adh:Qo A (FZ g212 g190 g213 g133 g150 g214 n) Tryz.f152 [] (F0 (uF g212 g190 g213 g133 g150 g214 n)):=.mk
end
theorem adg(n:Nat):OK A 152 (F0 (l9 n)):=ak (adh _ _ _ _ _ _ n) Tryz.func152 (ax (adi _ _ _ _ _ _ n)<|ax (adj _ _ _ _ _ _ n) ag) (oc (afa n)<|oc (Ap n)<|oc (H8 n)<|oc (Q3 n)<|oc (zq n)<|oc (afe n) oz)
def ED{R:Type}(F:io→Option A→Option A→R→Int→Option A)(k:KK A)(d:LSh.den ⟨[(1,(.vp eW)),(9,(.p kI))],36,[],0⟩)(t:R):Option A:=F d.1.1 (k .ret ⟨.any::(.vp eW d.1.1)::(.row 0)::(.p kI 3)::an 44 [],[.row 5 kB []],0⟩) (k (.exit 0) ⟨.any::(.vp eW d.1.1)::an 46 [],[],0⟩) t d.1.2.1
def EE{R:Type}(F:io→(co A)→(co A)→R→Int→Unit→(List Int)→Option A)(k:KK A)(d:LSh.den ⟨[(1,(.vp eW)),(3,(.ptr 0)),(25,(.p kI))],16,[(.var 406 ct (.pr (.row 1) (.p .unit))),(.row 5 kB)],0⟩)(t:R):Option A:=F d.1.1 (fun z2 z3=>k .ret ⟨.any::.any::(.row 0)::(.p kI 4)::.any::(.ptr 1 [])::an 42 [],[.row 5 kB [],.var 406 ct (.pr (.row 2) (.p .unit z2)),.row 5 kB z3],0⟩) (fun z0 z1=>k (.exit 2) ⟨an 5 ((.ptr 0 [])::an 42 []),[.var 406 ct (.pr (.row 1) (.p .unit z0)),.row 5 kB z1],0⟩) t d.1.2.2.1 d.2.1.2 d.2.2.1
def EA(g:wR A):Entry A:=ai [] ⟨[(.p eW)],[],0⟩ fun d k=>g d.1.1 (fun r0 r1=>k (.tup [.row 0,.p kI r0]) [.row 5 kB r1])
section
variable(g142:kq A)(g143:kr A)(g148:ku A)(g148n:kw A)(g149:gm A)(g150:dF A)(g151:kx A)(g151n:ky A)(g152:kz A)(g153:gq A)(n:Nat)
noncomputable def Ez:Env A:=Ev [(142,zm g142),(143,zo g143),(148,nC Rf.tm (FO g148) (FQ g148n)),(149,zp g149),(150,sv g150),(151,nC Rl.tm (FW g151) (FX g151n)),(152,F0 g152),(153,zu g153)] [(0,au (dl 48 [1,11]) (ED (uk g142 g143 g148 g148n g149 g150 g151 g151n g152 g153 n)) n),(1,au (dl 48 [1,5,31]) (EE (ul g142 g143 g148 g148n g149 g150 g151 g151n g152 g153 n)) n)] [1] []
theorem abW:Lst A (Ez g142 g143 g148 g148n g149 g150 g151 g151n g152 g153 n) Tryz.f101 1 (dl 48 [2,3,5]) (EE (QH g142 g143 g148 g148n g149 g150 g151 g151n g152 g153 n)) (EE (ul g142 g143 g148 g148n g149 g150 g151 g151n g152 g153 n)) fun r d t31 wb wa=>r ((d.1.1,(),t31,d.1.2.2.2),(((),wb),wa,d.2.2.2)):=.mk
theorem abV:Lst A (Ez g142 g143 g148 g148n g149 g150 g151 g151n g152 g153 n) Tryz.f101 0 (dl 48 [1,2,3]) (ED (QG g142 g143 g148 g148n g149 g150 g151 g151n g152 g153 n)) (ED (uk g142 g143 g148 g148n g149 g150 g151 g151n g152 g153 n)) fun r d t11=>r ((d.1.1,t11,d.1.2.2),d.2):=.mk
theorem abU:Qo A (Ez g142 g143 g148 g148n g149 g150 g151 g151n g152 g153 n) Tryz.f101 [.own,.pure] (EA (EB g142 g143 g148 g148n g149 g150 g151 g151n g152 g153 n)):=.mk
end
theorem abT(n:Nat):OK A 101 (EA (yE n)):=ak (abU _ _ _ _ _ _ _ _ _ _ n) Tryz.func101 (ax (abV _ _ _ _ _ _ _ _ _ _ n)<|ax (abW _ _ _ _ _ _ _ _ _ _ n) ag) (oc (Q8 n)<|oc (Ra n)<|oc (aI.alt (ac3 n) (ac5 n))<|oc (Rh n)<|oc (zq n)<|oc (aI.alt (adb n) (ade n))<|oc (adg n)<|oc (Rp n) oz)
def yF(g:wS A):Entry A:=ai [true,false,false] ⟨[(.row 0),(.p kI),(.p eW)],[(.row 257 eV)],1⟩ fun d k=>g d.1.2.1 d.1.2.2.1 d.2.1 (fun r0=>k (.row 0) [.row 257 eV r0]) (fun r0=>k (.row 1) [.gone,.row 257 eV r0])
theorem abX(g101:wR A)(n:Nat):Qo A (Ev [(101,EA g101)] [] [] []) Tryz.f103 [.own] (yF (EF g101 n)):=.mk
theorem QI(n:Nat):OK A 103 (yF (yG n)):=ak (abX _ n) Tryz.func103 ag (oc (abT n) oz)
end Go.Ev
namespace Go.Ev
open Go.Proofs Go.RowKit
variable{A:Type}
set_option maxHeartbeats 1000000 in
theorem akD(s:ByteArray)(h1:s.size=1)(c:Nat)(hc:(s[0]'(by omega)).toNat=c)(h48:48≤c)(h57:c≤57)(w:World) :
  Calls Tryz.prog 124 #[.string s] w fun e w'=>e=.returned (.int .i64 ((c:Int)-48))∧w'=w.iter s 1:=by
 have hn0:=fun ty=>run_next_ascii (P:=Tryz.prog) w s 0 ty (by omega) (by omega)
 have hn1:=fun ty=>run_next_end (P:=Tryz.prog) w s 1 ty (by omega)
 simp only[hc] at hn0
 have hs:(s.size:Int)=1:=by omega
 go_enter Tryz.func124,Tryz.ntmps124
 have c1:¬ (c:Int)<48:=by omega
 have c2:¬ (57:Int)<(c:Int):=by omega
 have w1:IntKind.wrap .i32 ((c:Int)-48)=(c:Int)-48:=by
  simp only[IntKind.wrap,IntKind.signed,IntKind.bits]
  simp
  split<;>omega
 have w2:IntKind.wrap .i64 ((c:Int)-48)=(c:Int)-48:=by
  simp only[IntKind.wrap,IntKind.signed,IntKind.bits]
  simp
  split<;>omega
 go_wp2
 refine wp_loop_rounds 2 ?_
 rw[rounds_succ]
 go_wp2
 rw[rounds_succ]
 go_wp2
 go_ret
 exact⟨rfl,rfl⟩
theorem Ph(X:Cx)(ok:Ok X)(hp:X.hp=[])(o:Obj):Ok ⟨X.ρ,[],X.F,X.w.alloc o⟩∧WEvo X ⟨X.ρ,[],X.F,X.w.alloc o⟩:=by
 have hno:∀ b,¬ (⟨X.ρ,[],X.F,X.w.alloc o⟩:Cx).Own b:=fun b ⟨_,_,g,_⟩=>by simp at g
 have hk:∀ b,b<X.w.heap.size→(X.w.alloc o).heap[b]?=X.w.heap[b]?:=fun b hb=>Below.heap_alloc _ _ _ hb
 exact⟨⟨fun _ _ g=>by simp at g,fun _ _ _ _ _ g=>by simp at g,fun b hb=>⟨by have:=(ok.fo b hb).1;simp;omega,hno b⟩⟩,
  ⟨rfl,rfl,rfl,by simp,fun b c e f h=>⟨c,(hk b (Array.getElem?_eq_some_iff.1 h).1).trans h,rfl⟩,fun b hb _=>hk b hb,fun b _ h=>absurd h (hno b),fun _ h=>h,fun _ h=>.inl h⟩⟩
def za(n:Nat)(s:ByteArray)(k:Int→Option A):Option A:=
 if h:s.size=1 then
  bif decide (48≤(s[0]'(by omega)).toNat)&&decide ((s[0]'(by omega)).toNat≤57) then k (((s[0]'(by omega)).toNat:Int)-48) else none
 else none
def QU(g:ByteArray→(Int→Option A)→Option A):Entry A:=jo fun args k=>nD args .str fun a0=>g a0 (fun r0=>k (.p (.int .i64) r0) [])
theorem acz(n:Nat):aI Tryz.prog aw 124 (QU (A:=A) (za n)):=fun args hp0 k out hr=>by
 cases hp0 with
 | cons b r=>cases hr
 | nil=>
 obtain⟨s,rfl,hr⟩:=ua hr
 have hr:za n s (fun r0=>k (.p (.int .i64) r0) [])=some out:=hr
 unfold za at hr
 split at hr
 ·rename_i h1
  cases hb:decide (48≤(s[0]'(by omega)).toNat)&&decide ((s[0]'(by omega)).toNat≤57) with
  | false=>rw[hb] at hr;cases hr
  | true=>
   rw[hb] at hr
   have hb:=Bool.and_eq_true_iff.1 hb
   refine⟨_,_,hr,fun X vals hX ok hglo hargs=>?_,fun h=>nomatch h⟩
   obtain⟨v,hv,hrv⟩:=hargs.get (i:=0) (a:=.p .str s) rfl
   have hvals:vals=#[v]:=by
    have hl:=hargs.length
    apply Array.toList_inj.1
    match hm:vals.toList,hl with
    | [u],_=>rw[hm] at hv;simpa using hv
   subst hvals
   obtain⟨cs,hc,hcs⟩:=(hrv.to0 (by simp)).data
   rcases hcs with hcs|⟨_,rfl⟩
   ·exact nomatch hcs.1
   obtain rfl:v=.string s:=(List.cons.inj hc).1
   refine⟨_,X.w,MuLone.run_callFunc_enter Tryz.func124 (by kernel_rfl) rfl _ X.w,.inr ⟨rfl,?_⟩⟩
   refine(akD s h1 _ rfl (of_decide_eq_true hb.1) (of_decide_eq_true hb.2) X.w).mono ?_
   rintro e w' ⟨rfl,rfl⟩
   obtain⟨g1,g2⟩:=Ph X ok hX (.stringIter s 1)
   exact⟨_,rfl,_,rfl,rfl,.inr ⟨[.int .i64 _],rfl,.inr ⟨rfl,rfl⟩⟩,g1,g2,⟨fun _ _ h=>absurd h (by simp),fun _ _ h=>absurd h (by simp)⟩⟩
 ·cases hr
end Go.Ev
namespace Go.Ev
open Go.Proofs
variable{A:Type}
def zh(g:w7 A):Entry A:=ai [true] ⟨[(.ptr 0)],[(.var 212 eu (.pr (.p kI) (.pr (.p kI) (.pr (.p aP) (.pr (.p kI) (.pr (.p .bool) (.pr (.mp 1) (.p (.pair kI (.pair kI (.pair kI (.pair .bool .unit)))))))))))),(.map aP kI)],2⟩ fun d k=>g d.2.1.1 d.2.1.2.1 d.2.1.2.2.1 d.2.1.2.2.2.1 d.2.1.2.2.2.2.1 d.2.1.2.2.2.2.2.2 d.2.2.1 (fun r0 r1 r2 r3 r4 r5 r6=>k (.tup []) [.var 212 eu (.pr (.p kI r0) (.pr (.p kI r1) (.pr (.p aP r2) (.pr (.p kI r3) (.pr (.p .bool r4) (.pr (.mp 1) (.p (.pair kI (.pair kI (.pair kI (.pair .bool .unit)))) r5))))))),.map aP kI r6])
theorem acP(n:Nat):Qo A (Ev [] [] [] []) Tryz.f134 [] (zh (Fz n)):=.mk
theorem Q4(n:Nat):OK A 134 (zh (zi n)):=ak (acP n) Tryz.func134 ag oz
def uA(g:qy A):Entry A:=ai [] ⟨[(.p kS)],[],0⟩ fun d k=>g d.1.1 (fun r0 r1=>k (.ptr 0 []) [.var 385 d5 (.pr (.row 1) (.p (.pair kI (.pair kI .unit)) r0)),.row 5 kB r1])
theorem acX(g65:dI A)(n:Nat):Qo A (Ev [(65,mD g65)] [] [] []) Tryz.f139 [.own] (uA (FK g65 n)):=.mk
theorem FJ(n:Nat):OK A 139 (uA (l8 n)):=ak (acX _ n) Tryz.func139 ag (oc (pK n) oz)
def Bq(g:re A):Entry A:=ai [true,false,false] ⟨[(.ptr 0),(.p kI),(.p kI)],[(.var 385 d5 (.pr (.row 1) (.p (.pair kI (.pair kI .unit))))),(.row 5 kB)],2⟩ fun d k=>g d.1.2.1 d.1.2.2.1 d.2.1.2 d.2.2.1 (fun r0 r1=>k (.tup []) [.var 385 d5 (.pr (.row 1) (.p (.pair kI (.pair kI .unit)) r0)),.row 5 kB r1])
theorem agP(n:Nat):Qo A (Ev [] [] [] []) Tryz.f260 [] (Bq (JC n)):=.mk
theorem Tn(n:Nat):OK A 260 (Bq (pd n)):=ak (agP n) Tryz.func260 ag oz
def sB(g:qN A):Entry A:=ai [true,false] ⟨[(.ptr 0),(.p kI)],[(.var 385 d5 (.pr (.row 1) (.p (.pair kI (.pair kI .unit))))),(.row 5 kB)],2⟩ fun d k=>g d.1.2.1 d.2.1.2 d.2.2.1 (fun r0 r1 r2=>k (.row 2) [.var 385 d5 (.pr (.row 1) (.p (.pair kI (.pair kI .unit)) r0)),.row 5 kB r1,.row 5 kB r2])
theorem ae1(g260:re A)(g65:dI A)(n:Nat):Qo A (Ev [(260,Bq g260),(65,mD g65)] [] [] []) Tryz.f197 [.own] (sB (HS g260 g65 n)):=.mk
theorem AC(n:Nat):OK A 197 (sB (oM n)):=ak (ae1 _ _ n) Tryz.func197 ag (oc (Tn n)<|oc (pK n) oz)
def HR{R:Type}(F:(List Int)→Int→(ae A)→R→Int→Int→Option A)(k:KK A)(d:LSh.den ⟨[(0,(.p kS)),(2,(.p kL)),(3,(.p kI)),(0,(.p kI))],14,[],0⟩)(t:R):Option A:=F d.1.1 d.1.2.2.1 (fun z0=>k (.exit 0) ⟨.any::.any::.any::(.p kL z0)::an 19 [],[],0⟩) t d.1.2.1 d.1.2.2.2.1
def HP(g:xt A):Entry A:=ai [] ⟨[(.p kS)],[],0⟩ fun d k=>g d.1.1 (fun r0=>k (.p kL r0) [])
section
variable(n:Nat)
noncomputable def Sj:Env A:=Ev [] [(0,au (dl 23 [0,3,7,8]) (HR (oL n)) n)] [] []
theorem ae0:Lst A (Sj n) Tryz.f196 0 (dl 23 [3]) (HR (AA n)) (HR (oL n)) fun r d n_ t8=>r ((d.1.1,n_,d.1.2.2.1,t8,d.1.2.2.2.2),d.2):=.mk
theorem aeZ:Qo A (Sj n) Tryz.f196 [.pure] (HP (HQ n)):=.mk
end
theorem aeY(n:Nat):OK A 196 (HP (AB n)):=ak (aeZ n) Tryz.func196 (ax (ae0 n) ag) oz
def oe(g:ko A):Entry A:=ai [true,false] ⟨[(.ptr 0),(.p kI)],[(.var 385 d5 (.pr (.row 1) (.p (.pair kI (.pair kI .unit))))),(.row 5 kB)],2⟩ fun d k=>g d.1.2.1 d.2.1.2 d.2.2.1 (fun r0 r1 r2=>k (.p kL r0) [.var 385 d5 (.pr (.row 1) (.p (.pair kI (.pair kI .unit)) r1)),.row 5 kB r2])
theorem acY(g197:qN A)(g196:xt A)(n:Nat):Qo A (Ev [(197,sB g197),(196,HP g196)] [] [] []) Tryz.f140 [.pure] (oe (FL g197 g196 n)):=.mk
theorem uB(n:Nat):OK A 140 (oe (gQ n)):=ak (acY _ _ n) Tryz.func140 ag (oc (AC n)<|oc (aeY n) oz)
def zl(g:qz A):Entry A:=cu [true] ⟨[(.ptr 0)],[(.var 385 d5 (.pr (.row 1) (.p (.pair kI (.pair kI .unit))))),(.row 5 kB)],2⟩ fun d k=>g d.2.1.2 d.2.2.1 (fun r0=>k (.p kI r0) [])
theorem acZ(n:Nat):Qr A (Ev [] [] [] []) Tryz.f141 [.pure] (zl (Q7 n)):=.mk
theorem Q6(n:Nat):OK A 141 (zl (su n)):=cR (acZ n) Tryz.func141 ag oz
def HV(g:xu A):Entry A:=cu [true] ⟨[(.ptr 0)],[(.var 385 d5 (.pr (.row 1) (.p (.pair kI (.pair kI .unit))))),(.row 5 kB)],2⟩ fun d k=>g d.2.1.2 d.2.2.1 (fun r0=>k (.p kI r0) [])
theorem ae5(n:Nat):Qr A (Ev [] [] [] []) Tryz.f203 [.pure] (HV (HX n)):=.mk
theorem ae4(n:Nat):OK A 203 (HV (HW n)):=cR (ae5 n) Tryz.func203 ag oz
def uD(g:qA A):Entry A:=ai [true] ⟨[(.ptr 0)],[(.var 385 d5 (.pr (.row 1) (.p (.pair kI (.pair kI .unit))))),(.row 5 kB)],2⟩ fun d k=>g d.2.1.2 d.2.2.1 (fun r0 r1 r2=>k (.p kI r0) [.var 385 d5 (.pr (.row 1) (.p (.pair kI (.pair kI .unit)) r1)),.row 5 kB r2])
theorem ac2(g203:xu A)(n:Nat):Qo A (Ev [(203,HV g203)] [] [] []) Tryz.f145 [.pure] (uD (FN g203 n)):=.mk
theorem FM(n:Nat):OK A 145 (uD (jJ n)):=ak (ac2 _ n) Tryz.func145 ag (oc (ae4 n) oz)
def sC(g:kF A):Entry A:=ai [true,false] ⟨[(.ptr 0),(.p kL)],[(.var 385 d5 (.pr (.row 1) (.p (.pair kI (.pair kI .unit))))),(.row 5 kB)],2⟩ fun d k=>g d.1.2.1 d.2.1.2 d.2.2.1 (fun r0 r1 r2=>k (.p kL r0) [.var 385 d5 (.pr (.row 1) (.p (.pair kI (.pair kI .unit)) r1)),.row 5 kB r2])
theorem ae2(g140:ko A)(g260:re A)(n:Nat):Qo A (Ev [(140,oe g140),(260,Bq g260)] [] [] []) Tryz.f200 [.pure] (sC (HT g140 g260 n)):=.mk
theorem AD(n:Nat):OK A 200 (sC (jf n)):=ak (ae2 _ _ n) Tryz.func200 ag (oc (uB n)<|oc (Tn n) oz)
def AE(g:qO A):Entry A:=ai [true,false] ⟨[(.ptr 0),(.p kI)],[(.var 385 d5 (.pr (.row 1) (.p (.pair kI (.pair kI .unit))))),(.row 5 kB)],2⟩ fun d k=>g d.1.2.1 d.2.1.2 d.2.2.1 (fun r0 r1 r2=>k (.row 2) [.var 385 d5 (.pr (.row 1) (.p (.pair kI (.pair kI .unit)) r0)),.row 5 kB r1,.row 5 kB r2])
theorem ae3(g200:kF A)(g197:qN A)(n:Nat):Qo A (Ev [(200,sC g200),(197,sB g197)] [] [] []) Tryz.f202 [.own] (AE (HU g200 g197 n)):=.mk
theorem Sk(n:Nat):OK A 202 (AE (oN n)):=ak (ae3 _ _ n) Tryz.func202 ag (oc (AD n)<|oc (AC n) oz)
def mu(g:ft A):Entry A:=cu [true] ⟨[(.ptr 0)],[(.var 116 bF (.pr (.pr (.p ay) (.pr (.p kI) (.pr (.p kI) (.pr (.p kI) (.pr (.p kI) (.pr (.row 1) (.p .unit))))))) (.pr (.ptr 2) (.pr (.p kI) (.pr (.row 6) (.pr (.mp 7) (.pr (.row 8) (.p .unit)))))))),(.row 46 kS),(.var 120 bh (.pr (.p ay) (.pr (.row 3) (.pr (.mp 4) (.pr (.row 5) (.p .unit)))))),(.row 181 a9),(.map aa kI),(.row 3 kI),(.ob 140 .opq bH),(.map aF bk),(.row 475 aF)],9⟩ fun d k=>g d.2.1.1.1 d.2.1.1.2.1 d.2.1.1.2.2.1 d.2.1.1.2.2.2.1 d.2.1.1.2.2.2.2.1 d.2.1.1.2.2.2.2.2.2 d.2.1.2.2.1 d.2.1.2.2.2.2.2.2 d.2.2.1 d.2.2.2.1.1 d.2.2.2.1.2.2.2.2 d.2.2.2.2.1 d.2.2.2.2.2.1 d.2.2.2.2.2.2.1 d.2.2.2.2.2.2.2.1 d.2.2.2.2.2.2.2.2.1 d.2.2.2.2.2.2.2.2.2.1 (fun r0=>k (.p kI r0) [])
theorem agY(n:Nat):Qr A (Ev [] [] [] []) Tryz.f27 [.pure] (mu (Tv n)):=.mk
theorem sF(n:Nat):OK A 27 (mu (iy n)):=cR (agY n) Tryz.func27 ag oz
def Tt(g:ByteArray→Int→(ae A)→Option A):Entry A:=jo fun args k=>rQ args .str (.int .u8) fun a0 a1=>g a0 a1 (fun r0=>k (.p (.int .i64) r0) [])
theorem agX(n:Nat):aI Tryz.prog aw 279 (Tt (A:=A) (Tu n)):=ajT Tryz.func279 (by kernel_rfl) (by kernel_rfl) (by kernel_rfl) (by kernel_rfl)
def Le(g:xI A):Entry A:=cu [true] ⟨[(.ptr 0)],[(.var 120 bh (.pr (.p ay) (.pr (.row 1) (.pr (.mp 2) (.pr (.row 3) (.p .unit)))))),(.row 181 a9),(.map aa kI),(.row 3 kI)],4⟩ fun d k=>g d.2.1.1 d.2.1.2.2.2.2 d.2.2.1 d.2.2.2.1 d.2.2.2.2.1 (fun r0=>k (.p kI r0) [])
theorem ail(n:Nat):Qr A (Ev [] [] [] []) Tryz.f58 [.pure] (Le (Ud n)):=.mk
theorem aik(n:Nat):OK A 58 (Le (Uc n)):=cR (ail n) Tryz.func58 ag oz
def JU(g:xC A):Entry A:=cu [true] ⟨[(.ptr 0)],[(.var 120 bh (.pr (.p ay) (.pr (.row 1) (.pr (.mp 2) (.pr (.row 3) (.p .unit)))))),(.row 181 a9),(.map aa kI),(.row 3 kI)],4⟩ fun d k=>g d.2.1.1 d.2.1.2.2.2.2 d.2.2.1 d.2.2.2.1 d.2.2.2.2.1 (fun r0=>k (.p aa r0) [])
theorem ahe(g58:xI A)(n:Nat):Qr A (Ev [(58,Le g58)] [] [] []) Tryz.f30 [.pure] (JU (TG g58 n)):=.mk
theorem ahd(n:Nat):OK A 30 (JU (TF n)):=cR (ahe _ n) Tryz.func30 ag (oc (aik n) oz)
def Fp(g:wY A):Entry A:=cu [true] ⟨[(.ptr 0)],[(.var 116 bF (.pr (.pr (.p ay) (.pr (.p kI) (.pr (.p kI) (.pr (.p kI) (.pr (.p kI) (.pr (.row 1) (.p .unit))))))) (.pr (.ptr 2) (.pr (.p kI) (.pr (.row 6) (.pr (.mp 7) (.pr (.row 8) (.p .unit)))))))),(.row 46 kS),(.var 120 bh (.pr (.p ay) (.pr (.row 3) (.pr (.mp 4) (.pr (.row 5) (.p .unit)))))),(.row 181 a9),(.map aa kI),(.row 3 kI),(.ob 140 .opq bH),(.map aF bk),(.row 475 aF)],9⟩ fun d k=>g d.2.1.1.1 d.2.1.1.2.1 d.2.1.1.2.2.1 d.2.1.1.2.2.2.1 d.2.1.1.2.2.2.2.1 d.2.1.1.2.2.2.2.2.2 d.2.1.2.2.1 d.2.1.2.2.2.2.2.2 d.2.2.1 d.2.2.2.1.1 d.2.2.2.1.2.2.2.2 d.2.2.2.2.1 d.2.2.2.2.2.1 d.2.2.2.2.2.2.1 d.2.2.2.2.2.2.2.1 d.2.2.2.2.2.2.2.2.1 d.2.2.2.2.2.2.2.2.2.1 (fun r0=>k (.p aa r0) [])
theorem acG(g30:xC A)(n:Nat):Qr A (Ev [(30,JU g30)] [] [] []) Tryz.f12 [.pure] (Fp (QZ g30 n)):=.mk
theorem acF(n:Nat):OK A 12 (Fp (QY n)):=cR (acG _ n) Tryz.func12 ag (oc (ahd n) oz)
def Lf(g:xJ A):Entry A:=cu [true,false] ⟨[(.ptr 0),(.p aa)],[(.var 120 bh (.pr (.p ay) (.pr (.row 1) (.pr (.mp 2) (.pr (.row 3) (.p .unit)))))),(.row 181 a9),(.map aa kI),(.row 3 kI)],4⟩ fun d k=>g d.1.2.1 d.2.1.1 d.2.1.2.2.2.2 d.2.2.1 d.2.2.2.1 d.2.2.2.2.1 (fun r0 r1=>k (.tup [.p a9 r0,.p kI r1]) [])
theorem ain(n:Nat):Qr A (Ev [] [] [] []) Tryz.f59 [.pure,.pure] (Lf (Uf n)):=.mk
theorem aim(n:Nat):OK A 59 (Lf (Ue n)):=cR (ain n) Tryz.func59 ag oz
def KT(g:xF A):Entry A:=cu [true,false] ⟨[(.ptr 0),(.p aa)],[(.var 120 bh (.pr (.p ay) (.pr (.row 1) (.pr (.mp 2) (.pr (.row 3) (.p .unit)))))),(.row 181 a9),(.map aa kI),(.row 3 kI)],4⟩ fun d k=>g d.1.2.1 d.2.1.1 d.2.1.2.2.2.2 d.2.2.1 d.2.2.2.1 d.2.2.2.2.1 (fun r0 r1=>k (.tup [.p kI r0,.p kI r1]) [])
theorem ah7(g59:xJ A)(n:Nat):Qr A (Ev [(59,Lf g59)] [] [] []) Tryz.f53 [.pure,.pure] (KT (T8 g59 n)):=.mk
theorem ah6(n:Nat):OK A 53 (KT (T7 n)):=cR (ah7 _ n) Tryz.func53 ag (oc (aim n) oz)
def JS(g:N3 A):Entry A:=cu [true] ⟨[(.ptr 0)],[(.var 116 bF (.pr (.pr (.p ay) (.pr (.p kI) (.pr (.p kI) (.pr (.p kI) (.pr (.p kI) (.pr (.row 1) (.p .unit))))))) (.pr (.ptr 2) (.pr (.p kI) (.pr (.row 6) (.pr (.mp 7) (.pr (.row 8) (.p .unit)))))))),(.row 46 kS),(.var 120 bh (.pr (.p ay) (.pr (.row 3) (.pr (.mp 4) (.pr (.row 5) (.p .unit)))))),(.row 181 a9),(.map aa kI),(.row 3 kI),(.ob 140 .opq bH),(.map aF bk),(.row 475 aF)],9⟩ fun d k=>g d.2.1.1.1 d.2.1.1.2.1 d.2.1.1.2.2.1 d.2.1.1.2.2.2.1 d.2.1.1.2.2.2.2.1 d.2.1.1.2.2.2.2.2.2 d.2.1.2.2.1 d.2.1.2.2.2.2.2.2 d.2.2.1 d.2.2.2.1.1 d.2.2.2.1.2.2.2.2 d.2.2.2.2.1 d.2.2.2.2.2.1 d.2.2.2.2.2.2.1 d.2.2.2.2.2.2.2.1 d.2.2.2.2.2.2.2.2.1 d.2.2.2.2.2.2.2.2.2.1 (fun r0=>k (.p kI r0) [])
theorem ahb(g12:wY A)(g53:xF A)(n:Nat):Qr A (Ev [(12,Fp g12),(53,KT g53)] [] [] []) Tryz.f28 [.pure] (JS (TC g12 g53 n)):=.mk
theorem aha(n:Nat):OK A 28 (JS (TB n)):=cR (ahb _ _ n) Tryz.func28 ag (oc (acF n)<|oc (ah6 n) oz)
def Tw(g:ByteArray→Int→(ae A)→Option A):Entry A:=jo fun args k=>rQ args .str (.int .u8) fun a0 a1=>g a0 a1 (fun r0=>k (.p (.int .i64) r0) [])
theorem agZ(n:Nat):aI Tryz.prog aw 283 (Tw (A:=A) (Tx n)):=abn Tryz.func283 (by kernel_rfl) (by kernel_rfl) (by kernel_rfl) (by kernel_rfl)
def I4(g:xy A):Entry A:=ai [] ⟨[(.p kL)],[],0⟩ fun d k=>g d.1.1 (fun r0=>k (.p a8 r0) [])
theorem af7(n:Nat):Qo A (Ev [] [] [] []) Tryz.f246 [.pure] (I4 (I5 n)):=.mk
theorem af6(n:Nat):OK A 246 (I4 (A5 n)):=ak (af7 n) Tryz.func246 ag oz
def I6{R:Type}(F:Int→Int→(List Int)→(List Int)→(ah A)→R→Int→(List Int)→Option A)(k:KK A)(d:LSh.den ⟨[(2,(.ptr 0)),(1,(.ptr 1)),(0,(.ptr 2)),(0,(.p kI)),(0,(.p kI)),(0,(.p kI))],48,[(.var 29 a8 (.p a8)),(.var 29 a8 (.p a8)),(.var 29 a8 (.p a8))],0⟩)(t:R):Option A:=F d.1.2.2.2.1 d.1.2.2.2.2.1 d.2.1 d.2.2.1 (fun z1=>k (.exit 0) ⟨an 4 ((.ptr 0 [])::(.ptr 1 [])::an 51 []),[.var 29 a8 (.p a8 d.2.2.1),.var 29 a8 (.p a8 z1)],0⟩) t d.1.2.2.2.2.2.1 d.2.2.2.1
def A7(g:qT A):Entry A:=ai [] ⟨[(.p a8),(.p kI)],[],0⟩ fun d k=>g d.1.1 d.1.2.1 (fun r0=>k (.p a8 r0) [])
section
variable(n:Nat)
noncomputable def S1:Env A:=Ev [] [(0,au (dl 57 [2,4,5,6,7,8]) (I6 (jM n)) n)] [] []
theorem af9:Lst A (S1 n) Tryz.f247 0 (dl 57 [4,5]) (I6 (A6 n)) (I6 (jM n)) fun r d i out=>r (((),(),(),d.1.2.2.2.1,d.1.2.2.2.2.1,i,d.1.2.2.2.2.2.2),(d.2.1,d.2.2.1,out,d.2.2.2.2)):=.mk
theorem af8:Qo A (S1 n) Tryz.f247 [.pure] (A7 (A8 n)):=.mk
end
theorem S2(n:Nat):OK A 247 (A7 (o0 n)):=ak (af8 n) Tryz.func247 (ax (af9 n) ag) oz
def JI(g:rh A):Entry A:=ai [] ⟨[(.p kL)],[],0⟩ fun d k=>g d.1.1 (fun r0=>k (.p kI r0) [])
theorem ag1(n:Nat):Qo A (Ev [] [] [] []) Tryz.f284 [.pure] (JI (JJ n)):=.mk
theorem ag0(n:Nat):OK A 284 (JI (vq n)):=ak (ag1 n) Tryz.func284 ag oz
def I8{R:Type}(F:(List Int)→(ae A)→Option A→R→Int→Option A)(k:KK A)(d:LSh.den ⟨[(1,(.ptr 0)),(1,(.p kI))],15,[(.var 29 a8 (.p a8))],0⟩)(t:R):Option A:=F d.2.1 (fun z0=>k .ret ⟨.any::.any::(.p kI z0)::an 16 [],[],0⟩) (k (.exit 0) ⟨an 19 [],[],0⟩) t d.1.2.1
def Ba(g:qU A):Entry A:=ai [] ⟨[(.p a8)],[],0⟩ fun d k=>g d.1.1 (fun r0=>k (.p kI r0) [])
section
variable(g284:rh A)(n:Nat)
noncomputable def S3:Env A:=Ev [(284,JI g284)] [(0,au (dl 19 [1,3]) (I8 (o5 g284 n)) n)] [] []
theorem agb:Lst A (S3 g284 n) Tryz.f248 0 (dl 19 [2]) (I8 (A9 g284 n)) (I8 (o5 g284 n)) fun r d i=>r (((),i,d.1.2.2),d.2):=.mk
theorem aga:Qo A (S3 g284 n) Tryz.f248 [.pure] (Ba (I7 g284 n)):=.mk
end
theorem S4(n:Nat):OK A 248 (Ba (vd n)):=ak (aga _ n) Tryz.func248 (ax (agb _ n) ag) (oc (ag0 n) oz)
def I9{R:Type}(F:Int→Int→(List Int)→(List Int)→(ah A)→R→Int→(List Int)→Option A)(k:KK A)(d:LSh.den ⟨[(2,(.ptr 0)),(1,(.ptr 1)),(0,(.ptr 2)),(0,(.p kI)),(0,(.p kI)),(0,(.p kI))],45,[(.var 29 a8 (.p a8)),(.var 29 a8 (.p a8)),(.var 29 a8 (.p a8))],0⟩)(t:R):Option A:=F d.1.2.2.2.1 d.1.2.2.2.2.1 d.2.1 d.2.2.1 (fun z1=>k (.exit 0) ⟨an 4 ((.ptr 0 [])::(.ptr 1 [])::an 48 []),[.var 29 a8 (.p a8 d.2.2.1),.var 29 a8 (.p a8 z1)],0⟩) t d.1.2.2.2.2.2.1 d.2.2.2.1
def Bc(g:qV A):Entry A:=ai [] ⟨[(.p a8),(.p kI)],[],0⟩ fun d k=>g d.1.1 d.1.2.1 (fun r0=>k (.p a8 r0) [])
section
variable(n:Nat)
noncomputable def S5:Env A:=Ev [] [(0,au (dl 54 [2,4,5,6,7,8]) (I9 (jN n)) n)] [] []
theorem agd:Lst A (S5 n) Tryz.f249 0 (dl 54 [4,5]) (I9 (Bb n)) (I9 (jN n)) fun r d i out=>r (((),(),(),d.1.2.2.2.1,d.1.2.2.2.2.1,i,d.1.2.2.2.2.2.2),(d.2.1,d.2.2.1,out,d.2.2.2.2)):=.mk
theorem agc:Qo A (S5 n) Tryz.f249 [.pure] (Bc (Bd n)):=.mk
end
theorem S6(n:Nat):OK A 249 (Bc (o6 n)):=ak (agc n) Tryz.func249 (ax (agd n) ag) oz
def Af(g:qL A):Entry A:=ai [] ⟨[(.p kU)],[],0⟩ fun d k=>g d.1.1 (fun r0 r1=>k (.tup [.p a8 r0,.p kI r1]) [])
theorem aet(g246:xy A)(g247:qT A)(g248:qU A)(g249:qV A)(n:Nat):Qo A (Ev [(246,I4 g246),(247,A7 g247),(248,Ba g248),(249,Bc g249)] [] [] []) Tryz.f184 [.pure,.pure] (Af (Hj g246 g247 g248 g249 n)):=.mk
theorem R3(n:Nat):OK A 184 (Af (uU n)):=ak (aet _ _ _ _ n) Tryz.func184 ag (oc (af6 n)<|oc (S2 n)<|oc (S4 n)<|oc (S6 n) oz)
def Jf(g:xz A):Entry A:=ai [] ⟨[(.p a8)],[],0⟩ fun d k=>g d.1.1 (fun r0=>k (.p kU r0) [])
theorem agk(g248:qU A)(g249:qV A)(g247:qT A)(n:Nat):Qo A (Ev [(248,Ba g248),(249,Bc g249),(247,A7 g247)] [] [] []) Tryz.f250 [.pure] (Jf (Jg g248 g249 g247 n)):=.mk
theorem agj(n:Nat):OK A 250 (Jf (Bh n)):=ak (agk _ _ _ n) Tryz.func250 ag (oc (S4 n)<|oc (S6 n)<|oc (S2 n) oz)
def Hk(g:xj A):Entry A:=ai [] ⟨[(.p kU)],[],0⟩ fun d k=>g d.1.1 (fun r0=>k (.p .bool r0) [])
theorem aev(g184:qL A)(g250:xz A)(n:Nat):Qo A (Ev [(184,Af g184),(250,Jf g250)] [] [] []) Tryz.f185 [.pure] (Hk (Hl g184 g250 n)):=.mk
theorem aeu(n:Nat):OK A 185 (Hk (Ag n)):=ak (aev _ _ n) Tryz.func185 ag (oc (R3 n)<|oc (agj n) oz)
def Ho{R:Type}(F:(List Int)→(List Int)→(ae A)→Option A→R→Int→Option A)(k:KK A)(d:LSh.den ⟨[(2,(.ptr 0)),(0,(.ptr 1)),(1,(.p kI))],18,[(.var 29 a8 (.p a8)),(.var 29 a8 (.p a8))],0⟩)(t:R):Option A:=F d.2.1 d.2.2.1 (fun z0=>k .ret ⟨an 4 ((.p kI z0)::an 19 []),[],0⟩) (k (.exit 0) ⟨an 24 [],[],0⟩) t d.1.2.2.1
def Hm(g:xk A):Entry A:=ai [] ⟨[(.p a8),(.p a8)],[],0⟩ fun d k=>g d.1.1 d.1.2.1 (fun r0=>k (.p kI r0) [])
section
variable(n:Nat)
noncomputable def R4:Env A:=Ev [] [(0,au (dl 24 [2,3,5]) (Ho (oG n)) n)] [] []
theorem aey:Lst A (R4 n) Tryz.f186 0 (dl 24 [4]) (Ho (Ah n)) (Ho (oG n)) fun r d i=>r (((),(),i,d.1.2.2.2),d.2):=.mk
theorem aex:Qo A (R4 n) Tryz.f186 [.pure] (Hm (Hn n)):=.mk
end
theorem aew(n:Nat):OK A 186 (Hm (Ai n)):=ak (aex n) Tryz.func186 (ax (aey n) ag) oz
def Hp(g:xl A):Entry A:=ai [] ⟨[(.p kI),(.p kI),(.p kI)],[],0⟩ fun d k=>g d.1.1 d.1.2.1 d.1.2.2.1 (fun r0=>k (.p .bool r0) [])
theorem aeA(n:Nat):Qo A (Ev [] [] [] []) Tryz.f187 [.pure] (Hp (Hq n)):=.mk
theorem aez(n:Nat):OK A 187 (Hp (Aj n)):=ak (aeA n) Tryz.func187 ag oz
def zb(g:qt A):Entry A:=ai [] ⟨[(.p ay)],[],0⟩ fun d k=>g d.1.1 (fun r0=>k (.p kI r0) [])
theorem acA(g184:qL A)(g185:xj A)(g186:xk A)(g187:xl A)(n:Nat):Qo A (Ev [(184,Af g184),(185,Hk g185),(186,Hm g186),(187,Hp g187)] [] [] []) Tryz.f127 [.pure] (zb (Fk g184 g185 g186 g187 n)):=.mk
theorem QV(n:Nat):OK A 127 (zb (uv n)):=ak (acA _ _ _ _ n) Tryz.func127 ag (oc (R3 n)<|oc (aeu n)<|oc (aew n)<|oc (aez n) oz)
def ze(g:km A):Entry A:=ai [] ⟨[(.p kI),(.p kI)],[],0⟩ fun d k=>g d.1.1 d.1.2.1 (fun r0=>k (.p .bool r0) [])
theorem acE(n:Nat):Qo A (Ev [] [] [] []) Tryz.f129 [.pure] (ze (Fo n)):=.mk
theorem QX(n:Nat):OK A 129 (ze (so n)):=ak (acE n) Tryz.func129 ag oz
def Ci(g:iV A):Entry A:=ai [] ⟨[(.p kI),(.p kI)],[],0⟩ fun d k=>g d.1.1 d.1.2.1 (fun r0=>k (.tup [.nilp,.p kI r0]) []) (fun r0 r1 r2 r3 r4 r5 r6 r7=>k (.tup [.ptr 0 [],.p kI r0]) [.var 212 eu (.pr (.p kI r1) (.pr (.p kI r2) (.pr (.p aP r3) (.pr (.p kI r4) (.pr (.p .bool r5) (.pr (.mp 1) (.p (.pair kI (.pair kI (.pair kI (.pair .bool .unit)))) r6))))))),.map aP kI r7])
theorem ai5(g129:km A)(n:Nat):Qo A (Ev [(129,ze g129)] [] [] []) Tryz.f89 [.own,.pure] (Ci (LY g129 n)):=.mk
theorem Uw(n:Nat):OK A 89 (Ci (sR n)):=ak (ai5 _ n) Tryz.func89 ag (oc (QX n) oz)
def Fn{R:Type}(F:(List (List Int))→(List (List Int))→Int→(xZ A)→(xZ A)→R→Int→xY→Option A)(k:KK A)(d:LSh.den ⟨[(0,(.p (.sl kS))),(2,(.mp 0)),(3,(.p (.sl kS))),(0,(.p kI)),(0,(.p kI))],22,[(.map .str kI)],0⟩)(t:R):Option A:=F d.1.1 d.1.2.2.1 d.1.2.2.2.1 (fun z2=>k .ret ⟨(.p (.sl kS) d.1.1)::.any::(.p .bool false)::(.mp 0)::an 28 [],[.map .str kI z2],0⟩) (fun z1=>k (.exit 0) ⟨(.p (.sl kS) d.1.1)::.any::.any::(.mp 0)::an 28 [],[.map .str kI z1],0⟩) t d.1.2.2.2.2.1 d.2.1
def Fl(g:wZ A):Entry A:=ai [] ⟨[(.p (.sl kS))],[],0⟩ fun d k=>g d.1.1 (fun r0=>k (.p .bool r0) [])
section
variable(n:Nat)
noncomputable def QW:Env A:=Ev [] [(0,au (dl 32 [0,3,7,8,9]) (Fn (n0 n)) n)] [] []
theorem acD:Lst A (QW n) Tryz.f128 0 (dl 32 [0,2,3]) (Fn (zc n)) (Fn (n0 n)) fun r d t9 seen=>r ((d.1.1,(),d.1.2.2.1,d.1.2.2.2.1,t9,d.1.2.2.2.2.2),(seen,d.2.2)):=.mk
theorem acC:Qo A (QW n) Tryz.f128 [.pure] (Fl (Fm n)):=.mk
end
theorem acB(n:Nat):OK A 128 (Fl (zd n)):=ak (acC n) Tryz.func128 (ax (acD n) ag) oz
def LS(g:lm A):Entry A:=ai [] ⟨[(.p cK)],[],0⟩ fun d k=>g d.1.1 (fun r0=>k (.p kI r0) [])
theorem ai2(g127:qt A)(g89:iV A)(g128:wZ A)(n:Nat):Qo A (Ev [(127,zb g127),(89,Ci g89),(128,Fl g128)] [] [] []) Tryz.f87 [.pure] (LS (LT g127 g89 g128 n)):=.mk
theorem ai1(n:Nat):OK A 87 (LS (Ch n)):=ak (ai2 _ _ _ n) Tryz.func87 ag (oc (QV n)<|oc (Uw n)<|oc (acB n) oz)
def vN(g:fv A):Entry A:=ai [] ⟨[(.p ci)],[],0⟩ fun d k=>g d.1.1 (fun r0=>k (.p aa r0) [])
theorem ajj(g133:iN A)(g132:iM A)(n:Nat):Qo A (Ev [(133,zg g133),(132,ux g132)] [] [] []) Tryz.f94 [.pure] (vN (Me g133 g132 n)):=.mk
theorem Md(n:Nat):OK A 94 (vN (jR n)):=ak (ajj _ _ n) Tryz.func94 ag (oc (Q3 n)<|oc (Fv n) oz)
def LU(g:ln A):Entry A:=ai [] ⟨[(.p ay)],[],0⟩ fun d k=>g d.1.1 (fun r0=>k (.tup [.nilp,.p kI r0]) []) (fun r0 r1 r2 r3 r4 r5=>k (.tup [.ptr 0 [],.p kI r0]) [.var 120 bh (.pr (.p ay r1) (.pr (.row 1) (.pr (.mp 2) (.pr (.row 3) (.p .unit r2))))),.row 181 a9 r3,.map aa kI r4,.row 3 kI r5])
theorem ai4(g127:qt A)(g94:fv A)(n:Nat):Qo A (Ev [(127,zb g127),(94,vN g94)] [] [] []) Tryz.f88 [.own,.pure] (LU (LX g127 g94 n)):=.mk
theorem ai3(n:Nat):OK A 88 (LU (LV n)):=ak (ai4 _ _ n) Tryz.func88 ag (oc (QV n)<|oc (Md n) oz)
def L3(g:lp A):Entry A:=ai [] ⟨[(.p kI)],[],0⟩ fun d k=>g d.1.1 (fun r0=>k (.tup [.nilp,.p kI r0]) []) (fun r0 r1 r2 r3=>k (.tup [.ptr 0 [],.p kI r0]) [.var 306 jk (.pr (.p kI r1) (.pr (.mp 1) (.p .unit r2))),.map aa (.int .u16) r3])
theorem ai9(n:Nat):Qo A (Ev [] [] [] []) Tryz.f90 [.own,.pure] (L3 (L4 n)):=.mk
theorem ai8(n:Nat):OK A 90 (L3 (vJ n)):=ak (ai9 n) Tryz.func90 ag oz
def KY{R:Type}(F:Int→(List (List Int))→Int→rG→(bx A)→R→Int→(List (List Int))→Option A)(k:KK A)(d:LSh.den ⟨[(1,(.p kI)),(0,(.ptr 0)),(4,(.row 1)),(19,(.p (.sl kS))),(0,(.p kI)),(0,(.p kI))],58,[(.var 34 cK (.p cK)),(.row 46 kS)],0⟩)(t:R):Option A:=F d.1.1 d.1.2.2.2.1 d.1.2.2.2.2.1 d.2.1 (fun z2=>k (.exit 0) ⟨.any::(.p kI d.1.1)::(.ptr 0 [])::an 4 ((.row 1)::an 80 []),[.var 34 cK (.p cK d.2.1),.row 46 kS z2],0⟩) t d.1.2.2.2.2.2.1 d.2.2.1
def KZ{R:Type}(F:Int→aJ→Int→Int→Int→Int→Unit→(List (List Int))→aJ→Int→Int→Int→Int→Unit→Int→Unit→aJ→Unit→bR→bc→(List Int)→cI→cB→(Dy A)→R→Int→cn→Option A)(k:KK A)(d:LSh.den ⟨[(2,(.ptr 0)),(4,(.row 1)),(2,(.ptr 2)),(45,(.p kI)),(0,(.p kI))],30,[(.var 34 cK (.pr (.p ay) (.pr (.p kI) (.pr (.p kI) (.pr (.p kI) (.pr (.p kI) (.pr (.row 1) (.p .unit)))))))),(.row 46 kS),(.var 116 bF (.pr (.pr (.p ay) (.pr (.p kI) (.pr (.p kI) (.pr (.p kI) (.pr (.p kI) (.pr (.row 1) (.p .unit))))))) (.pr (.ptr 3) (.pr (.p kI) (.pr (.row 7) (.pr (.mp 8) (.pr (.row 9) (.p .unit)))))))),(.var 120 bh (.pr (.p ay) (.pr (.row 4) (.pr (.mp 5) (.pr (.row 6) (.p .unit)))))),(.row 181 a9),(.map aa kI),(.row 3 kI),(.ob 140 .opq bH),(.map aF bk),(.row 475 aF)],0⟩)(t:R):Option A:=F d.1.2.2.2.1 d.2.1.1 d.2.1.2.1 d.2.1.2.2.1 d.2.1.2.2.2.1 d.2.1.2.2.2.2.1 d.2.1.2.2.2.2.2.2 d.2.2.1 d.2.2.2.1.1.1 d.2.2.2.1.1.2.1 d.2.2.2.1.1.2.2.1 d.2.2.2.1.1.2.2.2.1 d.2.2.2.1.1.2.2.2.2.1 d.2.2.2.1.1.2.2.2.2.2.2 d.2.2.2.1.2.2.1 d.2.2.2.1.2.2.2.2.2.2 d.2.2.2.2.1.1 d.2.2.2.2.1.2.2.2.2 d.2.2.2.2.2.1 d.2.2.2.2.2.2.1 d.2.2.2.2.2.2.2.1 d.2.2.2.2.2.2.2.2.2.1 d.2.2.2.2.2.2.2.2.2.2.1 (fun z14=>k (.exit 2) ⟨an 10 ((.ptr 0 [])::an 77 []),[.var 116 bF (.pr (.pr (.p ay d.2.2.2.1.1.1) (.pr (.p kI d.2.2.2.1.1.2.1) (.pr (.p kI d.2.2.2.1.1.2.2.1) (.pr (.p kI d.2.2.2.1.1.2.2.2.1) (.pr (.p kI d.2.2.2.1.1.2.2.2.2.1) (.pr (.row 1) (.p .unit d.2.2.2.1.1.2.2.2.2.2.2))))))) (.pr (.ptr 2 []) (.pr (.p kI d.2.2.2.1.2.2.1) (.pr (.row 6) (.pr (.mp 7) (.pr (.row 8) (.p .unit d.2.2.2.1.2.2.2.2.2.2))))))),.row 46 kS d.2.2.1,.var 120 bh (.pr (.p ay d.2.2.2.2.1.1) (.pr (.row 3) (.pr (.mp 4) (.pr (.row 5) (.p .unit d.2.2.2.2.1.2.2.2.2))))),.row 181 a9 d.2.2.2.2.2.1,.map aa kI d.2.2.2.2.2.2.1,.row 3 kI d.2.2.2.2.2.2.2.1,.ob 140 .opq bH z14 none,.map aF bk d.2.2.2.2.2.2.2.2.2.1,.row 475 aF d.2.2.2.2.2.2.2.2.2.2.1],0⟩) t d.1.2.2.2.2.1 d.2.2.2.2.2.2.2.2.1
def KW(g:xG A):Entry A:=ai [] ⟨[(.p cK),(.p kI)],[],0⟩ fun d k=>g d.1.1 d.1.2.1 (fun r0=>k (.tup [.nilp,.p kI r0]) []) (fun r0 r1 r2 r3 r4 r5 r6 r7 r8 r9 r10 r11 r12 r13 aQ aM r16 r17=>k (.tup [.ptr 0 [],.p kI r0]) [.var 116 bF (.pr (.pr (.p ay r1) (.pr (.p kI r2) (.pr (.p kI r3) (.pr (.p kI r4) (.pr (.p kI r5) (.pr (.row 1) (.p .unit r6))))))) (.pr (.ptr 2 []) (.pr (.p kI r7) (.pr (.row 6) (.pr (.mp 7) (.pr (.row 8) (.p .unit r8))))))),.row 46 kS r9,.var 120 bh (.pr (.p ay r10) (.pr (.row 3) (.pr (.mp 4) (.pr (.row 5) (.p .unit r11))))),.row 181 a9 r12,.map aa kI r13,.row 3 kI aQ,.ob 140 .opq bH aM none,.map aF bk r16,.row 475 aF r17])
section
variable(g87:lm A)(g65:dI A)(g88:ln A)(g89:iV A)(g90:lp A)(n:Nat)
noncomputable def KU:Env A:=Ev [(87,LS g87),(65,mD g65),(88,LU g88),(89,Ci g89),(90,L3 g90)] [(0,au (dl 88 [1,2,7,27,28,29]) (KY (pF g87 g65 g88 g89 g90 n)) n),(1,au (dl 88 [2,7,10,56,57]) (KZ (pG g87 g65 g88 g89 g90 n)) n)] [] []
theorem aib:Lst A (KU g87 g65 g88 g89 g90 n) Tryz.f54 1 (dl 88 [10]) (KZ (BS g87 g65 g88 g89 g90 n)) (KZ (pG g87 g65 g88 g89 g90 n)) fun r d t57 xbbba=>r (((),(),(),d.1.2.2.2.1,t57,d.1.2.2.2.2.2),(d.2.1,d.2.2.1,d.2.2.2.1,d.2.2.2.2.1,d.2.2.2.2.2.1,d.2.2.2.2.2.2.1,d.2.2.2.2.2.2.2.1,xbbba,d.2.2.2.2.2.2.2.2.2)):=.mk
theorem aia:Lst A (KU g87 g65 g88 g89 g90 n) Tryz.f54 0 (dl 88 [1,2,7]) (KY (BR g87 g65 g88 g89 g90 n)) (KY (pF g87 g65 g88 g89 g90 n)) fun r d t29 watch=>r ((d.1.1,(),(),d.1.2.2.2.1,d.1.2.2.2.2.1,t29,d.1.2.2.2.2.2.2),(d.2.1,watch,d.2.2.2)):=.mk
theorem ah9:Qo A (KU g87 g65 g88 g89 g90 n) Tryz.f54 [.own,.pure] (KW (KX g87 g65 g88 g89 g90 n)):=.mk
end
theorem ah8(n:Nat):OK A 54 (KW (BT n)):=ak (ah9 _ _ _ _ _ n) Tryz.func54 (ax (aia _ _ _ _ _ n)<|ax (aib _ _ _ _ _ n) ag) (oc (ai1 n)<|oc (pK n)<|oc (ai3 n)<|oc (Uw n)<|oc (ai8 n) oz)
def Ux:Shape:=⟨[(.ptr 0),(.p kI),(.p kI)],[(.var 308 iB (.pr (.row 1) (.pr (.row 2) (.pr (.mp 3) (.p .unit))))),(.row 163 bG),(.row 24 aa),(.map aa kI)],4⟩
def L5(g:lq A):Entry A:=cu [true,false,false] Ux fun d k=>g d.1.2.1 d.1.2.2.1 d.2.1.2.2.2 d.2.2.1 d.2.2.2.1 d.2.2.2.2.1 (fun r0=>k (.tup [.nilp,.p kI r0]) []) (fun r0 r1=>k (.tup [.ptr 4 [],.p kI r0]) [.var 260 mM (.pr (.ptr 0 []) (.p (.pair kI (.pair kI (.pair kI .unit))) r1))])
theorem ajb(n:Nat):Qr A (Ev [] [] [] []) Tryz.f91 [.own,.pure] (L5 (L6 n)):=.mk
theorem aja(n:Nat):OK A 91 (L5 (vK n)):=cR (ajb n) Tryz.func91 ag oz
def L7(g:lr A):Entry A:=cu [true,false,false] ⟨[.nilp,(.p kI),(.p kI)],[],0⟩ fun d k=>g d.1.2.1 d.1.2.2.1 (fun r0=>k (.tup [.nilp,.p kI r0]) []) (fun r0 r1=>k (.tup [.ptr 0 [],.p kI r0]) [.var 260 mM (.pr (.nilp) (.p (.pair kI (.pair kI (.pair kI .unit))) r1))])
theorem ajd(n:Nat):Qr A (Ev [] [] [] []) Tryz.f91 [.own,.pure] (L7 (L8 n)):=.mk
theorem ajc(n:Nat):OK A 91 (L7 (vL n)):=cR (ajd n) Tryz.func91 ag oz
def L9(g:lu A):Entry A:=ai [] ⟨[],[],0⟩ fun d k=>g (fun r0 r1=>k (.ptr 0 []) [.var 139 dR (.pr (.row 1) (.p .unit r0)),.row 193 cg r1])
theorem ajf(n:Nat):Qo A (Ev [] [] [] []) Tryz.f92 [.own] (L9 (Uy n)):=.mk
theorem aje(n:Nat):OK A 92 (L9 (Ck n)):=ak (ajf n) Tryz.func92 ag oz
def Jj{R:Type}(F:Int→Int→Unit→fA→Int→Unit→(Dz A)→R→Int→Y1→(List Int)→fA→Option A)(k:KK A)(d:LSh.den ⟨[(2,(.ptr 0)),(1,(.ptr 2)),(1,(.ptr 4)),(23,(.p kL)),(0,(.p kL))],21,[(.var 448 sZ (.pr (.p kL) (.pr (.row 1) (.p .unit)))),(.row 486 pW),(.var 385 d5 (.pr (.row 3) (.p (.pair kI (.pair kI .unit))))),(.row 5 kB),(.var 448 sZ (.pr (.p kL) (.pr (.row 5) (.p .unit)))),(.row 486 pW)],0⟩)(t:R):Option A:=F d.1.2.2.2.1 d.2.1.1 d.2.1.2.2 d.2.2.1 d.2.2.2.2.2.1.1 d.2.2.2.2.2.1.2.2 (fun z3 z4 z7=>k (.exit 0) ⟨.any::.any::(.ptr 0 [])::.any::(.ptr 2 [])::.any::(.ptr 4 [])::an 46 [],[.var 448 sZ (.pr (.p kL d.2.1.1) (.pr (.row 1) (.p .unit d.2.1.2.2))),.row 486 pW d.2.2.1,.var 385 d5 (.pr (.row 3) (.p (.pair kI (.pair kI .unit)) z3)),.row 5 kB z4,.var 448 sZ (.pr (.p kL d.2.2.2.2.2.1.1) (.pr (.row 5) (.p .unit d.2.2.2.2.2.1.2.2))),.row 486 pW z7],0⟩) t d.1.2.2.2.2.1 d.2.2.2.1.2 d.2.2.2.2.1 d.2.2.2.2.2.2.1
def Jh(g:qW A):Entry A:=ai [] ⟨[(.p kS)],[],0⟩ fun d k=>g d.1.1 (fun r0 r1=>k (.tup [.p sZ r0,.p kI r1]) [])
section
variable(g139:qy A)(g140:ko A)(g141:qz A)(g200:kF A)(g202:qO A)(g145:qA A)(n:Nat)
noncomputable def S7:Env A:=Ev [(139,uA g139),(140,oe g140),(141,zl g141),(200,sC g200),(202,AE g202),(145,uD g145)] [(0,au (dl 53 [2,4,6,30,31]) (Jj (jO g139 g140 g141 g200 g202 g145 n)) n)] [] []
theorem agn:Lst A (S7 g139 g140 g141 g200 g202 g145 n) Tryz.f251 0 (dl 53 [2,4,6]) (Jj (Bi g139 g140 g141 g200 g202 g145 n)) (Jj (jO g139 g140 g141 g200 g202 g145 n)) fun r d t31 rb ra tba=>r (((),(),(),d.1.2.2.2.1,t31,d.1.2.2.2.2.2),(d.2.1,d.2.2.1,((),rb),ra,d.2.2.2.2.2.1,tba,d.2.2.2.2.2.2.2)):=.mk
theorem agm:Qo A (S7 g139 g140 g141 g200 g202 g145 n) Tryz.f251 [.pure,.pure] (Jh (Ji g139 g140 g141 g200 g202 g145 n)):=.mk
end
theorem agl(n:Nat):OK A 251 (Jh (ve n)):=ak (agm _ _ _ _ _ _ n) Tryz.func251 (ax (agn _ _ _ _ _ _ n) ag) (oc (FJ n)<|oc (uB n)<|oc (Q6 n)<|oc (AD n)<|oc (Sk n)<|oc (FM n) oz)
def JD(g:rg A):Entry A:=ai [] ⟨[(.p kS)],[],0⟩ fun d k=>g d.1.1 (fun r0=>k (.p aa r0) [])
theorem agR(g132:iM A)(n:Nat):Qo A (Ev [(132,ux g132)] [] [] []) Tryz.f275 [.pure] (JD (JE g132 n)):=.mk
theorem agQ(n:Nat):OK A 275 (JD (vo n)):=ak (agR _ n) Tryz.func275 ag (oc (Fv n) oz)
def Jm{R:Type}(F:(List (List Int))→Int→(bx A)→R→Int→(List (List Int))→Option A)(k:KK A)(d:LSh.den ⟨[(3,(.row 0)),(7,(.p (.sl kS))),(0,(.p kI)),(0,(.p kI))],10,[(.row 24 aa)],0⟩)(t:R):Option A:=F d.1.2.1 d.1.2.2.1 (fun z0=>k (.exit 0) ⟨.any::.any::.any::(.row 0)::an 20 [],[.row 24 aa z0],0⟩) t d.1.2.2.2.1 d.2.1
def Jk(g:qX A):Entry A:=ai [] ⟨[(.p bG)],[],0⟩ fun d k=>g d.1.1 (fun r0=>k (.row 0) [.row 24 aa r0])
section
variable(g275:rg A)(n:Nat)
noncomputable def S8:Env A:=Ev [(275,JD g275)] [(0,au (dl 24 [3,11,12,13]) (Jm (o9 g275 n)) n)] [] []
theorem agq:Lst A (S8 g275 n) Tryz.f252 0 (dl 24 [3]) (Jm (Bj g275 n)) (Jm (o9 g275 n)) fun r d t13 out=>r (((),d.1.2.1,d.1.2.2.1,t13,d.1.2.2.2.2),(out,d.2.2)):=.mk
theorem agp:Qo A (S8 g275 n) Tryz.f252 [.own] (Jk (Jl g275 n)):=.mk
end
theorem ago(n:Nat):OK A 252 (Jk (vf n)):=ak (agp _ n) Tryz.func252 (ax (agq _ n) ag) (oc (agQ n) oz)
end Go.Ev
namespace Go.Ev
open Go.Proofs Go.RowKit Go.Shelf
variable{A:Type}
def Tb(g:(List (List Int))→(Bool→Option A)→Option A):Entry A:=jo fun args k=>nD args (.sl aa) fun a0=>g a0 (fun r0=>k (.p .bool r0) [])
noncomputable def agv:Code:=fU [1,0,1,0] (eh Tryz.f253)
noncomputable def sD:Code:=WI agv
noncomputable def Bm:Code:=fU [0,1,0,0] sD
def Jo:List Nat:=[0,1,5,6,7,8,9,10,11,12,13,14,15,16,17,18,19,20,21,22,23]
def Tf:List Nat:=List.range 24
def aak:Nat→List AV:=fun n=>List.replicate n .any
def agx(x:List (List Int))(b:Bool):St:=⟨[.any,.any,.ptr 0 [],.p (.sl aa) x,.any,.any,.any,.any,.any,.any,.any,.any,.any,.any,.any,.any,.any,.any,.any,.any,.any,.any,.any,.any],[.var 4 .bool (.p .bool b)],1⟩
def Jp:Shape:=⟨[.any,.any,(.ptr 0),(.p (.sl aa)),(.p (.int .i64)),.any,.any,.any,.any,.any,.any,.any,.any,.any,.any,.any,.any,.any,.any,.any,.any,.any,.any,.any],[(.var 4 .bool (.p .bool))],1⟩
def gT(b:Bool):St:=⟨aak 24,[.var 4 .bool (.p .bool b)],1⟩
def Td(n:Nat)(d:Jp.den)(k:Ex→St→Option A):Option A:=
 gS n d.1.2.2.2.1 (k .ret (gT true)) (k (.exit 2) (gT d.2.1)) n d.1.2.2.2.2.1
noncomputable def Bk(n:Nat):Env A:=⟨aN,aw,[],[(0,CG Jo Jp (Td n))],[],[],bI,obs⟩
theorem Ta(n:Nat):aO Tryz.prog (Bk (A:=A) n):=bz rfl bA
theorem Tc(n:Nat):cS Tryz.prog (Bk (A:=A) n):=aj.env rfl rfl aj.nil
noncomputable def Jn(n:Nat)(x:List (List Int))(b:Bool)(k:Ex→St→Option A)(f:Nat)(i:Int):Option A:=gd (bY (Bk n) 1 Bm) Jo Tf f (⟨[.any,.any,.ptr 0 [],.p (.sl aa) x,.p (.int .i64) i,.any,.any,.any,.any,.any,.any,.any,.any,.any,.any,.any,.any,.any,.any,.any,.any,.any,.any,.any],[.var 4 .bool (.p .bool b)],1⟩) k
theorem agz(n f:Nat)(x:List (List Int))(b:Bool)(k:Ex→St→Option A)(i:Int):Jn n x b k (f+1) i=vg n x (k .ret (gT true)) (k (.exit 2) (gT b)) (Jn n x b k f) i:=by kernel_rfl
theorem ags(n:Nat)(x:List (List Int))(b:Bool)(k:Ex→St→Option A):∀ (f:Nat) (i:Int),Jn n x b k f i=gS n x (k .ret (gT true)) (k (.exit 2) (gT b)) f i:=by
 intro f
 induction f with
 | zero=>intros;kernel_rfl
 | succ f ih=>intro i;exact(agz n f x b k i).trans ((congrArg (fun r=>vg n x (k .ret (gT true)) (k (.exit 2) (gT b)) r i) (funext fun i=>ih i)).trans (by kernel_rfl))
theorem agt(n:Nat):cl Tryz.prog aw Bm (CG Jo Jp (Td (A:=A) n)):=
 cl.of (Ta n) (Tc n) follows (j:=1) (n:=n) (xdead:=Tf) (vZ (by kernel_rfl:aD 1 Bm=[]) s8) fun d k=>Eq.trans (by kernel_rfl) (ags n d.1.2.2.2.1 d.2.1 k n d.1.2.2.2.2.1)
theorem agr(n:Nat)(x:List (List Int))(b:Bool)(K:Ex→St→Option A):bY (Bk n) 0 sD (agx x b) K=gS n x (K .ret (gT true)) (K .normal (gT b)) n 1:=by kernel_rfl
theorem agw(n:Nat)(x:List (List Int))(kc ks:Bool→Option A)(out:A)(h:gS n x (ks true) (kc false) n 1=some out) :
  ∃ st:Bool,(bif st then ks true else kc false)=some out∧tq sD 24 4 2 3 [.bool false] [.bool st] x st:=by
 have e:=agr n x false (fun x s'=>match s'.hp with|[.var _ _ v]=>eP v .bool fun b=>(match x with|.ret=>bif b==true then ks b else none|.normal=>bif b==false then kc b else none|_=>none)|_=>none)
 rw[show gS n x ((fun x s'=>match s'.hp with|[.var _ _ v]=>eP v .bool fun b=>(match x with|.ret=>bif b==true then ks b else none|.normal=>bif b==false then kc b else none|_=>none)|_=>none:Ex→St→Option A) .ret (gT true)) ((fun x s'=>match s'.hp with|[.var _ _ v]=>eP v .bool fun b=>(match x with|.ret=>bif b==true then ks b else none|.normal=>bif b==false then kc b else none|_=>none)|_=>none:Ex→St→Option A) .normal (gT false)) n 1=some out from h] at e
 obtain⟨st,y',h1,hs⟩:=WW (Ta n) (Tc n) (vZ (by kernel_rfl:aD 0 sD=[(0,Bm)]) (ake rfl (agt n) s8)) rfl (K:=.bool) (y:=false) (x:=x) (nt:=24) (pl:=2) (sl:=3) rfl (fun i av hi=>by
  match i,hi with
  | 0,h|1,h|4,h|5,h|6,h|7,h|8,h|9,h|10,h|11,h|12,h|13,h|14,h|15,h|16,h|17,h|18,h|19,h|20,h|21,h|22,h|23,h=>cases h;exact .inl rfl
  | 2,h=>cases h;exact .inr (.inl ⟨rfl,rfl⟩)
  | 3,h=>cases h;exact .inr (.inr ⟨rfl,rfl⟩)
  | n+24,h=>simp at h) (u:=[.bool false]) (fun X=>rfl) e
 cases st with
 | true=>
  cases y' with
  | true=>exact⟨true,h1,hs _ fun X cs h=>h⟩
  | false=>cases h1
 | false=>
  cases y' with
  | true=>cases h1
  | false=>exact⟨false,h1,hs _ fun X cs h=>h⟩
def S9(n:Nat)(x:List (List Int))(s:Bool)(kc ks:Bool→Option A):Option A:=bif s then none else gS n x (ks true) (kc false) n 1
theorem Te(g:List (List Int)→(List (List Int)→Option A)→Option A)(n:Nat)(k:Bool→Option A):∀ (f:Nat) (x:List (List Int)),mt g n k f x=j0 g (S9 n) k k f x false
 | 0,_=>rfl
 | f+1,x=>by
  simp only[mt,j0,S9,cond_false]
  refine congrArg (fun z=>gS n x (k true) z n 1) ?_
  cases decide ((x.length:Int)>1) with
  | false=>rfl
  | true=>exact congrArg _ (funext fun y=>Te g n k f y)
theorem agy{n:Nat}{x:List (List Int)}{s s' st:Bool}(h:LRun (fun x s st s'=>s=false∧s'=st∧tq sD 24 4 2 3 [.bool false] [.bool st] x st) n x s st s'):s'=st:=by
 induction h with
 | stop h=>exact h.2.1
 | last h _=>exact h.2.1
 | next _ _ _ _ ih=>exact ih
theorem agu(n:Nat):aI Tryz.prog aw 253 (Tb (A:=A) (vi n)):=fun args hp0 k out hr=>by
 cases hp0 with
 | cons b r=>cases hr
 | nil=>
 obtain⟨x,rfl,hr⟩:=ua hr
 have hr:mt (jP n) n (fun r0=>k (.p .bool r0) []) n x=some out:=hr
 rw[Te] at hr
 obtain⟨st,s',h1,hrun⟩:=MJ (Sem:=fun x s st s'=>s=false∧s'=st∧tq sD 24 4 2 3 [.bool false] [.bool st] x st) (fun x s kc ks out h=>by
  cases s with
  | true=>cases h
  | false=>
   obtain⟨st,h1,h2⟩:=agw n x kc ks out h
   refine⟨st,st,?_,rfl,rfl,h2⟩
   cases st<;>exact h1) (TJ n) _ _ _ _ _ _ hr
 have h1:k (.p .bool s') []=some out:=by cases st<;>exact h1
 refine⟨_,_,h1,fun X vals hX ok hglo hargs=>?_,fun h=>nomatch h⟩
 obtain⟨v,hv,hrv⟩:=hargs.get (i:=0) (a:=.p (.sl aa) x) rfl
 have hvals:vals=#[v]:=by
  have hl:=hargs.length
  apply Array.toList_inj.1
  match hm:vals.toList,hl with
  | [u],_=>rw[hm] at hv;simpa using hv
 subst hvals
 obtain⟨p,cp,rfl⟩:=tv hrv
 refine⟨_,X.w,MuLone.run_callFunc_enter Tryz.func253 (by kernel_rfl) rfl _ X.w,.inr ⟨rfl,?_⟩⟩
 refine(callsIn_wide (n:=5)).1 ?_
 refine callsIn_of_wp_marks Tryz.func253 rfl trivial ?_ rfl
 simp only[Tryz.ntmps253,List.size_toArray,List.length_cons,List.length_nil,Nat.reduceAdd,Nat.reduceSub,Array.replicate_succ,Array.replicate_zero,List.push_toArray,List.append_toArray,List.nil_append,List.cons_append]
 gi_wp2
 refine⟨trivial,(Vw _ _ _ _ _).mono ?_⟩
 rintro e w' ⟨rfl,rfl⟩
 gi_wp2
 have hsz:((X.w.alloc (.cells #[.bool false] 4)).alloc (.cells #[.slice p x.length cp] 262)).heap.size=X.w.heap.size+2:=by simp
 have o1:Only (fun b=>X.w.heap.size≤b∧b<X.w.heap.size) X.w ((X.w.alloc (.cells #[.bool false] 4)).alloc (.cells #[.slice p x.length cp] 262)):=(p9 _ _ _).trans (p9 _ _ _)
 have I0:LInv X X X.w.heap.size x (.slice p x.length cp):=⟨hX,ok,hglo,.refl X,fun b h1 h2=>absurd h1 (by omega),Nat.le_refl _,hrv⟩
 have I0:=I0.only o1
 have I1:LInv X ⟨X.ρ,[],X.F,_⟩ _ x (.slice p x.length cp):=⟨I0.hp,I0.ok,I0.glo,I0.evo,fun b h1 _ h3=>absurd (ok.fo b h3).1 (by omega),Nat.le_refl _,I0.rs⟩
 have hB:((X.w.alloc (.cells #[.bool false] 4)).alloc (.cells #[.slice p x.length cp] 262)).heap[X.w.heap.size+1]?=some (.cells #[.slice p x.length cp] 262 (0,0)):=by
  have:=World.alloc_heap_new (X.w.alloc (.cells #[.bool false] 4)) (.cells #[.slice p x.length cp] 262)
  rwa [World.size_alloc] at this
 have hc:((X.w.alloc (.cells #[.bool false] 4)).alloc (.cells #[.slice p x.length cp] 262)).heap[X.w.heap.size]?=some (.cells #[.bool false] 4 (0,0)):=(Below.heap_alloc _ _ _ (by simp)).trans (World.alloc_heap_new _ _)
 refine Vx (S:=fun s W=>W.heap[X.w.heap.size]?=some (.cells #[.bool s] 4 (0,0))) (B:=X.w.heap.size+1)
  (a1:=fun v=>{ tmps:=#[.slice p x.length cp,undef,.pointer (some ⟨X.w.heap.size,0,none⟩),v,undef,.slice p x.length cp,.func (.func 310) #[] #[.pointer (some ⟨X.w.heap.size+1,0,none⟩)],v,undef,undef,undef,undef,undef,undef,undef,undef,undef,undef,undef,undef,undef,undef,undef,undef],defers:=[] })
  hrun I1 hB rfl rfl (m:=3) (fun fn=>?_) (fun W hW=>(hW _ (by simp;omega)).trans hc) (fun X' x' v' I' hs' hD=>?_)
 ·rw[hsz]
  refine⟨⟨by simp only[];omega,by simp only[];omega⟩,⟨by simp only[];omega,by simp only[];omega⟩,⟨by simp only[];omega,by simp only[];omega⟩,by simp,by simp only[];omega,by simp only[];omega,fun W W' s h hs=>(h _ (by omega) (by omega) (by simp only[];omega) (by simp)).trans hs,fun v m W K hK=>?_,fun x1 s1 st1 s2 hs X1 v I hsx Q m hQ=>?_⟩
  ·gi_wp2
   exact hK
  ·obtain⟨rfl,rfl,hsem⟩:=hs
   exact(hsem X1 v X.w.heap.size _ I.hp I.ok I.glo I.rs hsx (I.nF _ (by omega) (by omega)) rfl rfl rfl rfl Q (fun a' W' ho hc=>hQ a' W' (ho.imp fun b hb=>by subst hb;exact⟨⟨by omega,by omega⟩,by simp only[];omega,by simp,by simp⟩) hc)).2 (by kernel_rfl) _ m
 ·cases st with
  | true=>
   simp only[World.size_alloc] at hD ⊢
   have hc2:X'.w.cell? ⟨X.w.heap.size,0,none⟩=some (.bool s'):=by simp[World.cell?,hs']
   refine⟨by simp,.inl ⟨_,_,rfl,run_takeDeferred hD,?_⟩⟩
   obtain⟨Y,hY1,hY2,hY3,hY4,hY5⟩:=MK I' (D:=X.w.heap.size+1+1) (by omega) (by simp) (fun c e f h=>by rw[hD] at h;cases h)
   have hc5:(X'.w.putObj (X.w.heap.size+1+1) (.deferred none)).cell? ⟨X.w.heap.size,0,none⟩=some (.bool s'):=(nJ (World.putObj_heap_other (by simp only[];omega))).trans hc2
   refine⟨.bool s',?_,_,rfl,Y,hY1,hY2,.inr ⟨[.bool s'],rfl,.inr ⟨rfl,rfl⟩⟩,hY3,hY4,hY5⟩
   simp[results,Tryz.f253,go_sem,hc5]
  | false=>
   simp only[World.size_alloc] at hD ⊢
   have hf2:X'.w.frozen? ⟨X.w.heap.size,0,none⟩=false:=by simp[World.frozen?,hs']
   have hc2:X'.w.cell? ⟨X.w.heap.size,0,none⟩=some (.bool s'):=by simp[World.cell?,hs']
   obtain rfl:s'=false:=agy hrun
   gi_wp2
   rw[Xt hs']
   have J:=I'.only ((qa (W:=X'.w) (b:=X.w.heap.size) (o:=.cells #[.bool false] 4 (0,0)) fun c e f hc=>by rw[hs'] at hc;cases hc;exact⟨_,rfl,rfl⟩).imp fun b hb=>by subst hb;exact⟨by omega,by simp;omega⟩)
   have hD':=(World.putObj_heap_other (w:=X'.w) (o:=.cells #[.bool false] 4 (0,0)) (k:=X.w.heap.size+1+1) (r:=X.w.heap.size) (by omega)).trans hD
   refine⟨by simp,.inl ⟨_,_,rfl,run_takeDeferred hD',?_⟩⟩
   obtain⟨Y,hY1,hY2,hY3,hY4,hY5⟩:=MK J (D:=X.w.heap.size+1+1) (by omega) (by simp) (fun c e f h=>by rw[hD'] at h;cases h)
   have hc5:((X'.w.putObj X.w.heap.size (.cells #[.bool false] 4 (0,0))).putObj (X.w.heap.size+1+1) (.deferred none)).cell? ⟨X.w.heap.size,0,none⟩=some (.bool false):=by
    have h1:=(World.putObj_heap_other (w:=X'.w.putObj X.w.heap.size (.cells #[.bool false] 4 (0,0))) (o:=.deferred none) (k:=X.w.heap.size) (r:=X.w.heap.size+1+1) (by omega)).trans (World.putObj_heap_same (Array.getElem?_eq_some_iff.1 hs').1)
    simp[World.cell?,h1]
   refine⟨.bool false,?_,_,rfl,Y,hY1,hY2,.inr ⟨[.bool false],rfl,.inr ⟨rfl,rfl⟩⟩,hY3,hY4,hY5⟩
   simp[results,Tryz.f253,go_sem,hc5]
end Go.Ev
