import Derived.Test.YtbgcimciannhmaaGreatDoorB2
import Derived.Laws.CopyOwn
import Derived.Laws.BytesString
import Derived.Lib.ConvBytes
/- A part of the proof of TopQuiet; no condition. -/
set_option linter.all false
set_option maxRecDepth 100000
namespace Go.Ev
variable{A:Type}
theorem alo(zs:List Value)(m:Nat):∀ n k:Nat,n≤m→k=n*zs.length→((List.replicate m zs).flatten).take k=(List.replicate n zs).flatten:=by
 intro n k hn hk
 obtain⟨d,rfl⟩:∃ d,m=n+d:=⟨m-n,by omega⟩
 rw[← List.replicate_append_replicate,List.flatten_append]
 have hl:(List.replicate n zs).flatten.length=k:=by rw[hk];simp
 rw[List.take_append_of_le_length (by omega),← hl,List.take_length]
theorem ajz{F:Nat→Prop}{w:World}{q:IntKind}{ys:List Int}{css:List (List Value)}(h:All2 (RP F w (.int q)) ys css):css.flatten=ys.map (Value.int q):=by
 induction h with
 | nil=>rfl
 | cons hh _ ih=>simp only[List.flatten_cons,List.map_cons];rw[ih];simp only[RP] at hh;rw[hh];rfl
theorem Mn{css:List (List Value)}(h:∀ c∈css,c.length=1)(n:Nat):(css.take n).flatten=css.flatten.take n:=by
 induction css generalizing n with
 | nil=>simp
 | cons c r ih=>
  have hc:=h c (by simp)
  match c,hc with
  | [v],_=>
   cases n with
   | zero=>simp
   | succ n=>simp only[List.take_succ_cons,List.flatten_cons,List.singleton_append,List.take_succ_cons];rw[ih fun c hc=>h c (by simp[hc])]
theorem ajy{css:List (List Value)}(h:∀ c∈css,c.length=1)(n:Nat):(css.drop n).flatten=css.flatten.drop n:=by
 induction css generalizing n with
 | nil=>simp
 | cons c r ih=>
  have hc:=h c (by simp)
  match c,hc with
  | [v],_=>
   cases n with
   | zero=>simp
   | succ n=>simp only[List.drop_succ_cons,List.flatten_cons,List.singleton_append,List.drop_succ_cons];rw[ih fun c hc=>h c (by simp[hc])]
theorem amx{cs:List Value}{off n:Nat}(h:off+n≤cs.length):bJ cs off (bM cs off n)=cs:=by
 unfold bJ bM
 have hl:(List.take n (List.drop off cs)).length=n:=by simp;omega
 rw[hl,List.append_assoc,← List.drop_drop,List.take_append_drop,List.take_append_drop]
theorem amy{cs A C:List Value}{off lo n:Nat}(hA:bM cs off n=A)(h:off+n≤cs.length)(h2:lo+C.length≤n):bJ cs off (A.take lo++(C++A.drop (lo+C.length)))=bJ cs (off+lo) C:=by
 subst hA
 unfold bJ bM
 have hl:(List.take lo (List.take n (List.drop off cs))++(C++List.drop (lo+C.length) (List.take n (List.drop off cs)))).length=n:=by simp;omega
 rw[hl,List.take_take,Nat.min_eq_left (by omega),List.drop_take]
 have e1:cs.take (off+lo)=cs.take off++(cs.drop off).take lo:=by rw[List.take_add]
 have e2:cs.drop (off+lo+C.length)=(cs.drop off).drop (lo+C.length):=by rw[List.drop_drop,Nat.add_assoc]
 have e3:cs.drop (off+n)=((cs.drop off).drop (lo+C.length)).drop (n-(lo+C.length)):=by rw[List.drop_drop,List.drop_drop];congr 1;omega
 rw[e1,e2,e3]
 simp only[List.append_assoc]
 rw[List.take_append_drop]
section
variable{P:Program}{E:Env A}(T:aO P E){o:Oper}{ev:Operand→AV}{sub:List (Nat×Blk)}{fresh:Nat}{k:bX A}{out:A}
include T in
theorem akn{t:TypeId}{l c:Operand}(ho:o.op=.makeSlice t l c)(h:VJ E t (ev l) (ev c) fresh k=some out):∃ v l,k v l=some out∧aL P o ev sub fresh v l:=by
 have ml:l∈o.op.operands:=by simp[Op.operands,ho]
 have mc:c∈o.op.operands:=by simp[Op.operands,ho]
 obtain⟨q,n,en,h⟩:=nE h
 obtain⟨q',m,em,h⟩:=nE h
 obtain⟨i,hi,h⟩:=bq h
 split at h
 ·rename_i e hd
  obtain⟨j,hj,h⟩:=bq h
  obtain⟨hu,j',hj',hK,hpos,hbp⟩:=T.slice hi hd
  rw[hj] at hj';cases hj'
  split at h
  ·rename_i h0
   split at h
   ·rename_i h1
    split at h
    ·rename_i h2
     obtain⟨inf,z,hin,hz,hszz,hb,hcs,hzr⟩:=T.zeroInfo hj
     obtain⟨inf',_,hin',_,hsz',hby⟩:=T.info hj
     rw[hin] at hin';cases hin'
     refine⟨_,_,h,wh fun X ac at_ _=>?_⟩
     have r1:=at_.opr l ml;rw[en,RS.int] at r1
     have r2:=at_.opr c mc;rw[em,RS.int] at r2
     have hzl:z.cells.toList.length=j.K.size:=by simpa using hcs
     have hm0:0≤m:=by omega
     obtain⟨M,rfl⟩:∃ M:Nat,m=(M:Int):=⟨m.toNat,by omega⟩
     obtain⟨N,rfl⟩:∃ N:Nat,n=(N:Int):=⟨n.toNat,by omega⟩
     have hbn:1≤inf.bytes:=by rw[hby];exact hbp
     have hMb:(M:Int)*inf.bytes≤140737488355328:=by rw[hby];exact h2
     have hM:M*1≤M*inf.bytes:=Nat.mul_le_mul_left _ hbn
     have hMi:((M*inf.bytes:Nat):Int)≤140737488355328:=by rw[Int.natCast_mul];exact hMb
     have hr:=run_make (P:=P) X.w t e inf z hu hin hz q q' N M h0 h1 (by rw[Int.mul_comm];omega) (by omega)
     have hmc:madeCells z.cells (Int.toNat (M:Int)*inf.size)=(List.replicate M z.cells.toList).flatten.toArray:=by
      have:=wN z.cells.toList M
      rw[hzl] at this
      simp only[Array.toArray_toList] at this
      rw[← this]
      unfold madeCells
      rw[Int.toNat_natCast,hsz']
     rw[hmc,Int.toNat_natCast,Int.toNat_natCast] at hr
     refine⟨.slice (some ⟨X.w.heap.size,0,none⟩) N M,some X.w.heap.size,X.w.alloc (.cells (List.replicate M z.cells.toList).flatten.toArray e),?_,rfl,rfl,rfl,by simp,fun q hq=>heap_alloc_old X.w _ hq,fun q hq=>(Option.some.inj hq)▸Nat.le_refl _,fun Y hY W H=>?_⟩
     ·simp only[execOp,ho,r1,r2,Sem.run_bind,hr,Result.andThen_ok];rfl
     ·subst hY
      have hg:(aC X.hp fresh (.row e j.K (List.replicate (Int.toNat (N:Int)) j.K.zero)))[fresh]?=some (.row e j.K (List.replicate (Int.toNat (N:Int)) j.K.zero)):=dh ..
      have hn:ce (X.w.alloc (.cells (List.replicate M z.cells.toList).flatten.toArray e)) X.w.heap.size (List.replicate M z.cells.toList).flatten.toArray e:=.of (heap_alloc_new X.w _)
      have hcap:((List.replicate M z.cells.toList).flatten.toArray).size=M*j.K.size:=by simp[← hzl]
      have hlen:(List.replicate (Int.toNat (N:Int)) j.K.zero).length=N:=by simp
      refine⟨.inr ⟨X.w.heap.size,(List.replicate M z.cells.toList).flatten.toArray,M,List.replicate N z.cells.toList,ck ..,hn,hcap,by rw[hlen];omega,?_,?_,?_⟩,?_⟩
      ·simp only[maxLen];omega
      ·rw[Int.toNat_natCast]
       exact All2.replicate (RP.evo W at_.ok.fo (hzr X.F X.w)) N
      ·rw[hlen]
       exact(alo _ M N _ (by omega) (by rw[hzl])).symm
      ·have:=RS.row_new (Y:=⟨bK X.ρ fresh (some X.w.heap.size),aC X.hp fresh (.row e j.K (List.replicate (Int.toNat (N:Int)) j.K.zero)),X.F,X.w.alloc (.cells (List.replicate M z.cells.toList).flatten.toArray e)⟩) hg (ck ..) hn hcap (by rw[hlen];omega)
       rwa [hlen] at this
    ·cases h
   ·cases h
  ·cases h
 ·cases h
theorem aks(ns:List Int):ns.foldl (fun r n=>r.push (UInt8.ofNat n.toNat)) ByteArray.empty=am ns:=by
 have key:∀ (ns:List Int) (a:Array UInt8),ns.foldl (fun(r:ByteArray) n=>r.push (UInt8.ofNat n.toNat)) ⟨a⟩=⟨a++(ns.map fun n=>UInt8.ofNat n.toNat).toArray⟩:=by
  intro ns
  induction ns with
  | nil=>intro a;simp
  | cons n ns ih=>
   intro a
   show ns.foldl _ (⟨a.push _⟩:ByteArray)=_
   rw[ih]
   congr 1
   apply Array.ext'
   simp
 exact(key ns #[]).trans (by simp[am])
theorem V7{v:AV}(h:∀ (X:Cx) (a:Act),At X a o ev sub→∃ (u:Value) (w':World),(execOp a.eval o).run P X.w=.ok (.value u) w'∧
   w'.os=X.w.os∧w'.tape=X.w.tape∧w'.output=X.w.output∧X.w.heap.size≤w'.heap.size∧(∀ k,k<X.w.heap.size→w'.heap[k]?=X.w.heap[k]?)∧X.w.heap.size<w'.heap.size∧
   ∀ Y:Cx,Y=⟨X.ρ,X.hp,fun b=>X.F b∨b=X.w.heap.size,w'⟩→RS Y v u):aL P o ev sub fresh v []:=
 ⟨by simp,fun X a K Q at_ _ hk=>by
  obtain⟨u,w',hr,h1,h2,h3,h4,h5,h6,h7⟩:=h X a at_
  have W:WEvo X ⟨X.ρ,X.hp,fun b=>X.F b∨b=X.w.heap.size,w'⟩:=⟨h1,h2,h3,h4,fun b c e f hb=>⟨c,by
    have hlt:b<X.w.heap.size:=(Array.getElem?_eq_some_iff.1 hb).1
    exact(h5 b hlt).trans hb,rfl⟩,fun b hb _=>h5 b hb,fun _ _ h=>h,fun _ h=>.inl h,fun b hb=>by
    rcases hb with hb|hb
    ·exact .inl hb
    ·exact .inr (.inr (by rw[hb];exact Nat.le_refl _))⟩
  have H:HEvo X ⟨X.ρ,X.hp,fun b=>X.F b∨b=X.w.heap.size,w'⟩:=⟨fun _ b h hb=>⟨b,h,.refl hb⟩,fun _ _ _ _=>.rfl⟩
  have ok:Ok ⟨X.ρ,X.hp,fun b=>X.F b∨b=X.w.heap.size,w'⟩:=by
   refine⟨fun id b hb=>(at_.ok.blk id b hb).evo W H at_.ok.fo rfl fun n hn=>h5 n (at_.ok.lt ⟨id,b,hb,hn⟩),at_.ok.inj,fun b hb=>?_⟩
   rcases hb with hb|hb
   ·exact⟨Nat.lt_of_lt_of_le (at_.ok.fo b hb).1 h4,(at_.ok.fo b hb).2⟩
   ·subst hb
    exact⟨h6,fun ho=>absurd (at_.ok.lt ho) (Nat.lt_irrefl _)⟩
  unfold Oper.wp;rw[hr]
  exact hk ⟨X.ρ,X.hp,fun b=>X.F b∨b=X.w.heap.size,w'⟩ u rfl (h7 _ rfl) ok W H⟩
theorem D8(F:Nat→Prop)(w:World)(q:IntKind):∀ xs:List Int,All2 (RP F w (.int q)) xs (xs.map fun n=>[Value.int q n])
 | []=>.nil
 | n::r=>.cons rfl (D8 F w q r)
theorem D7(q:IntKind):∀ xs:List Int,(xs.map fun n=>[Value.int q n]).flatten=xs.map (Value.int q)
 | []=>rfl
 | n::r=>by simp only[List.map_cons,List.flatten_cons,D7 q r];rfl
include T in
theorem aaH{s d:TypeId}{x:Operand}{i j:TI}{b:ByteArray}{e:TypeId}(ho:o.op=.convert s d x)(hi:E.ty.lookup s=some i)(hj:E.ty.lookup d=some j)(ex:ev x=.p .str b)(hd:j.d=.slice e){ei:TI}(hei:E.ty.lookup e=some ei)(hek:ei.K=.int .u8):aL P o ev sub fresh (.p (.sl (.int .u8)) (bd b)) []:=by
 have mx:x∈o.op.operands:=by simp[Op.operands,ho]
 obtain⟨ds,hds,_⟩:=T.desc hi
 obtain⟨hu,_⟩:=T.slice hj hd
 have hue:=T.int hei hek
 refine V7 fun X ac at_=>?_
 have h1:=at_.opr x mx
 rw[ex,RS.str] at h1
 have hrun:=Lib.run_convert_string_bytes X.w s d e b hds hu hue
 have hsz:=Lib.bytesWorld_size X.w e b
 have hlen:(bd b).length=b.size:=by unfold bd;simp
 refine⟨.slice (some ⟨X.w.heap.size,0,none⟩) b.size (grownCap X.w b.size 0 e),Lib.bytesWorld X.w e b,by simp only[execOp,ho,h1,Sem.run_bind,hrun,Result.andThen_ok];rfl,rfl,rfl,rfl,by rw[hsz];exact Nat.le_succ _,fun k hk=>Lib.bytesWorld_at_old X.w e b k hk,by rw[hsz];exact Nat.lt_succ_self _,fun Y hY=>?_⟩
 subst hY
 refine .inr ⟨[_],⟨_,grownCap X.w b.size 0 e,by rw[hlen],by rw[hlen];exact grownCap_ge _ _ _ _,fun hp=>⟨⟨X.w.heap.size,0,none⟩,_,rfl,.inr rfl,D8 _ _ _ _,fun jj v hv=>?_⟩⟩,.inr ⟨rfl,rfl⟩⟩
 rw[D7,List.getElem?_map,Option.map_eq_some_iff] at hv
 obtain⟨n,hn,rfl⟩:=hv
 have hjl:jj<b.size:=by rw[← hlen];exact(List.getElem?_eq_some_iff.1 hn).1
 have hc:=Lib.bytesWorld_cell X.w e b jj hjl
 have ha:(Addr.mk X.w.heap.size 0 none).add jj=⟨X.w.heap.size,jj,none⟩:=by
  simp[Addr.add]
  intro h;exact h.symm
 rw[ha]
 refine hc.trans ?_
 unfold bd at hn
 rw[List.getElem?_map,Option.map_eq_some_iff] at hn
 obtain⟨y,hy,rfl⟩:=hn
 rw[List.getD_eq_getElem?_getD,hy]
 rfl
include T in
theorem aaG{s d:TypeId}{x:Operand}{i j:TI}{b:ByteArray}{e:TypeId}(ho:o.op=.convert s d x)(hi:E.ty.lookup s=some i)(hj:E.ty.lookup d=some j)(ex:ev x=.p .str b)(hd:j.d=.slice e){ei:TI}(hei:E.ty.lookup e=some ei)(hek:ei.K=.int .u8)(hb:b.size≤140737488355328):aL P o ev sub fresh (.row fresh) [(fresh,.row e (.int .u8) (bd b))]:=by
 have mx:x∈o.op.operands:=by simp[Op.operands,ho]
 obtain⟨ds,hds,_⟩:=T.desc hi
 obtain⟨hu,_⟩:=T.slice hj hd
 have hue:=T.int hei hek
 refine wh fun X ac at_ _=>?_
 have h1:=at_.opr x mx
 rw[ex,RS.str] at h1
 have hrun:=Lib.run_convert_string_bytes X.w s d e b hds hu hue
 have hlen:(bd b).length=b.size:=by unfold bd;rw[List.length_map];rfl
 have hge:=grownCap_ge X.w b.size 0 e
 have hle:=grownCap_le_maxLen X.w b.size 0 e (by simp only[maxLen];omega)
 have hds2:b.data.size=b.size:=rfl
 have hbc:(Lib.bytesCells X.w e b).size=grownCap X.w b.size 0 e:=by
  simp only[Lib.bytesCells,Array.size_append,Array.size_map,Array.size_replicate,hds2];omega
 refine⟨.slice (some ⟨X.w.heap.size,0,none⟩) b.size (grownCap X.w b.size 0 e),some X.w.heap.size,Lib.bytesWorld X.w e b,?_,rfl,rfl,rfl,by rw[Lib.bytesWorld_size];omega,fun q hq=>Lib.bytesWorld_at_old X.w e b q hq,fun q hq=>(Option.some.inj hq)▸Nat.le_refl _,fun Y hY W H=>?_⟩
 ·simp only[execOp,ho,h1,Sem.run_bind,hrun,Result.andThen_ok];rfl
 ·subst hY
  have hg:(aC X.hp fresh (.row e (.int .u8) (bd b)))[fresh]?=some (.row e (.int .u8) (bd b)):=dh ..
  have hn:ce (Lib.bytesWorld X.w e b) X.w.heap.size (Lib.bytesCells X.w e b) e:=⟨_,.inr rfl,Lib.bytesWorld_at_new X.w e b⟩
  have hcap:(Lib.bytesCells X.w e b).size=grownCap X.w b.size 0 e*(Kind.int .u8).size:=by rw[hbc];simp[Kind.size]
  have hle2:(bd b).length≤grownCap X.w b.size 0 e:=by rw[hlen];exact hge
  refine⟨.inr ⟨X.w.heap.size,Lib.bytesCells X.w e b,grownCap X.w b.size 0 e,(bd b).map (fun n=>[Value.int .u8 n]),ck ..,hn,hcap,hle2,hle,D8 _ _ _ _,?_⟩,?_⟩
  ·rw[D7,hlen]
   simp only[Lib.bytesCells,Array.toList_append,Array.toList_map,Kind.size,Nat.mul_one]
   rw[List.take_append_of_le_length (by rw[List.length_map,Array.length_toList];exact Nat.le_refl _),List.take_of_length_le (by rw[List.length_map,Array.length_toList];exact Nat.le_refl _)]
   unfold bd
   rw[List.map_map]
   rfl
  ·have:=RS.row_new (Y:=⟨bK X.ρ fresh (some X.w.heap.size),aC X.hp fresh (.row e (.int .u8) (bd b)),X.F,Lib.bytesWorld X.w e b⟩) hg (ck ..) hn hcap hle2
   rwa [hlen] at this
include T in
theorem abl{s d:TypeId}{x:Operand}(ho:o.op=.convert s d x)(h:P1 E sub s d (ev x) fresh k=some out):∃ v l,k v l=some out∧aL P o ev sub fresh v l:=by
 have mx:x∈o.op.operands:=by simp[Op.operands,ho]
 obtain⟨i,hi,h⟩:=bq h
 obtain⟨j,hj,h⟩:=bq h
 cases hb:Vk (ev x) with
 | true=>
  rw[hb,cond_true] at h
  split at h
  ·rename_i q q' n hq ex
   obtain⟨ds,hds,_⟩:=T.desc hi
   have hdd:=T.int hj hq
   exact⟨_,_,h,aZ fun X ac at_=>by
    have h1:=at_.opr x mx;rw[ex,RS.int] at h1
    exact⟨_,by simp[execOp,ho,h1,convert,run_underlying hds,run_underlying hdd,Conv.intToInt]<;>rfl,RS.int.2 rfl⟩⟩
  ·cases h
 | false=>
  rw[hb,cond_false] at h
  split at h
  ·rename_i b ex
   split at h
   ·rename_i e hd
    obtain⟨ei,hei,h⟩:=bq h
    split at h
    ·rename_i hek
     cases hnl:E.nils.contains 3000000 with
     | false=>rw[hnl,cond_false] at h;exact⟨_,_,h,aaH T ho hi hj ex hd hei hek⟩
     | true=>
      rw[hnl,cond_true] at h
      split at h
      ·rename_i hbs
       exact⟨_,_,h,aaG T ho hi hj ex hd hei hek hbs⟩
      ·cases h
    ·cases h
   ·cases h
  split at h
  ·rename_i e hq hd
   obtain⟨ei,hei,h⟩:=bq h
   obtain⟨K,ys,h,hl⟩:=CE h
   split at h
   ·rename_i hK;subst hK
    have h:(if ei.K=.int .u8 then k (.p .str (am ys)) [] else none)=some out:=h
    split at h
    ·rename_i hek
     obtain⟨hu,_⟩:=T.slice hi hd
     have hue:=T.int hei hek
     have hdd:=T.str hj hq
     exact⟨_,_,h,aZ fun X ac at_=>by
      obtain⟨ao,c,h1,h2,h3⟩:=(hl X _ at_.ok at_.sub (at_.opr x mx)).get
      refine⟨.string (am ys),?_,RS.str.2 rfl⟩
      have hrun:(Conv.bytesToString (.slice ao ys.length c)).run P X.w=.ok (.string (am ys)) X.w:=by
       by_cases hp:0<ys.length
       ·obtain⟨ad,css,rfl,_,h4,h5⟩:=h3 hp
        have hfl:=ajz h4
        have hlc:=run_loadCells_list (P:=P) X.w ad css.flatten h5
        rw[hfl] at hlc
        rw[List.length_map] at hlc
        rw[run_bytesToString X.w ad ys.length c ys hlc,aks]
       ·have h0:ys=[]:=List.eq_nil_of_length_eq_zero (by omega)
        subst h0
        have:(Conv.bytesToString (.slice ao 0 c)).run P X.w=.ok (.string ByteArray.empty) X.w:=by
         unfold Conv.bytesToString
         cases ao with
         | none=>simp[Sem.run_pure]
         | some ad=>
          have:=run_loadCells_list (P:=P) X.w ad [] (by simp)
          simp only[List.length_nil] at this
          simp[this,Sem.run_pure]
        exact this
      simp only[execOp,ho,h1,Sem.run_bind,run_convert_bytes_string X.w _ _ _ _ _ _ hu hue hdd,hrun,Result.andThen_ok]
      rfl⟩
    ·cases h
   ·cases h
  ·cases h
include T in
theorem abm{t t2:TypeId}{d x:Operand}{c:Call}(ho:o.op=.call c)(hc:c.callee=.builtin .copy)(ha:c.args.toList=[d,x])(ht:c.argTypes.toList=[t,t2])(h:P2 E t sub (ev d) (ev x) k=some out):∃ v l,k v l=some out∧aL P o ev sub fresh v l:=by
 have ha':c.args=#[d,x]:=Array.toList_inj.1 ha
 have ht':c.argTypes=#[t,t2]:=Array.toList_inj.1 ht
 have md:d∈o.op.operands:=by simp[Op.operands,ho,Call.operands,hc,ha']
 have mx:x∈o.op.operands:=by simp[Op.operands,ho,Call.operands,hc,ha']
 obtain⟨ti,hti,h⟩:=bq h
 split at h
 ·rename_i e0 hd
  obtain⟨hu,j,hj,hK,hpos,_⟩:=T.slice hti hd
  obtain⟨K,ys,h,hl⟩:=CE h
  split at h
  ·rename_i id path lo len ed
   obtain⟨B,hB,h⟩:=b9 h
   split at h
   ·rename_i t' KV v
    obtain⟨y0,h,hg⟩:=jT h
    split at h
    ·rename_i n e l
     split at h
     ·rename_i hKe;subst hKe
      split at h
      ·rename_i hK2
       split at h
       ·rename_i hsz
        obtain⟨v',h,hfn,hs⟩:=wx h
        refine⟨_,_,h,mR hB rfl rfl (.var ..) fun X ac at_=>?_⟩
        have h1:=at_.opr d md;rw[ed] at h1
        have hX:=at_.sub _ _ hB
        obtain⟨b,off,n',e',h2,h3,h4,ao,cp,h5,h6,h7⟩:=(nh hX).1 ((RS.one (by simp) (by simp) (by simp) (by simp)).1 h1)
        obtain⟨hfo,b',cs,h8,h9,h10⟩:=at_.ok.blk _ _ hX
        rw[h2] at h8;cases h8
        obtain⟨off',K',h11,h12,h13⟩:=hg hfo h10
        rw[h3] at h11;cases h11
        simp only[AV.fits,decide_eq_true_eq] at h12
        cases h12
        obtain⟨hll,css,hcut,hall⟩:=h13
        have hinf:(P.info? e0).map (·.size)=some 1:=by
         have:=T.size hj
         rw[hK] at hK2;cases hK2;rw[this,hsz]
        obtain⟨sao,sc,g1,g2,g3⟩:=(hl X _ at_.ok at_.sub (at_.opr x mx)).get
        have one:∀ {l:List K.den} {css:List (List Value)},All2 (RP X.F X.w K) l css→∀ c∈css,c.length=1:=fun h c hc=>by rw[← hsz];exact h.lens c hc
        have hA:css.flatten.length=n:=by rw[eT (one hall),← hall.length,hll,Nat.mul_one]
        have hoff:=ga h3
        have hcsl:cs.length=KV.size:=RA.length hfo h10
        have hsize:off+n≤cs.length:=by rw[hcsl];simp only[Kind.size] at hoff;rw[hsz,Nat.mul_one] at hoff;exact hoff
        have hnsz:(Kind.arr n K).size=n:=by simp only[Kind.size];rw[hsz,Nat.mul_one]
        have hcutd:∀ i u,css.flatten[i]?=some u→cs[off+i]?=some u:=fun i u hi=>by
         rw[← hcut] at hi
         exact ja hi
        have exec:∀ (w':World) (r:Nat),(Builtin.copy_ c.argTypes o.type #[ac.eval d,ac.eval x]).run P X.w=.ok (goInt r) w'→(execOp ac.eval o).run P X.w=.ok (.value (.int .i64 r)) w':=fun w' r hr=>by
         simp[execOp,ho,resolve,hc,ha',invoke,builtin]
         rw[hr];rfl
        by_cases hz:min ys.length len=0
        ·
         have hrun:(execOp ac.eval o).run P X.w=.ok (.value (.int .i64 ((min ys.length len:Nat):Int))) X.w:=by
          refine exec _ _ ?_
          rw[ht',g1,h5,hz]
          exact run_copy_none X.w t t2 o.type e0 ao sao len cp ys.length sc hu hinf hz
         have hnew:l.take lo++(ys.take len++l.drop (lo+min ys.length len))=l:=by
          have:ys.take len=[]:=List.eq_nil_of_length_eq_zero (by rw[List.length_take];omega)
          rw[this,hz,List.nil_append,Nat.add_zero,List.take_append_drop]
         have hvc:RA X (.p (.arr n K) (l.take lo++(ys.take len++l.drop (lo+min ys.length len)))) css.flatten:=by rw[hnew];exact⟨hll,css,rfl,hall⟩
         obtain⟨off',K',k1,k2,k3⟩:=hs hfo h10 hvc
         rw[h3] at k1;cases k1
         have hsp:bJ cs off css.flatten=cs:=by
          rw[← hcut,hnsz];exact amx hsize
         rw[hsp] at k3
         refine⟨_,_,b,X.w,hrun,.inl rfl,h2,rfl,rfl,rfl,Nat.le_refl _,fun _ _ _=>rfl,fun c' e' f' hc'=>⟨c',hc',rfl⟩,fun Y hY W H=>?_⟩
         subst hY
         exact⟨⟨hfn hfo,b,cs,h2,h9,k3.evo W H at_.ok.fo⟩,RS.int.2 rfl⟩
        ·have hlen:0<len:=by omega
         have hyl:0<ys.length:=by omega
         have hao:=h7 hlen
         subst hao
         obtain⟨ad,css2,rfl,_,g4,g5⟩:=g3 hyl
         have hC:((css2.take len).flatten).length=min ys.length len:=by rw[Mn (one g4),List.length_take,eT (one g4),← g4.length];omega
         have hrow:=run_copy_row (P:=P) X.w t t2 o.type e0 b (off+lo*K.size) len cp ad ys.length sc cs.toArray t' (css2.take len).flatten hu hinf h9 hC (fun j v hj=>g5 j v (by
           rw[Mn (one g4),List.getElem?_take] at hj
           split at hj
           ·exact hj
           ·cases hj)) (by rw[hC,hsz];simp only[List.size_toArray];omega) (fun v hv=>by
           obtain⟨cc,hcc,hv⟩:=List.mem_flatten.1 hv
           obtain⟨i,hi⟩:=List.mem_iff_getElem?.1 (List.mem_of_mem_take hcc)
           obtain⟨a,_,hr⟩:=g4.get' hi
           exact RP.one hr v hv)
         rw[hC] at hrow
         have hrun:=exec _ _ (by rw[ht',g1,h5];exact hrow)
         have hvc:RA X (.p (.arr n K) (l.take lo++(ys.take len++l.drop (lo+min ys.length len)))) (css.flatten.take lo++((css2.take len).flatten++css.flatten.drop (lo+(css2.take len).flatten.length))):=by
          refine⟨by simp only[List.length_append,List.length_take,List.length_drop];omega,css.take lo++(css2.take len++css.drop (lo+min ys.length len)),?_,(hall.take lo).append ((g4.take len).append (hall.drop _))⟩
          rw[List.flatten_append,List.flatten_append,Mn (one hall),ajy (one hall),hC]
         obtain⟨off',K',k1,k2,k3⟩:=hs hfo h10 hvc
         rw[h3] at k1;cases k1
         rw[hnsz] at hcut
         rw[amy hcut hsize (by rw[hC];omega)] at k3
         have hw:((cs.toArray.toList.take (off+lo*K.size)++(css2.take len).flatten++cs.toArray.toList.drop (off+lo*K.size+min ys.length len)).toArray)=(bJ cs (off+lo) (css2.take len).flatten).toArray:=by
          unfold bJ;rw[hsz,Nat.mul_one,hC]
         rw[hw] at hrun
         refine⟨_,_,b,_,hrun,.inl rfl,h2,rfl,rfl,rfl,by rw[qh];exact Nat.le_refl _,fun k _ hk=>setRow_other _ _ _ _ hk,fun c' e' f' hc'=>⟨_,setRow_heap _ _ _ _ _ _ hc',?_⟩,fun Y hY W H=>?_⟩
         ·rw[h9] at hc';cases hc'
          simp only[List.size_toArray]
          exact wE (by rw[hC];omega)
         ·subst hY
          exact⟨⟨hfn hfo,b,bJ cs (off+lo) (css2.take len).flatten,h2,setRow_heap _ _ _ _ _ _ h9,k3.evo W H at_.ok.fo⟩,RS.int.2 rfl⟩
       ·cases h
      ·cases h
     ·cases h
    ·cases h
   ·cases h
  ·cases h
 ·cases h
end
end Go.Ev
namespace Go.Ev
open Go.ChangeMaps (setBlock)
variable{A:Type}
section
variable{P:Program}{E:Env A}(T:aO P E){o:Oper}{ev:Operand→AV}{sub:List (Nat×Blk)}{fresh:Nat}{k:bX A}{out:A}
theorem VR{α:Type}{R R':α→MapEntry→Prop}{es:List α}{mes:List MapEntry}(h:All2 R es mes)(j:Nat)(e':α)(f:MapEntry→MapEntry){me:MapEntry}(hj:mes[j]?=some me)(hr:∀ a b,R a b→R' a b)(h1:R' e' (f me)):All2 R' (es.set j e') (mes.modify j f):=by
 refine All2.of_get (by simpa using h.length) fun i q mq hq hmq=>?_
 rw[List.getElem?_modify] at hmq
 have hlt:j<es.length:=by rw[h.length];exact(List.getElem?_eq_some_iff.1 hj).1
 by_cases hij:j=i
 ·subst hij
  rw[hj] at hmq
  simp at hmq
  rw[List.getElem?_set_self hlt] at hq;cases hq
  subst hmq
  exact h1
 ·rw[List.getElem?_set_ne hij] at hq
  obtain⟨mq',s1,s2⟩:=h.get hq
  rw[s1] at hmq
  simp[hij] at hmq
  subst hmq;exact hr _ _ s2
def qo(P:Program)(o:Oper)(ev:Operand→AV)(sub:List (Nat×Blk))(fresh:Nat)(v:AV)(l:List (Nat×Blk)):Prop:=
 (∀ t m x,o.op=.lookup t m x false→l=[]∧∃ (id:Nat) (KK KV:Kind) (es:List (KK.den×KV.den)) (y:KK.den),sub.lookup id=some (.map KK KV es)∧
  ∀ B,(B=.map KK KV es∨∃ es' x' g,B=.ment KK KV es' x' g∧(aY KK es' y).getD KV.zero=(aY KK es y).getD KV.zero)→aL P o ev [(id,B)] fresh v [])∧
 (∀ t m x,o.op=.mapEntry t m x→∃ (id:Nat) (KK KV:Kind) (es:List (KK.den×KV.den)) (x0:KK.den),sub.lookup id=some (.map KK KV es)∧
  l=[(fresh,.stp),(id,.ment KK KV (bw KK es x0 ((aY KK es x0).getD KV.zero)) x0 fresh)])
theorem akP{id:Nat}{KK KV:Kind}{es es':List (KK.den×KV.den)}{x:KK.den}{v0:AV}(hB:sub.lookup id=some (.map KK KV es))(h:∀ (X:Cx) (a:Act),At X a o ev sub→∃ (u0:Value) (n b:Nat) (mes mes':Array MapEntry) (clock clock':Nat),(execOp a.eval o).run P X.w=.ok (.value (.tuple #[u0,goInt n])) (setBlock X.w b (.map mes' clock'))∧
   X.ρ id=some b∧X.w.heap[b]?=some (.map mes clock)∧aE X v0 u0∧All2 (fun e (me:MapEntry)=>aE X (.p KK e.1) me.key∧aE X (.p KV e.2) me.val) es' mes'.toList∧dN mes'.toList clock'∧
   ∃ j e me,es'[j]?=some e∧e.1=x∧mes'.toList[j]?=some me∧me.born=n∧∀ v,bw KK es' x v=es'.set j (x,v)) :
  aL P o ev sub fresh (.tup [v0,.mp fresh]) [(fresh,.stp),(id,.ment KK KV es' x fresh)]:=
 ⟨fun q hq=>by
  rcases List.mem_cons.1 hq with rfl|hq
  ·exact .inl (Nat.le_refl _)
  ·simp at hq;subst hq;exact .inr ⟨_,hB⟩,fun X a K Q at_ hun hk=>by
  obtain⟨u0,n,b,mes,mes',clock,clock',hr,hρ,hh,hv0,hall,hbo,j,e,me,q1,q2,q3,q4,q5⟩:=h X a at_
  have hX:=at_.sub _ _ hB
  have hf:X.unused fresh:=hun (fresh,.stp) (by simp) (Nat.le_refl _)
  have hne:id≠fresh:=hf.ne hX (by simp)
  have hlt:b<X.w.heap.size:=(Array.getElem?_eq_some_iff.1 hh).1
  obtain⟨ok1,W1,H1⟩:=amA at_.ok hf (q:=some n) (Y:=⟨bK X.ρ fresh (some n),aC X.hp fresh .stp,X.F,X.w⟩) rfl
  have hb':(setBlock X.w b (.map mes' clock')).heap[b]?=some (.map mes' clock'):=by simp[setBlock,Array.getElem?_setIfInBounds,hlt]
  obtain⟨ok2,W2,H2⟩:=Yf ok1 (id:=id) (n:=b) (B:=.map KK KV es) (B':=.ment KK KV es' x fresh) (et _ _ _ hne hX) rfl ((dp _ _ _ hne).trans hρ) (.mm ..) rfl
   (w':=setBlock X.w b (.map mes' clock')) (Y:=⟨bK X.ρ fresh (some n),aC (aC X.hp fresh .stp) id (.ment KK KV es' x fresh),X.F,setBlock X.w b (.map mes' clock')⟩) rfl rfl rfl rfl (by simp[setBlock])
   (fun q _ hq=>by simp[setBlock,Array.getElem?_setIfInBounds,Ne.symm hq]) (fun c e f hc=>by rw[hh] at hc;cases hc)
   (fun W H=>⟨b,mes',clock',(dp _ _ _ hne).trans hρ,hb',hall.imp fun _ _ _ _ hr=>⟨(hr.1.evo W1 H1 at_.ok.fo).evo W H ok1.fo,(hr.2.evo W1 H1 at_.ok.fo).evo W H ok1.fo⟩,hbo,
    j,e,me,.stp,q1,q2,q3,et _ _ _ (Ne.symm hne) (dh _ _ _),by simp,by rw[q4];exact ck _ _ _,q5⟩)
  unfold Oper.wp;rw[hr]
  refine hk _ (.tuple #[u0,goInt n]) rfl ⟨_,rfl,.cons ((hv0.evo W1 H1 at_.ok.fo).evo W2 H2 ok1.fo) (.cons ?_ .nil)⟩ ok2 (W1.trans W2) (H1.trans H2)
  have:=(Ob (X:=⟨bK X.ρ fresh (some n),aC (aC X.hp fresh .stp) id (.ment KK KV es' x fresh),X.F,setBlock X.w b (.map mes' clock')⟩) (id:=fresh) (v:=goInt n) (et _ _ _ (Ne.symm hne) (dh _ _ _))).2 ⟨n,ck _ _ _,rfl⟩
  exact((RS.one (by simp) (by simp) (by simp) (by simp)).2 this).to0 (by simp)⟩
include T in
theorem VL{t:TypeId}{m x:Operand}(ho:o.op=.mapEntry t m x)(h:VK E t sub (ev m) (ev x) fresh k=some out):∃ v l,k v l=some out∧aL P o ev sub fresh v l∧qo P o ev sub fresh v l:=by
 have mm:m∈o.op.operands:=by simp[Op.operands,ho]
 have mx:x∈o.op.operands:=by simp[Op.operands,ho]
 obtain⟨i,a,b,ia,ib,hi,hd,hia,hib,hcmp,hflat,h⟩:=pY h
 have hu:=T.map hi hd
 have hk:=(T.cmp hia hcmp).1
 split at h
 ·rename_i id KK' y em ex
  obtain⟨B,hB,h⟩:=b9 h
  split at h
  ·rename_i KK KV es
   split at h
   ·rename_i hKK;subst hKK
    split at h
    ·rename_i hKK;subst hKK
     split at h
     ·rename_i hKV;subst hKV
      refine⟨_,_,h,akP hB fun X ac at_=>?_,fun t' m' x' h'=>(by rw[ho] at h';cases h'),fun t' m' x' _=>⟨id,ia.K,ib.K,es,y,hB,rfl⟩⟩
      have h1:=at_.opr m mm;rw[em] at h1
      have h2:=(at_.opr x mx).to0 (by rw[ex];simp)
      rw[ex] at h2
      have hX:=at_.sub _ _ hB
      obtain⟨b',h3,h4⟩:=(ly hX).1 ((RS.one (by simp) (by simp) (by simp) (by simp)).1 h1)
      obtain⟨b'',mes,clock,h5,h6,h7,hbo⟩:=at_.ok.blk _ _ hX
      rw[h3] at h5;cases h5
      obtain⟨r,h8,h9⟩:=vR T hia hk h2 X.w es mes.toList h7 0
      have hck':(Instr.checkKey false 10000 a (ac.eval x)).run P X.w=.ok () X.w:=nK T false 100 a ia hia hk 9900 y _ X.w h2
      have hfk:(Instr.findKey a (ac.eval x) mes.toList).run P X.w=.ok r X.w:=vQ T hia hcmp h2 h7 h8
      have hgo:(getObj b').run P X.w=.ok (.map mes clock) X.w:=by simp[getObj,Sem.run,h6]
      have hso:∀ o',(setObj b' o').run P X.w=.ok () (setBlock X.w b' o'):=fun o'=>Go.MapKept.run_setObj_map o' h6
      obtain⟨z,hz,hzr,_⟩:=T.zero hib X.w X
      rcases h9 with ⟨rfl,g0,g2,_⟩|⟨j,e,me,rfl,g1,g2,g3,g4,g5,_⟩
      ·refine⟨z,clock,b',mes,mes.push ⟨ac.eval x,z,clock⟩,clock,clock+1,?_,h3,h6,by rw[g0];exact hzr,?_,?_,es.length,(y,ib.K.zero),⟨ac.eval x,z,clock⟩,?_,rfl,?_,rfl,fun v=>?_⟩
       ·simp[execOp,ho,Instr.mapEntry,run_underlying hu,h4,hgo,hck',hfk,hso,hz]
       ·rw[g0,g2,Array.toList_push];exact h7.append (.cons ⟨h2,hzr⟩ .nil)
       ·rw[Array.toList_push];exact hbo.push _ _
       ·rw[g0,g2];simp
       ·rw[Array.toList_push,h7.length];simp
       ·rw[MS,g0,g2 v,g2];simp
      ·obtain⟨e',q1,q2⟩:=h7.get' g2
       rw[g1] at q1;cases q1
       rw[g3] at q2
       have hks:(Instr.keyThatStays me.key (ac.eval x)).run P X.w=.ok (ac.eval x) X.w:=Xz hflat q2.1 h2
       have hme:mes[j]?=some me:=by rw[← Array.getElem?_toList];exact g2
       have hlt:j<es.length:=(List.getElem?_eq_some_iff.1 g1).1
       have hlt2:j<mes.toList.length:=(List.getElem?_eq_some_iff.1 g2).1
       refine⟨me.val,me.born,b',mes,mes.modify j fun e=>{ e with key:=ac.eval x },clock,clock,?_,h3,h6,by rw[g4];exact q2.2,?_,?_,j,(y,e.2),{ me with key:=ac.eval x },?_,rfl,?_,rfl,fun v=>?_⟩
       ·simp[execOp,ho,Instr.mapEntry,run_underlying hu,h4,hgo,hck',hfk,hme,hks,hso]
       ·rw[g4,g5,Array.toList_modify]
        exact VR h7 j _ _ g2 (fun _ _ h=>h) ⟨h2,q2.2⟩
       ·rw[Array.toList_modify];exact hbo.same (yo _ _ _ fun _=>rfl)
       ·rw[g4,g5,List.getElem?_set_self hlt];rfl
       ·rw[Array.toList_modify,List.getElem?_modify,g2];simp
       ·rw[MS,g4,g5 v,g5,List.set_set]
     ·cases h
    ·cases h
   ·cases h
  ·cases h
 ·cases h
theorem abQ{t:TypeId}{m s v:Operand}(ho:o.op=.entryStore t m s v)(h:Et sub (ev m) (ev s) (ev v) (fun l=>k .any l)=some out):∃ v l,k v l=some out∧aL P o ev sub fresh v l:=by
 have mm:m∈o.op.operands:=by simp[Op.operands,ho]
 have ms:s∈o.op.operands:=by simp[Op.operands,ho]
 have mv:v∈o.op.operands:=by simp[Op.operands,ho]
 unfold Et at h
 split at h
 ·rename_i id g KV' z em es' ez
  obtain⟨B,hB,h⟩:=b9 h
  split at h
  ·rename_i KK KV es x g'
   split at h
   ·rename_i hg;subst hg
    split at h
    ·rename_i hKV;subst hKV
     obtain⟨B2,hB2,h⟩:=b9 h
     split at h
     ·refine⟨_,_,h,mR hB rfl rfl (.me ..) fun X ac at_=>?_⟩
      have h1:=at_.opr m mm;rw[em] at h1
      have hv:=(at_.opr v mv).to0 (by rw[ez];simp)
      rw[ez] at hv
      have hs:=at_.opr s ms;rw[es'] at hs
      have hX:=at_.sub _ _ hB
      have hX2:=at_.sub _ _ hB2
      obtain⟨b',h3,h4⟩:=(Oa hX).1 ((RS.one (by simp) (by simp) (by simp) (by simp)).1 h1)
      obtain⟨n,s3,s4⟩:=(Ob hX2).1 ((RS.one (by simp) (by simp) (by simp) (by simp)).1 hs)
      obtain⟨b'',mes,clock,h5,h6,h7,hbo,j,e,me,bg,q1,q2,q3,q4,q5,q6,q7⟩:=at_.ok.blk _ _ hX
      rw[h3] at h5;cases h5
      rw[s3] at q6;cases q6
      have hgo:(getObj b').run P X.w=.ok (.map mes clock) X.w:=by simp[getObj,Sem.run,h6]
      have hso:∀ o',(setObj b' o').run P X.w=.ok () (setBlock X.w b' o'):=fun o'=>Go.MapKept.run_setObj_map o' h6
      have hlt:b'<X.w.heap.size:=(Array.getElem?_eq_some_iff.1 h6).1
      obtain⟨hj,hj2⟩:=List.getElem?_eq_some_iff.1 q3
      have hfind:mes.findIdx? (fun e=>(e.born:Int)==(me.born:Int))=some j:=by
       rw[Array.findIdx?_eq_some_iff_getElem]
       refine⟨by simpa using hj,?_,fun i hi=>?_⟩
       ·have:mes[j]'(by simpa using hj)=me:=by rw[← hj2];simp
        rw[this];simp
       ·have hij:i<mes.toList.length:=by omega
        have hne:mes.toList[i].born≠mes.toList[j].born:=fun he=>by
         have:=List.pairwise_iff_getElem.1 hbo.1 i j (by simpa using hij) (by simpa using hj) hi
         exact this (by simpa using he)
        rw[hj2] at hne
        simp at hne
        simp;omega
      refine⟨.skip,undef,b',setBlock X.w b' (.map (mes.modify j fun e=>{ e with val:=ac.eval v }) clock),?_,.inr ⟨rfl,rfl⟩,h3,rfl,rfl,rfl,by simp[setBlock],fun q _ hq=>by simp[setBlock,Array.getElem?_setIfInBounds,Ne.symm hq],fun c e f hc=>(by rw[h6] at hc;cases hc),fun Y hY W H=>?_⟩
      ·simp[execOp,ho,Instr.entryStore,h4,hgo,s4,goInt,Go.asInt,asIntOf,hfind,hso]
      ·subst hY
       have hn:(setBlock X.w b' (.map (mes.modify j fun e=>{ e with val:=ac.eval v }) clock)).heap[b']?=some (.map (mes.modify j fun e=>{ e with val:=ac.eval v }) clock):=by simp[setBlock,Array.getElem?_setIfInBounds,hlt]
       obtain⟨e',p1,p2⟩:=h7.get' q3
       rw[q1] at p1;cases p1
       rw[q2] at p2
       refine⟨⟨b',_,clock,h3,hn,?_,?_⟩,RS.any _⟩
       ·rw[q7,Array.toList_modify]
        exact VR h7 j _ _ q3 (fun _ _ hr=>⟨hr.1.evo W H at_.ok.fo,hr.2.evo W H at_.ok.fo⟩) ⟨p2.1.evo W H at_.ok.fo,hv.evo W H at_.ok.fo⟩
       ·rw[Array.toList_modify];exact hbo.same (yo _ _ _ fun _=>rfl)
     ·cases h
    ·cases h
   ·cases h
  ·cases h
 ·cases h
include T in
theorem abF{t:TypeId}{ts:List TypeId}{m x:Operand}{c:Call}(ho:o.op=.call c)(hc:c.callee=.builtin .delete)(ha:c.args.toList=[m,x])(ht:c.argTypes.toList=t::ts)(h:Ql E t sub (ev m) (ev x) (k (.tup []))=some out):∃ v l,k v l=some out∧aL P o ev sub fresh v l:=by
 have ha':c.args=#[m,x]:=Array.toList_inj.1 ha
 have ht':c.argTypes=(t::ts).toArray:=Array.toList_inj.1 (by simpa using ht)
 have mm:m∈o.op.operands:=by simp[Op.operands,ho,Call.operands,hc,ha']
 have mx:x∈o.op.operands:=by simp[Op.operands,ho,Call.operands,hc,ha']
 obtain⟨i,a,b,ia,ib,hi,hd,hia,hib,hcmp,hflat,h⟩:=pY h
 have hu:=T.map hi hd
 have hk:=(T.cmp hia hcmp).1
 split at h
 ·rename_i id KK' y em ex
  obtain⟨B,hB,h⟩:=b9 h
  split at h
  ·rename_i KK KV es
   split at h
   ·rename_i hKK;subst hKK
    split at h
    ·rename_i hKK;subst hKK
     refine⟨_,_,h,mR hB rfl rfl (.map ..) fun X ac at_=>?_⟩
     have h1:=at_.opr m mm;rw[em] at h1
     have h2:=(at_.opr x mx).to0 (by rw[ex];simp)
     rw[ex] at h2
     have hX:=at_.sub _ _ hB
     obtain⟨b',h3,h4⟩:=(ly hX).1 ((RS.one (by simp) (by simp) (by simp) (by simp)).1 h1)
     obtain⟨b'',mes,clock,h5,h6,h7,hbo⟩:=at_.ok.blk _ _ hX
     rw[h3] at h5;cases h5
     obtain⟨r,h8,h9⟩:=vR T hia hk h2 X.w es mes.toList h7 0
     have hck':(Instr.checkKey mes.isEmpty 10000 a (ac.eval x)).run P X.w=.ok () X.w:=nK T mes.isEmpty 100 a ia hia hk 9900 y _ X.w h2
     have hfk:(Instr.findKey a (ac.eval x) mes.toList).run P X.w=.ok r X.w:=vQ T hia hcmp h2 h7 h8
     have hgo:(getObj b').run P X.w=.ok (.map mes clock) X.w:=by simp[getObj,Sem.run,h6]
     have hso:∀ o',(setObj b' o').run P X.w=.ok () (setBlock X.w b' o'):=fun o'=>Go.MapKept.run_setObj_map o' h6
     have hlt:b'<X.w.heap.size:=(Array.getElem?_eq_some_iff.1 h6).1
     have fin:∀ (mes':Array MapEntry),All2 (fun e (me:MapEntry)=>aE X (.p ia.K e.1) me.key∧aE X (.p KV e.2) me.val) (jm ia.K es y) mes'.toList→dN mes'.toList clock→
       (execOp ac.eval o).run P X.w=.ok (.value (.tuple #[])) (setBlock X.w b' (.map mes' clock))→
       ∃ (r:Next) (u:Value) (n:Nat) (w':World),(execOp ac.eval o).run P X.w=.ok r w'∧(r=.value u∨(r=.skip∧u=undef))∧X.ρ id=some n∧
       w'.os=X.w.os∧w'.tape=X.w.tape∧w'.output=X.w.output∧X.w.heap.size≤w'.heap.size∧(∀ k,k<X.w.heap.size→k≠n→w'.heap[k]?=X.w.heap[k]?)∧
       (∀ (c:Array Value) (e:TypeId) (f:Nat×Nat),X.w.heap[n]?=some (Obj.cells c e f)→∃ c':Array Value,w'.heap[n]?=some (Obj.cells c' e f)∧c'.size=c.size)∧
       ∀ Y:Cx,Y=⟨X.ρ,aC X.hp id (.map ia.K KV (jm ia.K es y)),X.F,w'⟩→WEvo X Y→HEvo X Y→RB Y id (.map ia.K KV (jm ia.K es y))∧RS Y (.tup []) u:=by
      intro mes' g1 hbo' g2
      refine⟨.value (.tuple #[]),.tuple #[],b',setBlock X.w b' (.map mes' clock),g2,.inl rfl,h3,rfl,rfl,rfl,by simp[setBlock],fun q _ hq=>by simp[setBlock,Array.getElem?_setIfInBounds,Ne.symm hq],fun c e f hc=>(by rw[h6] at hc;cases hc),fun Y hY W H=>?_⟩
      subst hY
      have hn:(setBlock X.w b' (.map mes' clock)).heap[b']?=some (.map mes' clock):=by simp[setBlock,Array.getElem?_setIfInBounds,hlt]
      exact⟨⟨b',mes',clock,h3,hn,g1.imp fun _ _ _ _ hr=>⟨hr.1.evo W H at_.ok.fo,hr.2.evo W H at_.ok.fo⟩,hbo'⟩,⟨_,rfl,.nil⟩⟩
     rcases h9 with ⟨rfl,_,_,g3⟩|⟨j,e,me,rfl,g1,g2,_,_,_,g6⟩
     ·refine fin mes (by rw[g3];exact h7) hbo ?_
      simp[execOp,ho,resolve,hc,ha',invoke,builtin,Builtin.delete_,ht',run_underlying hu,h4,hgo,hck',hfk,hso]
     ·refine fin (mes.eraseIdxIfInBounds j) ?_ ?_ ?_
      ·rw[g6,Array.toList_eraseIdxIfInBounds]
       exact All2.of_get (by simp only[List.length_eraseIdx,h7.length]) fun i q mq hq hmq=>by
        rw[List.getElem?_eraseIdx] at hq hmq
        split at hq
        ·rename_i hl
         rw[if_pos hl] at hmq
         obtain⟨mq',s1,s2⟩:=h7.get hq
         rw[s1] at hmq;cases hmq;exact s2
        ·rename_i hl
         rw[if_neg hl] at hmq
         obtain⟨mq',s1,s2⟩:=h7.get hq
         rw[s1] at hmq;cases hmq;exact s2
      ·rw[Array.toList_eraseIdxIfInBounds];exact hbo.sub (List.eraseIdx_sublist ..)
      ·simp[execOp,ho,resolve,hc,ha',invoke,builtin,Builtin.delete_,ht',run_underlying hu,h4,hgo,hck',hfk,hso]
    ·cases h
   ·cases h
  ·cases h
 ·cases h
include T in
theorem aa4{t:TypeId}{ts:List TypeId}{m:Operand}{c:Call}(ho:o.op=.call c)(hc:c.callee=.builtin .clear)(ha:c.args.toList=[m])(ht:c.argTypes.toList=t::ts)(h:PT E t sub (ev m) (k (.tup []))=some out):∃ v l,k v l=some out∧aL P o ev sub fresh v l:=by
 have ha':c.args=#[m]:=Array.toList_inj.1 ha
 have ht':c.argTypes=(t::ts).toArray:=Array.toList_inj.1 (by simpa using ht)
 have mm:m∈o.op.operands:=by simp[Op.operands,ho,Call.operands,hc,ha']
 obtain⟨i,a,b,ia,ib,hi,hd,hia,hib,hcmp,hflat,h⟩:=pY h
 have hu:=T.map hi hd
 split at h
 ·rename_i id em
  obtain⟨B,hB,h⟩:=b9 h
  split at h
  ·rename_i KK KV es
   refine⟨_,_,h,mR hB rfl rfl (.map ..) fun X ac at_=>?_⟩
   have h1:=at_.opr m mm;rw[em] at h1
   have hX:=at_.sub _ _ hB
   obtain⟨b',h3,h4⟩:=(ly hX).1 ((RS.one (by simp) (by simp) (by simp) (by simp)).1 h1)
   obtain⟨b'',mes,clock,h5,h6,h7,hbo⟩:=at_.ok.blk _ _ hX
   rw[h3] at h5;cases h5
   have hgo:(getObj b').run P X.w=.ok (.map mes clock) X.w:=by simp[getObj,Sem.run,h6]
   have hso:∀ o',(setObj b' o').run P X.w=.ok () (setBlock X.w b' o'):=fun o'=>Go.MapKept.run_setObj_map o' h6
   have hlt:b'<X.w.heap.size:=(Array.getElem?_eq_some_iff.1 h6).1
   refine⟨.value (.tuple #[]),.tuple #[],b',setBlock X.w b' (.map #[] clock),?_,.inl rfl,h3,rfl,rfl,rfl,by simp[setBlock],fun q _ hq=>by simp[setBlock,Array.getElem?_setIfInBounds,Ne.symm hq],fun c e f hc=>(by rw[h6] at hc;cases hc),fun Y hY W H=>?_⟩
   ·simp[execOp,ho,resolve,hc,ha',invoke,builtin,Builtin.clear_,ht',run_underlying hu,h4,hgo,hso]
   ·subst hY
    have hn:(setBlock X.w b' (.map #[] clock)).heap[b']?=some (.map #[] clock):=by simp[setBlock,Array.getElem?_setIfInBounds,hlt]
    exact⟨⟨b',#[],clock,h3,hn,.nil,.nil _⟩,⟨_,rfl,.nil⟩⟩
  ·cases h
 ·cases h
theorem MQ{K:Kind}{V:Type}:∀ (es:List (K.den×V)) (x:K.den) (v:V) (y:K.den),aY K (bw K es x v) y=if @decide (x=y) (K.dec x y) then some v else aY K es y
 | [],x,v,y=>by simp[bw,aY]
 | e::r,x,v,y=>by
  by_cases h:e.1=x
  ·subst h
   by_cases hy:e.1=y
   ·simp[bw,aY,hy]
   ·simp[bw,aY,hy]
  ·by_cases hy:x=y
   ·subst hy
    simp[bw,aY,h,MQ r x v x]
   ·simp only[bw,aY,h,decide_false,Bool.false_eq_true,if_false,MQ r x v y]
    by_cases hey:e.1=y<;>simp[hey,hy]
theorem akh{K:Kind}{V:Type}(es:List (K.den×V))(x y:K.den)(z:V):(aY K (bw K es x ((aY K es x).getD z)) y).getD z=(aY K es y).getD z:=by
 rw[MQ]
 by_cases h:x=y
 ·subst h;simp
 ·simp[h]
theorem ako{X:Cx}(ok:Ok X){id:Nat}{B:Blk}{KK KV:Kind}{es:List (KK.den×KV.den)}(hX:X.hp[id]?=some B)(hB:B=.map KK KV es∨∃ x g,B=.ment KK KV es x g){u:Value}(h:RS X (.mp id) u) :
  ∃ b mes clock,u=.map (some b)∧X.w.heap[b]?=some (.map mes clock)∧All2 (fun e (me:MapEntry)=>aE X (.p KK e.1) me.key∧aE X (.p KV e.2) me.val) es mes.toList:=by
 have h1:=(RS.one (by simp) (by simp) (by simp) (by simp)).1 h
 rcases hB with rfl|⟨x,g,rfl⟩
 ·obtain⟨b,h3,h4⟩:=(ly hX).1 h1
  obtain⟨b',mes,clock,h5,h6,h7,_⟩:=ok.blk _ _ hX
  rw[h3] at h5;cases h5
  exact⟨b,mes,clock,h4,h6,h7⟩
 ·obtain⟨b,h3,h4⟩:=(Oa hX).1 h1
  obtain⟨b',mes,clock,h5,h6,h7,_⟩:=ok.blk _ _ hX
  rw[h3] at h5;cases h5
  exact⟨b,mes,clock,h4,h6,h7⟩
include T in
theorem akj{t:TypeId}{m x:Operand}(ho:o.op=.lookup t m x false)(h:MN E t sub (ev m) (ev x) false (fun v=>k v [])=some out):∃ v l,k v l=some out∧aL P o ev sub fresh v l∧qo P o ev sub fresh v l:=by
 obtain⟨v,l,hk',hsem⟩:=VD (fresh:=fresh) T ho h
 have mm:m∈o.op.operands:=by simp[Op.operands,ho]
 have mx:x∈o.op.operands:=by simp[Op.operands,ho]
 obtain⟨i,a,b,ia,ib,hi,hd,hia,hib,hcmp,hflat,h⟩:=pY h
 have hu:=T.map hi hd
 have hk:=(T.cmp hia hcmp).1
 split at h
 ·rename_i id KK' y em ex
  obtain⟨B,hB,h⟩:=b9 h
  split at h
  ·rename_i KK KV es
   split at h
   ·rename_i hKK;subst hKK
    split at h
    ·rename_i hKK;subst hKK
     split at h
     ·rename_i hKV;subst hKV
      have alt:∀ B,(B=.map ia.K ib.K es∨∃ es' x' g,B=.ment ia.K ib.K es' x' g∧(aY ia.K es' y).getD ib.K.zero=(aY ia.K es y).getD ib.K.zero)→
        aL P o ev [(id,B)] fresh (.p ib.K ((aY ia.K es y).getD ib.K.zero)) []:=fun B hBB=>aZ fun X ac at_=>by
       have h1:=at_.opr m mm;rw[em] at h1
       have h2:=(at_.opr x mx).to0 (by rw[ex];simp)
       rw[ex] at h2
       have hX:X.hp[id]?=some B:=at_.sub _ _ (by simp[List.lookup])
       obtain⟨es',hm,hz⟩:∃ es',(B=.map ia.K ib.K es'∨∃ x g,B=.ment ia.K ib.K es' x g)∧(aY ia.K es' y).getD ib.K.zero=(aY ia.K es y).getD ib.K.zero:=by
        rcases hBB with rfl|⟨es',x',g,rfl,hz⟩
        ·exact⟨es,.inl rfl,rfl⟩
        ·exact⟨es',.inr ⟨x',g,rfl⟩,hz⟩
       obtain⟨b',mes,clock,h4,h6,h7⟩:=ako at_.ok hX hm h1
       obtain⟨r,h8,h9⟩:=vR T hia hk h2 X.w es' mes.toList h7 0
       have hck':(Instr.checkKey mes.isEmpty 10000 a (ac.eval x)).run P X.w=.ok () X.w:=nK T mes.isEmpty 100 a ia hia hk 9900 y _ X.w h2
       have hfk:(Instr.findKey a (ac.eval x) mes.toList).run P X.w=.ok r X.w:=vQ T hia hcmp h2 h7 h8
       obtain⟨z,hz',hzr,_⟩:=T.zero hib X.w X
       have hgo:(getObj b').run P X.w=.ok (.map mes clock) X.w:=by simp[getObj,Sem.run,h6]
       rw[← hz]
       rcases h9 with ⟨rfl,g1,_,_⟩|⟨j,e,me,rfl,g1,g2,g3,g4,_,_⟩
       ·refine⟨z,by simp[execOp,ho,Instr.lookup,run_underlying hu,h4,hgo,hck',hfk,hz'],?_⟩
        rw[g1];exact RS.of0 hzr (by simp)
       ·obtain⟨e',q1,q2⟩:=h7.get' g2
        rw[g1] at q1;cases q1
        refine⟨me.val,by simp[execOp,ho,Instr.lookup,run_underlying hu,h4,hgo,hck',hfk],?_⟩
        rw[g4];exact RS.of0 q2.2 (by simp)
      have sem:aL P o ev sub fresh (.p ib.K ((aY ia.K es y).getD ib.K.zero)) []:=by
       obtain⟨s1,s2⟩:=alt (.map ia.K ib.K es) (.inl rfl)
       exact⟨by simp,fun X ac K Q at_ hq hk=>s2 X ac K Q ⟨at_.opr,at_.ok,at_.glo,fun id' b' hb'=>by
        simp only[List.lookup_cons] at hb'
        by_cases he:id'=id
        ·subst he;simp at hb';rw[← hb'];exact at_.sub _ _ hB
        ·rw[show(id'==id)=false by simpa using he] at hb';simp at hb'⟩ hq hk⟩
      exact⟨_,_,h,sem,fun t' m' x' _=>⟨rfl,id,ia.K,ib.K,es,y,hB,alt⟩,fun t' m' x' h'=>by rw[ho] at h';cases h'⟩
     ·cases h
    ·cases h
   ·cases h
  ·cases h
 ·cases h
include T in
theorem aO.ptr{t e:TypeId}{i:TI}(h:E.ty.lookup t=some i)(hd:i.d=.ptr e):P.underlying t=some (.pointer e):=by
 obtain⟨d,h1,h2⟩:=T.desc h
 obtain⟨K,td,by',cm⟩:=i
 simp only at hd;subst hd
 cases d<;>cases K<;>simp at h2
 subst h2
 exact h1
theorem Xk{t e:TypeId}(hu:P.underlying t=some (.pointer e))(p:Option Addr)(w:World):(Op.equal t (.pointer p) (.pointer none)).run P w=.ok p.isNone w:=by
 unfold Op.equal Op.maxDepth Op.equalIn
 cases p<;>simp[run_underlying hu]
theorem QD{op:BinOp}{t e:TypeId}{x y:Operand}(hu:P.underlying t=some (.pointer e))(a b:Option Addr)(w:World):(eqGuard op t x y (.pointer a) (.pointer b)).run P w=.ok () w:=by
 cases op<;>simp[eqGuard]
theorem CO{op:BinOp}{b:Bool}{c:AV→Option A}(h:tg op b c=some out):(op=.eql∧c (.p .bool b)=some out)∨(op=.neq∧c (.p .bool (!b))=some out):=by
 unfold tg at h
 split at h
 ·exact .inl ⟨rfl,h⟩
 ·exact .inr ⟨rfl,h⟩
 ·cases h
include T in
theorem aau{op:BinOp}{t yt:TypeId}{x y:Operand}(ho:o.op=.binOp op t x y yt)(h:DV E sub op t (ev x) (ev y) (fun v=>k v [])=some out):∃ v l,k v l=some out∧aL P o ev sub fresh v l:=by
 have mx:x∈o.op.operands:=by simp[Op.operands,ho]
 have my:y∈o.op.operands:=by simp[Op.operands,ho]
 unfold DV at h
 split at h
 ·rename_i ey
  obtain⟨i,hi,h⟩:=bq h
  split at h
  ·rename_i e hd
   have hu:=T.ptr hi hd
   have fin:∀ (b:Bool) (v:AV),(∀ (X:Cx) (ac:Act),At X ac o ev sub→∃ p:Option Addr,ac.eval x=.pointer p∧p.isNone=b)→(op=.eql∧v=.p .bool b∨op=.neq∧v=.p .bool (!b))→aL P o ev sub fresh v []:=fun b v hp hop=>aZ fun X ac at_=>by
    obtain⟨p,h1,h2⟩:=hp X ac at_
    have h3:ac.eval y=.pointer none:=by
     have:=at_.opr y my;rw[ey] at this
     exact(RS.one (by simp) (by simp) (by simp) (by simp)).1 this
    rcases hop with ⟨rfl,rfl⟩|⟨rfl,rfl⟩
    ·exact⟨.bool b,by simp[execOp,ho,h1,h3,QD hu,binOp,Xk hu,h2],RS.bool.2 rfl⟩
    ·exact⟨.bool (!b),by simp[execOp,ho,h1,h3,QD hu,binOp,Xk hu,h2],RS.bool.2 rfl⟩
   split at h
   ·rename_i ex
    have hp:∀ (X:Cx) (ac:Act),At X ac o ev sub→∃ p:Option Addr,ac.eval x=.pointer p∧p.isNone=true:=fun X ac at_=>by
     have:=at_.opr x mx;rw[ex] at this
     exact⟨none,(RS.one (by simp) (by simp) (by simp) (by simp)).1 this,rfl⟩
    rcases CO h with ⟨h1,h2⟩|⟨h1,h2⟩
    ·exact⟨_,_,h2,fin true _ hp (.inl ⟨h1,rfl⟩)⟩
    ·exact⟨_,_,h2,fin true _ hp (.inr ⟨h1,rfl⟩)⟩
   ·rename_i id q ex
    obtain⟨K,h,hp⟩:=CD h
    have hp':∀ (X:Cx) (ac:Act),At X ac o ev sub→∃ p:Option Addr,ac.eval x=.pointer p∧p.isNone=false:=fun X ac at_=>by
     have h1:=at_.opr x mx;rw[ex] at h1
     have h2:=(RS.one (by simp) (by simp) (by simp) (by simp)).1 h1
     obtain⟨b,off,h3,_⟩:=hp X _ at_.sub h2
     exact⟨_,h3,rfl⟩
    rcases CO h with ⟨h1,h2⟩|⟨h1,h2⟩
    ·exact⟨_,_,h2,fin false _ hp' (.inl ⟨h1,rfl⟩)⟩
    ·exact⟨_,_,h2,fin false _ hp' (.inr ⟨h1,rfl⟩)⟩
   ·rename_i K z ex
    have hp:∀ (X:Cx) (ac:Act),At X ac o ev sub→∃ p:Option Addr,ac.eval x=.pointer p∧p.isNone=false:=fun X ac at_=>by
     have:=at_.opr x mx;rw[ex] at this
     obtain⟨ad,cs,h1,_⟩:=(RS.one (by simp) (by simp) (by simp) (by simp)).1 this
     exact⟨some ad,h1,rfl⟩
    rcases CO h with ⟨h1,h2⟩|⟨h1,h2⟩
    ·exact⟨_,_,h2,fin false _ hp (.inl ⟨h1,rfl⟩)⟩
    ·exact⟨_,_,h2,fin false _ hp (.inr ⟨h1,rfl⟩)⟩
   ·rename_i K z ex
    have hp:∀ (X:Cx) (ac:Act),At X ac o ev sub→∃ p:Option Addr,ac.eval x=.pointer p∧p.isNone=z.isNone:=fun X ac at_=>by
     have:=at_.opr x mx;rw[ex] at this
     rcases(RS.one (by simp) (by simp) (by simp) (by simp)).1 this with ⟨rfl,h2⟩|⟨q,rfl,ad,cs,h2,_⟩
     ·exact⟨none,h2,rfl⟩
     ·exact⟨some ad,h2,rfl⟩
    rcases CO h with ⟨h1,h2⟩|⟨h1,h2⟩
    ·exact⟨_,_,h2,fin z.isNone _ hp (.inl ⟨h1,rfl⟩)⟩
    ·exact⟨_,_,h2,fin z.isNone _ hp (.inr ⟨h1,rfl⟩)⟩
   ·cases h
  ·cases h
 ·exact aav T ho h
end
end Go.Ev
namespace Go.Ev
variable{A:Type}
theorem UX{m:Nat}:∀ {css:List (List Value)} (k:Nat),(∀ c∈css,c.length=m)→(css.take k).flatten=css.flatten.take (k*m)
 | [],k,_=>by simp
 | c::css,0,_=>by simp
 | c::css,k+1,h=>by
  have hc:=h c (by simp)
  have ih:=UX (css:=css) k fun x hx=>h x (by simp[hx])
  simp only[List.take_succ_cons,List.flatten_cons,ih]
  rw[List.take_append,show(k+1)*m=m+k*m by rw[Nat.add_mul,Nat.one_mul,Nat.add_comm],List.take_of_length_le (l:=c) (by omega),hc,Nat.add_sub_cancel_left]
theorem UV{m:Nat}:∀ {css:List (List Value)} (k:Nat),(∀ c∈css,c.length=m)→(css.drop k).flatten=css.flatten.drop (k*m)
 | [],k,_=>by simp
 | c::css,0,_=>by simp
 | c::css,k+1,h=>by
  have hc:=h c (by simp)
  have ih:=UV (css:=css) k fun x hx=>h x (by simp[hx])
  simp only[List.drop_succ_cons,List.flatten_cons,ih]
  rw[List.drop_append,show(k+1)*m=m+k*m by rw[Nat.add_mul,Nat.one_mul,Nat.add_comm],List.drop_of_length_le (l:=c) (by omega),hc,Nat.add_sub_cancel_left,List.nil_append]
section
variable{P:Program}{E:Env A}(T:aO P E){o:Oper}{ev:Operand→AV}{sub:List (Nat×Blk)}{fresh:Nat}{k:bX A}{out:A}
include T in
theorem aa2{t:TypeId}{ts:List TypeId}{m:Operand}{c:Call}(ho:o.op=.call c)(hc:c.callee=.builtin .clear)(ha:c.args.toList=[m])(ht:c.argTypes.toList=t::ts)(h:PU E t sub (ev m) (k (.tup []))=some out):∃ v l,k v l=some out∧aL P o ev sub fresh v l:=by
 have ha':c.args=#[m]:=Array.toList_inj.1 ha
 have ht':c.argTypes=(t::ts).toArray:=Array.toList_inj.1 (by simpa using ht)
 have mm:m∈o.op.operands:=by simp[Op.operands,ho,Call.operands,hc,ha']
 obtain⟨ti,hti,h⟩:=bq h
 split at h
 ·rename_i e hd
  obtain⟨tj,htj,h⟩:=bq h
  obtain⟨hu,j,hj,hK,hpos,_⟩:=T.slice hti hd
  split at h
  ·rename_i id lo n em
   obtain⟨B,hB,h⟩:=b9 h
   split at h
   ·rename_i e' K xs
    split at h
    ·rename_i hKj;subst hKj
     split at h
     ·rename_i hn
      split at h
      ·rename_i hle
       refine⟨_,_,h,mR hB rfl rfl (.row _ _ _ _ (by simp only[List.length_append,List.length_take,List.length_replicate,List.length_drop];omega)) fun X ac at_=>?_⟩
       have h1:=at_.opr m mm;rw[em] at h1
       have hX:=at_.sub _ _ hB
       obtain⟨_,ao,cp,hv,hlc,h4⟩:=(lA hX).1 ((RS.one (by simp) (by simp) (by simp) (by simp)).1 h1)
       obtain⟨b,hρ,rfl⟩:=h4 hn
       rcases at_.ok.blk _ _ hX with ⟨h0,_⟩|⟨b',cur,cap,css,hρ',hheap,hsz,hxl,hcap,hall,hfl⟩
       ·rw[hρ] at h0;cases h0
       rw[hρ] at hρ';cases hρ'
       obtain⟨inf,z,hin,hz,hszz,_,hcs,hzr⟩:=T.zeroInfo htj
       have hzl:z.cells.toList.length=tj.K.size:=by simpa using hcs
       have hzrun:(zeroValue e).run P X.w=.ok z X.w:=by simp[zeroValue,typeInfo,hin,hz]
       have lens:=hall.lens
       have hcl:css.length=xs.length:=hall.length.symm
       let vs:List Value:=(List.replicate n z.cells.toList).flatten
       have hvl:vs.length=n*tj.K.size:=by
        rw[show vs=(List.replicate n z.cells.toList).flatten from rfl,eT (m:=tj.K.size) (fun c hc=>by rw[(List.mem_replicate.1 hc).2];exact hzl),List.length_replicate]
       have hone:∀ v∈vs,v.oneCell'=true:=fun v hv=>by
        obtain⟨cc,hcc,hv⟩:=List.mem_flatten.1 hv
        rw[(List.mem_replicate.1 hcc).2] at hv
        exact RP.one (hzr X.F X.w) v hv
       have hmul:lo*tj.K.size+n*tj.K.size≤cur.size:=by
        rw[hsz,← Nat.add_mul];exact Nat.mul_le_mul_right _ (by omega)
       have hst:=hheap.store (P:=P) (lo*tj.K.size) vs (by rw[hvl];omega) hone
       have hzf:=wN z.cells.toList n
       rw[hzl] at hzf
       simp only[Array.toArray_toList] at hzf
       have hzc:(Builtin.zeroCells z.cells n).toList=vs:=by
        unfold Builtin.zeroCells
        rw[show n*z.cells.size=n*tj.K.size by rw[hcs],hzf]
       have hrun:(execOp ac.eval o).run P X.w=.ok (.value (.tuple #[])) (X.w.setRow b (cur.toList.take (lo*tj.K.size)++vs++cur.toList.drop (lo*tj.K.size+vs.length)).toArray):=by
        obtain⟨n',rfl⟩:∃ n',n=n'+1:=⟨n-1,by omega⟩
        simp[execOp,ho,resolve,hc,ha',invoke,builtin,Builtin.clear_,ht',run_underlying hu,hv,hzrun,hzc,hst]
       refine⟨_,_,b,_,hrun,.inl rfl,hρ,rfl,rfl,rfl,by rw[qh];exact Nat.le_refl _,fun k _ hk=>setRow_other _ _ _ _ hk,fun c' e2 f' hc'=>⟨_,setRow_heap _ _ _ _ _ _ hc',?_⟩,fun Y hY W H=>?_⟩
       ·obtain⟨_,_,hheap⟩:=hheap;rw[hheap] at hc';cases hc'
        simp only[List.size_toArray,List.length_append,List.length_take,List.length_drop,Array.length_toList,hvl]
        omega
       ·subst hY
        have hcur:cur.toList.length=cap*tj.K.size:=by simpa using hsz
        refine⟨.inr ⟨b,_,cap,css.take lo++(List.replicate n z.cells.toList++css.drop (lo+n)),hρ,hheap.set ?_,?_,?_,hcap,?_,?_⟩,⟨_,rfl,.nil⟩⟩
        ·simp only[List.size_toArray,List.length_append,List.length_take,List.length_drop,Array.length_toList,hvl]
         omega
        ·simp only[List.size_toArray,List.length_append,List.length_take,List.length_drop,hvl,hcur]
         rw[Array.size_eq_length_toList,hcur] at hmul
         omega
        ·simp only[List.length_append,List.length_take,List.length_replicate,List.length_drop];omega
        ·refine All2.imp (((hall.take lo).append ((All2.replicate (hzr X.F X.w) n).append (hall.drop (lo+n))))) fun _ _ _ _ hr=>RP.evo W at_.ok.fo hr
        ·have hln:(xs.take lo++(List.replicate n tj.K.zero++xs.drop (lo+n))).length=xs.length:=by
          simp only[List.length_append,List.length_take,List.length_replicate,List.length_drop];omega
         rw[hln,List.flatten_append,List.flatten_append,UX lo lens,UV (lo+n) lens,hfl]
         show List.take _ (List.take _ cur.toList)++(vs++List.drop _ (List.take _ cur.toList))=_
         have e1:lo*tj.K.size+n*tj.K.size≤xs.length*tj.K.size:=by rw[← Nat.add_mul];exact Nat.mul_le_mul_right _ hle
         have e2:xs.length*tj.K.size≤cur.toList.length:=by rw[hcur];exact Nat.mul_le_mul_right _ hxl
         rw[hvl,Nat.add_mul]
         generalize lo*tj.K.size=a1 at *
         generalize n*tj.K.size=a2 at *
         generalize xs.length*tj.K.size=a3 at *
         apply List.ext_getElem?
         intro i
         simp only[List.getElem?_append,List.getElem?_take,List.getElem?_drop,List.length_take,List.length_append,hvl]
         have m1:min a1 (min a3 cur.toList.length)=a1:=by omega
         have m2:min a1 cur.toList.length=a1:=by omega
         rw[m1,m2]
         by_cases i1:i<a1
         ·simp only[i1,if_true,show i<a3 by omega,show i<a1+a2 by omega]
         ·simp only[i1,if_false]
          by_cases i2:i-a1<a2
          ·simp only[i2,if_true,show i<a3 by omega,show i<a1+a2 by omega]
          ·simp only[i2,if_false,show ¬ i<a1+a2 by omega,show a1+a2+(i-a1-a2)=i by omega]
           split
           ·congr 1;omega
           ·rfl
      ·cases h
     ·cases h
    ·cases h
   ·cases h
  ·cases h
 ·cases h
include T in
theorem aa1{t:TypeId}{ts:List TypeId}{m:Operand}{c:Call}(ho:o.op=.call c)(hc:c.callee=.builtin .clear)(ha:c.args.toList=[m])(ht:c.argTypes.toList=t::ts)(h:Ed E t sub (ev m) (k (.tup []))=some out):∃ v l,k v l=some out∧aL P o ev sub fresh v l:=by
 unfold Ed at h
 split at h
 ·rename_i id lo n em
  rw[← em] at h
  exact aa2 T ho hc ha ht h
 ·exact aa4 T ho hc ha ht h
end
end Go.Ev
namespace Go.Ev
structure Emb(X Z:Cx)(f:Nat→Option Nat)(sl:Bool):Prop where
 hp:∀ (id i:Nat) (b:Blk),f id=some i→X.hp[id]?=some b→Z.hp[i]?=some (b.ren f)
 ρ:∀ (id i:Nat) (b:Blk),f id=some i→X.hp[id]?=some b→Z.ρ i=X.ρ id
 w:Z.w=X.w
 F:sl=true→∀ b,X.F b→Z.F b
theorem RP.noSl{F F':Nat→Prop}{w w':World}:∀ {K:Kind} {x:K.den} {cs:List Value},K.hasSl=false→RP F w K x cs→RP F' w' K x cs
 | .int _,_,_,_,h=>h
 | .bool,_,_,_,h=>h
 | .str,_,_,_,h=>h
 | .opq,_,_,_,h=>h
 | .unit,_,_,_,h=>h
 | .pair a b,_,_,hs,h=>by
  simp only[Kind.hasSl,Bool.or_eq_false_iff] at hs
  obtain⟨c1,c2,rfl,h1,h2⟩:=h
  exact⟨c1,c2,rfl,RP.noSl hs.1 h1,RP.noSl hs.2 h2⟩
 | .arr n e,_,_,hs,h=>by
  simp only[Kind.hasSl] at hs
  obtain⟨hl,css,rfl,h1⟩:=h
  exact⟨hl,css,rfl,h1.imp fun _ _ _ _ h=>RP.noSl hs h⟩
 | .sl e,_,_,hs,_=>by simp[Kind.hasSl] at hs
section
variable{X Z:Cx}{f:Nat→Option Nat}{sl:Bool}(E:Emb X Z f sl)
include E
theorem Emb.data{K:Kind}{x:K.den}{cs:List Value}(hs:K.hasSl=true→sl=true)(h:RP X.F X.w K x cs):RP Z.F Z.w K x cs:=by
 cases hK:K.hasSl with
 | true=>exact RP.mono (E.F (hs hK)) (fun b _=>by rw[E.w]) h
 | false=>exact RP.noSl hK h
theorem R1.emb{v:AV}{u:Value}(hs:v.hasSl=true→sl=true)(h:R1 X v u):R1 Z (v.ren1 f) u:=by
 have ho:=h.one
 cases v with
 | row id=>
  simp only[AV.ren1]
  cases hf:f id with
  | none=>exact ho
  | some i=>
   simp only[R1] at h ⊢
   split at h
   ·rename_i e K xs heq;rw[E.hp id i _ hf heq];simp only[Blk.ren,E.ρ id i _ hf heq,E.w];exact h
   ·rename_i e K oo xs oh heq;rw[E.hp id i _ hf heq];simp only[Blk.ren,E.ρ id i _ hf heq,E.w];exact h
   ·rename_i heq;rw[E.hp id i _ hf heq];exact ho
   ·exact h.elim
 | sub id lo len=>
  simp only[AV.ren1]
  cases hf:f id with
  | none=>exact ho
  | some i=>
   simp only[R1] at h ⊢
   split at h
   ·rename_i e K xs heq;rw[E.hp id i _ hf heq];simp only[Blk.ren,E.ρ id i _ hf heq,E.w];exact h
   ·rename_i heq;rw[E.hp id i _ hf heq];exact ho
   ·exact h.elim
 | ptr id path=>
  simp only[AV.ren1]
  cases hf:f id with
  | none=>exact ho
  | some i=>
   simp only[R1] at h ⊢
   split at h
   ·rename_i e K xs heq;rw[E.hp id i _ hf heq];simp only[Blk.ren,E.ρ id i _ hf heq,E.w];exact h
   ·rename_i e K xs heq;rw[E.hp id i _ hf heq];simp only[Blk.ren,E.ρ id i _ hf heq,E.w];exact h
   ·rename_i e K oo xs oh heq;rw[E.hp id i _ hf heq];simp only[Blk.ren,E.ρ id i _ hf heq,E.w];exact h
   ·rename_i heq;rw[E.hp id i _ hf heq];exact ho
   ·exact h.elim
 | slc id path lo len=>
  simp only[AV.ren1]
  cases hf:f id with
  | none=>exact ho
  | some i=>
   simp only[R1] at h ⊢
   split at h
   ·rename_i e K xs heq;rw[E.hp id i _ hf heq];simp only[Blk.ren,E.ρ id i _ hf heq,E.w];exact h
   ·rename_i heq;rw[E.hp id i _ hf heq];exact ho
   ·exact h.elim
 | mp id=>
  simp only[AV.ren1]
  cases hf:f id with
  | none=>exact ho
  | some i=>
   simp only[R1] at h ⊢
   split at h
   ·rename_i e K xs heq;rw[E.hp id i _ hf heq];simp only[Blk.ren,E.ρ id i _ hf heq,E.w];exact h
   ·rename_i heq;rw[E.hp id i _ hf heq];simp only[Blk.ren,E.ρ id i _ hf heq,E.w];exact h
   ·rename_i heq;rw[E.hp id i _ hf heq];exact ho
   ·rename_i heq;rw[E.hp id i _ hf heq];exact ho
   ·exact h.elim
 | nilp=>exact h
 | vp K x=>
  obtain⟨ad,cs,rfl,hF,h1,h2⟩:=h
  have hsl:=hs rfl
  exact⟨ad,cs,rfl,E.F hsl _ hF,E.data (fun _=>hsl) h1,fun j u hu=>by rw[E.w];exact h2 j u hu⟩
 | np K o=>
  rcases h with h|⟨x,rfl,ad,cs,rfl,hF,h1,h2⟩
  ·exact .inl h
  ·have hsl:=hs rfl
   exact .inr ⟨x,rfl,ad,cs,rfl,E.F hsl _ hF,E.data (fun _=>hsl) h1,fun j u hu=>by rw[E.w];exact h2 j u hu⟩
 | fn f cs=>
  obtain⟨us,rfl,h1⟩:=h
  refine⟨us,rfl,?_⟩
  cases h1 with
  | nil=>exact .nil
  | cons h2 h3=>
   have hsl:=hs rfl
   refine(All2.cons h2 h3).imp fun _ _ _ _ hr=>?_
   rcases hr with ⟨hb,ws,h4,h5⟩|⟨hb,ad,cs,rfl,hF,h1,h2⟩
   ·exact .inl ⟨hb,ws,E.data (fun _=>hsl) h4,h5⟩
   ·exact .inr ⟨hb,ad,cs,rfl,E.F hsl _ hF,E.data (fun _=>hsl) h1,fun j u hu=>by rw[E.w];exact h2 j u hu⟩
 | any=>exact h
 | p K x=>exact h.elim
 | pr a b=>exact h.elim
 | tup vs=>exact h.elim
theorem RA.emb:∀ {v:AV} {cs:List Value},(v.hasSl=true→sl=true)→RA X v cs→RA Z (v.ren1 f) cs
 | .p K x,cs,hs,h=>E.data hs h
 | .pr a b,cs,hs,h=>by
  simp only[AV.hasSl,Bool.or_eq_true] at hs
  obtain⟨c1,c2,rfl,h1,h2⟩:=h
  exact⟨c1,c2,rfl,RA.emb (fun h=>hs (.inl h)) h1,RA.emb (fun h=>hs (.inr h)) h2⟩
 | .any,cs,hs,h=>by obtain⟨u,rfl,h⟩:=h;exact⟨u,rfl,R1.emb E hs h⟩
 | .row id,cs,hs,h=>by
  obtain⟨u,rfl,h⟩:=h
  have:=R1.emb E hs h
  simp only[AV.ren1] at this ⊢
  revert this
  cases f id<;>exact fun this=>⟨u,rfl,this⟩
 | .sub id _ _,cs,hs,h=>by
  obtain⟨u,rfl,h⟩:=h
  have:=R1.emb E hs h
  simp only[AV.ren1] at this ⊢
  revert this
  cases f id<;>exact fun this=>⟨u,rfl,this⟩
 | .ptr id _,cs,hs,h=>by
  obtain⟨u,rfl,h⟩:=h
  have:=R1.emb E hs h
  simp only[AV.ren1] at this ⊢
  revert this
  cases f id<;>exact fun this=>⟨u,rfl,this⟩
 | .slc id _ _ _,cs,hs,h=>by
  obtain⟨u,rfl,h⟩:=h
  have:=R1.emb E hs h
  simp only[AV.ren1] at this ⊢
  revert this
  cases f id<;>exact fun this=>⟨u,rfl,this⟩
 | .mp id,cs,hs,h=>by
  obtain⟨u,rfl,h⟩:=h
  have:=R1.emb E hs h
  simp only[AV.ren1] at this ⊢
  revert this
  cases f id<;>exact fun this=>⟨u,rfl,this⟩
 | .nilp,cs,hs,h=>by obtain⟨u,rfl,h⟩:=h;exact⟨u,rfl,R1.emb E hs h⟩
 | .np _ _,cs,hs,h=>by obtain⟨u,rfl,h⟩:=h;exact⟨u,rfl,R1.emb E hs h⟩
 | .fn _ _,cs,hs,h=>by obtain⟨u,rfl,h⟩:=h;exact⟨u,rfl,R1.emb E hs h⟩
 | .vp _ _,cs,hs,h=>by obtain⟨u,rfl,h⟩:=h;exact⟨u,rfl,R1.emb E hs h⟩
 | .tup _,cs,hs,h=>by obtain⟨u,rfl,h⟩:=h;exact h.elim
omit E in
theorem aln{v:AV}:(v.ren1 f).agg=v.agg:=by
 cases v<;>simp only[AV.ren1]<;>first|rfl|(rename_i id;cases f id<;>rfl)|(rename_i id _;cases f id<;>rfl)|(rename_i id _ _;cases f id<;>rfl)|(rename_i id _ _ _;cases f id<;>rfl)
theorem aE.emb{v:AV}{u:Value}(hs:v.hasSl=true→sl=true)(h:aE X v u):aE Z (v.ren1 f) u:=by
 rcases h with h|⟨cs,h1,h2⟩
 ·left;cases v<;>first|exact h|cases h
 ·exact .inr ⟨cs,RA.emb E hs h1,by rw[aln];exact h2⟩
theorem RS.emb{v:AV}{u:Value}(hs:v.hasSl=true→sl=true)(h:RS X v u):RS Z (v.ren f) u:=by
 cases v with
 | tup vs=>
  obtain⟨us,rfl,h⟩:=h
  refine⟨us,rfl,?_⟩
  have key:∀ {vs:List AV} {us:List Value},All2 (aE X) vs us→(∀ v∈vs,v.hasSl=true→sl=true)→All2 (aE Z) (vs.map fun v=>v.ren1 f) us:=fun {vs us} h=>by
   induction h with
   | nil=>intro _;exact .nil
   | cons h1 _ ih=>intro hs;exact .cons (aE.emb E (hs _ (by simp)) h1) (ih fun v hv=>hs v (by simp[hv]))
  refine key h fun v hv hsl=>hs ?_
  simp only[AV.hasSl,List.any_eq_true]
  refine⟨v,hv,?_⟩
  cases v<;>first|exact hsl|rfl
 | p K x=>exact aE.emb E hs h
 | pr a b=>exact aE.emb E hs h
 | any=>exact RS.any _
 | nilp=>exact aE.emb E hs h
 | vp K x=>exact aE.emb E hs h
 | np K x=>exact aE.emb E hs h
 | fn f cs=>exact aE.emb E hs h
 | row id=>have:=aE.emb E hs h;simp only[AV.ren,AV.ren1] at this ⊢;revert this;cases f id<;>exact fun this=>this
 | sub id _ _=>have:=aE.emb E hs h;simp only[AV.ren,AV.ren1] at this ⊢;revert this;cases f id<;>exact fun this=>this
 | ptr id _=>have:=aE.emb E hs h;simp only[AV.ren,AV.ren1] at this ⊢;revert this;cases f id<;>exact fun this=>this
 | slc id _ _ _=>have:=aE.emb E hs h;simp only[AV.ren,AV.ren1] at this ⊢;revert this;cases f id<;>exact fun this=>this
 | mp id=>have:=aE.emb E hs h;simp only[AV.ren,AV.ren1] at this ⊢;revert this;cases f id<;>exact fun this=>this
omit E in
theorem mI:∀ {v:AV} {K:Kind},v.fits K=true→(v.ren1 f).fits K=true
 | .p _ _,_,h=>h
 | .pr a b,.pair x y,h=>by
  simp only[AV.fits,Bool.and_eq_true,AV.ren1] at h ⊢
  exact⟨mI h.1,mI h.2⟩
 | .pr _ _,.int _,h=>by simp[AV.fits] at h
 | .pr _ _,.bool,h=>by simp[AV.fits] at h
 | .pr _ _,.str,h=>by simp[AV.fits] at h
 | .pr _ _,.opq,h=>by simp[AV.fits] at h
 | .pr _ _,.unit,h=>by simp[AV.fits] at h
 | .pr _ _,.arr _ _,h=>by simp[AV.fits] at h
 | .pr _ _,.sl _,h=>by simp[AV.fits] at h
 | .any,_,h=>h
 | .nilp,_,h=>h
 | .np _ _,_,h=>h
 | .fn _ _,_,h=>h
 | .vp _ _,_,h=>h
 | .tup _,_,h=>by cases h
 | .row id,K,h=>by cases K<;>simp[AV.fits] at h;simp only[AV.ren1];cases f id<;>rfl
 | .sub id _ _,K,h=>by cases K<;>simp[AV.fits] at h;simp only[AV.ren1];cases f id<;>rfl
 | .slc id _ _ _,K,h=>by cases K<;>simp[AV.fits] at h;simp only[AV.ren1];cases f id<;>rfl
 | .ptr id _,K,h=>by cases K<;>simp[AV.fits] at h;simp only[AV.ren1];cases f id<;>rfl
 | .mp id,K,h=>by cases K<;>simp[AV.fits] at h;simp only[AV.ren1];cases f id<;>rfl
omit E in
theorem Nj{v:AV}(h:∀ vs,v≠.tup vs):v.ren f=v.ren1 f:=by cases v<;>first|rfl|exact absurd rfl (h _)
theorem RB.emb{id i:Nat}{b:Blk}(hf:f id=some i)(hb:X.hp[id]?=some b)(hs:b.hasSl=true→sl=true)(h:RB X id b):RB Z i (b.ren f):=by
 cases b with
 | var t K v=>
  obtain⟨h1,n,cs,h2,h3,h4⟩:=h
  have e:=Nj (f:=f) (ji h1)
  exact⟨by rw[e];exact mI h1,n,cs,by rw[E.ρ id i _ hf hb];exact h2,by rw[E.w];exact h3,by rw[e];exact RA.emb E hs h4⟩
 | row e K xs=>
  rcases h with ⟨h1,h2⟩|⟨n,cur,cap,css,h1,h2,h3,h4,h5,h6,h7⟩
  ·exact .inl ⟨by rw[E.ρ id i _ hf hb];exact h1,h2⟩
  ·exact .inr ⟨n,cur,cap,css,by rw[E.ρ id i _ hf hb];exact h1,by rw[E.w];exact h2,h3,h4,h5,h6.imp fun _ _ _ _ hr=>E.data hs hr,h7⟩
 | ob t K o xs oh=>
  have hsl:=hs rfl
  rcases h with ⟨h1,h2,h3⟩|⟨p,cur,cap,css,h1,h2,h3,h4,h5,h6,h7,h8,h9,h10,h11,h12⟩
  ·exact .inl ⟨by rw[E.ρ id i _ hf hb];exact h1,h2,by rw[h3];rfl⟩
  ·refine .inr ⟨p,cur,cap,css,by rw[E.ρ id i _ hf hb];exact h1,by rw[E.w];exact h2,h3,h4,h5,h6,h7,h8,h9,h10,fun j x cs hx hc hv=>?_,fun j v hv=>?_⟩
   ·rw[E.w]
    exact(h11 j x cs hx hc fun v hv'=>hv (v.ren1 f) (by rw[hv'];rfl)).evo (E.F hsl) (fun _ _=>rfl) (fun _ c _ _ h=>⟨c,h,rfl⟩) (fun _ _ _ _ _=>rfl)
   ·cases oh with
    | none=>cases hv
    | some q=>
     simp only[Option.map_some,Option.some.injEq,Prod.mk.injEq] at hv
     obtain⟨rfl,rfl⟩:=hv
     obtain⟨g1,cs,g2,g3⟩:=h12 q.1 q.2 rfl
     exact⟨mI g1,cs,g2,RA.emb E (fun _=>hsl) g3⟩
 | map KK KV es=>
  obtain⟨n,mes,clock,h1,h2,h3,h4⟩:=h
  simp only[Blk.hasSl,Bool.or_eq_true] at hs
  have d:∀ {K:Kind} {x:K.den} {u:Value},(K.hasSl=true→sl=true)→aE X (.p K x) u→aE Z (.p K x) u:=fun {K x u} hs h=>aE.emb E (v:=.p K x) hs h
  exact⟨n,mes,clock,by rw[E.ρ id i _ hf hb];exact h1,by rw[E.w];exact h2,h3.imp fun _ _ _ _ hr=>⟨d (fun h=>hs (.inl h)) hr.1,d (fun h=>hs (.inr h)) hr.2⟩,h4⟩
 | ment KK KV es x g=>
  obtain⟨n,mes,clock,h1,h2,h3,h4,_⟩:=h
  simp only[Blk.hasSl,Bool.or_eq_true] at hs
  have d:∀ {K:Kind} {x:K.den} {u:Value},(K.hasSl=true→sl=true)→aE X (.p K x) u→aE Z (.p K x) u:=fun {K x u} hs h=>aE.emb E (v:=.p K x) hs h
  exact⟨n,mes,clock,by rw[E.ρ id i _ hf hb];exact h1,by rw[E.w];exact h2,h3.imp fun _ _ _ _ hr=>⟨d (fun h=>hs (.inl h)) hr.1,d (fun h=>hs (.inr h)) hr.2⟩,h4⟩
 | stp=>trivial
 | gone=>trivial
 | free=>trivial
end
end Go.Ev
