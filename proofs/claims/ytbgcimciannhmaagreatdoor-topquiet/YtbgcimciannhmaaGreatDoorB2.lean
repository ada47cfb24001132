import Derived.Test.YtbgcimciannhmaaGreatDoorB1
import Derived.Laws.CopyOwn
import Derived.Laws.Tables
import Derived.WideKeyRuns
import Derived.MapKept
import Derived.ChangeMaps4
import Derived.Laws.MakeOwn
/- A part of the proof of TopQuiet; no condition. -/
set_option linter.all false
set_option maxRecDepth 100000
namespace Go.Ev
variable{A:Type}
theorem qe{X:Cx}{id:Nat}{e:TypeId}{K:Kind}{xs:List K.den}{b:Nat}(h:RB X id (.row e K xs))(hb:X.ρ id=some b) :
  ∃ cur cap css,ce X.w b cur e∧cur.size=cap*K.size∧xs.length≤cap∧cap≤maxLen∧All2 (RP X.F X.w K) xs css∧css.flatten=cur.toList.take (xs.length*K.size)∧
   ∀ j u,css.flatten[j]?=some u→X.w.cell? ((⟨b,0,none⟩:Addr).add j)=some u:=by
 rcases h with ⟨h,_⟩|⟨n,cur,cap,css,h1,h2,h3,h4,h5,h6,h7⟩
 ·rw[hb] at h;cases h
 ·rw[hb] at h1;cases h1
  refine⟨cur,cap,css,h2,h3,h4,h5,h6,h7,fun j u hj=>?_⟩
  rw[add_lit,Nat.zero_add,cell_of_row _ _ _ _ _ _ h2.choose_spec.2]
  rw[h7,List.getElem?_take] at hj
  split at hj
  ·simpa using hj
  ·cases hj
theorem ajA{css:List (List Value)}{m:Nat}(h:∀ c∈css,c.length=m)(l:Nat):(css.drop l).flatten=css.flatten.drop (l*m):=by
 induction css generalizing l with
 | nil=>simp
 | cons c r ih=>
  have hc:=h c (by simp)
  cases l with
  | zero=>simp
  | succ l=>
   rw[List.drop_succ_cons,ih (fun c hc=>h c (by simp[hc])),List.flatten_cons,Nat.succ_mul,Nat.add_comm,← hc,List.drop_length_add_append]
theorem ajC{css:List (List Value)}{m:Nat}(h:∀ c∈css,c.length=m)(l:Nat):(css.take l).flatten=css.flatten.take (l*m):=by
 induction css generalizing l with
 | nil=>simp
 | cons c r ih=>
  have hc:=h c (by simp)
  cases l with
  | zero=>simp
  | succ l=>
   rw[List.take_succ_cons,List.flatten_cons,ih (fun c hc=>h c (by simp[hc])),List.flatten_cons,Nat.succ_mul,Nat.add_comm,← hc,List.take_length_add_append]
theorem CW{css:List (List Value)}{m:Nat}(h:∀ c∈css,c.length=m){l n j:Nat}{u:Value}(hj:((css.drop l).take n).flatten[j]?=some u):css.flatten[l*m+j]?=some u:=by
 rw[ajC (fun c hc=>h c (List.mem_of_mem_drop hc)),ajA h,List.getElem?_take] at hj
 split at hj
 ·simpa using hj
 ·cases hj
section
variable{P:Program}{E:Env A}(T:aO P E){o:Oper}{ev:Operand→AV}{sub:List (Nat×Blk)}{fresh:Nat}{k:bX A}{out:A}
include T in
theorem VB{t:TypeId}{a:Operand}(ho:o.op=.load t a)(h:(pZ sub (ev a) fun y=>E.ti t fun i=>if y.fits i.K then k y [] else none)=some out):∃ v l,k v l=some out∧aL P o ev sub fresh v l:=by
 have ma:a∈o.op.operands:=by simp[Op.operands,ho]
 have run:∀ {i:TI} (hi:E.ty.lookup t=some i) {y:AV} (hf:y.fits i.K=true) (X:Cx) (ac:Act) (ad:Addr) (cs:List Value),ac.eval a=.pointer (some ad)→RA X y cs→(∀ j u,cs[j]?=some u→X.w.cell? (ad.add j)=some u)→
   ∃ u,(execOp ac.eval o).run P X.w=.ok (.value u) X.w∧RS X y u:=fun {i} hi {y} hf X ac ad cs h1 h2 h3=>by
  obtain⟨v,h4,h5⟩:=v5 T hi hf h2 h3
  exact⟨v,by simp[execOp,ho,h1,Instr.loadAt,Instr.sureAddr,h4],RS.of0 h5 (ji hf)⟩
 unfold pZ at h
 split at h
 ·rename_i K x ea
  obtain⟨i,hi,h⟩:=bq h
  split at h
  ·rename_i hf
   exact⟨_,_,h,aZ fun X ac at_=>by
    have h1:=at_.opr a ma;rw[ea] at h1
    obtain⟨ad,cs,h2,_,h3,h4⟩:=(RS.one (by simp) (by simp) (by simp) (by simp)).1 h1
    exact run hi hf X ac ad cs h2 h3 h4⟩
  ·cases h
 ·rename_i K o' ea
  obtain⟨x,rfl,h⟩:=Option.bind_eq_some_iff.1 h
  obtain⟨i,hi,h⟩:=bq h
  split at h
  ·rename_i hf
   exact⟨_,_,h,aZ fun X ac at_=>by
    have h1:=at_.opr a ma;rw[ea] at h1
    rcases(RS.one (by simp) (by simp) (by simp) (by simp)).1 h1 with ⟨h2,_⟩|⟨z,hz,ad,cs,h2,_,h3,h4⟩
    ·cases h2
    ·cases hz
     exact run hi hf X ac ad cs h2 h3 h4⟩
  ·cases h
 ·rename_i id path ea
  obtain⟨B,hB,h⟩:=b9 h
  split at h
  ·rename_i t' K av
   obtain⟨y,h,hs⟩:=jT h
   obtain⟨i,hi,h⟩:=bq h
   split at h
   ·rename_i hf
    exact⟨_,_,h,aZ fun X ac at_=>by
     have h1:=at_.opr a ma;rw[ea] at h1
     have hX:=at_.sub _ _ hB
     obtain⟨b,off,K',h2,h3,h4⟩:=(jt hX).1 ((RS.one (by simp) (by simp) (by simp) (by simp)).1 h1)
     obtain⟨hfv,b',cs,h5,h6,h7⟩:=at_.ok.blk _ _ hX
     rw[h2] at h5;cases h5
     obtain⟨off',K'',h8,_,h9⟩:=hs hfv h7
     rw[h3] at h8;cases h8
     refine run hi hf X ac _ _ h4 h9 fun j u hj=>?_
     rw[add_lit,cell_of_row _ _ _ _ _ _ h6]
     simpa using ja hj⟩
   ·cases h
  ·rename_i t' K xs
   split at h
   ·rename_i i0 r _
    obtain⟨y0,hy0,h⟩:=Option.bind_eq_some_iff.1 h
    obtain⟨K',y,h,hs⟩:=pS h
    obtain⟨i,hi,h⟩:=bq h
    split at h
    ·rename_i hf
     exact⟨_,_,h,aZ fun X ac at_=>by
      have h1:=at_.opr a ma;rw[ea] at h1
      have hX:=at_.sub _ _ hB
      obtain⟨b,i',r',off,K1,hp,hlt,h2,h3,h4⟩:=(ng hX).1 ((RS.one (by simp) (by simp) (by simp) (by simp)).1 h1)
      simp only[List.cons.injEq,Hop.idx.injEq] at hp
      obtain⟨rfl,rfl⟩:=hp
      obtain⟨cur,cap,css,h5,h6,h7,_,h8,h9,h10⟩:=qe (at_.ok.blk _ _ hX) h2
      obtain⟨cs,h11,h12⟩:=yD h8 h10 hy0
      obtain⟨off',h13,h14⟩:=hs h11
      rw[h3] at h13;cases h13
      refine run hi hf X ac _ _ h4 (show RA X (.p K' y) _ from h14) fun j u hj=>?_
      have:=h12 _ _ (ja hj)
      rw[add_lit,add_lit] at this
      rw[add_lit,show i0*K.size+off+j=0+i0*K.size+(off+j) by omega]
      exact this⟩
    ·cases h
   ·cases h
  ·cases h
 ·cases h
include T in
theorem ajt{t:TypeId}{x:Operand}{f:Nat}(ho:o.op=.fieldAddr t x f)(h:UG E sub t (ev x) f (fun v=>k v [])=some out):∃ v l,k v l=some out∧aL P o ev sub fresh v l:=by
 have mx:x∈o.op.operands:=by simp[Op.operands,ho]
 obtain⟨ti,hti,h⟩:=bq h
 split at h
 ·rename_i ts hd
  split at h
  ·rename_i hf
   obtain⟨fs,hu,hb⟩:=T.struct hti hd
   obtain⟨fd,j,o',hg,hj,hpos,hoff,hko⟩:=Ml hb hf
   have hg':fs[f]?=some fd:=by simpa using hg
   have run:∀ (ac:Act) (w:World) (ad:Addr),ac.eval x=.pointer (some ad)→(execOp ac.eval o).run P w=.ok (.value (.pointer (some (ad.add o')))) w:=fun ac w ad h1=>by
    have hne:¬ j.K.size=0:=by omega
    have e:fd.offset=o':=by omega
    simp[execOp,ho,Instr.fieldAt,h1,run_underlying hu,hg',Instr.sureAddr,fieldPlace,T.runSize hj,hne,e]
   split at h
   ·rename_i id path ex
    obtain⟨K',h,hs⟩:=CD h
    split at h
    ·rename_i hKe
     exact⟨_,_,h,aZ fun X ac at_=>by
      have h1:=at_.opr x mx;rw[ex] at h1
      obtain⟨b,off,h3,h4⟩:=hs X _ at_.sub ((RS.one (by simp) (by simp) (by simp) (by simp)).1 h1)
      refine⟨_,run ac X.w _ h3,(RS.one (by simp) (by simp) (by simp) (by simp)).2 ?_⟩
      rw[add_lit]
      exact h4 [.fld f] _ j.K (by rw[hKe];exact hko)⟩
    ·cases h
   ·rename_i K y ex
    split at h
    ·rename_i hKe
     subst hKe
     obtain⟨K',y',h,hs⟩:=pS h
     exact⟨_,_,h,aZ fun X ac at_=>by
      have h1:=at_.opr x mx;rw[ex] at h1
      obtain⟨ad,cs,h2,hF,h3,h4⟩:=(RS.one (by simp) (by simp) (by simp) (by simp)).1 h1
      obtain⟨off,h5,h6⟩:=hs h3
      rw[hko] at h5;cases h5
      refine⟨_,run ac X.w _ h2,RS.vp (by rw[gF];exact hF) h6 fun j u hj=>?_⟩
      rw[tZ]
      exact h4 _ _ (ja hj)⟩
    ·cases h
   ·cases h
  ·cases h
 ·cases h
include T in
theorem aju{t:TypeId}{x:Operand}{f:Nat}(ho:o.op=.field t x f)(h:UH E t (ev x) f (fun v=>k v [])=some out):∃ v l,k v l=some out∧aL P o ev sub fresh v l:=by
 have mx:x∈o.op.operands:=by simp[Op.operands,ho]
 obtain⟨ti,hti,h⟩:=bq h
 split at h
 ·rename_i ts hd
  split at h
  ·rename_i hf
   split at h
   ·cases h
   ·rename_i hna
    split at h
    ·rename_i hfit
     obtain⟨fs,hu,hb⟩:=T.struct hti hd
     obtain⟨fd,j,o',hg,hj,hpos,hoff,hko⟩:=Ml hb hf
     have hg':fs[f]?=some fd:=by simpa using hg
     have e:fd.offset=o':=by omega
     obtain⟨y,h,hs⟩:=jT h
     exact⟨_,_,h,aZ fun X ac at_=>by
      have h1:=(at_.opr x mx).to0 (ji hfit)
      have hagg:ti.K.isAgg=true:=by
       cases hK:ti.K with
       | pair a b=>rfl
       | unit=>rfl
       | arr n e=>rfl
       | _=>rw[hK] at hko;simp[az] at hko
      rcases h1 with h1|⟨cs,h2,⟨_,h3⟩|⟨h3,_⟩⟩
      ·rw[h1] at hna;exact absurd rfl hna
      ·obtain⟨off,K',h4,h5,h6⟩:=hs hfit h2
       rw[hko] at h4;cases h4
       obtain⟨v,h7,h8⟩:=mT T hj h5 h6 X.w
       exact⟨v,by simp[execOp,ho,Instr.field,run_underlying hu,hg',h3,asAgg,e,h7],RS.of0 h8 (ji h5)⟩
      ·rw[sU hfit (by simpa using hna),hagg] at h3;cases h3⟩
    ·cases h
  ·cases h
 ·cases h
include T in
theorem ajU{t:TypeId}{x ix:Operand}(ho:o.op=.index t x ix)(h:Vj E t (ev x) (ev ix) (fun v=>k v [])=some out):∃ v l,k v l=some out∧aL P o ev sub fresh v l:=by
 have mx:x∈o.op.operands:=by simp[Op.operands,ho]
 have mi:ix∈o.op.operands:=by simp[Op.operands,ho]
 obtain⟨q,i,ei,h⟩:=nE h
 split at h
 ·rename_i hi0
  obtain⟨ti,hti,h⟩:=bq h
  split at h
  ·rename_i n e l ex
   split at h
   ·rename_i hKe
    obtain⟨y,hy,h⟩:=Option.bind_eq_some_iff.1 h
    obtain⟨ds,hu,hd⟩:=T.desc hti
    have:∃ e',P.underlying t=some (.array n e')∧∃ j,E.ty.lookup e'=some j∧e=j.K:=by
     obtain⟨K,td,by',cm⟩:=ti
     simp only at hKe;subst hKe
     cases td with
     | array n' e'=>
      obtain⟨h1,j,h2,h3,_⟩:=T.array hti rfl
      simp only[Kind.arr.injEq] at h3
      exact⟨e',by rw[h3.1];exact h1,j,h2,h3.2⟩
     | struct ts=>
      obtain⟨fs,h1,h2⟩:=T.struct hti rfl
      cases hf:fs.toList<;>cases ts<;>simp[hf,aA] at h2
     | _=>cases ds<;>simp at hd
    obtain⟨e',hu',j,hj,rfl⟩:=this
    have h0:=(List.getElem?_eq_some_iff.1 hy).1
    exact⟨_,_,h,aZ fun X ac at_=>by
     have h1:=at_.opr x mx;rw[ex] at h1
     have h2:=at_.opr ix mi;rw[ei,RS.int] at h2
     obtain⟨cs,⟨hl,css,rfl,hr⟩,⟨_,h3⟩|⟨h3,_⟩⟩:=(h1.to0 (by simp)).data
     ·have hlt:i<(n:Int):=(Int.toNat_lt hi0).1 (hl▸h0)
      obtain⟨c,hc,hrc⟩:=hr.get hy
      have hlen:=RP.length hrc
      have e1:=sV hr.lens hc (o:=0) (n:=j.K.size) (by omega)
      rw[Nat.add_zero,cX c hlen.symm] at e1
      obtain⟨v,h7,h8⟩:=mT T hj (X:=X) (y:=.p j.K y) (cs:=css.flatten) (off:=i.toNat*j.K.size) (by simp[AV.fits]) (by rw[e1];exact hrc) X.w
      exact⟨v,by simp[execOp,ho,Instr.index,h2,asIntOf,run_underlying hu',h3,hi0,hlt,T.runSize hj,h7],RS.of0 h8 (by simp)⟩
     ·cases h3⟩
   ·cases h
  ·rename_i s ex
   split at h
   ·rename_i hKe
    obtain⟨y,hy,h⟩:=Option.bind_eq_some_iff.1 h
    have hu:=T.str hti hKe.symm
    exact⟨_,_,h,aZ fun X ac at_=>by
     have h1:=at_.opr x mx;rw[ex,RS.str] at h1
     have h2:=at_.opr ix mi;rw[ei,RS.int] at h2
     simp only[bd,List.getElem?_map,Option.map_eq_some_iff] at hy
     obtain⟨b,hb,rfl⟩:=hy
     have hb':s[i.toNat]?=some b:=by
      obtain⟨d⟩:=s
      obtain⟨h4,h5⟩:=List.getElem?_eq_some_iff.1 hb
      have hlt:i.toNat<(⟨d⟩:ByteArray).size:=by simpa[ByteArray.size] using h4
      rw[getElem?_pos (⟨d⟩:ByteArray) i.toNat hlt]
      exact congrArg some (by rw[← h5];rfl)
     exact⟨_,by simp[execOp,ho,Instr.index,h1,h2,asIntOf,run_underlying hu,hi0,hb']<;>rfl,RS.int.2 rfl⟩⟩
   ·cases h
  ·cases h
 ·cases h
include T in
theorem aka{t:TypeId}{ts:List TypeId}{x:Operand}{c:Call}(ho:o.op=.call c)(hc:c.callee=.builtin .len)(ha:c.args.toList=[x])(ht:c.argTypes.toList=t::ts)(h:Vu E sub t (ev x) (fun v=>k v [])=some out):∃ v l,k v l=some out∧aL P o ev sub fresh v l:=by
 have ha':c.args=#[x]:=Array.toList_inj.1 ha
 have ht':c.argTypes=(t::ts).toArray:=Array.toList_inj.1 (by simpa using ht)
 have mx:x∈o.op.operands:=by simp[Op.operands,ho,Call.operands,hc,ha']
 have pre:∀ (ac:Act) (w:World) (n:Nat),(Builtin.len_ c.argTypes o.type #[ac.eval x]).run P w=.ok (goInt n) w→(execOp ac.eval o).run P w=.ok (.value (.int .i64 n)) w:=fun ac w n hr=>by
  simp[execOp,ho,resolve,hc,ha',invoke,builtin]
  rw[hr];rfl
 obtain⟨ti,hti,h⟩:=bq h
 split at h
 ·rename_i e hd
  obtain⟨hu,_⟩:=T.slice hti hd
  have run:∀ (ac:Act) (w:World) (ao:Option Addr) (n cap:Nat),ac.eval x=.slice ao n cap→(execOp ac.eval o).run P w=.ok (.value (.int .i64 n)) w:=fun ac w ao n cap h1=>
   pre ac w n (by simp[Builtin.len_,ht',h1,run_underlying hu])
  split at h
  ·rename_i K xs ex
   exact⟨_,_,h,aZ fun X ac at_=>by
    have h1:=at_.opr x mx;rw[ex] at h1
    obtain⟨ao,cap,h3,_⟩:=wC h1
    exact⟨_,run ac X.w _ _ _ h3,RS.int.2 rfl⟩⟩
  ·rename_i id ex
   obtain⟨B,hB,h⟩:=b9 h
   split at h
   ·rename_i t' K xs
    exact⟨_,_,h,aZ fun X ac at_=>by
     have h1:=at_.opr x mx;rw[ex] at h1
     have hX:=at_.sub _ _ hB
     rcases(lz hX).1 ((RS.one (by simp) (by simp) (by simp) (by simp)).1 h1) with ⟨_,h3,h4⟩|⟨b,cap,cur,h3,h4,_⟩
     ·exact⟨_,run ac X.w _ _ _ h4,RS.int.2 (by rw[h3])⟩
     ·exact⟨_,run ac X.w _ _ _ h4,RS.int.2 rfl⟩⟩
   ·rename_i t' K ok xs oh
    exact⟨_,_,h,aZ fun X ac at_=>by
     have h1:=at_.opr x mx;rw[ex] at h1
     have hX:=at_.sub _ _ hB
     rcases(nb hX).1 ((RS.one (by simp) (by simp) (by simp) (by simp)).1 h1) with ⟨_,h3,h4⟩|⟨b,cap,cur,h3,h4,_⟩
     ·exact⟨_,run ac X.w _ _ _ h4,RS.int.2 (by rw[h3])⟩
     ·exact⟨_,run ac X.w _ _ _ h4,RS.int.2 rfl⟩⟩
   ·cases h
  ·rename_i id lo n ex
   obtain⟨B,hB,h⟩:=b9 h
   split at h
   ·rename_i t' K xs
    exact⟨_,_,h,aZ fun X ac at_=>by
     have h1:=at_.opr x mx;rw[ex] at h1
     have hX:=at_.sub _ _ hB
     obtain⟨_,ao,c',h3,_⟩:=(lA hX).1 ((RS.one (by simp) (by simp) (by simp) (by simp)).1 h1)
     exact⟨_,run ac X.w _ _ _ h3,RS.int.2 rfl⟩⟩
   ·cases h
  ·rename_i id path lo n ex
   obtain⟨B,hB,h⟩:=b9 h
   split at h
   ·rename_i t' K av
    exact⟨_,_,h,aZ fun X ac at_=>by
     have h1:=at_.opr x mx;rw[ex] at h1
     have hX:=at_.sub _ _ hB
     obtain⟨_,_,_,_,_,_,_,ao,c',h3,_⟩:=(nh hX).1 ((RS.one (by simp) (by simp) (by simp) (by simp)).1 h1)
     exact⟨_,run ac X.w _ _ _ h3,RS.int.2 rfl⟩⟩
   ·cases h
  ·cases h
 ·rename_i n e hd
  obtain⟨hu,_⟩:=T.array hti hd
  exact⟨_,_,h,aZ fun X ac at_=>⟨_,pre ac X.w n (by simp[Builtin.len_,ht',run_underlying hu]),RS.int.2 rfl⟩⟩
 ·split at h
  ·rename_i s ex
   split at h
   ·rename_i hKe
    have hu:=T.str hti hKe.symm
    exact⟨_,_,h,aZ fun X ac at_=>by
     have h1:=at_.opr x mx;rw[ex,RS.str] at h1
     exact⟨_,pre ac X.w s.size (by simp[Builtin.len_,ht',h1,run_underlying hu]),RS.int.2 rfl⟩⟩
   ·cases h
  ·cases h
 ·rename_i a b hd
  have hu:=T.map hti hd
  split at h
  ·rename_i id ex
   obtain⟨B,hB,h⟩:=b9 h
   split at h
   ·rename_i KK KV es
    exact⟨_,_,h,aZ fun X ac at_=>by
     have h1:=at_.opr x mx;rw[ex] at h1
     have hX:=at_.sub _ _ hB
     obtain⟨b',h3,h4⟩:=(ly hX).1 ((RS.one (by simp) (by simp) (by simp) (by simp)).1 h1)
     obtain⟨b'',mes,clock,h5,h6,h7,_⟩:=at_.ok.blk _ _ hX
     rw[h3] at h5;cases h5
     have hl:=h7.length
     exact⟨_,pre ac X.w mes.size (by simp[Builtin.len_,ht',h4,run_underlying hu,getObj,Sem.run,h6]),RS.int.2 (by simp at hl;rw[hl])⟩⟩
   ·cases h
  ·cases h
 ·cases h
end
theorem VG{out:A}{lo:Option AV}{hn:Nat}{k:Nat→Option A}(h:CH lo hn k=some out) :
  ∃ l,k l=some out∧l≤hn∧∀ (P:Program) (X:Cx) (w:World),(lo=none∨∃ a,lo=some a∧∀ v,RS X a v→(Instr.sliceBound v hn .sliceB).run P w=.ok l w)∧(lo=none→l=0):=by
 unfold CH at h
 split at h
 ·exact⟨0,h,Nat.zero_le _,fun _ _ _=>⟨.inl rfl,fun _=>rfl⟩⟩
 ·rename_i a
  obtain⟨q,i,rfl,g⟩:=nE h
  split at g
  ·rename_i h0
   split at g
   ·rename_i h1
    refine⟨i.toNat,g,by omega,fun P X w=>⟨.inr ⟨_,rfl,fun v hv=>?_⟩,fun h=>by cases h⟩⟩
    rw[RS.int] at hv
    subst hv
    exact run_sliceBound w q i hn .sliceB h0 h1
   ·cases g
  ·cases g
theorem yp{out:A}{len:Nat}{lo hi:Option AV}{k:Nat→Nat→Option A}(h:i8 len lo hi k=some out) :
  ∃ l h',k l h'=some out∧l≤h'∧h'≤len∧∀ (P:Program) (X:Cx) (vl vh:Option Value) (isS:Bool) (cap:Nat) (w:World),(lo.isSome=vl.isSome)→(hi.isSome=vh.isSome)→
   (∀ a v,lo=some a→vl=some v→RS X a v)→(∀ a v,hi=some a→vh=some v→RS X a v)→len≤cap→(Instr.sliceBounds isS len cap vl vh none).run P w=.ok (l,h',cap) w:=by
 unfold i8 at h
 split at h
 ·obtain⟨l,h1,h2,h3⟩:=VG h
  refine⟨l,len,h1,h2,Nat.le_refl _,fun P X vl vh isS cap w hs1 hs2 hr1 hr2 hc=>?_⟩
  cases vh with
  | some v=>simp at hs2
  | none=>
   obtain⟨h4,h5⟩:=h3 P X w
   cases vl with
   | none=>
    cases lo with
    | some _=>simp at hs1
    | none=>simp[Instr.sliceBounds,h5 rfl]
   | some v=>
    rcases h4 with rfl|⟨a,rfl,h4⟩
    ·simp at hs1
    ·simp[Instr.sliceBounds,h4 v (hr1 _ _ rfl rfl)]
 ·rename_i a
  obtain⟨q,i,rfl,g⟩:=nE h
  split at g
  ·rename_i h0
   split at g
   ·rename_i h1
    obtain⟨l,h2,h3,h4⟩:=VG g
    refine⟨l,i.toNat,h2,h3,by omega,fun P X vl vh isS cap w hs1 hs2 hr1 hr2 hc=>?_⟩
    cases vh with
    | none=>simp at hs2
    | some v=>
     have e:=hr2 _ _ rfl rfl
     rw[RS.int] at e
     subst e
     have hb:∀ code,(Instr.sliceBound (.int q i) cap code).run P w=.ok i.toNat w:=fun code=>run_sliceBound w q i cap code h0 (by omega)
     obtain⟨h5,h6⟩:=h4 P X w
     cases vl with
     | none=>
      cases lo with
      | some _=>simp at hs1
      | none=>simp[Instr.sliceBounds,hb,h6 rfl]
     | some v=>
      rcases h5 with rfl|⟨a,rfl,h5⟩
      ·simp at hs1
      ·simp[Instr.sliceBounds,hb,h5 v (hr1 _ _ rfl rfl)]
   ·cases g
  ·cases g
section
variable{P:Program}{E:Env A}(T:aO P E){o:Oper}{ev:Operand→AV}{sub:List (Nat×Blk)}{fresh:Nat}{k:bX A}{out:A}
include T in
theorem amw{t:TypeId}{x:Operand}{lo hi:Option Operand}(ho:o.op=.slice t x lo hi none)(h:Xw E sub t (ev x) (lo.map ev) (hi.map ev) (fun v=>k v [])=some out):∃ v l,k v l=some out∧aL P o ev sub fresh v l:=by
 have mx:x∈o.op.operands:=by simp[Op.operands,ho]
 have ml:∀ y,lo=some y→y∈o.op.operands:=fun y e=>by simp[Op.operands,ho,e]
 have mh:∀ y,hi=some y→y∈o.op.operands:=fun y e=>by simp[Op.operands,ho,e]
 have hlo:∀ (X:Cx) (ac:Act),At X ac o ev sub→∀ a v,lo.map ev=some a→lo.map ac.eval=some v→RS X a v:=fun X ac at_ a v h1 h2=>by
  cases hl:lo with
  | none=>rw[hl] at h1;cases h1
  | some y=>rw[hl] at h1 h2;simp at h1 h2;subst h1;subst h2;exact at_.opr y (ml y hl)
 have hhi:∀ (X:Cx) (ac:Act),At X ac o ev sub→∀ a v,hi.map ev=some a→hi.map ac.eval=some v→RS X a v:=fun X ac at_ a v h1 h2=>by
  cases hl:hi with
  | none=>rw[hl] at h1;cases h1
  | some y=>rw[hl] at h1 h2;simp at h1 h2;subst h1;subst h2;exact at_.opr y (mh y hl)
 obtain⟨ti,hti,h⟩:=bq h
 split at h
 ·rename_i e hd
  obtain⟨hu,j,hj,hK,hpos,_⟩:=T.slice hti hd
  have run:∀ {len:Nat} {kk:Nat→Nat→Option A},i8 len (lo.map ev) (hi.map ev) kk=some out→∃ l h',kk l h'=some out∧l≤h'∧h'≤len∧∀ (X:Cx) (ac:Act),At X ac o ev sub→∀ ao cap,ac.eval x=.slice ao len cap→len≤cap→
    (execOp ac.eval o).run P X.w=.ok (.value (.slice (if cap=l then ao else ao.map (·.add (l*j.K.size))) (h'-l) (cap-l))) X.w:=fun {len kk} hb=>by
   obtain⟨l,h',h1,h2,h3,h4⟩:=yp hb
   refine⟨l,h',h1,h2,h3,fun X ac at_ ao cap h5 h6=>?_⟩
   have h7:=h4 P X (lo.map ac.eval) (hi.map ac.eval) true cap X.w (by simp) (by simp) (hlo X ac at_) (hhi X ac at_) h6
   simp[execOp,ho,Instr.sliceAt,run_underlying hu,Instr.slice,h5,h7,T.runSize hj]
  split at h
  ·rename_i K xs ex
   split at h
   ·rename_i hKe
    rw[hK] at hKe
    simp only[Kind.sl.injEq] at hKe
    subst hKe
    obtain⟨l,h',h,hlh,hhl,hr⟩:=run h
    exact⟨_,_,h,aZ fun X ac at_=>by
     have h1:=at_.opr x mx;rw[ex] at h1
     obtain⟨ao,cap,h3,hcap,h4⟩:=wC h1
     refine⟨_,hr X ac at_ ao cap h3 hcap,?_⟩
     have hlen:((xs.drop l).take (h'-l)).length=h'-l:=by simp;omega
     refine .of0 (.inr ⟨[_],⟨_,cap-l,by rw[hlen],by omega,fun hp=>?_⟩,.inr ⟨rfl,rfl⟩⟩) (by simp)
     rw[hlen] at hp
     obtain⟨ad,css,rfl,hF,h5,h6⟩:=h4 (by omega)
     rw[if_neg (by omega)]
     refine⟨ad.add (l*j.K.size),(css.drop l).take (h'-l),rfl,by rw[gF];exact hF,(h5.drop l).take _,fun m u hm=>?_⟩
     rw[tZ]
     exact h6 _ _ (CW h5.lens hm)⟩
   ·cases h
  ·rename_i id ex
   obtain⟨B,hB,h⟩:=b9 h
   split at h
   ·rename_i t' K xs
    split at h
    ·rename_i hKe
     rw[hK] at hKe
     simp only[Kind.sl.injEq] at hKe
     subst hKe
     obtain⟨l,h',h,hlh,hhl,hr⟩:=run h
     exact⟨_,_,h,aZ fun X ac at_=>by
      have h1:=at_.opr x mx;rw[ex] at h1
      have hX:=at_.sub _ _ hB
      rcases(lz hX).1 ((RS.one (by simp) (by simp) (by simp) (by simp)).1 h1) with ⟨_,h3,h4⟩|⟨b,cap,cur,h3,h4,_,_,h5⟩
      ·refine⟨_,hr X ac at_ none 0 (by rw[h4,h3]) (Nat.le_of_eq h3),(RS.one (by simp) (by simp) (by simp) (by simp)).2 ((lA hX).2 ⟨by omega,_,_,rfl,by omega,fun hp=>by omega⟩)⟩
      ·refine⟨_,hr X ac at_ _ _ h4 h5,(RS.one (by simp) (by simp) (by simp) (by simp)).2 ((lA hX).2 ⟨by omega,_,_,rfl,by omega,fun hp=>⟨b,h3,?_⟩⟩)⟩
       rw[if_neg (by omega),Option.map_some,add_lit,Nat.zero_add]⟩
    ·cases h
   ·cases h
  ·rename_i id a n ex
   obtain⟨B,hB,h⟩:=b9 h
   split at h
   ·rename_i t' K xs
    split at h
    ·rename_i hKe
     rw[hK] at hKe
     simp only[Kind.sl.injEq] at hKe
     subst hKe
     obtain⟨l,h',h,hlh,hhl,hr⟩:=run h
     exact⟨_,_,h,aZ fun X ac at_=>by
      have h1:=at_.opr x mx;rw[ex] at h1
      have hX:=at_.sub _ _ hB
      obtain⟨hle,ao,c,h3,h4,h5⟩:=(lA hX).1 ((RS.one (by simp) (by simp) (by simp) (by simp)).1 h1)
      refine⟨_,hr X ac at_ _ _ h3 h4,(RS.one (by simp) (by simp) (by simp) (by simp)).2 ((lA hX).2 ⟨by omega,_,_,rfl,by omega,fun hp=>?_⟩)⟩
      obtain⟨b,h6,rfl⟩:=h5 (by omega)
      refine⟨b,h6,?_⟩
      rw[if_neg (by omega),Option.map_some,add_lit,Nat.add_mul]⟩
    ·cases h
   ·cases h
  ·rename_i id path a n ex
   obtain⟨B,hB,h⟩:=b9 h
   split at h
   ·rename_i t' K av
    split at h
    ·rename_i m e' hk
     split at h
     ·rename_i hKe
      rw[hK] at hKe
      simp only[Kind.sl.injEq] at hKe
      subst hKe
      obtain⟨l,h',h,hlh,hhl,hr⟩:=run h
      exact⟨_,_,h,aZ fun X ac at_=>by
       have h1:=at_.opr x mx;rw[ex] at h1
       have hX:=at_.sub _ _ hB
       obtain⟨b,off,n',e',h3,h4,hle,ao,c,h5,h6,h7⟩:=(nh hX).1 ((RS.one (by simp) (by simp) (by simp) (by simp)).1 h1)
       have h8:=jY h4
       rw[hk] at h8
       simp only[Option.some.injEq,Kind.arr.injEq] at h8
       obtain⟨rfl,rfl⟩:=h8
       refine⟨_,hr X ac at_ _ _ h5 h6,(RS.one (by simp) (by simp) (by simp) (by simp)).2 ((nh hX).2 ⟨b,off,_,_,h3,h4,by omega,_,_,rfl,by omega,fun hp=>?_⟩)⟩
       obtain rfl:=h7 (by omega)
       rw[if_neg (by omega),Option.map_some,add_lit,Nat.add_mul,Nat.add_assoc]⟩
     ·cases h
    ·cases h
   ·cases h
  ·cases h
 ·rename_i n e hd
  obtain⟨hu,j,hj,hK,hpos⟩:=T.array hti hd
  split at h
  ·rename_i id path ex
   obtain⟨B,hB,h⟩:=b9 h
   split at h
   ·rename_i t' K av
    split at h
    ·rename_i K' hk
     split at h
     ·rename_i hKe
      subst hKe
      obtain⟨l,h',h,hlh,hhl,h4⟩:=yp h
      exact⟨_,_,h,aZ fun X ac at_=>by
       have h1:=at_.opr x mx;rw[ex] at h1
       have hX:=at_.sub _ _ hB
       obtain⟨b,off,K1,h5,h6,h7⟩:=(jt hX).1 ((RS.one (by simp) (by simp) (by simp) (by simp)).1 h1)
       have h8:=jY h6
       rw[hk,hK] at h8
       simp only[Option.some.injEq] at h8
       subst h8
       have h9:=h4 P X (lo.map ac.eval) (hi.map ac.eval) false n X.w (by simp) (by simp) (hlo X ac at_) (hhi X ac at_) (Nat.le_refl _)
       refine⟨.slice (some (if n=l then⟨b,off,none⟩ else(⟨b,off,none⟩:Addr).add (l*j.K.size))) (h'-l) (n-l),?_,(RS.one (by simp) (by simp) (by simp) (by simp)).2 ((nh hX).2 ⟨b,off,_,_,h5,h6,by omega,_,_,rfl,by omega,fun hp=>?_⟩)⟩
       ·simp[execOp,ho,Instr.sliceAt,run_underlying hu,h7,Instr.sureAddr,h9,T.runSize hj]
       ·rw[if_neg (by omega),add_lit]⟩
     ·cases h
    ·cases h
   ·cases h
  ·rename_i m e' y ex
   split at h
   ·rename_i hKe
    rw[hK] at hKe
    simp only[Kind.arr.injEq] at hKe
    obtain⟨rfl,rfl⟩:=hKe
    obtain⟨l,h',h,hlh,hhl,h4⟩:=yp h
    exact⟨_,_,h,aZ fun X ac at_=>by
     have h1:=at_.opr x mx;rw[ex] at h1
     obtain⟨ad,cs,h5,hF,⟨hyl,css,rfl,h6⟩,h7⟩:=(RS.one (by simp) (by simp) (by simp) (by simp)).1 h1
     have h9:=h4 P X (lo.map ac.eval) (hi.map ac.eval) false _ X.w (by simp) (by simp) (hlo X ac at_) (hhi X ac at_) (Nat.le_refl _)
     have hlen:((y.drop l).take (h'-l)).length=h'-l:=by simp;omega
     refine⟨.slice (some (if m=l then ad else ad.add (l*j.K.size))) (h'-l) (m-l),by simp[execOp,ho,Instr.sliceAt,run_underlying hu,h5,Instr.sureAddr,h9,T.runSize hj],?_⟩
     refine .of0 (.inr ⟨[_],⟨_,m-l,by rw[hlen],by omega,fun hp=>?_⟩,.inr ⟨rfl,rfl⟩⟩) (by simp)
     rw[hlen] at hp
     rw[if_neg (by omega)]
     refine⟨ad.add (l*j.K.size),(css.drop l).take (h'-l),rfl,by rw[gF];exact hF,(h6.drop l).take _,fun q u hm=>?_⟩
     rw[tZ]
     exact h7 _ _ (CW h6.lens hm)⟩
   ·cases h
  ·cases h
 ·split at h
  ·rename_i s ex
   split at h
   ·rename_i hKe
    have hu:=T.str hti hKe.symm
    obtain⟨l,h',h,hlh,hhl,h4⟩:=yp h
    exact⟨_,_,h,aZ fun X ac at_=>by
     have h1:=at_.opr x mx;rw[ex,RS.str] at h1
     have h9:=h4 P X (lo.map ac.eval) (hi.map ac.eval) false s.size X.w (by simp) (by simp) (hlo X ac at_) (hhi X ac at_) (Nat.le_refl _)
     exact⟨_,by simp[execOp,ho,Instr.sliceAt,run_underlying hu,Instr.slice,h1,h9]<;>rfl,RS.str.2 rfl⟩⟩
   ·cases h
  ·cases h
 ·cases h
theorem Ms{f:Int→Int→Int}{g:Value→Value→Sem Value}(hg:∀ q a b (w:World),(g (.int q a) (.int q b)).run P w=.ok (.int q (f a b)) w) :
  ∀ (rest:List Operand) (v:AV) (kk:AV→Option A),sW f (rest.map ev) v kk=some out→∃ v',kk v'=some out∧∀ (X:Cx) (ac:Act) (u:Value),(∀ x∈rest,RS X (ev x) (ac.eval x))→RS X v u→
   ∃ u',((rest.map ac.eval).foldlM g u).run P X.w=.ok u' X.w∧RS X v' u'
 | [],v,kk,h=>⟨v,h,fun X ac u _ hu=>⟨u,rfl,hu⟩⟩
 | x::r,v,kk,h=>by
  simp only[List.map_cons,sW] at h
  split at h
  ·rename_i _ q a q' b ex
   split at h
   ·rename_i hq;subst hq
    obtain⟨v',h1,h2⟩:=Ms hg r _ kk h
    refine⟨v',h1,fun X ac u hr hu=>?_⟩
    have e1:=hr x (by simp)
    rw[ex,RS.int] at e1
    rw[RS.int] at hu
    obtain⟨u',h3,h4⟩:=h2 X ac (.int q (f a b)) (fun y hy=>hr y (by simp[hy])) (RS.int.2 rfl)
    exact⟨u',by simp[hu,e1,hg,h3],h4⟩
   ·cases h
  ·cases h
theorem VP{b:Builtin}{f:Int→Int→Int}{x:Operand}{rest:List Operand}{c:Call}(ho:o.op=.call c)(hc:c.callee=.builtin b)(ha:c.args.toList=x::rest)(hb:(b=.min∧f=cf)∨(b=.max∧f=bi))(h:sW f (rest.map ev) (ev x) (fun v=>k v [])=some out):∃ v l,k v l=some out∧aL P o ev sub fresh v l:=by
 have ha':c.args=(x::rest).toArray:=Array.toList_inj.1 (by simpa using ha)
 have mx:∀ y∈x::rest,y∈o.op.operands:=fun y hy=>by simp[Op.operands,ho,Call.operands,hc,ha'];simpa using hy
 rcases hb with ⟨rfl,rfl⟩|⟨rfl,rfl⟩
 ·obtain⟨v',h1,h2⟩:=Ms (P:=P) (g:=Builtin.min2) (fun q a b w=>by simp[Builtin.min2,cf]) rest _ _ h
  refine⟨_,_,h1,aZ fun X ac at_=>?_⟩
  obtain⟨u,h3,h4⟩:=h2 X ac (ac.eval x) (fun y hy=>at_.opr y (mx y (by simp[hy]))) (at_.opr x (mx x (by simp)))
  exact⟨u,by simp[execOp,ho,resolve,hc,ha',invoke,builtin,Builtin.min_,h3],h4⟩
 ·obtain⟨v',h1,h2⟩:=Ms (P:=P) (g:=Builtin.max2) (fun q a b w=>by simp[Builtin.max2,bi]) rest _ _ h
  refine⟨_,_,h1,aZ fun X ac at_=>?_⟩
  obtain⟨u,h3,h4⟩:=h2 X ac (ac.eval x) (fun y hy=>at_.opr y (mx y (by simp[hy]))) (at_.opr x (mx x (by simp)))
  exact⟨u,by simp[execOp,ho,resolve,hc,ha',invoke,builtin,Builtin.max_,h3],h4⟩
end
theorem mR{P:Program}{o:Oper}{ev:Operand→AV}{sub:List (Nat×Blk)}{fresh:Nat}{v:AV}{id:Nat}{B B':Blk}(hB:sub.lookup id=some B)(hl:B.plain=true)(hl':B'.plain=true)(he:BlkEvo B B')(h:∀ (X:Cx) (a:Act),At X a o ev sub→∃ (r:Next) (u:Value) (n:Nat) (w':World),(execOp a.eval o).run P X.w=.ok r w'∧(r=.value u∨(r=.skip∧u=undef))∧X.ρ id=some n∧
   w'.os=X.w.os∧w'.tape=X.w.tape∧w'.output=X.w.output∧X.w.heap.size≤w'.heap.size∧(∀ k,k<X.w.heap.size→k≠n→w'.heap[k]?=X.w.heap[k]?)∧
   (∀ (c:Array Value) (e:TypeId) (f:Nat×Nat),X.w.heap[n]?=some (Obj.cells c e f)→∃ c':Array Value,w'.heap[n]?=some (Obj.cells c' e f)∧c'.size=c.size)∧
   ∀ Y:Cx,Y=⟨X.ρ,aC X.hp id B',X.F,w'⟩→WEvo X Y→HEvo X Y→RB Y id B'∧RS Y v u):aL P o ev sub fresh v [(id,B')]:=
 ⟨fun q hq=>.inr ⟨B,by simp at hq;subst hq;exact hB⟩,fun X a K Q at_ _ hk=>by
  obtain⟨r,u,n,w',hr,hru,hρ,h1,h2,h3,h4,h5,h6,h7⟩:=h X a at_
  obtain⟨o1,o2,o3⟩:=Yf at_.ok (at_.sub _ _ hB) hl hρ he hl' (w':=w') (Y:=⟨X.ρ,aC X.hp id B',X.F,w'⟩) rfl h1 h2 h3 h4 h5 h6 fun W H=>(h7 _ rfl W H).1
  unfold Oper.wp;rw[hr]
  rcases hru with rfl|⟨rfl,rfl⟩
  ·exact hk ⟨X.ρ,aC X.hp id B',X.F,w'⟩ u rfl (h7 _ rfl o2 o3).2 o1 o2 o3
  ·exact hk ⟨X.ρ,aC X.hp id B',X.F,w'⟩ undef rfl (h7 _ rfl o2 o3).2 o1 o2 o3⟩
theorem qh(w:World)(g:Nat)(cs:Array Value):(w.setRow g cs).heap.size=w.heap.size:=by simp[World.setRow]
theorem wE{α:Type}{cs vc:List α}{off:Nat}(h:off+vc.length≤cs.length):(bJ cs off vc).length=cs.length:=by
 simp[bJ];omega
theorem am0{α:Type}{cs vc:List α}{off n:Nat}(h:off+vc.length≤n)(hn:n≤cs.length):(bJ cs off vc).take n=bJ (cs.take n) off vc:=by
 unfold bJ
 have hl:(cs.take off++vc).length=off+vc.length:=by simp;omega
 rw[List.take_append,List.take_of_length_le (by omega),hl,List.take_take,List.drop_take,Nat.min_eq_left (by omega)]
section
variable{P:Program}{E:Env A}(T:aO P E){o:Oper}{ev:Operand→AV}{sub:List (Nat×Blk)}{fresh:Nat}{k:bX A}{out:A}
theorem Xl(g o:Nat)(t:TypeId)(fz:Nat×Nat):∀ (vs:List Value) (i:Nat) (cur:Array Value) (w:World),w.heap[g]?=some (.cells cur t fz)→(fz.2≤o+i∨o+i+vs.length≤fz.1)→o+i+vs.length≤cur.size→(∀ v∈vs,v.oneCell'=true)→
  (storeCells ⟨g,o,none⟩ vs i).run P w=.ok () (w.setRow g (cur.toList.take (o+i)++vs++cur.toList.drop (o+i+vs.length)).toArray)
 | [],i,cur,w,hg,_,_,_=>by
  simp only[storeCells,List.append_nil,List.length_nil,Nat.add_zero,List.take_append_drop,Array.toArray_toList]
  rw[setRow_self w g cur t fz hg]
  rfl
 | v::rest,i,cur,w,hg,hfz,hl,h1=>by
  have hi:o+i<cur.size:=by simp at hl;omega
  have hadd:(⟨g,o,none⟩:Addr).add i=⟨g,o+i,none⟩:=by unfold Addr.add;split<;>simp_all
  have hcell:w.cell? ⟨g,o+i,none⟩=some cur[o+i]:=by simp[World.cell?,hg,hi]
  have hfro:w.frozen? ⟨g,o+i,none⟩=false:=by
   obtain⟨lo,hi'⟩:=fz
   simp only[List.length_cons] at hfz
   simp only[World.frozen?,hg,Bool.and_eq_false_iff,decide_eq_false_iff_not]
   omega
  have hst:(store ((⟨g,o,none⟩:Addr).add i) v).run P w=.ok () (w.setRow g (cur.setIfInBounds (o+i) v)):=by
   rw[hadd,run_store P w _ v _ (h1 v (by simp)),hcell]
   simp[hfro,setCell_eq_setRow w g (o+i) cur t fz v hg]
  have ih:=Xl g o t fz rest (i+1) (cur.setIfInBounds (o+i) v) (w.setRow g (cur.setIfInBounds (o+i) v)) (setRow_heap w g cur _ t _ hg) (by simp only[List.length_cons] at hfz;omega) (by simp at hl ⊢;omega) (fun x hx=>h1 x (by simp[hx]))
  simp only[storeCells,Sem.run_bind,hst,Result.andThen_ok,ih,setRow_setRow]
  congr 3
  have e:=list_seg_step cur.toList (o+i) v rest (by simp at hl ⊢;omega)
  simpa[Array.toList_setIfInBounds,Nat.add_assoc] using e
theorem ce.set{w:World}{b:Nat}{cur cur':Array Value}{e:TypeId}(h:ce w b cur e)(hs:cur'.size=cur.size):ce (w.setRow b cur') b cur' e:=by
 obtain⟨f,h1,h⟩:=h
 exact⟨f,by rw[hs];exact h1,setRow_heap _ _ _ _ _ _ h⟩
theorem ce.store{w:World}{b:Nat}{cur:Array Value}{e:TypeId}(h:ce w b cur e)(o:Nat)(vs:List Value)(hl:o+vs.length≤cur.size)(h1:∀ v∈vs,v.oneCell'=true) :
  (storeCells ⟨b,o,none⟩ vs 0).run P w=.ok () (w.setRow b (cur.toList.take o++vs++cur.toList.drop (o+vs.length)).toArray):=by
 obtain⟨f,hf,h⟩:=h
 have:=Xl (P:=P) b o e f vs 0 cur w h (by rcases hf with rfl|rfl<;>simp<;>omega) (by simpa using hl) h1
 simpa using this
theorem Nx{X:Cx}{t te:TypeId}{i:TI}(hsz:∀ w,(sizeOf t).run P w=.ok i.K.size w){v:Value}{vc cs:List Value}{b off:Nat}(hv:v.cells=vc.toArray)(hl:vc.length=i.K.size)(h1:∀ u∈vc,u.oneCell'=true)(hb:ce X.w b cs.toArray te)(hle:off+vc.length≤cs.length):(storeVar t ⟨b,off,none⟩ v).run P X.w=.ok () (X.w.setRow b (bJ cs off vc).toArray):=by
 have hs:=hb.store (P:=P) off vc (by simpa using hle) h1
 simp[storeVar,hsz,hv,hl]
 rw[hs]
 rfl
include T in
theorem XD{t:TypeId}{a x:Operand}{y:TI→AV}(ho:o.op=.store t a x)(hy:∀ (i:TI) (X:Cx) (ac:Act),RS X (ev x) (ac.eval x)→RS X (y i) (ac.eval x))(h:(E.ti t fun i=>if (y i).isAny then none else if (y i).fits i.K then tx sub (ev a) (y i) (fun l=>k .any l) else none)=some out):∃ v l,k v l=some out∧aL P o ev sub fresh v l:=by
 have ma:a∈o.op.operands:=by simp[Op.operands,ho]
 have mx:x∈o.op.operands:=by simp[Op.operands,ho]
 obtain⟨i,hi,h⟩:=bq h
 split at h
 ·cases h
 rename_i hna
 split at h
 ·rename_i hf
  have hna':(y i).isAny=false:=by simpa using hna
  have val:∀ (X:Cx) (ac:Act),At X ac o ev sub→∃ vc,RA X (y i) vc∧(ac.eval x).cells=vc.toArray∧vc.length=i.K.size∧∀ u∈vc,u.oneCell'=true:=fun X ac at_=>by
   obtain⟨vc,h1,h2⟩:=((hy i X ac (at_.opr x mx)).to0 (ji hf)).cells hna'
   exact⟨vc,h1,h2,RA.length hf h1,h1.one⟩
  have world:∀ (X:Cx) (b:Nat) (te:TypeId) (cs:List Value) (new:Array Value),ce X.w b cs.toArray te→new.size=cs.length→
    (X.w.setRow b new).os=X.w.os∧(X.w.setRow b new).tape=X.w.tape∧(X.w.setRow b new).output=X.w.output∧X.w.heap.size≤(X.w.setRow b new).heap.size∧
    (∀ k,k<X.w.heap.size→k≠b→(X.w.setRow b new).heap[k]?=X.w.heap[k]?)∧
    (∀ (c:Array Value) (e:TypeId) (f:Nat×Nat),X.w.heap[b]?=some (Obj.cells c e f)→∃ c':Array Value,(X.w.setRow b new).heap[b]?=some (Obj.cells c' e f)∧c'.size=c.size):=fun X b te cs new h1 h2=>
   ⟨rfl,rfl,rfl,by rw[qh];exact Nat.le_refl _,fun k _ hk=>setRow_other _ _ _ _ hk,fun c e f hc=>⟨new,setRow_heap _ _ _ _ _ _ hc,by obtain⟨_,_,h1⟩:=h1;rw[h1] at hc;cases hc;simp[h2]⟩⟩
  unfold tx at h
  split at h
  ·rename_i id path ea
   obtain⟨B,hB,h⟩:=b9 h
   split at h
   ·rename_i t' K old
    obtain⟨new,h,hfn,hs⟩:=wx h
    refine⟨_,_,h,mR hB rfl rfl (.var ..) fun X ac at_=>?_⟩
    have h1:=at_.opr a ma;rw[ea] at h1
    have hX:=at_.sub _ _ hB
    obtain⟨b,off,K',h2,h3,h4⟩:=(jt hX).1 ((RS.one (by simp) (by simp) (by simp) (by simp)).1 h1)
    obtain⟨hfo,b',cs,h5,h6,h7⟩:=at_.ok.blk _ _ hX
    rw[h2] at h5;cases h5
    obtain⟨vc,v1,v2,v3,v4⟩:=val X ac at_
    obtain⟨off',K'',h8,h9,h10⟩:=hs hfo h7 v1
    rw[h3] at h8;cases h8
    have hle:off+vc.length≤cs.length:=by rw[RA.length h9 v1,RA.length hfo h7];exact ga h3
    obtain⟨w1,w2,w3,w4,w5,w6⟩:=world X b t' cs (bJ cs off vc).toArray (.of h6) (by simp[wE hle])
    refine⟨.skip,undef,b,_,?_,.inr ⟨rfl,rfl⟩,h2,w1,w2,w3,w4,w5,w6,fun Y hY W H=>?_⟩
    ·simp[execOp,ho,Instr.storeAt,h4,Instr.sureAddr,Nx (i:=i) (T.runSize hi) v2 v3 v4 (.of h6) hle]
    ·subst hY
     exact⟨⟨hfn hfo,b,bJ cs off vc,h2,setRow_heap _ _ _ _ _ _ h6,h10.evo W H at_.ok.fo⟩,RS.any _⟩
   ·rename_i t' K xs
    have fin:∀ (i0:Nat) (r:List Hop) (z:K.den),path=.idx i0::r→i0<xs.length→
      (∀ (X:Cx) (y0:K.den) (c vc:List Value),xs[i0]?=some y0→RP X.F X.w K y0 c→RA X (y i) vc→∃ off K',az K r=some (off,K')∧(y i).fits K'=true∧RP X.F X.w K z (bJ c off vc))→
      aL P o ev sub fresh .any [(id,.row t' K (xs.set i0 z))]:=fun i0 r z hp hlt hz=>mR hB rfl rfl (.row _ _ _ _ (by simp)) fun X ac at_=>by
     have h1:=at_.opr a ma;rw[ea] at h1
     have hX:=at_.sub _ _ hB
     obtain⟨b,i',r',off,K1,hp',_,h2,h3,h4⟩:=(ng hX).1 ((RS.one (by simp) (by simp) (by simp) (by simp)).1 h1)
     rw[hp] at hp'
     simp only[List.cons.injEq,Hop.idx.injEq] at hp'
     obtain⟨rfl,rfl⟩:=hp'
     obtain⟨cur,cap,css,h5,h6,h7,h8,h9,h10,h11⟩:=qe (at_.ok.blk _ _ hX) h2
     obtain⟨vc,v1,v2,v3,v4⟩:=val X ac at_
     obtain⟨y0,hy0⟩:∃ y0,xs[i0]?=some y0:=⟨_,List.getElem?_eq_getElem hlt⟩
     obtain⟨c,hc,hrc⟩:=h9.get hy0
     obtain⟨off',K'',q1,q2,q3⟩:=hz X y0 c vc hy0 hrc v1
     rw[h3] at q1;cases q1
     have hoff:=ga h3
     have hvl:=RA.length q2 v1
     have hfl:css.flatten.length=xs.length*K.size:=by rw[eT h9.lens,← h9.length]
     have hcl:xs.length*K.size≤cur.size:=by rw[h6];exact Nat.mul_le_mul_right _ h7
     have hi1:(i0+1)*K.size≤xs.length*K.size:=Nat.mul_le_mul_right _ hlt
     rw[Nat.add_mul,Nat.one_mul] at hi1
     have hle:i0*K.size+off+vc.length≤cur.toList.length:=by simp only[Array.length_toList];omega
     have hcell:ce X.w b cur.toList.toArray t':=by simpa using h5
     obtain⟨w1,w2,w3,w4,w5,w6⟩:=world X b t' cur.toList (bJ cur.toList (i0*K.size+off) vc).toArray hcell (by simp[wE hle])
     refine⟨.skip,undef,b,_,?_,.inr ⟨rfl,rfl⟩,h2,w1,w2,w3,w4,w5,w6,fun Y hY W H=>?_⟩
     ·simp[execOp,ho,Instr.storeAt,h4,Instr.sureAddr,Nx (i:=i) (T.runSize hi) v2 v3 v4 hcell hle]
     ·subst hY
      refine⟨.inr ⟨b,_,cap,css.set i0 (bJ c off vc),h2,h5.set (by simp[wE hle]),by simp[wE hle,h6],by simpa using h7,h8,((h9.set i0 q3)).imp fun _ _ _ _ hr=>RP.evo W at_.ok.fo hr,?_⟩,RS.any _⟩
      rw[← Mo h9.lens hc (by omega),h10]
      simp only[List.length_set]
      rw[am0 (by omega) (by simpa using hcl)]
    split at h
    ·rename_i i0 _
     obtain⟨z,hx,hlt,h⟩:=wv h
     refine⟨_,_,h,fin i0 [] z rfl hlt fun X y0 c vc _ hrc hv=>⟨0,K,cL K,by rw[hx];simp[AV.fits],?_⟩⟩
     rw[hx] at hv
     rw[wD (by rw[RP.length hrc,RP.length (show RP X.F X.w K z vc from hv)])]
     exact hv
    ·rename_i i0 hh r _
     obtain⟨y,hy,h⟩:=Option.bind_eq_some_iff.1 h
     obtain⟨y',h,_,hs⟩:=ww h
     obtain⟨z,rfl,hlt,h⟩:=wv h
     refine⟨_,_,h,fin i0 (hh::r) z rfl hlt fun X y0 c vc hy0 hrc hv=>?_⟩
     rw[hy] at hy0;cases hy0
     exact hs hrc hv
    ·cases h
   ·cases h
  ·cases h
 ·cases h
end
structure Elems(X:Cx)(ids:List Nat)(K:Kind)(ys:List K.den)(u:Value):Prop where
 get:∃ ao c,u=.slice ao ys.length c∧ys.length≤c∧(0<ys.length→∃ ad css,ao=some ad∧(X.F ad.block∨∃ id∈ids,X.ρ id=some ad.block∧∃ b,X.hp[id]?=some b∧b.plain=true)∧
  All2 (RP X.F X.w K) ys css∧∀ j u',css.flatten[j]?=some u'→X.w.cell? (ad.add j)=some u')
theorem CE{out:A}{sub:List (Nat×Blk)}{v:AV}{k:(K:Kind)→List K.den→Option A}(h:iD sub v k=some out) :
  ∃ K ys,k K ys=some out∧∀ (X:Cx) (u:Value),Ok X→(∀ (id:Nat) (b:Blk),sub.lookup id=some b→X.hp[id]?=some b)→RS X v u→Elems X v.ids K ys u:=by
 unfold iD at h
 split at h
 ·rename_i K xs
  refine⟨K,xs,h,fun X u ok hs hr=>⟨?_⟩⟩
  obtain⟨ao,cap,h1,h2,h3⟩:=wC hr
  refine⟨ao,cap,h1,h2,fun hp=>?_⟩
  obtain⟨ad,css,h4,h5,h6,h7⟩:=h3 hp
  exact⟨ad,css,h4,.inl h5,h6,h7⟩
 ·rename_i id
  obtain⟨B,hB,h⟩:=b9 h
  split at h
  ·rename_i t K xs
   refine⟨K,xs,h,fun X u ok hs hr=>⟨?_⟩⟩
   have hX:=hs _ _ hB
   rcases(lz hX).1 ((RS.one (by simp) (by simp) (by simp) (by simp)).1 hr) with ⟨_,h1,h2⟩|⟨b,cap,cur,h1,h2,_,_,h3⟩
   ·exact⟨none,0,by rw[h2,h1],by omega,fun hp=>by omega⟩
   ·refine⟨_,cap,h2,h3,fun hp=>?_⟩
    obtain⟨cur',cap',css,_,_,_,_,h4,_,h5⟩:=qe (ok.blk _ _ hX) h1
    exact⟨_,css,rfl,.inr ⟨id,by simp[AV.ids],h1,_,hX,rfl⟩,h4,h5⟩
  ·cases h
 ·rename_i id lo len
  obtain⟨B,hB,h⟩:=b9 h
  split at h
  ·rename_i t K xs
   refine⟨K,_,h,fun X u ok hs hr=>⟨?_⟩⟩
   have hX:=hs _ _ hB
   obtain⟨h1,ao,c,h2,h3,h4⟩:=(lA hX).1 ((RS.one (by simp) (by simp) (by simp) (by simp)).1 hr)
   have hl:((xs.drop lo).take len).length=len:=by simp;omega
   refine⟨ao,c,by rw[hl];exact h2,by omega,fun hp=>?_⟩
   rw[hl] at hp
   obtain⟨b,h5,rfl⟩:=h4 hp
   obtain⟨cur',cap',css,_,_,_,_,h6,_,h7⟩:=qe (ok.blk _ _ hX) h5
   refine⟨_,(css.drop lo).take len,rfl,.inr ⟨id,by simp[AV.ids],h5,_,hX,rfl⟩,(h6.drop lo).take len,fun j u' hj=>?_⟩
   have:=h7 _ _ (CW h6.lens hj)
   rw[add_lit,Nat.zero_add] at this
   rw[add_lit]
   exact this
  ·cases h
 ·rename_i id path lo len
  obtain⟨B,hB,h⟩:=b9 h
  split at h
  ·rename_i t K av
   obtain⟨y,h,hs'⟩:=jT h
   split at h
   ·rename_i n e l
    refine⟨e,_,h,fun X u ok hs hr=>⟨?_⟩⟩
    have hX:=hs _ _ hB
    obtain⟨b,off,n',e',h1,h2,h3,ao,c,h4,h5,h6⟩:=(nh hX).1 ((RS.one (by simp) (by simp) (by simp) (by simp)).1 hr)
    obtain⟨hfo,b',cs,h7,h8,h9⟩:=ok.blk _ _ hX
    rw[h1] at h7;cases h7
    obtain⟨off',K',h10,h11,h12⟩:=hs' hfo h9
    rw[h2] at h10
    simp only[Option.some.injEq,Prod.mk.injEq] at h10
    obtain⟨rfl,rfl⟩:=h10
    simp only[AV.fits,decide_eq_true_eq,Kind.arr.injEq] at h11
    obtain⟨rfl,rfl⟩:=h11
    obtain⟨hl,css,hcut,hr'⟩:=h12
    have hlen:((l.drop lo).take len).length=len:=by simp;omega
    refine⟨ao,c,by rw[hlen];exact h4,by omega,fun hp=>?_⟩
    rw[hlen] at hp
    obtain rfl:=h6 hp
    refine⟨_,(css.drop lo).take len,rfl,.inr ⟨id,by simp[AV.ids],h1,_,hX,rfl⟩,(hr'.drop lo).take len,fun j u' hj=>?_⟩
    have:=CW hr'.lens hj
    rw[← hcut] at this
    have:=ja this
    rw[add_lit,cell_of_row _ _ _ _ _ _ h8]
    simpa[Nat.add_assoc] using this
   ·cases h
  ·cases h
 ·cases h
section
variable{P:Program}{E:Env A}(T:aO P E){o:Oper}{ev:Operand→AV}{sub:List (Nat×Blk)}{fresh:Nat}{k:bX A}{out:A}
include T in
theorem aO.zeroInfo{t:TypeId}{i:TI}(h:E.ty.lookup t=some i):∃ inf z,P.info? t=some inf∧inf.zero=some z∧inf.size=i.K.size∧inf.bytes=i.bytes∧z.cells.size=i.K.size∧(∀ F w,RP F w i.K i.K.zero z.cells.toList):=by
 obtain⟨inf,d,h1,_,h2,h3⟩:=T.info h
 have:=T t i h
 unfold ke at this
 rw[h1] at this
 split at this
 ·rename_i inf' d' h4 h5
  cases h4
  simp only[Bool.and_eq_true] at this
  have hz:=this.1.1.2
  split at hz
  ·rename_i cs hcs
   simp only[Bool.and_eq_true] at hz
   have hr:=fun F w=>kf (F:=F) (w:=w) hz.2.1
   refine⟨inf,.agg cs,h1,hcs,h2,h3,?_,hr⟩
   have:=RP.length (hr (fun _=>False) default)
   simpa[Value.cells] using this
  ·rename_i z hz1 hz2
   simp only[Bool.and_eq_true,Bool.not_eq_true'] at hz
   have e:z.cells=#[z]:=by
    have:=hz.1.2
    cases z<;>first|rfl|(simp[Value.oneCell'] at this)
   have hr:=fun F w=>kf (F:=F) (w:=w) hz.2.1
   refine⟨inf,z,h1,hz2,h2,h3,?_,by rw[e];exact hr⟩
   have:=RP.length (hr (fun _=>False) default)
   rw[e];simpa using this
  ·cases hz
 ·cases this
theorem Xj{t ty e:TypeId}{inf:TypeInfo}(hu:P.underlying t=some (.slice e))(hi:P.info? e=some inf){base ao:Option Addr}{n cap c:Nat}(hn:n≤cap)(w:World) :
  (Builtin.append_ #[t,t] ty #[.slice base n cap,.slice ao 0 c]).run P w=.ok (.slice base n cap) w:=by
 cases ao<;>cases base<;>simp[Builtin.append_,run_underlying hu,sizeOf,typeInfo,hi,Builtin.lenOf,hn,Builtin.firstCells,loadCells,loadCellsFrom,storeCells]
theorem amj{P:Program}(w:World)(t ty e:TypeId)(i:TypeInfo)(ht:P.underlying t=some (.slice e))(hi:P.info? e=some i)(g sLen sCap:Nat)(cur:Array Value)(hg:ce w g cur e)(a:Addr)(m c:Nat)(news:List Value)(hl:news.length=m*i.size)(hnews:∀ j u,news[j]?=some u→w.cell? (a.add j)=some u)(h1:∀ u∈news,u.oneCell'=true)(hroom:sLen+m≤sCap)(hfit:sLen*i.size+news.length≤cur.size) :
  (Builtin.append_ #[t,t] ty #[.slice (some ⟨g,0,none⟩) sLen sCap,.slice (some a) m c]).run P w=
   .ok (.slice (some ⟨g,0,none⟩) (sLen+m) sCap) (w.setRow g (cur.toList.take (sLen*i.size)++news++cur.toList.drop (sLen*i.size+news.length)).toArray):=by
 have hfc:=run_firstCells_some (P:=P) w i.size m a m c news hl hnews
 have hst:=hg.store (P:=P) (sLen*i.size) news hfit h1
 simp[Builtin.append_,run_underlying ht,sizeOf,typeInfo,hi,Builtin.lenOf,hroom,hfc,Addr.add_lit,hst]
include T in
theorem Po{t:TypeId}{ts:List TypeId}{s x:Operand}{c:Call}(ho:o.op=.call c)(hc:c.callee=.builtin .append)(ha:c.args.toList=[s,x])(ht:c.argTypes.toList=t::ts)(hts:ts=[t])(h:yi E sub t (ev s) (ev x) fresh k=some out):∃ v l,k v l=some out∧aL P o ev sub fresh v l:=by
 subst hts
 have ha':c.args=#[s,x]:=Array.toList_inj.1 ha
 have ht':c.argTypes=#[t,t]:=Array.toList_inj.1 ht
 have ms:s∈o.op.operands:=by simp[Op.operands,ho,Call.operands,hc,ha']
 have mx:x∈o.op.operands:=by simp[Op.operands,ho,Call.operands,hc,ha']
 have pre:∀ (ac:Act) (w w':World) (r:Value),(Builtin.append_ #[t,t] o.type #[ac.eval s,ac.eval x]).run P w=.ok r w'→(execOp ac.eval o).run P w=.ok (.value r) w':=fun ac w w' r hr=>by
  simp[execOp,ho,resolve,hc,ha',ht',invoke,builtin,hr]
 unfold yi at h
 split at h
 ·rename_i id es
  obtain⟨B,hB,h⟩:=b9 h
  split at h
  ·rename_i e K xs
   obtain⟨ti,hti,h⟩:=bq h
   split at h
   ·rename_i e' hd
    split at h
    ·rename_i he;subst he
     obtain⟨tj,htj,h⟩:=bq h
     obtain⟨hu,j,hj,hK,hpos,hbpos⟩:=T.slice hti hd
     rw[htj] at hj;cases hj
     split at h
     ·rename_i hKj;subst hKj
      obtain⟨K',ys,h,hl⟩:=CE h
      split at h
      ·rename_i hKK;subst hKK
       split at h
       ·rename_i hbytes
        obtain⟨inf,z,hi,hz,hsz,hby,hzs,hzr⟩:=T.zeroInfo htj
        refine⟨_,_,h,fun q hq=>?_,fun X a Kc Q at_ hun hk=>?_⟩
        ·simp at hq;rcases hq with rfl|rfl
         ·exact .inr ⟨_,hB⟩
         ·exact .inl (Nat.le_refl _)
        ·have hX:=at_.sub _ _ hB
         have hunf:=hun (fresh,.row e' tj.K (xs++ys)) (by simp) (Nat.le_refl _)
         have h1:=at_.opr s ms;rw[es] at h1
         obtain⟨ao,cy,hx,hcy,hel⟩:=(hl X _ at_.ok at_.sub (at_.opr x mx)).get
         have hsrow:=(lz hX).1 ((RS.one (by simp) (by simp) (by simp) (by simp)).1 h1)
         have hrb:=at_.ok.blk _ _ hX
         have hlen:(xs++ys).length=xs.length+ys.length:=List.length_append
         have hsmall:xs.length+ys.length≤140737488355328:=Nat.le_trans (Nat.le_mul_of_pos_right _ hbpos) hbytes
         have hml:xs.length+ys.length≤maxLen:=by simp only[maxLen];omega
         have fin:∀ (q:Option Nat) (w':World) (r:Value),(Builtin.append_ #[t,t] o.type #[a.eval s,a.eval x]).run P X.w=.ok r w'→w'.os=X.w.os→w'.tape=X.w.tape→w'.output=X.w.output→X.w.heap.size≤w'.heap.size→
           (∀ k,k<X.w.heap.size→X.ρ id≠some k→w'.heap[k]?=X.w.heap[k]?)→
           (∀ n,X.ρ id=some n→∀ (c:Array Value) (e:TypeId) (f:Nat×Nat),X.w.heap[n]?=some (Obj.cells c e f)→∃ c':Array Value,w'.heap[n]?=some (Obj.cells c' e f)∧c'.size=c.size)→
           (q=X.ρ id∨∀ n,q=some n→X.w.heap.size≤n)→
           (∀ Y:Cx,Y=⟨bK X.ρ fresh q,aC (aC X.hp id .gone) fresh (.row e' tj.K (xs++ys)),X.F,w'⟩→WEvo X Y→HEvo X Y→RB Y fresh (.row e' tj.K (xs++ys))∧RS Y (.row fresh) r)→o.wp P a X.w Kc Q:=fun q w' r hr g1 g2 g3 g4 g5 g6 g7 g8=>by
          obtain⟨o1,o2,o3⟩:=aku at_.ok hX rfl rfl hunf (B':=.row e' tj.K (xs++ys)) (q:=q) (w':=w') (Y:=⟨bK X.ρ fresh q,aC (aC X.hp id .gone) fresh (.row e' tj.K (xs++ys)),X.F,w'⟩) rfl g1 g2 g3 g4 g5 g6 g7 fun W H=>(g8 _ rfl W H).1
          unfold Oper.wp;rw[pre a X.w w' r hr]
          exact hk ⟨bK X.ρ fresh q,aC (aC X.hp id .gone) fresh (.row e' tj.K (xs++ys)),X.F,w'⟩ r rfl (g8 _ rfl o2 o3).2 o1 o2 o3
         have hgetY:∀ (q:Option Nat) (w':World),(⟨bK X.ρ fresh q,aC (aC X.hp id .gone) fresh (.row e' tj.K (xs++ys)),X.F,w'⟩:Cx).hp[fresh]?=some (.row e' tj.K (xs++ys)):=fun q w'=>dh ..
         rcases Nat.eq_zero_or_pos ys.length with hy0|hy0
         ·
          have hys:ys=[]:=List.eq_nil_of_length_eq_zero hy0
          subst hys
          rw[hy0] at hx
          rcases hsrow with ⟨hρ,hx0,hs⟩|⟨b,cap,cur,hρ,hs,hcur,hcs,hle⟩
          ·refine fin none X.w (.slice none 0 0) ?_ rfl rfl rfl (Nat.le_refl _) (fun _ _ _=>rfl) (fun n hn=>by rw[hρ] at hn;cases hn) (.inl hρ.symm) fun Y hY W H=>?_
           ·rw[hs,hx];exact Xj hu hi (Nat.le_refl _) _
           ·subst hY
            exact⟨.inl ⟨ck ..,by simpa using hx0⟩,RS.row_nil (hgetY _ _) (ck ..) (by simpa using hx0)⟩
          ·refine fin (some b) X.w (.slice (some ⟨b,0,none⟩) xs.length cap) ?_ rfl rfl rfl (Nat.le_refl _) (fun _ _ _=>rfl) (fun n _ c e f hc=>⟨c,hc,rfl⟩) (.inl hρ.symm) fun Y hY W H=>?_
           ·rw[hs,hx];exact Xj hu hi hle _
           ·obtain⟨cur',cap',css,r1,r2,r3,r4,r5,r6,_⟩:=qe hrb hρ
            obtain⟨rfl,_⟩:=hcur.eq r1
            have hcc:cap'=cap:=Nat.eq_of_mul_eq_mul_right hpos (r2.symm.trans hcs)
            subst hcc
            subst hY
            refine⟨.inr ⟨b,cur,cap',css,ck ..,hcur,hcs,by simpa using r3,r4,by simpa using(r5.imp fun _ _ _ _ hr=>RP.evo W at_.ok.fo hr),by simpa using r6⟩,?_⟩
            have:=RS.row_new (hgetY (some b) X.w) (ck ..) hcur hcs (by simpa using hle)
            simpa using this
         ·obtain⟨ad,cssy,rfl,_,hyr,hyc⟩:=hel hy0
          have hnl:cssy.flatten.length=ys.length*inf.size:=by rw[eT hyr.lens,← hyr.length,hsz]
          have hn1:∀ u∈cssy.flatten,u.oneCell'=true:=fun u hu=>by
           obtain⟨c,hc,hu⟩:=List.mem_flatten.1 hu
           obtain⟨m,hm⟩:=List.mem_iff_getElem?.1 hc
           obtain⟨_,_,hr⟩:=hyr.get' hm
           exact RP.one hr u hu
          have grown:∀ (cap:Nat) (cssx:List (List Value)) (xs':Array Value),xs.length+ys.length≤cap→cap≤maxLen→All2 (RP X.F X.w tj.K) xs cssx→xs'=(cssx.flatten++cssy.flatten).toArray++Builtin.zeroCells z.cells (cap-(xs.length+ys.length))→
            ∀ Y:Cx,Y=⟨bK X.ρ fresh (some X.w.heap.size),aC (aC X.hp id .gone) fresh (.row e' tj.K (xs++ys)),X.F,X.w.drew.alloc (.cells xs' e')⟩→WEvo X Y→HEvo X Y→
            RB Y fresh (.row e' tj.K (xs++ys))∧RS Y (.row fresh) (.slice (some ⟨X.w.heap.size,0,none⟩) (xs.length+ys.length) cap):=fun cap cssx xs' hcap hcm hxr hxs' Y hY W H=>by
           have hxl:cssx.flatten.length=xs.length*tj.K.size:=by rw[eT hxr.lens,← hxr.length]
           have hyl:cssy.flatten.length=ys.length*tj.K.size:=by rw[eT hyr.lens,← hyr.length]
           have hnew:ce Y.w X.w.heap.size xs' e':=by subst hY;exact .of (heap_alloc_new X.w.drew _)
           have hsize:xs'.size=cap*tj.K.size:=by
            rw[hxs']
            simp only[Array.size_append,List.size_toArray,List.length_append,size_zeroCells,hzs,hxl,hyl,← Nat.add_mul]
            congr 1;omega
           have hρY:Y.ρ fresh=some X.w.heap.size:=by subst hY;exact ck ..
           have hYg:Y.hp[fresh]?=some (.row e' tj.K (xs++ys)):=by subst hY;exact dh ..
           refine⟨.inr ⟨X.w.heap.size,xs',cap,cssx++cssy,hρY,hnew,hsize,by rw[hlen];exact hcap,hcm,(hxr.append hyr).imp fun _ _ _ _ hr=>RP.evo W at_.ok.fo hr,?_⟩,?_⟩
           ·rw[hxs',List.flatten_append,hlen,Nat.add_mul,← hxl,← hyl]
            simp only[Array.toList_append,List.toList_toArray]
            rw[List.take_append_of_le_length (by simp),List.take_of_length_le (by simp)]
           ·have:=RS.row_new hYg hρY hnew hsize (by rw[hlen];exact hcap)
            rwa [hlen] at this
          rcases hsrow with ⟨hρ,hx0,hs⟩|⟨b,cap,cur,hρ,hs,hcur,hcs,hle⟩
          ·
           have hxs:xs=[]:=List.eq_nil_of_length_eq_zero hx0
           have hr:=run_append_nil (P:=P) X.w t o.type e' inf z hu hi hz ad ys.length cy cssy.flatten hnl hyc hy0 (by omega) (by rw[hby];have:=Nat.mul_le_mul_right tj.bytes (Nat.le_add_left ys.length xs.length);omega)
           have hge:=grownCap_ge X.w ys.length 0 e'
           rw[← hs,← hx] at hr
           refine fin (some X.w.heap.size) _ _ hr rfl rfl rfl (by simp) (fun m hm _=>heap_alloc_old X.w.drew _ hm) (fun n hn=>by rw[hρ] at hn;cases hn) (.inr fun n hn=>(Option.some.inj hn)▸Nat.le_refl _) fun Y hY W H=>?_
           have:=grown (grownCap X.w ys.length 0 e') [] _ (by omega) (grownCap_le_maxLen X.w ys.length 0 e' (by omega)) (by rw[hxs];exact .nil) rfl Y (by rw[hY];simp[hx0]) W H
           simpa[hx0] using this
          ·obtain⟨cur',cap',cssx,r1,r2,r3,r4,r5,r6,r7⟩:=qe hrb hρ
           obtain⟨rfl,_⟩:=hcur.eq r1
           have hcc:cap'=cap:=Nat.eq_of_mul_eq_mul_right hpos (r2.symm.trans hcs)
           subst hcc
           have hxl:cssx.flatten.length=xs.length*tj.K.size:=by rw[eT r5.lens,← r5.length]
           have hyl:cssy.flatten.length=ys.length*tj.K.size:=by rw[eT hyr.lens,← hyr.length]
           by_cases hroom:xs.length+ys.length≤cap'
           ·have hfit:xs.length*inf.size+cssy.flatten.length≤cur.size:=by rw[hnl,hsz,hcs,← Nat.add_mul];exact Nat.mul_le_mul_right _ hroom
            have hr:=amj (P:=P) X.w t o.type e' inf hu hi b xs.length cap' cur hcur ad ys.length cy cssy.flatten hnl hyc hn1 hroom hfit
            have hsz2:((cur.toList.take (xs.length*inf.size)++cssy.flatten++cur.toList.drop (xs.length*inf.size+cssy.flatten.length)).toArray).size=cur.size:=by
             simp only[List.size_toArray,List.length_append,List.length_take,List.length_drop,Array.length_toList];omega
            rw[← hs,← hx] at hr
            refine fin (some b) _ _ hr rfl rfl rfl (by rw[qh];exact Nat.le_refl _) (fun m _ hm=>setRow_other _ _ _ _ fun e=>hm (e▸hρ))
             (fun n hn c e f hc=>by rw[hρ] at hn;cases hn;obtain⟨_,_,hcur⟩:=hcur;rw[hcur] at hc;cases hc;exact⟨_,setRow_heap _ _ _ _ _ _ hcur,hsz2⟩) (.inl hρ.symm) fun Y hY W H=>?_
            have hnew:ce Y.w b (cur.toList.take (xs.length*inf.size)++cssy.flatten++cur.toList.drop (xs.length*inf.size+cssy.flatten.length)).toArray e':=by subst hY;exact hcur.set hsz2
            have hρY:Y.ρ fresh=some b:=by subst hY;exact ck ..
            have hYg:Y.hp[fresh]?=some (.row e' tj.K (xs++ys)):=by subst hY;exact dh ..
            refine⟨.inr ⟨b,_,cap',cssx++cssy,hρY,hnew,by rw[hsz2,hcs],by rw[hlen];exact hroom,r4,(r5.append hyr).imp fun _ _ _ _ hr=>RP.evo W at_.ok.fo hr,?_⟩,?_⟩
            ·rw[List.flatten_append,hlen,Nat.add_mul,hsz,← r6,← hxl,← hyl]
             simp only[List.toList_toArray]
             rw[List.take_append_of_le_length (by simp),List.take_of_length_le (by simp)]
            ·have:=RS.row_new hYg hρY hnew (by rw[hsz2,hcs]) (by rw[hlen];exact hroom)
             rwa [hlen] at this
           ·have hr:=run_append_grow (P:=P) X.w t o.type e' inf z hu hi hz ⟨b,0,none⟩ xs.length cap' cssx.flatten (by rw[hxl,hsz]) r7 ad ys.length cy cssy.flatten hnl hyc (by omega) (by omega) (growslice_fits (by omega) (by rw[hby];exact hbytes))
            have hge:=grownCap_ge X.w (xs.length+ys.length) cap' e'
            rw[← hs,← hx] at hr
            refine fin (some X.w.heap.size) _ _ hr rfl rfl rfl (by simp) (fun m hm _=>heap_alloc_old X.w.drew _ hm)
             (fun n hn c e f hc=>⟨c,by rw[heap_alloc_old X.w.drew _ (show n<X.w.drew.heap.size from(Array.getElem?_eq_some_iff.1 hc).1)];exact hc,rfl⟩) (.inr fun n hn=>(Option.some.inj hn)▸Nat.le_refl _) fun Y hY W H=>?_
            exact grown _ cssx _ hge (grownCap_le_maxLen X.w _ cap' e' hml) r5 (by simp) Y hY W H
       ·cases h
      ·cases h
     ·cases h
    ·cases h
   ·cases h
  ·cases h
 ·cases h
end
theorem U0:∀ (vc:List Value) (off n:Nat) (cs:List Value),off+n+vc.length≤cs.length→
  (vc.zipIdx n).foldl (fun(c:Array Value) (q:Value×Nat)=>c.setIfInBounds (off+q.2) q.1) cs.toArray=(bJ cs (off+n) vc).toArray
 | [],off,n,cs,h=>by simp[bJ]
 | v::vc,off,n,cs,h=>by
  simp only[List.length_cons] at h
  have ih:=U0 vc off (n+1) (cs.set (off+n) v) (by simp;omega)
  simp only[List.zipIdx_cons,List.foldl_cons,List.setIfInBounds_toArray]
  rw[ih]
  congr 1
  refine List.ext_getElem? fun j=>?_
  unfold bJ
  simp only[List.getElem?_append,List.length_take,List.length_append,List.length_set,List.length_cons,List.getElem?_take,List.getElem?_drop,List.getElem?_set]
  rcases Nat.lt_trichotomy j (off+n) with h1|h1|h1
  ·simp(disch:=omega) only [Nat.min_eq_left,if_pos,if_neg]
  ·subst h1
   have e:min (off+(n+1)) cs.length=off+(n+1):=by omega
   have e':min (off+n) cs.length=off+n:=by omega
   rw[e,e']
   simp(disch:=omega) [show off+n<off+(n+1) by omega,show off+n<cs.length by omega]
   rw[if_pos (by omega)];rfl
  ·have e:min (off+(n+1)) cs.length=off+(n+1):=by omega
   have e':min (off+n) cs.length=off+n:=by omega
   rw[e,e']
   by_cases h2:j<off+(n+1)+vc.length
   ·rw[if_pos h2,if_neg (by omega),if_pos (by omega),if_neg (by omega)]
    rw[show j-(off+n)=(j-(off+(n+1)))+1 by omega,List.getElem?_cons_succ]
   ·rw[if_neg h2,if_neg (by omega),if_neg (by omega)]
    congr 1;omega
theorem Mm{v:Value}{vc cs:List Value}{off:Nat}(hv:v.cells=vc.toArray)(h:off+vc.length≤cs.length) :
  v.cells.zipIdx.foldl (fun cs (c,j)=>cs.setIfInBounds (off+j) c) cs.toArray=(bJ cs off vc).toArray:=by
 rw[hv]
 have:=U0 vc off 0 cs (by simpa using h)
 simpa using this
theorem MV{X:Cx}{a:Act}{K:Option Kind}{x:Operand}{v:AV}(h:RS X v (a.eval x)):RS X (gX K x v) (a.eval x):=by
 unfold gX
 split
 ·exact RS.of0 (.inr ⟨[.slice none 0 0],⟨none,0,rfl,Nat.le_refl _,fun h=>absurd h (by simp)⟩,.inr ⟨rfl,rfl⟩⟩) (by simp)
 ·exact h
theorem UJ{f:Nat×Operand→AV}{out:A}{K:Kind}:∀ {ps:List (Nat×Operand)} {v:AV} {k:AV→Option A},vP K (ps.map fun q=>(q.1,f q)) v k=some out→
  ∃ v',k v'=some out∧(v.fits K=true→v'.fits K=true)∧∀ (X:Cx) (g:Operand→Value) (place:Nat→Option (Nat×Nat)) (cs:List Value),
   (∀ i off K',az K [pU K i]=some (off,K')→place i=some (off,K'.size))→v.fits K=true→(∀ q∈ps,RS X (f q) (g q.2))→RA X v cs→
   ∃ cs',Instr.fill place cs.toArray (ps.map fun q=>(q.1,g q.2))=some cs'.toArray∧RA X v' cs'
 | [],v,k,h=>⟨v,h,fun h=>h,fun X g place cs _ _ _ hr=>⟨cs,rfl,hr⟩⟩
 | (i,x)::ps,v,k,h=>by
  simp only[List.map_cons,vP] at h
  split at h
  ·cases h
  ·rename_i hna
   simp only[Bool.or_eq_true,not_or,Bool.not_eq_true] at hna
   obtain⟨hna',htup⟩:=hna
   obtain⟨y,h,hf,hs⟩:=wx h
   obtain⟨v',h,hf',hs'⟩:=UJ h
   refine⟨v',h,fun h=>hf' (hf h),fun X g place cs hpl hfit hall hr=>?_⟩
   have hx:=(hall (i,x) (by simp)).to0 (fun vs e=>by rw[e] at htup;cases htup)
   obtain⟨vc,h1,h2⟩:=hx.cells hna'
   obtain⟨off,K',h3,h4,h5⟩:=hs hfit hr h1
   have hl:=RA.length h4 h1
   have hle:=ga h3
   have hcl:=RA.length hfit hr
   obtain⟨cs',h6,h7⟩:=hs' X g place _ hpl (hf hfit) (fun q hq=>hall q (by simp[hq])) h5
   refine⟨cs',?_,h7⟩
   simp only[List.map_cons,Instr.fill,hpl i off K' h3]
   rw[if_neg (by rw[h2];simp[hl];omega),Mm h2 (by omega)]
   exact h6
theorem ajv{aN:List (TypeId×TI)}:∀ {fs:List Field} {ts:List TypeId} {K:Kind} {off i o:Nat} {K':Kind},aA aN fs ts K off=true→az K [.fld i]=some (o,K')→i<ts.length
 | f::fs,t::ts,.pair a b,off,i,o,K',hb,hi=>by
  simp only[aA,Bool.and_eq_true] at hb
  cases i with
  | zero=>simp
  | succ i=>
   simp only[az,Option.map_eq_some_iff] at hi
   obtain⟨q,hq,_⟩:=hi
   have:=ajv (o:=q.1) (K':=q.2) hb.2 hq
   simpa using this
 | [],[],.unit,_,_,_,_,_,hi=>by simp[az] at hi
 | [],[],.pair _ _,_,_,_,_,hb,_=>by simp[aA] at hb
 | [],[],.int _,_,_,_,_,hb,_=>by simp[aA] at hb
 | [],[],.bool,_,_,_,_,hb,_=>by simp[aA] at hb
 | [],[],.str,_,_,_,_,hb,_=>by simp[aA] at hb
 | [],[],.opq,_,_,_,_,hb,_=>by simp[aA] at hb
 | [],[],.arr _ _,_,_,_,_,hb,_=>by simp[aA] at hb
 | [],[],.sl _,_,_,_,_,hb,_=>by simp[aA] at hb
 | _::_,[],_,_,_,_,_,hb,_=>by simp[aA] at hb
 | [],_::_,_,_,_,_,_,hb,_=>by simp[aA] at hb
 | _::_,_::_,.int _,_,_,_,_,hb,_=>by simp[aA] at hb
 | _::_,_::_,.bool,_,_,_,_,hb,_=>by simp[aA] at hb
 | _::_,_::_,.str,_,_,_,_,hb,_=>by simp[aA] at hb
 | _::_,_::_,.opq,_,_,_,_,hb,_=>by simp[aA] at hb
 | _::_,_::_,.unit,_,_,_,_,hb,_=>by simp[aA] at hb
 | _::_,_::_,.arr _ _,_,_,_,_,hb,_=>by simp[aA] at hb
 | _::_,_::_,.sl _,_,_,_,_,hb,_=>by simp[aA] at hb
theorem UI{P:Program}{aN:List (TypeId×TI)}(hs:∀ (t:TypeId) (j:TI),aN.lookup t=some j→(P.info? t).map (·.size)=some j.K.size) :
  ∀ {fs:List Field} {ts:List TypeId} {K:Kind} {off:Nat},aA aN fs ts K off=true→
  ∃ pl,fs.mapM (fun f=>(P.info? f.type).map fun i=>(f.offset,i.size))=some pl∧∀ i o K',az K [.fld i]=some (o,K')→pl[i]?=some (off+o,K'.size)
 | f::fs,t::ts,.pair a b,off,hb=>by
  simp only[aA,Bool.and_eq_true,beq_iff_eq,decide_eq_true_eq] at hb
  obtain⟨⟨⟨⟨rfl,rfl⟩,hpos⟩,hl⟩,hb⟩:=hb
  obtain⟨pl,h1,h2⟩:=UI hs hb
  cases h:aN.lookup f.type with
  | none=>rw[h] at hl;cases hl
  | some j=>
   rw[h] at hl
   have hjK:j.K=a:=by simpa using hl
   subst hjK
   obtain⟨inf,h3,h4⟩:=Option.map_eq_some_iff.1 (hs _ _ h)
   refine⟨(f.offset,j.K.size)::pl,by simp[List.mapM_cons,h1,h3,h4],fun i o K' hk=>?_⟩
   cases i with
   | zero=>simp[az,cL] at hk;obtain⟨rfl,rfl⟩:=hk;rfl
   | succ i=>
    simp only[az,Option.map_eq_some_iff,Prod.exists,Prod.mk.injEq] at hk
    obtain⟨o',k',hk,rfl,rfl⟩:=hk
    have:=h2 i o' k' hk
    simpa[Nat.add_assoc] using this
 | [],[],.unit,_,_=>⟨[],rfl,fun i o K' hk=>by simp[az] at hk⟩
 | [],[],.pair _ _,_,hb=>by simp[aA] at hb
 | [],[],.int _,_,hb=>by simp[aA] at hb
 | [],[],.bool,_,hb=>by simp[aA] at hb
 | [],[],.str,_,hb=>by simp[aA] at hb
 | [],[],.opq,_,hb=>by simp[aA] at hb
 | [],[],.arr _ _,_,hb=>by simp[aA] at hb
 | [],[],.sl _,_,hb=>by simp[aA] at hb
 | _::_,[],_,_,hb=>by simp[aA] at hb
 | [],_::_,_,_,hb=>by simp[aA] at hb
 | _::_,_::_,.int _,_,hb=>by simp[aA] at hb
 | _::_,_::_,.bool,_,hb=>by simp[aA] at hb
 | _::_,_::_,.str,_,hb=>by simp[aA] at hb
 | _::_,_::_,.opq,_,hb=>by simp[aA] at hb
 | _::_,_::_,.unit,_,hb=>by simp[aA] at hb
 | _::_,_::_,.arr _ _,_,hb=>by simp[aA] at hb
 | _::_,_::_,.sl _,_,hb=>by simp[aA] at hb
end Go.Ev
namespace Go.Ev
open Go.ChangeMaps (setBlock)
variable{A:Type}
theorem RP.flat{F F':Nat→Prop}{w w':World}:∀ {K:Kind} {x:K.den} {cs cs':List Value},K.flat=true→RP F w K x cs→RP F' w' K x cs'→cs=cs'∧∀ u∈cs,∀ m,Instr.sameBits m u u=true
 | .int _,_,_,_,_,h,h'=>by simp[RP] at h h';subst h;subst h';exact⟨rfl,fun u hu m=>by simp at hu;subst hu;cases m<;>simp[Instr.sameBits]⟩
 | .bool,_,_,_,_,h,h'=>by simp[RP] at h h';subst h;subst h';exact⟨rfl,fun u hu m=>by simp at hu;subst hu;cases m<;>simp[Instr.sameBits]⟩
 | .str,x,_,_,_,h,h'=>by
  simp[RP] at h h';subst h;subst h'
  have e:((x:ByteArray)==x)=true:=by obtain⟨d⟩:=(x:ByteArray);exact beq_self_eq_true d
  exact⟨rfl,fun u hu m=>by simp at hu;subst hu;cases m<;>simp only[Instr.sameBits]<;>exact e⟩
 | .unit,_,_,_,_,h,h'=>by simp[RP] at h h';subst h;subst h';exact⟨rfl,fun u hu m=>by simp at hu⟩
 | .opq,_,_,_,hf,_,_=>by simp[Kind.flat] at hf
 | .sl _,_,_,_,hf,_,_=>by simp[Kind.flat] at hf
 | .pair a b,_,_,_,hf,h,h'=>by
  simp only[Kind.flat,Bool.and_eq_true] at hf
  obtain⟨c1,c2,rfl,h1,h2⟩:=h
  obtain⟨d1,d2,rfl,g1,g2⟩:=h'
  obtain⟨rfl,q1⟩:=RP.flat hf.1 h1 g1
  obtain⟨rfl,q2⟩:=RP.flat hf.2 h2 g2
  exact⟨rfl,fun u hu=>by rcases List.mem_append.1 hu with hu|hu;exact q1 u hu;exact q2 u hu⟩
 | .arr n e,l,_,_,hf,h,h'=>by
  simp only[Kind.flat] at hf
  obtain⟨hl,css,rfl,h1⟩:=h
  obtain⟨hl',css',rfl,h1'⟩:=h'
  have key:∀ {l:List e.den} {css css':List (List Value)},All2 (RP F w e) l css→All2 (RP F' w' e) l css'→css=css'∧∀ c∈css,∀ u∈c,∀ m,Instr.sameBits m u u=true:=fun {l css css'} h1=>by
   induction h1 generalizing css' with
   | nil=>intro h2;cases h2;exact⟨rfl,by simp⟩
   | cons a _ ih=>
    intro h2
    cases h2 with
    | cons b h2=>
     obtain⟨rfl,q⟩:=ih h2
     obtain⟨rfl,q'⟩:=RP.flat hf a b
     exact⟨rfl,fun c hc=>by rcases List.mem_cons.1 hc with rfl|hc;exact q';exact q c hc⟩
  obtain⟨rfl,q⟩:=key h1 h1'
  exact⟨rfl,fun u hu=>by obtain⟨c,hc,hu⟩:=List.mem_flatten.1 hu;exact q c hc u hu⟩
theorem yo(f:MapEntry→MapEntry):∀ (l:List MapEntry) (j:Nat),(∀ e,(f e).born=e.born)→(l.modify j f).map (·.born)=l.map (·.born)
 | [],j,_=>by cases j<;>rfl
 | e::l,0,h=>by simp[h]
 | e::l,j+1,h=>by simp[yo f l j h]
theorem MS{K:Kind}{V:Type}:∀ (es:List (K.den×V)) (x:K.den) (a v:V),bw K (bw K es x a) x v=bw K es x v
 | [],x,a,v=>by simp[bw]
 | e::r,x,a,v=>by
  by_cases h:e.1=x
  ·simp[bw,h]
  ·simp[bw,h,MS r x a v]
theorem amm{cs:List Value}(h:∀ u∈cs,∀ m,Instr.sameBits m u u=true)(m:Nat):Instr.sameBits (m+1) (.agg cs.toArray) (.agg cs.toArray)=true:=by
 simp only[Instr.sameBits,beq_self_eq_true,Bool.true_and,List.all_eq_true]
 intro q hq
 have:q.1=q.2∧q.1∈cs:=by
  obtain⟨i,hi⟩:=List.mem_iff_getElem?.1 hq
  simp only[List.getElem?_zip_eq_some] at hi
  obtain⟨h1,h2⟩:=hi
  rw[h1] at h2
  exact⟨Option.some.inj h2,List.mem_iff_getElem?.2 ⟨i,h1⟩⟩
 obtain⟨x,y⟩:=q
 simp only at this ⊢
 rw[← this.1];exact h x this.2 m
section
variable{P:Program}{E:Env A}(T:aO P E){X:Cx}
include T in
theorem nK(em:Bool):∀ (m:Nat) (t:TypeId) (i:TI),E.ty.lookup t=some i→P.keyTypeAt m t=true→∀ (d:Nat) (x:i.K.den) (a:Value) (w:World),
  aE X (.p i.K x) a→(Instr.checkKey em (d+m) t a).run P w=.ok () w
 | 0,_,_,_,hk=>by simp[Program.keyTypeAt] at hk
 | m+1,t,i,hi,hk=>by
  intro d x a w ha
  obtain⟨ds,hu,hd⟩:=T.desc hi
  obtain⟨K,td,by',cm⟩:=i
  simp only at x ha hd
  simp only[Program.keyTypeAt,hu] at hk
  obtain⟨c1,r1,v1⟩:=ha.data
  cases ds with
  | bool=>simp[Instr.checkKey,run_underlying hu]
  | int k=>simp[Instr.checkKey,run_underlying hu]
  | string=>simp[Instr.checkKey,run_underlying hu]
  | array n e=>
   cases td<;>cases K<;>simp at hd
   rename_i n' e' n'' Ke
   obtain⟨⟨⟨rfl,rfl⟩,rfl⟩,hd⟩:=hd
   obtain⟨j,hj,hjK⟩:∃ j,E.ty.lookup e=some j∧j.K=Ke:=by
    cases h:E.ty.lookup e with
    | none=>rw[h] at hd;simp at hd
    | some j=>rw[h] at hd;simp at hd;exact⟨j,rfl,hd.1⟩
   subst hjK
   obtain⟨hl1,css1,rfl,q1⟩:=r1
   have h1:=v1.elim (·.2) fun h=>absurd h.1 (by simp[Kind.isAgg])
   subst h1
   have IH:=nK em m e j hj hk d
   rw[show d+(m+1)=(d+m)+1 from rfl,Instr.checkKey]
   simp only[Sem.run_bind,run_underlying hu,Result.andThen_ok]
   simp only[Std.Legacy.Range.forIn_eq_forIn_range',Std.Legacy.Range.size,Nat.sub_zero,Nat.add_one_sub_one,Nat.div_one]
   have each:∀ i∈List.range' 0 n,∃ v y,(part e css1.flatten.toArray (i*j.K.size)).run P w=.ok v w∧aE X (.p j.K y) v:=fun i hi=>by
    have hi:i<n:=by simpa using hi
    obtain⟨y,hy⟩:∃ y,x[i]?=some y:=⟨x[i]'(by omega),List.getElem?_eq_getElem _⟩
    obtain⟨c,hc,hrc⟩:=q1.get hy
    have hlen:=RP.length hrc
    have e1:=sV q1.lens hc (o:=0) (n:=j.K.size) (by omega)
    rw[Nat.add_zero,cX c hlen.symm] at e1
    obtain⟨v,h7,h8⟩:=mT T hj (X:=X) (y:=.p j.K y) (cs:=css1.flatten) (off:=i*j.K.size) (by simp[AV.fits]) (by rw[e1];exact hrc) w
    exact⟨v,y,h7,h8⟩
   generalize List.range' 0 n=is at each
   induction is with
   | nil=>simp
   | cons q is ih=>
    obtain⟨v,y,p1,f1⟩:=each q (by simp)
    have p2:=IH y v w f1
    simp only[List.forIn_cons,Sem.run_bind,T.runSize hj w,Result.andThen_ok,p1,p2,Sem.run_pure]
    exact ih (fun y hy=>each y (by simp[hy]))
  | struct fs=>
   simp only[Bool.and_eq_true,Bool.not_eq_true'] at hk
   cases td with
   | struct ts=>
    have hd:aA E.ty fs.toList ts K 0=true:=hd
    have hag:K.isAgg=true:=by
     cases hf:fs.toList<;>cases ts<;>cases K<;>simp[hf,aA] at hd<;>rfl
    have h1:=v1.elim (·.2) fun h=>absurd h.1 (by rw[hag];simp)
    subst h1
    rw[show d+(m+1)=(d+m)+1 from rfl,Instr.checkKey]
    simp only[Sem.run_bind,run_underlying hu,Result.andThen_ok]
    rw[← Array.forIn_toList]
    have deep:∀ f∈fs.toList,f.name≠ "_"∧P.keyTypeAt m f.type=true:=fun f hf=>by
     have:=Array.all_eq_true_iff_forall_mem.1 hk.1.1 f (Array.mem_toList_iff.1 hf)
     simp only[Bool.and_eq_true,bne_iff_ne,ne_eq] at this
     exact⟨this.1,this.2⟩
    have each:∀ f∈fs.toList,∃ j,E.ty.lookup f.type=some j∧∃ v y,(part f.type c1.toArray f.offset).run P w=.ok v w∧aE X (.p j.K y) v:=by
     have gen:∀ (fs:List Field) (ts:List TypeId) (K:Kind) (x:K.den) (off:Nat) (pre cs:List Value),aA E.ty fs ts K off=true→pre.length=off→RP X.F X.w K x cs→
       ∀ f∈fs,∃ j,E.ty.lookup f.type=some j∧∃ v y,(part f.type (pre++cs).toArray f.offset).run P w=.ok v w∧aE X (.p j.K y) v:=by
      intro fs
      induction fs with
      | nil=>intro ts K x off pre cs _ _ _ f hf;cases hf
      | cons f fs ih=>
       intro ts K x off pre cs hb hp hr g hg
       cases ts with
       | nil=>simp[aA] at hb
       | cons t ts=>
        cases K with
        | pair a b=>
         simp only[aA,Bool.and_eq_true,beq_iff_eq,decide_eq_true_eq] at hb
         obtain⟨⟨⟨⟨rfl,hoff⟩,hpos⟩,hl⟩,hb⟩:=hb
         obtain⟨d1,d2,rfl,r1,r2⟩:=hr
         cases h:E.ty.lookup f.type with
         | none=>rw[h] at hl;cases hl
         | some j=>
          rw[h] at hl
          have hjK:j.K=a:=by simpa using hl
          subst hjK
          rcases List.mem_cons.1 hg with rfl|hg
          ·refine⟨j,h,?_⟩
           have hlen:=RP.length r1
           obtain⟨v,h7,h8⟩:=mT T h (X:=X) (y:=.p j.K x.1) (cs:=pre++(d1++d2)) (off:=g.offset) (by simp[AV.fits]) (by
            rw[hoff,← hp,show pre.length=pre.length+0 from rfl,yA,yz (by omega),cX _ hlen.symm];exact r1) w
           exact⟨v,x.1,h7,h8⟩
          ·have:=ih ts b x.2 (off+j.K.size) (pre++d1) d2 hb (by simp[hp,RP.length r1]) r2 g hg
           simpa using this
        | _=>simp[aA] at hb
     exact fun f hf=>by simpa using gen fs.toList ts K x 0 [] c1 hd rfl r1 f hf
    generalize fs.toList=L at each deep
    clear hd
    induction L with
    | nil=>simp
    | cons f L ih=>
     obtain⟨j,hj,v,y,p1,f1⟩:=each f (by simp)
     obtain⟨hn,hp⟩:=deep f (by simp)
     have p2:=nK em m f.type j hj hp d y v w f1
     simp only[List.forIn_cons,Sem.run_bind,hn,ne_eq,not_false_eq_true,if_true,Result.andThen_ok,p1,p2,Sem.run_pure]
     exact ih (fun y hy=>each y (by simp[hy])) (fun y hy=>deep y (by simp[hy]))
   | prim=>cases K<;>simp at hd
   | slice _=>cases K<;>simp at hd
   | array _ _=>cases K<;>simp at hd
   | map _ _=>cases K<;>simp at hd
   | ptr _=>cases K<;>simp at hd
   | other=>cases K<;>simp at hd
  | _=>simp at hk
theorem vR(hT:aO P E){kt:TypeId}{i:TI}(hi:E.ty.lookup kt=some i)(hk:P.keyTypeAt 100 kt=true){x:i.K.den}{a:Value}(ha:aE X (.p i.K x) a)(w:World){V:Kind} :
  ∀ (es:List (i.K.den×V.den)) (mes:List MapEntry),All2 (fun e (me:MapEntry)=>aE X (.p i.K e.1) me.key∧aE X (.p V e.2) me.val) es mes→∀ start,∃ r,(Instr.findAsking kt a mes start).run P w=.ok r w∧
   ((r=none∧aY i.K es x=none∧(∀ v:V.den,bw i.K es x v=es++[(x,v)])∧jm i.K es x=es)∨
    ∃ j e me,r=some (start+j,me.val)∧es[j]?=some e∧mes[j]?=some me∧e.1=x∧aY i.K es x=some e.2∧(∀ v:V.den,bw i.K es x v=es.set j (x,v))∧jm i.K es x=es.eraseIdx j):=by
 intro es mes h
 induction h with
 | nil=>exact fun start=>⟨none,by simp[Instr.findAsking],.inl ⟨rfl,rfl,fun _=>rfl,rfl⟩⟩
 | @cons e me es mes h1 h2 ih=>
  intro start
  obtain⟨r,hr,hiff⟩:=ui hT 100 kt i hi hk 9900 x e.1 a me.key w ha h1.1
  have hr':(Op.equal kt a me.key).run P w=.ok r w:=hr
  have hd:@decide (e.1=x) (i.K.dec e.1 x)=r:=Qk (hiff.trans ⟨Eq.symm,Eq.symm⟩)
  cases r with
  | true=>
   have hx:e.1=x:=(hiff.1 rfl).symm
   exact⟨some (start,me.val),by simp[Instr.findAsking,hr'],.inr ⟨0,e,me,rfl,rfl,rfl,hx,by simp[aY,hx],fun v=>by simp[bw,hx],by simp[jm,hx]⟩⟩
  | false=>
   have hx:e.1≠x:=fun h=>by have:=hiff.2 h.symm;cases this
   obtain⟨r,h3,h4⟩:=ih (start+1)
   refine⟨r,by simp[Instr.findAsking,hr',h3],?_⟩
   rcases h4 with ⟨rfl,g1,g2,g3⟩|⟨j,e',me',rfl,g1,g2,g3,g4,g5,g6⟩
   ·exact .inl ⟨rfl,by simp[aY,hx,g1],fun v=>by simp[bw,hx,g2 v],by simp[jm,hx,g3]⟩
   ·exact .inr ⟨j+1,e',me',by rw[show start+1+j=start+(j+1) by omega],by simpa using g1,by simpa using g2,g3,by simp[aY,hx,g4],fun v=>by simp[bw,hx,g5 v],by simp[jm,hx,g6]⟩
theorem pY{out:A}{t:TypeId}{k:Kind→Kind→Option A}(h:E.kv t k=some out):∃ i a b ia ib,E.ty.lookup t=some i∧i.d=.map a b∧E.ty.lookup a=some ia∧E.ty.lookup b=some ib∧ia.cmp=true∧ia.K.flat=true∧k ia.K ib.K=some out:=by
 unfold Env.kv at h
 obtain⟨i,hi,h⟩:=bq h
 split at h
 ·rename_i a b hd
  obtain⟨ia,hia,h⟩:=bq h
  obtain⟨ib,hib,h⟩:=bq h
  split at h
  ·rename_i hc
   simp only[Bool.and_eq_true] at hc
   exact⟨i,a,b,ia,ib,hi,hd,hia,hib,hc.1,hc.2,h⟩
  ·cases h
 ·cases h
include T in
theorem aO.wide{t:TypeId}{i:TI}(hi:E.ty.lookup t=some i)(ha:i.K.isAgg=true):(match P.underlying t with|some (.array _ _)|some (.struct _)=>true|_=>false)=true:=by
 obtain⟨d,h1,h2⟩:=T.desc hi
 obtain⟨K,td,by',cm⟩:=i
 rw[h1]
 cases d<;>first|rfl|(cases td<;>cases K<;>simp[Kind.isAgg] at h2 ha)
include T in
theorem vQ{t:TypeId}{i:TI}(hi:E.ty.lookup t=some i)(hc:i.cmp=true){X:Cx}{V:Kind}{x:i.K.den}{u:Value}(hu:aE X (.p i.K x) u){es:List (i.K.den×V.den)}{mes:List MapEntry}(h:All2 (fun e (me:MapEntry)=>aE X (.p i.K e.1) me.key∧aE X (.p V e.2) me.val) es mes){w:World}{r:Option (Nat×Value)}(hr:(Instr.findAsking t u mes).run P w=.ok r w):(Instr.findKey t u mes).run P w=.ok r w:=by
 cases ha:i.K.isAgg with
 | true=>rw[run_findKey_eq w (T.wide hi ha)];exact hr
 | false=>
  obtain⟨ds,hd,hm⟩:=T.desc hi
  have hk:=(T.cmp hi hc).1
  have eqr:=fun(y:i.K.den) (v:Value) (hv:aE X (.p i.K y) v)=>ui T 100 t i hi hk 9900 x y u v w hu hv
  have now:∀ (y:i.K.den) (v:Value),aE X (.p i.K y) v→∃ b:Bool,Instr.sameNow ds u v=some b∧(Op.equal t u v).run P w=.ok b w:=fun y v hv=>by
   obtain⟨b,h1,h2⟩:=eqr y v hv
   refine⟨b,?_,h1⟩
   obtain⟨c1,r1,v1⟩:=hu.data
   obtain⟨c2,r2,v2⟩:=hv.data
   have e1:=v1.elim (fun h=>absurd h.1 (by rw[ha];simp)) (·.2)
   have e2:=v2.elim (fun h=>absurd h.1 (by rw[ha];simp)) (·.2)
   subst e1;subst e2
   have hkind:=T.cmpKind hi hc ha
   obtain⟨K,td,by',cm⟩:=i
   simp only at *
   rcases hkind with ⟨q,rfl⟩|rfl|rfl
   ·cases ds<;>cases td<;>first|(simp at hm;done)|(exfalso;rename_i fs ts;cases hf:fs.toList<;>cases ts<;>simp[hf,aA] at hm;done)|skip
    simp at hm
    subst hm
    simp only[RP,List.cons.injEq,and_true] at r1 r2
    rw[r1,r2]
    cases b with
    | true=>simp[Instr.sameNow,h2.1 rfl]
    | false=>simp[Instr.sameNow,show x≠y from fun h=>by have:=h2.2 h;cases this]
   ·cases ds<;>cases td<;>first|(simp at hm;done)|(exfalso;rename_i fs ts;cases hf:fs.toList<;>cases ts<;>simp[hf,aA] at hm;done)|skip
    simp only[RP,List.cons.injEq,and_true] at r1 r2
    rw[r1,r2]
    cases b with
    | true=>simp[Instr.sameNow,h2.1 rfl]
    | false=>simp[Instr.sameNow,show x≠y from fun h=>by have:=h2.2 h;cases this]
   ·cases ds<;>cases td<;>first|(simp at hm;done)|(exfalso;rename_i fs ts;cases hf:fs.toList<;>cases ts<;>simp[hf,aA] at hm;done)|skip
    simp only[RP,List.cons.injEq,and_true] at r1 r2
    rw[r1,r2]
    cases b with
    | true=>exact congrArg some ((Go.MapKept.bytes_beq x y).2 (h2.1 rfl))
    | false=>
     refine congrArg some ?_
     cases hq:(BEq.beq (α:=ByteArray) x y) with
     | false=>rfl
     | true=>have:=h2.2 ((Go.MapKept.bytes_beq x y).1 hq);cases this
  have gen:∀ (es:List (i.K.den×V.den)) (mes:List MapEntry),All2 (fun e (me:MapEntry)=>aE X (.p i.K e.1) me.key∧aE X (.p V e.2) me.val) es mes→∀ start r,(Instr.findAsking t u mes start).run P w=.ok r w→Instr.findNow ds u mes start=some r:=by
   intro es mes h
   induction h with
   | nil=>intro start r hr;simp[Instr.findAsking] at hr;simp[Instr.findNow,hr]
   | @cons e me es mes h1 h2 ih=>
    intro start r hr
    obtain⟨b,g1,g2⟩:=now e.1 me.key h1.1
    cases b with
    | true=>simp[Instr.findAsking,g2] at hr;simp[Instr.findNow,g1,hr]
    | false=>simp[Instr.findAsking,g2] at hr;simp[Instr.findNow,g1,ih _ _ hr]
  have:=gen es mes h 0 r hr
  simp[Instr.findKey,run_underlying hd,this]
theorem Xz{X:Cx}{K:Kind}(hf:K.flat=true){x:K.den}{u v:Value}(hu:aE X (.p K x) u)(hv:aE X (.p K x) v){P:Program}{w:World}:(Instr.keyThatStays u v).run P w=.ok v w:=by
 obtain⟨c1,r1,v1⟩:=hu.data
 obtain⟨c2,r2,v2⟩:=hv.data
 obtain⟨rfl,hsb⟩:=RP.flat hf r1 r2
 rcases v1 with ⟨ha,e1⟩|⟨ha,e1⟩
 ·have e2:=v2.elim (·.2) fun h=>absurd h.1 (by rw[ha];simp)
  rw[e1,e2];simp[Instr.keyThatStays,amm hsb 9999]
 ·have e2:=v2.elim (fun h=>absurd h.1 (by rw[ha];simp)) (·.2)
  rw[e1] at e2
  cases e2
  simp[Instr.keyThatStays,hsb u (by rw[e1];simp) 10000]
end
section
variable{P:Program}{E:Env A}(T:aO P E){o:Oper}{ev:Operand→AV}{sub:List (Nat×Blk)}{fresh:Nat}{k:bX A}{out:A}
include T in
theorem akm{t:TypeId}{r:Option Operand}(h:(match r with|none=>v7 E t fresh k|some x=>asInt (ev x) fun _=>v7 E t fresh k)=some out)(ho:o.op=.makeMap t r):∃ v l,k v l=some out∧aL P o ev sub fresh v l:=by
 have key:v7 E t fresh k=some out→(∀ (ac:Act) (X:Cx),At X ac o ev sub→r=none∨∃ x q n,r=some x∧ac.eval x=.int q n)→∃ v l,k v l=some out∧aL P o ev sub fresh v l:=fun h hr=>by
  obtain⟨i,a,b,ia,ib,hi,hd,hia,hib,_,_,h⟩:=pY h
  have hu:=T.map hi hd
  refine⟨_,_,h,wh fun X ac at_ _=>⟨.map (some X.w.heap.size),some X.w.heap.size,X.w.alloc (.map #[] 0),?_,rfl,rfl,rfl,by simp,fun n hn=>heap_alloc_old X.w _ hn,fun n hn=>(Option.some.inj hn)▸Nat.le_refl _,fun Y hY W H=>?_⟩⟩
  ·rcases hr ac X at_ with rfl|⟨x,q,n,rfl,hx⟩
   ·simp[execOp,ho,Instr.makeMap]
   ·simp[execOp,ho,Instr.makeMap,run_underlying hu,hx,Go.asInt,asIntOf]
  ·subst hY
   have hg:(aC X.hp fresh (.map ia.K ib.K []))[fresh]?=some (.map ia.K ib.K []):=dh ..
   exact⟨⟨X.w.heap.size,#[],0,ck ..,heap_alloc_new X.w _,.nil,.nil _⟩,(RS.one (by simp) (by simp) (by simp) (by simp)).2 ((ly hg).2 ⟨X.w.heap.size,ck ..,rfl⟩)⟩
 cases r with
 | none=>exact key h fun _ _ _=>.inl rfl
 | some x=>
  obtain⟨q,n,ex,h⟩:=nE h
  refine key h fun ac X at_=>.inr ⟨x,q,n,rfl,?_⟩
  have:=at_.opr x (by simp[Op.operands,ho])
  rw[ex,RS.int] at this;exact this
include T in
theorem VD{t:TypeId}{m x:Operand}{ok:Bool}(ho:o.op=.lookup t m x ok)(h:MN E t sub (ev m) (ev x) ok (fun v=>k v [])=some out):∃ v l,k v l=some out∧aL P o ev sub fresh v l:=by
 have mm:m∈o.op.operands:=by simp[Op.operands,ho]
 have mx:x∈o.op.operands:=by simp[Op.operands,ho]
 obtain⟨i,a,b,ia,ib,hi,hd,hia,hib,hcmp,hflat,h⟩:=pY h
 have hu:=T.map hi hd
 have hk:=(T.cmp hia hcmp).1
 split at h
 ·rename_i id KK' y em ex
  obtain⟨B,hB,h⟩:=b9 h
  split at h
  ·rename_i KK KV es
   split at h
   ·rename_i hKK;subst hKK
    split at h
    ·rename_i hKK;subst hKK
     split at h
     ·rename_i hKV;subst hKV
      refine⟨_,_,h,aZ fun X ac at_=>?_⟩
      have h1:=at_.opr m mm;rw[em] at h1
      have h2:=(at_.opr x mx).to0 (by rw[ex];simp)
      rw[ex] at h2
      have hX:=at_.sub _ _ hB
      obtain⟨b',h3,h4⟩:=(ly hX).1 ((RS.one (by simp) (by simp) (by simp) (by simp)).1 h1)
      obtain⟨b'',mes,clock,h5,h6,h7,hbo⟩:=at_.ok.blk _ _ hX
      rw[h3] at h5;cases h5
      obtain⟨r,h8,h9⟩:=vR T hia hk h2 X.w es mes.toList h7 0
      have hck:=nK T mes.isEmpty 100 a ia hia hk 9900 y _ X.w h2
      have hck':(Instr.checkKey mes.isEmpty 10000 a (ac.eval x)).run P X.w=.ok () X.w:=hck
      have hfk:(Instr.findKey a (ac.eval x) mes.toList).run P X.w=.ok r X.w:=vQ T hia hcmp h2 h7 h8
      obtain⟨z,hz,hzr,_⟩:=T.zero hib X.w X
      have hgo:(getObj b').run P X.w=.ok (.map mes clock) X.w:=by simp[getObj,Sem.run,h6]
      have fin:∀ (u:Value) (y':ib.K.den) (s:Bool),aE X (.p ib.K y') u→((aY ia.K es y).getD ib.K.zero=y')→(aY ia.K es y).isSome=s→(execOp ac.eval o).run P X.w=.ok (.value (if ok then .tuple #[u,.bool s] else u)) X.w→
        ∃ u,(execOp ac.eval o).run P X.w=.ok (.value u) X.w∧RS X (if ok then .tup [.p ib.K ((aY ia.K es y).getD ib.K.zero),.p .bool (aY ia.K es y).isSome] else .p ib.K ((aY ia.K es y).getD ib.K.zero)) u:=fun u y' s g1 g2 g3 g4=>by
       refine⟨_,g4,?_⟩
       rw[g2,g3]
       cases ok
       ·exact RS.of0 g1 (by simp)
       ·exact⟨_,rfl,.cons g1 (.cons ((RS.bool.2 rfl:RS X (.p .bool s) _).to0 (by simp)) .nil)⟩
      rcases h9 with ⟨rfl,g1,_,_⟩|⟨j,e,me,rfl,g1,g2,g3,g4,_,_⟩
      ·refine fin z _ false hzr (by rw[g1];rfl) (by rw[g1];rfl) ?_
       cases ok<;>simp[execOp,ho,Instr.lookup,run_underlying hu,h4,hgo,hck',hfk,hz]
      ·obtain⟨e',q1,q2⟩:=h7.get' g2
       rw[g1] at q1;cases q1
       refine fin me.val e.2 true q2.2 (by rw[g4];rfl) (by rw[g4];rfl) ?_
       cases ok<;>simp[execOp,ho,Instr.lookup,run_underlying hu,h4,hgo,hck',hfk]
     ·cases h
    ·cases h
   ·cases h
  ·cases h
 ·cases h
include T in
theorem akp{t:TypeId}{m x v:Operand}(ho:o.op=.mapUpdate t m x v∨o.op=.insert t m x v)(h:MP E t sub (ev m) (ev x) (ev v) (fun l=>k .any l)=some out):∃ v l,k v l=some out∧aL P o ev sub fresh v l:=by
 have mm:m∈o.op.operands:=by rcases ho with ho|ho<;>simp[Op.operands,ho]
 have mx:x∈o.op.operands:=by rcases ho with ho|ho<;>simp[Op.operands,ho]
 have mv:v∈o.op.operands:=by rcases ho with ho|ho<;>simp[Op.operands,ho]
 obtain⟨i,a,b,ia,ib,hi,hd,hia,hib,hcmp,hflat,h⟩:=pY h
 have hu:=T.map hi hd
 have hk:=(T.cmp hia hcmp).1
 split at h
 ·rename_i id KK' y KV' z em ex ez
  obtain⟨B,hB,h⟩:=b9 h
  split at h
  ·rename_i KK KV es
   split at h
   ·rename_i hKK;subst hKK
    split at h
    ·rename_i hKV;subst hKV
     split at h
     ·rename_i hKK;subst hKK
      refine⟨_,_,h,mR hB rfl rfl (.map ..) fun X ac at_=>?_⟩
      have h1:=at_.opr m mm;rw[em] at h1
      have h2:=(at_.opr x mx).to0 (by rw[ex];simp)
      rw[ex] at h2
      have hv:=(at_.opr v mv).to0 (by rw[ez];simp)
      rw[ez] at hv
      have hX:=at_.sub _ _ hB
      obtain⟨b',h3,h4⟩:=(ly hX).1 ((RS.one (by simp) (by simp) (by simp) (by simp)).1 h1)
      obtain⟨b'',mes,clock,h5,h6,h7,hbo⟩:=at_.ok.blk _ _ hX
      rw[h3] at h5;cases h5
      obtain⟨r,h8,h9⟩:=vR T hia hk h2 X.w es mes.toList h7 0
      have hck':(Instr.checkKey false 10000 a (ac.eval x)).run P X.w=.ok () X.w:=nK T false 100 a ia hia hk 9900 y _ X.w h2
      have hfk:(Instr.findKey a (ac.eval x) mes.toList).run P X.w=.ok r X.w:=vQ T hia hcmp h2 h7 h8
      have hgo:(getObj b').run P X.w=.ok (.map mes clock) X.w:=by simp[getObj,Sem.run,h6]
      have hlt:b'<X.w.heap.size:=(Array.getElem?_eq_some_iff.1 h6).1
      have fin:∀ (mes':Array MapEntry) (clock':Nat),All2 (fun e (me:MapEntry)=>aE X (.p ia.K e.1) me.key∧aE X (.p KV' e.2) me.val) (bw ia.K es y z) mes'.toList→dN mes'.toList clock'→
        (execOp ac.eval o).run P X.w=.ok .skip (setBlock X.w b' (.map mes' clock'))→
        ∃ (r:Next) (u:Value) (n:Nat) (w':World),(execOp ac.eval o).run P X.w=.ok r w'∧(r=.value u∨(r=.skip∧u=undef))∧X.ρ id=some n∧
        w'.os=X.w.os∧w'.tape=X.w.tape∧w'.output=X.w.output∧X.w.heap.size≤w'.heap.size∧(∀ k,k<X.w.heap.size→k≠n→w'.heap[k]?=X.w.heap[k]?)∧
        (∀ (c:Array Value) (e:TypeId) (f:Nat×Nat),X.w.heap[n]?=some (Obj.cells c e f)→∃ c':Array Value,w'.heap[n]?=some (Obj.cells c' e f)∧c'.size=c.size)∧
        ∀ Y:Cx,Y=⟨X.ρ,aC X.hp id (.map ia.K KV' (bw ia.K es y z)),X.F,w'⟩→WEvo X Y→HEvo X Y→RB Y id (.map ia.K KV' (bw ia.K es y z))∧RS Y .any u:=by
       intro mes' clock' g1 hbo' g2
       refine⟨.skip,undef,b',setBlock X.w b' (.map mes' clock'),g2,.inr ⟨rfl,rfl⟩,h3,rfl,rfl,rfl,by simp[setBlock],fun q _ hq=>by simp[setBlock,Array.getElem?_setIfInBounds,Ne.symm hq],fun c e f hc=>(by rw[h6] at hc;cases hc),fun Y hY W H=>?_⟩
       subst hY
       have hn:(setBlock X.w b' (.map mes' clock')).heap[b']?=some (.map mes' clock'):=by simp[setBlock,Array.getElem?_setIfInBounds,hlt]
       exact⟨⟨b',mes',clock',h3,hn,g1.imp fun _ _ _ _ hr=>⟨hr.1.evo W H at_.ok.fo,hr.2.evo W H at_.ok.fo⟩,hbo'⟩,RS.any _⟩
      have hso:∀ o',(setObj b' o').run P X.w=.ok () (setBlock X.w b' o'):=fun o'=>Go.MapKept.run_setObj_map o' h6
      rcases h9 with ⟨rfl,_,g2,_⟩|⟨j,e,me,rfl,g1,g2,g3,_,g5,_⟩
      ·refine fin (mes.push ⟨ac.eval x,ac.eval v,clock⟩) (clock+1) (by rw[g2,Array.toList_push];exact h7.append (.cons ⟨h2,hv⟩ .nil)) (by rw[Array.toList_push];exact hbo.push _ _) ?_
       rcases ho with ho|ho<;>simp[execOp,ho,Instr.mapUpdate,run_underlying hu,h4,hgo,hck',hfk,hso]
      ·obtain⟨e',q1,q2⟩:=h7.get' g2
       rw[g1] at q1;cases q1
       rw[g3] at q2
       have hks:(Instr.keyThatStays me.key (ac.eval x)).run P X.w=.ok (ac.eval x) X.w:=Xz hflat q2.1 h2
       have hme:mes[j]?=some me:=by rw[← Array.getElem?_toList];exact g2
       refine fin (mes.modify j fun e=>{ e with key:=ac.eval x,val:=ac.eval v }) clock ?_ (hbo.same (by rw[Array.toList_modify];exact yo _ _ _ fun _=>rfl)) ?_
       ·rw[g5]
        refine All2.of_get (by simpa using h7.length) fun i q mq hq hmq=>?_
        rw[Array.toList_modify,List.getElem?_modify] at hmq
        by_cases hij:j=i
        ·subst hij
         rw[g2] at hmq
         simp at hmq
         have:(es.set j (y,z))[j]?=some (y,z):=by rw[List.getElem?_set_self (List.getElem?_eq_some_iff.1 g1).1]
         rw[this] at hq;cases hq
         subst hmq
         exact⟨h2,hv⟩
        ·rw[List.getElem?_set_ne hij] at hq
         obtain⟨mq',s1,s2⟩:=h7.get hq
         rw[s1] at hmq
         simp[hij] at hmq
         subst hmq;exact s2
       ·rcases ho with ho|ho<;>simp[execOp,ho,Instr.mapUpdate,run_underlying hu,h4,hgo,hck',hfk,hme,hks,hso]
     ·cases h
    ·cases h
   ·cases h
  ·cases h
 ·cases h
end
end Go.Ev
namespace Go.Ev
variable{A:Type}
theorem UK{ev:Operand→AV}{out:A}{n:Nat}{e:Kind}:∀ {ps:List (Nat×Operand)} {l:List e.den} {k:List e.den→Option A},sT n e (ps.map fun q=>(q.1,ev q.2)) l k=some out→l.length=n→
  ∃ l',k l'=some out∧l'.length=n∧∀ (X:Cx) (g:Operand→Value) (css:List (List Value)),(∀ q∈ps,RS X (ev q.2) (g q.2))→All2 (RP X.F X.w e) l css→
   ∃ css',Instr.fill (fun i=>some (i*e.size,e.size)) css.flatten.toArray (ps.map fun q=>(q.1,g q.2))=some css'.flatten.toArray∧All2 (RP X.F X.w e) l' css'
 | [],l,k,h,hl=>⟨l,h,hl,fun X g css _ hr=>⟨css,rfl,hr⟩⟩
 | (i,x)::ps,l,k,h,hl=>by
  simp only[List.map_cons,sT] at h
  obtain⟨z,ez,hi,h⟩:=wv h
  obtain⟨l',h,hl',hs⟩:=UK h (by simpa using hl)
  refine⟨l',h,hl',fun X g css hall hr=>?_⟩
  have hx:=(hall (i,x) (by simp)).to0 (by simp only[ez];simp)
  simp only[ez] at hx
  obtain⟨vc,h1,h2⟩:=hx.cells (by simp[AV.isAny])
  have h1:RP X.F X.w e z vc:=h1
  have hvl:=RP.length h1
  obtain⟨c,hc,hrc⟩:=hr.get (show l[i]?=some (l[i]'(by omega)) from List.getElem?_eq_getElem _)
  have hcl:=RP.length hrc
  have hfl:css.flatten.length=css.length*e.size:=eT hr.lens
  have hle:i*e.size+vc.length≤css.flatten.length:=by
   rw[hfl,← hr.length,hl,hvl,← Nat.succ_mul];exact Nat.mul_le_mul_right _ hi
  obtain⟨css',h3,h4⟩:=hs X g (css.set i vc) (fun q hq=>hall q (by simp[hq])) (hr.set i h1)
  refine⟨css',?_,h4⟩
  have hsp:=Mo hr.lens hc (v:=vc) (o:=0) (by omega)
  rw[Nat.add_zero,wD (by omega)] at hsp
  simp only[List.map_cons,Instr.fill]
  have hvs:(g x).cells.size=e.size:=by rw[h2];simpa using hvl
  rw[if_neg (by rw[hvs];rw[hvl] at hle;simp only[List.size_toArray,ne_eq,not_true_eq_false,gt_iff_lt,decide_false,Bool.false_or,decide_eq_true_eq];exact Nat.not_lt.2 hle),Mm h2 hle,hsp]
  exact h3
theorem wN(zs:List Value)(n:Nat):(Array.range (n*zs.length)).map (fun i=>zs.toArray[i%zs.toArray.size]!)=(List.replicate n zs).flatten.toArray:=by
 apply Array.ext'
 simp only[Array.toList_map,Array.toList_range,List.toList_toArray,List.size_toArray]
 induction n with
 | zero=>simp
 | succ n ih=>
  rw[Nat.succ_mul,List.range_add,List.map_append,ih,List.replicate_succ',List.flatten_append]
  congr 1
  simp only[List.map_map,List.flatten_cons,List.flatten_nil,List.append_nil]
  refine List.ext_getElem (by simp) fun j h1 h2=>?_
  simp only[List.length_map,List.length_range] at h1
  simp[Nat.mul_add_mod_self_right,Nat.add_comm,Nat.mod_eq_of_lt h1,h1]
section
variable{P:Program}{E:Env A}(T:aO P E){o:Oper}{ev:Operand→AV}{sub:List (Nat×Blk)}{fresh:Nat}{k:bX A}{out:A}
include T in
theorem aaD{t:TypeId}{n:Nat}{ps:Array (Nat×Operand)}(ho:o.op=.buildSlice t n ps)(h:(E.ti t fun i=>match i.d with
   | .slice e=>E.ti e fun j=>if n*j.K.size≤16777216 then sT n j.K (ps.toList.map fun q=>(q.1,gX (some j.K) q.2 (ev q.2))) (List.replicate n j.K.zero) fun l=>k (.row fresh) [(fresh,.row e j.K l)] else none
   | _=>none)=some out):∃ v l,k v l=some out∧aL P o ev sub fresh v l:=by
 have mp:∀ q∈ps.toList,q.2∈o.op.operands:=fun q hq=>by
  simp only[Op.operands,ho]
  simp only[List.mem_toArray,List.mem_map]
  exact⟨q,hq,rfl⟩
 obtain⟨i,hi,h⟩:=bq h
 split at h
 ·rename_i e hd
  obtain⟨j,hj,h⟩:=bq h
  obtain⟨hu,j',hj',hK,hpos,_⟩:=T.slice hi hd
  rw[hj] at hj';cases hj'
  split at h
  ·rename_i hsz
   obtain⟨l',h,hl',hs⟩:=UK (ev:=fun x=>gX (some j.K) x (ev x)) h (by simp)
   obtain⟨inf,z,hin,hz,hszz,_,hcs,hzr⟩:=T.zeroInfo hj
   refine⟨_,_,h,wh fun X ac at_ _=>?_⟩
   obtain⟨css,h1,h2⟩:=hs X ac.eval (List.replicate n z.cells.toList) (fun q hq=>MV (at_.opr _ (mp q hq))) (All2.replicate (hzr X.F X.w) n)
   have hlen:css.flatten.length=n*j.K.size:=by rw[eT h2.lens,← h2.length,hl']
   have hzl:z.cells.toList.length=j.K.size:=by simpa using hcs
   refine⟨.slice (some ⟨X.w.heap.size,0,none⟩) n n,some X.w.heap.size,X.w.alloc (.cells css.flatten.toArray e),?_,rfl,rfl,rfl,by simp,fun q hq=>heap_alloc_old X.w _ hq,fun q hq=>(Option.some.inj hq)▸Nat.le_refl _,fun Y hY W H=>?_⟩
   ·have hnot:¬ 2^24<n*j.K.size:=by omega
    have hzrun:(zeroValue e).run P X.w=.ok z X.w:=by simp[zeroValue,typeInfo,hin,hz]
    have hzf:=wN z.cells.toList n
    rw[hzl] at hzf
    simp only[Array.toArray_toList] at hzf
    have h1':Instr.fill (fun i=>some (i*j.K.size,j.K.size)) (List.replicate n z.cells.toList).flatten.toArray (ps.map fun q=>(q.1,ac.eval q.2)).toList=some css.flatten.toArray:=by rw[← h1,Array.toList_map]
    by_cases h0:n=0
    ·subst h0
     have hr:(Instr.buildSlice t 0 (ps.map fun q=>(q.1,ac.eval q.2))).run P X.w=.ok (.slice (some ⟨X.w.heap.size,0,none⟩) 0 0) (X.w.alloc (.cells css.flatten.toArray e)):=by
      simp only[Instr.buildSlice,Sem.run_bind,run_underlying hu,T.runSize hj X.w,Result.andThen_ok,Nat.zero_mul,show ¬ (0>2^24) by decide,if_false,if_true,Sem.run_pure]
      have e1:(Array.map (fun x=>(#[]:Array Value)[x%(#[]:Array Value).size]!) (Array.range 0))=(List.replicate 0 z.cells.toList).flatten.toArray:=by apply Array.ext';simp
      rw[e1,h1']
      simp[newRow]
     simp only[execOp,ho,Sem.run_bind,hr,Result.andThen_ok];rfl
    ·have hne:¬ n*j.K.size=0:=by
      intro h;rcases Nat.mul_eq_zero.1 h with h|h<;>omega
     have hr:(Instr.buildSlice t n (ps.map fun q=>(q.1,ac.eval q.2))).run P X.w=.ok (.slice (some ⟨X.w.heap.size,0,none⟩) n n) (X.w.alloc (.cells css.flatten.toArray e)):=by
      simp only[Instr.buildSlice,Sem.run_bind,run_underlying hu,T.runSize hj X.w,Result.andThen_ok,gt_iff_lt,hnot,if_false,hne,hzrun,Sem.run_pure,hzf]
      rw[h1']
      simp[newRow]
     simp only[execOp,ho,Sem.run_bind,hr,Result.andThen_ok];rfl
   ·subst hY
    have hg:(aC X.hp fresh (.row e j.K l'))[fresh]?=some (.row e j.K l'):=dh ..
    have hn:ce (X.w.alloc (.cells css.flatten.toArray e)) X.w.heap.size css.flatten.toArray e:=.of (heap_alloc_new X.w _)
    have hcap:(css.flatten.toArray).size=n*j.K.size:=by simpa using hlen
    refine⟨.inr ⟨X.w.heap.size,css.flatten.toArray,n,css,ck ..,hn,hcap,by rw[hl'];exact Nat.le_refl _,?_,h2.imp fun _ _ _ _ hr=>RP.evo W at_.ok.fo hr,?_⟩,?_⟩
    ·have:=Nat.le_mul_of_pos_right n hpos
     simp only[maxLen];omega
    ·rw[hl',← hlen];simp only[List.take_length]
    ·have:=RS.row_new (Y:=⟨bK X.ρ fresh (some X.w.heap.size),aC X.hp fresh (.row e j.K l'),X.F,X.w.alloc (.cells css.flatten.toArray e)⟩) hg (ck ..) hn hcap (by rw[hl'];exact Nat.le_refl _)
     rwa [hl'] at this
  ·cases h
 ·cases h
end
end Go.Ev
