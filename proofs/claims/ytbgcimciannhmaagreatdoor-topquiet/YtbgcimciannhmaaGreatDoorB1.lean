import Derived.Test.YtbgcimciannhmaaGreatDoorB0
import Derived.DeepKeys
/- A part of the proof of TopQuiet; no condition. -/
set_option linter.all false
set_option maxRecDepth 100000
namespace Go.Ev
inductive BlkEvo:Blk→Blk→Prop where
 | gone (b:Blk):BlkEvo b .gone
 | var (t:TypeId) (K:Kind) (v v':AV):BlkEvo (.var t K v) (.var t K v')
 | row (e:TypeId) (K:Kind) (xs xs':List K.den) (h:xs'.length=xs.length):BlkEvo (.row e K xs) (.row e K xs')
 | map (KK KV:Kind) (es es':List (KK.den×KV.den)):BlkEvo (.map KK KV es) (.map KK KV es')
 | mm (KK KV:Kind) (es es':List (KK.den×KV.den)) (x:KK.den) (g:Nat):BlkEvo (.map KK KV es) (.ment KK KV es' x g)
 | me (KK KV:Kind) (es es':List (KK.den×KV.den)) (x:KK.den) (g:Nat):BlkEvo (.ment KK KV es x g) (.map KK KV es')
 | ee (KK KV:Kind) (es es':List (KK.den×KV.den)) (x x':KK.den) (g g':Nat):BlkEvo (.ment KK KV es x g) (.ment KK KV es' x' g')
 | stp:BlkEvo .stp .stp
 | ob (t:TypeId) (K:Kind) (o:OKd) (xs xs':List o.den) (h h':Option (Nat×AV)) (hl:xs'.length=xs.length):BlkEvo (.ob t K o xs h) (.ob t K o xs' h')
theorem BlkEvo.refl{b:Blk}(h:b≠.free):BlkEvo b b:=by
 cases b with
 | var t K v=>exact .var ..
 | row e K xs=>exact .row _ _ _ _ rfl
 | map KK KV es=>exact .map ..
 | ment KK KV es x g=>exact .ee ..
 | stp=>exact .stp
 | ob t K o xs h=>exact .ob _ _ _ _ _ _ _ rfl
 | gone=>exact .gone _
 | free=>exact absurd rfl h
theorem BlkEvo.trans{a b c:Blk}(h:BlkEvo a b)(h':BlkEvo b c):BlkEvo a c:=by
 cases h' with
 | gone=>exact .gone _
 | var t K v v'=>cases h with|var=>exact .var ..
 | row e K xs xs' hl=>cases h with|row _ _ ys _ hl'=>exact .row _ _ _ _ (hl.trans hl')
 | map=>cases h with|map=>exact .map ..|me=>exact .me ..
 | mm=>cases h with|map=>exact .mm ..|me=>exact .ee ..
 | me=>cases h with|mm=>exact .map ..|ee=>exact .me ..
 | ee=>cases h with|mm=>exact .mm ..|ee=>exact .ee ..
 | stp=>cases h with|stp=>exact .stp
 | ob t K o xs xs' h1 h2 hl=>cases h with|ob _ _ _ _ _ _ _ hl'=>exact .ob _ _ _ _ _ _ _ (hl.trans hl')
theorem BlkEvo.to_not_free{a b:Blk}(h:BlkEvo a b):b≠.free:=by cases h<;>simp
theorem BlkEvo.psame{a b:Blk}(h:BlkEvo a b){q q' q'':Option Nat}(h1:a.psame q q')(h2:b.psame q' q''):a.psame q q'':=by
 cases h with
 | gone=>cases a<;>first|(exact Eq.trans h2 h1)|(exact(congrArg _ h2).trans h1)
 | ob=>exact Eq.trans h2 h1
 | _=>exact Eq.trans h2 h1
def dN(mes:List MapEntry)(clock:Nat):Prop:=(mes.map (·.born)).Nodup∧∀ n∈mes.map (·.born),n<clock
theorem dN.nil(clock:Nat):dN [] clock:=⟨List.nodup_nil,fun n h=>by cases h⟩
theorem dN.same{mes mes':List MapEntry}{clock:Nat}(h:dN mes clock)(e:mes'.map (·.born)=mes.map (·.born)):dN mes' clock:=by unfold dN;rw[e];exact h
theorem dN.push{mes:List MapEntry}{clock:Nat}(h:dN mes clock)(k v:Value):dN (mes++[⟨k,v,clock⟩]) (clock+1):=by
 unfold dN
 rw[List.map_append,List.map_cons,List.map_nil]
 refine⟨List.nodup_append.2 ⟨h.1,by simp,fun a ha b hb=>?_⟩,fun n hn=>?_⟩
 ·have:=h.2 a ha
  simp at hb;omega
 ·rcases List.mem_append.1 hn with hn|hn
  ·have:=h.2 n hn;omega
  ·simp at hn;omega
theorem dN.sub{mes mes':List MapEntry}{clock:Nat}(h:dN mes clock)(e:mes'.Sublist mes):dN mes' clock:=
 ⟨(e.map _).nodup h.1,fun n hn=>h.2 n ((e.map _).subset hn)⟩
def ju(X:Cx)(id:Nat):Blk→Prop
 | .var t K v=>v.fits K=true∧∃ b cs,X.ρ id=some b∧X.w.heap[b]?=some (.cells (List.toArray cs) t (0,0))∧RA X v cs
 | .row e K xs=>(X.ρ id=none∧xs.length=0)∨∃ b cur cap css,X.ρ id=some b∧ce X.w b cur e∧cur.size=cap*K.size∧
   xs.length≤cap∧cap≤maxLen∧All2 (RP X.F X.w K) xs css∧css.flatten=cur.toList.take (xs.length*K.size)
 | .map KK KV es=>∃ b mes clock,X.ρ id=some b∧X.w.heap[b]?=some (.map mes clock)∧All2 (fun e (me:MapEntry)=>aE X (.p KK e.1) me.key∧aE X (.p KV e.2) me.val) es mes.toList∧dN mes.toList clock
 | _=>False
def d9(F:Nat→Prop)(w:World)(π:eM)(o:OKd)(K:Kind)(x:o.den)(cs:List Value):Prop:=
 (o.el x).fits K=true∧RA ⟨π,o.bl x,F,w⟩ (o.el x) cs∧∀ i d,(o.bl x)[i]?=some d→ju ⟨π,o.bl x,F,w⟩ i d
def Oc(X:Cx)(id:Nat)(t:TypeId)(K:Kind)(o:OKd)(xs:List o.den)(h:Option (Nat×AV)):Prop:=
 (X.ρ id=none∧xs.length=0∧h=none)∨∃ (p:Nat) (cur:Array Value) (cap:Nat) (css:List (List Value)),X.ρ id=some p∧X.w.heap[br p]?=some (.cells cur t (0,0))∧cur.size=cap*K.size∧xs.length≤cap∧cap≤maxLen∧
  css.length=xs.length∧(∀ c∈css,c.length=K.size)∧css.flatten=cur.toList.take (xs.length*K.size)∧
  (∀ j j' i i' b,bm p j i=some b→bm p j' i'=some b→j=j'∧i=i')∧(∀ j i,bm p j i≠some (br p))∧
  (∀ j x cs,xs[j]?=some x→css[j]?=some cs→(∀ v,h≠some (j,v))→d9 X.F X.w (bm p j) o K x cs)∧
  ∀ j v,h=some (j,v)→v.fits K=true∧∃ cs,css[j]?=some cs∧RA X v cs
def RB(X:Cx)(id:Nat):Blk→Prop
 | .var t K v=>v.fits K=true∧∃ b cs,X.ρ id=some b∧X.w.heap[b]?=some (.cells (List.toArray cs) t (0,0))∧RA X v cs
 | .row e K xs=>(X.ρ id=none∧xs.length=0)∨∃ b cur cap css,X.ρ id=some b∧ce X.w b cur e∧cur.size=cap*K.size∧
   xs.length≤cap∧cap≤maxLen∧All2 (RP X.F X.w K) xs css∧css.flatten=cur.toList.take (xs.length*K.size)
 | .map KK KV es=>∃ b mes clock,X.ρ id=some b∧X.w.heap[b]?=some (.map mes clock)∧All2 (fun e (me:MapEntry)=>aE X (.p KK e.1) me.key∧aE X (.p KV e.2) me.val) es mes.toList∧dN mes.toList clock
 | .ment KK KV es x g=>∃ b mes clock,X.ρ id=some b∧X.w.heap[b]?=some (.map mes clock)∧All2 (fun e (me:MapEntry)=>aE X (.p KK e.1) me.key∧aE X (.p KV e.2) me.val) es mes.toList∧dN mes.toList clock∧
   ∃ j e me bg,es[j]?=some e∧e.1=x∧mes.toList[j]?=some me∧X.hp[g]?=some bg∧(bg=.stp∨bg=.gone)∧X.ρ g=some me.born∧∀ v,bw KK es x v=es.set j (x,v)
 | .ob t K o xs h=>Oc X id t K o xs h
 | _=>True
structure Ok(X:Cx):Prop where
 blk:∀ (id:Nat) (b:Blk),X.hp[id]?=some b→RB X id b
 inj:∀ (id id' b:Nat) (c c':Blk),X.hp[id]?=some c→X.hp[id']?=some c'→c.at (X.ρ id) b→c'.at (X.ρ id') b→id=id'
 fo:∀ b,X.F b→b<X.w.heap.size∧¬ X.Own b
structure WEvo(X Y:Cx):Prop where
 os:Y.w.os=X.w.os
 tape:Y.w.tape=X.w.tape
 output:Y.w.output=X.w.output
 size:X.w.heap.size≤Y.w.heap.size
 shape:∀ (b:Nat) (c:Array Value) (e:TypeId) (f:Nat×Nat),X.w.heap[b]?=some (Obj.cells c e f)→∃ c':Array Value,Y.w.heap[b]?=some (Obj.cells c' e f)∧c'.size=c.size
 keep:∀ b,b<X.w.heap.size→¬ X.Own b→Y.w.heap[b]?=X.w.heap[b]?
 own:∀ b,b<X.w.heap.size→Y.Own b→X.Own b
 fmono:∀ b,X.F b→Y.F b
 fnew:∀ b,Y.F b→X.F b∨X.Own b∨X.w.heap.size≤b
structure HEvo(X Y:Cx):Prop where
 hp:∀ (id:Nat) (b:Blk),X.hp[id]?=some b→b≠.free→∃ b',Y.hp[id]?=some b'∧BlkEvo b b'
 ρ:∀ (id:Nat) (b:Blk),X.hp[id]?=some b→b≠.free→b.psame (X.ρ id) (Y.ρ id)
structure PEvo(m:Nat)(X Y:Cx):Prop where
 hp:∀ (id:Nat) (b:Blk),id<m→X.hp[id]?=some b→b≠.free→∃ b',Y.hp[id]?=some b'∧BlkEvo b b'
 ρ:∀ (id:Nat) (b:Blk),id<m→X.hp[id]?=some b→b≠.free→b.psame (X.ρ id) (Y.ρ id)
theorem HEvo.pevo{X Y:Cx}(h:HEvo X Y)(m:Nat):PEvo m X Y:=⟨fun id b _ hb hn=>h.hp id b hb hn,fun id b _ hb hn=>h.ρ id b hb hn⟩
theorem PEvo.refl(m:Nat)(X:Cx):PEvo m X X:=⟨fun _ b _ h hb=>⟨b,h,.refl hb⟩,fun _ _ _ _ _=>.rfl⟩
theorem PEvo.trans{m:Nat}{X Y Z:Cx}(h:PEvo m X Y)(k:PEvo m Y Z):PEvo m X Z where
 hp:=fun id b hm hb hn=>by
  obtain⟨b',h1,h2⟩:=h.hp id b hm hb hn
  obtain⟨b'',h3,h4⟩:=k.hp id b' hm h1 h2.to_not_free
  exact⟨b'',h3,h2.trans h4⟩
 ρ:=fun id b hm hb hn=>by
  obtain⟨b',h1,h2⟩:=h.hp id b hm hb hn
  exact h2.psame (h.ρ id b hm hb hn) (k.ρ id b' hm h1 h2.to_not_free)
theorem WEvo.refl(X:Cx):WEvo X X:=⟨rfl,rfl,rfl,Nat.le_refl _,fun _ c _ _ h=>⟨c,h,rfl⟩,fun _ _ _=>rfl,fun _ _ h=>h,fun _ h=>h,fun _ h=>.inl h⟩
theorem WEvo.trans{X Y Z:Cx}(h:WEvo X Y)(k:WEvo Y Z):WEvo X Z where
 os:=k.os.trans h.os
 tape:=k.tape.trans h.tape
 output:=k.output.trans h.output
 size:=Nat.le_trans h.size k.size
 shape:=fun b c e f hb=>by
  obtain⟨c',h1,h2⟩:=h.shape b c e f hb
  obtain⟨c'',h3,h4⟩:=k.shape b c' e f h1
  exact⟨c'',h3,h4.trans h2⟩
 keep:=fun b hb ho=>by
  rw[k.keep b (Nat.lt_of_lt_of_le hb h.size) (fun ho'=>ho (h.own b hb ho')),h.keep b hb ho]
 own:=fun b hb ho=>h.own b hb (k.own b (Nat.lt_of_lt_of_le hb h.size) ho)
 fmono:=fun b hb=>k.fmono b (h.fmono b hb)
 fnew:=fun b hb=>by
  rcases k.fnew b hb with h1|h1|h1
  ·exact h.fnew b h1
  ·rcases Nat.lt_or_ge b X.w.heap.size with h2|h2
   ·exact .inr (.inl (h.own b h2 h1))
   ·exact .inr (.inr h2)
  ·exact .inr (.inr (Nat.le_trans h.size h1))
theorem HEvo.refl(X:Cx):HEvo X X:=⟨fun _ b h hb=>⟨b,h,.refl hb⟩,fun _ _ _ _=>.rfl⟩
theorem HEvo.trans{X Y Z:Cx}(h:HEvo X Y)(k:HEvo Y Z):HEvo X Z where
 hp:=fun id b hb hn=>by
  obtain⟨b',h1,h2⟩:=h.hp id b hb hn
  obtain⟨b'',h3,h4⟩:=k.hp id b' h1 h2.to_not_free
  exact⟨b'',h3,h2.trans h4⟩
 ρ:=fun id b hb hn=>by
  obtain⟨b',h1,h2⟩:=h.hp id b hb hn
  exact h2.psame (h.ρ id b hb hn) (k.ρ id b' h1 h2.to_not_free)
section
variable{X Y:Cx}
theorem WEvo.foreign(h:WEvo X Y)(fo:∀ b,X.F b→b<X.w.heap.size∧¬ X.Own b):∀ b,X.F b→Y.w.heap[b]?=X.w.heap[b]?:=fun b hb=>h.keep b (fo b hb).1 (fo b hb).2
theorem RP.evo(h:WEvo X Y)(fo:∀ b,X.F b→b<X.w.heap.size∧¬ X.Own b){K:Kind}{x:K.den}{cs:List Value}(hr:RP X.F X.w K x cs):RP Y.F Y.w K x cs:=
 hr.mono h.fmono (h.foreign fo)
structure DEvo(X Y:Cx):Prop where
 shape:∀ (b:Nat) (c:Array Value) (e:TypeId) (f:Nat×Nat),X.w.heap[b]?=some (Obj.cells c e f)→∃ c':Array Value,Y.w.heap[b]?=some (Obj.cells c' e f)∧c'.size=c.size
 fmono:∀ b,X.F b→Y.F b
 fkeep:∀ b,X.F b→Y.w.heap[b]?=X.w.heap[b]?
theorem WEvo.d(h:WEvo X Y)(fo:∀ b,X.F b→b<X.w.heap.size∧¬ X.Own b):DEvo X Y:=⟨h.shape,h.fmono,h.foreign fo⟩
theorem RP.devo(h:DEvo X Y){K:Kind}{x:K.den}{cs:List Value}(hr:RP X.F X.w K x cs):RP Y.F Y.w K x cs:=hr.mono h.fmono h.fkeep
theorem R1.devo(h:DEvo X Y)(k:HEvo X Y){av:AV}{v:Value}(hr:R1 X av v):R1 Y av v:=by
 have ho:=hr.one
 cases av with
 | row id=>
  simp only[R1] at hr ⊢
  split at hr
  ·rename_i e K xs heq
   obtain⟨b',h1,h2⟩:=k.hp id _ heq (by simp)
   have h3:Y.ρ id=X.ρ id:=k.ρ id _ heq (by simp)
   rw[h1]
   cases h2 with
   | gone=>exact ho
   | row _ _ _ xs' hl=>
    simp only[h3,hl]
    rcases hr with hr|⟨b,cap,cur,a1,a2,a3,a4,a7⟩
    ·exact .inl hr
    ·obtain⟨fr,q1,q2⟩:=a3
     obtain⟨c',a5,a6⟩:=h.shape b cur e _ q2
     exact .inr ⟨b,cap,c',a1,a2,⟨fr,by rw[a6];exact q1,a5⟩,a6.trans a4,a7⟩
  ·rename_i e K o xs oh heq
   obtain⟨b',h1,h2⟩:=k.hp id _ heq (by simp)
   have h3:(Y.ρ id).map br=(X.ρ id).map br:=k.ρ id _ heq (by simp)
   rw[h1]
   cases h2 with
   | gone=>exact ho
   | ob _ _ _ _ xs' _ _ hl=>
    simp only[hl]
    rcases hr with ⟨a1,a2⟩|⟨p,cap,cur,a1,a2,a3,a4,a7⟩
    ·exact .inl ⟨by rw[a1] at h3;simpa using h3,a2⟩
    ·rw[a1] at h3
     simp only[Option.map_some,Option.map_eq_some_iff] at h3
     obtain⟨p',h4,h5⟩:=h3
     obtain⟨c',a5,a6⟩:=h.shape _ cur e _ a3
     exact .inr ⟨p',cap,c',h4,by rw[h5];exact a2,by rw[h5];exact a5,a6.trans a4,a7⟩
  ·rename_i heq
   obtain⟨b',h1,h2⟩:=k.hp id _ heq (by simp)
   rw[h1]
   cases h2;exact ho
  ·exact hr.elim
 | sub id lo len=>
  simp only[R1] at hr ⊢
  split at hr
  ·rename_i e K xs heq
   obtain⟨b',h1,h2⟩:=k.hp id _ heq (by simp)
   have h3:Y.ρ id=X.ρ id:=k.ρ id _ heq (by simp)
   rw[h1]
   cases h2 with
   | gone=>exact ho
   | row _ _ _ xs' hl=>simp only[h3,hl];exact hr
  ·rename_i heq
   obtain⟨b',h1,h2⟩:=k.hp id _ heq (by simp)
   rw[h1]
   cases h2;exact ho
  ·exact hr.elim
 | ptr id path=>
  simp only[R1] at hr ⊢
  split at hr
  ·rename_i e K xs heq
   obtain⟨b',h1,h2⟩:=k.hp id _ heq (by simp)
   have h3:Y.ρ id=X.ρ id:=k.ρ id _ heq (by simp)
   rw[h1]
   cases h2 with
   | gone=>exact ho
   | var=>simp only[h3];exact hr
  ·rename_i e K xs heq
   obtain⟨b',h1,h2⟩:=k.hp id _ heq (by simp)
   have h3:Y.ρ id=X.ρ id:=k.ρ id _ heq (by simp)
   rw[h1]
   cases h2 with
   | gone=>exact ho
   | row _ _ _ xs' hl=>simp only[h3,hl];exact hr
  ·rename_i e K o xs oh heq
   obtain⟨b',h1,h2⟩:=k.hp id _ heq (by simp)
   have h3:(Y.ρ id).map br=(X.ρ id).map br:=k.ρ id _ heq (by simp)
   rw[h1]
   cases h2 with
   | gone=>exact ho
   | ob _ _ _ _ xs' _ _ hl=>
    simp only[hl]
    obtain⟨p,i,r,off,K',a1,a2,a3,a4,a5⟩:=hr
    rw[a3] at h3
    simp only[Option.map_some,Option.map_eq_some_iff] at h3
    obtain⟨p',h4,h5⟩:=h3
    exact⟨p',i,r,off,K',a1,a2,h4,a4,by rw[h5];exact a5⟩
  ·rename_i heq
   obtain⟨b',h1,h2⟩:=k.hp id _ heq (by simp)
   rw[h1]
   cases h2;exact ho
  ·exact hr.elim
 | slc id path lo len=>
  simp only[R1] at hr ⊢
  split at hr
  ·rename_i e K xs heq
   obtain⟨b',h1,h2⟩:=k.hp id _ heq (by simp)
   have h3:Y.ρ id=X.ρ id:=k.ρ id _ heq (by simp)
   rw[h1]
   cases h2 with
   | gone=>exact ho
   | var=>simp only[h3];exact hr
  ·rename_i heq
   obtain⟨b',h1,h2⟩:=k.hp id _ heq (by simp)
   rw[h1]
   cases h2;exact ho
  ·exact hr.elim
 | mp id=>
  simp only[R1] at hr ⊢
  split at hr
  ·rename_i e K xs heq
   obtain⟨b',h1,h2⟩:=k.hp id _ heq (by simp)
   have h3:Y.ρ id=X.ρ id:=k.ρ id _ heq (by simp)
   rw[h1]
   cases h2 with
   | gone=>exact ho
   | map=>simp only[h3];exact hr
   | mm=>simp only[h3];exact hr
  ·rename_i heq
   obtain⟨b',h1,h2⟩:=k.hp id _ heq (by simp)
   have h3:Y.ρ id=X.ρ id:=k.ρ id _ heq (by simp)
   rw[h1]
   cases h2 with
   | gone=>exact ho
   | me=>simp only[h3];exact hr
   | ee=>simp only[h3];exact hr
  ·rename_i heq
   obtain⟨b',h1,h2⟩:=k.hp id _ heq (by simp)
   have h3:Y.ρ id=X.ρ id:=k.ρ id _ heq (by simp)
   rw[h1]
   cases h2 with
   | gone=>exact ho
   | stp=>simp only[h3];exact hr
  ·rename_i heq
   obtain⟨b',h1,h2⟩:=k.hp id _ heq (by simp)
   rw[h1]
   cases h2;exact ho
  ·exact hr.elim
 | nilp=>exact hr
 | vp K x=>
  obtain⟨ad,cs,rfl,hf,h1,h2⟩:=hr
  refine⟨ad,cs,rfl,h.fmono _ hf,h1.devo h,fun j u hu=>?_⟩
  rw[nJ (w:=X.w) (w':=Y.w) (by rw[gF];exact h.fkeep _ hf)]
  exact h2 j u hu
 | np K o=>
  rcases hr with hr|⟨x,rfl,ad,cs,rfl,hf,h1,h2⟩
  ·exact .inl hr
  ·refine .inr ⟨x,rfl,ad,cs,rfl,h.fmono _ hf,h1.devo h,fun j u hu=>?_⟩
   rw[nJ (w:=X.w) (w':=Y.w) (by rw[gF];exact h.fkeep _ hf)]
   exact h2 j u hu
 | fn f cs=>
  obtain⟨us,rfl,h1⟩:=hr
  refine⟨us,rfl,h1.imp fun _ _ _ _ hr=>?_⟩
  rcases hr with ⟨hb,ws,h2,h3⟩|⟨hb,ad,cs,rfl,hf,h1,h2⟩
  ·exact .inl ⟨hb,ws,h2.devo h,h3⟩
  ·refine .inr ⟨hb,ad,cs,rfl,h.fmono _ hf,h1.devo h,fun j u hu=>?_⟩
   rw[nJ (w:=X.w) (w':=Y.w) (by rw[gF];exact h.fkeep _ hf)]
   exact h2 j u hu
 | any=>exact hr
 | p K x=>exact hr.elim
 | pr a b=>exact hr.elim
 | tup vs=>exact hr.elim
theorem RA.devo(h:DEvo X Y)(k:HEvo X Y):∀ {av:AV} {cs:List Value},RA X av cs→RA Y av cs
 | .p K x,cs,hr=>RP.devo h hr
 | .pr a b,cs,hr=>by
  obtain⟨c1,c2,rfl,h1,h2⟩:=hr
  exact⟨c1,c2,rfl,RA.devo h k h1,RA.devo h k h2⟩
 | .any,cs,hr=>by obtain⟨v,rfl,h1⟩:=hr;exact⟨v,rfl,h1.devo h k⟩
 | .row _,cs,hr=>by obtain⟨v,rfl,h1⟩:=hr;exact⟨v,rfl,h1.devo h k⟩
 | .sub _ _ _,cs,hr=>by obtain⟨v,rfl,h1⟩:=hr;exact⟨v,rfl,h1.devo h k⟩
 | .ptr _ _,cs,hr=>by obtain⟨v,rfl,h1⟩:=hr;exact⟨v,rfl,h1.devo h k⟩
 | .vp _ _,cs,hr=>by obtain⟨v,rfl,h1⟩:=hr;exact⟨v,rfl,h1.devo h k⟩
 | .slc _ _ _ _,cs,hr=>by obtain⟨v,rfl,h1⟩:=hr;exact⟨v,rfl,h1.devo h k⟩
 | .mp _,cs,hr=>by obtain⟨v,rfl,h1⟩:=hr;exact⟨v,rfl,h1.devo h k⟩
 | .nilp,cs,hr=>by obtain⟨v,rfl,h1⟩:=hr;exact⟨v,rfl,h1.devo h k⟩
 | .np _ _,cs,hr=>by obtain⟨v,rfl,h1⟩:=hr;exact⟨v,rfl,h1.devo h k⟩
 | .fn _ _,cs,hr=>by obtain⟨v,rfl,h1⟩:=hr;exact⟨v,rfl,h1.devo h k⟩
 | .tup _,cs,hr=>by obtain⟨v,rfl,h1⟩:=hr;exact⟨v,rfl,h1.devo h k⟩
theorem aE.devo(h:DEvo X Y)(k:HEvo X Y){av:AV}{v:Value}(hr:aE X av v):aE Y av v:=by
 rcases hr with hr|⟨cs,h1,h2⟩
 ·exact .inl hr
 ·exact .inr ⟨cs,h1.devo h k,h2⟩
theorem RS.devo(h:DEvo X Y)(k:HEvo X Y){av:AV}{v:Value}(hr:RS X av v):RS Y av v:=by
 cases av with
 | tup vs=>
  obtain⟨us,rfl,h1⟩:=hr
  exact⟨us,rfl,h1.imp fun _ _ _ _ hr=>hr.devo h k⟩
 | _=>exact aE.devo h k hr
theorem RA.evo(h:WEvo X Y)(k:HEvo X Y)(fo:∀ b,X.F b→b<X.w.heap.size∧¬ X.Own b){av:AV}{cs:List Value}(hr:RA X av cs):RA Y av cs:=hr.devo (h.d fo) k
theorem aE.evo(h:WEvo X Y)(k:HEvo X Y)(fo:∀ b,X.F b→b<X.w.heap.size∧¬ X.Own b){av:AV}{v:Value}(hr:aE X av v):aE Y av v:=hr.devo (h.d fo) k
theorem RS.evo(h:WEvo X Y)(k:HEvo X Y)(fo:∀ b,X.F b→b<X.w.heap.size∧¬ X.Own b){av:AV}{v:Value}(hr:RS X av v):RS Y av v:=hr.devo (h.d fo) k
theorem ju.devo{X Y:Cx}(h:DEvo X Y)(k:HEvo X Y){id:Nat}{b:Blk}(hρ:Y.ρ id=X.ρ id)(hw:∀ n,X.ρ id=some n→Y.w.heap[n]?=X.w.heap[n]?)(hr:ju X id b):ju Y id b:=by
 cases b with
 | var t K v=>
  obtain⟨h1,n,cs,h2,h3,h4⟩:=hr
  exact⟨h1,n,cs,by rw[hρ];exact h2,by rw[hw n h2];exact h3,h4.devo h k⟩
 | row e K xs=>
  rcases hr with ⟨h1,h2⟩|⟨n,cur,cap,css,h1,h2,h3,h4,h5,h6,h7⟩
  ·exact .inl ⟨by rw[hρ];exact h1,h2⟩
  ·exact .inr ⟨n,cur,cap,css,by rw[hρ];exact h1,h2.evo (hw n h1),h3,h4,h5,h6.imp fun _ _ _ _ hr=>RP.devo h hr,h7⟩
 | map KK KV es=>
  obtain⟨n,mes,clock,h1,h2,h3,h4⟩:=hr
  exact⟨n,mes,clock,by rw[hρ];exact h1,by rw[hw n h1];exact h2,h3.imp fun _ _ _ _ hr=>⟨hr.1.devo h k,hr.2.devo h k⟩,h4⟩
 | _=>exact hr
theorem d9.evo{F F':Nat→Prop}{w w':World}{π:eM}{o:OKd}{K:Kind}{x:o.den}{cs:List Value}(hF:∀ b,F b→F' b)(hk:∀ b,F b→w'.heap[b]?=w.heap[b]?)(hs:∀ (b:Nat) (c:Array Value) (e:TypeId) (f:Nat×Nat),w.heap[b]?=some (Obj.cells c e f)→∃ c':Array Value,w'.heap[b]?=some (Obj.cells c' e f)∧c'.size=c.size)(hw:∀ i d n,(o.bl x)[i]?=some d→π i=some n→w'.heap[n]?=w.heap[n]?)(h:d9 F w π o K x cs):d9 F' w' π o K x cs:=by
 have D:DEvo ⟨π,o.bl x,F,w⟩ ⟨π,o.bl x,F',w'⟩:=⟨hs,hF,hk⟩
 have H:HEvo ⟨π,o.bl x,F,w⟩ ⟨π,o.bl x,F',w'⟩:=⟨fun _ b h hb=>⟨b,h,.refl hb⟩,fun _ _ _ _=>.rfl⟩
 exact⟨h.1,h.2.1.devo D H,fun i d hd=>(h.2.2 i d hd).devo D H rfl fun n hn=>hw i d n hd hn⟩
theorem RB.evo(h:WEvo X Y)(k:HEvo X Y)(fo:∀ b,X.F b→b<X.w.heap.size∧¬ X.Own b){id:Nat}{b:Blk}(hρ:Y.ρ id=X.ρ id)(hw:∀ n,b.at (X.ρ id) n→Y.w.heap[n]?=X.w.heap[n]?)(hr:RB X id b):RB Y id b:=by
 cases b with
 | var t K v=>
  obtain⟨h1,n,cs,h2,h3,h4⟩:=hr
  exact⟨h1,n,cs,by rw[hρ];exact h2,by rw[hw n h2];exact h3,h4.evo h k fo⟩
 | row e K xs=>
  rcases hr with ⟨h1,h2⟩|⟨n,cur,cap,css,h1,h2,h3,h4,h5,h6,h7⟩
  ·exact .inl ⟨by rw[hρ];exact h1,h2⟩
  ·exact .inr ⟨n,cur,cap,css,by rw[hρ];exact h1,h2.evo (hw n h1),h3,h4,h5,h6.imp fun _ _ _ _ hr=>RP.evo h fo hr,h7⟩
 | map KK KV es=>
  obtain⟨n,mes,clock,h1,h2,h3,h4⟩:=hr
  exact⟨n,mes,clock,by rw[hρ];exact h1,by rw[hw n h1];exact h2,h3.imp fun _ _ _ _ hr=>⟨hr.1.evo h k fo,hr.2.evo h k fo⟩,h4⟩
 | ment KK KV es x g=>
  obtain⟨n,mes,clock,h1,h2,h3,h4,j,e,me,bg,g1,g2,g3,g4,g5,g6,g7⟩:=hr
  have g8:bg≠.free:=by rcases g5 with rfl|rfl<;>simp
  obtain⟨bg',q1,q2⟩:=k.hp g bg g4 g8
  have g9:Y.ρ g=X.ρ g:=by rcases g5 with rfl|rfl<;>exact k.ρ g _ g4 g8
  exact⟨n,mes,clock,by rw[hρ];exact h1,by rw[hw n h1];exact h2,h3.imp fun _ _ _ _ hr=>⟨hr.1.evo h k fo,hr.2.evo h k fo⟩,h4,j,e,me,bg',g1,g2,g3,q1,
   by rcases g5 with rfl|rfl<;>cases q2<;>simp,by rw[g9];exact g6,g7⟩
 | ob t K o xs oh=>
  rcases hr with ⟨h1,h2⟩|⟨p,cur,cap,css,h1,h2,h3,h4,h5,h6,h7,h8,h9,h10,h11,h12⟩
  ·exact .inl ⟨by rw[hρ];exact h1,h2⟩
  ·refine .inr ⟨p,cur,cap,css,by rw[hρ];exact h1,by rw[hw _ ⟨p,h1,.inl rfl⟩];exact h2,h3,h4,h5,h6,h7,h8,h9,h10,fun j x cs hx hc hv=>?_,fun j v hv=>?_⟩
   ·exact(h11 j x cs hx hc hv).evo h.fmono (h.foreign fo) h.shape fun i d n hd hn=>hw n ⟨p,h1,.inr ⟨j,x,i,d,hx,hv,hd,hn⟩⟩
   ·obtain⟨g1,cs,g2,g3⟩:=h12 j v hv
    exact⟨g1,cs,g2,g3.evo h k fo⟩
 | stp=>trivial
 | gone=>trivial
 | free=>trivial
end
theorem ju.lt{X:Cx}{id:Nat}{d:Blk}{b:Nat}(h:ju X id d)(hb:X.ρ id=some b):b<X.w.heap.size:=by
 have key:∀ o,X.w.heap[b]?=some o→b<X.w.heap.size:=fun o ho=>(Array.getElem?_eq_some_iff.1 ho).1
 cases d with
 | var t K v=>obtain⟨_,n,cs,h4,h5,_⟩:=h;rw[hb] at h4;cases h4;exact key _ h5
 | row e K xs=>
  rcases h with ⟨h4,_⟩|⟨n,cur,cap,css,h4,h5,_⟩
  ·rw[hb] at h4;cases h4
  ·rw[hb] at h4;cases h4;exact h5.elim fun _ q=>key _ q.2
 | map KK KV es=>obtain⟨n,mes,clock,h4,h5,_⟩:=h;rw[hb] at h4;cases h4;exact key _ h5
 | _=>exact h.elim
theorem UW{css:List (List Value)}:∀ {n:Nat},css.length=n→∀ {j:Nat},j<n→∃ cs,css[j]?=some cs:=fun h j hj=>⟨_,List.getElem?_eq_getElem (by omega)⟩
theorem Ok.lt{X:Cx}(h:Ok X){b:Nat}(ho:X.Own b):b<X.w.heap.size:=by
 obtain⟨id,blk,h1,h2⟩:=ho
 have hb:=h.blk id blk h1
 have key:∀ o,X.w.heap[b]?=some o→b<X.w.heap.size:=fun o ho=>(Array.getElem?_eq_some_iff.1 ho).1
 cases blk with
 | var t K v=>obtain⟨_,n,cs,h4,h5,_⟩:=hb;rw[show X.ρ id=some b from h2] at h4;cases h4;exact key _ h5
 | row e K xs=>
  rcases hb with ⟨h4,_⟩|⟨n,cur,cap,css,h4,h5,_⟩
  ·rw[show X.ρ id=some b from h2] at h4;cases h4
  ·rw[show X.ρ id=some b from h2] at h4;cases h4;exact h5.elim fun _ q=>key _ q.2
 | map KK KV es=>obtain⟨n,mes,clock,h4,h5,_⟩:=hb;rw[show X.ρ id=some b from h2] at h4;cases h4;exact key _ h5
 | ment KK KV es x g=>obtain⟨n,mes,clock,h4,h5,_⟩:=hb;rw[show X.ρ id=some b from h2] at h4;cases h4;exact key _ h5
 | ob t K o xs oh=>
  obtain⟨p,h3,h4⟩:=h2
  rcases hb with ⟨g1,_⟩|⟨p',cur,cap,css,g1,g2,_,_,_,g6,_,_,_,_,g11,_⟩
  ·rw[h3] at g1;cases g1
  ·rw[h3] at g1;cases g1
   rcases h4 with rfl|⟨j,x,i,d,k1,k2,k3,k4⟩
   ·exact key _ g2
   ·obtain⟨cs,hc⟩:=UW g6 (List.getElem?_eq_some_iff.1 k1).1
    exact(g11 j x cs k1 hc k2).2.2 i d k3 |>.lt k4
 | stp=>exact h2.elim
 | gone=>exact h2.elim
 | free=>exact h2.elim
def d7(gl:GL)(X:Cx):Prop:=∀ g,RS X (eo gl g) (.pointer (some ⟨g,0,none⟩))
theorem d7.evo{gl:GL}{X Y:Cx}(W:WEvo X Y)(fo:∀ b,X.F b→b<X.w.heap.size∧¬ X.Own b)(h:d7 gl X):d7 gl Y:=fun g=>by
 have h:=h g
 unfold eo at h ⊢
 split
 ·rename_i q hq
  rw[hq] at h
  simp only at h
  rcases h with h|⟨cs,h1,h2⟩
  ·exact .inl h
  ·obtain⟨v,rfl,ad,cs,rfl,hF,g1,g2⟩:=h1
   refine .inr ⟨_,⟨_,rfl,ad,cs,rfl,W.fmono _ hF,g1.evo W fo,fun j u hu=>?_⟩,h2⟩
   rw[nJ (w:=X.w) (w':=Y.w) (by rw[gF];exact W.foreign fo _ hF)]
   exact g2 j u hu
 ·exact .inl rfl
structure Rel(gl:GL)(X:Cx)(s:St)(a:Act):Prop where
 glo:d7 gl X
 defers:a.defers=[]
 size:a.tmps.size=s.tm.length
 tm:∀ (i:Nat) (av:AV),s.tm[i]?=some av→∃ v,a.tmps[i]?=some v∧RS X av v
 hp:X.hp=s.hp
 ok:Ok X
theorem RS.any{X:Cx}(v:Value):RS X .any v:=.inl rfl
theorem RS.int{X:Cx}{k:IntKind}{n:Int}{v:Value}:RS X (.p (.int k) n) v↔v=.int k n:=by
 constructor
 ·rintro(h|⟨cs,h1,⟨h,_⟩|⟨_,h⟩⟩)
  ·cases h
  ·cases h
  ·subst h;simpa[RA,RP] using h1
 ·rintro rfl;exact .inr ⟨_,rfl,.inr ⟨rfl,rfl⟩⟩
theorem RS.bool{X:Cx}{b:Bool}{v:Value}:RS X (.p .bool b) v↔v=.bool b:=by
 constructor
 ·rintro(h|⟨cs,h1,⟨h,_⟩|⟨_,h⟩⟩)
  ·cases h
  ·cases h
  ·subst h;simpa[RA,RP] using h1
 ·rintro rfl;exact .inr ⟨_,rfl,.inr ⟨rfl,rfl⟩⟩
theorem RS.str{X:Cx}{s:ByteArray}{v:Value}:RS X (.p .str s) v↔v=.string s:=by
 constructor
 ·rintro(h|⟨cs,h1,⟨h,_⟩|⟨_,h⟩⟩)
  ·cases h
  ·cases h
  ·subst h;simpa[RA,RP] using h1
 ·rintro rfl;exact .inr ⟨_,rfl,.inr ⟨rfl,rfl⟩⟩
theorem RS.one{X:Cx}{av:AV}{v:Value}(h1:∀ K x,av≠.p K x)(h2:∀ a b,av≠.pr a b)(h3:av≠.any)(h4:∀ vs,av≠.tup vs):RS X av v↔R1 X av v:=by
 constructor
 ·intro h
  have h:aE X av v:=by cases av<;>first|exact h|exact absurd rfl (h4 _)
  rcases h with h|⟨cs,h5,⟨h,_⟩|⟨_,h⟩⟩
  ·cases av<;>first|exact absurd rfl h3|cases h
  ·cases av<;>first|exact absurd rfl (h1 _ _)|exact absurd rfl (h2 _ _)|cases h
  ·subst h
   obtain⟨u,hu,h6⟩:=(RA.single h1 h2).1 h5
   simp at hu;subst hu;exact h6
 ·intro h
  have:aE X av v:=.inr ⟨[v],(RA.single h1 h2).2 ⟨v,rfl,h⟩,.inr ⟨by cases av<;>first|rfl|exact absurd rfl (h1 _ _)|exact absurd rfl (h2 _ _),rfl⟩⟩
  cases av<;>first|exact this|exact absurd rfl (h4 _)
theorem Rel.eval{gl:GL}{X:Cx}{s:St}{a:Act}(h:Rel gl X s a)(t:Tmp):RS X (s.tm.getD t .any) (a.eval (.tmp t)):=by
 show RS X _ (a.tmps.getD t undef)
 cases ht:s.tm[t]? with
 | none=>simp[List.getD,ht];exact RS.any _
 | some av=>
  obtain⟨v,h1,h2⟩:=h.tm t av ht
  have e1:s.tm.getD t .any=av:=by simp[List.getD,ht]
  have e2:a.tmps.getD t undef=v:=by simp[h1]
  rw[e1,e2];exact h2
theorem akG{X:Cx}(v:Value):RS X (ofValue v) v:=by
 unfold ofValue
 split
 ·exact RS.int.2 rfl
 ·exact RS.bool.2 rfl
 ·exact RS.str.2 rfl
 ·exact(RS.one (by simp) (by simp) (by simp) (by simp)).2 rfl
 ·exact RS.any _
theorem Rel.ev{gl:GL}{X:Cx}{s:St}{a:Act}(h:Rel gl X s a)(x:Operand):RS X (St.ev gl s x) (a.eval x):=by
 cases x with
 | tmp t=>exact h.eval t
 | const v=>exact akG v
 | global g=>exact h.glo g
 | func f=>exact(RS.one (by simp[St.ev]) (by simp[St.ev]) (by simp[St.ev]) (by simp[St.ev])).2 ⟨[],rfl,.nil⟩
theorem jV(hp:List Blk)(id:Nat)(b:Blk)(j:Nat):(aC hp id b)[j]?=if j=id then some b else if j<hp.length then hp[j]? else if j<id then some .free else none:=by
 unfold aC
 split
 ·rename_i h
  rw[List.getElem?_set]
  by_cases hj:j=id
  ·subst hj;simp[h]
  ·rw[if_neg (Ne.symm hj),if_neg hj]
   split
   ·rfl
   ·rw[if_neg (by omega)];simp;omega
 ·rename_i h
  rw[List.getElem?_append]
  by_cases hj:j<hp.length
  ·rw[if_pos hj,if_neg (by omega),if_pos hj]
  ·rw[if_neg hj,if_neg hj,List.getElem?_append]
   simp only[List.length_replicate]
   by_cases hji:j=id
   ·subst hji;simp
   ·rw[if_neg hji]
    by_cases h2:j<id
    ·rw[if_pos (by omega),if_pos h2,List.getElem?_replicate,if_pos (by omega)]
    ·rw[if_neg (by omega),if_neg h2];exact List.getElem?_eq_none (by simp;omega)
theorem dh(hp:List Blk)(id:Nat)(b:Blk):(aC hp id b)[id]?=some b:=by simp[jV]
theorem et(hp:List Blk)(id:Nat)(b:Blk){j:Nat}(h:j≠id){c:Blk}(hc:hp[j]?=some c):(aC hp id b)[j]?=some c:=by
 rw[jV,if_neg h,if_pos (List.getElem?_eq_some_iff.1 hc).1];exact hc
theorem er{hp:List Blk}{id:Nat}{b:Blk}{j:Nat}{c:Blk}(h:(aC hp id b)[j]?=some c):(j=id∧c=b)∨(j≠id∧hp[j]?=some c)∨(j≠id∧c=.free):=by
 rw[jV] at h
 split at h
 ·rename_i hj;simp at h;exact .inl ⟨hj,h.symm⟩
 ·rename_i hj
  split at h
  ·exact .inr (.inl ⟨hj,h⟩)
  ·split at h
   ·simp at h;exact .inr (.inr ⟨hj,h.symm⟩)
   ·cases h
def bK(ρ:eM)(id:Nat)(q:Option Nat):eM:=fun j=>if j=id then q else ρ j
theorem ck(ρ:eM)(id:Nat)(q:Option Nat):bK ρ id q id=q:=by simp[bK]
theorem dp(ρ:eM)(id:Nat)(q:Option Nat){j:Nat}(h:j≠id):bK ρ id q j=ρ j:=by simp[bK,h]
def Cx.unused(X:Cx)(id:Nat):Prop:=X.hp[id]?=none∨X.hp[id]?=some .free
theorem Cx.unused.ne{X:Cx}{id:Nat}(h:X.unused id){j:Nat}{b:Blk}(hb:X.hp[j]?=some b)(hn:b≠.free):j≠id:=by
 rintro rfl
 rcases h with h|h
 ·rw[h] at hb;cases hb
 ·rw[h] at hb;cases hb;exact hn rfl
theorem gc{b:Blk}(h:b.live=true):b≠.free:=by rintro rfl;cases h
theorem MU{X:Cx}(ok:Ok X){id:Nat}(hf:X.unused id){B:Blk}{q:Option Nat}{w':World}{Y:Cx}(hY:Y=⟨bK X.ρ id q,aC X.hp id B,X.F,w'⟩)(hos:w'.os=X.w.os)(ht:w'.tape=X.w.tape)(hout:w'.output=X.w.output)(hsz:X.w.heap.size≤w'.heap.size)(hh:∀ k,k<X.w.heap.size→w'.heap[k]?=X.w.heap[k]?)(hob:B.isOb=true→q=none)(hq:∀ n,q=some n→X.w.heap.size≤n)(hrb:WEvo X Y→HEvo X Y→RB Y id B):Ok Y∧WEvo X Y∧HEvo X Y:=by
 subst hY
 have hown:∀ b,b<X.w.heap.size→Cx.Own ⟨bK X.ρ id q,aC X.hp id B,X.F,w'⟩ b→X.Own b:=by
  rintro b hb ⟨j,c,h1,h3⟩
  simp only at h1 h3
  rcases er h1 with ⟨rfl,rfl⟩|⟨hj,h4⟩|⟨_,rfl⟩
  ·rw[ck] at h3;have:=hq b (h3.simple hob);omega
  ·rw[dp _ _ _ hj] at h3;exact⟨j,c,h4,h3⟩
  ·exact h3.elim
 have W:WEvo X ⟨bK X.ρ id q,aC X.hp id B,X.F,w'⟩:=
  ⟨hos,ht,hout,hsz,fun b c e f h=>⟨c,by show w'.heap[b]?=_;rw[hh b (Array.getElem?_eq_some_iff.1 h).1];exact h,rfl⟩,fun b hb _=>hh b hb,hown,fun _ h=>h,fun _ h=>.inl h⟩
 have H:HEvo X ⟨bK X.ρ id q,aC X.hp id B,X.F,w'⟩:=
  ⟨fun j b hb hn=>⟨b,et _ _ _ (hf.ne hb hn) hb,.refl hn⟩,fun j b hb hn=>by show b.psame _ (bK X.ρ id q j);rw[dp _ _ _ (hf.ne hb hn)];exact .rfl⟩
 refine⟨⟨fun j b hb=>?_,fun i j b c c' h1 h3 h5 h6=>?_,fun b hb=>?_⟩,W,H⟩
 ·rcases er hb with ⟨rfl,rfl⟩|⟨hj,h4⟩|⟨_,rfl⟩
  ·exact hrb W H
  ·exact(ok.blk j b h4).evo W H ok.fo (dp _ _ _ hj) fun n hn=>hh n (ok.lt ⟨j,b,h4,hn⟩)
  ·trivial
 ·simp only at h1 h3 h5 h6
  rcases er h1 with ⟨rfl,rfl⟩|⟨hj,g1⟩|⟨_,rfl⟩
  ·rcases er h3 with ⟨rfl,rfl⟩|⟨hj',g3⟩|⟨_,rfl⟩
   ·rfl
   ·rw[ck] at h5;rw[dp _ _ _ hj'] at h6
    have:=hq b (h5.simple hob);have:=ok.lt ⟨j,c',g3,h6⟩;omega
   ·exact h6.elim
  ·rcases er h3 with ⟨rfl,rfl⟩|⟨hj',g3⟩|⟨_,rfl⟩
   ·rw[ck] at h6;rw[dp _ _ _ hj] at h5
    have:=hq b (h6.simple hob);have:=ok.lt ⟨i,c,g1,h5⟩;omega
   ·rw[dp _ _ _ hj] at h5;rw[dp _ _ _ hj'] at h6
    exact ok.inj i j b c c' g1 g3 h5 h6
   ·exact h6.elim
  ·exact h5.elim
 ·have:=ok.fo b hb
  exact⟨Nat.lt_of_lt_of_le this.1 hsz,fun ho=>this.2 (hown b this.1 ho)⟩
theorem amA{X:Cx}(ok:Ok X){id:Nat}(hf:X.unused id){q:Option Nat}{Y:Cx}(hY:Y=⟨bK X.ρ id q,aC X.hp id .stp,X.F,X.w⟩):Ok Y∧WEvo X Y∧HEvo X Y:=by
 subst hY
 have hown:∀ b,Cx.Own ⟨bK X.ρ id q,aC X.hp id .stp,X.F,X.w⟩ b→X.Own b:=by
  rintro b ⟨j,c,h1,h3⟩
  simp only at h1 h3
  rcases er h1 with ⟨rfl,rfl⟩|⟨hj,h4⟩|⟨_,rfl⟩
  ·exact h3.elim
  ·rw[dp _ _ _ hj] at h3;exact⟨j,c,h4,h3⟩
  ·exact h3.elim
 have W:WEvo X ⟨bK X.ρ id q,aC X.hp id .stp,X.F,X.w⟩:=
  ⟨rfl,rfl,rfl,Nat.le_refl _,fun b c e f h=>⟨c,h,rfl⟩,fun b hb _=>rfl,fun b _ h=>hown b h,fun _ h=>h,fun _ h=>.inl h⟩
 have H:HEvo X ⟨bK X.ρ id q,aC X.hp id .stp,X.F,X.w⟩:=
  ⟨fun j b hb hn=>⟨b,et _ _ _ (hf.ne hb hn) hb,.refl hn⟩,fun j b hb hn=>by show b.psame _ (bK X.ρ id q j);rw[dp _ _ _ (hf.ne hb hn)];exact .rfl⟩
 refine⟨⟨fun j b hb=>?_,fun i j b c c' h1 h3 h5 h6=>?_,fun b hb=>?_⟩,W,H⟩
 ·rcases er hb with ⟨rfl,rfl⟩|⟨hj,h4⟩|⟨_,rfl⟩
  ·trivial
  ·exact(ok.blk j b h4).evo W H ok.fo (dp _ _ _ hj) fun n hn=>rfl
  ·trivial
 ·simp only at h1 h3 h5 h6
  rcases er h1 with ⟨rfl,rfl⟩|⟨hj,g1⟩|⟨_,rfl⟩
  ·exact h5.elim
  ·rcases er h3 with ⟨rfl,rfl⟩|⟨hj',g3⟩|⟨_,rfl⟩
   ·exact h6.elim
   ·rw[dp _ _ _ hj] at h5;rw[dp _ _ _ hj'] at h6
    exact ok.inj i j b c c' g1 g3 h5 h6
   ·exact h6.elim
  ·exact h5.elim
 ·have:=ok.fo b hb
  exact⟨this.1,fun ho=>this.2 (hown b ho)⟩
theorem Yf{X:Cx}(ok:Ok X){id n:Nat}{B B':Blk}(hB:X.hp[id]?=some B)(hl:B.plain=true)(hρ:X.ρ id=some n)(he:BlkEvo B B')(hl':B'.plain=true){w':World}{Y:Cx}(hY:Y=⟨X.ρ,aC X.hp id B',X.F,w'⟩)(hos:w'.os=X.w.os)(ht:w'.tape=X.w.tape)(hout:w'.output=X.w.output)(hsz:X.w.heap.size≤w'.heap.size)(hh:∀ k,k<X.w.heap.size→k≠n→w'.heap[k]?=X.w.heap[k]?)(hs:∀ (c:Array Value) (e:TypeId) (f:Nat×Nat),X.w.heap[n]?=some (Obj.cells c e f)→∃ c':Array Value,w'.heap[n]?=some (Obj.cells c' e f)∧c'.size=c.size)(hrb:WEvo X Y→HEvo X Y→RB Y id B'):Ok Y∧WEvo X Y∧HEvo X Y:=by
 subst hY
 have hn:=gc (M0 hl)
 have hO:X.Own n:=⟨id,B,hB,(dc hl).2 hρ⟩
 have hown:∀ b,Cx.Own ⟨X.ρ,aC X.hp id B',X.F,w'⟩ b→X.Own b:=by
  rintro b ⟨j,c,h1,h3⟩
  simp only at h1 h3
  rcases er h1 with ⟨rfl,rfl⟩|⟨hj,h4⟩|⟨_,rfl⟩
  ·exact⟨j,B,hB,(dc hl).2 ((dc hl').1 h3)⟩
  ·exact⟨j,c,h4,h3⟩
  ·exact h3.elim
 have W:WEvo X ⟨X.ρ,aC X.hp id B',X.F,w'⟩:=by
  refine⟨hos,ht,hout,hsz,fun b c e f h=>?_,fun b hb ho=>hh b hb (fun e=>ho (e▸hO)),fun b _ ho=>hown b ho,fun _ h=>h,fun _ h=>.inl h⟩
  by_cases hbn:b=n
  ·subst hbn;exact hs c e f h
  ·exact⟨c,by show w'.heap[b]?=_;rw[hh b (Array.getElem?_eq_some_iff.1 h).1 hbn];exact h,rfl⟩
 have H:HEvo X ⟨X.ρ,aC X.hp id B',X.F,w'⟩:=by
  refine⟨fun j b hb hnf=>?_,fun _ _ _ _=>.rfl⟩
  by_cases hj:j=id
  ·subst hj;rw[hB] at hb;cases hb;exact⟨B',dh _ _ _,he⟩
  ·exact⟨b,et _ _ _ hj hb,.refl hnf⟩
 refine⟨⟨fun j b hb=>?_,fun i j b c c' h1 h3 h5 h6=>?_,fun b hb=>?_⟩,W,H⟩
 ·rcases er hb with ⟨rfl,rfl⟩|⟨hj,h4⟩|⟨_,rfl⟩
  ·exact hrb W H
  ·exact(ok.blk j b h4).evo W H ok.fo rfl fun m hm=>hh m (ok.lt ⟨j,b,h4,hm⟩) fun e=>hj (ok.inj j id n b B h4 hB (e▸hm) ((dc hl).2 hρ))
  ·trivial
 ·simp only at h1 h3 h5 h6
  rcases er h1 with ⟨rfl,rfl⟩|⟨hj,g1⟩|⟨_,rfl⟩
  ·rcases er h3 with ⟨rfl,rfl⟩|⟨hj',g3⟩|⟨_,rfl⟩
   ·rfl
   ·exact ok.inj i j b B c' hB g3 ((dc hl).2 ((dc hl').1 h5)) h6
   ·exact h6.elim
  ·rcases er h3 with ⟨rfl,rfl⟩|⟨hj',g3⟩|⟨_,rfl⟩
   ·exact ok.inj i j b c B g1 hB h5 ((dc hl).2 ((dc hl').1 h6))
   ·exact ok.inj i j b c c' g1 g3 h5 h6
   ·exact h6.elim
  ·exact h5.elim
 ·have:=ok.fo b hb
  exact⟨Nat.lt_of_lt_of_le this.1 hsz,fun ho=>this.2 (hown b ho)⟩
theorem aku{X:Cx}(ok:Ok X){id id':Nat}{B B':Blk}(hB:X.hp[id]?=some B)(hl:B.plain=true)(hl':B'.plain=true)(hf:X.unused id'){q:Option Nat}{w':World}{Y:Cx}(hY:Y=⟨bK X.ρ id' q,aC (aC X.hp id .gone) id' B',X.F,w'⟩)(hos:w'.os=X.w.os)(ht:w'.tape=X.w.tape)(hout:w'.output=X.w.output)(hsz:X.w.heap.size≤w'.heap.size)(hh:∀ k,k<X.w.heap.size→X.ρ id≠some k→w'.heap[k]?=X.w.heap[k]?)(hs:∀ n,X.ρ id=some n→∀ (c:Array Value) (e:TypeId) (f:Nat×Nat),X.w.heap[n]?=some (Obj.cells c e f)→∃ c':Array Value,w'.heap[n]?=some (Obj.cells c' e f)∧c'.size=c.size)(hq:q=X.ρ id∨∀ n,q=some n→X.w.heap.size≤n)(hrb:WEvo X Y→HEvo X Y→RB Y id' B'):Ok Y∧WEvo X Y∧HEvo X Y:=by
 subst hY
 have hne:id≠id':=hf.ne hB (gc (M0 hl))
 have cs:∀ {j:Nat} {c:Blk},(aC (aC X.hp id .gone) id' B')[j]?=some c→c.live=true→(j=id'∧c=B')∨(j≠id'∧j≠id∧X.hp[j]?=some c):=fun {j c} h hc=>by
  rcases er h with ⟨h1,h2⟩|⟨h1,h2⟩|⟨_,rfl⟩
  ·exact .inl ⟨h1,h2⟩
  ·rcases er h2 with ⟨_,rfl⟩|⟨h3,h4⟩|⟨_,rfl⟩
   ·cases hc
   ·exact .inr ⟨h1,h3,h4⟩
   ·cases hc
  ·cases hc
 have hown:∀ b,b<X.w.heap.size→Cx.Own ⟨bK X.ρ id' q,aC (aC X.hp id .gone) id' B',X.F,w'⟩ b→X.Own b:=by
  rintro b hb ⟨j,c,h1,h3⟩
  simp only at h1 h3
  rcases cs h1 h3.live with ⟨rfl,rfl⟩|⟨hj,_,h4⟩
  ·rw[ck] at h3
   have h3:=(dc hl').1 h3
   rcases hq with hq|hq
   ·exact⟨id,B,hB,(dc hl).2 (hq▸h3)⟩
   ·have:=hq b h3;omega
  ·rw[dp _ _ _ hj] at h3;exact⟨j,c,h4,h3⟩
 have W:WEvo X ⟨bK X.ρ id' q,aC (aC X.hp id .gone) id' B',X.F,w'⟩:=by
  refine⟨hos,ht,hout,hsz,fun b c e f h=>?_,fun b hb ho=>hh b hb (fun e=>ho ⟨id,B,hB,(dc hl).2 e⟩),hown,fun _ h=>h,fun _ h=>.inl h⟩
  by_cases hbn:X.ρ id=some b
  ·exact hs b hbn c e f h
  ·exact⟨c,by show w'.heap[b]?=_;rw[hh b (Array.getElem?_eq_some_iff.1 h).1 hbn];exact h,rfl⟩
 have H:HEvo X ⟨bK X.ρ id' q,aC (aC X.hp id .gone) id' B',X.F,w'⟩:=by
  refine⟨fun j b hb hnf=>?_,fun j b hb hnf=>by show b.psame _ (bK X.ρ id' q j);rw[dp _ _ _ (hf.ne hb hnf)];exact .rfl⟩
  have h1:=hf.ne hb hnf
  by_cases hj:j=id
  ·subst hj;exact⟨.gone,et _ _ _ h1 (dh _ _ _),.gone _⟩
  ·exact⟨b,et _ _ _ h1 (et _ _ _ hj hb),.refl hnf⟩
 refine⟨⟨fun j b hb=>?_,fun i j b c c' h1 h3 h5 h6=>?_,fun b hb=>?_⟩,W,H⟩
 ·by_cases hlb:b.live=true
  ·rcases cs hb hlb with ⟨rfl,rfl⟩|⟨hj,hj2,h4⟩
   ·exact hrb W H
   ·exact(ok.blk j b h4).evo W H ok.fo (dp _ _ _ hj) fun m hm=>hh m (ok.lt ⟨j,b,h4,hm⟩) fun e=>hj2 (ok.inj j id m b B h4 hB hm ((dc hl).2 e))
  ·cases b<;>first|trivial|(simp[Blk.live] at hlb)
 ·simp only at h1 h3 h5 h6
  rcases cs h1 h5.live with ⟨rfl,rfl⟩|⟨hj,hj2,g1⟩
  ·rcases cs h3 h6.live with ⟨rfl,rfl⟩|⟨hj',hj2',g3⟩
   ·rfl
   ·rw[ck] at h5;rw[dp _ _ _ hj'] at h6
    have h5:=(dc hl').1 h5
    rcases hq with hq|hq
    ·exact absurd (ok.inj j id b c' B g3 hB h6 ((dc hl).2 (hq▸h5))) hj2'
    ·have:=hq b h5;have:=ok.lt ⟨j,c',g3,h6⟩;omega
  ·rcases cs h3 h6.live with ⟨rfl,rfl⟩|⟨hj',hj2',g3⟩
   ·rw[ck] at h6;rw[dp _ _ _ hj] at h5
    have h6:=(dc hl').1 h6
    rcases hq with hq|hq
    ·exact absurd (ok.inj i id b c B g1 hB h5 ((dc hl).2 (hq▸h6))) hj2
    ·have:=hq b h6;have:=ok.lt ⟨i,c,g1,h5⟩;omega
   ·rw[dp _ _ _ hj] at h5;rw[dp _ _ _ hj'] at h6
    exact ok.inj i j b c c' g1 g3 h5 h6
 ·have:=ok.fo b hb
  exact⟨Nat.lt_of_lt_of_le this.1 hsz,fun ho=>this.2 (hown b this.1 ho)⟩
end Go.Ev
namespace Go.Ev
def bN:Kind→List Value→Bool
 | .int k,[.int k' n]=>decide (k'=k)&&decide (n=0)
 | .bool,[.bool b]=>!b
 | .str,[.string s]=>s.size==0
 | .opq,[v]=>v.oneCell'
 | .unit,[]=>true
 | .pair a b,cs=>bN a (cs.take a.size)&&bN b (cs.drop a.size)
 | .arr n e,cs=>decide (cs.length=n*e.size)&&(List.range n).all fun i=>bN e (bM cs (i*e.size) e.size)
 | .sl _,[.slice none 0 0]=>true
 | _,_=>false
def aA(aN:List (TypeId×TI)):List Field→List TypeId→Kind→Nat→Bool
 | [],[],.unit,_=>true
 | f::fs,t::ts,.pair a b,off=>f.type==t&&f.offset==off&&decide (0<a.size)&&(match aN.lookup t with|some j=>decide (j.K=a)|none=>false)&&aA aN fs ts b (off+a.size)
 | _,_,_,_=>false
def tE(aN:List (TypeId×TI)):List TypeId→Kind→List Value→Bool
 | t::ts,.pair a b,cs=>(match aN.lookup t with
  | some ⟨_,.ptr _,_,_⟩=>(match cs with|.pointer none::_=>true|_=>false)
  | _=>true)&&tE aN ts b (cs.drop a.size)
 | _,_,_=>true
def wO(aN:List (TypeId×TI))(d:TD)(K:Kind)(cs:List Value):Bool:=match d with
 | .struct ts=>tE aN ts K cs
 | _=>true
def ke(P:Program)(aN:List (TypeId×TI))(q:TypeId×TI):Bool:=
 match P.info? q.1,P.underlying q.1 with
 | some i,some d=>
  decide (i.size=q.2.K.size)&&decide (i.bytes=q.2.bytes) &&
  (match i.zero with|some (.agg cs)=>q.2.K.isAgg&&(bN q.2.K cs.toList&&wO aN q.2.d q.2.K cs.toList)|some z=>!q.2.K.isAgg&&z.oneCell'&&(bN q.2.K [z]&&wO aN q.2.d q.2.K [z])|none=>false) &&
  (match d,q.2.d,q.2.K with
   | .int k,.prim,.int k'=>decide (k=k')
   | .bool,.prim,.bool=>true
   | .string,.prim,.str=>true
   | .slice e,.slice e',.sl Ke=>decide (e=e')&&(match aN.lookup e with|some j=>decide (j.K=Ke)&&decide (0<Ke.size)&&decide (0<j.bytes)|none=>false)
   | .array n e,.array n' e',.arr n'' Ke=>decide (n=n')&&decide (n=n'')&&decide (e=e')&&(match aN.lookup e with|some j=>decide (j.K=Ke)&&decide (0<Ke.size)|none=>false)
   | .struct fs,.struct ts,K=>aA aN fs.toList ts K 0
   | .map k v,.map k' v',.opq=>decide (k=k')&&decide (v=v')
   | .pointer e,.ptr e',.opq=>decide (e=e')
   | _,_,_=>false) &&
  (!q.2.cmp||(P.keyTypeAt 100 q.1&&!(P.eqGuardType P.depth q.1)))
 | _,_=>false
variable{A:Type}
def aO(P:Program)(E:Env A):Prop:=∀ t i,E.ty.lookup t=some i→ke P E.ty (t,i)=true
theorem bq{out:A}{E:Env A}{t:TypeId}{k:TI→Option A}(h:E.ti t k=some out):∃ i,E.ty.lookup t=some i∧k i=some out:=by
 unfold Env.ti at h
 split at h
 ·rename_i i hi;exact⟨i,hi,h⟩
 ·cases h
section
variable{P:Program}{E:Env A}(T:aO P E)
include T
theorem aO.info{t:TypeId}{i:TI}(h:E.ty.lookup t=some i):∃ inf d,P.info? t=some inf∧P.underlying t=some d∧inf.size=i.K.size∧inf.bytes=i.bytes:=by
 have:=T t i h
 unfold ke at this
 split at this
 ·rename_i inf d h1 h2
  simp only[Bool.and_eq_true,decide_eq_true_eq] at this
  exact⟨inf,d,h1,h2,this.1.1.1.1,this.1.1.1.2⟩
 ·cases this
theorem aO.size{t:TypeId}{i:TI}(h:E.ty.lookup t=some i):(P.info? t).map (·.size)=some i.K.size:=by
 obtain⟨inf,d,h1,_,h2,_⟩:=T.info h
 simp[h1,h2]
theorem aO.cellsOf{t:TypeId}{i:TI}(h:E.ty.lookup t=some i):P.cellsOf t=i.K.size:=by
 obtain⟨inf,d,h1,_,h2,_⟩:=T.info h
 simp[Program.cellsOf,h1,h2]
theorem aO.runSize{t:TypeId}{i:TI}(h:E.ty.lookup t=some i)(w:World):(sizeOf t).run P w=.ok i.K.size w:=by
 obtain⟨inf,d,h1,_,h2,_⟩:=T.info h
 rw[run_sizeOf w h1,T.cellsOf h]
theorem aO.desc{t:TypeId}{i:TI}(h:E.ty.lookup t=some i):∃ d,P.underlying t=some d∧
  (match d,i.d,i.K with
   | .int k,.prim,.int k'=>decide (k=k')
   | .bool,.prim,.bool=>true
   | .string,.prim,.str=>true
   | .slice e,.slice e',.sl Ke=>decide (e=e')&&(match E.ty.lookup e with|some j=>decide (j.K=Ke)&&decide (0<Ke.size)&&decide (0<j.bytes)|none=>false)
   | .array n e,.array n' e',.arr n'' Ke=>decide (n=n')&&decide (n=n'')&&decide (e=e')&&(match E.ty.lookup e with|some j=>decide (j.K=Ke)&&decide (0<Ke.size)|none=>false)
   | .struct fs,.struct ts,K=>aA E.ty fs.toList ts K 0
   | .map k v,.map k' v',.opq=>decide (k=k')&&decide (v=v')
   | .pointer e,.ptr e',.opq=>decide (e=e')
   | _,_,_=>false)=true:=by
 have:=T t i h
 unfold ke at this
 split at this
 ·rename_i inf d h1 h2
  simp only[Bool.and_eq_true] at this
  exact⟨d,h2,this.1.2⟩
 ·cases this
theorem aO.agg{t:TypeId}{i:TI}(h:E.ty.lookup t=some i)(w:World):(isAgg t).run P w=.ok i.K.isAgg w:=by
 obtain⟨d,h1,h2⟩:=T.desc h
 unfold isAgg
 rw[Sem.run_bind,run_underlying h1 w]
 obtain⟨K,td,by',cm⟩:=i
 simp only at h2 ⊢
 cases d<;>cases td<;>cases K<;>simp[Kind.isAgg] at h2 ⊢
 all_goals (simp[aA] at h2)
 all_goals (rename_i fs ts;cases hf:fs.toList<;>cases ts<;>simp[hf,aA] at h2)
theorem aO.cmp{t:TypeId}{i:TI}(h:E.ty.lookup t=some i)(hc:i.cmp=true):P.keyTypeAt 100 t=true∧P.eqGuardType P.depth t=false:=by
 have:=T t i h
 unfold ke at this
 split at this
 ·simp[hc] at this;exact this.2
 ·cases this
theorem aO.slice{t e:TypeId}{i:TI}(h:E.ty.lookup t=some i)(hd:i.d=.slice e) :
  P.underlying t=some (.slice e)∧∃ j,E.ty.lookup e=some j∧i.K=.sl j.K∧0<j.K.size∧0<j.bytes:=by
 obtain⟨d,h1,h2⟩:=T.desc h
 obtain⟨K,td,by',cm⟩:=i
 simp only at hd;subst hd
 cases d<;>cases K<;>simp at h2
 obtain⟨rfl,h2⟩:=h2
 refine⟨h1,?_⟩
 split at h2
 ·rename_i j hj;simp at h2;exact⟨j,hj,by simp[h2.1.1],by rw[h2.1.1];exact h2.1.2,h2.2⟩
 ·cases h2
theorem aO.array{t e:TypeId}{n:Nat}{i:TI}(h:E.ty.lookup t=some i)(hd:i.d=.array n e) :
  P.underlying t=some (.array n e)∧∃ j,E.ty.lookup e=some j∧i.K=.arr n j.K∧0<j.K.size:=by
 obtain⟨d,h1,h2⟩:=T.desc h
 obtain⟨K,td,by',cm⟩:=i
 simp only at hd;subst hd
 cases d<;>cases K<;>simp at h2
 obtain⟨⟨⟨rfl,rfl⟩,rfl⟩,h2⟩:=h2
 refine⟨h1,?_⟩
 split at h2
 ·rename_i j hj;simp at h2;exact⟨j,hj,by simp[h2.1],by rw[h2.1];exact h2.2⟩
 ·cases h2
theorem aO.map{t k v:TypeId}{i:TI}(h:E.ty.lookup t=some i)(hd:i.d=.map k v):P.underlying t=some (.map k v):=by
 obtain⟨d,h1,h2⟩:=T.desc h
 obtain⟨K,td,by',cm⟩:=i
 simp only at hd;subst hd
 cases d<;>cases K<;>simp at h2
 obtain⟨rfl,rfl⟩:=h2
 exact h1
end
theorem Ec{α:Type}:∀ (n m:Nat) (cs:List α),cs.length=n*m→cs=((List.range n).map fun i=>bM cs (i*m) m).flatten
 | 0,m,cs,h=>by simp at h;simp[h]
 | n+1,m,cs,h=>by
  have h1:(cs.drop m).length=n*m:=by simp[h,Nat.add_mul]
  have ih:=Ec n m (cs.drop m) h1
  rw[List.range_succ_eq_map,List.map_cons,List.flatten_cons,List.map_map]
  have e1:bM cs (0*m) m=cs.take m:=by simp[bM]
  have e2:((fun i=>bM cs (i*m) m) ∘ Nat.succ)=fun i=>bM (cs.drop m) (i*m) m:=by
   funext i;simp[bM,Nat.succ_mul,Nat.add_comm]
  rw[e1,e2,← ih,List.take_append_drop]
theorem kf{F:Nat→Prop}{w:World}:∀ {K:Kind} {cs:List Value},bN K cs=true→RP F w K K.zero cs
 | .int k,cs,h=>by
  match cs with
  | [.int k' n]=>simp[bN] at h;obtain⟨rfl,rfl⟩:=h;rfl
  | []=>simp[bN] at h
  | v::_::_=>simp[bN] at h
  | [.bool _]|[.float _ _]|[.complex _ _ _]|[.string _]|[.pointer _]|[.slice _ _ _]|[.map _]|[.chan _]|[.func _ _ _]|[.nilFunc]|[.iface _ _]|[.nilIface]|[.agg _]|[.tuple _]=>simp[bN] at h
 | .bool,cs,h=>by
  match cs with
  | [.bool b]=>simp[bN] at h;subst h;rfl
  | []=>simp[bN] at h
  | v::_::_=>simp[bN] at h
  | [.int _ _]|[.float _ _]|[.complex _ _ _]|[.string _]|[.pointer _]|[.slice _ _ _]|[.map _]|[.chan _]|[.func _ _ _]|[.nilFunc]|[.iface _ _]|[.nilIface]|[.agg _]|[.tuple _]=>simp[bN] at h
 | .str,cs,h=>by
  match cs with
  | [.string s]=>
   simp[bN] at h
   subst h;rfl
  | []=>simp[bN] at h
  | v::_::_=>simp[bN] at h
  | [.int _ _]|[.float _ _]|[.complex _ _ _]|[.bool _]|[.pointer _]|[.slice _ _ _]|[.map _]|[.chan _]|[.func _ _ _]|[.nilFunc]|[.iface _ _]|[.nilIface]|[.agg _]|[.tuple _]=>simp[bN] at h
 | .opq,cs,h=>by
  match cs with
  | [v]=>exact⟨v,rfl,by simpa[bN] using h,fun r hr=>by cases hr⟩
  | []=>simp[bN] at h
  | v::_::_=>simp[bN] at h
 | .unit,cs,h=>by
  match cs with
  | []=>rfl
  | v::_=>simp[bN] at h
 | .pair a b,cs,h=>by
  simp only[bN,Bool.and_eq_true] at h
  exact⟨cs.take a.size,cs.drop a.size,by simp,kf h.1,kf h.2⟩
 | .arr n e,cs,h=>by
  simp only[bN,Bool.and_eq_true,decide_eq_true_eq,List.all_eq_true,List.mem_range] at h
  obtain⟨hl,h⟩:=h
  refine⟨by simp[Kind.zero],(List.range n).map fun i=>bM cs (i*e.size) e.size,Ec n e.size cs hl,?_⟩
  refine All2.of_get (by simp[Kind.zero]) fun i a b ha hb=>?_
  have hi:i<n:=by have:=(List.getElem?_eq_some_iff.1 ha).1;simpa[Kind.zero] using this
  have ha':a=e.zero:=by
   have:(List.replicate n e.zero)[i]?=some e.zero:=by simp[hi]
   have h2:(List.replicate n e.zero)[i]?=some a:=ha
   rw[this] at h2;exact(Option.some.inj h2).symm
  have hb':b=bM cs (i*e.size) e.size:=by simp[hi] at hb;exact hb.symm
  rw[ha',hb']
  exact kf (h i hi)
 | .sl e,cs,h=>by
  match cs with
  | [.slice none 0 0]=>exact⟨none,0,rfl,Nat.le_refl _,fun h=>absurd h (Nat.lt_irrefl _)⟩
  | []=>simp[bN] at h
  | v::_::_=>simp[bN] at h
  | [.slice (some _) _ _]|[.slice none (_+1) _]|[.slice none 0 (_+1)]|[.bool _]|[.int _ _]|[.float _ _]|[.complex _ _ _]|[.string _]|[.pointer _]|[.map _]|[.chan _]|[.func _ _ _]|[.nilFunc]|[.iface _ _]|[.nilIface]|[.agg _]|[.tuple _]=>simp[bN] at h
theorem aO.zero{P:Program}{E:Env A}(T:aO P E){t:TypeId}{i:TI}(h:E.ty.lookup t=some i)(w:World)(X:Cx) :
  ∃ z,(zeroValue t).run P w=.ok z w∧aE X (.p i.K i.K.zero) z∧RP X.F X.w i.K i.K.zero z.cells.toList:=by
 obtain⟨inf,d,h1,_⟩:=T.info h
 have:=T t i h
 unfold ke at this
 rw[h1] at this
 split at this
 ·rename_i inf' d' h3 h4
  cases h3
  simp only[Bool.and_eq_true] at this
  have hz:=this.1.1.2
  split at hz
  ·rename_i cs hcs
   simp only[Bool.and_eq_true] at hz
   have hr:=kf (F:=X.F) (w:=X.w) hz.2.1
   exact⟨.agg cs,by simp[zeroValue,typeInfo,h1,hcs],.inr ⟨cs.toList,hr,.inl ⟨hz.1,by simp⟩⟩,hr⟩
  ·rename_i z hz1 hz2
   simp only[Bool.and_eq_true,Bool.not_eq_true'] at hz
   have hr:=kf (F:=X.F) (w:=X.w) hz.2.1
   refine⟨z,by simp[zeroValue,typeInfo,h1,hz2],.inr ⟨[z],hr,.inr ⟨hz.1.1,rfl⟩⟩,?_⟩
   have e:z.cells.toList=[z]:=by
    have:=hz.1.2
    cases z<;>first|rfl|(simp[Value.oneCell'] at this)
   rw[e];exact hr
  ·cases hz
 ·cases this
end Go.Ev
namespace Go.Ev
structure At(X:Cx)(a:Act)(o:Oper)(ev:Operand→AV)(sub:List (Nat×Blk)):Prop where
 opr:∀ x,x∈o.op.operands→RS X (ev x) (a.eval x)
 ok:Ok X
 glo:∀ g,RS X (ev (.global g)) (.pointer (some ⟨g,0,none⟩))
 sub:∀ (id:Nat) (b:Blk),sub.lookup id=some b→X.hp[id]?=some b
def aL(P:Program)(o:Oper)(ev:Operand→AV)(sub:List (Nat×Blk))(fresh:Nat)(v:AV)(l:List (Nat×Blk)):Prop:=
 (∀ q,q∈l→fresh≤q.1∨∃ c,sub.lookup q.1=some c)∧
 ∀ (X:Cx) (a:Act) (K:Act→World→Prop) (Q:Exit→Act→World→Prop),At X a o ev sub→(∀ q,q∈l→fresh≤q.1→X.unused q.1)→
  (∀ (Y:Cx) (u:Value),Y.hp=aR X.hp l→RS Y v u→Ok Y→WEvo X Y→HEvo X Y→K (a.put o.dst u) Y.w)→o.wp P a X.w K Q
theorem aZ{P:Program}{o:Oper}{ev:Operand→AV}{sub:List (Nat×Blk)}{fresh:Nat}{v:AV}(h:∀ (X:Cx) (a:Act),At X a o ev sub→∃ u,(execOp a.eval o).run P X.w=.ok (.value u) X.w∧RS X v u):aL P o ev sub fresh v []:=
 ⟨by simp,fun X a K Q at_ _ hk=>by
  obtain⟨u,hr,hv⟩:=h X a at_
  unfold Oper.wp;rw[hr]
  exact hk X u rfl hv at_.ok (.refl X) (.refl X)⟩
theorem V9{P:Program}{o:Oper}{ev:Operand→AV}{sub:List (Nat×Blk)}{fresh:Nat}{v:AV}{B:Blk}(h:∀ (X:Cx) (a:Act),At X a o ev sub→X.unused fresh→∃ (u:Value) (q:Option Nat) (w':World),(execOp a.eval o).run P X.w=.ok (.value u) w'∧
   w'.os=X.w.os∧w'.tape=X.w.tape∧w'.output=X.w.output∧X.w.heap.size≤w'.heap.size∧(∀ k,k<X.w.heap.size→w'.heap[k]?=X.w.heap[k]?)∧(B.isOb=true→q=none)∧(∀ n,q=some n→X.w.heap.size≤n)∧
   ∀ Y:Cx,Y=⟨bK X.ρ fresh q,aC X.hp fresh B,X.F,w'⟩→WEvo X Y→HEvo X Y→RB Y fresh B∧RS Y v u):aL P o ev sub fresh v [(fresh,B)]:=
 ⟨by simp,fun X a K Q at_ hu hk=>by
  have hun:=hu (fresh,B) (by simp) (Nat.le_refl _)
  obtain⟨u,q,w',hr,h1,h2,h3,h4,h5,h8,h6,h7⟩:=h X a at_ hun
  obtain⟨o1,o2,o3⟩:=MU at_.ok hun (B:=B) (q:=q) (w':=w') (Y:=⟨bK X.ρ fresh q,aC X.hp fresh B,X.F,w'⟩) rfl h1 h2 h3 h4 h5 h8 h6 fun W H=>(h7 _ rfl W H).1
  unfold Oper.wp;rw[hr]
  exact hk ⟨bK X.ρ fresh q,aC X.hp fresh B,X.F,w'⟩ u rfl (h7 _ rfl o2 o3).2 o1 o2 o3⟩
theorem wh{P:Program}{o:Oper}{ev:Operand→AV}{sub:List (Nat×Blk)}{fresh:Nat}{v:AV}{B:Blk}(h:∀ (X:Cx) (a:Act),At X a o ev sub→X.unused fresh→∃ (u:Value) (q:Option Nat) (w':World),(execOp a.eval o).run P X.w=.ok (.value u) w'∧
   w'.os=X.w.os∧w'.tape=X.w.tape∧w'.output=X.w.output∧X.w.heap.size≤w'.heap.size∧(∀ k,k<X.w.heap.size→w'.heap[k]?=X.w.heap[k]?)∧(∀ n,q=some n→X.w.heap.size≤n)∧
   ∀ Y:Cx,Y=⟨bK X.ρ fresh q,aC X.hp fresh B,X.F,w'⟩→WEvo X Y→HEvo X Y→RB Y fresh B∧RS Y v u)(hB:B.isOb=false:=by rfl):aL P o ev sub fresh v [(fresh,B)]:=
 V9 fun X a at_ hu=>by
  obtain⟨u,q,w',hr,h1,h2,h3,h4,h5,h6,h7⟩:=h X a at_ hu
  exact⟨u,q,w',hr,h1,h2,h3,h4,h5,(fun h=>by rw[hB] at h;cases h),h6,h7⟩
variable{A:Type}
theorem lz{X:Cx}{id:Nat}{v:Value}{e:TypeId}{K:Kind}{xs:List K.den}(h:X.hp[id]?=some (.row e K xs)):R1 X (.row id) v↔((X.ρ id=none∧xs.length=0∧v=.slice none 0 0)∨
  (∃ b cap cur,X.ρ id=some b∧v=.slice (some ⟨b,0,none⟩) xs.length cap∧ce X.w b cur e∧cur.size=cap*K.size∧xs.length≤cap)):=by
 simp only[R1];rw[h]
theorem lA{X:Cx}{id lo len:Nat}{v:Value}{e:TypeId}{K:Kind}{xs:List K.den}(h:X.hp[id]?=some (.row e K xs)):R1 X (.sub id lo len) v ↔
  (lo+len≤xs.length∧∃ ao c,v=.slice ao len c∧len≤c∧(0<len→∃ b,X.ρ id=some b∧ao=some ⟨b,lo*K.size,none⟩)):=by
 simp only[R1];rw[h]
theorem jt{X:Cx}{id:Nat}{path:List Hop}{v:Value}{t:TypeId}{K:Kind}{av:AV}(h:X.hp[id]?=some (.var t K av)):R1 X (.ptr id path) v ↔
  ∃ b off K',X.ρ id=some b∧az K path=some (off,K')∧v=.pointer (some ⟨b,off,none⟩):=by
 simp only[R1];rw[h]
theorem ng{X:Cx}{id:Nat}{path:List Hop}{v:Value}{e:TypeId}{K:Kind}{xs:List K.den}(h:X.hp[id]?=some (.row e K xs)):R1 X (.ptr id path) v ↔
  ∃ b i r off K',path=.idx i::r∧i<xs.length∧X.ρ id=some b∧az K r=some (off,K')∧v=.pointer (some ⟨b,i*K.size+off,none⟩):=by
 simp only[R1];rw[h]
theorem nh{X:Cx}{id lo len:Nat}{path:List Hop}{v:Value}{t:TypeId}{K:Kind}{av:AV}(h:X.hp[id]?=some (.var t K av)):R1 X (.slc id path lo len) v ↔
  ∃ b off n e,X.ρ id=some b∧az K path=some (off,.arr n e)∧lo+len≤n∧∃ ao c,v=.slice ao len c∧len≤c∧(0<len→ao=some ⟨b,off+lo*e.size,none⟩):=by
 simp only[R1];rw[h]
theorem ly{X:Cx}{id:Nat}{v:Value}{KK KV:Kind}{es:List (KK.den×KV.den)}(h:X.hp[id]?=some (.map KK KV es)):R1 X (.mp id) v↔∃ b,X.ρ id=some b∧v=.map (some b):=by
 simp only[R1];rw[h]
theorem Oa{X:Cx}{id:Nat}{v:Value}{KK KV:Kind}{es:List (KK.den×KV.den)}{x:KK.den}{g:Nat}(h:X.hp[id]?=some (.ment KK KV es x g)):R1 X (.mp id) v↔∃ b,X.ρ id=some b∧v=.map (some b):=by
 simp only[R1];rw[h]
theorem Ob{X:Cx}{id:Nat}{v:Value}(h:X.hp[id]?=some .stp):R1 X (.mp id) v↔∃ n:Nat,X.ρ id=some n∧v=goInt n:=by
 simp only[R1];rw[h]
theorem RS.row_new{Y:Cx}{id b cap:Nat}{e:TypeId}{K:Kind}{xs:List K.den}{cur:Array Value}(h1:Y.hp[id]?=some (.row e K xs))(h2:Y.ρ id=some b)(h3:ce Y.w b cur e)(h4:cur.size=cap*K.size)(h5:xs.length≤cap):RS Y (.row id) (.slice (some ⟨b,0,none⟩) xs.length cap):=
 (RS.one (by simp) (by simp) (by simp) (by simp)).2 ((lz h1).2 (.inr ⟨b,cap,cur,h2,rfl,h3,h4,h5⟩))
theorem RS.row_nil{Y:Cx}{id:Nat}{e:TypeId}{K:Kind}{xs:List K.den}(h1:Y.hp[id]?=some (.row e K xs))(h2:Y.ρ id=none)(h3:xs.length=0):RS Y (.row id) (.slice none 0 0):=
 (RS.one (by simp) (by simp) (by simp) (by simp)).2 ((lz h1).2 (.inl ⟨h2,h3,rfl⟩))
theorem nb{X:Cx}{id:Nat}{v:Value}{t:TypeId}{K:Kind}{o:OKd}{xs:List o.den}{oh:Option (Nat×AV)}(h:X.hp[id]?=some (.ob t K o xs oh)):R1 X (.row id) v↔((X.ρ id=none∧xs.length=0∧v=.slice none 0 0)∨
  (∃ p cap cur,X.ρ id=some p∧v=.slice (some ⟨br p,0,none⟩) xs.length cap∧X.w.heap[br p]?=some (.cells cur t (0,0))∧cur.size=cap*K.size∧xs.length≤cap)):=by
 simp only[R1];rw[h]
theorem tF{X:Cx}{id:Nat}{path:List Hop}{v:Value}{t:TypeId}{K:Kind}{o:OKd}{xs:List o.den}{oh:Option (Nat×AV)}(h:X.hp[id]?=some (.ob t K o xs oh)):R1 X (.ptr id path) v ↔
  ∃ p i r off K',path=.idx i::r∧i<xs.length∧X.ρ id=some p∧az K r=some (off,K')∧v=.pointer (some ⟨br p,i*K.size+off,none⟩):=by
 simp only[R1];rw[h]
theorem VX{E:Env A}{Y:Cx}{id:Nat}{e:TypeId}{K:Kind}(h1:Y.hp[id]?=some (E.nilRow e K))(h2:Y.ρ id=none):RB Y id (E.nilRow e K)∧RS Y (.row id) (.slice none 0 0):=by
 unfold Env.nilRow at h1 ⊢
 split at h1
 ·exact⟨.inl ⟨h2,rfl,rfl⟩,(RS.one (by simp) (by simp) (by simp) (by simp)).2 ((nb h1).2 (.inl ⟨h2,rfl,rfl⟩))⟩
 ·exact⟨.inl ⟨h2,rfl⟩,RS.row_nil h1 h2 rfl⟩
theorem RS.ptr_new{Y:Cx}{id b:Nat}{t:TypeId}{K:Kind}{v:AV}(h1:Y.hp[id]?=some (.var t K v))(h2:Y.ρ id=some b):RS Y (.ptr id []) (.pointer (some ⟨b,0,none⟩)):=
 (RS.one (by simp) (by simp) (by simp) (by simp)).2 ((jt h1).2 ⟨b,0,K,h2,cL K,rfl⟩)
section
variable{P:Program}{E:Env A}(T:aO P E){o:Oper}{ev:Operand→AV}{sub:List (Nat×Blk)}{fresh:Nat}{k:bX A}{out:A}
include T
theorem VS{x:Operand}(ho:o.op=.move x∨o.op=.assign x)(h:MR E o.dst o.type ev x fresh k=some out):∃ v l,k v l=some out∧aL P o ev sub fresh v l:=by
 have hx:∀ a:Act,∀ w,(execOp a.eval o).run P w=.ok (.value (a.eval x)) w:=by
  intro a w;rcases ho with ho|ho<;>simp[execOp,ho]
 have hm:x∈o.op.operands:=by rcases ho with ho|ho<;>simp[Op.operands,ho]
 unfold MR at h
 split at h
 ·obtain⟨i,hi,h⟩:=bq h
  split at h
  ·rename_i e he
   obtain⟨j,hj,h⟩:=bq h
   cases hb:E.nilAt o.dst with
   | true=>
    rw[hb] at h
    exact⟨_,_,h,aZ fun X a at_=>⟨.slice none 0 0,hx a X.w,.inr ⟨[.slice none 0 0],⟨none,0,rfl,Nat.le_refl _,fun h=>absurd h (by simp)⟩,.inr ⟨rfl,rfl⟩⟩⟩⟩
   | false=>
   rw[hb] at h
   refine⟨_,_,h,V9 fun X a at_ _=>⟨_,none,X.w,hx a X.w,rfl,rfl,rfl,Nat.le_refl _,fun _ _=>rfl,(fun _=>rfl),(fun _ h=>nomatch h),fun Y hY W H=>?_⟩⟩
   subst hY
   exact VX (dh ..) (ck ..)
  ·cases h
 ·exact⟨_,_,h,aZ fun X a at_=>⟨_,hx a X.w,at_.opr _ hm⟩⟩
omit T in
theorem akX{c x y:Operand}(ho:o.op=.pick c x y)(h:(match ev c with|.p .bool t=>(bif t then k (ev x) [] else k (ev y) [])|_=>none)=some out) :
  ∃ v l,k v l=some out∧aL P o ev sub fresh v l:=by
 split at h
 ·rename_i t hc
  have key:∀ z,(z=if t then x else y)→aL P o ev sub fresh (ev z) []:=fun z hz=>aZ fun X a at_=>by
   have h1:=at_.opr c (by simp[Op.operands,ho])
   rw[hc,RS.bool] at h1
   refine⟨a.eval z,?_,at_.opr z (by subst hz;cases t<;>simp[Op.operands,ho])⟩
   subst hz
   cases t<;>simp[execOp,ho,h1,asBool]
  cases t
  ·exact⟨_,_,by simpa using h,key y (by simp)⟩
  ·exact⟨_,_,by simpa using h,key x (by simp)⟩
 ·cases h
omit T in
theorem aaz{t:TypeId}{x:Operand}(ho:o.op=.box t x)(h:(E.ti t fun i=>if (ev x).isAny then none else if (ev x).fits i.K then k (.ptr fresh []) [(fresh,.var t i.K (ev x))] else none)=some out) :
  ∃ v l,k v l=some out∧aL P o ev sub fresh v l:=by
 obtain⟨i,hi,h⟩:=bq h
 split at h
 ·cases h
 ·rename_i hna
  split at h
  ·rename_i hf
   have hna':(ev x).isAny=false:=by simpa using hna
   have htup:∀ vs,ev x≠.tup vs:=fun vs e=>by rw[e] at hf;cases hK:i.K<;>simp[AV.fits] at hf
   refine⟨_,_,h,wh fun X a at_ _=>?_⟩
   have h1:=at_.opr x (by simp[Op.operands,ho])
   have h1:aE X (ev x) (a.eval x):=by revert h1 htup;cases ev x<;>intro htup h1<;>first|exact h1|exact absurd rfl (htup _)
   obtain⟨cs,hcs,hcells⟩:=h1.cells hna'
   refine⟨.pointer (some ⟨X.w.heap.size,0,none⟩),some X.w.heap.size,X.w.alloc (.cells cs.toArray t),?_,rfl,rfl,rfl,by simp,fun n hn=>heap_alloc_old X.w _ hn,fun n hn=>(Option.some.inj hn)▸Nat.le_refl _,fun Y hY W H=>?_⟩
   ·simp[execOp,ho,Instr.box,newVar,newRow,hcells]
   ·subst hY
    exact⟨⟨hf,X.w.heap.size,cs,ck ..,heap_alloc_new X.w _,hcs.evo W H at_.ok.fo⟩,RS.ptr_new (dh ..) (ck ..)⟩
  ·cases h
end
section
variable{P:Program}{E:Env A}{o:Oper}{ev:Operand→AV}{sub:List (Nat×Blk)}{fresh:Nat}{k:bX A}{out:A}
theorem Eu{op:BinOp}{t:TypeId}{x y:Operand}{q q':IntKind}{a b:Int}(w:World):(eqGuard op t x y (.int q a) (.int q' b)).run P w=.ok () w:=by
 cases op<;>simp[eqGuard]
theorem Ew{op:BinOp}{t:TypeId}{x y:Operand}{a b:ByteArray}(w:World):(eqGuard op t x y (.string a) (.string b)).run P w=.ok () w:=by
 cases op<;>simp[eqGuard]
theorem QC{op:BinOp}{t:TypeId}{x y:Operand}{a b:Bool}(w:World):(eqGuard op t x y (.bool a) (.bool b)).run P w=.ok () w:=by
 cases op<;>simp[eqGuard]
theorem ajV {op : BinOp} {q : IntKind} {a b : Int} {c : AV → Option A} (hs : op ≠ .shl ∧ op ≠ .shr) (h : MA op q a b c = some out) :
    ∃ v,c v = some out ∧ ∀ (t : TypeId) (w : World) (X : Cx),∃ u,(binOp op t (.int q a) (.int q b)).run P w = .ok u w ∧ RS X v u := by
  cases op <;> simp only [MA] at h <;> first
    | exact absurd rfl hs.1
    | exact absurd rfl hs.2
    | (cases h; done)
    | (split at h
       · cases h
       · rename_i hb
         refine ⟨_,h,fun t w X => ⟨_,?_,RS.int.2 rfl⟩⟩
         simp [binOp,Op.intDiv,hb])
    | exact ⟨_,h,fun t w X => ⟨_,by simp [binOp,Op.intArith,Ct,vV,CA,Vc] <;> rfl,RS.int.2 rfl⟩⟩
    | exact ⟨_,h,fun t w X => ⟨_,by simp only [Ct,vV,CA,Vc]; simp [binOp,Op.intBits] <;> rfl,RS.int.2 rfl⟩⟩
    | exact ⟨_,h,fun t w X => ⟨_,by simp [binOp,Op.intCmp] <;> rfl,RS.bool.2 rfl⟩⟩
theorem amW {op : BinOp} {a b : ByteArray} {c : AV → Option A} (h : NN op a b c = some out) :
    ∃ v,c v = some out ∧ ∀ (t : TypeId) (w : World) (X : Cx),∃ u,(binOp op t (.string a) (.string b)).run P w = .ok u w ∧ RS X v u := by
  cases op <;> simp only [NN] at h <;> first
    | (cases h; done)
    | (split at h
       · rename_i hb
         refine ⟨_,h,fun t w X => ⟨_,?_,RS.str.2 rfl⟩⟩
         have : ¬ ((a.size + b.size : Nat) : Int) > IntKind.i64.max := by
           have e : IntKind.i64.max = 9223372036854775807 := by decide
           rw [e]; omega
         simp only [binOp,Op.stringOp]
         rw [if_neg this]; rfl
       · cases h)
    | exact ⟨_,h,fun t w X => ⟨_,by simp [binOp,Op.stringOp] <;> rfl,RS.bool.2 rfl⟩⟩
end
end Go.Ev
namespace Go.Ev
theorem aby{cs:List Value}{off:Nat}{v:Value}(h:bM cs off 1=[v]):cs[off]?=some v:=by
 have:(bM cs off 1)[0]?=some v:=by rw[h];rfl
 simpa[bM] using this
theorem ja{cs:List Value}{off n j:Nat}{v:Value}(h:(bM cs off n)[j]?=some v):cs[off+j]?=some v:=by
 simp only[bM,List.getElem?_take] at h
 split at h
 ·simpa using h
 ·cases h
theorem UT{av:AV}{K:Kind}(h:av.fits K=true)(ha:K.isAgg=false):K.size=1:=by
 cases K<;>simp[Kind.isAgg] at ha<;>rfl
theorem toList_inj{a b:ByteArray}:a.toList=b.toList↔a=b:=by
 rw[ByteArray.toList_eq,ByteArray.toList_eq]
 constructor
 ·intro h;obtain⟨a⟩:=a;obtain⟨b⟩:=b;congr 1;exact Array.ext' h
 ·rintro rfl;rfl
variable{A:Type}
section
variable{P:Program}{E:Env A}(T:aO P E){X:Cx}
include T
theorem mT{t:TypeId}{i:TI}(hi:E.ty.lookup t=some i){y:AV}{cs:List Value}{off:Nat}(hf:y.fits i.K=true)(h:RA X y (bM cs off i.K.size))(w:World) :
  ∃ v,(part t cs.toArray off).run P w=.ok v w∧aE X y v:=by
 cases ha:i.K.isAgg with
 | true=>
  refine⟨.agg (bM cs off i.K.size).toArray,?_,?_⟩
  ·simp[part,T.agg hi,ha,T.runSize hi]
   rfl
  ·cases hy:y.isAny with
   | true=>exact .inl hy
   | false=>exact .inr ⟨_,h,.inl ⟨by rw[sU hf hy,ha],rfl⟩⟩
 | false=>
  have h1:=UT hf ha
  have hl:=RA.length hf h
  rw[h1] at h hl
  match hc:bM cs off 1,hl with
  | [v],_=>
   have h2:=aby hc
   refine⟨v,?_,?_⟩
   ·simp[part,T.agg hi,ha,h2]
   ·cases hy:y.isAny with
    | true=>exact .inl hy
    | false=>exact .inr ⟨[v],by rw[hc] at h;exact h,.inr ⟨by rw[sU hf hy,ha],rfl⟩⟩
theorem v5{t:TypeId}{i:TI}(hi:E.ty.lookup t=some i){y:AV}{cs:List Value}{ad:Addr}(hf:y.fits i.K=true)(h:RA X y cs){w:World}(hc:∀ j u,cs[j]?=some u→w.cell? (ad.add j)=some u):∃ v,(loadVar t ad).run P w=.ok v w∧aE X y v:=by
 have hl:=RA.length hf h
 cases ha:i.K.isAgg with
 | true=>
  refine⟨.agg cs.toArray,?_,?_⟩
  ·have:=run_loadCells_list (P:=P) w ad cs hc
   rw[hl] at this
   simp[loadVar,T.agg hi,ha,T.runSize hi,this]
  ·cases hy:y.isAny with
   | true=>exact .inl hy
   | false=>exact .inr ⟨_,h,.inl ⟨by rw[sU hf hy,ha],rfl⟩⟩
 | false=>
  rw[UT hf ha] at hl
  match cs,hl with
  | [v],_=>
   have h2:w.cell? ad=some v:=hc 0 v rfl
   refine⟨v,?_,?_⟩
   ·simp[loadVar,T.agg hi,ha,h2]
   ·cases hy:y.isAny with
    | true=>exact .inl hy
    | false=>exact .inr ⟨[v],h,.inr ⟨by rw[sU hf hy,ha],rfl⟩⟩
omit T in
theorem aE.data{K:Kind}{x:K.den}{v:Value}(h:aE X (.p K x) v):∃ cs,RP X.F X.w K x cs∧((K.isAgg=true∧v=.agg cs.toArray)∨(K.isAgg=false∧cs=[v])):=by
 rcases h with h|⟨cs,h1,h2⟩
 ·cases h
 ·exact⟨cs,h1,h2⟩
theorem QE{d:Nat}{e:TypeId}{j:TI}(hj:E.ty.lookup e=some j){l1 l2:List j.K.den}{css1 css2:List (List Value)}(h1:All2 (RP X.F X.w j.K) l1 css1)(h2:All2 (RP X.F X.w j.K) l2 css2)(ih:∀ (x y:j.K.den) (a b:Value) (w:World),aE X (.p j.K x) a→aE X (.p j.K y) b→∃ r:Bool,(Op.equalIn d e a b).run P w=.ok r w∧(r=true↔x=y))(w:World) :
  ∀ is:List Nat,(∀ i∈is,i<l1.length∧i<l2.length)→∃ r:Bool,(Op.eqItems d e (P.cellsOf e) css1.flatten.toArray css2.flatten.toArray is).run P w=.ok r w∧(r=true ↔∀ i∈is,l1[i]?=l2[i]?)
 | [],_=>⟨true,by simp[Op.eqItems],by simp⟩
 | i::is,hb=>by
  obtain⟨hb1,hb2⟩:=hb i (by simp)
  obtain⟨c1,hc1,hr1⟩:=h1.get (List.getElem?_eq_getElem hb1)
  obtain⟨c2,hc2,hr2⟩:=h2.get (List.getElem?_eq_getElem hb2)
  have e1:bM css1.flatten (i*P.cellsOf e) j.K.size=c1:=by
   rw[T.cellsOf hj]
   have:=sV h1.lens hc1 (o:=0) (n:=j.K.size) (by omega)
   rw[Nat.add_zero] at this
   rw[this,cX _ (RP.length hr1).symm]
  have e2:bM css2.flatten (i*P.cellsOf e) j.K.size=c2:=by
   rw[T.cellsOf hj]
   have:=sV h2.lens hc2 (o:=0) (n:=j.K.size) (by omega)
   rw[Nat.add_zero] at this
   rw[this,cX _ (RP.length hr2).symm]
  obtain⟨a,p1,f1⟩:=mT T hj (X:=X) (y:=.p j.K l1[i]) (by simp[AV.fits]) (by rw[e1];exact hr1) w
  obtain⟨b,p2,f2⟩:=mT T hj (X:=X) (y:=.p j.K l2[i]) (by simp[AV.fits]) (by rw[e2];exact hr2) w
  obtain⟨r,hr,hiff⟩:=ih _ _ a b w f1 f2
  obtain⟨r',hr',hiff'⟩:=QE hj h1 h2 ih w is fun i hi=>hb i (by simp[hi])
  simp only[Op.eqItems,Sem.run_bind,p1,p2,hr,Result.andThen_ok]
  cases r
  ·refine⟨false,by simp,by simp;intro h;exact absurd h (by simpa[List.getElem?_eq_getElem hb1,List.getElem?_eq_getElem hb2] using hiff)⟩
  ·refine⟨r',by simpa using hr',?_⟩
   rw[hiff']
   have:=hiff.1 rfl
   simp[List.getElem?_eq_getElem hb1,List.getElem?_eq_getElem hb2,this]
theorem QB{d:Nat}{cs1 cs2:List Value}{Q:TypeId→Prop}(ih:∀ (t:TypeId) (i:TI),E.ty.lookup t=some i→Q t→∀ (x y:i.K.den) (a b:Value) (w:World),aE X (.p i.K x) a→aE X (.p i.K y) b→∃ r:Bool,(Op.equalIn d t a b).run P w=.ok r w∧(r=true↔x=y))(w:World) :
  ∀ (fs:List Field) (ts:List TypeId) (K:Kind) (off:Nat) (x y:K.den),aA E.ty fs ts K off=true→(∀ f∈fs,f.name≠ "_"∧Q f.type)→
   RP X.F X.w K x (cs1.drop off)→RP X.F X.w K y (cs2.drop off)→∃ r:Bool,(Op.eqFields d cs1.toArray cs2.toArray fs).run P w=.ok r w∧(r=true↔x=y)
 | [],[],.unit,off,x,y,_,_,_,_=>⟨true,by simp[Op.eqFields],by simp⟩
 | f::fs,t::ts,.pair a b,off,x,y,hb,hn,hx,hy=>by
  simp only[aA,Bool.and_eq_true,beq_iff_eq,decide_eq_true_eq] at hb
  obtain⟨⟨⟨⟨rfl,rfl⟩,hpos⟩,hl⟩,hb⟩:=hb
  obtain⟨j,hj,hjK⟩:∃ j,E.ty.lookup f.type=some j∧j.K=a:=by
   cases h:E.ty.lookup f.type with
   | none=>rw[h] at hl;cases hl
   | some j=>rw[h] at hl;exact⟨j,rfl,by simpa using hl⟩
  subst hjK
  obtain⟨c1,c1',e1,hx1,hx2⟩:=hx
  obtain⟨c2,c2',e2,hy1,hy2⟩:=hy
  have l1:=RP.length hx1;have l2:=RP.length hy1
  have q1:bM cs1 f.offset j.K.size=c1:=by unfold bM;rw[e1,← l1];simp
  have q2:bM cs2 f.offset j.K.size=c2:=by unfold bM;rw[e2,← l2];simp
  have d1:cs1.drop (f.offset+j.K.size)=c1':=by rw[← List.drop_drop,e1,← l1];simp
  have d2:cs2.drop (f.offset+j.K.size)=c2':=by rw[← List.drop_drop,e2,← l2];simp
  obtain⟨a1,p1,f1⟩:=mT T hj (X:=X) (y:=.p j.K x.1) (by simp[AV.fits]) (by rw[q1];exact hx1) w
  obtain⟨a2,p2,f2⟩:=mT T hj (X:=X) (y:=.p j.K y.1) (by simp[AV.fits]) (by rw[q2];exact hy1) w
  obtain⟨hn1,hn2⟩:=hn f (by simp)
  obtain⟨r,hr,hiff⟩:=ih f.type j hj hn2 _ _ a1 a2 w f1 f2
  obtain⟨r',hr',hiff'⟩:=QB ih w fs ts b _ x.2 y.2 hb (fun g hg=>hn g (by simp[hg])) (by rw[d1];exact hx2) (by rw[d2];exact hy2)
  simp only[Op.eqFields,if_pos hn1,Sem.run_bind,p1,p2,hr,Result.andThen_ok]
  have hp:x=y↔x.1=y.1∧x.2=y.2:=Prod.ext_iff
  cases r
  ·refine⟨false,by simp,?_⟩
   rw[hp];constructor
   ·intro h;cases h
   ·rintro⟨h,_⟩;exact hiff.2 h
  ·refine⟨r',by simpa using hr',?_⟩
   rw[hiff',hp];simp[hiff.1 rfl]
 | [],_::_,_,_,_,_,hb,_,_,_=>by simp[aA] at hb
 | _::_,[],_,_,_,_,hb,_,_,_=>by simp[aA] at hb
 | [],[],.int _,_,_,_,hb,_,_,_=>by simp[aA] at hb
 | [],[],.bool,_,_,_,hb,_,_,_=>by simp[aA] at hb
 | [],[],.str,_,_,_,hb,_,_,_=>by simp[aA] at hb
 | [],[],.opq,_,_,_,hb,_,_,_=>by simp[aA] at hb
 | [],[],.pair _ _,_,_,_,hb,_,_,_=>by simp[aA] at hb
 | [],[],.arr _ _,_,_,_,hb,_,_,_=>by simp[aA] at hb
 | [],[],.sl _,_,_,_,hb,_,_,_=>by simp[aA] at hb
 | _::_,_::_,.int _,_,_,_,hb,_,_,_=>by simp[aA] at hb
 | _::_,_::_,.bool,_,_,_,hb,_,_,_=>by simp[aA] at hb
 | _::_,_::_,.str,_,_,_,hb,_,_,_=>by simp[aA] at hb
 | _::_,_::_,.opq,_,_,_,hb,_,_,_=>by simp[aA] at hb
 | _::_,_::_,.unit,_,_,_,hb,_,_,_=>by simp[aA] at hb
 | _::_,_::_,.arr _ _,_,_,_,hb,_,_,_=>by simp[aA] at hb
 | _::_,_::_,.sl _,_,_,_,hb,_,_,_=>by simp[aA] at hb
theorem ui:∀ (m:Nat) (t:TypeId) (i:TI),E.ty.lookup t=some i→P.keyTypeAt m t=true→∀ (d:Nat) (x y:i.K.den) (a b:Value) (w:World),
  aE X (.p i.K x) a→aE X (.p i.K y) b→∃ r:Bool,(Op.equalIn (d+m) t a b).run P w=.ok r w∧(r=true↔x=y)
 | 0,_,_,_,hk=>by simp[Program.keyTypeAt] at hk
 | m+1,t,i,hi,hk=>by
  intro d x y a b w ha hb
  obtain⟨ds,hu,hd⟩:=T.desc hi
  obtain⟨K,td,by',cm⟩:=i
  simp only at x y ha hb hd
  simp only[Program.keyTypeAt,hu] at hk
  obtain⟨c1,r1,v1⟩:=ha.data
  obtain⟨c2,r2,v2⟩:=hb.data
  cases ds with
  | bool=>
   cases td<;>cases K<;>simp at hd
   simp only[RP] at r1 r2;subst r1;subst r2
   rcases v1 with ⟨h,_⟩|⟨_,h1⟩;· cases h
   rcases v2 with ⟨h,_⟩|⟨_,h2⟩;· cases h
   simp at h1 h2;subst h1;subst h2
   exact⟨_,run_equalIn_bool' w (d+m) t _ _ hu,by simp⟩
  | int k=>
   cases td<;>cases K<;>simp at hd
   simp only[RP] at r1 r2;subst r1;subst r2
   rcases v1 with ⟨h,_⟩|⟨_,h1⟩;· cases h
   rcases v2 with ⟨h,_⟩|⟨_,h2⟩;· cases h
   simp at h1 h2;subst h1;subst h2
   exact⟨_,run_equalIn_int w (d+m) t _ k _ _ hu,by simp⟩
  | string=>
   cases td<;>cases K<;>simp at hd
   simp only[RP] at r1 r2;subst r1;subst r2
   rcases v1 with ⟨h,_⟩|⟨_,h1⟩;· cases h
   rcases v2 with ⟨h,_⟩|⟨_,h2⟩;· cases h
   simp at h1 h2;subst h1;subst h2
   exact⟨_,run_equalIn_string w (d+m) t _ _ hu,by rw[beq_iff_eq];exact toList_inj⟩
  | array n e=>
   cases td<;>cases K<;>simp at hd
   rename_i n' e' n'' Ke
   obtain⟨⟨⟨rfl,rfl⟩,rfl⟩,hd⟩:=hd
   obtain⟨j,hj,hjK⟩:∃ j,E.ty.lookup e=some j∧j.K=Ke:=by
    cases h:E.ty.lookup e with
    | none=>rw[h] at hd;simp at hd
    | some j=>rw[h] at hd;simp at hd;exact⟨j,rfl,hd.1⟩
   subst hjK
   obtain⟨hl1,css1,rfl,q1⟩:=r1
   obtain⟨hl2,css2,rfl,q2⟩:=r2
   have h1:=v1.elim (·.2) fun h=>absurd h.1 (by simp[Kind.isAgg])
   have h2:=v2.elim (·.2) fun h=>absurd h.1 (by simp[Kind.isAgg])
   subst h1;subst h2
   obtain⟨inf,_,hinf,_⟩:=T.info hj
   obtain⟨r,hr,hiff⟩:=QE T hj q1 q2 (fun x y a b w ha hb=>ui m e j hj hk d x y a b w ha hb) w (List.range n) (fun i hi=>by simp at hi;exact⟨by rw[hl1];exact hi,by rw[hl2];exact hi⟩)
   refine⟨r,by rw[show d+(m+1)=(d+m)+1 from rfl,run_equalIn_array w (d+m) _ _ hu hinf];exact hr,hiff.trans ⟨fun h=>?_,fun h=>by subst h;intro i _;rfl⟩⟩
   apply List.ext_getElem?
   intro i
   by_cases hi:i<n
   ·exact h i (by simpa using hi)
   ·rw[List.getElem?_eq_none (by rw[hl1];omega),List.getElem?_eq_none (by rw[hl2];omega)]
  | struct fs=>
   simp only[Bool.and_eq_true,Bool.not_eq_true'] at hk
   cases td with
   | struct ts=>
    have hd:aA E.ty fs.toList ts K 0=true:=hd
    have hag:K.isAgg=true:=by
     cases hf:fs.toList<;>cases ts<;>cases K<;>simp[hf,aA] at hd<;>rfl
    have h1:=v1.elim (·.2) fun h=>absurd h.1 (by rw[hag];simp)
    have h2:=v2.elim (·.2) fun h=>absurd h.1 (by rw[hag];simp)
    subst h1;subst h2
    have hfs:P.fieldsOf t=fs:=by simp[Program.fieldsOf,hu]
    obtain⟨r,hr,hiff⟩:=QB T (d:=d+m) (cs1:=c1) (cs2:=c2) (Q:=fun t=>P.keyTypeAt m t=true) (fun t i hi hk' x y a b w ha hb=>ui m t i hi hk' d x y a b w ha hb) w fs.toList ts K 0 x y hd (fun f hf=>by
     have:=Array.all_eq_true_iff_forall_mem.1 hk.1.1 f (Array.mem_toList_iff.1 hf)
     simp only[Bool.and_eq_true,bne_iff_ne,ne_eq] at this
     exact⟨this.1,this.2⟩) (by simpa using r1) (by simpa using r2)
    exact⟨r,by rw[show d+(m+1)=(d+m)+1 from rfl,run_equalIn_struct w (d+m) t _ _ (by rw[hfs];exact hu) hk.2,hfs];exact hr,hiff⟩
   | prim=>cases K<;>simp at hd
   | slice _=>cases K<;>simp at hd
   | array _ _=>cases K<;>simp at hd
   | map _ _=>cases K<;>simp at hd
   | ptr _=>cases K<;>simp at hd
   | other=>cases K<;>simp at hd
  | _=>simp at hk
end
end Go.Ev
namespace Go.Ev
variable{A:Type}
theorem RS.of0{X:Cx}{av:AV}{v:Value}(h:aE X av v)(ht:∀ vs,av≠.tup vs):RS X av v:=by
 cases av<;>first|exact h|exact absurd rfl (ht _)
theorem RS.to0{X:Cx}{av:AV}{v:Value}(h:RS X av v)(ht:∀ vs,av≠.tup vs):aE X av v:=by
 cases av<;>first|exact h|exact absurd rfl (ht _)
theorem ji{av:AV}{K:Kind}(h:av.fits K=true):∀ vs,av≠.tup vs:=fun vs e=>by
 subst e;cases K<;>simp[AV.fits] at h
section
variable{P:Program}{E:Env A}(T:aO P E){o:Oper}{ev:Operand→AV}{sub:List (Nat×Blk)}{fresh:Nat}{k:bX A}{out:A}
theorem Xu{q:IntKind}{a b:Int}{yk:IntKind}{t:TypeId}(hb:¬ b<0)(w:World) :
  (binOp .shl t (.int q a) (.int yk b)).run P w=.ok (.int q (shl q a b)) w∧(binOp .shr t (.int q a) (.int yk b)).run P w=.ok (.int q (shr q a b)) w:=by
 constructor<;>simp[binOp,Op.shift,hb,shl,shr]
include T in
theorem aO.cmpKind{t:TypeId}{i:TI}(hi:E.ty.lookup t=some i)(hc:i.cmp=true)(ha:i.K.isAgg=false):(∃ q,i.K=.int q)∨i.K=.bool∨i.K=.str:=by
 obtain⟨ds,hu,hd⟩:=T.desc hi
 have hk:=(T.cmp hi hc).1
 rw[show(100:Nat)=99+1 from rfl] at hk
 unfold Program.keyTypeAt at hk
 rw[hu] at hk
 obtain⟨K,td,by',cm⟩:=i
 simp only at hd ha ⊢
 cases K with
 | int q=>exact .inl ⟨q,rfl⟩
 | bool=>exact .inr (.inl rfl)
 | str=>exact .inr (.inr rfl)
 | opq=>
  exfalso
  cases ds<;>cases td<;>first
   | (simp at hd;done)
   | (simp at hk;done)
   | (rename_i fs ts;cases hf:fs.toList<;>cases ts<;>simp[hf,aA] at hd)
 | sl e=>
  exfalso
  cases ds<;>cases td<;>first
   | (simp at hd;done)
   | (simp at hk;done)
   | (rename_i fs ts;cases hf:fs.toList<;>cases ts<;>simp[hf,aA] at hd)
 | unit=>simp[Kind.isAgg] at ha
 | pair a b=>simp[Kind.isAgg] at ha
 | arr n e=>simp[Kind.isAgg] at ha
theorem Qk{K:Kind}{x y:K.den}{r:Bool}(h:r=true↔x=y):@decide (x=y) (K.dec x y)=r:=by
 cases r
 ·exact @decide_eq_false _ (K.dec x y) fun h'=>by have:=h.2 h';cases this
 ·exact @decide_eq_true _ (K.dec x y) (h.1 rfl)
include T in
theorem abR{t:TypeId}{i:TI}(hi:E.ty.lookup t=some i)(hc:i.cmp=true){X:Cx}{x y:i.K.den}{a b:Value}(ha:aE X (.p i.K x) a)(hb:aE X (.p i.K y) b){x' y':Operand}(w:World) :
  (eqGuard .eql t x' y' a b).run P w=.ok () w∧(eqGuard .neq t x' y' a b).run P w=.ok () w∧
  (binOp .eql t a b).run P w=.ok (.bool (@decide (x=y) (i.K.dec x y))) w∧(binOp .neq t a b).run P w=.ok (.bool (!@decide (x=y) (i.K.dec x y))) w:=by
 obtain⟨hk,hg⟩:=T.cmp hi hc
 obtain⟨r,hr,hiff⟩:=ui T 100 t i hi hk 9900 x y a b w ha hb
 have hr':(Op.equalIn 10000 t a b).run P w=.ok r w:=hr
 rw[Qk hiff]
 obtain⟨c1,r1,v1⟩:=ha.data
 obtain⟨c2,r2,v2⟩:=hb.data
 rcases v1 with ⟨g1,rfl⟩|⟨g1,h1⟩
 ·rcases v2 with ⟨_,rfl⟩|⟨g2,_⟩
  ·refine⟨run_eqGuard_agg w .eql t x' y' _ _ hg,run_eqGuard_agg w .neq t x' y' _ _ hg,?_,?_⟩
   ·rw[run_eql_struct,hr'];rfl
   ·rw[run_neq_struct,hr'];rfl
  ·rw[g1] at g2;cases g2
 ·rcases v2 with ⟨g2,_⟩|⟨g2,h2⟩
  ·rw[g1] at g2;cases g2
  ·subst h1;subst h2
   have hkind:=T.cmpKind hi hc g1
   obtain⟨K,td,by',cm⟩:=i
   simp only at x y hkind r1 r2 hiff
   rcases hkind with ⟨q,rfl⟩|rfl|rfl
   ·simp only[RP] at r1 r2
    simp at r1 r2
    subst r1;subst r2
    have e:(x==y)=r:=by rw[Bool.eq_iff_iff,hiff];exact beq_iff_eq
    exact⟨Eu w,Eu w,by simp[binOp,Op.intCmp,e],by simp[binOp,Op.intCmp,bne,e]⟩
   ·simp only[RP] at r1 r2
    simp at r1 r2
    subst r1;subst r2
    exact⟨QC w,QC w,by simp[binOp,Op.equal,Op.maxDepth,hr'],by simp[binOp,Op.equal,Op.maxDepth,hr']⟩
   ·simp only[RP] at r1 r2
    simp at r1 r2
    subst r1;subst r2
    have e:(x.toList==y.toList)=r:=by rw[Bool.eq_iff_iff,hiff,beq_iff_eq];exact toList_inj
    exact⟨Ew w,Ew w,by simp only[binOp,Op.stringOp,e];rfl,by simp only[binOp,Op.stringOp,e];rfl⟩
include T in
theorem aav{op:BinOp}{t yt:TypeId}{x y:Operand}(ho:o.op=.binOp op t x y yt)(h:DU E op t (ev x) (ev y) (fun v=>k v [])=some out):∃ v l,k v l=some out∧aL P o ev sub fresh v l:=by
 have mx:x∈o.op.operands:=by simp[Op.operands,ho]
 have my:y∈o.op.operands:=by simp[Op.operands,ho]
 unfold DU at h
 split at h
 ·rename_i K x0 K' y0 ex ey
  split at h
  ·rename_i q a q' b
   have fin:∀ v:AV,(∀ (a' b':Value) (w:World) (X:Cx),a'=.int q a→b'=.int q' b→∃ u,(binOp op t a' b').run P w=.ok u w∧RS X v u)→aL P o ev sub fresh v []:=fun v hv=>aZ fun X ac at_=>by
    have h1:=at_.opr x mx;rw[ex,RS.int] at h1
    have h2:=at_.opr y my;rw[ey,RS.int] at h2
    obtain⟨u,hu,hr⟩:=hv _ _ X.w X h1 h2
    exact⟨u,by simp[execOp,ho,h1,h2,Eu];rw[← h1,← h2,hu];rfl,hr⟩
   split at h
   ·split at h
    ·cases h
    ·rename_i hb;exact⟨_,_,h,fin _ fun a' b' w X ha hb'=>⟨_,by rw[ha,hb'];exact(Xu hb w).1,RS.int.2 rfl⟩⟩
   ·split at h
    ·cases h
    ·rename_i hb;exact⟨_,_,h,fin _ fun a' b' w X ha hb'=>⟨_,by rw[ha,hb'];exact(Xu hb w).2,RS.int.2 rfl⟩⟩
   ·rename_i n1 n2
    split at h
    ·rename_i hq;subst hq
     obtain⟨v,hv,hs⟩:=ajV (P:=P) ⟨fun e=>n1 e,fun e=>n2 e⟩ h
     exact⟨_,_,hv,fin _ fun a' b' w X ha hb'=>by rw[ha,hb'];exact hs t w X⟩
    ·cases h
  ·rename_i a b
   obtain⟨v,hv,hs⟩:=amW (P:=P) h
   refine⟨_,_,hv,aZ fun X ac at_=>?_⟩
   have h1:=at_.opr x mx;rw[ex,RS.str] at h1
   have h2:=at_.opr y my;rw[ey,RS.str] at h2
   obtain⟨u,hu,hr⟩:=hs t X.w X
   exact⟨u,by simp[execOp,ho,h1,h2,Ew,hu],hr⟩
  ·rename_i n1 n2
   split at h
   ·rename_i hK;subst hK
    obtain⟨i,hi,h⟩:=bq h
    split at h
    ·rename_i hc
     simp only[Bool.and_eq_true,decide_eq_true_eq] at hc
     obtain⟨hc,rfl⟩:=hc
     have fin:∀ (b:Bool→Bool) (op':BinOp),op=op'→(op'=.eql∧b=id∨op'=.neq∧b=not)→aL P o ev sub fresh (.p .bool (b (@decide (x0=y0) (i.K.dec x0 y0)))) []:=fun bf op' hop hcase=>aZ fun X ac at_=>by
      have h1:=(at_.opr x mx);rw[ex] at h1
      have h2:=(at_.opr y my);rw[ey] at h2
      have g1:=h1.to0 (by simp)
      have g2:=h2.to0 (by simp)
      obtain⟨q1,q2,q3,q4⟩:=abR T hi hc g1 g2 (x':=x) (y':=y) X.w
      refine⟨_,?_,RS.bool.2 rfl⟩
      rcases hcase with ⟨rfl,rfl⟩|⟨rfl,rfl⟩
      ·subst hop;simp[execOp,ho,q1,q3]
      ·subst hop;simp[execOp,ho,q2,q4]
     split at h
     ·exact⟨_,_,h,fin id .eql rfl (.inl ⟨rfl,rfl⟩)⟩
     ·exact⟨_,_,h,fin not .neq rfl (.inr ⟨rfl,rfl⟩)⟩
     ·cases h
    ·cases h
   ·cases h
 ·cases h
end
theorem aj5(K:Kind):eY K []=some K:=by cases K<;>rfl
theorem jY:∀ {K:Kind} {path:List Hop} {off:Nat} {K':Kind},az K path=some (off,K')→eY K path=some K'
 | K,[],off,K',h=>by rw[cL] at h;simp at h;obtain⟨rfl,rfl⟩:=h;exact aj5 _
 | .pair a b,.fld 0::r,off,K',h=>by simpa[eY] using jY (K:=a) (path:=r) (by simpa[az] using h)
 | .pair a b,.fld (n+1)::r,off,K',h=>by
  simp only[az,Option.map_eq_some_iff,Prod.exists,Prod.mk.injEq] at h
  obtain⟨o,k,h,rfl,rfl⟩:=h
  simpa[eY] using jY h
 | .arr n e,.idx i::r,off,K',h=>by
  simp only[az] at h
  split at h
  ·simp only[Option.map_eq_some_iff,Prod.exists,Prod.mk.injEq] at h
   obtain⟨o,k,h,rfl,rfl⟩:=h
   simpa[eY] using jY h
  ·cases h
 | .int _,.fld _::_,_,_,h=>by simp[az] at h
 | .int _,.idx _::_,_,_,h=>by simp[az] at h
 | .bool,.fld _::_,_,_,h=>by simp[az] at h
 | .bool,.idx _::_,_,_,h=>by simp[az] at h
 | .str,.fld _::_,_,_,h=>by simp[az] at h
 | .str,.idx _::_,_,_,h=>by simp[az] at h
 | .opq,.fld _::_,_,_,h=>by simp[az] at h
 | .opq,.idx _::_,_,_,h=>by simp[az] at h
 | .unit,.fld _::_,_,_,h=>by simp[az] at h
 | .unit,.idx _::_,_,_,h=>by simp[az] at h
 | .sl _,.fld _::_,_,_,h=>by simp[az] at h
 | .sl _,.idx _::_,_,_,h=>by simp[az] at h
 | .pair _ _,.idx _::_,_,_,h=>by simp[az] at h
 | .arr _ _,.fld _::_,_,_,h=>by simp[az] at h
theorem pX{q:List Hop}{o:Nat}{K'':Kind}:∀ {K:Kind} {path:List Hop} {off:Nat} {K':Kind},az K path=some (off,K')→az K' q=some (o,K'')→az K (path++q)=some (off+o,K'')
 | K,[],off,K',h,hq=>by rw[cL] at h;simp at h;obtain⟨rfl,rfl⟩:=h;simpa using hq
 | .pair a b,.fld 0::r,off,K',h,hq=>by simpa[az] using pX (K:=a) (path:=r) (by simpa[az] using h) hq
 | .pair a b,.fld (n+1)::r,off,K',h,hq=>by
  simp only[az,Option.map_eq_some_iff,Prod.exists,Prod.mk.injEq] at h
  obtain⟨o',k,h,rfl,rfl⟩:=h
  have:=pX h hq
  simp only[List.cons_append] at this ⊢
  simp[az,this,Nat.add_assoc]
 | .arr n e,.idx i::r,off,K',h,hq=>by
  simp only[az] at h
  split at h
  ·rename_i hi
   simp only[Option.map_eq_some_iff,Prod.exists,Prod.mk.injEq] at h
   obtain⟨o',k,h,rfl,rfl⟩:=h
   have:=pX h hq
   simp[az,this,hi,Nat.add_assoc]
  ·cases h
 | .int _,.fld _::_,_,_,h,_=>by simp[az] at h
 | .int _,.idx _::_,_,_,h,_=>by simp[az] at h
 | .bool,.fld _::_,_,_,h,_=>by simp[az] at h
 | .bool,.idx _::_,_,_,h,_=>by simp[az] at h
 | .str,.fld _::_,_,_,h,_=>by simp[az] at h
 | .str,.idx _::_,_,_,h,_=>by simp[az] at h
 | .opq,.fld _::_,_,_,h,_=>by simp[az] at h
 | .opq,.idx _::_,_,_,h,_=>by simp[az] at h
 | .unit,.fld _::_,_,_,h,_=>by simp[az] at h
 | .unit,.idx _::_,_,_,h,_=>by simp[az] at h
 | .sl _,.fld _::_,_,_,h,_=>by simp[az] at h
 | .sl _,.idx _::_,_,_,h,_=>by simp[az] at h
 | .pair _ _,.idx _::_,_,_,h,_=>by simp[az] at h
 | .arr _ _,.fld _::_,_,_,h,_=>by simp[az] at h
theorem b9{out:A}{sub:List (Nat×Blk)}{id:Nat}{k:Blk→Option A}(h:look sub id k=some out):∃ b,sub.lookup id=some b∧k b=some out:=by
 unfold look at h
 split at h
 ·rename_i b hb;exact⟨b,hb,h⟩
 ·cases h
theorem nE{out:A}{v:AV}{k:Int→Option A}(h:asInt v k=some out):∃ (q:IntKind) (n:Int),v=.p (.int q) n∧k n=some out:=by
 unfold asInt at h
 split at h
 ·exact⟨_,_,rfl,h⟩
 ·cases h
theorem add_lit(b o n:Nat):(⟨b,o,none⟩:Addr).add n=⟨b,o+n,none⟩:=Addr.add_lit b o n
theorem Vq{n:Nat}{e:Kind}{i:Nat}(h:i<n):az (.arr n e) [.idx i]=some (i*e.size,e):=by
 simp[az,h,cL]
theorem CD{out:A}{sub:List (Nat×Blk)}{id:Nat}{path:List Hop}{k:Kind→Option A}(h:s7 sub id path k=some out) :
  ∃ K',k K'=some out∧∀ (X:Cx) (v:Value),(∀ (id:Nat) (b:Blk),sub.lookup id=some b→X.hp[id]?=some b)→R1 X (.ptr id path) v→
   ∃ b off,v=.pointer (some ⟨b,off,none⟩)∧∀ q o K'',az K' q=some (o,K'')→R1 X (.ptr id (path++q)) (.pointer (some ⟨b,off+o,none⟩)):=by
 obtain⟨B,hB,h⟩:=b9 h
 split at h
 ·rename_i t K av
  split at h
  ·rename_i K' hk
   refine⟨K',h,fun X v hs hr=>?_⟩
   have hX:=hs id _ hB
   obtain⟨b,off,K1,h1,h2,rfl⟩:=(jt hX).1 hr
   have:K1=K':=by have:=jY h2;rw[hk] at this;exact(Option.some.inj this).symm
   subst this
   exact⟨b,off,rfl,fun q o K'' ho=>(jt hX).2 ⟨b,off+o,K'',h1,pX h2 ho,rfl⟩⟩
  ·cases h
 ·rename_i t K xs
  split at h
  ·rename_i i r _
   split at h
   ·rename_i K' hk
    refine⟨K',h,fun X v hs hr=>?_⟩
    have hX:=hs id _ hB
    obtain⟨b,i',r',off,K1,hp,hi,h1,h2,rfl⟩:=(ng hX).1 hr
    simp only[List.cons.injEq,Hop.idx.injEq] at hp
    obtain⟨rfl,rfl⟩:=hp
    have:K1=K':=by have:=jY h2;rw[hk] at this;exact(Option.some.inj this).symm
    subst this
    exact⟨b,_,rfl,fun q o K'' ho=>(ng hX).2 ⟨b,i,r++q,off+o,K'',by simp,hi,h1,pX h2 ho,by rw[Nat.add_assoc]⟩⟩
   ·cases h
  ·cases h
 ·rename_i t K o xs oh
  split at h
  ·rename_i i r _
   split at h
   ·rename_i K' hk
    refine⟨K',h,fun X v hs hr=>?_⟩
    have hX:=hs id _ hB
    obtain⟨b,i',r',off,K1,hp,hi,h1,h2,rfl⟩:=(tF hX).1 hr
    simp only[List.cons.injEq,Hop.idx.injEq] at hp
    obtain⟨rfl,rfl⟩:=hp
    have:K1=K':=by have:=jY h2;rw[hk] at this;exact(Option.some.inj this).symm
    subst this
    exact⟨br b,_,rfl,fun q o K'' ho=>(tF hX).2 ⟨b,i,r++q,off+o,K'',by simp,hi,h1,pX h2 ho,by rw[Nat.add_assoc]⟩⟩
   ·cases h
  ·cases h
 ·cases h
theorem Ml{aN:List (TypeId×TI)}:∀ {fs:List Field} {ts:List TypeId} {K:Kind} {off i:Nat},aA aN fs ts K off=true→i<ts.length→
  ∃ f j o,fs[i]?=some f∧aN.lookup f.type=some j∧0<j.K.size∧f.offset=off+o∧az K [.fld i]=some (o,j.K)
 | f::fs,t::ts,.pair a b,off,i,hb,hi=>by
  simp only[aA,Bool.and_eq_true,beq_iff_eq,decide_eq_true_eq] at hb
  obtain⟨⟨⟨⟨rfl,rfl⟩,hpos⟩,hl⟩,hb⟩:=hb
  obtain⟨j,hj,hjK⟩:∃ j,aN.lookup f.type=some j∧j.K=a:=by
   cases h:aN.lookup f.type with
   | none=>rw[h] at hl;cases hl
   | some j=>rw[h] at hl;exact⟨j,rfl,by simpa using hl⟩
  subst hjK
  cases i with
  | zero=>exact⟨f,j,0,rfl,hj,hpos,rfl,by simp[az,cL]⟩
  | succ i=>
   obtain⟨g,j',o,h1,h2,h3,h4,h5⟩:=Ml hb (by simpa using hi)
   exact⟨g,j',j.K.size+o,by simpa using h1,h2,h3,by rw[h4,Nat.add_assoc],by simp[az,h5]⟩
 | [],[],_,_,_,_,hi=>by simp at hi
 | _::_,[],_,_,_,_,hi=>by simp at hi
 | [],_::_,_,_,_,hb,_=>by simp[aA] at hb
 | _::_,_::_,.int _,_,_,hb,_=>by simp[aA] at hb
 | _::_,_::_,.bool,_,_,hb,_=>by simp[aA] at hb
 | _::_,_::_,.str,_,_,hb,_=>by simp[aA] at hb
 | _::_,_::_,.opq,_,_,hb,_=>by simp[aA] at hb
 | _::_,_::_,.unit,_,_,hb,_=>by simp[aA] at hb
 | _::_,_::_,.arr _ _,_,_,hb,_=>by simp[aA] at hb
 | _::_,_::_,.sl _,_,_,hb,_=>by simp[aA] at hb
section
variable{P:Program}{E:Env A}(T:aO P E){o:Oper}{ev:Operand→AV}{sub:List (Nat×Blk)}{fresh:Nat}{k:bX A}{out:A}
include T in
theorem aO.struct{t:TypeId}{i:TI}{ts:List TypeId}(h:E.ty.lookup t=some i)(hd:i.d=.struct ts):∃ fs,P.underlying t=some (.struct fs)∧aA E.ty fs.toList ts i.K 0=true:=by
 obtain⟨d,h1,h2⟩:=T.desc h
 obtain⟨K,td,by',cm⟩:=i
 simp only at hd;subst hd
 cases d<;>first|exact⟨_,h1,h2⟩|(simp at h2)
theorem am4{op:UnOp}{t:TypeId}{x:Operand}(ho:o.op=.unOp op t x)(h:NS op (ev x) (fun v=>k v [])=some out):∃ v l,k v l=some out∧aL P o ev sub fresh v l:=by
 have mx:x∈o.op.operands:=by simp[Op.operands,ho]
 unfold NS at h
 split at h
 ·rename_i b ex
  exact⟨_,_,h,aZ fun X ac at_=>by
   have h1:=at_.opr x mx;rw[ex,RS.bool] at h1
   exact⟨_,by simp[execOp,ho,h1,Op.unary]<;>rfl,RS.bool.2 rfl⟩⟩
 ·rename_i q n ex
  exact⟨_,_,h,aZ fun X ac at_=>by
   have h1:=at_.opr x mx;rw[ex,RS.int] at h1
   exact⟨_,by simp[execOp,ho,h1,Op.unary,Op.intArith]<;>rfl,RS.int.2 (by simp)⟩⟩
 ·rename_i q n ex
  exact⟨_,_,h,aZ fun X ac at_=>by
   have h1:=at_.opr x mx;rw[ex,RS.int] at h1
   exact⟨.int q (Cz q (if q.signed then -1 else q.max) n),by simp only[execOp,ho,h1,Op.unary,Op.intBits,Sem.run_bind,Sem.run_pure,Result.andThen_ok];rfl,RS.int.2 (by rw[CA])⟩⟩
 ·cases h
include T in
theorem aO.int{t:TypeId}{i:TI}{q:IntKind}(h:E.ty.lookup t=some i)(hd:i.K=.int q):P.underlying t=some (.int q):=by
 obtain⟨d,h1,h2⟩:=T.desc h
 obtain⟨K,td,by',cm⟩:=i
 simp only at hd;subst hd
 cases d<;>cases td<;>simp at h2
 ·subst h2;exact h1
 ·rename_i fs ts;cases hf:fs.toList<;>cases ts<;>simp[hf,aA] at h2
include T in
theorem aO.str{t:TypeId}{i:TI}(h:E.ty.lookup t=some i)(hd:i.K=.str):P.underlying t=some .string:=by
 obtain⟨d,h1,h2⟩:=T.desc h
 obtain⟨K,td,by',cm⟩:=i
 simp only at hd;subst hd
 cases d<;>cases td<;>simp at h2
 ·exact h1
 ·rename_i fs ts;cases hf:fs.toList<;>cases ts<;>simp[hf,aA] at h2
theorem abS{x:Operand}{i:Nat}(ho:o.op=.extract x i)(h:(match ev x with|.tup vs=>(match vs[i]? with|some y=>k y []|none=>none)|_=>none)=some out) :
  ∃ v l,k v l=some out∧aL P o ev sub fresh v l:=by
 have mx:x∈o.op.operands:=by simp[Op.operands,ho]
 split at h
 ·rename_i vs ex
  split at h
  ·rename_i y hy
   exact⟨_,_,h,aZ fun X ac at_=>by
    have h1:=at_.opr x mx;rw[ex] at h1
    obtain⟨us,h2,h3⟩:=h1
    obtain⟨u,hu,hr⟩:=h3.get hy
    have hu':us[i]?=some u:=by simpa using hu
    refine⟨u,by simp[execOp,ho,h2,Instr.extract,hu'],RS.of0 hr fun ws e=>?_⟩
    subst e
    rcases hr with hr|⟨cs,h4,⟨h5,_⟩|⟨_,h5⟩⟩
    ·cases hr
    ·cases h5
    ·obtain⟨_,rfl,h6⟩:=h4;exact h6⟩
  ·cases h
 ·cases h
theorem akv{x:Operand}(ho:o.op=.nilCheck x)(h:(match ev x with|.ptr id q=>s7 sub id q fun _=>k (.ptr id q) []|.vp K y=>k (.vp K y) []|.np K o=>o.bind fun y=>k (.vp K y) []|.fn f cs=>k (.fn f cs) []|_=>none)=some out) :
  ∃ v l,k v l=some out∧aL P o ev sub fresh v l:=by
 have mx:x∈o.op.operands:=by simp[Op.operands,ho]
 split at h
 ·rename_i id q ex
  obtain⟨K',h,hs⟩:=CD h
  exact⟨_,_,h,aZ fun X ac at_=>by
   have h1:=at_.opr x mx;rw[ex] at h1
   obtain⟨b,off,h2,_⟩:=hs X _ at_.sub ((RS.one (by simp) (by simp) (by simp) (by simp)).1 h1)
   exact⟨_,by simp[execOp,ho,h2],h2▸h1⟩⟩
 ·rename_i K y ex
  exact⟨_,_,h,aZ fun X ac at_=>by
   have h1:=at_.opr x mx;rw[ex] at h1
   have h2:=(RS.one (by simp) (by simp) (by simp) (by simp)).1 h1
   obtain⟨ad,cs,h3,_⟩:=h2
   exact⟨_,by simp[execOp,ho,h3],h3▸h1⟩⟩
 ·rename_i K o' ex
  obtain⟨y,rfl,h⟩:=Option.bind_eq_some_iff.1 h
  exact⟨_,_,h,aZ fun X ac at_=>by
   have h1:=at_.opr x mx;rw[ex] at h1
   have h2:=(RS.one (by simp) (by simp) (by simp) (by simp)).1 h1
   rcases h2 with ⟨h2,_⟩|⟨z,hz,h2⟩
   ·cases h2
   ·cases hz
    obtain⟨ad,cs,h3,h4⟩:=h2
    exact⟨_,by simp[execOp,ho,h3],(RS.one (by simp) (by simp) (by simp) (by simp)).2 ⟨ad,cs,rfl,h4⟩⟩⟩
 ·rename_i f cs ex
  exact⟨_,_,h,aZ fun X ac at_=>by
   have h1:=at_.opr x mx;rw[ex] at h1
   have h2:=(RS.one (by simp) (by simp) (by simp) (by simp)).1 h1
   obtain⟨us,h3,h4⟩:=h2
   exact⟨_,by simp[execOp,ho,h3],(RS.one (by simp) (by simp) (by simp) (by simp)).2 ⟨us,rfl,h4⟩⟩⟩
 ·cases h
theorem wC{X:Cx}{K:Kind}{xs:List K.den}{v:Value}(h:RS X (.p (.sl K) xs) v):∃ ao cap,v=.slice ao xs.length cap∧xs.length≤cap∧
  (0<xs.length→∃ ad css,ao=some ad∧X.F ad.block∧All2 (RP X.F X.w K) xs css∧∀ j u,css.flatten[j]?=some u→X.w.cell? (ad.add j)=some u):=by
 obtain⟨cs,h1,⟨h2,_⟩|⟨_,h2⟩⟩:=(h.to0 (by simp)).data
 ·cases h2
 ·obtain⟨ao,cap,h3,h4,h5⟩:=h1
  rw[h2] at h3;simp at h3
  exact⟨ao,cap,h3,h4,h5⟩
theorem tZ(a:Addr)(m n:Nat):(a.add m).add n=a.add (m+n):=by
 unfold Addr.add
 by_cases hm:m=0
 ·subst hm;simp
 ·by_cases hn:n=0
  ·subst hn;simp[hm]
  ·have:¬ m+n=0:=by omega
   simp[hm,hn,this,Nat.add_assoc]
theorem RS.vp{X:Cx}{K:Kind}{y:K.den}{ad:Addr}{cs:List Value}(hF:X.F ad.block)(h:RP X.F X.w K y cs)(hc:∀ j u,cs[j]?=some u→X.w.cell? (ad.add j)=some u):RS X (.vp K y) (.pointer (some ad)):=
 (RS.one (by simp) (by simp) (by simp) (by simp)).2 ⟨ad,cs,rfl,hF,h,hc⟩
theorem yD{F:Nat→Prop}{w w':World}{K:Kind}{xs:List K.den}{css:List (List Value)}(h:All2 (RP F w K) xs css){ad:Addr}(hc:∀ j u,css.flatten[j]?=some u→w'.cell? (ad.add j)=some u){i:Nat}{y:K.den}(hy:xs[i]?=some y):∃ cs,RP F w K y cs∧∀ j u,cs[j]?=some u→w'.cell? ((ad.add (i*K.size)).add j)=some u:=by
 obtain⟨cs,h1,h2⟩:=h.get hy
 refine⟨cs,h2,fun j u hj=>?_⟩
 rw[tZ]
 have hl:=RP.length h2
 have hjl:j<cs.length:=(List.getElem?_eq_some_iff.1 hj).1
 have e:=sV h.lens h1 (o:=0) (n:=K.size) (by omega)
 rw[Nat.add_zero,cX cs hl.symm] at e
 exact hc _ _ (ja (by rw[e];exact hj))
include T in
theorem ajS{t:TypeId}{x ix:Operand}(ho:o.op=.indexAddr t x ix)(h:Vi E sub t (ev x) (ev ix) (fun v=>k v [])=some out):∃ v l,k v l=some out∧aL P o ev sub fresh v l:=by
 have mx:x∈o.op.operands:=by simp[Op.operands,ho]
 have mi:ix∈o.op.operands:=by simp[Op.operands,ho]
 obtain⟨q,i,ei,h⟩:=nE h
 split at h
 ·rename_i hi0
  obtain⟨ti,hti,h⟩:=bq h
  split at h
  ·
   rename_i n e hd
   obtain⟨hu,j,hj,hK,_⟩:=T.array hti hd
   have run:∀ (ac:Act) (w:World) (ad:Addr),ac.eval x=.pointer (some ad)→ac.eval ix=.int q i→i<(n:Int)→(execOp ac.eval o).run P w=.ok (.value (.pointer (some (ad.add (i.toNat*j.K.size))))) w:=fun ac w ad h1 h2 h3=>by
    simp[execOp,ho,Instr.indexAt,h1,h2,asIntOf,run_underlying hu,Instr.sureAddr,hi0,h3,T.runSize hj]
   split at h
   ·rename_i hin
    have hlt:i.toNat<n:=by omega
    split at h
    ·rename_i id path ex
     obtain⟨K',h,hs⟩:=CD h
     split at h
     ·rename_i hKe
      exact⟨_,_,h,aZ fun X ac at_=>by
       have h1:=at_.opr x mx;rw[ex] at h1
       have h2:=at_.opr ix mi;rw[ei,RS.int] at h2
       obtain⟨b,off,h3,h4⟩:=hs X _ at_.sub ((RS.one (by simp) (by simp) (by simp) (by simp)).1 h1)
       refine⟨_,run ac X.w _ h3 h2 hin,(RS.one (by simp) (by simp) (by simp) (by simp)).2 ?_⟩
       rw[add_lit]
       exact h4 [.idx i.toNat] _ j.K (by rw[hKe,hK];exact Vq hlt)⟩
     ·cases h
    ·rename_i n' e' l ex
     split at h
     ·rename_i hKe
      obtain⟨y,hy,h⟩:=Option.bind_eq_some_iff.1 h
      rw[hK] at hKe
      simp only[Kind.arr.injEq] at hKe
      obtain⟨rfl,rfl⟩:=hKe
      exact⟨_,_,h,aZ fun X ac at_=>by
       have h1:=at_.opr x mx;rw[ex] at h1
       have h2:=at_.opr ix mi;rw[ei,RS.int] at h2
       obtain⟨ad,cs,h3,hF,⟨hl,css,rfl,hr⟩,hc⟩:=(RS.one (by simp) (by simp) (by simp) (by simp)).1 h1
       obtain⟨cs',h5,h6⟩:=yD hr hc hy
       exact⟨_,run ac X.w _ h3 h2 hin,RS.vp (by rw[gF];exact hF) h5 h6⟩⟩
     ·cases h
    ·cases h
   ·cases h
  ·
   rename_i e hd
   obtain⟨hu,j,hj,hK,_⟩:=T.slice hti hd
   have run:∀ (ac:Act) (w:World) (ad:Addr) (len cap:Nat),ac.eval x=.slice (some ad) len cap→ac.eval ix=.int q i→i<(len:Int)→(execOp ac.eval o).run P w=.ok (.value (.pointer (some (ad.add (i.toNat*j.K.size))))) w:=fun ac w ad len cap h1 h2 h3=>by
    simp[execOp,ho,Instr.indexAt,h1,h2,asIntOf,run_underlying hu,hi0,h3,T.runSize hj]
   split at h
   ·rename_i K xs ex
    split at h
    ·rename_i hKe
     obtain⟨y,hy,h⟩:=Option.bind_eq_some_iff.1 h
     rw[hK] at hKe
     simp only[Kind.sl.injEq] at hKe
     subst hKe
     have h0:=(List.getElem?_eq_some_iff.1 hy).1
     have hlt:i<(xs.length:Int):=(Int.toNat_lt hi0).1 h0
     exact⟨_,_,h,aZ fun X ac at_=>by
      have h1:=at_.opr x mx;rw[ex] at h1
      have h2:=at_.opr ix mi;rw[ei,RS.int] at h2
      obtain⟨ao,cap,h3,_,h4⟩:=wC h1
      obtain⟨ad,css,rfl,hF,hr,hc⟩:=h4 (Nat.lt_of_le_of_lt (Nat.zero_le _) h0)
      obtain⟨cs',h5,h6⟩:=yD hr hc hy
      exact⟨_,run ac X.w _ _ _ h3 h2 hlt,RS.vp (by rw[gF];exact hF) h5 h6⟩⟩
    ·cases h
   ·rename_i id ex
    obtain⟨B,hB,h⟩:=b9 h
    split at h
    ·rename_i t' K xs
     split at h
     ·rename_i hKe
      rw[hK] at hKe
      simp only[Kind.sl.injEq] at hKe
      subst hKe
      split at h
      ·rename_i hlt
       exact⟨_,_,h,aZ fun X ac at_=>by
        have h1:=at_.opr x mx;rw[ex] at h1
        have h2:=at_.opr ix mi;rw[ei,RS.int] at h2
        have hX:=at_.sub _ _ hB
        rcases(lz hX).1 ((RS.one (by simp) (by simp) (by simp) (by simp)).1 h1) with ⟨_,h3,_⟩|⟨b,cap,cur,h3,h4,_⟩
        ·omega
        ·refine⟨_,run ac X.w _ _ _ h4 h2 hlt,(RS.one (by simp) (by simp) (by simp) (by simp)).2 ?_⟩
         rw[add_lit,Nat.zero_add]
         exact(ng hX).2 ⟨b,i.toNat,[],0,j.K,rfl,by omega,h3,cL _,rfl⟩⟩
      ·cases h
     ·cases h
    ·rename_i t' K ok xs oh
     split at h
     ·rename_i hKe
      rw[hK] at hKe
      simp only[Kind.sl.injEq] at hKe
      subst hKe
      split at h
      ·rename_i hlt
       exact⟨_,_,h,aZ fun X ac at_=>by
        have h1:=at_.opr x mx;rw[ex] at h1
        have h2:=at_.opr ix mi;rw[ei,RS.int] at h2
        have hX:=at_.sub _ _ hB
        rcases(nb hX).1 ((RS.one (by simp) (by simp) (by simp) (by simp)).1 h1) with ⟨_,h3,_⟩|⟨b,cap,cur,h3,h4,_⟩
        ·omega
        ·refine⟨_,run ac X.w _ _ _ h4 h2 hlt,(RS.one (by simp) (by simp) (by simp) (by simp)).2 ?_⟩
         rw[add_lit,Nat.zero_add]
         exact(tF hX).2 ⟨b,i.toNat,[],0,j.K,rfl,by omega,h3,cL _,rfl⟩⟩
      ·cases h
     ·cases h
    ·cases h
   ·rename_i id lo len ex
    obtain⟨B,hB,h⟩:=b9 h
    split at h
    ·rename_i t' K xs
     split at h
     ·rename_i hKe
      rw[hK] at hKe
      simp only[Kind.sl.injEq] at hKe
      subst hKe
      split at h
      ·rename_i hlt
       exact⟨_,_,h,aZ fun X ac at_=>by
        have h1:=at_.opr x mx;rw[ex] at h1
        have h2:=at_.opr ix mi;rw[ei,RS.int] at h2
        have hX:=at_.sub _ _ hB
        obtain⟨hle,ao,c,h3,_,h4⟩:=(lA hX).1 ((RS.one (by simp) (by simp) (by simp) (by simp)).1 h1)
        obtain⟨b,h5,rfl⟩:=h4 (by omega)
        refine⟨_,run ac X.w _ _ _ h3 h2 hlt,(RS.one (by simp) (by simp) (by simp) (by simp)).2 ?_⟩
        rw[add_lit]
        exact(ng hX).2 ⟨b,lo+i.toNat,[],0,j.K,rfl,by omega,h5,cL _,by rw[Nat.add_mul];rfl⟩⟩
      ·cases h
     ·cases h
    ·cases h
   ·rename_i id path lo len ex
    obtain⟨B,hB,h⟩:=b9 h
    split at h
    ·rename_i t' K av
     split at h
     ·rename_i m e' hk
      split at h
      ·rename_i hKe
       rw[hK] at hKe
       simp only[Kind.sl.injEq] at hKe
       subst hKe
       split at h
       ·rename_i hlt
        exact⟨_,_,h,aZ fun X ac at_=>by
         have h1:=at_.opr x mx;rw[ex] at h1
         have h2:=at_.opr ix mi;rw[ei,RS.int] at h2
         have hX:=at_.sub _ _ hB
         obtain⟨b,off,n',e',h3,h4,hle,ao,c,h5,_,h6⟩:=(nh hX).1 ((RS.one (by simp) (by simp) (by simp) (by simp)).1 h1)
         have h7:=jY h4
         rw[hk] at h7
         simp only[Option.some.injEq,Kind.arr.injEq] at h7
         obtain⟨rfl,rfl⟩:=h7
         obtain rfl:=h6 (by omega)
         refine⟨_,run ac X.w _ _ _ h5 h2 hlt,(RS.one (by simp) (by simp) (by simp) (by simp)).2 ?_⟩
         rw[add_lit]
         exact(jt hX).2 ⟨b,off+(lo+i.toNat)*j.K.size,j.K,h3,pX h4 (Vq (by omega)),by rw[Nat.add_mul,Nat.add_assoc]⟩⟩
       ·cases h
      ·cases h
     ·cases h
    ·cases h
   ·cases h
  ·cases h
 ·cases h
end
end Go.Ev
