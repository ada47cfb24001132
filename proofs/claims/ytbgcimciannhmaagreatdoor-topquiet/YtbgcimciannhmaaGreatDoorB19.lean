import Derived.Test.YtbgcimciannhmaaGreatDoorB6
import Derived.Test.YtbgcimciannhmaaGreatDoorB13
import Derived.Test.YtbgcimciannhmaaGreatDoorB16
import Derived.Test.YtbgcimciannhmaaGreatDoorB18
import Derived.Test.YtbgcimciannhmaaGreatDoorRows
import Derived.WalkKit
import Derived.ProofKit
import Derived.OpenShut
import Derived.ShutString
import Derived.ChangeOld
import Derived.Below
import Derived.LaidMore
import Derived.MakeChecks
import Derived.Stop.Joined
import Derived.SevenTiedAt
import Derived.Lay
import Derived.Test.YtbgcimciannhmaaGreatDoorCards
import Derived.Test.YtbgcimciannhmaaGreatDoorTie
/- The statement TopQuiet is proved: whatever the input, the function tells true; no condition. -/
set_option linter.all false
set_option maxRecDepth 100000
namespace Go.Proofs.YtbgcimciannhmaaGreatDoor.topQuiet
open Go.ChangeShapes Go.WideShapes Go.ChangeAt Go.RowKit Go.Ev Go.Proofs
open Go.ChangeMaps (open_string shut_string)
theorem own:ownKnob Tryz.prog.godebug=none:=by kernel_rfl
theorem laidOut:laidOutB Tryz.prog=true:=by kernel_rfl
theorem gok{W:World}(h:laidMetH Tryz.prog Rows.topQuietRow.laid W):d7 aw (X0 (fun b=>b<W.heap.size) W):=by
 rw[MakeChecks.laidMetH_plain _ _ _ (by kernel_rfl)] at h
 obtain⟨ps,⟨g0,t0,cs0,f0,p0,q0,hg0,ht0,hv0,hd0,⟨g1,t1,cs1,f1,p1,q1,hg1,ht1,hv1,hd1,⟨g2,t2,cs2,f2,p2,q2,hg2,ht2,hv2,hd2,⟨g3,t3,cs3,f3,p3,q3,hg3,ht3,hv3,hd3,_,_⟩,_⟩,_⟩,_⟩,_,_⟩:=h
 obtain rfl:=Option.some.inj ((show Tryz.prog.globalNamed "math/bits.deBruijn32tab"=some 1 by kernel_rfl).symm.trans hg0)
 obtain rfl:=Option.some.inj ((show(Tryz.prog.globals[1]?).map (·.type)=some 23 by kernel_rfl).symm.trans ht0)
 obtain rfl:=Option.some.inj ((show Tryz.prog.globalNamed "masthead/sha2.k"=some 2 by kernel_rfl).symm.trans hg2)
 obtain rfl:=Option.some.inj ((show(Tryz.prog.globals[2]?).map (·.type)=some 429 by kernel_rfl).symm.trans ht2)
 intro g
 by_cases h_1:g=1
 ·subst h_1
  exact Vr (l:=Mu) Tryz.underlying23 Tryz.underlying5 (by kernel_rfl) (by kernel_rfl) (by kernel_rfl) hg0 hv0 hd0
 by_cases h_2:g=2
 ·subst h_2
  exact Vr (l:=gU) Tryz.underlying429 Tryz.underlying22 (by kernel_rfl) (by kernel_rfl) (by kernel_rfl) hg2 hv2 hd2
 have:aw.lookup g=none:=by
  unfold aw
  rw[List.lookup_cons,beq_eq_false_iff_ne.2 h_1]
  show List.lookup g [_]=none
  rw[List.lookup_cons,beq_eq_false_iff_ne.2 h_2]
  rfl
 unfold eo
 rw[this]
 exact .inl rfl
theorem run5(a0:Kind.den b8)(a1:Kind.den (.int .i64)):(Lh (pI (A:=AV×List Blk) 1100)).run [.p b8 a0,.p (.int .i64) a1] [] (fun r hp=>some (r,hp))=pI 1100 a0 a1 fun r0=>some (.p .bool r0,[]):=by kernel_rfl
theorem walk(a0:Kind.den b8)(a1:Kind.den (.int .i64))(f0:WF b8 a0)(f1:WF (.int .i64) a1)(W:World)(hL:laidMetH Tryz.prog Rows.topQuietRow.laid W)(v0:Value)(v1:Value)(w0:RS (X0 (fun b=>b<W.heap.size) W) (.p b8 a0) v0)(w1:RS (X0 (fun b=>b<W.heap.size) W) (.p (.int .i64) a1) v1):Calls Tryz.prog 5 #[v0,v1] W fun e w'=>e=.returned (.bool true)∧Below W.heap.size W w':=
 ajE (aip 1100) (enters_of Tryz.func5 (by kernel_rfl) rfl) ((run5 a0 a1).trans (aio a0 a1 f0 _)) W #[v0,v1] (gok hL) (All2.cons w0 (All2.cons w1 All2.nil))
set_option maxRecDepth 100000 in
theorem lifted(os:Os)(started:os.Started)(H:Type)(enc:TypeId×Value→H) :
  ReturnsInHanded {} Tryz.checked os 5 .any (fun w args=>(Rows.topQuietSpec.pre enc Tryz.prog Tryz.f5 [] false w args∧laidMetH Tryz.prog Rows.topQuietRow.laid w)∧sizedMet enc Tryz.prog Tryz.f5 (OpenSpec.ofChange Rows.topQuietSpec) false w args) (Rows.topQuietSpec.post enc Tryz.prog Tryz.f5 false true false false):=by
 refine returnsInHanded_of_change_and (C:=Tryz.checked) (X:=fun w _=>laidMetH Tryz.prog Rows.topQuietRow.laid w) (fun _ _ _ hh h=>h.of_heap hh) own started (by kernel_rfl) Tryz.func5
  (ChangeSpec.witness_shaped (enc:=enc) (C:=Tryz.checked) (os:=os) (X:=fun w _=>laidMetH Tryz.prog Rows.topQuietRow.laid w) false (World.laidAll Tryz.prog os Rows.topQuietRow.laid) #[.agg #[.int .u32 0,.int .i64 0,.int .i64 0,.int .i64 0,.int .i64 0,.int .u32 0,.int .u8 0,.int .u8 0,.int .u8 0,.int .u8 0,.int .u8 0,.int .u8 0,.int .u8 0,.int .u8 0,.int .u8 0,.int .u8 0,.int .u8 0,.int .u8 0,.int .u8 0,.int .u8 0,.int .u8 0,.int .u8 0,.int .u8 0,.int .u8 0,.int .u8 0,.int .u8 0,.int .u8 0,.int .u8 0,.int .u8 0,.int .u8 0,.int .u8 0,.int .u8 0,.int .u8 0,.int .u8 0,.int .u8 0,.int .u8 0,.int .u8 0,.int .u8 0,.int .u8 0,.int .u8 0,.int .u8 0,.int .u8 0,.int .u8 0,.int .u8 0,.int .u8 0,.int .u8 0,.int .u8 0,.int .u8 0,.int .u8 0,.int .u8 0,.int .u8 0,.int .u8 0,.int .u8 0,.int .u8 0,.int .u8 0,.int .u8 0,.int .u8 0,.int .u8 0,.int .u8 0,.int .u8 0,.int .u8 0,.int .u8 0,.int .u8 0,.int .u8 0,.int .u8 0,.int .u8 0,.int .u8 0,.int .u8 0,.int .u8 0,.int .u8 0,.int .u32 0,.int .u32 0,.int .u32 0,.int .u64 0,.int .u64 0,.int .u64 0,.int .u64 0,.int .i64 0,.int .i64 0,.int .i64 0,.int .i64 0,.slice none 0 0,.int .i64 0,.slice none 0 0,.slice none 0 0,.int .i64 0,.int .i64 0],.int .i64 0] 8 (World.laidAll_os _ _ _) (World.shaped_of_ZipB (by kernel_rfl) (by kernel_rfl)) (by kernel_rfl) (by kernel_rfl) (by kernel_rfl) (by rw[MakeChecks.laidMetH_plain _ _ _ (by kernel_rfl)];exact laidMet_laidAll _ (by kernel_rfl) (by kernel_rfl))) ?_
 intro W base args ds gs before hval0 hW _ _ hL _
 have hval:∀ (j:Nat) t v,Tryz.f5.params[j]?=some t→args[j]?=some v→Value.okWide Tryz.prog W .any base t v:=hval0
 have hW':=hW
 obtain⟨p,q,hA0,hV,rfl,hfz,hnd⟩:=hW
 have hA:DataW.TrodAll enc Tryz.prog W 0 (fun _=>true) true Tryz.f5.params.toList args.toList ds p:=hA0
 rw[Tryz.params5] at hA hval
 obtain⟨v0,vs0,d0,ds0,p0,q0,hargs,rfl,rfl,h0,r0⟩:=trodAll_cons hA
 obtain⟨v1,vs1,d1,ds1,p1,q1,rfl,rfl,rfl,h1,r1⟩:=trodAll_cons r0
 obtain⟨rfl,rfl,rfl⟩:=trodAll_nil r1
 obtain rfl:args=#[v0,v1]:=by cases args;simp_all
 obtain⟨rfl,rfl⟩:=trodVars_none hV
 have lt0:∀ x∈p0,x.block<W.heap.size:=by obtain⟨m,hm⟩:=h0;exact DataW.trod_lt m _ _ _ hm
 obtain⟨a0,w0,f0⟩:=Pq (E:=(⟨aN,aw,[],[],[],[],bI,obs⟩:Env Bool)) (bz rfl bA) (i:=⟨b8,(.struct [34,3,35,36,3,3]),280,false⟩) rfl rfl (hval 0 38 v0 rfl rfl) h0
 have lt1:∀ x∈p1,x.block<W.heap.size:=by obtain⟨m,hm⟩:=h1;exact DataW.trod_lt m _ _ _ hm
 obtain⟨a1,w1,f1⟩:=Pq (E:=(⟨aN,aw,[],[],[],[],bI,obs⟩:Env Bool)) (bz rfl bA) (i:=⟨(.int .i64),.prim,8,true⟩) rfl rfl (hval 1 3 v1 rfl rfl) h1
 clear hA0 hval0
 refine(walk a0 a1 f0 f1 W hL v0 v1 w0 w1).mono fun e W' ⟨he,bel⟩=>?_
 subst he
 exact⟨_,rfl,_,_,_,[],_,[],hW',trodAll_mk1 (shut_bool Tryz.underlying4 _),(trodAll_cons_mk (Below.trod laidOut (by kernel_rfl) (of_decide_eq_true (by kernel_rfl)) h0 bel lt0) (trodAll_cons_mk (Below.trod laidOut (by kernel_rfl) (of_decide_eq_true (by kernel_rfl)) h1 bel lt1) trodAll_mk0)),rfl,bel.frame _,fun h=>by cases h⟩
theorem over:Rows.topQuietRow.holds Tryz.pinned (OpenSpec.ofChange Rows.topQuietSpec):=
 OpenClaim.holds_of_wide 5 Tryz.f5 rfl rfl rfl rfl rfl rfl rfl ⟨rfl,rfl,rfl,rfl,rfl⟩ rfl rfl rfl rfl rfl named Tryz.func5 closed hinst hwrap
  (fun os started H enc _=>lifted os started H enc)
theorem proved:Rows.TopQuietCardSaid:=
 Claim7.holds_tied_plain_at .later [] [.data,.data,.data,.pinned] true (true,"e801448fbdcf0de4feb519d279c1596834300df237b74068258f1462cdc99010") false
  over (fun _ h=>by cases h) wfT (fun _ h=>by cases h) topQuiet_row_tie rfl ⟨rfl,rfl⟩ mainIs rfl
  (fun f fn hf hfn=>by
   obtain rfl:f=5:=Option.some.inj (named.symm.trans hf) |>.symm
   obtain rfl:fn=Tryz.f5:=(Option.some.inj (Tryz.func5.symm.trans hfn)).symm
   exact⟨looks,fun j t ht=>by
    rw[Tryz.params5] at ht
    have hm:t∈[38,3]:=by simpa using Array.mem_of_getElem? ht
    exact(show Tryz.prog.wantsStandIn t=false by simpa using List.all_eq_true.1 standIns t hm)⟩)
  goesBy
#print axioms proved
end Go.Proofs.YtbgcimciannhmaaGreatDoor.topQuiet
