import Derived.Test.YtbgcimciannhmaaGreatDoorB17
import Derived.Test.YtbgcimciannhmaaGreatDoorRows
import Derived.Test.YtbgcimciannhmaaGreatDoorChecked
import Derived.WalkKit
import Derived.ProofKit
import Derived.SevenTiedAt
import Derived.KernelRfl
/- A part of the proof of TopQuiet; no condition. -/
set_option linter.all false
set_option maxRecDepth 100000
namespace Go.Proofs.YtbgcimciannhmaaGreatDoor.topQuiet
open Go.Proofs
theorem hwrap:Tryz.f5.isWrapper Tryz.pinned.checked.prog Rows.topQuietRow.wrapper Rows.topQuietRow.mainSum:=by
 unfold Func.isWrapper
 first|(rw[if_pos (by decide +kernel)];kernel_rfl)|(rw[if_neg (by decide +kernel)];exact⟨rfl,rfl⟩)
theorem hinst:Tryz.f5.isInstance Tryz.pinned.checked.prog Rows.topQuietRow.origin Rows.topQuietRow.targs:=of_decide_eq_true (by kernel_rfl)
theorem named:Tryz.pinned.checked.prog.funcNamed Rows.topQuietRow.func=some 5:=by kernel_rfl
theorem wfT:Rows.topQuietRow.wfByText (OpenSpec.ofChange Rows.topQuietSpec)=true:=by kernel_rfl
theorem mainIs:Tryz.pinned.checked.prog.mainIs=some (true,"e801448fbdcf0de4feb519d279c1596834300df237b74068258f1462cdc99010".toList):=by kernel_rfl
theorem goes_none{P:Program}(h:P.funcs.any Func.goes=false)(f:FuncId):P.goes f=false:=by
 unfold Program.goes
 rw[h,Bool.and_false,Bool.or_false,List.any_eq_false]
 intro g _
 cases hg:P.funcs[g]? with
 | none=>simp
 | some fn=>
  obtain⟨hlt,rfl⟩:=Array.getElem?_eq_some_iff.1 hg
  rw[Array.any_eq_false] at h
  simpa using h g hlt
theorem goes_at{P:Program}{c:OpenClaim}(hs:c.start=.entering)(h:P.funcs.any Func.goes=false):false=c.goesBy P:=by
 unfold OpenClaim.goesBy Program.goesAt Program.goesFrom
 rw[hs]
 simp only[Bool.or_false]
 cases P.funcNamed c.func with
 | none=>rfl
 | some f=>exact(goes_none h f).symm
theorem noGo:Tryz.prog.funcs.any Func.goes=false:=by kernel_rfl
theorem goesBy:false=Rows.topQuietRow.goesBy Tryz.pinned.checked.prog:=goes_at (by kernel_rfl) noGo
theorem looks:false=Tryz.prog.looks []:=by kernel_rfl
theorem standIns:([38,3].all fun u=>!Tryz.prog.wantsStandIn u)=true:=by kernel_rfl
end Go.Proofs.YtbgcimciannhmaaGreatDoor.topQuiet
