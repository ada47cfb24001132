import Derived.Test.YtbgcimciannhmaaGreatDoorRows
import Derived.Test.YtbgcimciannhmaaGreatDoorChecked
import Derived.WalkKit
import Derived.ProofKit
import Derived.SevenTiedAt
import Derived.KernelRfl
/- A part of the proof of TopQuiet; no condition. -/
set_option linter.all false
set_option maxRecDepth 100000
namespace Go.Proofs.YtbgcimciannhmaaGreatDoor.topQuiet
open Go.Proofs
set_option maxHeartbeats 100000000 in
theorem closed:joinedFacts Tryz.pinned.checked.prog 5 Tryz.f5 Rows.topQuietSpec Rows.topQuietRow=true:=by
 unfold joinedFacts
 simp only[Bool.and_eq_true]
 repeat' apply And.intro
 all_goals (as_aux_lemma=>kernel_rfl)
end Go.Proofs.YtbgcimciannhmaaGreatDoor.topQuiet
