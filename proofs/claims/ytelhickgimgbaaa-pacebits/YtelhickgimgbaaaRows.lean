/-
  No cell of these rows narrows 'for every input' (looked for: loops, veiled, ifaces, maps, wideKeys, modest, calm, conditions, laid).
  DERIVED. THE GIVEN ROWS OF THIS SEAT. 12 by the template 'for every input the law returns true; each argument reads behind the call as it read before'; 0 by the template 'total and deterministic' (their statements: YtelhickgimgbaaaTotals.lean).
  GIVEN WITH THE SEED: the statements are not yours to turn. If you find one false, say at which input.
  Laid BY PROGRAM, IN A SANDBOX (cutbox-rows.mjs): the forced cells as the released guide's own fill.sh prints them over the translation 0c6e4cd2f1593711… (all of the seat's roots in one cut). By AI agents, Wed Nov 11 2026. No macro, syntax, notation, axiom, sorry.
-/
import Derived.Test.YtelhickgimgbaaaChecked
import GoSem.Claim
import GoSem.ClaimJoined
import GoSem.ClaimMapViews
import Derived.JoinedTies
import Derived.KernelRfl
namespace Go.Proofs.Ytelhickgimgbaaa
/- THE CELL 'sum', in the pinned program and in every row, IS THE sha256 OF THE DUMP (.gsa) THAT YtelhickgimgbaaaProg.lean LOADS. Nothing in Lean hashes anything: it is a label: what it is worth is what the hold of that sum in a sandbox is worth. -/
noncomputable def Try.pinned : Pinned := { name := "ytelhickgimgbaaa", sum := "0c6e4cd2f1593711b12deaae4c04916f938b46dc93cae1624257aab16c5163e2", checked := Try.checked }
namespace Rows
def none {H : Type} : Left H := { results := [], args := [] }

/-- 'mastheadlaw05.CompactTargets': WHATEVER THE INPUT: true; the input reads as it did. -/
def compactTargetsSpec : ChangeSpec := { name := "compactTargets", fn := fun _ => fun
  | [d] => { results := [.lit (.bool true)], args := [d] }
  | _ => none }
def compactTargetsRow : OpenClaim := { program := "ytelhickgimgbaaa", sum := "0c6e4cd2f1593711b12deaae4c04916f938b46dc93cae1624257aab16c5163e2", func := "masthead/mastheadlaw05.CompactTargets", spec := "compactTargets", inPlace := ["math/bits.Add64", "math/bits.Sub64"], apart := false }
def CompactTargetsSaid : Prop := compactTargetsRow.holds Try.pinned (OpenSpec.ofChange compactTargetsSpec)

/-- ITS FALSE NEIGHBOUR: 'it returns false'. Refute it at one input. -/
def compactTargetsWrong : ChangeSpec := { name := "compactTargets", fn := fun _ => fun
  | [d] => { results := [.lit (.bool false)], args := [d] }
  | _ => none }
def CompactTargetsWrongFalsely : Prop := compactTargetsRow.holds Try.pinned (OpenSpec.ofChange compactTargetsWrong)

/-- 'mastheadlaw05.CompactBits': WHATEVER THE INPUT: true; the input reads as it did. -/
def compactBitsSpec : ChangeSpec := { name := "compactBits", fn := fun _ => fun
  | [d] => { results := [.lit (.bool true)], args := [d] }
  | _ => none }
def compactBitsRow : OpenClaim := { program := "ytelhickgimgbaaa", sum := "0c6e4cd2f1593711b12deaae4c04916f938b46dc93cae1624257aab16c5163e2", func := "masthead/mastheadlaw05.CompactBits", spec := "compactBits", inPlace := ["math/bits.Add64", "math/bits.Sub64"], apart := false }
def CompactBitsSaid : Prop := compactBitsRow.holds Try.pinned (OpenSpec.ofChange compactBitsSpec)

/-- ITS FALSE NEIGHBOUR: 'it returns false'. Refute it at one input. -/
def compactBitsWrong : ChangeSpec := { name := "compactBits", fn := fun _ => fun
  | [d] => { results := [.lit (.bool false)], args := [d] }
  | _ => none }
def CompactBitsWrongFalsely : Prop := compactBitsRow.holds Try.pinned (OpenSpec.ofChange compactBitsWrong)

/-- 'mastheadlaw05.CompactBack': WHATEVER THE INPUT: true; the input reads as it did. -/
def compactBackSpec : ChangeSpec := { name := "compactBack", fn := fun _ => fun
  | [d] => { results := [.lit (.bool true)], args := [d] }
  | _ => none }
def compactBackRow : OpenClaim := { program := "ytelhickgimgbaaa", sum := "0c6e4cd2f1593711b12deaae4c04916f938b46dc93cae1624257aab16c5163e2", func := "masthead/mastheadlaw05.CompactBack", spec := "compactBack", inPlace := ["math/bits.Add64", "math/bits.Sub64"], apart := false }
def CompactBackSaid : Prop := compactBackRow.holds Try.pinned (OpenSpec.ofChange compactBackSpec)

/-- ITS FALSE NEIGHBOUR: 'it returns false'. Refute it at one input. -/
def compactBackWrong : ChangeSpec := { name := "compactBack", fn := fun _ => fun
  | [d] => { results := [.lit (.bool false)], args := [d] }
  | _ => none }
def CompactBackWrongFalsely : Prop := compactBackRow.holds Try.pinned (OpenSpec.ofChange compactBackWrong)

/-- 'mastheadlaw05.CompactWorks': WHATEVER THE INPUT: true; the input reads as it did. -/
def compactWorksSpec : ChangeSpec := { name := "compactWorks", fn := fun _ => fun
  | [d] => { results := [.lit (.bool true)], args := [d] }
  | _ => none }
def compactWorksRow : OpenClaim := { program := "ytelhickgimgbaaa", sum := "0c6e4cd2f1593711b12deaae4c04916f938b46dc93cae1624257aab16c5163e2", func := "masthead/mastheadlaw05.CompactWorks", spec := "compactWorks", inPlace := ["math/bits.Add64", "math/bits.Sub64"], apart := false }
def CompactWorksSaid : Prop := compactWorksRow.holds Try.pinned (OpenSpec.ofChange compactWorksSpec)

/-- ITS FALSE NEIGHBOUR: 'it returns false'. Refute it at one input. -/
def compactWorksWrong : ChangeSpec := { name := "compactWorks", fn := fun _ => fun
  | [d] => { results := [.lit (.bool false)], args := [d] }
  | _ => none }
def CompactWorksWrongFalsely : Prop := compactWorksRow.holds Try.pinned (OpenSpec.ofChange compactWorksWrong)

/-- 'mastheadlaw18.PaceLasts': WHATEVER THE INPUT: true; the input reads as it did. -/
def paceLastsSpec : ChangeSpec := { name := "paceLasts", fn := fun _ => fun
  | [d] => { results := [.lit (.bool true)], args := [d] }
  | _ => none }
def paceLastsRow : OpenClaim := { program := "ytelhickgimgbaaa", sum := "0c6e4cd2f1593711b12deaae4c04916f938b46dc93cae1624257aab16c5163e2", func := "masthead/mastheadlaw18.PaceLasts", spec := "paceLasts", inPlace := ["math/bits.Add64"], named := ["math/bits.divideError", "math/bits.overflowError"], apart := false }
def PaceLastsSaid : Prop := paceLastsRow.holds Try.pinned (OpenSpec.ofChange paceLastsSpec)

/-- ITS FALSE NEIGHBOUR: 'it returns false'. Refute it at one input. -/
def paceLastsWrong : ChangeSpec := { name := "paceLasts", fn := fun _ => fun
  | [d] => { results := [.lit (.bool false)], args := [d] }
  | _ => none }
def PaceLastsWrongFalsely : Prop := paceLastsRow.holds Try.pinned (OpenSpec.ofChange paceLastsWrong)

/-- 'mastheadlaw18.PaceKeeps': WHATEVER THE INPUT: true; the input reads as it did. -/
def paceKeepsSpec : ChangeSpec := { name := "paceKeeps", fn := fun _ => fun
  | [d1, d2, d3] => { results := [.lit (.bool true)], args := [d1, d2, d3] }
  | _ => none }
def paceKeepsRow : OpenClaim := { program := "ytelhickgimgbaaa", sum := "0c6e4cd2f1593711b12deaae4c04916f938b46dc93cae1624257aab16c5163e2", func := "masthead/mastheadlaw18.PaceKeeps", spec := "paceKeeps", inPlace := ["math/bits.Add64"], named := ["math/bits.divideError", "math/bits.overflowError"], apart := false }
def PaceKeepsSaid : Prop := paceKeepsRow.holds Try.pinned (OpenSpec.ofChange paceKeepsSpec)

/-- ITS FALSE NEIGHBOUR: 'it returns false'. Refute it at one input. -/
def paceKeepsWrong : ChangeSpec := { name := "paceKeeps", fn := fun _ => fun
  | [d1, d2, d3] => { results := [.lit (.bool false)], args := [d1, d2, d3] }
  | _ => none }
def PaceKeepsWrongFalsely : Prop := paceKeepsRow.holds Try.pinned (OpenSpec.ofChange paceKeepsWrong)

/-- 'mastheadlaw18.PaceRises': WHATEVER THE INPUT: true; the input reads as it did. -/
def paceRisesSpec : ChangeSpec := { name := "paceRises", fn := fun _ => fun
  | [d1, d2, d3] => { results := [.lit (.bool true)], args := [d1, d2, d3] }
  | _ => none }
def paceRisesRow : OpenClaim := { program := "ytelhickgimgbaaa", sum := "0c6e4cd2f1593711b12deaae4c04916f938b46dc93cae1624257aab16c5163e2", func := "masthead/mastheadlaw18.PaceRises", spec := "paceRises", inPlace := ["math/bits.Add64"], named := ["math/bits.divideError", "math/bits.overflowError"], apart := false }
def PaceRisesSaid : Prop := paceRisesRow.holds Try.pinned (OpenSpec.ofChange paceRisesSpec)

/-- ITS FALSE NEIGHBOUR: 'it returns false'. Refute it at one input. -/
def paceRisesWrong : ChangeSpec := { name := "paceRises", fn := fun _ => fun
  | [d1, d2, d3] => { results := [.lit (.bool false)], args := [d1, d2, d3] }
  | _ => none }
def PaceRisesWrongFalsely : Prop := paceRisesRow.holds Try.pinned (OpenSpec.ofChange paceRisesWrong)

/-- 'mastheadlaw05.CompactRounds': WHATEVER THE INPUT: true; the input reads as it did. -/
def compactRoundsSpec : ChangeSpec := { name := "compactRounds", fn := fun _ => fun
  | [d] => { results := [.lit (.bool true)], args := [d] }
  | _ => none }
def compactRoundsRow : OpenClaim := { program := "ytelhickgimgbaaa", sum := "0c6e4cd2f1593711b12deaae4c04916f938b46dc93cae1624257aab16c5163e2", func := "masthead/mastheadlaw05.CompactRounds", spec := "compactRounds", inPlace := ["math/bits.Add64", "math/bits.Sub64"], apart := false }
def CompactRoundsSaid : Prop := compactRoundsRow.holds Try.pinned (OpenSpec.ofChange compactRoundsSpec)

/-- ITS FALSE NEIGHBOUR: 'it returns false'. Refute it at one input. -/
def compactRoundsWrong : ChangeSpec := { name := "compactRounds", fn := fun _ => fun
  | [d] => { results := [.lit (.bool false)], args := [d] }
  | _ => none }
def CompactRoundsWrongFalsely : Prop := compactRoundsRow.holds Try.pinned (OpenSpec.ofChange compactRoundsWrong)

/-- 'mastheadlaw05.CompactFalls': WHATEVER THE INPUT: true; the input reads as it did. -/
def compactFallsSpec : ChangeSpec := { name := "compactFalls", fn := fun _ => fun
  | [d1, d2] => { results := [.lit (.bool true)], args := [d1, d2] }
  | _ => none }
def compactFallsRow : OpenClaim := { program := "ytelhickgimgbaaa", sum := "0c6e4cd2f1593711b12deaae4c04916f938b46dc93cae1624257aab16c5163e2", func := "masthead/mastheadlaw05.CompactFalls", spec := "compactFalls", inPlace := ["math/bits.Add64", "math/bits.Sub64"], apart := false }
def CompactFallsSaid : Prop := compactFallsRow.holds Try.pinned (OpenSpec.ofChange compactFallsSpec)

/-- ITS FALSE NEIGHBOUR: 'it returns false'. Refute it at one input. -/
def compactFallsWrong : ChangeSpec := { name := "compactFalls", fn := fun _ => fun
  | [d1, d2] => { results := [.lit (.bool false)], args := [d1, d2] }
  | _ => none }
def CompactFallsWrongFalsely : Prop := compactFallsRow.holds Try.pinned (OpenSpec.ofChange compactFallsWrong)

/-- 'mastheadlaw05.CompactOrder': WHATEVER THE INPUT: true; the input reads as it did. -/
def compactOrderSpec : ChangeSpec := { name := "compactOrder", fn := fun _ => fun
  | [d1, d2] => { results := [.lit (.bool true)], args := [d1, d2] }
  | _ => none }
def compactOrderRow : OpenClaim := { program := "ytelhickgimgbaaa", sum := "0c6e4cd2f1593711b12deaae4c04916f938b46dc93cae1624257aab16c5163e2", func := "masthead/mastheadlaw05.CompactOrder", spec := "compactOrder", inPlace := ["math/bits.Add64", "math/bits.Sub64"], apart := false }
def CompactOrderSaid : Prop := compactOrderRow.holds Try.pinned (OpenSpec.ofChange compactOrderSpec)

/-- ITS FALSE NEIGHBOUR: 'it returns false'. Refute it at one input. -/
def compactOrderWrong : ChangeSpec := { name := "compactOrder", fn := fun _ => fun
  | [d1, d2] => { results := [.lit (.bool false)], args := [d1, d2] }
  | _ => none }
def CompactOrderWrongFalsely : Prop := compactOrderRow.holds Try.pinned (OpenSpec.ofChange compactOrderWrong)

/-- 'mastheadlaw18.PaceClamps': WHATEVER THE INPUT: true; the input reads as it did. -/
def paceClampsSpec : ChangeSpec := { name := "paceClamps", fn := fun _ => fun
  | [d1, d2, d3] => { results := [.lit (.bool true)], args := [d1, d2, d3] }
  | _ => none }
def paceClampsRow : OpenClaim := { program := "ytelhickgimgbaaa", sum := "0c6e4cd2f1593711b12deaae4c04916f938b46dc93cae1624257aab16c5163e2", func := "masthead/mastheadlaw18.PaceClamps", spec := "paceClamps", inPlace := ["math/bits.Add64"], named := ["math/bits.divideError", "math/bits.overflowError"], apart := false }
def PaceClampsSaid : Prop := paceClampsRow.holds Try.pinned (OpenSpec.ofChange paceClampsSpec)

/-- ITS FALSE NEIGHBOUR: 'it returns false'. Refute it at one input. -/
def paceClampsWrong : ChangeSpec := { name := "paceClamps", fn := fun _ => fun
  | [d1, d2, d3] => { results := [.lit (.bool false)], args := [d1, d2, d3] }
  | _ => none }
def PaceClampsWrongFalsely : Prop := paceClampsRow.holds Try.pinned (OpenSpec.ofChange paceClampsWrong)

/-- 'mastheadlaw18.PaceBits': WHATEVER THE INPUT: true; the input reads as it did. -/
def paceBitsSpec : ChangeSpec := { name := "paceBits", fn := fun _ => fun
  | [d1, d2, d3] => { results := [.lit (.bool true)], args := [d1, d2, d3] }
  | _ => none }
def paceBitsRow : OpenClaim := { program := "ytelhickgimgbaaa", sum := "0c6e4cd2f1593711b12deaae4c04916f938b46dc93cae1624257aab16c5163e2", func := "masthead/mastheadlaw18.PaceBits", spec := "paceBits", inPlace := ["math/bits.Add64"], named := ["math/bits.divideError", "math/bits.overflowError"], apart := false }
def PaceBitsSaid : Prop := paceBitsRow.holds Try.pinned (OpenSpec.ofChange paceBitsSpec)

/-- ITS FALSE NEIGHBOUR: 'it returns false'. Refute it at one input. -/
def paceBitsWrong : ChangeSpec := { name := "paceBits", fn := fun _ => fun
  | [d1, d2, d3] => { results := [.lit (.bool false)], args := [d1, d2, d3] }
  | _ => none }
def PaceBitsWrongFalsely : Prop := paceBitsRow.holds Try.pinned (OpenSpec.ofChange paceBitsWrong)

/- THE SECOND FORM. 'bulk': how many values and letters a reading holds, each counted each time it is reached (what is shared counts as often as it is met; a slice's spare places count too). A statement '..UptoSaid' is the law's where the arguments, and the package variables that the reading takes, are together of bulk at most 1048576: NARROWER than '..Said'. Prove '..Said' where nothing that the law and all that it calls make is longer than what came in: it says more and counts as full. Else prove '..UptoSaid'. A law counts once. -/
mutual
def uptoBulk {H : Type} : DataW H → Nat
  | .lit (.string bytes) => bytes.length + 1
  | .lit _ => 1
  | .nil => 1
  | .ptr d => uptoBulk d + 1
  | .slice elems spare => uptoBulkAll elems + uptoBulkAll spare + 1
  | .agg parts => uptoBulkAll parts + 1
  | .iface _ d => uptoBulk d + 1
  | .map entries => uptoBulkEntries entries + 1
  | .held _ => 1
def uptoBulkAll {H : Type} : List (DataW H) → Nat
  | [] => 0
  | d :: r => uptoBulk d + uptoBulkAll r
def uptoBulkEntries {H : Type} : List (Lit × DataW H) → Nat
  | [] => 0
  | x :: r => uptoBulkEntry x + uptoBulkEntries r
def uptoBulkEntry {H : Type} : Lit × DataW H → Nat
  | (.string bytes, d) => bytes.length + uptoBulk d + 1
  | (_, d) => uptoBulk d + 1
 end
def uptoSmall : (H : Type) → List (DataW H) → Bool := fun _ ds => decide (uptoBulkAll ds ≤ 1048576)
def OpenSpec.upto (s : _root_.Go.ChangeSpec) : _root_.Go.OpenSpec := { _root_.Go.OpenSpec.ofChange s with cond := some uptoSmall }

/-- 'mastheadlaw05.CompactTargets', WHERE WHAT IT READS IS OF BULK AT MOST 1048576: true; the input reads as it did. -/
def compactTargetsUptoRow : OpenClaim := { program := "ytelhickgimgbaaa", sum := "0c6e4cd2f1593711b12deaae4c04916f938b46dc93cae1624257aab16c5163e2", func := "masthead/mastheadlaw05.CompactTargets", spec := "compactTargets", inPlace := ["math/bits.Add64", "math/bits.Sub64"], apart := false, narrowed := true }
def CompactTargetsUptoSaid : Prop := compactTargetsUptoRow.holds Try.pinned (OpenSpec.upto compactTargetsSpec)

/-- 'mastheadlaw05.CompactBits', WHERE WHAT IT READS IS OF BULK AT MOST 1048576: true; the input reads as it did. -/
def compactBitsUptoRow : OpenClaim := { program := "ytelhickgimgbaaa", sum := "0c6e4cd2f1593711b12deaae4c04916f938b46dc93cae1624257aab16c5163e2", func := "masthead/mastheadlaw05.CompactBits", spec := "compactBits", inPlace := ["math/bits.Add64", "math/bits.Sub64"], apart := false, narrowed := true }
def CompactBitsUptoSaid : Prop := compactBitsUptoRow.holds Try.pinned (OpenSpec.upto compactBitsSpec)

/-- 'mastheadlaw05.CompactBack', WHERE WHAT IT READS IS OF BULK AT MOST 1048576: true; the input reads as it did. -/
def compactBackUptoRow : OpenClaim := { program := "ytelhickgimgbaaa", sum := "0c6e4cd2f1593711b12deaae4c04916f938b46dc93cae1624257aab16c5163e2", func := "masthead/mastheadlaw05.CompactBack", spec := "compactBack", inPlace := ["math/bits.Add64", "math/bits.Sub64"], apart := false, narrowed := true }
def CompactBackUptoSaid : Prop := compactBackUptoRow.holds Try.pinned (OpenSpec.upto compactBackSpec)

/-- 'mastheadlaw05.CompactWorks', WHERE WHAT IT READS IS OF BULK AT MOST 1048576: true; the input reads as it did. -/
def compactWorksUptoRow : OpenClaim := { program := "ytelhickgimgbaaa", sum := "0c6e4cd2f1593711b12deaae4c04916f938b46dc93cae1624257aab16c5163e2", func := "masthead/mastheadlaw05.CompactWorks", spec := "compactWorks", inPlace := ["math/bits.Add64", "math/bits.Sub64"], apart := false, narrowed := true }
def CompactWorksUptoSaid : Prop := compactWorksUptoRow.holds Try.pinned (OpenSpec.upto compactWorksSpec)

/-- 'mastheadlaw18.PaceLasts', WHERE WHAT IT READS IS OF BULK AT MOST 1048576: true; the input reads as it did. -/
def paceLastsUptoRow : OpenClaim := { program := "ytelhickgimgbaaa", sum := "0c6e4cd2f1593711b12deaae4c04916f938b46dc93cae1624257aab16c5163e2", func := "masthead/mastheadlaw18.PaceLasts", spec := "paceLasts", inPlace := ["math/bits.Add64"], named := ["math/bits.divideError", "math/bits.overflowError"], apart := false, narrowed := true }
def PaceLastsUptoSaid : Prop := paceLastsUptoRow.holds Try.pinned (OpenSpec.upto paceLastsSpec)

/-- 'mastheadlaw18.PaceKeeps', WHERE WHAT IT READS IS OF BULK AT MOST 1048576: true; the input reads as it did. -/
def paceKeepsUptoRow : OpenClaim := { program := "ytelhickgimgbaaa", sum := "0c6e4cd2f1593711b12deaae4c04916f938b46dc93cae1624257aab16c5163e2", func := "masthead/mastheadlaw18.PaceKeeps", spec := "paceKeeps", inPlace := ["math/bits.Add64"], named := ["math/bits.divideError", "math/bits.overflowError"], apart := false, narrowed := true }
def PaceKeepsUptoSaid : Prop := paceKeepsUptoRow.holds Try.pinned (OpenSpec.upto paceKeepsSpec)

/-- 'mastheadlaw18.PaceRises', WHERE WHAT IT READS IS OF BULK AT MOST 1048576: true; the input reads as it did. -/
def paceRisesUptoRow : OpenClaim := { program := "ytelhickgimgbaaa", sum := "0c6e4cd2f1593711b12deaae4c04916f938b46dc93cae1624257aab16c5163e2", func := "masthead/mastheadlaw18.PaceRises", spec := "paceRises", inPlace := ["math/bits.Add64"], named := ["math/bits.divideError", "math/bits.overflowError"], apart := false, narrowed := true }
def PaceRisesUptoSaid : Prop := paceRisesUptoRow.holds Try.pinned (OpenSpec.upto paceRisesSpec)

/-- 'mastheadlaw05.CompactRounds', WHERE WHAT IT READS IS OF BULK AT MOST 1048576: true; the input reads as it did. -/
def compactRoundsUptoRow : OpenClaim := { program := "ytelhickgimgbaaa", sum := "0c6e4cd2f1593711b12deaae4c04916f938b46dc93cae1624257aab16c5163e2", func := "masthead/mastheadlaw05.CompactRounds", spec := "compactRounds", inPlace := ["math/bits.Add64", "math/bits.Sub64"], apart := false, narrowed := true }
def CompactRoundsUptoSaid : Prop := compactRoundsUptoRow.holds Try.pinned (OpenSpec.upto compactRoundsSpec)

/-- 'mastheadlaw05.CompactFalls', WHERE WHAT IT READS IS OF BULK AT MOST 1048576: true; the input reads as it did. -/
def compactFallsUptoRow : OpenClaim := { program := "ytelhickgimgbaaa", sum := "0c6e4cd2f1593711b12deaae4c04916f938b46dc93cae1624257aab16c5163e2", func := "masthead/mastheadlaw05.CompactFalls", spec := "compactFalls", inPlace := ["math/bits.Add64", "math/bits.Sub64"], apart := false, narrowed := true }
def CompactFallsUptoSaid : Prop := compactFallsUptoRow.holds Try.pinned (OpenSpec.upto compactFallsSpec)

/-- 'mastheadlaw05.CompactOrder', WHERE WHAT IT READS IS OF BULK AT MOST 1048576: true; the input reads as it did. -/
def compactOrderUptoRow : OpenClaim := { program := "ytelhickgimgbaaa", sum := "0c6e4cd2f1593711b12deaae4c04916f938b46dc93cae1624257aab16c5163e2", func := "masthead/mastheadlaw05.CompactOrder", spec := "compactOrder", inPlace := ["math/bits.Add64", "math/bits.Sub64"], apart := false, narrowed := true }
def CompactOrderUptoSaid : Prop := compactOrderUptoRow.holds Try.pinned (OpenSpec.upto compactOrderSpec)

/-- 'mastheadlaw18.PaceClamps', WHERE WHAT IT READS IS OF BULK AT MOST 1048576: true; the input reads as it did. -/
def paceClampsUptoRow : OpenClaim := { program := "ytelhickgimgbaaa", sum := "0c6e4cd2f1593711b12deaae4c04916f938b46dc93cae1624257aab16c5163e2", func := "masthead/mastheadlaw18.PaceClamps", spec := "paceClamps", inPlace := ["math/bits.Add64"], named := ["math/bits.divideError", "math/bits.overflowError"], apart := false, narrowed := true }
def PaceClampsUptoSaid : Prop := paceClampsUptoRow.holds Try.pinned (OpenSpec.upto paceClampsSpec)

/-- 'mastheadlaw18.PaceBits', WHERE WHAT IT READS IS OF BULK AT MOST 1048576: true; the input reads as it did. -/
def paceBitsUptoRow : OpenClaim := { program := "ytelhickgimgbaaa", sum := "0c6e4cd2f1593711b12deaae4c04916f938b46dc93cae1624257aab16c5163e2", func := "masthead/mastheadlaw18.PaceBits", spec := "paceBits", inPlace := ["math/bits.Add64"], named := ["math/bits.divideError", "math/bits.overflowError"], apart := false, narrowed := true }
def PaceBitsUptoSaid : Prop := paceBitsUptoRow.holds Try.pinned (OpenSpec.upto paceBitsSpec)

end Rows
end Go.Proofs.Ytelhickgimgbaaa
