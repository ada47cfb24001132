/-
  No cell of these rows narrows 'for every input' (looked for: loops, veiled, ifaces, maps, wideKeys, modest, calm, conditions, laid).
  DERIVED. THE GIVEN ROWS OF THIS SEAT. 5 by the template 'for every input the law returns true; each argument reads behind the call as it read before'; 0 by the template 'total and deterministic' (their statements: YtonpbpkkepacpaaTotals.lean).
  GIVEN WITH THE SEED: the statements are not yours to turn. If you find one false, say at which input.
  Laid BY PROGRAM, IN A SANDBOX (cutbox-rows.mjs): the forced cells as the released guide's own fill.sh prints them over the translation 0a7ab424e8fad9d2… (all of the seat's roots in one cut). By AI agents, Wed Nov 11 2026. No macro, syntax, notation, axiom, sorry.
-/
import Derived.Test.YtonpbpkkepacpaaChecked
import GoSem.Claim
import GoSem.ClaimJoined
import GoSem.ClaimMapViews
import Derived.JoinedTies
import Derived.KernelRfl
namespace Go.Proofs.Ytonpbpkkepacpaa
/- THE CELL 'sum', in the pinned program and in every row, IS THE sha256 OF THE DUMP (.gsa) THAT YtonpbpkkepacpaaProg.lean LOADS. Nothing in Lean hashes anything: it is a label: what it is worth is what the hold of that sum in a sandbox is worth. -/
noncomputable def Try.pinned : Pinned := { name := "ytonpbpkkepacpaa", sum := "0a7ab424e8fad9d251a5c6d2391482d4ee42cde0fb593386796365043b57bf20", checked := Try.checked }
namespace Rows
def none {H : Type} : Left H := { results := [], args := [] }

/-- 'mastheadlaw03.SipHashes': WHATEVER THE INPUT: true; the input reads as it did. -/
def sipHashesSpec : ChangeSpec := { name := "sipHashes", fn := fun _ => fun
  | [d1, d2] => { results := [.lit (.bool true)], args := [d1, d2] }
  | _ => none }
def sipHashesRow : OpenClaim := { program := "ytonpbpkkepacpaa", sum := "0a7ab424e8fad9d251a5c6d2391482d4ee42cde0fb593386796365043b57bf20", func := "masthead/mastheadlaw03.SipHashes", spec := "sipHashes", apart := false }
def SipHashesSaid : Prop := sipHashesRow.holds Try.pinned (OpenSpec.ofChange sipHashesSpec)

/-- ITS FALSE NEIGHBOUR: 'it returns false'. Refute it at one input. -/
def sipHashesWrong : ChangeSpec := { name := "sipHashes", fn := fun _ => fun
  | [d1, d2] => { results := [.lit (.bool false)], args := [d1, d2] }
  | _ => none }
def SipHashesWrongFalsely : Prop := sipHashesRow.holds Try.pinned (OpenSpec.ofChange sipHashesWrong)

/-- 'mastheadlaw03.SipRounds': WHATEVER THE INPUT: true; the input reads as it did. -/
def sipRoundsSpec : ChangeSpec := { name := "sipRounds", fn := fun _ => fun
  | [d] => { results := [.lit (.bool true)], args := [d] }
  | _ => none }
def sipRoundsRow : OpenClaim := { program := "ytonpbpkkepacpaa", sum := "0a7ab424e8fad9d251a5c6d2391482d4ee42cde0fb593386796365043b57bf20", func := "masthead/mastheadlaw03.SipRounds", spec := "sipRounds", apart := false }
def SipRoundsSaid : Prop := sipRoundsRow.holds Try.pinned (OpenSpec.ofChange sipRoundsSpec)

/-- ITS FALSE NEIGHBOUR: 'it returns false'. Refute it at one input. -/
def sipRoundsWrong : ChangeSpec := { name := "sipRounds", fn := fun _ => fun
  | [d] => { results := [.lit (.bool false)], args := [d] }
  | _ => none }
def SipRoundsWrongFalsely : Prop := sipRoundsRow.holds Try.pinned (OpenSpec.ofChange sipRoundsWrong)

/-- 'mastheadlaw03.SipRanges': WHATEVER THE INPUT: true; the input reads as it did. -/
def sipRangesSpec : ChangeSpec := { name := "sipRanges", fn := fun _ => fun
  | [d1, d2] => { results := [.lit (.bool true)], args := [d1, d2] }
  | _ => none }
def sipRangesRow : OpenClaim := { program := "ytonpbpkkepacpaa", sum := "0a7ab424e8fad9d251a5c6d2391482d4ee42cde0fb593386796365043b57bf20", func := "masthead/mastheadlaw03.SipRanges", spec := "sipRanges", apart := false }
def SipRangesSaid : Prop := sipRangesRow.holds Try.pinned (OpenSpec.ofChange sipRangesSpec)

/-- ITS FALSE NEIGHBOUR: 'it returns false'. Refute it at one input. -/
def sipRangesWrong : ChangeSpec := { name := "sipRanges", fn := fun _ => fun
  | [d1, d2] => { results := [.lit (.bool false)], args := [d1, d2] }
  | _ => none }
def SipRangesWrongFalsely : Prop := sipRangesRow.holds Try.pinned (OpenSpec.ofChange sipRangesWrong)

/-- 'mastheadlaw03.SipRises': WHATEVER THE INPUT: true; the input reads as it did. -/
def sipRisesSpec : ChangeSpec := { name := "sipRises", fn := fun _ => fun
  | [d] => { results := [.lit (.bool true)], args := [d] }
  | _ => none }
def sipRisesRow : OpenClaim := { program := "ytonpbpkkepacpaa", sum := "0a7ab424e8fad9d251a5c6d2391482d4ee42cde0fb593386796365043b57bf20", func := "masthead/mastheadlaw03.SipRises", spec := "sipRises", apart := false }
def SipRisesSaid : Prop := sipRisesRow.holds Try.pinned (OpenSpec.ofChange sipRisesSpec)

/-- ITS FALSE NEIGHBOUR: 'it returns false'. Refute it at one input. -/
def sipRisesWrong : ChangeSpec := { name := "sipRises", fn := fun _ => fun
  | [d] => { results := [.lit (.bool false)], args := [d] }
  | _ => none }
def SipRisesWrongFalsely : Prop := sipRisesRow.holds Try.pinned (OpenSpec.ofChange sipRisesWrong)

/-- 'mastheadlaw03.SipKeys': WHATEVER THE INPUT: true; the input reads as it did. -/
def sipKeysSpec : ChangeSpec := { name := "sipKeys", fn := fun _ => fun
  | [d1, d2] => { results := [.lit (.bool true)], args := [d1, d2] }
  | _ => none }
def sipKeysRow : OpenClaim := { program := "ytonpbpkkepacpaa", sum := "0a7ab424e8fad9d251a5c6d2391482d4ee42cde0fb593386796365043b57bf20", func := "masthead/mastheadlaw03.SipKeys", spec := "sipKeys", apart := false }
def SipKeysSaid : Prop := sipKeysRow.holds Try.pinned (OpenSpec.ofChange sipKeysSpec)

/-- ITS FALSE NEIGHBOUR: 'it returns false'. Refute it at one input. -/
def sipKeysWrong : ChangeSpec := { name := "sipKeys", fn := fun _ => fun
  | [d1, d2] => { results := [.lit (.bool false)], args := [d1, d2] }
  | _ => none }
def SipKeysWrongFalsely : Prop := sipKeysRow.holds Try.pinned (OpenSpec.ofChange sipKeysWrong)

/- THE SECOND FORM. 'bulk': how many values and letters a reading holds, each counted each time it is reached (what is shared counts as often as it is met; a slice's spare places count too). A statement '..UptoSaid' is the law's where the arguments, and the package variables that the reading takes, are together of bulk at most 1048576: NARROWER than '..Said'. Prove '..Said' where nothing that the law and all that it calls make is longer than what came in: it says more and counts as full. Else prove '..UptoSaid'. A law counts once. -/
mutual
def uptoBulk {H : Type} : DataW H → Nat
  | .lit (.string bytes) => bytes.length + 1
  | .lit _ => 1
  | .nil => 1
  | .ptr d => uptoBulk d + 1
  | .slice elems spare => uptoBulkAll elems + uptoBulkAll spare + 1
  | .agg parts => uptoBulkAll parts + 1
  | .iface _ d => uptoBulk d + 1
  | .map entries => uptoBulkEntries entries + 1
  | .held _ => 1
def uptoBulkAll {H : Type} : List (DataW H) → Nat
  | [] => 0
  | d :: r => uptoBulk d + uptoBulkAll r
def uptoBulkEntries {H : Type} : List (Lit × DataW H) → Nat
  | [] => 0
  | x :: r => uptoBulkEntry x + uptoBulkEntries r
def uptoBulkEntry {H : Type} : Lit × DataW H → Nat
  | (.string bytes, d) => bytes.length + uptoBulk d + 1
  | (_, d) => uptoBulk d + 1
 end
def uptoSmall : (H : Type) → List (DataW H) → Bool := fun _ ds => decide (uptoBulkAll ds ≤ 1048576)
def OpenSpec.upto (s : _root_.Go.ChangeSpec) : _root_.Go.OpenSpec := { _root_.Go.OpenSpec.ofChange s with cond := some uptoSmall }

/-- 'mastheadlaw03.SipHashes', WHERE WHAT IT READS IS OF BULK AT MOST 1048576: true; the input reads as it did. -/
def sipHashesUptoRow : OpenClaim := { program := "ytonpbpkkepacpaa", sum := "0a7ab424e8fad9d251a5c6d2391482d4ee42cde0fb593386796365043b57bf20", func := "masthead/mastheadlaw03.SipHashes", spec := "sipHashes", apart := false, narrowed := true }
def SipHashesUptoSaid : Prop := sipHashesUptoRow.holds Try.pinned (OpenSpec.upto sipHashesSpec)

/-- 'mastheadlaw03.SipRounds', WHERE WHAT IT READS IS OF BULK AT MOST 1048576: true; the input reads as it did. -/
def sipRoundsUptoRow : OpenClaim := { program := "ytonpbpkkepacpaa", sum := "0a7ab424e8fad9d251a5c6d2391482d4ee42cde0fb593386796365043b57bf20", func := "masthead/mastheadlaw03.SipRounds", spec := "sipRounds", apart := false, narrowed := true }
def SipRoundsUptoSaid : Prop := sipRoundsUptoRow.holds Try.pinned (OpenSpec.upto sipRoundsSpec)

/-- 'mastheadlaw03.SipRanges', WHERE WHAT IT READS IS OF BULK AT MOST 1048576: true; the input reads as it did. -/
def sipRangesUptoRow : OpenClaim := { program := "ytonpbpkkepacpaa", sum := "0a7ab424e8fad9d251a5c6d2391482d4ee42cde0fb593386796365043b57bf20", func := "masthead/mastheadlaw03.SipRanges", spec := "sipRanges", apart := false, narrowed := true }
def SipRangesUptoSaid : Prop := sipRangesUptoRow.holds Try.pinned (OpenSpec.upto sipRangesSpec)

/-- 'mastheadlaw03.SipRises', WHERE WHAT IT READS IS OF BULK AT MOST 1048576: true; the input reads as it did. -/
def sipRisesUptoRow : OpenClaim := { program := "ytonpbpkkepacpaa", sum := "0a7ab424e8fad9d251a5c6d2391482d4ee42cde0fb593386796365043b57bf20", func := "masthead/mastheadlaw03.SipRises", spec := "sipRises", apart := false, narrowed := true }
def SipRisesUptoSaid : Prop := sipRisesUptoRow.holds Try.pinned (OpenSpec.upto sipRisesSpec)

/-- 'mastheadlaw03.SipKeys', WHERE WHAT IT READS IS OF BULK AT MOST 1048576: true; the input reads as it did. -/
def sipKeysUptoRow : OpenClaim := { program := "ytonpbpkkepacpaa", sum := "0a7ab424e8fad9d251a5c6d2391482d4ee42cde0fb593386796365043b57bf20", func := "masthead/mastheadlaw03.SipKeys", spec := "sipKeys", apart := false, narrowed := true }
def SipKeysUptoSaid : Prop := sipKeysUptoRow.holds Try.pinned (OpenSpec.upto sipKeysSpec)

end Rows
end Go.Proofs.Ytonpbpkkepacpaa
