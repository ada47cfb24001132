/-
  No cell of these rows narrows 'for every input' (looked for: loops, veiled, ifaces, maps, wideKeys, modest, calm, conditions, laid).
  DERIVED. THE GIVEN ROWS OF THIS SEAT. 5 by the template 'for every input the law returns true; each argument reads behind the call as it read before'; 0 by the template 'total and deterministic' (their statements: YtbioclollbemeaaTotals.lean).
  GIVEN WITH THE SEED: the statements are not yours to turn. If you find one false, say at which input.
  Laid BY PROGRAM, IN A SANDBOX (cutbox-rows.mjs): the forced cells as the released guide's own fill.sh prints them over the translation c036f95c5d070164… (all of the seat's roots in one cut). By AI agents, Wed Nov 11 2026. No macro, syntax, notation, axiom, sorry.
-/
import Derived.Test.YtbioclollbemeaaChecked
import GoSem.Claim
import GoSem.ClaimJoined
import GoSem.ClaimMapViews
import Derived.JoinedTies
import Derived.KernelRfl
namespace Go.Proofs.Ytbioclollbemeaa
/- THE CELL 'sum', in the pinned program and in every row, IS THE sha256 OF THE DUMP (.gsa) THAT YtbioclollbemeaaProg.lean LOADS. Nothing in Lean hashes anything: it is a label: what it is worth is what the hold of that sum in a sandbox is worth. -/
noncomputable def Try.pinned : Pinned := { name := "ytbioclollbemeaa", sum := "c036f95c5d070164dcfa7756e36d2552d5d0525df5ba0b451d5c32bfa8a18a13", checked := Try.checked }
namespace Rows
def none {H : Type} : Left H := { results := [], args := [] }

/-- 'mastheadlaw24.PeerDelays': WHATEVER THE INPUT: true; the input reads as it did. -/
def peerDelaysSpec : ChangeSpec := { name := "peerDelays", fn := fun _ => fun
  | [d1, d2, d3] => { results := [.lit (.bool true)], args := [d1, d2, d3] }
  | _ => none }
def peerDelaysRow : OpenClaim := { program := "ytbioclollbemeaa", sum := "c036f95c5d070164dcfa7756e36d2552d5d0525df5ba0b451d5c32bfa8a18a13", func := "masthead/mastheadlaw24.PeerDelays", spec := "peerDelays", plainKeys := false, apart := false }
def PeerDelaysSaid : Prop := peerDelaysRow.holds Try.pinned (OpenSpec.ofChange peerDelaysSpec)

/-- ITS FALSE NEIGHBOUR: 'it returns false'. Refute it at one input. -/
def peerDelaysWrong : ChangeSpec := { name := "peerDelays", fn := fun _ => fun
  | [d1, d2, d3] => { results := [.lit (.bool false)], args := [d1, d2, d3] }
  | _ => none }
def PeerDelaysWrongFalsely : Prop := peerDelaysRow.holds Try.pinned (OpenSpec.ofChange peerDelaysWrong)

/-- 'mastheadlaw24.PeerNever': WHATEVER THE INPUT: true; the input reads as it did. -/
def peerNeverSpec : ChangeSpec := { name := "peerNever", fn := fun _ => fun
  | [d1, d2, d3] => { results := [.lit (.bool true)], args := [d1, d2, d3] }
  | _ => none }
def peerNeverRow : OpenClaim := { program := "ytbioclollbemeaa", sum := "c036f95c5d070164dcfa7756e36d2552d5d0525df5ba0b451d5c32bfa8a18a13", func := "masthead/mastheadlaw24.PeerNever", spec := "peerNever", plainKeys := false, apart := false }
def PeerNeverSaid : Prop := peerNeverRow.holds Try.pinned (OpenSpec.ofChange peerNeverSpec)

/-- ITS FALSE NEIGHBOUR: 'it returns false'. Refute it at one input. -/
def peerNeverWrong : ChangeSpec := { name := "peerNever", fn := fun _ => fun
  | [d1, d2, d3] => { results := [.lit (.bool false)], args := [d1, d2, d3] }
  | _ => none }
def PeerNeverWrongFalsely : Prop := peerNeverRow.holds Try.pinned (OpenSpec.ofChange peerNeverWrong)

/-- 'mastheadlaw24.PeerLate': WHATEVER THE INPUT: true; the input reads as it did. -/
def peerLateSpec : ChangeSpec := { name := "peerLate", fn := fun _ => fun
  | [d] => { results := [.lit (.bool true)], args := [d] }
  | _ => none }
def peerLateRow : OpenClaim := { program := "ytbioclollbemeaa", sum := "c036f95c5d070164dcfa7756e36d2552d5d0525df5ba0b451d5c32bfa8a18a13", func := "masthead/mastheadlaw24.PeerLate", spec := "peerLate", plainKeys := false, apart := false }
def PeerLateSaid : Prop := peerLateRow.holds Try.pinned (OpenSpec.ofChange peerLateSpec)

/-- ITS FALSE NEIGHBOUR: 'it returns false'. Refute it at one input. -/
def peerLateWrong : ChangeSpec := { name := "peerLate", fn := fun _ => fun
  | [d] => { results := [.lit (.bool false)], args := [d] }
  | _ => none }
def PeerLateWrongFalsely : Prop := peerLateRow.holds Try.pinned (OpenSpec.ofChange peerLateWrong)

/-- 'mastheadlaw24.PeerBans': WHATEVER THE INPUT: true; the input reads as it did. -/
def peerBansSpec : ChangeSpec := { name := "peerBans", fn := fun _ => fun
  | [d1, d2, d3] => { results := [.lit (.bool true)], args := [d1, d2, d3] }
  | _ => none }
def peerBansRow : OpenClaim := { program := "ytbioclollbemeaa", sum := "c036f95c5d070164dcfa7756e36d2552d5d0525df5ba0b451d5c32bfa8a18a13", func := "masthead/mastheadlaw24.PeerBans", spec := "peerBans", plainKeys := false, apart := false }
def PeerBansSaid : Prop := peerBansRow.holds Try.pinned (OpenSpec.ofChange peerBansSpec)

/-- ITS FALSE NEIGHBOUR: 'it returns false'. Refute it at one input. -/
def peerBansWrong : ChangeSpec := { name := "peerBans", fn := fun _ => fun
  | [d1, d2, d3] => { results := [.lit (.bool false)], args := [d1, d2, d3] }
  | _ => none }
def PeerBansWrongFalsely : Prop := peerBansRow.holds Try.pinned (OpenSpec.ofChange peerBansWrong)

/-- 'mastheadlaw24.PeerPlays': WHATEVER THE INPUT: true; the input reads as it did. -/
def peerPlaysSpec : ChangeSpec := { name := "peerPlays", fn := fun _ => fun
  | [d1, d2, d3] => { results := [.lit (.bool true)], args := [d1, d2, d3] }
  | _ => none }
def peerPlaysRow : OpenClaim := { program := "ytbioclollbemeaa", sum := "c036f95c5d070164dcfa7756e36d2552d5d0525df5ba0b451d5c32bfa8a18a13", func := "masthead/mastheadlaw24.PeerPlays", spec := "peerPlays", plainKeys := false, apart := false }
def PeerPlaysSaid : Prop := peerPlaysRow.holds Try.pinned (OpenSpec.ofChange peerPlaysSpec)

/-- ITS FALSE NEIGHBOUR: 'it returns false'. Refute it at one input. -/
def peerPlaysWrong : ChangeSpec := { name := "peerPlays", fn := fun _ => fun
  | [d1, d2, d3] => { results := [.lit (.bool false)], args := [d1, d2, d3] }
  | _ => none }
def PeerPlaysWrongFalsely : Prop := peerPlaysRow.holds Try.pinned (OpenSpec.ofChange peerPlaysWrong)

/- THE SECOND FORM. 'bulk': how many values and letters a reading holds, each counted each time it is reached (what is shared counts as often as it is met; a slice's spare places count too). A statement '..UptoSaid' is the law's where the arguments, and the package variables that the reading takes, are together of bulk at most 1048576: NARROWER than '..Said'. Prove '..Said' where nothing that the law and all that it calls make is longer than what came in: it says more and counts as full. Else prove '..UptoSaid'. A law counts once. -/
mutual
def uptoBulk {H : Type} : DataW H → Nat
  | .lit (.string bytes) => bytes.length + 1
  | .lit _ => 1
  | .nil => 1
  | .ptr d => uptoBulk d + 1
  | .slice elems spare => uptoBulkAll elems + uptoBulkAll spare + 1
  | .agg parts => uptoBulkAll parts + 1
  | .iface _ d => uptoBulk d + 1
  | .map entries => uptoBulkEntries entries + 1
  | .held _ => 1
def uptoBulkAll {H : Type} : List (DataW H) → Nat
  | [] => 0
  | d :: r => uptoBulk d + uptoBulkAll r
def uptoBulkEntries {H : Type} : List (Lit × DataW H) → Nat
  | [] => 0
  | x :: r => uptoBulkEntry x + uptoBulkEntries r
def uptoBulkEntry {H : Type} : Lit × DataW H → Nat
  | (.string bytes, d) => bytes.length + uptoBulk d + 1
  | (_, d) => uptoBulk d + 1
 end
def uptoSmall : (H : Type) → List (DataW H) → Bool := fun _ ds => decide (uptoBulkAll ds ≤ 1048576)
def OpenSpec.upto (s : _root_.Go.ChangeSpec) : _root_.Go.OpenSpec := { _root_.Go.OpenSpec.ofChange s with cond := some uptoSmall }

/-- 'mastheadlaw24.PeerDelays', WHERE WHAT IT READS IS OF BULK AT MOST 1048576: true; the input reads as it did. -/
def peerDelaysUptoRow : OpenClaim := { program := "ytbioclollbemeaa", sum := "c036f95c5d070164dcfa7756e36d2552d5d0525df5ba0b451d5c32bfa8a18a13", func := "masthead/mastheadlaw24.PeerDelays", spec := "peerDelays", plainKeys := false, apart := false, narrowed := true }
def PeerDelaysUptoSaid : Prop := peerDelaysUptoRow.holds Try.pinned (OpenSpec.upto peerDelaysSpec)

/-- 'mastheadlaw24.PeerNever', WHERE WHAT IT READS IS OF BULK AT MOST 1048576: true; the input reads as it did. -/
def peerNeverUptoRow : OpenClaim := { program := "ytbioclollbemeaa", sum := "c036f95c5d070164dcfa7756e36d2552d5d0525df5ba0b451d5c32bfa8a18a13", func := "masthead/mastheadlaw24.PeerNever", spec := "peerNever", plainKeys := false, apart := false, narrowed := true }
def PeerNeverUptoSaid : Prop := peerNeverUptoRow.holds Try.pinned (OpenSpec.upto peerNeverSpec)

/-- 'mastheadlaw24.PeerLate', WHERE WHAT IT READS IS OF BULK AT MOST 1048576: true; the input reads as it did. -/
def peerLateUptoRow : OpenClaim := { program := "ytbioclollbemeaa", sum := "c036f95c5d070164dcfa7756e36d2552d5d0525df5ba0b451d5c32bfa8a18a13", func := "masthead/mastheadlaw24.PeerLate", spec := "peerLate", plainKeys := false, apart := false, narrowed := true }
def PeerLateUptoSaid : Prop := peerLateUptoRow.holds Try.pinned (OpenSpec.upto peerLateSpec)

/-- 'mastheadlaw24.PeerBans', WHERE WHAT IT READS IS OF BULK AT MOST 1048576: true; the input reads as it did. -/
def peerBansUptoRow : OpenClaim := { program := "ytbioclollbemeaa", sum := "c036f95c5d070164dcfa7756e36d2552d5d0525df5ba0b451d5c32bfa8a18a13", func := "masthead/mastheadlaw24.PeerBans", spec := "peerBans", plainKeys := false, apart := false, narrowed := true }
def PeerBansUptoSaid : Prop := peerBansUptoRow.holds Try.pinned (OpenSpec.upto peerBansSpec)

/-- 'mastheadlaw24.PeerPlays', WHERE WHAT IT READS IS OF BULK AT MOST 1048576: true; the input reads as it did. -/
def peerPlaysUptoRow : OpenClaim := { program := "ytbioclollbemeaa", sum := "c036f95c5d070164dcfa7756e36d2552d5d0525df5ba0b451d5c32bfa8a18a13", func := "masthead/mastheadlaw24.PeerPlays", spec := "peerPlays", plainKeys := false, apart := false, narrowed := true }
def PeerPlaysUptoSaid : Prop := peerPlaysUptoRow.holds Try.pinned (OpenSpec.upto peerPlaysSpec)

end Rows
end Go.Proofs.Ytbioclollbemeaa
