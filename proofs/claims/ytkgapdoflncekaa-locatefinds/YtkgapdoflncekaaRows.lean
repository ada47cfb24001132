/-
  No cell of these rows narrows 'for every input' (looked for: loops, veiled, ifaces, maps, wideKeys, modest, calm, conditions, laid).
  DERIVED. THE GIVEN ROWS OF THIS SEAT. 5 by the template 'for every input the law returns true; each argument reads behind the call as it read before'; 0 by the template 'total and deterministic' (their statements: YtkgapdoflncekaaTotals.lean).
  GIVEN WITH THE SEED: the statements are not yours to turn. If you find one false, say at which input.
  Laid BY PROGRAM, IN A SANDBOX (cutbox-rows.mjs): the forced cells as the released guide's own fill.sh prints them over the translation 7c616404edab7a6d… (all of the seat's roots in one cut). By AI agents, Wed Nov 11 2026. No macro, syntax, notation, axiom, sorry.
-/
import Derived.Test.YtkgapdoflncekaaChecked
import GoSem.Claim
import GoSem.ClaimJoined
import GoSem.ClaimMapViews
import Derived.JoinedTies
import Derived.KernelRfl
namespace Go.Proofs.Ytkgapdoflncekaa
/- THE CELL 'sum', in the pinned program and in every row, IS THE sha256 OF THE DUMP (.gsa) THAT YtkgapdoflncekaaProg.lean LOADS. Nothing in Lean hashes anything: it is a label: what it is worth is what the hold of that sum in a sandbox is worth. -/
noncomputable def Try.pinned : Pinned := { name := "ytkgapdoflncekaa", sum := "7c616404edab7a6d75ec346ec4fbc0928f91e916af71d3a6cda8d64ac54b6387", checked := Try.checked }
namespace Rows
def none {H : Type} : Left H := { results := [], args := [] }

/-- 'mastheadlaw21.LocateMakes': WHATEVER THE INPUT: true; the input reads as it did. -/
def locateMakesSpec : ChangeSpec := { name := "locateMakes", fn := fun _ => fun
  | [d] => { results := [.lit (.bool true)], args := [d] }
  | _ => none }
def locateMakesRow : OpenClaim := { program := "ytkgapdoflncekaa", sum := "7c616404edab7a6d75ec346ec4fbc0928f91e916af71d3a6cda8d64ac54b6387", func := "masthead/mastheadlaw21.LocateMakes", spec := "locateMakes", plainKeys := false, apart := false }
def LocateMakesSaid : Prop := locateMakesRow.holds Try.pinned (OpenSpec.ofChange locateMakesSpec)

/-- ITS FALSE NEIGHBOUR: 'it returns false'. Refute it at one input. -/
def locateMakesWrong : ChangeSpec := { name := "locateMakes", fn := fun _ => fun
  | [d] => { results := [.lit (.bool false)], args := [d] }
  | _ => none }
def LocateMakesWrongFalsely : Prop := locateMakesRow.holds Try.pinned (OpenSpec.ofChange locateMakesWrong)

/-- 'mastheadlaw21.LocateForks': WHATEVER THE INPUT: true; the input reads as it did. -/
def locateForksSpec : ChangeSpec := { name := "locateForks", fn := fun _ => fun
  | [d1, d2] => { results := [.lit (.bool true)], args := [d1, d2] }
  | _ => none }
def locateForksRow : OpenClaim := { program := "ytkgapdoflncekaa", sum := "7c616404edab7a6d75ec346ec4fbc0928f91e916af71d3a6cda8d64ac54b6387", func := "masthead/mastheadlaw21.LocateForks", spec := "locateForks", plainKeys := false, apart := false }
def LocateForksSaid : Prop := locateForksRow.holds Try.pinned (OpenSpec.ofChange locateForksSpec)

/-- ITS FALSE NEIGHBOUR: 'it returns false'. Refute it at one input. -/
def locateForksWrong : ChangeSpec := { name := "locateForks", fn := fun _ => fun
  | [d1, d2] => { results := [.lit (.bool false)], args := [d1, d2] }
  | _ => none }
def LocateForksWrongFalsely : Prop := locateForksRow.holds Try.pinned (OpenSpec.ofChange locateForksWrong)

/-- 'mastheadlaw21.LocateFinds': WHATEVER THE INPUT: true; the input reads as it did. -/
def locateFindsSpec : ChangeSpec := { name := "locateFinds", fn := fun _ => fun
  | [d1, d2, d3] => { results := [.lit (.bool true)], args := [d1, d2, d3] }
  | _ => none }
def locateFindsRow : OpenClaim := { program := "ytkgapdoflncekaa", sum := "7c616404edab7a6d75ec346ec4fbc0928f91e916af71d3a6cda8d64ac54b6387", func := "masthead/mastheadlaw21.LocateFinds", spec := "locateFinds", plainKeys := false, apart := false }
def LocateFindsSaid : Prop := locateFindsRow.holds Try.pinned (OpenSpec.ofChange locateFindsSpec)

/-- ITS FALSE NEIGHBOUR: 'it returns false'. Refute it at one input. -/
def locateFindsWrong : ChangeSpec := { name := "locateFinds", fn := fun _ => fun
  | [d1, d2, d3] => { results := [.lit (.bool false)], args := [d1, d2, d3] }
  | _ => none }
def LocateFindsWrongFalsely : Prop := locateFindsRow.holds Try.pinned (OpenSpec.ofChange locateFindsWrong)

/-- 'mastheadlaw21.LocateAfter': WHATEVER THE INPUT: true; the input reads as it did. -/
def locateAfterSpec : ChangeSpec := { name := "locateAfter", fn := fun _ => fun
  | [d] => { results := [.lit (.bool true)], args := [d] }
  | _ => none }
def locateAfterRow : OpenClaim := { program := "ytkgapdoflncekaa", sum := "7c616404edab7a6d75ec346ec4fbc0928f91e916af71d3a6cda8d64ac54b6387", func := "masthead/mastheadlaw21.LocateAfter", spec := "locateAfter", plainKeys := false, apart := false }
def LocateAfterSaid : Prop := locateAfterRow.holds Try.pinned (OpenSpec.ofChange locateAfterSpec)

/-- ITS FALSE NEIGHBOUR: 'it returns false'. Refute it at one input. -/
def locateAfterWrong : ChangeSpec := { name := "locateAfter", fn := fun _ => fun
  | [d] => { results := [.lit (.bool false)], args := [d] }
  | _ => none }
def LocateAfterWrongFalsely : Prop := locateAfterRow.holds Try.pinned (OpenSpec.ofChange locateAfterWrong)

/-- 'mastheadlaw21.LocateRows': WHATEVER THE INPUT: true; the input reads as it did. -/
def locateRowsSpec : ChangeSpec := { name := "locateRows", fn := fun _ => fun
  | [d1, d2, d3] => { results := [.lit (.bool true)], args := [d1, d2, d3] }
  | _ => none }
def locateRowsRow : OpenClaim := { program := "ytkgapdoflncekaa", sum := "7c616404edab7a6d75ec346ec4fbc0928f91e916af71d3a6cda8d64ac54b6387", func := "masthead/mastheadlaw21.LocateRows", spec := "locateRows", plainKeys := false, apart := false }
def LocateRowsSaid : Prop := locateRowsRow.holds Try.pinned (OpenSpec.ofChange locateRowsSpec)

/-- ITS FALSE NEIGHBOUR: 'it returns false'. Refute it at one input. -/
def locateRowsWrong : ChangeSpec := { name := "locateRows", fn := fun _ => fun
  | [d1, d2, d3] => { results := [.lit (.bool false)], args := [d1, d2, d3] }
  | _ => none }
def LocateRowsWrongFalsely : Prop := locateRowsRow.holds Try.pinned (OpenSpec.ofChange locateRowsWrong)

/- THE SECOND FORM. 'bulk': how many values and letters a reading holds, each counted each time it is reached (what is shared counts as often as it is met; a slice's spare places count too). A statement '..UptoSaid' is the law's where the arguments, and the package variables that the reading takes, are together of bulk at most 1048576: NARROWER than '..Said'. Prove '..Said' where nothing that the law and all that it calls make is longer than what came in: it says more and counts as full. Else prove '..UptoSaid'. A law counts once. -/
mutual
def uptoBulk {H : Type} : DataW H → Nat
  | .lit (.string bytes) => bytes.length + 1
  | .lit _ => 1
  | .nil => 1
  | .ptr d => uptoBulk d + 1
  | .slice elems spare => uptoBulkAll elems + uptoBulkAll spare + 1
  | .agg parts => uptoBulkAll parts + 1
  | .iface _ d => uptoBulk d + 1
  | .map entries => uptoBulkEntries entries + 1
  | .held _ => 1
def uptoBulkAll {H : Type} : List (DataW H) → Nat
  | [] => 0
  | d :: r => uptoBulk d + uptoBulkAll r
def uptoBulkEntries {H : Type} : List (Lit × DataW H) → Nat
  | [] => 0
  | x :: r => uptoBulkEntry x + uptoBulkEntries r
def uptoBulkEntry {H : Type} : Lit × DataW H → Nat
  | (.string bytes, d) => bytes.length + uptoBulk d + 1
  | (_, d) => uptoBulk d + 1
 end
def uptoSmall : (H : Type) → List (DataW H) → Bool := fun _ ds => decide (uptoBulkAll ds ≤ 1048576)
def OpenSpec.upto (s : _root_.Go.ChangeSpec) : _root_.Go.OpenSpec := { _root_.Go.OpenSpec.ofChange s with cond := some uptoSmall }

/-- 'mastheadlaw21.LocateMakes', WHERE WHAT IT READS IS OF BULK AT MOST 1048576: true; the input reads as it did. -/
def locateMakesUptoRow : OpenClaim := { program := "ytkgapdoflncekaa", sum := "7c616404edab7a6d75ec346ec4fbc0928f91e916af71d3a6cda8d64ac54b6387", func := "masthead/mastheadlaw21.LocateMakes", spec := "locateMakes", plainKeys := false, apart := false, narrowed := true }
def LocateMakesUptoSaid : Prop := locateMakesUptoRow.holds Try.pinned (OpenSpec.upto locateMakesSpec)

/-- 'mastheadlaw21.LocateForks', WHERE WHAT IT READS IS OF BULK AT MOST 1048576: true; the input reads as it did. -/
def locateForksUptoRow : OpenClaim := { program := "ytkgapdoflncekaa", sum := "7c616404edab7a6d75ec346ec4fbc0928f91e916af71d3a6cda8d64ac54b6387", func := "masthead/mastheadlaw21.LocateForks", spec := "locateForks", plainKeys := false, apart := false, narrowed := true }
def LocateForksUptoSaid : Prop := locateForksUptoRow.holds Try.pinned (OpenSpec.upto locateForksSpec)

/-- 'mastheadlaw21.LocateFinds', WHERE WHAT IT READS IS OF BULK AT MOST 1048576: true; the input reads as it did. -/
def locateFindsUptoRow : OpenClaim := { program := "ytkgapdoflncekaa", sum := "7c616404edab7a6d75ec346ec4fbc0928f91e916af71d3a6cda8d64ac54b6387", func := "masthead/mastheadlaw21.LocateFinds", spec := "locateFinds", plainKeys := false, apart := false, narrowed := true }
def LocateFindsUptoSaid : Prop := locateFindsUptoRow.holds Try.pinned (OpenSpec.upto locateFindsSpec)

/-- 'mastheadlaw21.LocateAfter', WHERE WHAT IT READS IS OF BULK AT MOST 1048576: true; the input reads as it did. -/
def locateAfterUptoRow : OpenClaim := { program := "ytkgapdoflncekaa", sum := "7c616404edab7a6d75ec346ec4fbc0928f91e916af71d3a6cda8d64ac54b6387", func := "masthead/mastheadlaw21.LocateAfter", spec := "locateAfter", plainKeys := false, apart := false, narrowed := true }
def LocateAfterUptoSaid : Prop := locateAfterUptoRow.holds Try.pinned (OpenSpec.upto locateAfterSpec)

/-- 'mastheadlaw21.LocateRows', WHERE WHAT IT READS IS OF BULK AT MOST 1048576: true; the input reads as it did. -/
def locateRowsUptoRow : OpenClaim := { program := "ytkgapdoflncekaa", sum := "7c616404edab7a6d75ec346ec4fbc0928f91e916af71d3a6cda8d64ac54b6387", func := "masthead/mastheadlaw21.LocateRows", spec := "locateRows", plainKeys := false, apart := false, narrowed := true }
def LocateRowsUptoSaid : Prop := locateRowsUptoRow.holds Try.pinned (OpenSpec.upto locateRowsSpec)

end Rows
end Go.Proofs.Ytkgapdoflncekaa
