/-
  TYPES: printed by a program of our own (wip/gen/seat.py). The types that the functions' code names, as kinds.
-/
import Derived.Test.YtkgapdoflncekaaProg
import Derived.Test.YtkgapdoflncekaaEvZ
import Derived.KernelRfl
set_option linter.all false
namespace Go.Ev
open Go.Proofs

abbrev kT28 : Kind := (.arr 32 (.int .u8))
abbrev kT38 : Kind := (.pair (.sl (.int .u8)) (.pair (.int .i64) (.pair (.int .i64) (.pair (.int .u8) .unit))))
def tys : List (TypeId × TI) := [(3, ⟨(.int .i64), .prim, 8, true⟩), (4, ⟨.bool, .prim, 1, true⟩), (5, ⟨(.int .u8), .prim, 1, true⟩), (23, ⟨(.sl kT28), (.slice 29), 24, false⟩), (26, ⟨(.sl (.int .i64)), (.slice 3), 24, false⟩), (28, ⟨kT28, (.array 32 5), 32, true⟩), (29, ⟨kT28, (.array 32 5), 32, true⟩), (31, ⟨(.sl (.int .u8)), (.slice 5), 24, false⟩), (34, ⟨(.sl kT28), (.slice 28), 24, false⟩), (39, ⟨kT38, (.struct [31, 3, 3, 5]), 48, false⟩), (45, ⟨.opq, (.map 29 3), 8, false⟩)]
theorem tysB : tys.all (tyB Try.prog tys) = true := by kernel_rfl
theorem follows : Try.prog.follows .mixedOrders = true := by kernel_rfl
end Go.Ev
