/-
  TYPES: printed by a program of our own (wip/gen/st.py). The types that the functions' code names, as kinds.
-/
import Derived.Test.YtonpbpkkepacpaaProg
import Derived.Test.YtonpbpkkepacpaaFvZ
import Derived.KernelRfl
set_option linter.all false
namespace Go.Ev
open Go.Proofs

abbrev kT23 : Kind := (.arr 2 (.int .u64))
abbrev kT29 : Kind := (.arr 4 (.int .u64))
abbrev kT34 : Kind := (.arr 32 (.int .u8))
def gls : GL := []
def tys : List (TypeId × TI) := [(3, ⟨(.int .i64), .prim, 8, true⟩), (4, ⟨.bool, .prim, 1, true⟩), (5, ⟨(.int .u8), .prim, 1, true⟩), (22, ⟨(.int .u64), .prim, 8, true⟩), (23, ⟨kT23, (.array 2 22), 16, true⟩), (24, ⟨(.sl (.int .u8)), (.slice 5), 24, false⟩), (29, ⟨kT29, (.array 4 22), 32, true⟩), (35, ⟨kT34, (.array 32 5), 32, true⟩), (39, ⟨(.int .u64), .prim, 8, true⟩), (41, ⟨(.sl (.int .u64)), (.slice 22), 24, false⟩)]
theorem tysB : tys.all (tyB Try.prog tys) = true := by kernel_rfl
theorem follows : Try.prog.follows .mixedOrders = true := by kernel_rfl
end Go.Ev
