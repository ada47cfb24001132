/-
  FUNCTION 22: printed by a program of our own (wip/gen/st.py). 'math/bits.Mul64', in continuation form; the evaluator gives it.
-/
import Derived.Test.YtonpbpkkepacpaaSipT
set_option linter.all false
set_option maxRecDepth 100000
namespace Go.Ev
open Go.Proofs
variable {A : Type}

-- ============================================================ mul64 (function 22)
def mul64_p (n : Nat) (a0 : Int) (a1 : Int) (k : Int → Int → Option A) : Option A :=
  k (IntKind.wrap .u64 ((IntKind.wrap .u64 ((IntKind.wrap .u64 ((shr .u64 a0 32) * (shr .u64 a1 32))) + (shr .u64 (IntKind.wrap .u64 ((IntKind.wrap .u64 ((shr .u64 a0 32) * (iand .u64 a1 4294967295))) + (shr .u64 (IntKind.wrap .u64 ((iand .u64 a0 4294967295) * (iand .u64 a1 4294967295))) 32))) 32))) + (shr .u64 (IntKind.wrap .u64 ((iand .u64 (IntKind.wrap .u64 ((IntKind.wrap .u64 ((shr .u64 a0 32) * (iand .u64 a1 4294967295))) + (shr .u64 (IntKind.wrap .u64 ((iand .u64 a0 4294967295) * (iand .u64 a1 4294967295))) 32))) 4294967295) + (IntKind.wrap .u64 ((iand .u64 a0 4294967295) * (shr .u64 a1 32))))) 32))) (IntKind.wrap .u64 (a0 * a1))

def mul64_k (n : Nat) (a0 : Int) (a1 : Int) (k : Int → Int → Option A) : Option A := mul64_p n a0 a1 k

noncomputable def mul64_E (n : Nat) : Env A := ⟨tys, gls, [], []⟩
theorem mul64_T {A : Type} (n : Nat) : TyOK Try.prog (mul64_E (A := A) n) := tyOK_of rfl tysB
theorem mul64_fns (n : Nat) : FnsOK Try.prog (mul64_E (A := A) n) := AllOK.env rfl rfl AllOK.nil
theorem mul64_eqg (n : Nat) (a0 : Int) (a1 : Int) (k : AV → List Blk → Option A) : fnK (mul64_E n) Try.f22 [.pure, .pure] [.p (.int .u64) a0, .p (.int .u64) a1] [] k = mul64_p n a0 a1 (fun r0 r1 => k (.tup [.p (.int .u64) r0, .p (.int .u64) r1]) []) := by kernel_rfl
theorem mul64_eq (n : Nat) (a0 : Int) (a1 : Int) (k : AV → List Blk → Option A) : fnK (mul64_E n) Try.f22 [.pure, .pure] [.p (.int .u64) a0, .p (.int .u64) a1] [] k = mul64_k n a0 a1 (fun r0 r1 => k (.tup [.p (.int .u64) r0, .p (.int .u64) r1]) []) := mul64_eqg n a0 a1 k
def mul64_ent (g : Int → Int → (Int → Int → Option A) → Option A) : Entry A := pureE fun args k => args2 args (.int .u64) (.int .u64) fun a0 a1 => g a0 a1 (fun r0 r1 => k (.tup [.p (.int .u64) r0, .p (.int .u64) r1]) [])
theorem mul64_lo (n : Nat) : ∀ c, Try.f22.body = some c → ∀ q ∈ loopsOf 0 c, ∀ L, (mul64_E (A := A) n).lps.lookup q.1 = some L → LoopOK Try.prog gls q.2 L :=
  lo_body (E := mul64_E n) (by kernel_rfl : Try.f22.body = some (bodyOf Try.f22)) (lo_of (E := mul64_E n) (by kernel_rfl : loopsOf 0 (bodyOf Try.f22) = []) lo_nil)
theorem mul64_ok (n : Nat) : FnOK Try.prog gls 22 (mul64_ent (A := A) (mul64_k n)) :=
  FnOK.of (mul64_T n) (mul64_fns n) follows ⟨Try.func22, by kernel_rfl⟩ (mul64_lo n) (rm := [.pure, .pure]) fun args k out h => by
    obtain ⟨a0, a1, e, h1⟩ := args2_sound h
    subst e; rw [mul64_eq]; exact h1

end Go.Ev
