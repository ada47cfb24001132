/-
  FUNCTION 20: printed by a program of our own (wip/gen/st.py). 'masthead/octet.Left64', in continuation form; the evaluator gives it.
-/
import Derived.Test.YtonpbpkkepacpaaSipT
set_option linter.all false
set_option maxRecDepth 100000
namespace Go.Ev
open Go.Proofs
variable {A : Type}

-- ============================================================ left64 (function 20)
def left64_p (n : Nat) (a0 : Int) (a1 : Int) (k : Int → Option A) : Option A :=
  if (Int.tmod (IntKind.wrap .u64 a1) 64) < 0 then none else
  if (IntKind.wrap .u64 (64 - (Int.tmod (IntKind.wrap .u64 a1) 64))) < 0 then none else
  k (ior .u64 (shl .u64 a0 (Int.tmod (IntKind.wrap .u64 a1) 64)) (shr .u64 a0 (IntKind.wrap .u64 (64 - (Int.tmod (IntKind.wrap .u64 a1) 64)))))

def left64_k (n : Nat) (a0 : Int) (a1 : Int) (k : Int → Option A) : Option A := left64_p n a0 a1 k

noncomputable def left64_E (n : Nat) : Env A := ⟨tys, gls, [], []⟩
theorem left64_T {A : Type} (n : Nat) : TyOK Try.prog (left64_E (A := A) n) := tyOK_of rfl tysB
theorem left64_fns (n : Nat) : FnsOK Try.prog (left64_E (A := A) n) := AllOK.env rfl rfl AllOK.nil
theorem left64_eqg (n : Nat) (a0 : Int) (a1 : Int) (k : AV → List Blk → Option A) : fnK (left64_E n) Try.f20 [.pure] [.p (.int .u64) a0, .p (.int .i64) a1] [] k = left64_p n a0 a1 (fun r0 => k (.p (.int .u64) r0) []) := by kernel_rfl
theorem left64_eq (n : Nat) (a0 : Int) (a1 : Int) (k : AV → List Blk → Option A) : fnK (left64_E n) Try.f20 [.pure] [.p (.int .u64) a0, .p (.int .i64) a1] [] k = left64_k n a0 a1 (fun r0 => k (.p (.int .u64) r0) []) := left64_eqg n a0 a1 k
def left64_ent (g : Int → Int → (Int → Option A) → Option A) : Entry A := pureE fun args k => args2 args (.int .u64) (.int .i64) fun a0 a1 => g a0 a1 (fun r0 => k (.p (.int .u64) r0) [])
theorem left64_lo (n : Nat) : ∀ c, Try.f20.body = some c → ∀ q ∈ loopsOf 0 c, ∀ L, (left64_E (A := A) n).lps.lookup q.1 = some L → LoopOK Try.prog gls q.2 L :=
  lo_body (E := left64_E n) (by kernel_rfl : Try.f20.body = some (bodyOf Try.f20)) (lo_of (E := left64_E n) (by kernel_rfl : loopsOf 0 (bodyOf Try.f20) = []) lo_nil)
theorem left64_ok (n : Nat) : FnOK Try.prog gls 20 (left64_ent (A := A) (left64_k n)) :=
  FnOK.of (left64_T n) (left64_fns n) follows ⟨Try.func20, by kernel_rfl⟩ (left64_lo n) (rm := [.pure]) fun args k out h => by
    obtain ⟨a0, a1, e, h1⟩ := args2_sound h
    subst e; rw [left64_eq]; exact h1

end Go.Ev
