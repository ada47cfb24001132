/-
  FUNCTION 14: printed by a program of our own (wip/gen/st.py). 'masthead/mastheadref03.Range', in continuation form; the evaluator gives it.
-/
import Derived.Test.YtonpbpkkepacpaaSipT
set_option linter.all false
set_option maxRecDepth 100000
namespace Go.Ev
open Go.Proofs
variable {A : Type}

-- ============================================================ rrange (function 14)
def rrange_p (n : Nat) (a0 : Int) (a1 : Int) (k : Int → Option A) : Option A :=
  k (IntKind.wrap .u64 ((IntKind.wrap .u64 ((IntKind.wrap .u64 ((IntKind.wrap .u64 (Int.tdiv a0 4294967296)) * (IntKind.wrap .u64 (Int.tdiv a1 4294967296)))) + (IntKind.wrap .u64 (Int.tdiv (IntKind.wrap .u64 ((IntKind.wrap .u64 ((IntKind.wrap .u64 (Int.tdiv a0 4294967296)) * (Int.tmod a1 4294967296))) + (IntKind.wrap .u64 (Int.tdiv (IntKind.wrap .u64 ((Int.tmod a0 4294967296) * (Int.tmod a1 4294967296))) 4294967296)))) 4294967296)))) + (IntKind.wrap .u64 (Int.tdiv (IntKind.wrap .u64 ((IntKind.wrap .u64 ((Int.tmod a0 4294967296) * (IntKind.wrap .u64 (Int.tdiv a1 4294967296)))) + (Int.tmod (IntKind.wrap .u64 ((IntKind.wrap .u64 ((IntKind.wrap .u64 (Int.tdiv a0 4294967296)) * (Int.tmod a1 4294967296))) + (IntKind.wrap .u64 (Int.tdiv (IntKind.wrap .u64 ((Int.tmod a0 4294967296) * (Int.tmod a1 4294967296))) 4294967296)))) 4294967296))) 4294967296))))

def rrange_k (n : Nat) (a0 : Int) (a1 : Int) (k : Int → Option A) : Option A := rrange_p n a0 a1 k

noncomputable def rrange_E (n : Nat) : Env A := ⟨tys, gls, [], []⟩
theorem rrange_T {A : Type} (n : Nat) : TyOK Try.prog (rrange_E (A := A) n) := tyOK_of rfl tysB
theorem rrange_fns (n : Nat) : FnsOK Try.prog (rrange_E (A := A) n) := AllOK.env rfl rfl AllOK.nil
theorem rrange_eqg (n : Nat) (a0 : Int) (a1 : Int) (k : AV → List Blk → Option A) : fnK (rrange_E n) Try.f14 [.pure] [.p (.int .u64) a0, .p (.int .u64) a1] [] k = rrange_p n a0 a1 (fun r0 => k (.p (.int .u64) r0) []) := by kernel_rfl
theorem rrange_eq (n : Nat) (a0 : Int) (a1 : Int) (k : AV → List Blk → Option A) : fnK (rrange_E n) Try.f14 [.pure] [.p (.int .u64) a0, .p (.int .u64) a1] [] k = rrange_k n a0 a1 (fun r0 => k (.p (.int .u64) r0) []) := rrange_eqg n a0 a1 k
def rrange_ent (g : Int → Int → (Int → Option A) → Option A) : Entry A := pureE fun args k => args2 args (.int .u64) (.int .u64) fun a0 a1 => g a0 a1 (fun r0 => k (.p (.int .u64) r0) [])
theorem rrange_lo (n : Nat) : ∀ c, Try.f14.body = some c → ∀ q ∈ loopsOf 0 c, ∀ L, (rrange_E (A := A) n).lps.lookup q.1 = some L → LoopOK Try.prog gls q.2 L :=
  lo_body (E := rrange_E n) (by kernel_rfl : Try.f14.body = some (bodyOf Try.f14)) (lo_of (E := rrange_E n) (by kernel_rfl : loopsOf 0 (bodyOf Try.f14) = []) lo_nil)
theorem rrange_ok (n : Nat) : FnOK Try.prog gls 14 (rrange_ent (A := A) (rrange_k n)) :=
  FnOK.of (rrange_T n) (rrange_fns n) follows ⟨Try.func14, by kernel_rfl⟩ (rrange_lo n) (rm := [.pure]) fun args k out h => by
    obtain ⟨a0, a1, e, h1⟩ := args2_sound h
    subst e; rw [rrange_eq]; exact h1

end Go.Ev
