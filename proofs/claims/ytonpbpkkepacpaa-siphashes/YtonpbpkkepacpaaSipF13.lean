/-
  FUNCTION 13: printed by a program of our own (wip/gen/st.py). 'masthead/sip.Range', in continuation form; the evaluator gives it.
-/
import Derived.Test.YtonpbpkkepacpaaSipF22
set_option linter.all false
set_option maxRecDepth 100000
namespace Go.Ev
open Go.Proofs
variable {A : Type}

-- ============================================================ range_ (function 13)
def range__p (g_mul64 : Int → Int → (Int → Int → Option A) → Option A) (n : Nat) (a0 : Int) (a1 : Int) (k : Int → Option A) : Option A :=
  g_mul64 a0 a1 fun r1 r2 =>
  k r1

def range__k (n : Nat) (a0 : Int) (a1 : Int) (k : Int → Option A) : Option A := range__p (mul64_k n) n a0 a1 k

noncomputable def range__E (g_mul64 : Int → Int → (Int → Int → Option A) → Option A) (n : Nat) : Env A := ⟨tys, gls, [(22, mul64_ent g_mul64)], []⟩
theorem range__T (g_mul64 : Int → Int → (Int → Int → Option A) → Option A) (n : Nat) : TyOK Try.prog (range__E g_mul64 n) := tyOK_of rfl tysB
theorem range__fns (n : Nat) : FnsOK Try.prog (range__E (A := A) (mul64_k n) n) := AllOK.env rfl rfl (AllOK.cons (mul64_ok n) AllOK.nil)
theorem range__eqg (g_mul64 : Int → Int → (Int → Int → Option A) → Option A) (n : Nat) (a0 : Int) (a1 : Int) (k : AV → List Blk → Option A) : fnK (range__E g_mul64 n) Try.f13 [.pure] [.p (.int .u64) a0, .p (.int .u64) a1] [] k = range__p g_mul64 n a0 a1 (fun r0 => k (.p (.int .u64) r0) []) := by kernel_rfl
theorem range__eq (n : Nat) (a0 : Int) (a1 : Int) (k : AV → List Blk → Option A) : fnK (range__E (mul64_k n) n) Try.f13 [.pure] [.p (.int .u64) a0, .p (.int .u64) a1] [] k = range__k n a0 a1 (fun r0 => k (.p (.int .u64) r0) []) := range__eqg (mul64_k n) n a0 a1 k
def range__ent (g : Int → Int → (Int → Option A) → Option A) : Entry A := pureE fun args k => args2 args (.int .u64) (.int .u64) fun a0 a1 => g a0 a1 (fun r0 => k (.p (.int .u64) r0) [])
theorem range__lo (n : Nat) : ∀ c, Try.f13.body = some c → ∀ q ∈ loopsOf 0 c, ∀ L, (range__E (A := A) (mul64_k n) n).lps.lookup q.1 = some L → LoopOK Try.prog gls q.2 L :=
  lo_body (E := range__E (mul64_k n) n) (by kernel_rfl : Try.f13.body = some (bodyOf Try.f13)) (lo_of (E := range__E (mul64_k n) n) (by kernel_rfl : loopsOf 0 (bodyOf Try.f13) = []) lo_nil)
theorem range__ok (n : Nat) : FnOK Try.prog gls 13 (range__ent (A := A) (range__k n)) :=
  FnOK.of (range__T (mul64_k n) n) (range__fns n) follows ⟨Try.func13, by kernel_rfl⟩ (range__lo n) (rm := [.pure]) fun args k out h => by
    obtain ⟨a0, a1, e, h1⟩ := args2_sound h
    subst e; rw [range__eq]; exact h1

end Go.Ev
