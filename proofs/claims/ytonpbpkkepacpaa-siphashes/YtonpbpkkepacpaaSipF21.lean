/-
  FUNCTION 21: printed by a program of our own (wip/gen/st.py). 'masthead/mastheadref03.left', in continuation form; the evaluator gives it.
-/
import Derived.Test.YtonpbpkkepacpaaSipF23
set_option linter.all false
set_option maxRecDepth 100000
namespace Go.Ev
open Go.Proofs
variable {A : Type}

-- ============================================================ rleft (function 21)
def rleft_p (g_rleft1 : Int → Int → Int → (Int → Option A) → Option A) (n : Nat) (a0 : Int) (a1 : Int) (k : Int → Option A) : Option A :=
  g_rleft1 a0 64 a1 fun r1 =>
  k r1

def rleft_k (n : Nat) (a0 : Int) (a1 : Int) (k : Int → Option A) : Option A := rleft_p (rleft1_k n) n a0 a1 k

noncomputable def rleft_E (g_rleft1 : Int → Int → Int → (Int → Option A) → Option A) (n : Nat) : Env A := ⟨tys, gls, [(23, rleft1_ent g_rleft1)], []⟩
theorem rleft_T (g_rleft1 : Int → Int → Int → (Int → Option A) → Option A) (n : Nat) : TyOK Try.prog (rleft_E g_rleft1 n) := tyOK_of rfl tysB
theorem rleft_fns (n : Nat) : FnsOK Try.prog (rleft_E (A := A) (rleft1_k n) n) := AllOK.env rfl rfl (AllOK.cons (rleft1_ok n) AllOK.nil)
theorem rleft_eqg (g_rleft1 : Int → Int → Int → (Int → Option A) → Option A) (n : Nat) (a0 : Int) (a1 : Int) (k : AV → List Blk → Option A) : fnK (rleft_E g_rleft1 n) Try.f21 [.pure] [.p (.int .u64) a0, .p (.int .i64) a1] [] k = rleft_p g_rleft1 n a0 a1 (fun r0 => k (.p (.int .u64) r0) []) := by kernel_rfl
theorem rleft_eq (n : Nat) (a0 : Int) (a1 : Int) (k : AV → List Blk → Option A) : fnK (rleft_E (rleft1_k n) n) Try.f21 [.pure] [.p (.int .u64) a0, .p (.int .i64) a1] [] k = rleft_k n a0 a1 (fun r0 => k (.p (.int .u64) r0) []) := rleft_eqg (rleft1_k n) n a0 a1 k
def rleft_ent (g : Int → Int → (Int → Option A) → Option A) : Entry A := pureE fun args k => args2 args (.int .u64) (.int .i64) fun a0 a1 => g a0 a1 (fun r0 => k (.p (.int .u64) r0) [])
theorem rleft_lo (n : Nat) : ∀ c, Try.f21.body = some c → ∀ q ∈ loopsOf 0 c, ∀ L, (rleft_E (A := A) (rleft1_k n) n).lps.lookup q.1 = some L → LoopOK Try.prog gls q.2 L :=
  lo_body (E := rleft_E (rleft1_k n) n) (by kernel_rfl : Try.f21.body = some (bodyOf Try.f21)) (lo_of (E := rleft_E (rleft1_k n) n) (by kernel_rfl : loopsOf 0 (bodyOf Try.f21) = []) lo_nil)
theorem rleft_ok (n : Nat) : FnOK Try.prog gls 21 (rleft_ent (A := A) (rleft_k n)) :=
  FnOK.of (rleft_T (rleft1_k n) n) (rleft_fns n) follows ⟨Try.func21, by kernel_rfl⟩ (rleft_lo n) (rm := [.pure]) fun args k out h => by
    obtain ⟨a0, a1, e, h1⟩ := args2_sound h
    subst e; rw [rleft_eq]; exact h1

end Go.Ev
