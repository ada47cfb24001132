/-
  FUNCTION 15: printed by a program of our own (wip/gen/st.py). 'masthead/sip.Key', in continuation form; the evaluator gives it.
-/
import Derived.Test.YtonpbpkkepacpaaSipF18
set_option linter.all false
set_option maxRecDepth 100000
namespace Go.Ev
open Go.Proofs
variable {A : Type}

-- ============================================================ key (function 15)
def key_p (g_num : (List Int) → (Int → Option A) → Option A) (n : Nat) (a0 : (List Int)) (k : (List Int) → Option A) : Option A :=
  g_num ((a0.drop 0).take 8) fun r1 =>
  g_num ((a0.drop 8).take 8) fun r2 =>
  k [r1, r2]

def key_k (n : Nat) (a0 : (List Int)) (k : (List Int) → Option A) : Option A := key_p (num_k n) n a0 k

noncomputable def key_E (g_num : (List Int) → (Int → Option A) → Option A) (n : Nat) : Env A := ⟨tys, gls, [(18, num_ent g_num)], []⟩
theorem key_T (g_num : (List Int) → (Int → Option A) → Option A) (n : Nat) : TyOK Try.prog (key_E g_num n) := tyOK_of rfl tysB
theorem key_fns (n : Nat) : FnsOK Try.prog (key_E (A := A) (num_k n) n) := AllOK.env rfl rfl (AllOK.cons (num_ok n) AllOK.nil)
theorem key_eqg (g_num : (List Int) → (Int → Option A) → Option A) (n : Nat) (a0 : (List Int)) (k : AV → List Blk → Option A) : fnK (key_E g_num n) Try.f15 [.pure] [.p kT34 a0] [] k = key_p g_num n a0 (fun r0 => k (.p kT23 r0) []) := by kernel_rfl
theorem key_eq (n : Nat) (a0 : (List Int)) (k : AV → List Blk → Option A) : fnK (key_E (num_k n) n) Try.f15 [.pure] [.p kT34 a0] [] k = key_k n a0 (fun r0 => k (.p kT23 r0) []) := key_eqg (num_k n) n a0 k
def key_ent (g : (List Int) → ((List Int) → Option A) → Option A) : Entry A := pureE fun args k => args1 args kT34 fun a0 => g a0 (fun r0 => k (.p kT23 r0) [])
theorem key_lo (n : Nat) : ∀ c, Try.f15.body = some c → ∀ q ∈ loopsOf 0 c, ∀ L, (key_E (A := A) (num_k n) n).lps.lookup q.1 = some L → LoopOK Try.prog gls q.2 L :=
  lo_body (E := key_E (num_k n) n) (by kernel_rfl : Try.f15.body = some (bodyOf Try.f15)) (lo_of (E := key_E (num_k n) n) (by kernel_rfl : loopsOf 0 (bodyOf Try.f15) = []) lo_nil)
theorem key_ok (n : Nat) : FnOK Try.prog gls 15 (key_ent (A := A) (key_k n)) :=
  FnOK.of (key_T (num_k n) n) (key_fns n) follows ⟨Try.func15, by kernel_rfl⟩ (key_lo n) (rm := [.pure]) fun args k out h => by
    obtain ⟨a0, e, h1⟩ := args1_sound h
    subst e; rw [key_eq]; exact h1

end Go.Ev
