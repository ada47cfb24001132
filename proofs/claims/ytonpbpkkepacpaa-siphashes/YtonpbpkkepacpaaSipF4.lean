/-
  FUNCTION 4: printed by a program of our own (wip/gen/st.py). 'masthead/mastheadlaw03.SipRounds', in continuation form; the evaluator gives it.
-/
import Derived.Test.YtonpbpkkepacpaaSipF11
import Derived.Test.YtonpbpkkepacpaaSipF12
import Derived.Test.YtonpbpkkepacpaaSipF8
set_option linter.all false
set_option maxRecDepth 100000
namespace Go.Ev
open Go.Proofs
variable {A : Type}

-- ============================================================ rounds (function 4)
def rounds_p (g_round : (List Int) → ((List Int) → Option A) → Option A) (g_rround : (List Int) → ((List Int) → Option A) → Option A) (g_awake : (Bool → Option A) → Option A) (n : Nat) (a0 : (List Int)) (k : Bool → Option A) : Option A :=
  g_round a0 fun r1 =>
  g_rround a0 fun r2 =>
  bif (deq kT29 r1 r2) then
    g_awake fun r3 =>
    k r3
  else
    k false

def rounds_k (n : Nat) (a0 : (List Int)) (k : Bool → Option A) : Option A := rounds_p (round_k n) (rround_k n) (awake_k n) n a0 k

noncomputable def rounds_E (g_round : (List Int) → ((List Int) → Option A) → Option A) (g_rround : (List Int) → ((List Int) → Option A) → Option A) (g_awake : (Bool → Option A) → Option A) (n : Nat) : Env A := ⟨tys, gls, [(11, round_ent g_round), (12, rround_ent g_rround), (8, awake_ent g_awake)], []⟩
theorem rounds_T (g_round : (List Int) → ((List Int) → Option A) → Option A) (g_rround : (List Int) → ((List Int) → Option A) → Option A) (g_awake : (Bool → Option A) → Option A) (n : Nat) : TyOK Try.prog (rounds_E g_round g_rround g_awake n) := tyOK_of rfl tysB
theorem rounds_fns (n : Nat) : FnsOK Try.prog (rounds_E (A := A) (round_k n) (rround_k n) (awake_k n) n) := AllOK.env rfl rfl (AllOK.cons (round_ok n) (AllOK.cons (rround_ok n) (AllOK.cons (awake_ok n) AllOK.nil)))
theorem rounds_eqg (g_round : (List Int) → ((List Int) → Option A) → Option A) (g_rround : (List Int) → ((List Int) → Option A) → Option A) (g_awake : (Bool → Option A) → Option A) (n : Nat) (a0 : (List Int)) (k : AV → List Blk → Option A) : fnK (rounds_E g_round g_rround g_awake n) Try.f4 [.pure] [.p kT29 a0] [] k = rounds_p g_round g_rround g_awake n a0 (fun r0 => k (.p .bool r0) []) := by kernel_rfl
theorem rounds_eq (n : Nat) (a0 : (List Int)) (k : AV → List Blk → Option A) : fnK (rounds_E (round_k n) (rround_k n) (awake_k n) n) Try.f4 [.pure] [.p kT29 a0] [] k = rounds_k n a0 (fun r0 => k (.p .bool r0) []) := rounds_eqg (round_k n) (rround_k n) (awake_k n) n a0 k
def rounds_ent (g : (List Int) → (Bool → Option A) → Option A) : Entry A := pureE fun args k => args1 args kT29 fun a0 => g a0 (fun r0 => k (.p .bool r0) [])
theorem rounds_lo (n : Nat) : ∀ c, Try.f4.body = some c → ∀ q ∈ loopsOf 0 c, ∀ L, (rounds_E (A := A) (round_k n) (rround_k n) (awake_k n) n).lps.lookup q.1 = some L → LoopOK Try.prog gls q.2 L :=
  lo_body (E := rounds_E (round_k n) (rround_k n) (awake_k n) n) (by kernel_rfl : Try.f4.body = some (bodyOf Try.f4)) (lo_of (E := rounds_E (round_k n) (rround_k n) (awake_k n) n) (by kernel_rfl : loopsOf 0 (bodyOf Try.f4) = []) lo_nil)
theorem rounds_ok (n : Nat) : FnOK Try.prog gls 4 (rounds_ent (A := A) (rounds_k n)) :=
  FnOK.of (rounds_T (round_k n) (rround_k n) (awake_k n) n) (rounds_fns n) follows ⟨Try.func4, by kernel_rfl⟩ (rounds_lo n) (rm := [.pure]) fun args k out h => by
    obtain ⟨a0, e, h1⟩ := args1_sound h
    subst e; rw [rounds_eq]; exact h1

end Go.Ev
