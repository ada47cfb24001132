/-
  FUNCTION 17: printed by a program of our own (wip/gen/st.py). 'masthead/sip.take', in continuation form; the evaluator gives it.
-/
import Derived.Test.YtonpbpkkepacpaaSipF11
set_option linter.all false
set_option maxRecDepth 100000
namespace Go.Ev
open Go.Proofs
variable {A : Type}

-- ============================================================ take (function 17)
def take_p (g_round : (List Int) → ((List Int) → Option A) → Option A) (n : Nat) (a0 : (List Int)) (a1 : Int) (k : (List Int) → Option A) : Option A :=
  (a0[3]?).bind fun y1 =>
  g_round (a0.set 3 (ixor .u64 y1 a1)) fun r2 =>
  g_round r2 fun r3 =>
  (r3[0]?).bind fun y4 =>
  k (r3.set 0 (ixor .u64 y4 a1))

def take_k (n : Nat) (a0 : (List Int)) (a1 : Int) (k : (List Int) → Option A) : Option A := take_p (round_k n) n a0 a1 k

noncomputable def take_E (g_round : (List Int) → ((List Int) → Option A) → Option A) (n : Nat) : Env A := ⟨tys, gls, [(11, round_ent g_round)], []⟩
theorem take_T (g_round : (List Int) → ((List Int) → Option A) → Option A) (n : Nat) : TyOK Try.prog (take_E g_round n) := tyOK_of rfl tysB
theorem take_fns (n : Nat) : FnsOK Try.prog (take_E (A := A) (round_k n) n) := AllOK.env rfl rfl (AllOK.cons (round_ok n) AllOK.nil)
theorem take_eqg (g_round : (List Int) → ((List Int) → Option A) → Option A) (n : Nat) (a0 : (List Int)) (a1 : Int) (k : AV → List Blk → Option A) : fnK (take_E g_round n) Try.f17 [.pure] [.p kT29 a0, .p (.int .u64) a1] [] k = take_p g_round n a0 a1 (fun r0 => k (.p kT29 r0) []) := by kernel_rfl
theorem take_eq (n : Nat) (a0 : (List Int)) (a1 : Int) (k : AV → List Blk → Option A) : fnK (take_E (round_k n) n) Try.f17 [.pure] [.p kT29 a0, .p (.int .u64) a1] [] k = take_k n a0 a1 (fun r0 => k (.p kT29 r0) []) := take_eqg (round_k n) n a0 a1 k
def take_ent (g : (List Int) → Int → ((List Int) → Option A) → Option A) : Entry A := pureE fun args k => args2 args kT29 (.int .u64) fun a0 a1 => g a0 a1 (fun r0 => k (.p kT29 r0) [])
theorem take_lo (n : Nat) : ∀ c, Try.f17.body = some c → ∀ q ∈ loopsOf 0 c, ∀ L, (take_E (A := A) (round_k n) n).lps.lookup q.1 = some L → LoopOK Try.prog gls q.2 L :=
  lo_body (E := take_E (round_k n) n) (by kernel_rfl : Try.f17.body = some (bodyOf Try.f17)) (lo_of (E := take_E (round_k n) n) (by kernel_rfl : loopsOf 0 (bodyOf Try.f17) = []) lo_nil)
theorem take_ok (n : Nat) : FnOK Try.prog gls 17 (take_ent (A := A) (take_k n)) :=
  FnOK.of (take_T (round_k n) n) (take_fns n) follows ⟨Try.func17, by kernel_rfl⟩ (take_lo n) (rm := [.pure]) fun args k out h => by
    obtain ⟨a0, a1, e, h1⟩ := args2_sound h
    subst e; rw [take_eq]; exact h1

end Go.Ev
