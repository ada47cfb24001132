/-
  FUNCTION 12: printed by a program of our own (wip/gen/st.py). 'masthead/mastheadref03.Round', in continuation form; the evaluator gives it.
-/
import Derived.Test.YtonpbpkkepacpaaSipF21
set_option linter.all false
set_option maxRecDepth 100000
namespace Go.Ev
open Go.Proofs
variable {A : Type}

-- ============================================================ rround (function 12)
def rround_p (g_rleft : Int → Int → (Int → Option A) → Option A) (n : Nat) (a0 : (List Int)) (k : (List Int) → Option A) : Option A :=
  (a0[0]?).bind fun y1 =>
  (a0[1]?).bind fun y2 =>
  (a0[2]?).bind fun y3 =>
  (a0[3]?).bind fun y4 =>
  g_rleft y2 13 fun r5 =>
  g_rleft (IntKind.wrap .u64 (y1 + y2)) 32 fun r6 =>
  g_rleft y4 16 fun r7 =>
  g_rleft (ixor .u64 r7 (IntKind.wrap .u64 (y3 + y4))) 21 fun r8 =>
  g_rleft (ixor .u64 r5 (IntKind.wrap .u64 (y1 + y2))) 17 fun r9 =>
  g_rleft (IntKind.wrap .u64 ((IntKind.wrap .u64 (y3 + y4)) + (ixor .u64 r5 (IntKind.wrap .u64 (y1 + y2))))) 32 fun r10 =>
  k [(IntKind.wrap .u64 (r6 + (ixor .u64 r7 (IntKind.wrap .u64 (y3 + y4))))), (ixor .u64 r9 (IntKind.wrap .u64 ((IntKind.wrap .u64 (y3 + y4)) + (ixor .u64 r5 (IntKind.wrap .u64 (y1 + y2)))))), r10, (ixor .u64 r8 (IntKind.wrap .u64 (r6 + (ixor .u64 r7 (IntKind.wrap .u64 (y3 + y4))))))]

def rround_k (n : Nat) (a0 : (List Int)) (k : (List Int) → Option A) : Option A := rround_p (rleft_k n) n a0 k

noncomputable def rround_E (g_rleft : Int → Int → (Int → Option A) → Option A) (n : Nat) : Env A := ⟨tys, gls, [(21, rleft_ent g_rleft)], []⟩
theorem rround_T (g_rleft : Int → Int → (Int → Option A) → Option A) (n : Nat) : TyOK Try.prog (rround_E g_rleft n) := tyOK_of rfl tysB
theorem rround_fns (n : Nat) : FnsOK Try.prog (rround_E (A := A) (rleft_k n) n) := AllOK.env rfl rfl (AllOK.cons (rleft_ok n) AllOK.nil)
theorem rround_eqg (g_rleft : Int → Int → (Int → Option A) → Option A) (n : Nat) (a0 : (List Int)) (k : AV → List Blk → Option A) : fnK (rround_E g_rleft n) Try.f12 [.pure] [.p kT29 a0] [] k = rround_p g_rleft n a0 (fun r0 => k (.p kT29 r0) []) := by kernel_rfl
theorem rround_eq (n : Nat) (a0 : (List Int)) (k : AV → List Blk → Option A) : fnK (rround_E (rleft_k n) n) Try.f12 [.pure] [.p kT29 a0] [] k = rround_k n a0 (fun r0 => k (.p kT29 r0) []) := rround_eqg (rleft_k n) n a0 k
def rround_ent (g : (List Int) → ((List Int) → Option A) → Option A) : Entry A := pureE fun args k => args1 args kT29 fun a0 => g a0 (fun r0 => k (.p kT29 r0) [])
theorem rround_lo (n : Nat) : ∀ c, Try.f12.body = some c → ∀ q ∈ loopsOf 0 c, ∀ L, (rround_E (A := A) (rleft_k n) n).lps.lookup q.1 = some L → LoopOK Try.prog gls q.2 L :=
  lo_body (E := rround_E (rleft_k n) n) (by kernel_rfl : Try.f12.body = some (bodyOf Try.f12)) (lo_of (E := rround_E (rleft_k n) n) (by kernel_rfl : loopsOf 0 (bodyOf Try.f12) = []) lo_nil)
theorem rround_ok (n : Nat) : FnOK Try.prog gls 12 (rround_ent (A := A) (rround_k n)) :=
  FnOK.of (rround_T (rleft_k n) n) (rround_fns n) follows ⟨Try.func12, by kernel_rfl⟩ (rround_lo n) (rm := [.pure]) fun args k out h => by
    obtain ⟨a0, e, h1⟩ := args1_sound h
    subst e; rw [rround_eq]; exact h1

end Go.Ev
