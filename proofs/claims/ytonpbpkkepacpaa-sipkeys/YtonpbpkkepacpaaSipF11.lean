/-
  FUNCTION 11: printed by a program of our own (wip/gen/st.py). 'masthead/sip.Round', in continuation form; the evaluator gives it.
-/
import Derived.Test.YtonpbpkkepacpaaSipF20
set_option linter.all false
set_option maxRecDepth 100000
namespace Go.Ev
open Go.Proofs
variable {A : Type}

-- ============================================================ round (function 11)
def round_p (g_left64 : Int → Int → (Int → Option A) → Option A) (n : Nat) (a0 : (List Int)) (k : (List Int) → Option A) : Option A :=
  (a0[0]?).bind fun y1 =>
  (a0[1]?).bind fun y2 =>
  (a0[2]?).bind fun y3 =>
  (a0[3]?).bind fun y4 =>
  g_left64 y2 13 fun r5 =>
  g_left64 (IntKind.wrap .u64 (y1 + y2)) 32 fun r6 =>
  g_left64 y4 16 fun r7 =>
  g_left64 (ixor .u64 r7 (IntKind.wrap .u64 (y3 + y4))) 21 fun r8 =>
  g_left64 (ixor .u64 r5 (IntKind.wrap .u64 (y1 + y2))) 17 fun r9 =>
  g_left64 (IntKind.wrap .u64 ((IntKind.wrap .u64 (y3 + y4)) + (ixor .u64 r5 (IntKind.wrap .u64 (y1 + y2))))) 32 fun r10 =>
  k [(IntKind.wrap .u64 (r6 + (ixor .u64 r7 (IntKind.wrap .u64 (y3 + y4))))), (ixor .u64 r9 (IntKind.wrap .u64 ((IntKind.wrap .u64 (y3 + y4)) + (ixor .u64 r5 (IntKind.wrap .u64 (y1 + y2)))))), r10, (ixor .u64 r8 (IntKind.wrap .u64 (r6 + (ixor .u64 r7 (IntKind.wrap .u64 (y3 + y4))))))]

def round_k (n : Nat) (a0 : (List Int)) (k : (List Int) → Option A) : Option A := round_p (left64_k n) n a0 k

noncomputable def round_E (g_left64 : Int → Int → (Int → Option A) → Option A) (n : Nat) : Env A := ⟨tys, gls, [(20, left64_ent g_left64)], []⟩
theorem round_T (g_left64 : Int → Int → (Int → Option A) → Option A) (n : Nat) : TyOK Try.prog (round_E g_left64 n) := tyOK_of rfl tysB
theorem round_fns (n : Nat) : FnsOK Try.prog (round_E (A := A) (left64_k n) n) := AllOK.env rfl rfl (AllOK.cons (left64_ok n) AllOK.nil)
theorem round_eqg (g_left64 : Int → Int → (Int → Option A) → Option A) (n : Nat) (a0 : (List Int)) (k : AV → List Blk → Option A) : fnK (round_E g_left64 n) Try.f11 [.pure] [.p kT29 a0] [] k = round_p g_left64 n a0 (fun r0 => k (.p kT29 r0) []) := by kernel_rfl
theorem round_eq (n : Nat) (a0 : (List Int)) (k : AV → List Blk → Option A) : fnK (round_E (left64_k n) n) Try.f11 [.pure] [.p kT29 a0] [] k = round_k n a0 (fun r0 => k (.p kT29 r0) []) := round_eqg (left64_k n) n a0 k
def round_ent (g : (List Int) → ((List Int) → Option A) → Option A) : Entry A := pureE fun args k => args1 args kT29 fun a0 => g a0 (fun r0 => k (.p kT29 r0) [])
theorem round_lo (n : Nat) : ∀ c, Try.f11.body = some c → ∀ q ∈ loopsOf 0 c, ∀ L, (round_E (A := A) (left64_k n) n).lps.lookup q.1 = some L → LoopOK Try.prog gls q.2 L :=
  lo_body (E := round_E (left64_k n) n) (by kernel_rfl : Try.f11.body = some (bodyOf Try.f11)) (lo_of (E := round_E (left64_k n) n) (by kernel_rfl : loopsOf 0 (bodyOf Try.f11) = []) lo_nil)
theorem round_ok (n : Nat) : FnOK Try.prog gls 11 (round_ent (A := A) (round_k n)) :=
  FnOK.of (round_T (left64_k n) n) (round_fns n) follows ⟨Try.func11, by kernel_rfl⟩ (round_lo n) (rm := [.pure]) fun args k out h => by
    obtain ⟨a0, e, h1⟩ := args1_sound h
    subst e; rw [round_eq]; exact h1

end Go.Ev
