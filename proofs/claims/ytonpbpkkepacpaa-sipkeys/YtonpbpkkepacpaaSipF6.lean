/-
  FUNCTION 6: printed by a program of our own (wip/gen/st.py). 'masthead/mastheadlaw03.SipRises', in continuation form; the evaluator gives it.
-/
import Derived.Test.YtonpbpkkepacpaaSipF13
import Derived.Test.YtonpbpkkepacpaaSipF8
set_option linter.all false
set_option maxRecDepth 100000
namespace Go.Ev
open Go.Proofs
variable {A : Type}

-- ============================================================ rises (function 6)
def rises_p (g_range_ : Int → Int → (Int → Option A) → Option A) (g_awake : (Bool → Option A) → Option A) (n : Nat) (a0 : (List Int)) (k : Bool → Option A) : Option A :=
  (a0[0]?).bind fun y1 =>
  (a0[1]?).bind fun y2 =>
  (a0[2]?).bind fun y3 =>
  (a0[3]?).bind fun y4 =>
  g_range_ (imin y1 y2) y3 fun r5 =>
  g_range_ (imax y1 y2) y3 fun r6 =>
  bif (decide (r5 ≤ r6)) then
    g_range_ y1 (imin y3 y4) fun r7 =>
    g_range_ y1 (imax y3 y4) fun r8 =>
    bif (decide (r7 ≤ r8)) then
      g_range_ y1 y2 fun r9 =>
      g_range_ y2 y1 fun r10 =>
      bif (r9 == r10) then
        g_awake fun r11 =>
        k r11
      else
        k false
    else
      k false
  else
    k false

def rises_k (n : Nat) (a0 : (List Int)) (k : Bool → Option A) : Option A := rises_p (range__k n) (awake_k n) n a0 k

noncomputable def rises_E (g_range_ : Int → Int → (Int → Option A) → Option A) (g_awake : (Bool → Option A) → Option A) (n : Nat) : Env A := ⟨tys, gls, [(13, range__ent g_range_), (8, awake_ent g_awake)], []⟩
theorem rises_T (g_range_ : Int → Int → (Int → Option A) → Option A) (g_awake : (Bool → Option A) → Option A) (n : Nat) : TyOK Try.prog (rises_E g_range_ g_awake n) := tyOK_of rfl tysB
theorem rises_fns (n : Nat) : FnsOK Try.prog (rises_E (A := A) (range__k n) (awake_k n) n) := AllOK.env rfl rfl (AllOK.cons (range__ok n) (AllOK.cons (awake_ok n) AllOK.nil))
theorem rises_eqg (g_range_ : Int → Int → (Int → Option A) → Option A) (g_awake : (Bool → Option A) → Option A) (n : Nat) (a0 : (List Int)) (k : AV → List Blk → Option A) : fnK (rises_E g_range_ g_awake n) Try.f6 [.pure] [.p kT29 a0] [] k = rises_p g_range_ g_awake n a0 (fun r0 => k (.p .bool r0) []) := by kernel_rfl
theorem rises_eq (n : Nat) (a0 : (List Int)) (k : AV → List Blk → Option A) : fnK (rises_E (range__k n) (awake_k n) n) Try.f6 [.pure] [.p kT29 a0] [] k = rises_k n a0 (fun r0 => k (.p .bool r0) []) := rises_eqg (range__k n) (awake_k n) n a0 k
def rises_ent (g : (List Int) → (Bool → Option A) → Option A) : Entry A := pureE fun args k => args1 args kT29 fun a0 => g a0 (fun r0 => k (.p .bool r0) [])
theorem rises_lo (n : Nat) : ∀ c, Try.f6.body = some c → ∀ q ∈ loopsOf 0 c, ∀ L, (rises_E (A := A) (range__k n) (awake_k n) n).lps.lookup q.1 = some L → LoopOK Try.prog gls q.2 L :=
  lo_body (E := rises_E (range__k n) (awake_k n) n) (by kernel_rfl : Try.f6.body = some (bodyOf Try.f6)) (lo_of (E := rises_E (range__k n) (awake_k n) n) (by kernel_rfl : loopsOf 0 (bodyOf Try.f6) = []) lo_nil)
theorem rises_ok (n : Nat) : FnOK Try.prog gls 6 (rises_ent (A := A) (rises_k n)) :=
  FnOK.of (rises_T (range__k n) (awake_k n) n) (rises_fns n) follows ⟨Try.func6, by kernel_rfl⟩ (rises_lo n) (rm := [.pure]) fun args k out h => by
    obtain ⟨a0, e, h1⟩ := args1_sound h
    subst e; rw [rises_eq]; exact h1

end Go.Ev
