/-
  FUNCTION 5: printed by a program of our own (wip/gen/st.py). 'masthead/mastheadlaw03.SipRanges', in continuation form; the evaluator gives it.
-/
import Derived.Test.YtonpbpkkepacpaaSipF13
import Derived.Test.YtonpbpkkepacpaaSipF14
import Derived.Test.YtonpbpkkepacpaaSipF8
set_option linter.all false
set_option maxRecDepth 100000
namespace Go.Ev
open Go.Proofs
variable {A : Type}

-- ============================================================ ranges (function 5)
def ranges_p (g_range_ : Int → Int → (Int → Option A) → Option A) (g_rrange : Int → Int → (Int → Option A) → Option A) (g_awake : (Bool → Option A) → Option A) (n : Nat) (a0 : Int) (a1 : Int) (k : Bool → Option A) : Option A :=
  g_range_ a0 a1 fun r1 =>
  g_rrange a0 a1 fun r2 =>
  bif (r1 == r2) then
    bif (decide (r1 < a1)) then
      g_awake fun r3 =>
      k r3
    else
      bif (a1 == 0) then
        bif (r1 == 0) then
          g_awake fun r4 =>
          k r4
        else
          k false
      else
        k false
  else
    k false

def ranges_k (n : Nat) (a0 : Int) (a1 : Int) (k : Bool → Option A) : Option A := ranges_p (range__k n) (rrange_k n) (awake_k n) n a0 a1 k

noncomputable def ranges_E (g_range_ : Int → Int → (Int → Option A) → Option A) (g_rrange : Int → Int → (Int → Option A) → Option A) (g_awake : (Bool → Option A) → Option A) (n : Nat) : Env A := ⟨tys, gls, [(13, range__ent g_range_), (14, rrange_ent g_rrange), (8, awake_ent g_awake)], []⟩
theorem ranges_T (g_range_ : Int → Int → (Int → Option A) → Option A) (g_rrange : Int → Int → (Int → Option A) → Option A) (g_awake : (Bool → Option A) → Option A) (n : Nat) : TyOK Try.prog (ranges_E g_range_ g_rrange g_awake n) := tyOK_of rfl tysB
theorem ranges_fns (n : Nat) : FnsOK Try.prog (ranges_E (A := A) (range__k n) (rrange_k n) (awake_k n) n) := AllOK.env rfl rfl (AllOK.cons (range__ok n) (AllOK.cons (rrange_ok n) (AllOK.cons (awake_ok n) AllOK.nil)))
theorem ranges_eqg (g_range_ : Int → Int → (Int → Option A) → Option A) (g_rrange : Int → Int → (Int → Option A) → Option A) (g_awake : (Bool → Option A) → Option A) (n : Nat) (a0 : Int) (a1 : Int) (k : AV → List Blk → Option A) : fnK (ranges_E g_range_ g_rrange g_awake n) Try.f5 [.pure] [.p (.int .u64) a0, .p (.int .u64) a1] [] k = ranges_p g_range_ g_rrange g_awake n a0 a1 (fun r0 => k (.p .bool r0) []) := by kernel_rfl
theorem ranges_eq (n : Nat) (a0 : Int) (a1 : Int) (k : AV → List Blk → Option A) : fnK (ranges_E (range__k n) (rrange_k n) (awake_k n) n) Try.f5 [.pure] [.p (.int .u64) a0, .p (.int .u64) a1] [] k = ranges_k n a0 a1 (fun r0 => k (.p .bool r0) []) := ranges_eqg (range__k n) (rrange_k n) (awake_k n) n a0 a1 k
def ranges_ent (g : Int → Int → (Bool → Option A) → Option A) : Entry A := pureE fun args k => args2 args (.int .u64) (.int .u64) fun a0 a1 => g a0 a1 (fun r0 => k (.p .bool r0) [])
theorem ranges_lo (n : Nat) : ∀ c, Try.f5.body = some c → ∀ q ∈ loopsOf 0 c, ∀ L, (ranges_E (A := A) (range__k n) (rrange_k n) (awake_k n) n).lps.lookup q.1 = some L → LoopOK Try.prog gls q.2 L :=
  lo_body (E := ranges_E (range__k n) (rrange_k n) (awake_k n) n) (by kernel_rfl : Try.f5.body = some (bodyOf Try.f5)) (lo_of (E := ranges_E (range__k n) (rrange_k n) (awake_k n) n) (by kernel_rfl : loopsOf 0 (bodyOf Try.f5) = []) lo_nil)
theorem ranges_ok (n : Nat) : FnOK Try.prog gls 5 (ranges_ent (A := A) (ranges_k n)) :=
  FnOK.of (ranges_T (range__k n) (rrange_k n) (awake_k n) n) (ranges_fns n) follows ⟨Try.func5, by kernel_rfl⟩ (ranges_lo n) (rm := [.pure]) fun args k out h => by
    obtain ⟨a0, a1, e, h1⟩ := args2_sound h
    subst e; rw [ranges_eq]; exact h1

end Go.Ev
