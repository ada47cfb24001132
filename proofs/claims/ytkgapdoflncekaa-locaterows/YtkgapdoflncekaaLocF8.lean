/-
  FUNCTION 8: printed by a program of our own (wip/gen/seat.py). 'masthead/mastheadlaw21.awake', in continuation form; the evaluator gives it.
-/
import Derived.Test.YtkgapdoflncekaaLocF16
set_option linter.all false
set_option maxRecDepth 100000
namespace Go.Ev
open Go.Proofs
variable {A : Type}

-- ============================================================ awake (function 8)
def awake_k (n : Nat) (k : Bool → Option A) : Option A :=
  row_k n 20 20 0 fun r1 =>
  make_k n r1 fun r2 =>
  bif ((r2.length : Int) == 13) then
    if 0 < (r2.length : Int) then
      (r2[0]?).bind fun y3 =>
      if 19 < (r1.length : Int) then
        (r1[19]?).bind fun y4 =>
        bif (deq kT28 y3 y4) then
          if 9 < (r2.length : Int) then
            (r2[9]?).bind fun y5 =>
            if 10 < (r1.length : Int) then
              (r1[10]?).bind fun y6 =>
              bif (deq kT28 y5 y6) then
                if 10 < (r2.length : Int) then
                  (r2[10]?).bind fun y7 =>
                  if 8 < (r1.length : Int) then
                    (r1[8]?).bind fun y8 =>
                    bif (deq kT28 y7 y8) then
                      if 11 < (r2.length : Int) then
                        (r2[11]?).bind fun y9 =>
                        if 4 < (r1.length : Int) then
                          (r1[4]?).bind fun y10 =>
                          bif (deq kT28 y9 y10) then
                            if 12 < (r2.length : Int) then
                              (r2[12]?).bind fun y11 =>
                              if 0 < (r1.length : Int) then
                                (r1[0]?).bind fun y12 =>
                                k (deq kT28 y11 y12)
                              else none
                            else none
                          else
                            k false
                        else none
                      else none
                    else
                      k false
                  else none
                else none
              else
                k false
            else none
          else none
        else
          k false
      else none
    else none
  else
    k false

noncomputable def awake_E (n : Nat) : Env A := ⟨tys, [(9, row_en n), (10, make_en n)], []⟩
theorem awake_T (n : Nat) : TyOK Try.prog (awake_E (A := A) n) := tyOK_of rfl tysB
theorem awake_fns (n : Nat) : FnsOK Try.prog (awake_E (A := A) n) := AllOK.env rfl (AllOK.cons (row_ok n) (AllOK.cons (make_ok n) AllOK.nil))
theorem awake_eq (n : Nat) (k : AV → List Blk → Option A) : fnK (awake_E n) Try.f8 [.pure] [] k = awake_k n (fun r0 => k (.p .bool r0) []) := by kernel_rfl
def awake_en (n : Nat) : Entry A := ⟨fun args k => args0 args (awake_k n (fun r0 => k (.p .bool r0) []))⟩
theorem awake_lo (n : Nat) : ∀ c, Try.f8.body = some c → ∀ q ∈ loopsOf 0 c, ∀ L, (awake_E (A := A) n).lps.lookup q.1 = some L → LoopOK Try.prog q.2 L :=
  lo_body (by kernel_rfl : Try.f8.body = some (bodyOf Try.f8)) (lo_of (by kernel_rfl : loopsOf 0 (bodyOf Try.f8) = []) lo_nil)
theorem awake_ok (n : Nat) : FnOK Try.prog 8 (awake_en (A := A) n) :=
  FnOK.of (awake_T n) (awake_fns n) follows ⟨Try.func8, by kernel_rfl⟩ (awake_lo n) (rm := [.pure]) fun args k out h => by
    obtain ⟨e, h1⟩ := args0_sound h
    subst e; rw [awake_eq]; exact h1

end Go.Ev
