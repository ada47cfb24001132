/-
  FUNCTION 5: printed by a program of our own (wip/gen/seat.py). 'masthead/mastheadlaw21.LocateFinds', in continuation form; the evaluator gives it.
-/
import Derived.Test.YtkgapdoflncekaaLocF6
set_option linter.all false
set_option maxRecDepth 100000
namespace Go.Ev
open Go.Proofs
variable {A : Type}

-- ============================================================ finds (function 5)
def finds_k (n : Nat) (a0 : Int) (a1 : Int) (a2 : Int) (k : Bool → Option A) : Option A :=
  bif (decide (a0 < 1)) then
    awake_k n fun r1 =>
    k r1
  else
    bif (decide (a0 > 1500)) then
      awake_k n fun r2 =>
      k r2
    else
      bif (decide (a1 < 1)) then
        awake_k n fun r3 =>
        k r3
      else
        bif (decide (a1 > 1500)) then
          awake_k n fun r4 =>
          k r4
        else
          bif (decide (a2 < 1)) then
            awake_k n fun r5 =>
            k r5
          else
            bif (decide (a2 > (imin a0 a1))) then
              awake_k n fun r6 =>
              k r6
            else
              row_k n a0 a2 1 fun r7 =>
              row_k n a1 a2 2 fun r8 =>
              make_k n r7 fun r9 =>
              fork_k n r8 r9 fun r10 =>
              bif (decide (r10 ≥ 0)) then
                bif (decide (r10 ≤ (IntKind.wrap .i64 (a2 - 1)))) then
                  if 0 ≤ r10 then
                    if r10 < (r7.length : Int) then
                      (r7[(Int.toNat r10)]?).bind fun y11 =>
                      if 0 ≤ r10 then
                        if r10 < (r8.length : Int) then
                          (r8[(Int.toNat r10)]?).bind fun y12 =>
                          bif (deq kT28 y11 y12) then
                            bif (decide ((IntKind.wrap .i64 ((IntKind.wrap .i64 (a0 - 1)) - r10)) ≤ (IntKind.wrap .i64 (2 * (IntKind.wrap .i64 ((IntKind.wrap .i64 (a0 - 1)) - (IntKind.wrap .i64 (a2 - 1)))))))) then
                              awake_k n fun r13 =>
                              k r13
                            else
                              k false
                          else
                            k false
                        else none
                      else none
                    else none
                  else none
                else
                  k false
              else
                k false

noncomputable def finds_E (n : Nat) : Env A := ⟨tys, [(8, awake_en n), (9, row_en n), (10, make_en n), (12, fork_en n)], []⟩
theorem finds_T (n : Nat) : TyOK Try.prog (finds_E (A := A) n) := tyOK_of rfl tysB
theorem finds_fns (n : Nat) : FnsOK Try.prog (finds_E (A := A) n) := AllOK.env rfl (AllOK.cons (awake_ok n) (AllOK.cons (row_ok n) (AllOK.cons (make_ok n) (AllOK.cons (fork_ok n) AllOK.nil))))
theorem finds_eq (n : Nat) (a0 : Int) (a1 : Int) (a2 : Int) (k : AV → List Blk → Option A) : fnK (finds_E n) Try.f5 [.pure] [.p (.int .i64) a0, .p (.int .i64) a1, .p (.int .i64) a2] k = finds_k n a0 a1 a2 (fun r0 => k (.p .bool r0) []) := by kernel_rfl
def finds_en (n : Nat) : Entry A := ⟨fun args k => args3 args (.int .i64) (.int .i64) (.int .i64) fun a0 a1 a2 => finds_k n a0 a1 a2 (fun r0 => k (.p .bool r0) [])⟩
theorem finds_lo (n : Nat) : ∀ c, Try.f5.body = some c → ∀ q ∈ loopsOf 0 c, ∀ L, (finds_E (A := A) n).lps.lookup q.1 = some L → LoopOK Try.prog q.2 L :=
  lo_body (by kernel_rfl : Try.f5.body = some (bodyOf Try.f5)) (lo_of (by kernel_rfl : loopsOf 0 (bodyOf Try.f5) = []) lo_nil)
theorem finds_ok (n : Nat) : FnOK Try.prog 5 (finds_en (A := A) n) :=
  FnOK.of (finds_T n) (finds_fns n) follows ⟨Try.func5, by kernel_rfl⟩ (finds_lo n) (rm := [.pure]) fun args k out h => by
    obtain ⟨a0, a1, a2, e, h1⟩ := args3_sound h
    subst e; rw [finds_eq]; exact h1

end Go.Ev
