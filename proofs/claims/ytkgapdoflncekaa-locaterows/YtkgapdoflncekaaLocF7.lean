/-
  FUNCTION 7: printed by a program of our own (wip/gen/seat.py). 'masthead/mastheadlaw21.LocateRows', in continuation form; the evaluator gives it.
-/
import Derived.Test.YtkgapdoflncekaaLocF5
set_option linter.all false
set_option maxRecDepth 100000
namespace Go.Ev
open Go.Proofs
variable {A : Type}

-- ============================================================ rows (function 7)
def rows_k (n : Nat) (a0 : Int) (a1 : Int) (a2 : Int) (k : Bool → Option A) : Option A :=
  bif (decide (a0 < 1)) then
    awake_k n fun r1 =>
    k r1
  else
    bif (decide (a0 > 1000)) then
      awake_k n fun r2 =>
      k r2
    else
      bif (decide (a1 < 0)) then
        awake_k n fun r3 =>
        k r3
      else
        bif (decide (a1 > 500)) then
          awake_k n fun r4 =>
          k r4
        else
          bif (decide (a2 < 0)) then
            awake_k n fun r5 =>
            k r5
          else
            row_k n (IntKind.wrap .i64 (a0 + a1)) (IntKind.wrap .i64 (a0 + a1)) 0 fun r6 =>
            if 0 ≤ a0 then
              if a0 ≤ (r6.length : Int) then
                make_k n ((r6.drop 0).take ((Int.toNat a0) - 0)) fun r7 =>
                fork_k n r6 r7 fun r8 =>
                after_k n r6 r8 (List.replicate 32 0) a2 fun r9 r10 =>
                bif (r9 == a0) then
                  bif (r10 == (IntKind.wrap .i64 (a0 + (imin a1 a2)))) then
                    awake_k n fun r11 =>
                    k r11
                  else
                    k false
                else
                  k false
              else none
            else none

noncomputable def rows_E (n : Nat) : Env A := ⟨tys, [(8, awake_en n), (9, row_en n), (10, make_en n), (12, fork_en n), (15, after_en n)], []⟩
theorem rows_T (n : Nat) : TyOK Try.prog (rows_E (A := A) n) := tyOK_of rfl tysB
theorem rows_fns (n : Nat) : FnsOK Try.prog (rows_E (A := A) n) := AllOK.env rfl (AllOK.cons (awake_ok n) (AllOK.cons (row_ok n) (AllOK.cons (make_ok n) (AllOK.cons (fork_ok n) (AllOK.cons (after_ok n) AllOK.nil)))))
theorem rows_eq (n : Nat) (a0 : Int) (a1 : Int) (a2 : Int) (k : AV → List Blk → Option A) : fnK (rows_E n) Try.f7 [.pure] [.p (.int .i64) a0, .p (.int .i64) a1, .p (.int .i64) a2] k = rows_k n a0 a1 a2 (fun r0 => k (.p .bool r0) []) := by kernel_rfl
def rows_en (n : Nat) : Entry A := ⟨fun args k => args3 args (.int .i64) (.int .i64) (.int .i64) fun a0 a1 a2 => rows_k n a0 a1 a2 (fun r0 => k (.p .bool r0) [])⟩
theorem rows_lo (n : Nat) : ∀ c, Try.f7.body = some c → ∀ q ∈ loopsOf 0 c, ∀ L, (rows_E (A := A) n).lps.lookup q.1 = some L → LoopOK Try.prog q.2 L :=
  lo_body (by kernel_rfl : Try.f7.body = some (bodyOf Try.f7)) (lo_of (by kernel_rfl : loopsOf 0 (bodyOf Try.f7) = []) lo_nil)
theorem rows_ok (n : Nat) : FnOK Try.prog 7 (rows_en (A := A) n) :=
  FnOK.of (rows_T n) (rows_fns n) follows ⟨Try.func7, by kernel_rfl⟩ (rows_lo n) (rm := [.pure]) fun args k out h => by
    obtain ⟨a0, a1, a2, e, h1⟩ := args3_sound h
    subst e; rw [rows_eq]; exact h1

end Go.Ev
