/-
  FUNCTION 10: printed by a program of our own (wip/gen/seat.py). 'masthead/locate.Make', in continuation form; the evaluator gives it.
-/
import Derived.Test.YtkgapdoflncekaaLocF9
set_option linter.all false
set_option maxRecDepth 100000
namespace Go.Ev
open Go.Proofs
variable {A : Type}

-- ============================================================ make (function 10)
def make_b0 (n : Nat) (line : (List (List Int))) (t2 : (List (List Int))) (k0 : Int → Int → (List (List Int)) → Option A) (r : Int → Int → (List (List Int)) → Option A) (step : Int) (at_ : Int) (out : (List (List Int))) : Option A :=
  bif (decide (at_ > 0)) then
    if 0 ≤ at_ then
      (line[(Int.toNat at_)]?).bind fun y1 =>
      if (out.length + 1) * 32 ≤ 140737488355328 then
        bif (decide (((out ++ [y1]).length : Int) ≥ 10)) then
          r (shl .i64 step 1) (IntKind.wrap .i64 (at_ - (shl .i64 step 1))) (out ++ [y1])
        else
          r step (IntKind.wrap .i64 (at_ - step)) (out ++ [y1])
      else none
    else none
  else
    k0 step at_ out

def make_l0 (n : Nat) (line : (List (List Int))) (t2 : (List (List Int))) (k0 : Int → Int → (List (List Int)) → Option A) : Nat → Int → Int → (List (List Int)) → Option A
  | 0 => fun _ _ _ => none
  | f + 1 => make_b0 n line t2 k0 (make_l0 n line t2 k0 f)

def make_k (n : Nat) (a0 : (List (List Int))) (k : (List (List Int)) → Option A) : Option A :=
  bif ((a0.length : Int) == 0) then
    k []
  else
    make_l0 n a0 [] (fun y2 y3 y4 =>
      (a0[0]?).bind fun y5 =>
      if (y4.length + 1) * 32 ≤ 140737488355328 then
        k (y4 ++ [y5])
      else none) n 1 (IntKind.wrap .i64 ((a0.length : Int) - 1)) []

noncomputable def make_c0 : Code := codeAt [1, 1, 1, 1, 0, 1, 0, 0] (bodyOf Try.f10)
def make_d0 : List Nat := [6, 7, 8, 9, 10, 11, 12, 13, 14, 15, 16, 17, 18, 19, 20, 21, 22, 23, 24, 25, 26, 27, 28]
def make_sh0 : Shape := ⟨[(.p (.sl kT28)), .any, (.row 0), (.row 1), (.p (.int .i64)), (.p (.int .i64)), .any, .any, .any, .any, .any, .any, .any, .any, .any, .any, .any, .any, .any, .any, .any, .any, .any, .any, .any, .any, .any, .any, .any, .any, .any, .any, .any, .any, .any], [(.row 29 kT28), (.row 29 kT28)]⟩
def make_t0 (line : (List (List Int))) (t2 : (List (List Int))) (step : Int) (at_ : Int) (out : (List (List Int))) : make_sh0.den := ((line, (), (), (), step, at_, (), (), (), (), (), (), (), (), (), (), (), (), (), (), (), (), (), (), (), (), (), (), (), (), (), (), (), (), (), ()), (t2, out, ()))
def make_x0_0 (line : (List (List Int))) (t2 : (List (List Int))) (z1 : Int) (z2 : Int) (z4 : (List (List Int))) : St := ⟨[.p (.sl kT28) line, .any, .row 0, .row 1, .p (.int .i64) z1, .p (.int .i64) z2, .any, .any, .any, .any, .any, .any, .any, .any, .any, .any, .any, .any, .any, .any, .any, .any, .any, .any, .any, .any, .any, .any, .any, .any, .any, .any, .any, .any, .any], [.row 29 kT28 t2, .row 29 kT28 z4], 0⟩
def make_g0 (n : Nat) (d : make_sh0.den) (k : Ex → St → Option A) : Option A :=
  make_l0 n d.1.1 d.2.1 (fun z1 z2 z4 => k (.exit 0) (make_x0_0 d.1.1 d.2.1 z1 z2 z4)) n d.1.2.2.2.2.1 d.1.2.2.2.2.2.1 d.2.2.1
noncomputable def make_E (n : Nat) : Env A := ⟨tys, [], [(0, loopE make_d0 make_sh0 (make_g0 n))]⟩
theorem make_T (n : Nat) : TyOK Try.prog (make_E (A := A) n) := tyOK_of rfl tysB
theorem make_fns (n : Nat) : FnsOK Try.prog (make_E (A := A) n) := AllOK.env rfl AllOK.nil
noncomputable def make_LK0 (n : Nat) (line : (List (List Int))) (t2 : (List (List Int))) (k : Ex → St → Option A) (f : Nat) (step : Int) (at_ : Int) (out : (List (List Int))) : Option A := loopK (codeK (make_E n) 1 make_c0) make_d0 f (make_sh0.fill (make_t0 line t2 step at_ out)) k
theorem make_st0 (n f : Nat) (line : (List (List Int))) (t2 : (List (List Int))) (k : Ex → St → Option A) (step : Int) (at_ : Int) (out : (List (List Int))) : make_LK0 n line t2 k (f + 1) step at_ out = make_b0 n line t2 (fun z1 z2 z4 => k (.exit 0) (make_x0_0 line t2 z1 z2 z4)) (make_LK0 n line t2 k f) step at_ out := by kernel_rfl
theorem make_le0 (n : Nat) (line : (List (List Int))) (t2 : (List (List Int))) (k : Ex → St → Option A) : ∀ (f : Nat) (step : Int) (at_ : Int) (out : (List (List Int))), make_LK0 n line t2 k f step at_ out = make_l0 n line t2 (fun z1 z2 z4 => k (.exit 0) (make_x0_0 line t2 z1 z2 z4)) f step at_ out := by
  intro f
  induction f with
  | zero => intros; kernel_rfl
  | succ f ih => intro step at_ out; exact (make_st0 n f line t2 k step at_ out).trans ((congrArg (fun r => make_b0 n line t2 (fun z1 z2 z4 => k (.exit 0) (make_x0_0 line t2 z1 z2 z4)) r step at_ out) (funext fun step => funext fun at_ => funext fun out => ih step at_ out)).trans (by kernel_rfl))
theorem make_lo0 (n : Nat) : LoopOK Try.prog make_c0 (loopE make_d0 make_sh0 (make_g0 (A := A) n)) :=
  LoopOK.of (make_T n) (make_fns n) follows (j := 1) (n := n) (lo_of (by kernel_rfl : loopsOf 1 make_c0 = []) lo_nil) fun d k => Eq.trans (by kernel_rfl) (make_le0 n d.1.1 d.2.1 k n d.1.2.2.2.2.1 d.1.2.2.2.2.2.1 d.2.2.1)
theorem make_eq (n : Nat) (a0 : (List (List Int))) (k : AV → List Blk → Option A) : fnK (make_E n) Try.f10 [.own] [.p (.sl kT28) a0] k = make_k n a0 (fun r0 => k (.row 0) [.row 29 kT28 r0]) := by kernel_rfl
def make_en (n : Nat) : Entry A := ⟨fun args k => args1 args (.sl kT28) fun a0 => make_k n a0 (fun r0 => k (.row 0) [.row 29 kT28 r0])⟩
theorem make_lo (n : Nat) : ∀ c, Try.f10.body = some c → ∀ q ∈ loopsOf 0 c, ∀ L, (make_E (A := A) n).lps.lookup q.1 = some L → LoopOK Try.prog q.2 L :=
  lo_body (by kernel_rfl : Try.f10.body = some (bodyOf Try.f10)) (lo_of (by kernel_rfl : loopsOf 0 (bodyOf Try.f10) = [(0, make_c0)]) (lo_cons rfl (make_lo0 n) lo_nil))
theorem make_ok (n : Nat) : FnOK Try.prog 10 (make_en (A := A) n) :=
  FnOK.of (make_T n) (make_fns n) follows ⟨Try.func10, by kernel_rfl⟩ (make_lo n) (rm := [.own]) fun args k out h => by
    obtain ⟨a0, e, h1⟩ := args1_sound h
    subst e; rw [make_eq]; exact h1

end Go.Ev
