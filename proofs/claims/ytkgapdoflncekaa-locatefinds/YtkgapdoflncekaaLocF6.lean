/-
  FUNCTION 6: printed by a program of our own (wip/gen/seat.py). 'masthead/mastheadlaw21.LocateAfter', in continuation form; the evaluator gives it.
-/
import Derived.Test.YtkgapdoflncekaaLocF4
set_option linter.all false
set_option maxRecDepth 100000
namespace Go.Ev
open Go.Proofs
variable {A : Type}

-- ============================================================ afters (function 6)
def afters_b0 (n : Nat) (t2 : Bool) (t15 : (List Int)) (t16 : Int) (z : ((List Int) × (Int × (Int × (Int × Unit))))) (k0 : Int → (List (List Int)) → Option A) (r : Int → (List (List Int)) → Option A) (t17 : Int) (l : (List (List Int))) : Option A :=
  bif (decide (t17 < t16)) then
    if 0 ≤ t17 then
      (t15[(Int.toNat t17)]?).bind fun y2 =>
      if (l.length + 1) * 32 ≤ 140737488355328 then
        r (IntKind.wrap .i64 (t17 + 1)) (l ++ [((List.replicate 32 0).set 0 y2)])
      else none
    else none
  else
    k0 t17 l

def afters_l0 (n : Nat) (t2 : Bool) (t15 : (List Int)) (t16 : Int) (z : ((List Int) × (Int × (Int × (Int × Unit))))) (k0 : Int → (List (List Int)) → Option A) : Nat → Int → (List (List Int)) → Option A
  | 0 => fun _ _ => none
  | f + 1 => afters_b0 n t2 t15 t16 z k0 (afters_l0 n t2 t15 t16 z k0 f)

def afters_k (n : Nat) (a0 : ((List Int) × (Int × (Int × (Int × Unit))))) (k : Bool → Option A) : Option A :=
  bif (decide ((a0.1.length : Int) > 60)) then
    awake_k n fun r1 =>
    k r1
  else
    afters_l0 n false a0.1 (a0.1.length : Int) a0 (fun y3 y4 =>
      after_k n y4 a0.2.1 ((List.replicate 32 0).set 0 a0.2.2.2.1) a0.2.2.1 fun r5 r6 =>
      refs_k n y4 fun r7 =>
      rafter_k n r7 a0.2.1 ((List.replicate 32 0).set 0 a0.2.2.2.1) a0.2.2.1 fun r8 =>
      bif ((r8.length : Int) != (IntKind.wrap .i64 (r6 - r5))) then
        k false
      else
        bif (decide (r5 > r6)) then
          k false
        else
          bif (decide (r6 > (y4.length : Int))) then
            k false
          else
            bif (decide (a0.2.1 < 0)) then
              bif (r5 == 0) then
                bif (r6 == 0) then
                  awake_k n fun r9 =>
                  k r9
                else
                  k false
              else
                k false
            else
              bif (decide (a0.2.1 ≥ (y4.length : Int))) then
                bif (r5 == 0) then
                  bif (r6 == 0) then
                    awake_k n fun r10 =>
                    k r10
                  else
                    k false
                else
                  k false
              else
                bif (r5 == (IntKind.wrap .i64 (a0.2.1 + 1))) then
                  awake_k n fun r11 =>
                  k r11
                else
                  k false) n 0 []

noncomputable def afters_c0 : Code := codeAt [1, 1, 1, 0, 1, 0, 0] (bodyOf Try.f6)
def afters_d0 : List Nat := [0, 5, 9, 10, 11, 12, 14, 18, 19, 20, 21, 22, 23, 24, 25, 26]
def afters_sh0 : Shape := ⟨[.any, (.ptr 0), (.p .bool), (.row 1), .any, .any, .any, .any, .any, .any, .any, .any, .any, .any, .any, (.p (.sl (.int .u8))), (.p (.int .i64)), (.p (.int .i64)), .any, .any, .any, .any, .any, .any, .any, .any, .any, .any, .any, .any, .any, .any, .any, .any, .any, .any, .any, .any, .any, .any, .any, .any, .any, .any, .any, .any, .any, .any, .any, .any, .any, .any, .any, .any, .any, .any, .any, .any, .any, .any, .any, .any, .any, .any, .any, .any, .any, .any, .any, .any, .any, .any, .any, .any, .any, .any, .any, .any, .any, .any, .any, .any, .any, .any, .any, .any, .any, .any, .any, .any, .any, .any, .any], [(.var 39 kT38 (.p kT38)), (.row 29 kT28)]⟩
def afters_t0 (t2 : Bool) (t15 : (List Int)) (t16 : Int) (z : ((List Int) × (Int × (Int × (Int × Unit))))) (t17 : Int) (l : (List (List Int))) : afters_sh0.den := (((), (), t2, (), (), (), (), (), (), (), (), (), (), (), (), t15, t16, t17, (), (), (), (), (), (), (), (), (), (), (), (), (), (), (), (), (), (), (), (), (), (), (), (), (), (), (), (), (), (), (), (), (), (), (), (), (), (), (), (), (), (), (), (), (), (), (), (), (), (), (), (), (), (), (), (), (), (), (), (), (), (), (), (), (), (), (), (), (), (), (), (), (), (), (), ()), (z, l, ()))
def afters_x0_0 (t2 : Bool) (t15 : (List Int)) (t16 : Int) (z : ((List Int) × (Int × (Int × (Int × Unit))))) (z3 : Int) (z5 : (List (List Int))) : St := ⟨[.any, .ptr 0 [], .p .bool t2, .row 1, .any, .any, .any, .any, .any, .any, .any, .any, .any, .any, .any, .p (.sl (.int .u8)) t15, .p (.int .i64) t16, .p (.int .i64) z3, .any, .any, .any, .any, .any, .any, .any, .any, .any, .any, .any, .any, .any, .any, .any, .any, .any, .any, .any, .any, .any, .any, .any, .any, .any, .any, .any, .any, .any, .any, .any, .any, .any, .any, .any, .any, .any, .any, .any, .any, .any, .any, .any, .any, .any, .any, .any, .any, .any, .any, .any, .any, .any, .any, .any, .any, .any, .any, .any, .any, .any, .any, .any, .any, .any, .any, .any, .any, .any, .any, .any, .any, .any, .any, .any], [.var 39 kT38 (.p kT38 z), .row 29 kT28 z5], 0⟩
def afters_g0 (n : Nat) (d : afters_sh0.den) (k : Ex → St → Option A) : Option A :=
  afters_l0 n d.1.2.2.1 d.1.2.2.2.2.2.2.2.2.2.2.2.2.2.2.2.1 d.1.2.2.2.2.2.2.2.2.2.2.2.2.2.2.2.2.1 d.2.1 (fun z3 z5 => k (.exit 0) (afters_x0_0 d.1.2.2.1 d.1.2.2.2.2.2.2.2.2.2.2.2.2.2.2.2.1 d.1.2.2.2.2.2.2.2.2.2.2.2.2.2.2.2.2.1 d.2.1 z3 z5)) n d.1.2.2.2.2.2.2.2.2.2.2.2.2.2.2.2.2.2.1 d.2.2.1
noncomputable def afters_E (n : Nat) : Env A := ⟨tys, [(8, awake_en n), (15, after_en n), (14, refs_en n), (16, rafter_en n)], [(0, loopE afters_d0 afters_sh0 (afters_g0 n))]⟩
theorem afters_T (n : Nat) : TyOK Try.prog (afters_E (A := A) n) := tyOK_of rfl tysB
theorem afters_fns (n : Nat) : FnsOK Try.prog (afters_E (A := A) n) := AllOK.env rfl (AllOK.cons (awake_ok n) (AllOK.cons (after_ok n) (AllOK.cons (refs_ok n) (AllOK.cons (rafter_ok n) AllOK.nil))))
noncomputable def afters_LK0 (n : Nat) (t2 : Bool) (t15 : (List Int)) (t16 : Int) (z : ((List Int) × (Int × (Int × (Int × Unit))))) (k : Ex → St → Option A) (f : Nat) (t17 : Int) (l : (List (List Int))) : Option A := loopK (codeK (afters_E n) 1 afters_c0) afters_d0 f (afters_sh0.fill (afters_t0 t2 t15 t16 z t17 l)) k
theorem afters_st0 (n f : Nat) (t2 : Bool) (t15 : (List Int)) (t16 : Int) (z : ((List Int) × (Int × (Int × (Int × Unit))))) (k : Ex → St → Option A) (t17 : Int) (l : (List (List Int))) : afters_LK0 n t2 t15 t16 z k (f + 1) t17 l = afters_b0 n t2 t15 t16 z (fun z3 z5 => k (.exit 0) (afters_x0_0 t2 t15 t16 z z3 z5)) (afters_LK0 n t2 t15 t16 z k f) t17 l := by kernel_rfl
theorem afters_le0 (n : Nat) (t2 : Bool) (t15 : (List Int)) (t16 : Int) (z : ((List Int) × (Int × (Int × (Int × Unit))))) (k : Ex → St → Option A) : ∀ (f : Nat) (t17 : Int) (l : (List (List Int))), afters_LK0 n t2 t15 t16 z k f t17 l = afters_l0 n t2 t15 t16 z (fun z3 z5 => k (.exit 0) (afters_x0_0 t2 t15 t16 z z3 z5)) f t17 l := by
  intro f
  induction f with
  | zero => intros; kernel_rfl
  | succ f ih => intro t17 l; exact (afters_st0 n f t2 t15 t16 z k t17 l).trans ((congrArg (fun r => afters_b0 n t2 t15 t16 z (fun z3 z5 => k (.exit 0) (afters_x0_0 t2 t15 t16 z z3 z5)) r t17 l) (funext fun t17 => funext fun l => ih t17 l)).trans (by kernel_rfl))
theorem afters_lo0 (n : Nat) : LoopOK Try.prog afters_c0 (loopE afters_d0 afters_sh0 (afters_g0 (A := A) n)) :=
  LoopOK.of (afters_T n) (afters_fns n) follows (j := 1) (n := n) (lo_of (by kernel_rfl : loopsOf 1 afters_c0 = []) lo_nil) fun d k => Eq.trans (by kernel_rfl) (afters_le0 n d.1.2.2.1 d.1.2.2.2.2.2.2.2.2.2.2.2.2.2.2.2.1 d.1.2.2.2.2.2.2.2.2.2.2.2.2.2.2.2.2.1 d.2.1 k n d.1.2.2.2.2.2.2.2.2.2.2.2.2.2.2.2.2.2.1 d.2.2.1)
theorem afters_eq (n : Nat) (a0 : ((List Int) × (Int × (Int × (Int × Unit))))) (k : AV → List Blk → Option A) : fnK (afters_E n) Try.f6 [.pure] [.p kT38 a0] k = afters_k n a0 (fun r0 => k (.p .bool r0) []) := by kernel_rfl
def afters_en (n : Nat) : Entry A := ⟨fun args k => args1 args kT38 fun a0 => afters_k n a0 (fun r0 => k (.p .bool r0) [])⟩
theorem afters_lo (n : Nat) : ∀ c, Try.f6.body = some c → ∀ q ∈ loopsOf 0 c, ∀ L, (afters_E (A := A) n).lps.lookup q.1 = some L → LoopOK Try.prog q.2 L :=
  lo_body (by kernel_rfl : Try.f6.body = some (bodyOf Try.f6)) (lo_of (by kernel_rfl : loopsOf 0 (bodyOf Try.f6) = [(0, afters_c0)]) (lo_cons rfl (afters_lo0 n) lo_nil))
theorem afters_ok (n : Nat) : FnOK Try.prog 6 (afters_en (A := A) n) :=
  FnOK.of (afters_T n) (afters_fns n) follows ⟨Try.func6, by kernel_rfl⟩ (afters_lo n) (rm := [.pure]) fun args k out h => by
    obtain ⟨a0, e, h1⟩ := args1_sound h
    subst e; rw [afters_eq]; exact h1

end Go.Ev
