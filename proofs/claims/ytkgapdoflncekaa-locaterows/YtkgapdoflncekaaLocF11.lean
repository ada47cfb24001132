/-
  FUNCTION 11: printed by a program of our own (wip/gen/seat.py). 'masthead/mastheadref21.Heights', in continuation form; the evaluator gives it.
-/
import Derived.Test.YtkgapdoflncekaaLocF10
set_option linter.all false
set_option maxRecDepth 100000
namespace Go.Ev
open Go.Proofs
variable {A : Type}

-- ============================================================ heights (function 11)
def heights_b1 (n : Nat) (t2 : (List Int)) (k0 : Int → Int → (List Int) → Option A) (r : Int → Int → (List Int) → Option A) (at_ : Int) (step : Int) (out : (List Int)) : Option A :=
  bif (decide ((out.length : Int) ≥ 10)) then
    bif (decide (at_ > 0)) then
      if (out.length + 1) * 8 ≤ 140737488355328 then
        r (IntKind.wrap .i64 (at_ - (IntKind.wrap .i64 (step * 2)))) (IntKind.wrap .i64 (step * 2)) (out ++ [at_])
      else none
    else
      k0 at_ step out
  else
    k0 at_ step out

def heights_l1 (n : Nat) (t2 : (List Int)) (k0 : Int → Int → (List Int) → Option A) : Nat → Int → Int → (List Int) → Option A
  | 0 => fun _ _ _ => none
  | f + 1 => heights_b1 n t2 k0 (heights_l1 n t2 k0 f)

def heights_b0 (n : Nat) (t2 : (List Int)) (k0 : Int → Int → (List Int) → Option A) (r : Int → Int → (List Int) → Option A) (at_ : Int) (i : Int) (out : (List Int)) : Option A :=
  bif (decide (i < 10)) then
    bif (decide (at_ > 0)) then
      if (out.length + 1) * 8 ≤ 140737488355328 then
        r (IntKind.wrap .i64 (at_ - 1)) (IntKind.wrap .i64 (i + 1)) (out ++ [at_])
      else none
    else
      k0 at_ i out
  else
    k0 at_ i out

def heights_l0 (n : Nat) (t2 : (List Int)) (k0 : Int → Int → (List Int) → Option A) : Nat → Int → Int → (List Int) → Option A
  | 0 => fun _ _ _ => none
  | f + 1 => heights_b0 n t2 k0 (heights_l0 n t2 k0 f)

def heights_k (n : Nat) (a0 : Int) (k : (List Int) → Option A) : Option A :=
  bif (a0 == 0) then
    k []
  else
    heights_l0 n [] (fun y1 y2 y3 =>
      bif (decide ((y3.length : Int) > 0)) then
        if 0 ≤ (IntKind.wrap .i64 ((y3.length : Int) - 1)) then
          if (IntKind.wrap .i64 ((y3.length : Int) - 1)) < (y3.length : Int) then
            (y3[(Int.toNat (IntKind.wrap .i64 ((y3.length : Int) - 1)))]?).bind fun y4 =>
            heights_l1 n [] (fun y5 y6 y7 =>
              if (y7.length + 1) * 8 ≤ 140737488355328 then
                k (y7 ++ [0])
              else none) n (IntKind.wrap .i64 (y4 - 2)) 2 y3
          else none
        else none
      else
        heights_l1 n [] (fun y8 y9 y10 =>
          if (y10.length + 1) * 8 ≤ 140737488355328 then
            k (y10 ++ [0])
          else none) n y1 2 y3) n (IntKind.wrap .i64 (a0 - 1)) 0 []

noncomputable def heights_c0 : Code := codeAt [1, 1, 1, 1, 0, 1, 0, 0] (bodyOf Try.f11)
def heights_d0 : List Nat := [0, 7, 8, 9, 10, 11, 12, 13, 14, 15, 16, 17, 18, 19, 20, 21, 22, 23, 24]
def heights_sh0 : Shape := ⟨[.any, .any, (.row 0), (.row 1), (.p (.int .i64)), (.p (.int .i64)), .any, .any, .any, .any, .any, .any, .any, .any, .any, .any, .any, .any, .any, .any, .any, .any, .any, .any, .any, .any, .any, .any, .any, .any, .any, .any, .any, .any, .any, .any, .any, .any, .any, .any, .any, .any, .any, .any, .any, .any, .any, .any, .any, .any, .any, .any, .any, .any, .any], [(.row 3 (.int .i64)), (.row 3 (.int .i64))]⟩
def heights_t0 (t2 : (List Int)) (at_ : Int) (i : Int) (out : (List Int)) : heights_sh0.den := (((), (), (), (), at_, i, (), (), (), (), (), (), (), (), (), (), (), (), (), (), (), (), (), (), (), (), (), (), (), (), (), (), (), (), (), (), (), (), (), (), (), (), (), (), (), (), (), (), (), (), (), (), (), (), (), ()), (t2, out, ()))
def heights_x0_0 (t2 : (List Int)) (z0 : Int) (z1 : Int) (z3 : (List Int)) : St := ⟨[.any, .any, .row 0, .row 1, .p (.int .i64) z0, .p (.int .i64) z1, .any, .any, .any, .any, .any, .any, .any, .any, .any, .any, .any, .any, .any, .any, .any, .any, .any, .any, .any, .any, .any, .any, .any, .any, .any, .any, .any, .any, .any, .any, .any, .any, .any, .any, .any, .any, .any, .any, .any, .any, .any, .any, .any, .any, .any, .any, .any, .any, .any], [.row 3 (.int .i64) t2, .row 3 (.int .i64) z3], 0⟩
def heights_g0 (n : Nat) (d : heights_sh0.den) (k : Ex → St → Option A) : Option A :=
  heights_l0 n d.2.1 (fun z0 z1 z3 => k (.exit 0) (heights_x0_0 d.2.1 z0 z1 z3)) n d.1.2.2.2.2.1 d.1.2.2.2.2.2.1 d.2.2.1
noncomputable def heights_c1 : Code := codeAt [1, 1, 1, 1, 1, 1, 1, 0, 0, 0] (bodyOf Try.f11)
def heights_d1 : List Nat := [5, 25, 26, 27, 28, 29, 30, 31, 32, 33, 34, 35, 36, 37, 38, 39, 40, 41, 42, 43, 44, 45, 46, 47, 48, 49, 50, 51]
def heights_sh1 : Shape := ⟨[.any, .any, (.row 0), (.row 1), (.p (.int .i64)), .any, (.p (.int .i64)), .any, .any, .any, .any, .any, .any, .any, .any, .any, .any, .any, .any, .any, .any, .any, .any, .any, .any, .any, .any, .any, .any, .any, .any, .any, .any, .any, .any, .any, .any, .any, .any, .any, .any, .any, .any, .any, .any, .any, .any, .any, .any, .any, .any, .any, .any, .any, .any], [(.row 3 (.int .i64)), (.row 3 (.int .i64))]⟩
def heights_t1 (t2 : (List Int)) (at_ : Int) (step : Int) (out : (List Int)) : heights_sh1.den := (((), (), (), (), at_, (), step, (), (), (), (), (), (), (), (), (), (), (), (), (), (), (), (), (), (), (), (), (), (), (), (), (), (), (), (), (), (), (), (), (), (), (), (), (), (), (), (), (), (), (), (), (), (), (), (), ()), (t2, out, ()))
def heights_x1_0 (t2 : (List Int)) (z0 : Int) (z1 : Int) (z3 : (List Int)) : St := ⟨[.any, .any, .row 0, .row 1, .p (.int .i64) z0, .any, .p (.int .i64) z1, .any, .any, .any, .any, .any, .any, .any, .any, .any, .any, .any, .any, .any, .any, .any, .any, .any, .any, .any, .any, .any, .any, .any, .any, .any, .any, .any, .any, .any, .any, .any, .any, .any, .any, .any, .any, .any, .any, .any, .any, .any, .any, .any, .any, .any, .any, .any, .any], [.row 3 (.int .i64) t2, .row 3 (.int .i64) z3], 0⟩
def heights_g1 (n : Nat) (d : heights_sh1.den) (k : Ex → St → Option A) : Option A :=
  heights_l1 n d.2.1 (fun z0 z1 z3 => k (.exit 2) (heights_x1_0 d.2.1 z0 z1 z3)) n d.1.2.2.2.2.1 d.1.2.2.2.2.2.2.1 d.2.2.1
noncomputable def heights_E (n : Nat) : Env A := ⟨tys, [], [(0, loopE heights_d0 heights_sh0 (heights_g0 n)), (1, loopE heights_d1 heights_sh1 (heights_g1 n))]⟩
theorem heights_T (n : Nat) : TyOK Try.prog (heights_E (A := A) n) := tyOK_of rfl tysB
theorem heights_fns (n : Nat) : FnsOK Try.prog (heights_E (A := A) n) := AllOK.env rfl AllOK.nil
noncomputable def heights_LK1 (n : Nat) (t2 : (List Int)) (k : Ex → St → Option A) (f : Nat) (at_ : Int) (step : Int) (out : (List Int)) : Option A := loopK (codeK (heights_E n) 2 heights_c1) heights_d1 f (heights_sh1.fill (heights_t1 t2 at_ step out)) k
theorem heights_st1 (n f : Nat) (t2 : (List Int)) (k : Ex → St → Option A) (at_ : Int) (step : Int) (out : (List Int)) : heights_LK1 n t2 k (f + 1) at_ step out = heights_b1 n t2 (fun z0 z1 z3 => k (.exit 2) (heights_x1_0 t2 z0 z1 z3)) (heights_LK1 n t2 k f) at_ step out := by kernel_rfl
theorem heights_le1 (n : Nat) (t2 : (List Int)) (k : Ex → St → Option A) : ∀ (f : Nat) (at_ : Int) (step : Int) (out : (List Int)), heights_LK1 n t2 k f at_ step out = heights_l1 n t2 (fun z0 z1 z3 => k (.exit 2) (heights_x1_0 t2 z0 z1 z3)) f at_ step out := by
  intro f
  induction f with
  | zero => intros; kernel_rfl
  | succ f ih => intro at_ step out; exact (heights_st1 n f t2 k at_ step out).trans ((congrArg (fun r => heights_b1 n t2 (fun z0 z1 z3 => k (.exit 2) (heights_x1_0 t2 z0 z1 z3)) r at_ step out) (funext fun at_ => funext fun step => funext fun out => ih at_ step out)).trans (by kernel_rfl))
theorem heights_lo1 (n : Nat) : LoopOK Try.prog heights_c1 (loopE heights_d1 heights_sh1 (heights_g1 (A := A) n)) :=
  LoopOK.of (heights_T n) (heights_fns n) follows (j := 2) (n := n) (lo_of (by kernel_rfl : loopsOf 2 heights_c1 = []) lo_nil) fun d k => Eq.trans (by kernel_rfl) (heights_le1 n d.2.1 k n d.1.2.2.2.2.1 d.1.2.2.2.2.2.2.1 d.2.2.1)
noncomputable def heights_LK0 (n : Nat) (t2 : (List Int)) (k : Ex → St → Option A) (f : Nat) (at_ : Int) (i : Int) (out : (List Int)) : Option A := loopK (codeK (heights_E n) 1 heights_c0) heights_d0 f (heights_sh0.fill (heights_t0 t2 at_ i out)) k
theorem heights_st0 (n f : Nat) (t2 : (List Int)) (k : Ex → St → Option A) (at_ : Int) (i : Int) (out : (List Int)) : heights_LK0 n t2 k (f + 1) at_ i out = heights_b0 n t2 (fun z0 z1 z3 => k (.exit 0) (heights_x0_0 t2 z0 z1 z3)) (heights_LK0 n t2 k f) at_ i out := by kernel_rfl
theorem heights_le0 (n : Nat) (t2 : (List Int)) (k : Ex → St → Option A) : ∀ (f : Nat) (at_ : Int) (i : Int) (out : (List Int)), heights_LK0 n t2 k f at_ i out = heights_l0 n t2 (fun z0 z1 z3 => k (.exit 0) (heights_x0_0 t2 z0 z1 z3)) f at_ i out := by
  intro f
  induction f with
  | zero => intros; kernel_rfl
  | succ f ih => intro at_ i out; exact (heights_st0 n f t2 k at_ i out).trans ((congrArg (fun r => heights_b0 n t2 (fun z0 z1 z3 => k (.exit 0) (heights_x0_0 t2 z0 z1 z3)) r at_ i out) (funext fun at_ => funext fun i => funext fun out => ih at_ i out)).trans (by kernel_rfl))
theorem heights_lo0 (n : Nat) : LoopOK Try.prog heights_c0 (loopE heights_d0 heights_sh0 (heights_g0 (A := A) n)) :=
  LoopOK.of (heights_T n) (heights_fns n) follows (j := 1) (n := n) (lo_of (by kernel_rfl : loopsOf 1 heights_c0 = []) lo_nil) fun d k => Eq.trans (by kernel_rfl) (heights_le0 n d.2.1 k n d.1.2.2.2.2.1 d.1.2.2.2.2.2.1 d.2.2.1)
theorem heights_eq (n : Nat) (a0 : Int) (k : AV → List Blk → Option A) : fnK (heights_E n) Try.f11 [.own] [.p (.int .i64) a0] k = heights_k n a0 (fun r0 => k (.row 0) [.row 3 (.int .i64) r0]) := by kernel_rfl
def heights_en (n : Nat) : Entry A := ⟨fun args k => args1 args (.int .i64) fun a0 => heights_k n a0 (fun r0 => k (.row 0) [.row 3 (.int .i64) r0])⟩
theorem heights_lo (n : Nat) : ∀ c, Try.f11.body = some c → ∀ q ∈ loopsOf 0 c, ∀ L, (heights_E (A := A) n).lps.lookup q.1 = some L → LoopOK Try.prog q.2 L :=
  lo_body (by kernel_rfl : Try.f11.body = some (bodyOf Try.f11)) (lo_of (by kernel_rfl : loopsOf 0 (bodyOf Try.f11) = [(0, heights_c0), (1, heights_c1)]) (lo_cons rfl (heights_lo0 n) (lo_cons rfl (heights_lo1 n) lo_nil)))
theorem heights_ok (n : Nat) : FnOK Try.prog 11 (heights_en (A := A) n) :=
  FnOK.of (heights_T n) (heights_fns n) follows ⟨Try.func11, by kernel_rfl⟩ (heights_lo n) (rm := [.own]) fun args k out h => by
    obtain ⟨a0, e, h1⟩ := args1_sound h
    subst e; rw [heights_eq]; exact h1

end Go.Ev
