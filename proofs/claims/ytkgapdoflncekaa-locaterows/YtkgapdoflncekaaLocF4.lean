/-
  FUNCTION 4: printed by a program of our own (wip/gen/seat.py). 'masthead/mastheadlaw21.LocateForks', in continuation form; the evaluator gives it.
-/
import Derived.Test.YtkgapdoflncekaaLocF3
set_option linter.all false
set_option maxRecDepth 100000
namespace Go.Ev
open Go.Proofs
variable {A : Type}

-- ============================================================ forks (function 4)
def forks_b1 (n : Nat) (t4 : Bool) (t32 : (List Int)) (t33 : Int) (l : (List (List Int))) (k0 : Int → (List (List Int)) → Option A) (r : Int → (List (List Int)) → Option A) (t34 : Int) (m : (List (List Int))) : Option A :=
  bif (decide (t34 < t33)) then
    if 0 ≤ t34 then
      (t32[(Int.toNat t34)]?).bind fun y6 =>
      if (m.length + 1) * 32 ≤ 140737488355328 then
        r (IntKind.wrap .i64 (t34 + 1)) (m ++ [((List.replicate 32 0).set 0 y6)])
      else none
    else none
  else
    k0 t34 m

def forks_l1 (n : Nat) (t4 : Bool) (t32 : (List Int)) (t33 : Int) (l : (List (List Int))) (k0 : Int → (List (List Int)) → Option A) : Nat → Int → (List (List Int)) → Option A
  | 0 => fun _ _ => none
  | f + 1 => forks_b1 n t4 t32 t33 l k0 (forks_l1 n t4 t32 t33 l k0 f)

def forks_b0 (n : Nat) (loc : (List Int)) (t4 : Bool) (t20 : (List Int)) (t21 : Int) (m : (List (List Int))) (k0 : Int → (List (List Int)) → Option A) (r : Int → (List (List Int)) → Option A) (t22 : Int) (l : (List (List Int))) : Option A :=
  bif (decide (t22 < t21)) then
    if 0 ≤ t22 then
      (t20[(Int.toNat t22)]?).bind fun y3 =>
      if (l.length + 1) * 32 ≤ 140737488355328 then
        r (IntKind.wrap .i64 (t22 + 1)) (l ++ [((List.replicate 32 0).set 0 y3)])
      else none
    else none
  else
    k0 t22 l

def forks_l0 (n : Nat) (loc : (List Int)) (t4 : Bool) (t20 : (List Int)) (t21 : Int) (m : (List (List Int))) (k0 : Int → (List (List Int)) → Option A) : Nat → Int → (List (List Int)) → Option A
  | 0 => fun _ _ => none
  | f + 1 => forks_b0 n loc t4 t20 t21 m k0 (forks_l0 n loc t4 t20 t21 m k0 f)

def forks_k (n : Nat) (a0 : (List Int)) (a1 : (List Int)) (k : Bool → Option A) : Option A :=
  bif (decide ((a0.length : Int) > 40)) then
    awake_k n fun r1 =>
    k r1
  else
    bif (decide ((a1.length : Int) > 40)) then
      awake_k n fun r2 =>
      k r2
    else
      forks_l0 n a1 false a0 (a0.length : Int) [] (fun y4 y5 =>
        forks_l1 n false a1 (a1.length : Int) y5 (fun y7 y8 =>
          fork_k n y5 y8 fun r9 =>
          refs_k n y5 fun r10 =>
          refs_k n y8 fun r11 =>
          rfork_k n r10 r11 fun r12 =>
          bif (r9 == r12) then
            awake_k n fun r13 =>
            k r13
          else
            k false) n 0 []) n 0 []

noncomputable def forks_c0 : Code := codeAt [1, 1, 1, 0, 1, 0, 0] (bodyOf Try.f4)
def forks_d0 : List Nat := [0, 8, 11, 12, 13, 14, 15, 16, 17, 18, 23, 24, 25, 26, 27, 28, 29, 30, 31]
def forks_sh0 : Shape := ⟨[.any, (.p (.sl (.int .u8))), .any, .any, (.p .bool), (.row 0), (.row 1), .any, .any, .any, .any, .any, .any, .any, .any, .any, .any, .any, .any, .any, (.p (.sl (.int .u8))), (.p (.int .i64)), (.p (.int .i64)), .any, .any, .any, .any, .any, .any, .any, .any, .any, .any, .any, .any, .any, .any, .any, .any, .any, .any, .any, .any, .any, .any, .any, .any, .any, .any, .any, .any, .any, .any, .any, .any, .any], [(.row 29 kT28), (.row 29 kT28)]⟩
def forks_t0 (loc : (List Int)) (t4 : Bool) (t20 : (List Int)) (t21 : Int) (m : (List (List Int))) (t22 : Int) (l : (List (List Int))) : forks_sh0.den := (((), loc, (), (), t4, (), (), (), (), (), (), (), (), (), (), (), (), (), (), (), t20, t21, t22, (), (), (), (), (), (), (), (), (), (), (), (), (), (), (), (), (), (), (), (), (), (), (), (), (), (), (), (), (), (), (), (), (), ()), (l, m, ()))
def forks_x0_0 (loc : (List Int)) (t4 : Bool) (t20 : (List Int)) (t21 : Int) (m : (List (List Int))) (z4 : Int) (z5 : (List (List Int))) : St := ⟨[.any, .p (.sl (.int .u8)) loc, .any, .any, .p .bool t4, .row 0, .row 1, .any, .any, .any, .any, .any, .any, .any, .any, .any, .any, .any, .any, .any, .p (.sl (.int .u8)) t20, .p (.int .i64) t21, .p (.int .i64) z4, .any, .any, .any, .any, .any, .any, .any, .any, .any, .any, .any, .any, .any, .any, .any, .any, .any, .any, .any, .any, .any, .any, .any, .any, .any, .any, .any, .any, .any, .any, .any, .any, .any], [.row 29 kT28 z5, .row 29 kT28 m], 0⟩
def forks_g0 (n : Nat) (d : forks_sh0.den) (k : Ex → St → Option A) : Option A :=
  forks_l0 n d.1.2.1 d.1.2.2.2.2.1 d.1.2.2.2.2.2.2.2.2.2.2.2.2.2.2.2.2.2.2.2.2.1 d.1.2.2.2.2.2.2.2.2.2.2.2.2.2.2.2.2.2.2.2.2.2.1 d.2.2.1 (fun z4 z5 => k (.exit 0) (forks_x0_0 d.1.2.1 d.1.2.2.2.2.1 d.1.2.2.2.2.2.2.2.2.2.2.2.2.2.2.2.2.2.2.2.2.1 d.1.2.2.2.2.2.2.2.2.2.2.2.2.2.2.2.2.2.2.2.2.2.1 d.2.2.1 z4 z5)) n d.1.2.2.2.2.2.2.2.2.2.2.2.2.2.2.2.2.2.2.2.2.2.2.1 d.2.1
noncomputable def forks_c1 : Code := codeAt [1, 1, 1, 1, 0, 1, 0, 0] (bodyOf Try.f4)
def forks_d1 : List Nat := [1, 10, 20, 21, 22, 35, 36, 37, 38, 39, 40, 41, 42, 43]
def forks_sh1 : Shape := ⟨[.any, .any, .any, .any, (.p .bool), (.row 0), (.row 1), .any, .any, .any, .any, .any, .any, .any, .any, .any, .any, .any, .any, .any, .any, .any, .any, .any, .any, .any, .any, .any, .any, .any, .any, .any, (.p (.sl (.int .u8))), (.p (.int .i64)), (.p (.int .i64)), .any, .any, .any, .any, .any, .any, .any, .any, .any, .any, .any, .any, .any, .any, .any, .any, .any, .any, .any, .any, .any], [(.row 29 kT28), (.row 29 kT28)]⟩
def forks_t1 (t4 : Bool) (t32 : (List Int)) (t33 : Int) (l : (List (List Int))) (t34 : Int) (m : (List (List Int))) : forks_sh1.den := (((), (), (), (), t4, (), (), (), (), (), (), (), (), (), (), (), (), (), (), (), (), (), (), (), (), (), (), (), (), (), (), (), t32, t33, t34, (), (), (), (), (), (), (), (), (), (), (), (), (), (), (), (), (), (), (), (), (), ()), (l, m, ()))
def forks_x1_0 (t4 : Bool) (t32 : (List Int)) (t33 : Int) (l : (List (List Int))) (z3 : Int) (z5 : (List (List Int))) : St := ⟨[.any, .any, .any, .any, .p .bool t4, .row 0, .row 1, .any, .any, .any, .any, .any, .any, .any, .any, .any, .any, .any, .any, .any, .any, .any, .any, .any, .any, .any, .any, .any, .any, .any, .any, .any, .p (.sl (.int .u8)) t32, .p (.int .i64) t33, .p (.int .i64) z3, .any, .any, .any, .any, .any, .any, .any, .any, .any, .any, .any, .any, .any, .any, .any, .any, .any, .any, .any, .any, .any], [.row 29 kT28 l, .row 29 kT28 z5], 0⟩
def forks_g1 (n : Nat) (d : forks_sh1.den) (k : Ex → St → Option A) : Option A :=
  forks_l1 n d.1.2.2.2.2.1 d.1.2.2.2.2.2.2.2.2.2.2.2.2.2.2.2.2.2.2.2.2.2.2.2.2.2.2.2.2.2.2.2.2.1 d.1.2.2.2.2.2.2.2.2.2.2.2.2.2.2.2.2.2.2.2.2.2.2.2.2.2.2.2.2.2.2.2.2.2.1 d.2.1 (fun z3 z5 => k (.exit 2) (forks_x1_0 d.1.2.2.2.2.1 d.1.2.2.2.2.2.2.2.2.2.2.2.2.2.2.2.2.2.2.2.2.2.2.2.2.2.2.2.2.2.2.2.2.1 d.1.2.2.2.2.2.2.2.2.2.2.2.2.2.2.2.2.2.2.2.2.2.2.2.2.2.2.2.2.2.2.2.2.2.1 d.2.1 z3 z5)) n d.1.2.2.2.2.2.2.2.2.2.2.2.2.2.2.2.2.2.2.2.2.2.2.2.2.2.2.2.2.2.2.2.2.2.2.1 d.2.2.1
noncomputable def forks_E (n : Nat) : Env A := ⟨tys, [(8, awake_en n), (12, fork_en n), (14, refs_en n), (13, rfork_en n)], [(0, loopE forks_d0 forks_sh0 (forks_g0 n)), (1, loopE forks_d1 forks_sh1 (forks_g1 n))]⟩
theorem forks_T (n : Nat) : TyOK Try.prog (forks_E (A := A) n) := tyOK_of rfl tysB
theorem forks_fns (n : Nat) : FnsOK Try.prog (forks_E (A := A) n) := AllOK.env rfl (AllOK.cons (awake_ok n) (AllOK.cons (fork_ok n) (AllOK.cons (refs_ok n) (AllOK.cons (rfork_ok n) AllOK.nil))))
noncomputable def forks_LK1 (n : Nat) (t4 : Bool) (t32 : (List Int)) (t33 : Int) (l : (List (List Int))) (k : Ex → St → Option A) (f : Nat) (t34 : Int) (m : (List (List Int))) : Option A := loopK (codeK (forks_E n) 2 forks_c1) forks_d1 f (forks_sh1.fill (forks_t1 t4 t32 t33 l t34 m)) k
theorem forks_st1 (n f : Nat) (t4 : Bool) (t32 : (List Int)) (t33 : Int) (l : (List (List Int))) (k : Ex → St → Option A) (t34 : Int) (m : (List (List Int))) : forks_LK1 n t4 t32 t33 l k (f + 1) t34 m = forks_b1 n t4 t32 t33 l (fun z3 z5 => k (.exit 2) (forks_x1_0 t4 t32 t33 l z3 z5)) (forks_LK1 n t4 t32 t33 l k f) t34 m := by kernel_rfl
theorem forks_le1 (n : Nat) (t4 : Bool) (t32 : (List Int)) (t33 : Int) (l : (List (List Int))) (k : Ex → St → Option A) : ∀ (f : Nat) (t34 : Int) (m : (List (List Int))), forks_LK1 n t4 t32 t33 l k f t34 m = forks_l1 n t4 t32 t33 l (fun z3 z5 => k (.exit 2) (forks_x1_0 t4 t32 t33 l z3 z5)) f t34 m := by
  intro f
  induction f with
  | zero => intros; kernel_rfl
  | succ f ih => intro t34 m; exact (forks_st1 n f t4 t32 t33 l k t34 m).trans ((congrArg (fun r => forks_b1 n t4 t32 t33 l (fun z3 z5 => k (.exit 2) (forks_x1_0 t4 t32 t33 l z3 z5)) r t34 m) (funext fun t34 => funext fun m => ih t34 m)).trans (by kernel_rfl))
theorem forks_lo1 (n : Nat) : LoopOK Try.prog forks_c1 (loopE forks_d1 forks_sh1 (forks_g1 (A := A) n)) :=
  LoopOK.of (forks_T n) (forks_fns n) follows (j := 2) (n := n) (lo_of (by kernel_rfl : loopsOf 2 forks_c1 = []) lo_nil) fun d k => Eq.trans (by kernel_rfl) (forks_le1 n d.1.2.2.2.2.1 d.1.2.2.2.2.2.2.2.2.2.2.2.2.2.2.2.2.2.2.2.2.2.2.2.2.2.2.2.2.2.2.2.2.1 d.1.2.2.2.2.2.2.2.2.2.2.2.2.2.2.2.2.2.2.2.2.2.2.2.2.2.2.2.2.2.2.2.2.2.1 d.2.1 k n d.1.2.2.2.2.2.2.2.2.2.2.2.2.2.2.2.2.2.2.2.2.2.2.2.2.2.2.2.2.2.2.2.2.2.2.1 d.2.2.1)
noncomputable def forks_LK0 (n : Nat) (loc : (List Int)) (t4 : Bool) (t20 : (List Int)) (t21 : Int) (m : (List (List Int))) (k : Ex → St → Option A) (f : Nat) (t22 : Int) (l : (List (List Int))) : Option A := loopK (codeK (forks_E n) 1 forks_c0) forks_d0 f (forks_sh0.fill (forks_t0 loc t4 t20 t21 m t22 l)) k
theorem forks_st0 (n f : Nat) (loc : (List Int)) (t4 : Bool) (t20 : (List Int)) (t21 : Int) (m : (List (List Int))) (k : Ex → St → Option A) (t22 : Int) (l : (List (List Int))) : forks_LK0 n loc t4 t20 t21 m k (f + 1) t22 l = forks_b0 n loc t4 t20 t21 m (fun z4 z5 => k (.exit 0) (forks_x0_0 loc t4 t20 t21 m z4 z5)) (forks_LK0 n loc t4 t20 t21 m k f) t22 l := by kernel_rfl
theorem forks_le0 (n : Nat) (loc : (List Int)) (t4 : Bool) (t20 : (List Int)) (t21 : Int) (m : (List (List Int))) (k : Ex → St → Option A) : ∀ (f : Nat) (t22 : Int) (l : (List (List Int))), forks_LK0 n loc t4 t20 t21 m k f t22 l = forks_l0 n loc t4 t20 t21 m (fun z4 z5 => k (.exit 0) (forks_x0_0 loc t4 t20 t21 m z4 z5)) f t22 l := by
  intro f
  induction f with
  | zero => intros; kernel_rfl
  | succ f ih => intro t22 l; exact (forks_st0 n f loc t4 t20 t21 m k t22 l).trans ((congrArg (fun r => forks_b0 n loc t4 t20 t21 m (fun z4 z5 => k (.exit 0) (forks_x0_0 loc t4 t20 t21 m z4 z5)) r t22 l) (funext fun t22 => funext fun l => ih t22 l)).trans (by kernel_rfl))
theorem forks_lo0 (n : Nat) : LoopOK Try.prog forks_c0 (loopE forks_d0 forks_sh0 (forks_g0 (A := A) n)) :=
  LoopOK.of (forks_T n) (forks_fns n) follows (j := 1) (n := n) (lo_of (by kernel_rfl : loopsOf 1 forks_c0 = []) lo_nil) fun d k => Eq.trans (by kernel_rfl) (forks_le0 n d.1.2.1 d.1.2.2.2.2.1 d.1.2.2.2.2.2.2.2.2.2.2.2.2.2.2.2.2.2.2.2.2.1 d.1.2.2.2.2.2.2.2.2.2.2.2.2.2.2.2.2.2.2.2.2.2.1 d.2.2.1 k n d.1.2.2.2.2.2.2.2.2.2.2.2.2.2.2.2.2.2.2.2.2.2.2.1 d.2.1)
theorem forks_eq (n : Nat) (a0 : (List Int)) (a1 : (List Int)) (k : AV → List Blk → Option A) : fnK (forks_E n) Try.f4 [.pure] [.p (.sl (.int .u8)) a0, .p (.sl (.int .u8)) a1] k = forks_k n a0 a1 (fun r0 => k (.p .bool r0) []) := by kernel_rfl
def forks_en (n : Nat) : Entry A := ⟨fun args k => args2 args (.sl (.int .u8)) (.sl (.int .u8)) fun a0 a1 => forks_k n a0 a1 (fun r0 => k (.p .bool r0) [])⟩
theorem forks_lo (n : Nat) : ∀ c, Try.f4.body = some c → ∀ q ∈ loopsOf 0 c, ∀ L, (forks_E (A := A) n).lps.lookup q.1 = some L → LoopOK Try.prog q.2 L :=
  lo_body (by kernel_rfl : Try.f4.body = some (bodyOf Try.f4)) (lo_of (by kernel_rfl : loopsOf 0 (bodyOf Try.f4) = [(0, forks_c0), (1, forks_c1)]) (lo_cons rfl (forks_lo0 n) (lo_cons rfl (forks_lo1 n) lo_nil)))
theorem forks_ok (n : Nat) : FnOK Try.prog 4 (forks_en (A := A) n) :=
  FnOK.of (forks_T n) (forks_fns n) follows ⟨Try.func4, by kernel_rfl⟩ (forks_lo n) (rm := [.pure]) fun args k out h => by
    obtain ⟨a0, a1, e, h1⟩ := args2_sound h
    subst e; rw [forks_eq]; exact h1

end Go.Ev
