/-
  FUNCTION 3: printed by a program of our own (wip/gen/seat.py). 'masthead/mastheadlaw21.LocateMakes', in continuation form; the evaluator gives it.
-/
import Derived.Test.YtkgapdoflncekaaLocF8
set_option linter.all false
set_option maxRecDepth 100000
namespace Go.Ev
open Go.Proofs
variable {A : Type}

-- ============================================================ makes (function 3)
def makes_b0 (n : Nat) (t2 : Bool) (t33 : Int) (l : (List (List Int))) (loc : (List (List Int))) (t32 : (List Int)) (k0 : Int → Option A) (k1 : Int → Option A) (r : Int → Option A) (t34 : Int) : Option A :=
  bif (decide (t34 < t33)) then
    if 0 ≤ t34 then
      if t34 < (t32.length : Int) then
        (t32[(Int.toNat t34)]?).bind fun y6 =>
        if 0 ≤ t34 then
          if t34 < (loc.length : Int) then
            (loc[(Int.toNat t34)]?).bind fun y7 =>
            if 0 ≤ y6 then
              if y6 < (l.length : Int) then
                (l[(Int.toNat y6)]?).bind fun y8 =>
                bif (!(deq kT28 y7 y8)) then
                  k0 t34
                else
                  r (IntKind.wrap .i64 (t34 + 1))
              else none
            else none
          else none
        else none
      else none
    else none
  else
    k1 t34

def makes_l0 (n : Nat) (t2 : Bool) (t33 : Int) (l : (List (List Int))) (loc : (List (List Int))) (t32 : (List Int)) (k0 : Int → Option A) (k1 : Int → Option A) : Nat → Int → Option A
  | 0 => fun _ => none
  | f + 1 => makes_b0 n t2 t33 l loc t32 k0 k1 (makes_l0 n t2 t33 l loc t32 k0 k1 f)

def makes_k (n : Nat) (a0 : Int) (k : Bool → Option A) : Option A :=
  bif (decide (a0 < 0)) then
    awake_k n fun r1 =>
    k r1
  else
    bif (decide (a0 > 2000)) then
      awake_k n fun r2 =>
      k r2
    else
      row_k n a0 a0 0 fun r3 =>
      make_k n r3 fun r4 =>
      heights_k n a0 fun r5 =>
      bif ((r4.length : Int) != (r5.length : Int)) then
        k false
      else
        bif (decide ((r4.length : Int) > 64)) then
          k false
        else
          makes_l0 n false (r5.length : Int) r3 r4 r5 (fun y9 =>
            k false) (fun y10 =>
            awake_k n fun r11 =>
            k r11) n 0

noncomputable def makes_c0 : Code := codeAt [1, 1, 1, 1, 1, 1, 0, 1, 0, 0] (bodyOf Try.f3)
def makes_d0 : List Nat := [0, 5, 6, 7, 8, 9, 10, 11, 12, 13, 15, 16, 17, 18, 19, 20, 21, 22, 23, 24, 25, 26, 27, 28, 29, 30, 31, 35, 36, 37, 38, 39, 40, 41, 42, 43, 44, 45, 46, 47, 48]
def makes_sh0 : Shape := ⟨[.any, .any, (.p .bool), (.row 0), (.row 1), .any, .any, .any, .any, .any, .any, .any, .any, .any, .any, .any, .any, .any, .any, .any, .any, .any, .any, .any, .any, .any, .any, .any, .any, .any, .any, .any, (.row 2), (.p (.int .i64)), (.p (.int .i64)), .any, .any, .any, .any, .any, .any, .any, .any, .any, .any, .any, .any, .any, .any, .any], [(.row 29 kT28), (.row 29 kT28), (.row 3 (.int .i64))]⟩
def makes_t0 (t2 : Bool) (t33 : Int) (l : (List (List Int))) (loc : (List (List Int))) (t32 : (List Int)) (t34 : Int) : makes_sh0.den := (((), (), t2, (), (), (), (), (), (), (), (), (), (), (), (), (), (), (), (), (), (), (), (), (), (), (), (), (), (), (), (), (), (), t33, t34, (), (), (), (), (), (), (), (), (), (), (), (), (), (), (), ()), (l, loc, t32, ()))
def makes_x0_0 (t2 : Bool) (t33 : Int) (l : (List (List Int))) (loc : (List (List Int))) (t32 : (List Int)) (z2 : Int) : St := ⟨[.any, .any, .p .bool false, .row 0, .row 1, .any, .any, .any, .any, .any, .any, .any, .any, .any, .any, .any, .any, .any, .any, .any, .any, .any, .any, .any, .any, .any, .any, .any, .any, .any, .any, .any, .row 2, .p (.int .i64) t33, .p (.int .i64) z2, .any, .any, .any, .any, .any, .any, .any, .any, .any, .any, .any, .any, .any, .any, .any], [.row 29 kT28 l, .row 29 kT28 loc, .row 3 (.int .i64) t32], 0⟩
def makes_x0_1 (t2 : Bool) (t33 : Int) (l : (List (List Int))) (loc : (List (List Int))) (t32 : (List Int)) (z2 : Int) : St := ⟨[.any, .any, .p .bool t2, .row 0, .row 1, .any, .any, .any, .any, .any, .any, .any, .any, .any, .any, .any, .any, .any, .any, .any, .any, .any, .any, .any, .any, .any, .any, .any, .any, .any, .any, .any, .row 2, .p (.int .i64) t33, .p (.int .i64) z2, .any, .any, .any, .any, .any, .any, .any, .any, .any, .any, .any, .any, .any, .any, .any], [.row 29 kT28 l, .row 29 kT28 loc, .row 3 (.int .i64) t32], 0⟩
def makes_g0 (n : Nat) (d : makes_sh0.den) (k : Ex → St → Option A) : Option A :=
  makes_l0 n d.1.2.2.1 d.1.2.2.2.2.2.2.2.2.2.2.2.2.2.2.2.2.2.2.2.2.2.2.2.2.2.2.2.2.2.2.2.2.2.1 d.2.1 d.2.2.1 d.2.2.2.1 (fun z2 => k .ret (makes_x0_0 d.1.2.2.1 d.1.2.2.2.2.2.2.2.2.2.2.2.2.2.2.2.2.2.2.2.2.2.2.2.2.2.2.2.2.2.2.2.2.2.1 d.2.1 d.2.2.1 d.2.2.2.1 z2)) (fun z2 => k (.exit 0) (makes_x0_1 d.1.2.2.1 d.1.2.2.2.2.2.2.2.2.2.2.2.2.2.2.2.2.2.2.2.2.2.2.2.2.2.2.2.2.2.2.2.2.2.1 d.2.1 d.2.2.1 d.2.2.2.1 z2)) n d.1.2.2.2.2.2.2.2.2.2.2.2.2.2.2.2.2.2.2.2.2.2.2.2.2.2.2.2.2.2.2.2.2.2.2.1
noncomputable def makes_E (n : Nat) : Env A := ⟨tys, [(8, awake_en n), (9, row_en n), (10, make_en n), (11, heights_en n)], [(0, loopE makes_d0 makes_sh0 (makes_g0 n))]⟩
theorem makes_T (n : Nat) : TyOK Try.prog (makes_E (A := A) n) := tyOK_of rfl tysB
theorem makes_fns (n : Nat) : FnsOK Try.prog (makes_E (A := A) n) := AllOK.env rfl (AllOK.cons (awake_ok n) (AllOK.cons (row_ok n) (AllOK.cons (make_ok n) (AllOK.cons (heights_ok n) AllOK.nil))))
noncomputable def makes_LK0 (n : Nat) (t2 : Bool) (t33 : Int) (l : (List (List Int))) (loc : (List (List Int))) (t32 : (List Int)) (k : Ex → St → Option A) (f : Nat) (t34 : Int) : Option A := loopK (codeK (makes_E n) 1 makes_c0) makes_d0 f (makes_sh0.fill (makes_t0 t2 t33 l loc t32 t34)) k
theorem makes_st0 (n f : Nat) (t2 : Bool) (t33 : Int) (l : (List (List Int))) (loc : (List (List Int))) (t32 : (List Int)) (k : Ex → St → Option A) (t34 : Int) : makes_LK0 n t2 t33 l loc t32 k (f + 1) t34 = makes_b0 n t2 t33 l loc t32 (fun z2 => k .ret (makes_x0_0 t2 t33 l loc t32 z2)) (fun z2 => k (.exit 0) (makes_x0_1 t2 t33 l loc t32 z2)) (makes_LK0 n t2 t33 l loc t32 k f) t34 := by kernel_rfl
theorem makes_le0 (n : Nat) (t2 : Bool) (t33 : Int) (l : (List (List Int))) (loc : (List (List Int))) (t32 : (List Int)) (k : Ex → St → Option A) : ∀ (f : Nat) (t34 : Int), makes_LK0 n t2 t33 l loc t32 k f t34 = makes_l0 n t2 t33 l loc t32 (fun z2 => k .ret (makes_x0_0 t2 t33 l loc t32 z2)) (fun z2 => k (.exit 0) (makes_x0_1 t2 t33 l loc t32 z2)) f t34 := by
  intro f
  induction f with
  | zero => intros; kernel_rfl
  | succ f ih => intro t34; exact (makes_st0 n f t2 t33 l loc t32 k t34).trans ((congrArg (fun r => makes_b0 n t2 t33 l loc t32 (fun z2 => k .ret (makes_x0_0 t2 t33 l loc t32 z2)) (fun z2 => k (.exit 0) (makes_x0_1 t2 t33 l loc t32 z2)) r t34) (funext fun t34 => ih t34)).trans (by kernel_rfl))
theorem makes_lo0 (n : Nat) : LoopOK Try.prog makes_c0 (loopE makes_d0 makes_sh0 (makes_g0 (A := A) n)) :=
  LoopOK.of (makes_T n) (makes_fns n) follows (j := 1) (n := n) (lo_of (by kernel_rfl : loopsOf 1 makes_c0 = []) lo_nil) fun d k => Eq.trans (by kernel_rfl) (makes_le0 n d.1.2.2.1 d.1.2.2.2.2.2.2.2.2.2.2.2.2.2.2.2.2.2.2.2.2.2.2.2.2.2.2.2.2.2.2.2.2.2.1 d.2.1 d.2.2.1 d.2.2.2.1 k n d.1.2.2.2.2.2.2.2.2.2.2.2.2.2.2.2.2.2.2.2.2.2.2.2.2.2.2.2.2.2.2.2.2.2.2.1)
theorem makes_eq (n : Nat) (a0 : Int) (k : AV → List Blk → Option A) : fnK (makes_E n) Try.f3 [.pure] [.p (.int .i64) a0] k = makes_k n a0 (fun r0 => k (.p .bool r0) []) := by kernel_rfl
def makes_en (n : Nat) : Entry A := ⟨fun args k => args1 args (.int .i64) fun a0 => makes_k n a0 (fun r0 => k (.p .bool r0) [])⟩
theorem makes_lo (n : Nat) : ∀ c, Try.f3.body = some c → ∀ q ∈ loopsOf 0 c, ∀ L, (makes_E (A := A) n).lps.lookup q.1 = some L → LoopOK Try.prog q.2 L :=
  lo_body (by kernel_rfl : Try.f3.body = some (bodyOf Try.f3)) (lo_of (by kernel_rfl : loopsOf 0 (bodyOf Try.f3) = [(0, makes_c0)]) (lo_cons rfl (makes_lo0 n) lo_nil))
theorem makes_ok (n : Nat) : FnOK Try.prog 3 (makes_en (A := A) n) :=
  FnOK.of (makes_T n) (makes_fns n) follows ⟨Try.func3, by kernel_rfl⟩ (makes_lo n) (rm := [.pure]) fun args k out h => by
    obtain ⟨a0, e, h1⟩ := args1_sound h
    subst e; rw [makes_eq]; exact h1

end Go.Ev
