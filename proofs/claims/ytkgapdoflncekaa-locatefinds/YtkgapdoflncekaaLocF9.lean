/-
  FUNCTION 9: printed by a program of our own (wip/gen/seat.py). 'masthead/mastheadlaw21.row', in continuation form; the evaluator gives it.
-/
import Derived.Test.YtkgapdoflncekaaLocT
set_option linter.all false
set_option maxRecDepth 100000
namespace Go.Ev
open Go.Proofs
variable {A : Type}

-- ============================================================ row (function 9)
def row_b0 (n : Nat) (from_ : Int) (mark : Int) (t10 : Int) (t6 : (List (List Int))) (k0 : Int → (List (List Int)) → Option A) (r : Int → (List (List Int)) → Option A) (t11 : Int) (out : (List (List Int))) : Option A :=
  bif (decide (t11 < t10)) then
    bif (decide (t11 ≥ from_)) then
      if (out.length + 1) * 32 ≤ 140737488355328 then
        r (IntKind.wrap .i64 (t11 + 1)) (out ++ [(((((List.replicate 32 0).set 0 (IntKind.wrap .u8 t11)).set 1 (IntKind.wrap .u8 (shr .i64 t11 8))).set 2 1).set 3 mark)])
      else none
    else
      if (out.length + 1) * 32 ≤ 140737488355328 then
        r (IntKind.wrap .i64 (t11 + 1)) (out ++ [((((List.replicate 32 0).set 0 (IntKind.wrap .u8 t11)).set 1 (IntKind.wrap .u8 (shr .i64 t11 8))).set 2 1)])
      else none
  else
    k0 t11 out

def row_l0 (n : Nat) (from_ : Int) (mark : Int) (t10 : Int) (t6 : (List (List Int))) (k0 : Int → (List (List Int)) → Option A) : Nat → Int → (List (List Int)) → Option A
  | 0 => fun _ _ => none
  | f + 1 => row_b0 n from_ mark t10 t6 k0 (row_l0 n from_ mark t10 t6 k0 f)

def row_k (n : Nat) (a0 : Int) (a1 : Int) (a2 : Int) (k : (List (List Int)) → Option A) : Option A :=
  row_l0 n a1 a2 a0 [] (fun y1 y2 =>
    k y2) n 0 []

noncomputable def row_c0 : Code := codeAt [1, 1, 0, 1, 0, 0] (bodyOf Try.f9)
def row_d0 : List Nat := [0, 8, 9, 12, 13, 14, 15, 16, 17, 18, 19, 20, 21, 22, 23, 24, 25, 26, 27, 28, 29]
def row_sh0 : Shape := ⟨[.any, (.p (.int .i64)), (.p (.int .u8)), .any, .any, .any, (.row 0), (.row 1), .any, .any, (.p (.int .i64)), (.p (.int .i64)), .any, .any, .any, .any, .any, .any, .any, .any, .any, .any, .any, .any, .any, .any, .any, .any, .any, .any, .any], [(.row 29 kT28), (.row 29 kT28)]⟩
def row_t0 (from_ : Int) (mark : Int) (t10 : Int) (t6 : (List (List Int))) (t11 : Int) (out : (List (List Int))) : row_sh0.den := (((), from_, mark, (), (), (), (), (), (), (), t10, t11, (), (), (), (), (), (), (), (), (), (), (), (), (), (), (), (), (), (), (), ()), (t6, out, ()))
def row_x0_0 (from_ : Int) (mark : Int) (t10 : Int) (t6 : (List (List Int))) (z3 : Int) (z5 : (List (List Int))) : St := ⟨[.any, .p (.int .i64) from_, .p (.int .u8) mark, .any, .any, .any, .row 0, .row 1, .any, .any, .p (.int .i64) t10, .p (.int .i64) z3, .any, .any, .any, .any, .any, .any, .any, .any, .any, .any, .any, .any, .any, .any, .any, .any, .any, .any, .any], [.row 29 kT28 t6, .row 29 kT28 z5], 0⟩
def row_g0 (n : Nat) (d : row_sh0.den) (k : Ex → St → Option A) : Option A :=
  row_l0 n d.1.2.1 d.1.2.2.1 d.1.2.2.2.2.2.2.2.2.2.2.1 d.2.1 (fun z3 z5 => k (.exit 0) (row_x0_0 d.1.2.1 d.1.2.2.1 d.1.2.2.2.2.2.2.2.2.2.2.1 d.2.1 z3 z5)) n d.1.2.2.2.2.2.2.2.2.2.2.2.1 d.2.2.1
noncomputable def row_E (n : Nat) : Env A := ⟨tys, [], [(0, loopE row_d0 row_sh0 (row_g0 n))]⟩
theorem row_T (n : Nat) : TyOK Try.prog (row_E (A := A) n) := tyOK_of rfl tysB
theorem row_fns (n : Nat) : FnsOK Try.prog (row_E (A := A) n) := AllOK.env rfl AllOK.nil
noncomputable def row_LK0 (n : Nat) (from_ : Int) (mark : Int) (t10 : Int) (t6 : (List (List Int))) (k : Ex → St → Option A) (f : Nat) (t11 : Int) (out : (List (List Int))) : Option A := loopK (codeK (row_E n) 1 row_c0) row_d0 f (row_sh0.fill (row_t0 from_ mark t10 t6 t11 out)) k
theorem row_st0 (n f : Nat) (from_ : Int) (mark : Int) (t10 : Int) (t6 : (List (List Int))) (k : Ex → St → Option A) (t11 : Int) (out : (List (List Int))) : row_LK0 n from_ mark t10 t6 k (f + 1) t11 out = row_b0 n from_ mark t10 t6 (fun z3 z5 => k (.exit 0) (row_x0_0 from_ mark t10 t6 z3 z5)) (row_LK0 n from_ mark t10 t6 k f) t11 out := by kernel_rfl
theorem row_le0 (n : Nat) (from_ : Int) (mark : Int) (t10 : Int) (t6 : (List (List Int))) (k : Ex → St → Option A) : ∀ (f : Nat) (t11 : Int) (out : (List (List Int))), row_LK0 n from_ mark t10 t6 k f t11 out = row_l0 n from_ mark t10 t6 (fun z3 z5 => k (.exit 0) (row_x0_0 from_ mark t10 t6 z3 z5)) f t11 out := by
  intro f
  induction f with
  | zero => intros; kernel_rfl
  | succ f ih => intro t11 out; exact (row_st0 n f from_ mark t10 t6 k t11 out).trans ((congrArg (fun r => row_b0 n from_ mark t10 t6 (fun z3 z5 => k (.exit 0) (row_x0_0 from_ mark t10 t6 z3 z5)) r t11 out) (funext fun t11 => funext fun out => ih t11 out)).trans (by kernel_rfl))
theorem row_lo0 (n : Nat) : LoopOK Try.prog row_c0 (loopE row_d0 row_sh0 (row_g0 (A := A) n)) :=
  LoopOK.of (row_T n) (row_fns n) follows (j := 1) (n := n) (lo_of (by kernel_rfl : loopsOf 1 row_c0 = []) lo_nil) fun d k => Eq.trans (by kernel_rfl) (row_le0 n d.1.2.1 d.1.2.2.1 d.1.2.2.2.2.2.2.2.2.2.2.1 d.2.1 k n d.1.2.2.2.2.2.2.2.2.2.2.2.1 d.2.2.1)
theorem row_eq (n : Nat) (a0 : Int) (a1 : Int) (a2 : Int) (k : AV → List Blk → Option A) : fnK (row_E n) Try.f9 [.own] [.p (.int .i64) a0, .p (.int .i64) a1, .p (.int .u8) a2] k = row_k n a0 a1 a2 (fun r0 => k (.row 0) [.row 29 kT28 r0]) := by kernel_rfl
def row_en (n : Nat) : Entry A := ⟨fun args k => args3 args (.int .i64) (.int .i64) (.int .u8) fun a0 a1 a2 => row_k n a0 a1 a2 (fun r0 => k (.row 0) [.row 29 kT28 r0])⟩
theorem row_lo (n : Nat) : ∀ c, Try.f9.body = some c → ∀ q ∈ loopsOf 0 c, ∀ L, (row_E (A := A) n).lps.lookup q.1 = some L → LoopOK Try.prog q.2 L :=
  lo_body (by kernel_rfl : Try.f9.body = some (bodyOf Try.f9)) (lo_of (by kernel_rfl : loopsOf 0 (bodyOf Try.f9) = [(0, row_c0)]) (lo_cons rfl (row_lo0 n) lo_nil))
theorem row_ok (n : Nat) : FnOK Try.prog 9 (row_en (A := A) n) :=
  FnOK.of (row_T n) (row_fns n) follows ⟨Try.func9, by kernel_rfl⟩ (row_lo n) (rm := [.own]) fun args k out h => by
    obtain ⟨a0, a1, a2, e, h1⟩ := args3_sound h
    subst e; rw [row_eq]; exact h1

end Go.Ev
