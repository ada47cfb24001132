/-
  FUNCTION 13: printed by a program of our own (wip/gen/seat.py). 'masthead/mastheadref21.Fork', in continuation form; the evaluator gives it.
-/
import Derived.Test.YtkgapdoflncekaaLocF17
set_option linter.all false
set_option maxRecDepth 100000
namespace Go.Ev
open Go.Proofs
variable {A : Type}

-- ============================================================ rfork (function 13)
def rfork_b0 (n : Nat) (line : (List (List Int))) (loc : (List (List Int))) (t4 : Int) (k0 : Int → Int → Option A) (k1 : Int → Option A) (r : Int → Option A) (i : Int) : Option A :=
  bif (decide (i < (loc.length : Int))) then
    if 0 ≤ i then
      (loc[(Int.toNat i)]?).bind fun y1 =>
      find_k n line y1 fun r2 =>
      bif (decide (r2 ≥ 0)) then
        k0 r2 i
      else
        r (IntKind.wrap .i64 (i + 1))
    else none
  else
    k1 i

def rfork_l0 (n : Nat) (line : (List (List Int))) (loc : (List (List Int))) (t4 : Int) (k0 : Int → Int → Option A) (k1 : Int → Option A) : Nat → Int → Option A
  | 0 => fun _ => none
  | f + 1 => rfork_b0 n line loc t4 k0 k1 (rfork_l0 n line loc t4 k0 k1 f)

def rfork_k (n : Nat) (a0 : (List (List Int))) (a1 : (List (List Int))) (k : Int → Option A) : Option A :=
  rfork_l0 n a0 a1 0 (fun y3 y4 =>
    k y3) (fun y5 =>
    k 0) n 0

noncomputable def rfork_c0 : Code := codeAt [1, 0, 1, 0, 0] (bodyOf Try.f13)
def rfork_d0 : List Nat := [6, 7, 8, 9, 10, 11, 12, 13, 14, 15, 16, 17, 18, 19, 20, 21]
def rfork_sh0 : Shape := ⟨[(.p (.sl kT28)), (.p (.sl kT28)), .any, .any, (.p (.int .i64)), (.p (.int .i64)), .any, .any, .any, .any, .any, .any, .any, .any, .any, .any, .any, .any, .any, .any, .any, .any], []⟩
def rfork_t0 (line : (List (List Int))) (loc : (List (List Int))) (t4 : Int) (i : Int) : rfork_sh0.den := ((line, loc, (), (), t4, i, (), (), (), (), (), (), (), (), (), (), (), (), (), (), (), (), ()), ())
def rfork_x0_0 (line : (List (List Int))) (loc : (List (List Int))) (t4 : Int) (z2 : Int) (z3 : Int) : St := ⟨[.p (.sl kT28) line, .p (.sl kT28) loc, .any, .any, .p (.int .i64) z2, .p (.int .i64) z3, .any, .any, .any, .any, .any, .any, .any, .any, .any, .any, .any, .any, .any, .any, .any, .any], [], 0⟩
def rfork_x0_1 (line : (List (List Int))) (loc : (List (List Int))) (t4 : Int) (z3 : Int) : St := ⟨[.p (.sl kT28) line, .p (.sl kT28) loc, .any, .any, .p (.int .i64) t4, .p (.int .i64) z3, .any, .any, .any, .any, .any, .any, .any, .any, .any, .any, .any, .any, .any, .any, .any, .any], [], 0⟩
def rfork_g0 (n : Nat) (d : rfork_sh0.den) (k : Ex → St → Option A) : Option A :=
  rfork_l0 n d.1.1 d.1.2.1 d.1.2.2.2.2.1 (fun z2 z3 => k .ret (rfork_x0_0 d.1.1 d.1.2.1 d.1.2.2.2.2.1 z2 z3)) (fun z3 => k (.exit 0) (rfork_x0_1 d.1.1 d.1.2.1 d.1.2.2.2.2.1 z3)) n d.1.2.2.2.2.2.1
noncomputable def rfork_E (n : Nat) : Env A := ⟨tys, [(17, find_en n)], [(0, loopE rfork_d0 rfork_sh0 (rfork_g0 n))]⟩
theorem rfork_T (n : Nat) : TyOK Try.prog (rfork_E (A := A) n) := tyOK_of rfl tysB
theorem rfork_fns (n : Nat) : FnsOK Try.prog (rfork_E (A := A) n) := AllOK.env rfl (AllOK.cons (find_ok n) AllOK.nil)
noncomputable def rfork_LK0 (n : Nat) (line : (List (List Int))) (loc : (List (List Int))) (t4 : Int) (k : Ex → St → Option A) (f : Nat) (i : Int) : Option A := loopK (codeK (rfork_E n) 1 rfork_c0) rfork_d0 f (rfork_sh0.fill (rfork_t0 line loc t4 i)) k
theorem rfork_st0 (n f : Nat) (line : (List (List Int))) (loc : (List (List Int))) (t4 : Int) (k : Ex → St → Option A) (i : Int) : rfork_LK0 n line loc t4 k (f + 1) i = rfork_b0 n line loc t4 (fun z2 z3 => k .ret (rfork_x0_0 line loc t4 z2 z3)) (fun z3 => k (.exit 0) (rfork_x0_1 line loc t4 z3)) (rfork_LK0 n line loc t4 k f) i := by kernel_rfl
theorem rfork_le0 (n : Nat) (line : (List (List Int))) (loc : (List (List Int))) (t4 : Int) (k : Ex → St → Option A) : ∀ (f : Nat) (i : Int), rfork_LK0 n line loc t4 k f i = rfork_l0 n line loc t4 (fun z2 z3 => k .ret (rfork_x0_0 line loc t4 z2 z3)) (fun z3 => k (.exit 0) (rfork_x0_1 line loc t4 z3)) f i := by
  intro f
  induction f with
  | zero => intros; kernel_rfl
  | succ f ih => intro i; exact (rfork_st0 n f line loc t4 k i).trans ((congrArg (fun r => rfork_b0 n line loc t4 (fun z2 z3 => k .ret (rfork_x0_0 line loc t4 z2 z3)) (fun z3 => k (.exit 0) (rfork_x0_1 line loc t4 z3)) r i) (funext fun i => ih i)).trans (by kernel_rfl))
theorem rfork_lo0 (n : Nat) : LoopOK Try.prog rfork_c0 (loopE rfork_d0 rfork_sh0 (rfork_g0 (A := A) n)) :=
  LoopOK.of (rfork_T n) (rfork_fns n) follows (j := 1) (n := n) (lo_of (by kernel_rfl : loopsOf 1 rfork_c0 = []) lo_nil) fun d k => Eq.trans (by kernel_rfl) (rfork_le0 n d.1.1 d.1.2.1 d.1.2.2.2.2.1 k n d.1.2.2.2.2.2.1)
theorem rfork_eq (n : Nat) (a0 : (List (List Int))) (a1 : (List (List Int))) (k : AV → List Blk → Option A) : fnK (rfork_E n) Try.f13 [.pure] [.p (.sl kT28) a0, .p (.sl kT28) a1] k = rfork_k n a0 a1 (fun r0 => k (.p (.int .i64) r0) []) := by kernel_rfl
def rfork_en (n : Nat) : Entry A := ⟨fun args k => args2 args (.sl kT28) (.sl kT28) fun a0 a1 => rfork_k n a0 a1 (fun r0 => k (.p (.int .i64) r0) [])⟩
theorem rfork_lo (n : Nat) : ∀ c, Try.f13.body = some c → ∀ q ∈ loopsOf 0 c, ∀ L, (rfork_E (A := A) n).lps.lookup q.1 = some L → LoopOK Try.prog q.2 L :=
  lo_body (by kernel_rfl : Try.f13.body = some (bodyOf Try.f13)) (lo_of (by kernel_rfl : loopsOf 0 (bodyOf Try.f13) = [(0, rfork_c0)]) (lo_cons rfl (rfork_lo0 n) lo_nil))
theorem rfork_ok (n : Nat) : FnOK Try.prog 13 (rfork_en (A := A) n) :=
  FnOK.of (rfork_T n) (rfork_fns n) follows ⟨Try.func13, by kernel_rfl⟩ (rfork_lo n) (rm := [.pure]) fun args k out h => by
    obtain ⟨a0, a1, e, h1⟩ := args2_sound h
    subst e; rw [rfork_eq]; exact h1

end Go.Ev
