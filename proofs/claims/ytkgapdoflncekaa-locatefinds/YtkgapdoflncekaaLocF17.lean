/-
  FUNCTION 17: printed by a program of our own (wip/gen/seat.py). 'masthead/mastheadref21.Find', in continuation form; the evaluator gives it.
-/
import Derived.Test.YtkgapdoflncekaaLocF11
set_option linter.all false
set_option maxRecDepth 100000
namespace Go.Ev
open Go.Proofs
variable {A : Type}

-- ============================================================ find (function 17)
def find_b0 (n : Nat) (line : (List (List Int))) (t4 : Int) (h : (List Int)) (k0 : Int → Int → Option A) (k1 : Int → Option A) (r : Int → Option A) (i : Int) : Option A :=
  bif (decide (i < (line.length : Int))) then
    if 0 ≤ i then
      (line[(Int.toNat i)]?).bind fun y1 =>
      bif (deq kT28 y1 h) then
        k0 i i
      else
        r (IntKind.wrap .i64 (i + 1))
    else none
  else
    k1 i

def find_l0 (n : Nat) (line : (List (List Int))) (t4 : Int) (h : (List Int)) (k0 : Int → Int → Option A) (k1 : Int → Option A) : Nat → Int → Option A
  | 0 => fun _ => none
  | f + 1 => find_b0 n line t4 h k0 k1 (find_l0 n line t4 h k0 k1 f)

def find_k (n : Nat) (a0 : (List (List Int))) (a1 : (List Int)) (k : Int → Option A) : Option A :=
  find_l0 n a0 0 a1 (fun y2 y3 =>
    k y2) (fun y4 =>
    k (-1)) n 0

noncomputable def find_c0 : Code := codeAt [1, 0, 1, 0, 0] (bodyOf Try.f17)
def find_d0 : List Nat := [1, 6, 7, 8, 9, 10, 11, 12, 13, 14, 15, 16, 17, 18]
def find_sh0 : Shape := ⟨[(.p (.sl kT28)), .any, .any, (.ptr 0), (.p (.int .i64)), (.p (.int .i64)), .any, .any, .any, .any, .any, .any, .any, .any, .any, .any, .any, .any, .any], [(.var 28 kT28 (.p kT28))]⟩
def find_t0 (line : (List (List Int))) (t4 : Int) (h : (List Int)) (i : Int) : find_sh0.den := ((line, (), (), (), t4, i, (), (), (), (), (), (), (), (), (), (), (), (), (), ()), (h, ()))
def find_x0_0 (line : (List (List Int))) (t4 : Int) (h : (List Int)) (z1 : Int) (z2 : Int) : St := ⟨[.p (.sl kT28) line, .any, .any, .ptr 0 [], .p (.int .i64) z1, .p (.int .i64) z2, .any, .any, .any, .any, .any, .any, .any, .any, .any, .any, .any, .any, .any], [.var 28 kT28 (.p kT28 h)], 0⟩
def find_x0_1 (line : (List (List Int))) (t4 : Int) (h : (List Int)) (z2 : Int) : St := ⟨[.p (.sl kT28) line, .any, .any, .ptr 0 [], .p (.int .i64) t4, .p (.int .i64) z2, .any, .any, .any, .any, .any, .any, .any, .any, .any, .any, .any, .any, .any], [.var 28 kT28 (.p kT28 h)], 0⟩
def find_g0 (n : Nat) (d : find_sh0.den) (k : Ex → St → Option A) : Option A :=
  find_l0 n d.1.1 d.1.2.2.2.2.1 d.2.1 (fun z1 z2 => k .ret (find_x0_0 d.1.1 d.1.2.2.2.2.1 d.2.1 z1 z2)) (fun z2 => k (.exit 0) (find_x0_1 d.1.1 d.1.2.2.2.2.1 d.2.1 z2)) n d.1.2.2.2.2.2.1
noncomputable def find_E (n : Nat) : Env A := ⟨tys, [], [(0, loopE find_d0 find_sh0 (find_g0 n))]⟩
theorem find_T (n : Nat) : TyOK Try.prog (find_E (A := A) n) := tyOK_of rfl tysB
theorem find_fns (n : Nat) : FnsOK Try.prog (find_E (A := A) n) := AllOK.env rfl AllOK.nil
noncomputable def find_LK0 (n : Nat) (line : (List (List Int))) (t4 : Int) (h : (List Int)) (k : Ex → St → Option A) (f : Nat) (i : Int) : Option A := loopK (codeK (find_E n) 1 find_c0) find_d0 f (find_sh0.fill (find_t0 line t4 h i)) k
theorem find_st0 (n f : Nat) (line : (List (List Int))) (t4 : Int) (h : (List Int)) (k : Ex → St → Option A) (i : Int) : find_LK0 n line t4 h k (f + 1) i = find_b0 n line t4 h (fun z1 z2 => k .ret (find_x0_0 line t4 h z1 z2)) (fun z2 => k (.exit 0) (find_x0_1 line t4 h z2)) (find_LK0 n line t4 h k f) i := by kernel_rfl
theorem find_le0 (n : Nat) (line : (List (List Int))) (t4 : Int) (h : (List Int)) (k : Ex → St → Option A) : ∀ (f : Nat) (i : Int), find_LK0 n line t4 h k f i = find_l0 n line t4 h (fun z1 z2 => k .ret (find_x0_0 line t4 h z1 z2)) (fun z2 => k (.exit 0) (find_x0_1 line t4 h z2)) f i := by
  intro f
  induction f with
  | zero => intros; kernel_rfl
  | succ f ih => intro i; exact (find_st0 n f line t4 h k i).trans ((congrArg (fun r => find_b0 n line t4 h (fun z1 z2 => k .ret (find_x0_0 line t4 h z1 z2)) (fun z2 => k (.exit 0) (find_x0_1 line t4 h z2)) r i) (funext fun i => ih i)).trans (by kernel_rfl))
theorem find_lo0 (n : Nat) : LoopOK Try.prog find_c0 (loopE find_d0 find_sh0 (find_g0 (A := A) n)) :=
  LoopOK.of (find_T n) (find_fns n) follows (j := 1) (n := n) (lo_of (by kernel_rfl : loopsOf 1 find_c0 = []) lo_nil) fun d k => Eq.trans (by kernel_rfl) (find_le0 n d.1.1 d.1.2.2.2.2.1 d.2.1 k n d.1.2.2.2.2.2.1)
theorem find_eq (n : Nat) (a0 : (List (List Int))) (a1 : (List Int)) (k : AV → List Blk → Option A) : fnK (find_E n) Try.f17 [.pure] [.p (.sl kT28) a0, .p kT28 a1] k = find_k n a0 a1 (fun r0 => k (.p (.int .i64) r0) []) := by kernel_rfl
def find_en (n : Nat) : Entry A := ⟨fun args k => args2 args (.sl kT28) kT28 fun a0 a1 => find_k n a0 a1 (fun r0 => k (.p (.int .i64) r0) [])⟩
theorem find_lo (n : Nat) : ∀ c, Try.f17.body = some c → ∀ q ∈ loopsOf 0 c, ∀ L, (find_E (A := A) n).lps.lookup q.1 = some L → LoopOK Try.prog q.2 L :=
  lo_body (by kernel_rfl : Try.f17.body = some (bodyOf Try.f17)) (lo_of (by kernel_rfl : loopsOf 0 (bodyOf Try.f17) = [(0, find_c0)]) (lo_cons rfl (find_lo0 n) lo_nil))
theorem find_ok (n : Nat) : FnOK Try.prog 17 (find_en (A := A) n) :=
  FnOK.of (find_T n) (find_fns n) follows ⟨Try.func17, by kernel_rfl⟩ (find_lo n) (rm := [.pure]) fun args k out h => by
    obtain ⟨a0, a1, e, h1⟩ := args2_sound h
    subst e; rw [find_eq]; exact h1

end Go.Ev
