/-
  FUNCTION 14: printed by a program of our own (wip/gen/seat.py). 'masthead/mastheadlaw21.refs', in continuation form; the evaluator gives it.
-/
import Derived.Test.YtkgapdoflncekaaLocF13
set_option linter.all false
set_option maxRecDepth 100000
namespace Go.Ev
open Go.Proofs
variable {A : Type}

-- ============================================================ refs (function 14)
def refs_b0 (n : Nat) (t6 : (List (List Int))) (t7 : Int) (t2 : (List (List Int))) (k0 : Int → (List (List Int)) → Option A) (r : Int → (List (List Int)) → Option A) (t8 : Int) (out : (List (List Int))) : Option A :=
  bif (decide (t8 < t7)) then
    if 0 ≤ t8 then
      (t6[(Int.toNat t8)]?).bind fun y1 =>
      if (out.length + 1) * 32 ≤ 140737488355328 then
        r (IntKind.wrap .i64 (t8 + 1)) (out ++ [y1])
      else none
    else none
  else
    k0 t8 out

def refs_l0 (n : Nat) (t6 : (List (List Int))) (t7 : Int) (t2 : (List (List Int))) (k0 : Int → (List (List Int)) → Option A) : Nat → Int → (List (List Int)) → Option A
  | 0 => fun _ _ => none
  | f + 1 => refs_b0 n t6 t7 t2 k0 (refs_l0 n t6 t7 t2 k0 f)

def refs_k (n : Nat) (a0 : (List (List Int))) (k : (List (List Int)) → Option A) : Option A :=
  refs_l0 n a0 (a0.length : Int) [] (fun y2 y3 =>
    k y3) n 0 []

noncomputable def refs_c0 : Code := codeAt [1, 1, 0, 1, 0, 0] (bodyOf Try.f14)
def refs_d0 : List Nat := [0, 5, 9, 10, 11, 12, 13, 14, 15, 16]
def refs_sh0 : Shape := ⟨[.any, .any, (.row 0), (.row 1), .any, .any, (.p (.sl kT28)), (.p (.int .i64)), (.p (.int .i64)), .any, .any, .any, .any, .any, .any, .any, .any, .any], [(.row 28 kT28), (.row 28 kT28)]⟩
def refs_t0 (t6 : (List (List Int))) (t7 : Int) (t2 : (List (List Int))) (t8 : Int) (out : (List (List Int))) : refs_sh0.den := (((), (), (), (), (), (), t6, t7, t8, (), (), (), (), (), (), (), (), (), ()), (t2, out, ()))
def refs_x0_0 (t6 : (List (List Int))) (t7 : Int) (t2 : (List (List Int))) (z2 : Int) (z4 : (List (List Int))) : St := ⟨[.any, .any, .row 0, .row 1, .any, .any, .p (.sl kT28) t6, .p (.int .i64) t7, .p (.int .i64) z2, .any, .any, .any, .any, .any, .any, .any, .any, .any], [.row 28 kT28 t2, .row 28 kT28 z4], 0⟩
def refs_g0 (n : Nat) (d : refs_sh0.den) (k : Ex → St → Option A) : Option A :=
  refs_l0 n d.1.2.2.2.2.2.2.1 d.1.2.2.2.2.2.2.2.1 d.2.1 (fun z2 z4 => k (.exit 0) (refs_x0_0 d.1.2.2.2.2.2.2.1 d.1.2.2.2.2.2.2.2.1 d.2.1 z2 z4)) n d.1.2.2.2.2.2.2.2.2.1 d.2.2.1
noncomputable def refs_E (n : Nat) : Env A := ⟨tys, [], [(0, loopE refs_d0 refs_sh0 (refs_g0 n))]⟩
theorem refs_T (n : Nat) : TyOK Try.prog (refs_E (A := A) n) := tyOK_of rfl tysB
theorem refs_fns (n : Nat) : FnsOK Try.prog (refs_E (A := A) n) := AllOK.env rfl AllOK.nil
noncomputable def refs_LK0 (n : Nat) (t6 : (List (List Int))) (t7 : Int) (t2 : (List (List Int))) (k : Ex → St → Option A) (f : Nat) (t8 : Int) (out : (List (List Int))) : Option A := loopK (codeK (refs_E n) 1 refs_c0) refs_d0 f (refs_sh0.fill (refs_t0 t6 t7 t2 t8 out)) k
theorem refs_st0 (n f : Nat) (t6 : (List (List Int))) (t7 : Int) (t2 : (List (List Int))) (k : Ex → St → Option A) (t8 : Int) (out : (List (List Int))) : refs_LK0 n t6 t7 t2 k (f + 1) t8 out = refs_b0 n t6 t7 t2 (fun z2 z4 => k (.exit 0) (refs_x0_0 t6 t7 t2 z2 z4)) (refs_LK0 n t6 t7 t2 k f) t8 out := by kernel_rfl
theorem refs_le0 (n : Nat) (t6 : (List (List Int))) (t7 : Int) (t2 : (List (List Int))) (k : Ex → St → Option A) : ∀ (f : Nat) (t8 : Int) (out : (List (List Int))), refs_LK0 n t6 t7 t2 k f t8 out = refs_l0 n t6 t7 t2 (fun z2 z4 => k (.exit 0) (refs_x0_0 t6 t7 t2 z2 z4)) f t8 out := by
  intro f
  induction f with
  | zero => intros; kernel_rfl
  | succ f ih => intro t8 out; exact (refs_st0 n f t6 t7 t2 k t8 out).trans ((congrArg (fun r => refs_b0 n t6 t7 t2 (fun z2 z4 => k (.exit 0) (refs_x0_0 t6 t7 t2 z2 z4)) r t8 out) (funext fun t8 => funext fun out => ih t8 out)).trans (by kernel_rfl))
theorem refs_lo0 (n : Nat) : LoopOK Try.prog refs_c0 (loopE refs_d0 refs_sh0 (refs_g0 (A := A) n)) :=
  LoopOK.of (refs_T n) (refs_fns n) follows (j := 1) (n := n) (lo_of (by kernel_rfl : loopsOf 1 refs_c0 = []) lo_nil) fun d k => Eq.trans (by kernel_rfl) (refs_le0 n d.1.2.2.2.2.2.2.1 d.1.2.2.2.2.2.2.2.1 d.2.1 k n d.1.2.2.2.2.2.2.2.2.1 d.2.2.1)
theorem refs_eq (n : Nat) (a0 : (List (List Int))) (k : AV → List Blk → Option A) : fnK (refs_E n) Try.f14 [.own] [.p (.sl kT28) a0] k = refs_k n a0 (fun r0 => k (.row 0) [.row 28 kT28 r0]) := by kernel_rfl
def refs_en (n : Nat) : Entry A := ⟨fun args k => args1 args (.sl kT28) fun a0 => refs_k n a0 (fun r0 => k (.row 0) [.row 28 kT28 r0])⟩
theorem refs_lo (n : Nat) : ∀ c, Try.f14.body = some c → ∀ q ∈ loopsOf 0 c, ∀ L, (refs_E (A := A) n).lps.lookup q.1 = some L → LoopOK Try.prog q.2 L :=
  lo_body (by kernel_rfl : Try.f14.body = some (bodyOf Try.f14)) (lo_of (by kernel_rfl : loopsOf 0 (bodyOf Try.f14) = [(0, refs_c0)]) (lo_cons rfl (refs_lo0 n) lo_nil))
theorem refs_ok (n : Nat) : FnOK Try.prog 14 (refs_en (A := A) n) :=
  FnOK.of (refs_T n) (refs_fns n) follows ⟨Try.func14, by kernel_rfl⟩ (refs_lo n) (rm := [.own]) fun args k out h => by
    obtain ⟨a0, e, h1⟩ := args1_sound h
    subst e; rw [refs_eq]; exact h1

end Go.Ev
