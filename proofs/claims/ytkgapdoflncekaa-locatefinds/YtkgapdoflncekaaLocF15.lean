/-
  FUNCTION 15: printed by a program of our own (wip/gen/seat.py). 'masthead/locate.After', in continuation form; the evaluator gives it.
-/
import Derived.Test.YtkgapdoflncekaaLocF12
set_option linter.all false
set_option maxRecDepth 100000
namespace Go.Ev
open Go.Proofs
variable {A : Type}

-- ============================================================ after (function 15)
def after_b0 (n : Nat) (line : (List (List Int))) (from_ : Int) (most : Int) (t8 : Int) (t9 : Int) (stop : (List Int)) (k0 : Int → Option A) (r : Int → Option A) (to : Int) : Option A :=
  bif (decide (to < (line.length : Int))) then
    bif (decide ((IntKind.wrap .i64 ((IntKind.wrap .i64 (to - from_)) - 1)) < most)) then
      if 0 ≤ (IntKind.wrap .i64 ((IntKind.wrap .i64 (to + 1)) - 1)) then
        (line[(Int.toNat (IntKind.wrap .i64 ((IntKind.wrap .i64 (to + 1)) - 1)))]?).bind fun y1 =>
        bif (deq kT28 y1 stop) then
          k0 (IntKind.wrap .i64 (to + 1))
        else
          r (IntKind.wrap .i64 (to + 1))
      else none
    else
      k0 to
  else
    k0 to

def after_l0 (n : Nat) (line : (List (List Int))) (from_ : Int) (most : Int) (t8 : Int) (t9 : Int) (stop : (List Int)) (k0 : Int → Option A) : Nat → Int → Option A
  | 0 => fun _ => none
  | f + 1 => after_b0 n line from_ most t8 t9 stop k0 (after_l0 n line from_ most t8 t9 stop k0 f)

def after_k (n : Nat) (a0 : (List (List Int))) (a1 : Int) (a2 : (List Int)) (a3 : Int) (k : Int → Int → Option A) : Option A :=
  bif (decide (a1 < 0)) then
    k 0 0
  else
    bif (decide (a1 ≥ (a0.length : Int))) then
      k 0 0
    else
      after_l0 n a0 a1 a3 0 0 a2 (fun y2 =>
        k (IntKind.wrap .i64 (a1 + 1)) y2) n (IntKind.wrap .i64 (a1 + 1))

noncomputable def after_c0 : Code := codeAt [1, 1, 1, 0, 0, 0] (bodyOf Try.f15)
def after_d0 : List Nat := [2, 11, 12, 13, 14, 15, 16, 17, 18, 19, 20, 21, 22, 23, 24, 25, 26, 27, 28, 29, 30, 31, 32, 33, 34, 35, 36, 37, 38, 39, 40, 41]
def after_sh0 : Shape := ⟨[(.p (.sl kT28)), (.p (.int .i64)), .any, (.p (.int .i64)), .any, .any, (.ptr 0), .any, (.p (.int .i64)), (.p (.int .i64)), (.p (.int .i64)), .any, .any, .any, .any, .any, .any, .any, .any, .any, .any, .any, .any, .any, .any, .any, .any, .any, .any, .any, .any, .any, .any, .any, .any, .any, .any, .any, .any, .any, .any, .any, .any, .any, .any], [(.var 29 kT28 (.p kT28))]⟩
def after_t0 (line : (List (List Int))) (from_ : Int) (most : Int) (t8 : Int) (t9 : Int) (stop : (List Int)) (to : Int) : after_sh0.den := ((line, from_, (), most, (), (), (), (), t8, t9, to, (), (), (), (), (), (), (), (), (), (), (), (), (), (), (), (), (), (), (), (), (), (), (), (), (), (), (), (), (), (), (), (), (), (), ()), (stop, ()))
def after_x0_0 (line : (List (List Int))) (from_ : Int) (most : Int) (t8 : Int) (t9 : Int) (stop : (List Int)) (z5 : Int) : St := ⟨[.p (.sl kT28) line, .p (.int .i64) from_, .any, .p (.int .i64) most, .any, .any, .ptr 0 [], .any, .p (.int .i64) t8, .p (.int .i64) t9, .p (.int .i64) z5, .any, .any, .any, .any, .any, .any, .any, .any, .any, .any, .any, .any, .any, .any, .any, .any, .any, .any, .any, .any, .any, .any, .any, .any, .any, .any, .any, .any, .any, .any, .any, .any, .any, .any], [.var 29 kT28 (.p kT28 stop)], 0⟩
def after_g0 (n : Nat) (d : after_sh0.den) (k : Ex → St → Option A) : Option A :=
  after_l0 n d.1.1 d.1.2.1 d.1.2.2.2.1 d.1.2.2.2.2.2.2.2.2.1 d.1.2.2.2.2.2.2.2.2.2.1 d.2.1 (fun z5 => k (.exit 0) (after_x0_0 d.1.1 d.1.2.1 d.1.2.2.2.1 d.1.2.2.2.2.2.2.2.2.1 d.1.2.2.2.2.2.2.2.2.2.1 d.2.1 z5)) n d.1.2.2.2.2.2.2.2.2.2.2.1
noncomputable def after_E (n : Nat) : Env A := ⟨tys, [], [(0, loopE after_d0 after_sh0 (after_g0 n))]⟩
theorem after_T (n : Nat) : TyOK Try.prog (after_E (A := A) n) := tyOK_of rfl tysB
theorem after_fns (n : Nat) : FnsOK Try.prog (after_E (A := A) n) := AllOK.env rfl AllOK.nil
noncomputable def after_LK0 (n : Nat) (line : (List (List Int))) (from_ : Int) (most : Int) (t8 : Int) (t9 : Int) (stop : (List Int)) (k : Ex → St → Option A) (f : Nat) (to : Int) : Option A := loopK (codeK (after_E n) 1 after_c0) after_d0 f (after_sh0.fill (after_t0 line from_ most t8 t9 stop to)) k
theorem after_st0 (n f : Nat) (line : (List (List Int))) (from_ : Int) (most : Int) (t8 : Int) (t9 : Int) (stop : (List Int)) (k : Ex → St → Option A) (to : Int) : after_LK0 n line from_ most t8 t9 stop k (f + 1) to = after_b0 n line from_ most t8 t9 stop (fun z5 => k (.exit 0) (after_x0_0 line from_ most t8 t9 stop z5)) (after_LK0 n line from_ most t8 t9 stop k f) to := by kernel_rfl
theorem after_le0 (n : Nat) (line : (List (List Int))) (from_ : Int) (most : Int) (t8 : Int) (t9 : Int) (stop : (List Int)) (k : Ex → St → Option A) : ∀ (f : Nat) (to : Int), after_LK0 n line from_ most t8 t9 stop k f to = after_l0 n line from_ most t8 t9 stop (fun z5 => k (.exit 0) (after_x0_0 line from_ most t8 t9 stop z5)) f to := by
  intro f
  induction f with
  | zero => intros; kernel_rfl
  | succ f ih => intro to; exact (after_st0 n f line from_ most t8 t9 stop k to).trans ((congrArg (fun r => after_b0 n line from_ most t8 t9 stop (fun z5 => k (.exit 0) (after_x0_0 line from_ most t8 t9 stop z5)) r to) (funext fun to => ih to)).trans (by kernel_rfl))
theorem after_lo0 (n : Nat) : LoopOK Try.prog after_c0 (loopE after_d0 after_sh0 (after_g0 (A := A) n)) :=
  LoopOK.of (after_T n) (after_fns n) follows (j := 1) (n := n) (lo_of (by kernel_rfl : loopsOf 1 after_c0 = []) lo_nil) fun d k => Eq.trans (by kernel_rfl) (after_le0 n d.1.1 d.1.2.1 d.1.2.2.2.1 d.1.2.2.2.2.2.2.2.2.1 d.1.2.2.2.2.2.2.2.2.2.1 d.2.1 k n d.1.2.2.2.2.2.2.2.2.2.2.1)
theorem after_eq (n : Nat) (a0 : (List (List Int))) (a1 : Int) (a2 : (List Int)) (a3 : Int) (k : AV → List Blk → Option A) : fnK (after_E n) Try.f15 [.pure, .pure] [.p (.sl kT28) a0, .p (.int .i64) a1, .p kT28 a2, .p (.int .i64) a3] k = after_k n a0 a1 a2 a3 (fun r0 r1 => k (.tup [.p (.int .i64) r0, .p (.int .i64) r1]) []) := by kernel_rfl
def after_en (n : Nat) : Entry A := ⟨fun args k => args4 args (.sl kT28) (.int .i64) kT28 (.int .i64) fun a0 a1 a2 a3 => after_k n a0 a1 a2 a3 (fun r0 r1 => k (.tup [.p (.int .i64) r0, .p (.int .i64) r1]) [])⟩
theorem after_lo (n : Nat) : ∀ c, Try.f15.body = some c → ∀ q ∈ loopsOf 0 c, ∀ L, (after_E (A := A) n).lps.lookup q.1 = some L → LoopOK Try.prog q.2 L :=
  lo_body (by kernel_rfl : Try.f15.body = some (bodyOf Try.f15)) (lo_of (by kernel_rfl : loopsOf 0 (bodyOf Try.f15) = [(0, after_c0)]) (lo_cons rfl (after_lo0 n) lo_nil))
theorem after_ok (n : Nat) : FnOK Try.prog 15 (after_en (A := A) n) :=
  FnOK.of (after_T n) (after_fns n) follows ⟨Try.func15, by kernel_rfl⟩ (after_lo n) (rm := [.pure, .pure]) fun args k out h => by
    obtain ⟨a0, a1, a2, a3, e, h1⟩ := args4_sound h
    subst e; rw [after_eq]; exact h1

end Go.Ev
