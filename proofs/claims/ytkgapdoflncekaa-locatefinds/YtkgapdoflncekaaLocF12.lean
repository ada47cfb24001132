/-
  FUNCTION 12: printed by a program of our own (wip/gen/seat.py). 'masthead/locate.Fork', in continuation form; the evaluator gives it.
-/
import Derived.Test.YtkgapdoflncekaaLocF14
set_option linter.all false
set_option maxRecDepth 100000
namespace Go.Ev
open Go.Proofs
variable {A : Type}

-- ============================================================ fork (function 12)
def fork_b1 (n : Nat) (t4 : Int) (t27 : (List (List Int))) (t28 : Int) (at_ : (List ((List Int) × Int))) (k0 : Int → Int → Option A) (k1 : Int → Option A) (r : Int → Option A) (t29 : Int) : Option A :=
  bif (decide (t29 < t28)) then
    if 0 ≤ t29 then
      (t27[(Int.toNat t29)]?).bind fun y4 =>
      bif (mget kT28 at_ y4).isSome then
        k0 ((mget kT28 at_ y4).getD 0) t29
      else
        r (IntKind.wrap .i64 (t29 + 1))
    else none
  else
    k1 t29

def fork_l1 (n : Nat) (t4 : Int) (t27 : (List (List Int))) (t28 : Int) (at_ : (List ((List Int) × Int))) (k0 : Int → Int → Option A) (k1 : Int → Option A) : Nat → Int → Option A
  | 0 => fun _ => none
  | f + 1 => fork_b1 n t4 t27 t28 at_ k0 k1 (fork_l1 n t4 t27 t28 at_ k0 k1 f)

def fork_b0 (n : Nat) (line : (List (List Int))) (loc : (List (List Int))) (t4 : Int) (k0 : Int → (List ((List Int) × Int)) → Option A) (r : Int → (List ((List Int) × Int)) → Option A) (i : Int) (at_ : (List ((List Int) × Int))) : Option A :=
  bif (decide (i ≥ 0)) then
    if 0 ≤ i then
      (line[(Int.toNat i)]?).bind fun y1 =>
      r (IntKind.wrap .i64 (i - 1)) (mset kT28 at_ y1 i)
    else none
  else
    k0 i at_

def fork_l0 (n : Nat) (line : (List (List Int))) (loc : (List (List Int))) (t4 : Int) (k0 : Int → (List ((List Int) × Int)) → Option A) : Nat → Int → (List ((List Int) × Int)) → Option A
  | 0 => fun _ _ => none
  | f + 1 => fork_b0 n line loc t4 k0 (fork_l0 n line loc t4 k0 f)

def fork_k (n : Nat) (a0 : (List (List Int))) (a1 : (List (List Int))) (k : Int → Option A) : Option A :=
  fork_l0 n a0 a1 0 (fun y2 y3 =>
    fork_l1 n 0 a1 (a1.length : Int) y3 (fun y5 y6 =>
      k y5) (fun y7 =>
      k 0) n 0) n (IntKind.wrap .i64 ((a0.length : Int) - 1)) []

noncomputable def fork_c0 : Code := codeAt [1, 1, 0, 1, 0, 0] (bodyOf Try.f12)
def fork_d0 : List Nat := [11, 12, 13, 14, 15, 16, 17, 18, 19, 20, 21, 22, 23, 24, 25, 26]
def fork_sh0 : Shape := ⟨[(.p (.sl kT28)), (.p (.sl kT28)), .any, .any, (.p (.int .i64)), (.mp 0), (.p (.int .i64)), .any, .any, .any, .any, .any, .any, .any, .any, .any, .any, .any, .any, .any, .any, .any, .any, .any, .any, .any, .any, .any, .any, .any, .any, .any, .any, .any, .any, .any, .any, .any, .any, .any, .any, .any], [(.map kT28 (.int .i64))]⟩
def fork_t0 (line : (List (List Int))) (loc : (List (List Int))) (t4 : Int) (i : Int) (at_ : (List ((List Int) × Int))) : fork_sh0.den := ((line, loc, (), (), t4, (), i, (), (), (), (), (), (), (), (), (), (), (), (), (), (), (), (), (), (), (), (), (), (), (), (), (), (), (), (), (), (), (), (), (), (), (), ()), (at_, ()))
def fork_x0_0 (line : (List (List Int))) (loc : (List (List Int))) (t4 : Int) (z3 : Int) (z4 : (List ((List Int) × Int))) : St := ⟨[.p (.sl kT28) line, .p (.sl kT28) loc, .any, .any, .p (.int .i64) t4, .mp 0, .p (.int .i64) z3, .any, .any, .any, .any, .any, .any, .any, .any, .any, .any, .any, .any, .any, .any, .any, .any, .any, .any, .any, .any, .any, .any, .any, .any, .any, .any, .any, .any, .any, .any, .any, .any, .any, .any, .any], [.map kT28 (.int .i64) z4], 0⟩
def fork_g0 (n : Nat) (d : fork_sh0.den) (k : Ex → St → Option A) : Option A :=
  fork_l0 n d.1.1 d.1.2.1 d.1.2.2.2.2.1 (fun z3 z4 => k (.exit 0) (fork_x0_0 d.1.1 d.1.2.1 d.1.2.2.2.2.1 z3 z4)) n d.1.2.2.2.2.2.2.1 d.2.1
noncomputable def fork_c1 : Code := codeAt [1, 1, 1, 0, 1, 0, 0] (bodyOf Try.f12)
def fork_d1 : List Nat := [0, 1, 6, 8, 9, 10, 30, 31, 32, 33, 34, 35, 36, 37, 38, 39, 40, 41]
def fork_sh1 : Shape := ⟨[.any, .any, .any, .any, (.p (.int .i64)), (.mp 0), .any, .any, .any, .any, .any, .any, .any, .any, .any, .any, .any, .any, .any, .any, .any, .any, .any, .any, .any, .any, .any, (.p (.sl kT28)), (.p (.int .i64)), (.p (.int .i64)), .any, .any, .any, .any, .any, .any, .any, .any, .any, .any, .any, .any], [(.map kT28 (.int .i64))]⟩
def fork_t1 (t4 : Int) (t27 : (List (List Int))) (t28 : Int) (at_ : (List ((List Int) × Int))) (t29 : Int) : fork_sh1.den := (((), (), (), (), t4, (), (), (), (), (), (), (), (), (), (), (), (), (), (), (), (), (), (), (), (), (), (), t27, t28, t29, (), (), (), (), (), (), (), (), (), (), (), (), ()), (at_, ()))
def fork_x1_0 (t4 : Int) (t27 : (List (List Int))) (t28 : Int) (at_ : (List ((List Int) × Int))) (z0 : Int) (z3 : Int) : St := ⟨[.any, .any, .any, .any, .p (.int .i64) z0, .mp 0, .any, .any, .any, .any, .any, .any, .any, .any, .any, .any, .any, .any, .any, .any, .any, .any, .any, .any, .any, .any, .any, .p (.sl kT28) t27, .p (.int .i64) t28, .p (.int .i64) z3, .any, .any, .any, .any, .any, .any, .any, .any, .any, .any, .any, .any], [.map kT28 (.int .i64) at_], 0⟩
def fork_x1_1 (t4 : Int) (t27 : (List (List Int))) (t28 : Int) (at_ : (List ((List Int) × Int))) (z3 : Int) : St := ⟨[.any, .any, .any, .any, .p (.int .i64) t4, .mp 0, .any, .any, .any, .any, .any, .any, .any, .any, .any, .any, .any, .any, .any, .any, .any, .any, .any, .any, .any, .any, .any, .p (.sl kT28) t27, .p (.int .i64) t28, .p (.int .i64) z3, .any, .any, .any, .any, .any, .any, .any, .any, .any, .any, .any, .any], [.map kT28 (.int .i64) at_], 0⟩
def fork_g1 (n : Nat) (d : fork_sh1.den) (k : Ex → St → Option A) : Option A :=
  fork_l1 n d.1.2.2.2.2.1 d.1.2.2.2.2.2.2.2.2.2.2.2.2.2.2.2.2.2.2.2.2.2.2.2.2.2.2.2.1 d.1.2.2.2.2.2.2.2.2.2.2.2.2.2.2.2.2.2.2.2.2.2.2.2.2.2.2.2.2.1 d.2.1 (fun z0 z3 => k .ret (fork_x1_0 d.1.2.2.2.2.1 d.1.2.2.2.2.2.2.2.2.2.2.2.2.2.2.2.2.2.2.2.2.2.2.2.2.2.2.2.1 d.1.2.2.2.2.2.2.2.2.2.2.2.2.2.2.2.2.2.2.2.2.2.2.2.2.2.2.2.2.1 d.2.1 z0 z3)) (fun z3 => k (.exit 2) (fork_x1_1 d.1.2.2.2.2.1 d.1.2.2.2.2.2.2.2.2.2.2.2.2.2.2.2.2.2.2.2.2.2.2.2.2.2.2.2.1 d.1.2.2.2.2.2.2.2.2.2.2.2.2.2.2.2.2.2.2.2.2.2.2.2.2.2.2.2.2.1 d.2.1 z3)) n d.1.2.2.2.2.2.2.2.2.2.2.2.2.2.2.2.2.2.2.2.2.2.2.2.2.2.2.2.2.2.1
noncomputable def fork_E (n : Nat) : Env A := ⟨tys, [], [(0, loopE fork_d0 fork_sh0 (fork_g0 n)), (1, loopE fork_d1 fork_sh1 (fork_g1 n))]⟩
theorem fork_T (n : Nat) : TyOK Try.prog (fork_E (A := A) n) := tyOK_of rfl tysB
theorem fork_fns (n : Nat) : FnsOK Try.prog (fork_E (A := A) n) := AllOK.env rfl AllOK.nil
noncomputable def fork_LK1 (n : Nat) (t4 : Int) (t27 : (List (List Int))) (t28 : Int) (at_ : (List ((List Int) × Int))) (k : Ex → St → Option A) (f : Nat) (t29 : Int) : Option A := loopK (codeK (fork_E n) 2 fork_c1) fork_d1 f (fork_sh1.fill (fork_t1 t4 t27 t28 at_ t29)) k
theorem fork_st1 (n f : Nat) (t4 : Int) (t27 : (List (List Int))) (t28 : Int) (at_ : (List ((List Int) × Int))) (k : Ex → St → Option A) (t29 : Int) : fork_LK1 n t4 t27 t28 at_ k (f + 1) t29 = fork_b1 n t4 t27 t28 at_ (fun z0 z3 => k .ret (fork_x1_0 t4 t27 t28 at_ z0 z3)) (fun z3 => k (.exit 2) (fork_x1_1 t4 t27 t28 at_ z3)) (fork_LK1 n t4 t27 t28 at_ k f) t29 := by kernel_rfl
theorem fork_le1 (n : Nat) (t4 : Int) (t27 : (List (List Int))) (t28 : Int) (at_ : (List ((List Int) × Int))) (k : Ex → St → Option A) : ∀ (f : Nat) (t29 : Int), fork_LK1 n t4 t27 t28 at_ k f t29 = fork_l1 n t4 t27 t28 at_ (fun z0 z3 => k .ret (fork_x1_0 t4 t27 t28 at_ z0 z3)) (fun z3 => k (.exit 2) (fork_x1_1 t4 t27 t28 at_ z3)) f t29 := by
  intro f
  induction f with
  | zero => intros; kernel_rfl
  | succ f ih => intro t29; exact (fork_st1 n f t4 t27 t28 at_ k t29).trans ((congrArg (fun r => fork_b1 n t4 t27 t28 at_ (fun z0 z3 => k .ret (fork_x1_0 t4 t27 t28 at_ z0 z3)) (fun z3 => k (.exit 2) (fork_x1_1 t4 t27 t28 at_ z3)) r t29) (funext fun t29 => ih t29)).trans (by kernel_rfl))
theorem fork_lo1 (n : Nat) : LoopOK Try.prog fork_c1 (loopE fork_d1 fork_sh1 (fork_g1 (A := A) n)) :=
  LoopOK.of (fork_T n) (fork_fns n) follows (j := 2) (n := n) (lo_of (by kernel_rfl : loopsOf 2 fork_c1 = []) lo_nil) fun d k => Eq.trans (by kernel_rfl) (fork_le1 n d.1.2.2.2.2.1 d.1.2.2.2.2.2.2.2.2.2.2.2.2.2.2.2.2.2.2.2.2.2.2.2.2.2.2.2.1 d.1.2.2.2.2.2.2.2.2.2.2.2.2.2.2.2.2.2.2.2.2.2.2.2.2.2.2.2.2.1 d.2.1 k n d.1.2.2.2.2.2.2.2.2.2.2.2.2.2.2.2.2.2.2.2.2.2.2.2.2.2.2.2.2.2.1)
noncomputable def fork_LK0 (n : Nat) (line : (List (List Int))) (loc : (List (List Int))) (t4 : Int) (k : Ex → St → Option A) (f : Nat) (i : Int) (at_ : (List ((List Int) × Int))) : Option A := loopK (codeK (fork_E n) 1 fork_c0) fork_d0 f (fork_sh0.fill (fork_t0 line loc t4 i at_)) k
theorem fork_st0 (n f : Nat) (line : (List (List Int))) (loc : (List (List Int))) (t4 : Int) (k : Ex → St → Option A) (i : Int) (at_ : (List ((List Int) × Int))) : fork_LK0 n line loc t4 k (f + 1) i at_ = fork_b0 n line loc t4 (fun z3 z4 => k (.exit 0) (fork_x0_0 line loc t4 z3 z4)) (fork_LK0 n line loc t4 k f) i at_ := by kernel_rfl
theorem fork_le0 (n : Nat) (line : (List (List Int))) (loc : (List (List Int))) (t4 : Int) (k : Ex → St → Option A) : ∀ (f : Nat) (i : Int) (at_ : (List ((List Int) × Int))), fork_LK0 n line loc t4 k f i at_ = fork_l0 n line loc t4 (fun z3 z4 => k (.exit 0) (fork_x0_0 line loc t4 z3 z4)) f i at_ := by
  intro f
  induction f with
  | zero => intros; kernel_rfl
  | succ f ih => intro i at_; exact (fork_st0 n f line loc t4 k i at_).trans ((congrArg (fun r => fork_b0 n line loc t4 (fun z3 z4 => k (.exit 0) (fork_x0_0 line loc t4 z3 z4)) r i at_) (funext fun i => funext fun at_ => ih i at_)).trans (by kernel_rfl))
theorem fork_lo0 (n : Nat) : LoopOK Try.prog fork_c0 (loopE fork_d0 fork_sh0 (fork_g0 (A := A) n)) :=
  LoopOK.of (fork_T n) (fork_fns n) follows (j := 1) (n := n) (lo_of (by kernel_rfl : loopsOf 1 fork_c0 = []) lo_nil) fun d k => Eq.trans (by kernel_rfl) (fork_le0 n d.1.1 d.1.2.1 d.1.2.2.2.2.1 k n d.1.2.2.2.2.2.2.1 d.2.1)
theorem fork_eq (n : Nat) (a0 : (List (List Int))) (a1 : (List (List Int))) (k : AV → List Blk → Option A) : fnK (fork_E n) Try.f12 [.pure] [.p (.sl kT28) a0, .p (.sl kT28) a1] k = fork_k n a0 a1 (fun r0 => k (.p (.int .i64) r0) []) := by kernel_rfl
def fork_en (n : Nat) : Entry A := ⟨fun args k => args2 args (.sl kT28) (.sl kT28) fun a0 a1 => fork_k n a0 a1 (fun r0 => k (.p (.int .i64) r0) [])⟩
theorem fork_lo (n : Nat) : ∀ c, Try.f12.body = some c → ∀ q ∈ loopsOf 0 c, ∀ L, (fork_E (A := A) n).lps.lookup q.1 = some L → LoopOK Try.prog q.2 L :=
  lo_body (by kernel_rfl : Try.f12.body = some (bodyOf Try.f12)) (lo_of (by kernel_rfl : loopsOf 0 (bodyOf Try.f12) = [(0, fork_c0), (1, fork_c1)]) (lo_cons rfl (fork_lo0 n) (lo_cons rfl (fork_lo1 n) lo_nil)))
theorem fork_ok (n : Nat) : FnOK Try.prog 12 (fork_en (A := A) n) :=
  FnOK.of (fork_T n) (fork_fns n) follows ⟨Try.func12, by kernel_rfl⟩ (fork_lo n) (rm := [.pure]) fun args k out h => by
    obtain ⟨a0, a1, e, h1⟩ := args2_sound h
    subst e; rw [fork_eq]; exact h1

end Go.Ev
