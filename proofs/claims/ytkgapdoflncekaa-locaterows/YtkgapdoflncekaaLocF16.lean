/-
  FUNCTION 16: printed by a program of our own (wip/gen/seat.py). 'masthead/mastheadref21.After', in continuation form; the evaluator gives it.
-/
import Derived.Test.YtkgapdoflncekaaLocF15
set_option linter.all false
set_option maxRecDepth 100000
namespace Go.Ev
open Go.Proofs
variable {A : Type}

-- ============================================================ rafter (function 16)
def rafter_b0 (n : Nat) (line : (List (List Int))) (most : Int) (stop : (List Int)) (t8 : (List Int)) (k0 : Int → (List Int) → Option A) (k1 : Int → (List Int) → Option A) (r : Int → (List Int) → Option A) (i : Int) (out : (List Int)) : Option A :=
  bif (decide (i < (line.length : Int))) then
    bif (decide ((out.length : Int) < most)) then
      if (out.length + 1) * 8 ≤ 140737488355328 then
        if 0 ≤ i then
          (line[(Int.toNat i)]?).bind fun y1 =>
          bif (deq kT28 y1 stop) then
            k0 i (out ++ [i])
          else
            r (IntKind.wrap .i64 (i + 1)) (out ++ [i])
        else none
      else none
    else
      k1 i out
  else
    k1 i out

def rafter_l0 (n : Nat) (line : (List (List Int))) (most : Int) (stop : (List Int)) (t8 : (List Int)) (k0 : Int → (List Int) → Option A) (k1 : Int → (List Int) → Option A) : Nat → Int → (List Int) → Option A
  | 0 => fun _ _ => none
  | f + 1 => rafter_b0 n line most stop t8 k0 k1 (rafter_l0 n line most stop t8 k0 k1 f)

def rafter_k (n : Nat) (a0 : (List (List Int))) (a1 : Int) (a2 : (List Int)) (a3 : Int) (k : (List Int) → Option A) : Option A :=
  bif (decide (a1 < 0)) then
    k []
  else
    bif (decide (a1 ≥ (a0.length : Int))) then
      k []
    else
      rafter_l0 n a0 a3 a2 [] (fun y2 y3 =>
        k y3) (fun y4 y5 =>
        k y5) n (IntKind.wrap .i64 (a1 + 1)) []

noncomputable def rafter_c0 : Code := codeAt [1, 1, 1, 0, 1, 0, 0] (bodyOf Try.f16)
def rafter_d0 : List Nat := [1, 2, 11, 12, 13, 14, 15, 16, 17, 18, 19, 20, 21, 22, 23, 24, 25, 26, 27, 28, 29, 30, 31, 32, 33, 34, 35, 36, 37, 38, 39, 40, 41, 42, 43]
def rafter_sh0 : Shape := ⟨[(.p (.sl kT28)), .any, .any, (.p (.int .i64)), .any, .any, (.ptr 0), .any, (.row 1), (.row 2), (.p (.int .i64)), .any, .any, .any, .any, .any, .any, .any, .any, .any, .any, .any, .any, .any, .any, .any, .any, .any, .any, .any, .any, .any, .any, .any, .any, .any, .any, .any, .any, .any, .any, .any, .any, .any, .any], [(.var 28 kT28 (.p kT28)), (.row 3 (.int .i64)), (.row 3 (.int .i64))]⟩
def rafter_t0 (line : (List (List Int))) (most : Int) (stop : (List Int)) (t8 : (List Int)) (i : Int) (out : (List Int)) : rafter_sh0.den := ((line, (), (), most, (), (), (), (), (), (), i, (), (), (), (), (), (), (), (), (), (), (), (), (), (), (), (), (), (), (), (), (), (), (), (), (), (), (), (), (), (), (), (), (), (), ()), (stop, t8, out, ()))
def rafter_x0_0 (line : (List (List Int))) (most : Int) (stop : (List Int)) (t8 : (List Int)) (z2 : Int) (z4 : (List Int)) : St := ⟨[.p (.sl kT28) line, .any, .any, .p (.int .i64) most, .any, .any, .ptr 0 [], .any, .row 1, .row 1, .p (.int .i64) z2, .any, .any, .any, .any, .any, .any, .any, .any, .any, .any, .any, .any, .any, .any, .any, .any, .any, .any, .any, .any, .any, .any, .any, .any, .any, .any, .any, .any, .any, .any, .any, .any, .any, .any], [.var 28 kT28 (.p kT28 stop), .row 3 (.int .i64) z4], 0⟩
def rafter_x0_1 (line : (List (List Int))) (most : Int) (stop : (List Int)) (t8 : (List Int)) (z2 : Int) (z5 : (List Int)) : St := ⟨[.p (.sl kT28) line, .any, .any, .p (.int .i64) most, .any, .any, .ptr 0 [], .any, .row 1, .row 2, .p (.int .i64) z2, .any, .any, .any, .any, .any, .any, .any, .any, .any, .any, .any, .any, .any, .any, .any, .any, .any, .any, .any, .any, .any, .any, .any, .any, .any, .any, .any, .any, .any, .any, .any, .any, .any, .any], [.var 28 kT28 (.p kT28 stop), .row 3 (.int .i64) t8, .row 3 (.int .i64) z5], 0⟩
def rafter_g0 (n : Nat) (d : rafter_sh0.den) (k : Ex → St → Option A) : Option A :=
  rafter_l0 n d.1.1 d.1.2.2.2.1 d.2.1 d.2.2.1 (fun z2 z4 => k .ret (rafter_x0_0 d.1.1 d.1.2.2.2.1 d.2.1 d.2.2.1 z2 z4)) (fun z2 z5 => k (.exit 0) (rafter_x0_1 d.1.1 d.1.2.2.2.1 d.2.1 d.2.2.1 z2 z5)) n d.1.2.2.2.2.2.2.2.2.2.2.1 d.2.2.2.1
noncomputable def rafter_E (n : Nat) : Env A := ⟨tys, [], [(0, loopE rafter_d0 rafter_sh0 (rafter_g0 n))]⟩
theorem rafter_T (n : Nat) : TyOK Try.prog (rafter_E (A := A) n) := tyOK_of rfl tysB
theorem rafter_fns (n : Nat) : FnsOK Try.prog (rafter_E (A := A) n) := AllOK.env rfl AllOK.nil
noncomputable def rafter_LK0 (n : Nat) (line : (List (List Int))) (most : Int) (stop : (List Int)) (t8 : (List Int)) (k : Ex → St → Option A) (f : Nat) (i : Int) (out : (List Int)) : Option A := loopK (codeK (rafter_E n) 1 rafter_c0) rafter_d0 f (rafter_sh0.fill (rafter_t0 line most stop t8 i out)) k
theorem rafter_st0 (n f : Nat) (line : (List (List Int))) (most : Int) (stop : (List Int)) (t8 : (List Int)) (k : Ex → St → Option A) (i : Int) (out : (List Int)) : rafter_LK0 n line most stop t8 k (f + 1) i out = rafter_b0 n line most stop t8 (fun z2 z4 => k .ret (rafter_x0_0 line most stop t8 z2 z4)) (fun z2 z5 => k (.exit 0) (rafter_x0_1 line most stop t8 z2 z5)) (rafter_LK0 n line most stop t8 k f) i out := by kernel_rfl
theorem rafter_le0 (n : Nat) (line : (List (List Int))) (most : Int) (stop : (List Int)) (t8 : (List Int)) (k : Ex → St → Option A) : ∀ (f : Nat) (i : Int) (out : (List Int)), rafter_LK0 n line most stop t8 k f i out = rafter_l0 n line most stop t8 (fun z2 z4 => k .ret (rafter_x0_0 line most stop t8 z2 z4)) (fun z2 z5 => k (.exit 0) (rafter_x0_1 line most stop t8 z2 z5)) f i out := by
  intro f
  induction f with
  | zero => intros; kernel_rfl
  | succ f ih => intro i out; exact (rafter_st0 n f line most stop t8 k i out).trans ((congrArg (fun r => rafter_b0 n line most stop t8 (fun z2 z4 => k .ret (rafter_x0_0 line most stop t8 z2 z4)) (fun z2 z5 => k (.exit 0) (rafter_x0_1 line most stop t8 z2 z5)) r i out) (funext fun i => funext fun out => ih i out)).trans (by kernel_rfl))
theorem rafter_lo0 (n : Nat) : LoopOK Try.prog rafter_c0 (loopE rafter_d0 rafter_sh0 (rafter_g0 (A := A) n)) :=
  LoopOK.of (rafter_T n) (rafter_fns n) follows (j := 1) (n := n) (lo_of (by kernel_rfl : loopsOf 1 rafter_c0 = []) lo_nil) fun d k => Eq.trans (by kernel_rfl) (rafter_le0 n d.1.1 d.1.2.2.2.1 d.2.1 d.2.2.1 k n d.1.2.2.2.2.2.2.2.2.2.2.1 d.2.2.2.1)
theorem rafter_eq (n : Nat) (a0 : (List (List Int))) (a1 : Int) (a2 : (List Int)) (a3 : Int) (k : AV → List Blk → Option A) : fnK (rafter_E n) Try.f16 [.own] [.p (.sl kT28) a0, .p (.int .i64) a1, .p kT28 a2, .p (.int .i64) a3] k = rafter_k n a0 a1 a2 a3 (fun r0 => k (.row 0) [.row 3 (.int .i64) r0]) := by kernel_rfl
def rafter_en (n : Nat) : Entry A := ⟨fun args k => args4 args (.sl kT28) (.int .i64) kT28 (.int .i64) fun a0 a1 a2 a3 => rafter_k n a0 a1 a2 a3 (fun r0 => k (.row 0) [.row 3 (.int .i64) r0])⟩
theorem rafter_lo (n : Nat) : ∀ c, Try.f16.body = some c → ∀ q ∈ loopsOf 0 c, ∀ L, (rafter_E (A := A) n).lps.lookup q.1 = some L → LoopOK Try.prog q.2 L :=
  lo_body (by kernel_rfl : Try.f16.body = some (bodyOf Try.f16)) (lo_of (by kernel_rfl : loopsOf 0 (bodyOf Try.f16) = [(0, rafter_c0)]) (lo_cons rfl (rafter_lo0 n) lo_nil))
theorem rafter_ok (n : Nat) : FnOK Try.prog 16 (rafter_en (A := A) n) :=
  FnOK.of (rafter_T n) (rafter_fns n) follows ⟨Try.func16, by kernel_rfl⟩ (rafter_lo n) (rm := [.own]) fun args k out h => by
    obtain ⟨a0, a1, a2, a3, e, h1⟩ := args4_sound h
    subst e; rw [rafter_eq]; exact h1

end Go.Ev
