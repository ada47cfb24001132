/-
  FUNCTION 19: printed by a program of our own (wip/gen/st.py). 'masthead/mastheadref03.Numbers', in continuation form; the evaluator gives it.
-/
import Derived.Test.YtonpbpkkepacpaaSipF16
set_option linter.all false
set_option maxRecDepth 100000
namespace Go.Ev
open Go.Proofs
variable {A : Type}

-- ============================================================ numbers (function 19)
def numbers_b1 (g_value : (List Int) → (Int → Option A) → Option A) (n : Nat) (t2 : (List Int)) (all : (List Int)) (k0 : Int → (List Int) → Option A) (r : Int → (List Int) → Option A) (i : Int) (out : (List Int)) : Option A :=
  bif (decide (i < (all.length : Int))) then
    if 0 ≤ (IntKind.wrap .i64 (i + 8)) then
      if (IntKind.wrap .i64 (i + 8)) ≤ (all.length : Int) then
        if 0 ≤ i then
          if i ≤ ((Int.toNat (IntKind.wrap .i64 (i + 8))) : Int) then
            g_value ((all.drop (Int.toNat i)).take ((Int.toNat (IntKind.wrap .i64 (i + 8))) - (Int.toNat i))) fun r2 =>
            if (out.length + 1) * 8 ≤ 140737488355328 then
              r (IntKind.wrap .i64 (i + 8)) (out ++ [r2])
            else none
          else none
        else none
      else none
    else none
  else
    k0 i out

def numbers_l1 (g_value : (List Int) → (Int → Option A) → Option A) (n : Nat) (t2 : (List Int)) (all : (List Int)) (k0 : Int → (List Int) → Option A) : Nat → Int → (List Int) → Option A
  | 0 => fun _ _ => none
  | f + 1 => numbers_b1 g_value n t2 all k0 (numbers_l1 g_value n t2 all k0 f)

def numbers_b0 (g_value : (List Int) → (Int → Option A) → Option A) (n : Nat) (b : (List Int)) (t2 : (List Int)) (out : (List Int)) (k0 : (List Int) → Option A) (r : (List Int) → Option A) (all : (List Int)) : Option A :=
  bif ((Int.tmod (all.length : Int) 8) != 7) then
    if (all.length + 1) * 1 ≤ 140737488355328 then
      r (all ++ [0])
    else none
  else
    k0 all

def numbers_l0 (g_value : (List Int) → (Int → Option A) → Option A) (n : Nat) (b : (List Int)) (t2 : (List Int)) (out : (List Int)) (k0 : (List Int) → Option A) : Nat → (List Int) → Option A
  | 0 => fun _ => none
  | f + 1 => numbers_b0 g_value n b t2 out k0 (numbers_l0 g_value n b t2 out k0 f)

def numbers_p (g_value : (List Int) → (Int → Option A) → Option A) (n : Nat) (a0 : (List Int)) (k : (List Int) → Option A) : Option A :=
  if (0 + a0.length) * 1 ≤ 140737488355328 then
    numbers_l0 g_value n a0 [] [] (fun y1 =>
      if (y1.length + 1) * 1 ≤ 140737488355328 then
        numbers_l1 g_value n [] (y1 ++ [(IntKind.wrap .u8 (Int.tmod (a0.length : Int) 256))]) (fun y3 y4 =>
          k y4) n 0 []
      else none) n ([] ++ a0)
  else none

def numbers_k (n : Nat) (a0 : (List Int)) (k : (List Int) → Option A) : Option A := numbers_p (value_k n) n a0 k

noncomputable def numbers_c0 : Code := codeAt [1, 1, 1, 0, 0, 0] (bodyOf Try.f19)
def numbers_d0 : List Nat := [6, 7, 8, 9, 10, 11, 12, 13, 14, 15]
def numbers_sh0 : Shape := ⟨[(.p (.sl (.int .u8))), .any, (.row 0), (.row 1), (.row 2), .any, .any, .any, .any, .any, .any, .any, .any, .any, .any, .any, .any, .any, .any, .any, .any, .any, .any, .any, .any, .any, .any, .any, .any, .any, .any, .any, .any, .any, .any, .any, .any, .any, .any], [(.row 22 (.int .u64)), (.row 22 (.int .u64)), (.row 5 (.int .u8))], 0⟩
def numbers_t0 (b : (List Int)) (t2 : (List Int)) (out : (List Int)) (all : (List Int)) : numbers_sh0.den := ((b, (), (), (), (), (), (), (), (), (), (), (), (), (), (), (), (), (), (), (), (), (), (), (), (), (), (), (), (), (), (), (), (), (), (), (), (), (), (), ()), (t2, out, all, ()))
def numbers_x0_0 (b : (List Int)) (t2 : (List Int)) (out : (List Int)) (z3 : (List Int)) : St := ⟨[.p (.sl (.int .u8)) b, .any, .row 0, .row 1, .row 2, .any, .any, .any, .any, .any, .any, .any, .any, .any, .any, .any, .any, .any, .any, .any, .any, .any, .any, .any, .any, .any, .any, .any, .any, .any, .any, .any, .any, .any, .any, .any, .any, .any, .any], [.row 22 (.int .u64) t2, .row 22 (.int .u64) out, .row 5 (.int .u8) z3], 0⟩
def numbers_g0 (g_value : (List Int) → (Int → Option A) → Option A) (n : Nat) (d : numbers_sh0.den) (k : Ex → St → Option A) : Option A :=
  numbers_l0 g_value n d.1.1 d.2.1 d.2.2.1 (fun z3 => k (.exit 0) (numbers_x0_0 d.1.1 d.2.1 d.2.2.1 z3)) n d.2.2.2.1
noncomputable def numbers_c1 : Code := codeAt [1, 1, 1, 1, 1, 0, 1, 0, 0] (bodyOf Try.f19)
def numbers_d1 : List Nat := [0, 16, 17, 18, 19, 20, 21, 22, 23, 24, 25, 26, 27, 28, 29, 30, 31, 32, 33, 34, 35, 36, 37]
def numbers_sh1 : Shape := ⟨[.any, .any, (.row 0), (.row 1), (.row 2), (.p (.int .i64)), .any, .any, .any, .any, .any, .any, .any, .any, .any, .any, .any, .any, .any, .any, .any, .any, .any, .any, .any, .any, .any, .any, .any, .any, .any, .any, .any, .any, .any, .any, .any, .any, .any], [(.row 22 (.int .u64)), (.row 22 (.int .u64)), (.row 5 (.int .u8))], 0⟩
def numbers_t1 (t2 : (List Int)) (all : (List Int)) (i : Int) (out : (List Int)) : numbers_sh1.den := (((), (), (), (), (), i, (), (), (), (), (), (), (), (), (), (), (), (), (), (), (), (), (), (), (), (), (), (), (), (), (), (), (), (), (), (), (), (), (), ()), (t2, out, all, ()))
def numbers_x1_0 (t2 : (List Int)) (all : (List Int)) (z0 : Int) (z2 : (List Int)) : St := ⟨[.any, .any, .row 0, .row 1, .row 2, .p (.int .i64) z0, .any, .any, .any, .any, .any, .any, .any, .any, .any, .any, .any, .any, .any, .any, .any, .any, .any, .any, .any, .any, .any, .any, .any, .any, .any, .any, .any, .any, .any, .any, .any, .any, .any], [.row 22 (.int .u64) t2, .row 22 (.int .u64) z2, .row 5 (.int .u8) all], 0⟩
def numbers_g1 (g_value : (List Int) → (Int → Option A) → Option A) (n : Nat) (d : numbers_sh1.den) (k : Ex → St → Option A) : Option A :=
  numbers_l1 g_value n d.2.1 d.2.2.2.1 (fun z0 z2 => k (.exit 2) (numbers_x1_0 d.2.1 d.2.2.2.1 z0 z2)) n d.1.2.2.2.2.2.1 d.2.2.1
noncomputable def numbers_E (g_value : (List Int) → (Int → Option A) → Option A) (n : Nat) : Env A := ⟨tys, gls, [(16, value_ent g_value)], [(0, loopE numbers_d0 numbers_sh0 (numbers_g0 g_value n)), (1, loopE numbers_d1 numbers_sh1 (numbers_g1 g_value n))]⟩
theorem numbers_T (g_value : (List Int) → (Int → Option A) → Option A) (n : Nat) : TyOK Try.prog (numbers_E g_value n) := tyOK_of rfl tysB
theorem numbers_fns (n : Nat) : FnsOK Try.prog (numbers_E (A := A) (value_k n) n) := AllOK.env rfl rfl (AllOK.cons (value_ok n) AllOK.nil)
noncomputable def numbers_LK1 (g_value : (List Int) → (Int → Option A) → Option A) (n : Nat) (t2 : (List Int)) (all : (List Int)) (k : Ex → St → Option A) (f : Nat) (i : Int) (out : (List Int)) : Option A := loopK (codeK (numbers_E g_value n) 2 numbers_c1) numbers_d1 f (numbers_sh1.fill (numbers_t1 t2 all i out)) k
theorem numbers_st1 (g_value : (List Int) → (Int → Option A) → Option A) (n f : Nat) (t2 : (List Int)) (all : (List Int)) (k : Ex → St → Option A) (i : Int) (out : (List Int)) : numbers_LK1 g_value n t2 all k (f + 1) i out = numbers_b1 g_value n t2 all (fun z0 z2 => k (.exit 2) (numbers_x1_0 t2 all z0 z2)) (numbers_LK1 g_value n t2 all k f) i out := by kernel_rfl
theorem numbers_le1 (g_value : (List Int) → (Int → Option A) → Option A) (n : Nat) (t2 : (List Int)) (all : (List Int)) (k : Ex → St → Option A) : ∀ (f : Nat) (i : Int) (out : (List Int)), numbers_LK1 g_value n t2 all k f i out = numbers_l1 g_value n t2 all (fun z0 z2 => k (.exit 2) (numbers_x1_0 t2 all z0 z2)) f i out := by
  intro f
  induction f with
  | zero => intros; kernel_rfl
  | succ f ih => intro i out; exact (numbers_st1 g_value n f t2 all k i out).trans ((congrArg (fun r => numbers_b1 g_value n t2 all (fun z0 z2 => k (.exit 2) (numbers_x1_0 t2 all z0 z2)) r i out) (funext fun i => funext fun out => ih i out)).trans (by kernel_rfl))
theorem numbers_lo1 (n : Nat) : LoopOK Try.prog gls numbers_c1 (loopE numbers_d1 numbers_sh1 (numbers_g1 (A := A) (value_k n) n)) :=
  LoopOK.of (numbers_T (value_k n) n) (numbers_fns n) follows (j := 2) (n := n) (lo_of (by kernel_rfl : loopsOf 2 numbers_c1 = []) lo_nil) fun d k => Eq.trans (by kernel_rfl) (numbers_le1 (value_k n) n d.2.1 d.2.2.2.1 k n d.1.2.2.2.2.2.1 d.2.2.1)
noncomputable def numbers_LK0 (g_value : (List Int) → (Int → Option A) → Option A) (n : Nat) (b : (List Int)) (t2 : (List Int)) (out : (List Int)) (k : Ex → St → Option A) (f : Nat) (all : (List Int)) : Option A := loopK (codeK (numbers_E g_value n) 1 numbers_c0) numbers_d0 f (numbers_sh0.fill (numbers_t0 b t2 out all)) k
theorem numbers_st0 (g_value : (List Int) → (Int → Option A) → Option A) (n f : Nat) (b : (List Int)) (t2 : (List Int)) (out : (List Int)) (k : Ex → St → Option A) (all : (List Int)) : numbers_LK0 g_value n b t2 out k (f + 1) all = numbers_b0 g_value n b t2 out (fun z3 => k (.exit 0) (numbers_x0_0 b t2 out z3)) (numbers_LK0 g_value n b t2 out k f) all := by kernel_rfl
theorem numbers_le0 (g_value : (List Int) → (Int → Option A) → Option A) (n : Nat) (b : (List Int)) (t2 : (List Int)) (out : (List Int)) (k : Ex → St → Option A) : ∀ (f : Nat) (all : (List Int)), numbers_LK0 g_value n b t2 out k f all = numbers_l0 g_value n b t2 out (fun z3 => k (.exit 0) (numbers_x0_0 b t2 out z3)) f all := by
  intro f
  induction f with
  | zero => intros; kernel_rfl
  | succ f ih => intro all; exact (numbers_st0 g_value n f b t2 out k all).trans ((congrArg (fun r => numbers_b0 g_value n b t2 out (fun z3 => k (.exit 0) (numbers_x0_0 b t2 out z3)) r all) (funext fun all => ih all)).trans (by kernel_rfl))
theorem numbers_lo0 (n : Nat) : LoopOK Try.prog gls numbers_c0 (loopE numbers_d0 numbers_sh0 (numbers_g0 (A := A) (value_k n) n)) :=
  LoopOK.of (numbers_T (value_k n) n) (numbers_fns n) follows (j := 1) (n := n) (lo_of (by kernel_rfl : loopsOf 1 numbers_c0 = []) lo_nil) fun d k => Eq.trans (by kernel_rfl) (numbers_le0 (value_k n) n d.1.1 d.2.1 d.2.2.1 k n d.2.2.2.1)
theorem numbers_eqg (g_value : (List Int) → (Int → Option A) → Option A) (n : Nat) (a0 : (List Int)) (k : AV → List Blk → Option A) : fnK (numbers_E g_value n) Try.f19 [.own] [.p (.sl (.int .u8)) a0] [] k = numbers_p g_value n a0 (fun r0 => k (.row 0) [.row 22 (.int .u64) r0]) := by kernel_rfl
theorem numbers_eq (n : Nat) (a0 : (List Int)) (k : AV → List Blk → Option A) : fnK (numbers_E (value_k n) n) Try.f19 [.own] [.p (.sl (.int .u8)) a0] [] k = numbers_k n a0 (fun r0 => k (.row 0) [.row 22 (.int .u64) r0]) := numbers_eqg (value_k n) n a0 k
def numbers_ent (g : (List Int) → ((List Int) → Option A) → Option A) : Entry A := pureE fun args k => args1 args (.sl (.int .u8)) fun a0 => g a0 (fun r0 => k (.row 0) [.row 22 (.int .u64) r0])
theorem numbers_lo (n : Nat) : ∀ c, Try.f19.body = some c → ∀ q ∈ loopsOf 0 c, ∀ L, (numbers_E (A := A) (value_k n) n).lps.lookup q.1 = some L → LoopOK Try.prog gls q.2 L :=
  lo_body (E := numbers_E (value_k n) n) (by kernel_rfl : Try.f19.body = some (bodyOf Try.f19)) (lo_of (E := numbers_E (value_k n) n) (by kernel_rfl : loopsOf 0 (bodyOf Try.f19) = [(0, numbers_c0), (1, numbers_c1)]) (lo_cons rfl (numbers_lo0 n) (lo_cons rfl (numbers_lo1 n) lo_nil)))
theorem numbers_ok (n : Nat) : FnOK Try.prog gls 19 (numbers_ent (A := A) (numbers_k n)) :=
  FnOK.of (numbers_T (value_k n) n) (numbers_fns n) follows ⟨Try.func19, by kernel_rfl⟩ (numbers_lo n) (rm := [.own]) fun args k out h => by
    obtain ⟨a0, e, h1⟩ := args1_sound h
    subst e; rw [numbers_eq]; exact h1

end Go.Ev
