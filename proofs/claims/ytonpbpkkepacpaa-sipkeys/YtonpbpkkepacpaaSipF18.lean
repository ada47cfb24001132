/-
  FUNCTION 18: printed by a program of our own (wip/gen/st.py). 'masthead/octet.Num', in continuation form; the evaluator gives it.
-/
import Derived.Test.YtonpbpkkepacpaaSipT
set_option linter.all false
set_option maxRecDepth 100000
namespace Go.Ev
open Go.Proofs
variable {A : Type}

-- ============================================================ num (function 18)
def num_b0 (n : Nat) (b : (List Int)) (t2 : Int) (t7 : Int) (k0 : Int → Int → Option A) (r : Int → Int → Option A) (n_ : Int) (t8 : Int) : Option A :=
  bif (decide (t8 < t7)) then
    if 0 ≤ t8 then
      (b[(Int.toNat t8)]?).bind fun y1 =>
      if (IntKind.wrap .i64 (8 * t8)) < 0 then none else
      r (ior .u64 n_ (shl .u64 (IntKind.wrap .u64 y1) (IntKind.wrap .i64 (8 * t8)))) (IntKind.wrap .i64 (t8 + 1))
    else none
  else
    k0 n_ t8

def num_l0 (n : Nat) (b : (List Int)) (t2 : Int) (t7 : Int) (k0 : Int → Int → Option A) : Nat → Int → Int → Option A
  | 0 => fun _ _ => none
  | f + 1 => num_b0 n b t2 t7 k0 (num_l0 n b t2 t7 k0 f)

def num_p (n : Nat) (a0 : (List Int)) (k : Int → Option A) : Option A :=
  num_l0 n a0 0 (imin (a0.length : Int) 8) (fun y2 y3 =>
    k y2) n 0 0

def num_k (n : Nat) (a0 : (List Int)) (k : Int → Option A) : Option A := num_p n a0 k

noncomputable def num_c0 : Code := codeAt [1, 1, 0, 1, 0, 0] (bodyOf Try.f18)
def num_d0 : List Nat := [4, 5, 6, 9, 10, 11, 12, 13, 14, 15, 16, 17, 18, 19, 20, 21]
def num_sh0 : Shape := ⟨[(.p (.sl (.int .u8))), .any, (.p (.int .u64)), (.p (.int .u64)), .any, .any, .any, (.p (.int .i64)), (.p (.int .i64)), .any, .any, .any, .any, .any, .any, .any, .any, .any, .any, .any, .any, .any, .any], [], 0⟩
def num_t0 (b : (List Int)) (t2 : Int) (t7 : Int) (n_ : Int) (t8 : Int) : num_sh0.den := ((b, (), t2, n_, (), (), (), t7, t8, (), (), (), (), (), (), (), (), (), (), (), (), (), (), ()), ())
def num_x0_0 (b : (List Int)) (t2 : Int) (t7 : Int) (z2 : Int) (z4 : Int) : St := ⟨[.p (.sl (.int .u8)) b, .any, .p (.int .u64) t2, .p (.int .u64) z2, .any, .any, .any, .p (.int .i64) t7, .p (.int .i64) z4, .any, .any, .any, .any, .any, .any, .any, .any, .any, .any, .any, .any, .any, .any], [], 0⟩
def num_g0 (n : Nat) (d : num_sh0.den) (k : Ex → St → Option A) : Option A :=
  num_l0 n d.1.1 d.1.2.2.1 d.1.2.2.2.2.2.2.2.1 (fun z2 z4 => k (.exit 0) (num_x0_0 d.1.1 d.1.2.2.1 d.1.2.2.2.2.2.2.2.1 z2 z4)) n d.1.2.2.2.1 d.1.2.2.2.2.2.2.2.2.1
noncomputable def num_E (n : Nat) : Env A := ⟨tys, gls, [], [(0, loopE num_d0 num_sh0 (num_g0 n))]⟩
theorem num_T {A : Type} (n : Nat) : TyOK Try.prog (num_E (A := A) n) := tyOK_of rfl tysB
theorem num_fns (n : Nat) : FnsOK Try.prog (num_E (A := A) n) := AllOK.env rfl rfl AllOK.nil
noncomputable def num_LK0 (n : Nat) (b : (List Int)) (t2 : Int) (t7 : Int) (k : Ex → St → Option A) (f : Nat) (n_ : Int) (t8 : Int) : Option A := loopK (codeK (num_E n) 1 num_c0) num_d0 f (num_sh0.fill (num_t0 b t2 t7 n_ t8)) k
theorem num_st0 (n f : Nat) (b : (List Int)) (t2 : Int) (t7 : Int) (k : Ex → St → Option A) (n_ : Int) (t8 : Int) : num_LK0 n b t2 t7 k (f + 1) n_ t8 = num_b0 n b t2 t7 (fun z2 z4 => k (.exit 0) (num_x0_0 b t2 t7 z2 z4)) (num_LK0 n b t2 t7 k f) n_ t8 := by kernel_rfl
theorem num_le0 (n : Nat) (b : (List Int)) (t2 : Int) (t7 : Int) (k : Ex → St → Option A) : ∀ (f : Nat) (n_ : Int) (t8 : Int), num_LK0 n b t2 t7 k f n_ t8 = num_l0 n b t2 t7 (fun z2 z4 => k (.exit 0) (num_x0_0 b t2 t7 z2 z4)) f n_ t8 := by
  intro f
  induction f with
  | zero => intros; kernel_rfl
  | succ f ih => intro n_ t8; exact (num_st0 n f b t2 t7 k n_ t8).trans ((congrArg (fun r => num_b0 n b t2 t7 (fun z2 z4 => k (.exit 0) (num_x0_0 b t2 t7 z2 z4)) r n_ t8) (funext fun n_ => funext fun t8 => ih n_ t8)).trans (by kernel_rfl))
theorem num_lo0 (n : Nat) : LoopOK Try.prog gls num_c0 (loopE num_d0 num_sh0 (num_g0 (A := A) n)) :=
  LoopOK.of (num_T n) (num_fns n) follows (j := 1) (n := n) (lo_of (by kernel_rfl : loopsOf 1 num_c0 = []) lo_nil) fun d k => Eq.trans (by kernel_rfl) (num_le0 n d.1.1 d.1.2.2.1 d.1.2.2.2.2.2.2.2.1 k n d.1.2.2.2.1 d.1.2.2.2.2.2.2.2.2.1)
theorem num_eqg (n : Nat) (a0 : (List Int)) (k : AV → List Blk → Option A) : fnK (num_E n) Try.f18 [.pure] [.p (.sl (.int .u8)) a0] [] k = num_p n a0 (fun r0 => k (.p (.int .u64) r0) []) := by kernel_rfl
theorem num_eq (n : Nat) (a0 : (List Int)) (k : AV → List Blk → Option A) : fnK (num_E n) Try.f18 [.pure] [.p (.sl (.int .u8)) a0] [] k = num_k n a0 (fun r0 => k (.p (.int .u64) r0) []) := num_eqg n a0 k
def num_ent (g : (List Int) → (Int → Option A) → Option A) : Entry A := pureE fun args k => args1 args (.sl (.int .u8)) fun a0 => g a0 (fun r0 => k (.p (.int .u64) r0) [])
theorem num_lo (n : Nat) : ∀ c, Try.f18.body = some c → ∀ q ∈ loopsOf 0 c, ∀ L, (num_E (A := A) n).lps.lookup q.1 = some L → LoopOK Try.prog gls q.2 L :=
  lo_body (E := num_E n) (by kernel_rfl : Try.f18.body = some (bodyOf Try.f18)) (lo_of (E := num_E n) (by kernel_rfl : loopsOf 0 (bodyOf Try.f18) = [(0, num_c0)]) (lo_cons rfl (num_lo0 n) lo_nil))
theorem num_ok (n : Nat) : FnOK Try.prog gls 18 (num_ent (A := A) (num_k n)) :=
  FnOK.of (num_T n) (num_fns n) follows ⟨Try.func18, by kernel_rfl⟩ (num_lo n) (rm := [.pure]) fun args k out h => by
    obtain ⟨a0, e, h1⟩ := args1_sound h
    subst e; rw [num_eq]; exact h1

end Go.Ev
