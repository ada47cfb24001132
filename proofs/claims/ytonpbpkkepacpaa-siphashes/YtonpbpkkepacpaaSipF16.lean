/-
  FUNCTION 16: printed by a program of our own (wip/gen/st.py). 'masthead/mastheadref01.Value', in continuation form; the evaluator gives it.
-/
import Derived.Test.YtonpbpkkepacpaaSipT
set_option linter.all false
set_option maxRecDepth 100000
namespace Go.Ev
open Go.Proofs
variable {A : Type}

-- ============================================================ value (function 16)
def value_b0 (n : Nat) (b : (List Int)) (t2 : Int) (k0 : Int → Int → Option A) (r : Int → Int → Option A) (n_ : Int) (i : Int) : Option A :=
  bif (decide (i ≥ 0)) then
    bif (decide (i < 8)) then
      if 0 ≤ i then
        (b[(Int.toNat i)]?).bind fun y1 =>
        r (IntKind.wrap .u64 ((IntKind.wrap .u64 (n_ * 256)) + (IntKind.wrap .u64 y1))) (IntKind.wrap .i64 (i - 1))
      else none
    else
      r n_ (IntKind.wrap .i64 (i - 1))
  else
    k0 n_ i

def value_l0 (n : Nat) (b : (List Int)) (t2 : Int) (k0 : Int → Int → Option A) : Nat → Int → Int → Option A
  | 0 => fun _ _ => none
  | f + 1 => value_b0 n b t2 k0 (value_l0 n b t2 k0 f)

def value_p (n : Nat) (a0 : (List Int)) (k : Int → Option A) : Option A :=
  value_l0 n a0 0 (fun y2 y3 =>
    k y2) n 0 (IntKind.wrap .i64 ((a0.length : Int) - 1))

def value_k (n : Nat) (a0 : (List Int)) (k : Int → Option A) : Option A := value_p n a0 k

noncomputable def value_c0 : Code := codeAt [1, 1, 0, 1, 0, 0] (bodyOf Try.f16)
def value_d0 : List Nat := [5, 6, 7, 8, 9, 10, 11, 12, 13, 14, 15, 16, 17, 18, 19, 20, 21]
def value_sh0 : Shape := ⟨[(.p (.sl (.int .u8))), .any, (.p (.int .u64)), (.p (.int .u64)), (.p (.int .i64)), .any, .any, .any, .any, .any, .any, .any, .any, .any, .any, .any, .any, .any, .any, .any, .any, .any, .any], [], 0⟩
def value_t0 (b : (List Int)) (t2 : Int) (n_ : Int) (i : Int) : value_sh0.den := ((b, (), t2, n_, i, (), (), (), (), (), (), (), (), (), (), (), (), (), (), (), (), (), (), ()), ())
def value_x0_0 (b : (List Int)) (t2 : Int) (z2 : Int) (z3 : Int) : St := ⟨[.p (.sl (.int .u8)) b, .any, .p (.int .u64) t2, .p (.int .u64) z2, .p (.int .i64) z3, .any, .any, .any, .any, .any, .any, .any, .any, .any, .any, .any, .any, .any, .any, .any, .any, .any, .any], [], 0⟩
def value_g0 (n : Nat) (d : value_sh0.den) (k : Ex → St → Option A) : Option A :=
  value_l0 n d.1.1 d.1.2.2.1 (fun z2 z3 => k (.exit 0) (value_x0_0 d.1.1 d.1.2.2.1 z2 z3)) n d.1.2.2.2.1 d.1.2.2.2.2.1
noncomputable def value_E (n : Nat) : Env A := ⟨tys, gls, [], [(0, loopE value_d0 value_sh0 (value_g0 n))]⟩
theorem value_T {A : Type} (n : Nat) : TyOK Try.prog (value_E (A := A) n) := tyOK_of rfl tysB
theorem value_fns (n : Nat) : FnsOK Try.prog (value_E (A := A) n) := AllOK.env rfl rfl AllOK.nil
noncomputable def value_LK0 (n : Nat) (b : (List Int)) (t2 : Int) (k : Ex → St → Option A) (f : Nat) (n_ : Int) (i : Int) : Option A := loopK (codeK (value_E n) 1 value_c0) value_d0 f (value_sh0.fill (value_t0 b t2 n_ i)) k
theorem value_st0 (n f : Nat) (b : (List Int)) (t2 : Int) (k : Ex → St → Option A) (n_ : Int) (i : Int) : value_LK0 n b t2 k (f + 1) n_ i = value_b0 n b t2 (fun z2 z3 => k (.exit 0) (value_x0_0 b t2 z2 z3)) (value_LK0 n b t2 k f) n_ i := by kernel_rfl
theorem value_le0 (n : Nat) (b : (List Int)) (t2 : Int) (k : Ex → St → Option A) : ∀ (f : Nat) (n_ : Int) (i : Int), value_LK0 n b t2 k f n_ i = value_l0 n b t2 (fun z2 z3 => k (.exit 0) (value_x0_0 b t2 z2 z3)) f n_ i := by
  intro f
  induction f with
  | zero => intros; kernel_rfl
  | succ f ih => intro n_ i; exact (value_st0 n f b t2 k n_ i).trans ((congrArg (fun r => value_b0 n b t2 (fun z2 z3 => k (.exit 0) (value_x0_0 b t2 z2 z3)) r n_ i) (funext fun n_ => funext fun i => ih n_ i)).trans (by kernel_rfl))
theorem value_lo0 (n : Nat) : LoopOK Try.prog gls value_c0 (loopE value_d0 value_sh0 (value_g0 (A := A) n)) :=
  LoopOK.of (value_T n) (value_fns n) follows (j := 1) (n := n) (lo_of (by kernel_rfl : loopsOf 1 value_c0 = []) lo_nil) fun d k => Eq.trans (by kernel_rfl) (value_le0 n d.1.1 d.1.2.2.1 k n d.1.2.2.2.1 d.1.2.2.2.2.1)
theorem value_eqg (n : Nat) (a0 : (List Int)) (k : AV → List Blk → Option A) : fnK (value_E n) Try.f16 [.pure] [.p (.sl (.int .u8)) a0] [] k = value_p n a0 (fun r0 => k (.p (.int .u64) r0) []) := by kernel_rfl
theorem value_eq (n : Nat) (a0 : (List Int)) (k : AV → List Blk → Option A) : fnK (value_E n) Try.f16 [.pure] [.p (.sl (.int .u8)) a0] [] k = value_k n a0 (fun r0 => k (.p (.int .u64) r0) []) := value_eqg n a0 k
def value_ent (g : (List Int) → (Int → Option A) → Option A) : Entry A := pureE fun args k => args1 args (.sl (.int .u8)) fun a0 => g a0 (fun r0 => k (.p (.int .u64) r0) [])
theorem value_lo (n : Nat) : ∀ c, Try.f16.body = some c → ∀ q ∈ loopsOf 0 c, ∀ L, (value_E (A := A) n).lps.lookup q.1 = some L → LoopOK Try.prog gls q.2 L :=
  lo_body (E := value_E n) (by kernel_rfl : Try.f16.body = some (bodyOf Try.f16)) (lo_of (E := value_E n) (by kernel_rfl : loopsOf 0 (bodyOf Try.f16) = [(0, value_c0)]) (lo_cons rfl (value_lo0 n) lo_nil))
theorem value_ok (n : Nat) : FnOK Try.prog gls 16 (value_ent (A := A) (value_k n)) :=
  FnOK.of (value_T n) (value_fns n) follows ⟨Try.func16, by kernel_rfl⟩ (value_lo n) (rm := [.pure]) fun args k out h => by
    obtain ⟨a0, e, h1⟩ := args1_sound h
    subst e; rw [value_eq]; exact h1

end Go.Ev
