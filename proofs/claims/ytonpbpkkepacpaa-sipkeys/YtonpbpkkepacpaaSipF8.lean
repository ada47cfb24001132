/-
  FUNCTION 8: printed by a program of our own (wip/gen/st.py). 'masthead/mastheadlaw03.awake', in continuation form; the evaluator gives it.
-/
import Derived.Test.YtonpbpkkepacpaaSipF9
import Derived.Test.YtonpbpkkepacpaaSipF13
set_option linter.all false
set_option maxRecDepth 100000
namespace Go.Ev
open Go.Proofs
variable {A : Type}

-- ============================================================ awake (function 8)
def awake_b0 (g_hash : (List Int) → (List Int) → (Int → Option A) → Option A) (g_range_ : Int → Int → (Int → Option A) → Option A) (n : Nat) (t0 : Bool) (t5 : Int) (k0 : Int → (List Int) → Option A) (r : Int → (List Int) → Option A) (t6 : Int) (b : (List Int)) : Option A :=
  bif (decide (t6 < t5)) then
    if 0 ≤ t6 then
      if t6 < (b.length : Int) then
        if (Int.toNat t6) < b.length then
          r (IntKind.wrap .i64 (t6 + 1)) (b.set (Int.toNat t6) (IntKind.wrap .u8 t6))
        else none
      else none
    else none
  else
    k0 t6 b

def awake_l0 (g_hash : (List Int) → (List Int) → (Int → Option A) → Option A) (g_range_ : Int → Int → (Int → Option A) → Option A) (n : Nat) (t0 : Bool) (t5 : Int) (k0 : Int → (List Int) → Option A) : Nat → Int → (List Int) → Option A
  | 0 => fun _ _ => none
  | f + 1 => awake_b0 g_hash g_range_ n t0 t5 k0 (awake_l0 g_hash g_range_ n t0 t5 k0 f)

def awake_p (g_hash : (List Int) → (List Int) → (Int → Option A) → Option A) (g_range_ : Int → Int → (Int → Option A) → Option A) (n : Nat) (k : Bool → Option A) : Option A :=
  awake_l0 g_hash g_range_ n false ((List.replicate 15 0).length : Int) (fun y1 y2 =>
    g_hash [506097522914230528, 1084818905618843912] y2 fun r3 =>
    bif (r3 == 11613035633349379557) then
      g_range_ 9223372036854775808 10 fun r4 =>
      k (r4 == 5)
    else
      k false) n 0 (List.replicate 15 0)

def awake_k (n : Nat) (k : Bool → Option A) : Option A := awake_p (hash_k n) (range__k n) n k

noncomputable def awake_c0 : Code := codeAt [1, 1, 0, 1, 0, 0] (bodyOf Try.f8)
def awake_d0 : List Nat := [2, 3, 4, 7, 8, 9, 10, 11, 12, 13, 14]
def awake_sh0 : Shape := ⟨[(.p .bool), (.row 0), .any, .any, .any, (.p (.int .i64)), (.p (.int .i64)), .any, .any, .any, .any, .any, .any, .any, .any, .any, .any, .any, .any, .any, .any, .any, .any], [(.row 5 (.int .u8))], 0⟩
def awake_t0 (t0 : Bool) (t5 : Int) (t6 : Int) (b : (List Int)) : awake_sh0.den := ((t0, (), (), (), (), t5, t6, (), (), (), (), (), (), (), (), (), (), (), (), (), (), (), (), ()), (b, ()))
def awake_x0_0 (t0 : Bool) (t5 : Int) (z2 : Int) (z3 : (List Int)) : St := ⟨[.p .bool t0, .row 0, .any, .any, .any, .p (.int .i64) t5, .p (.int .i64) z2, .any, .any, .any, .any, .any, .any, .any, .any, .any, .any, .any, .any, .any, .any, .any, .any], [.row 5 (.int .u8) z3], 0⟩
def awake_g0 (g_hash : (List Int) → (List Int) → (Int → Option A) → Option A) (g_range_ : Int → Int → (Int → Option A) → Option A) (n : Nat) (d : awake_sh0.den) (k : Ex → St → Option A) : Option A :=
  awake_l0 g_hash g_range_ n d.1.1 d.1.2.2.2.2.2.1 (fun z2 z3 => k (.exit 0) (awake_x0_0 d.1.1 d.1.2.2.2.2.2.1 z2 z3)) n d.1.2.2.2.2.2.2.1 d.2.1
noncomputable def awake_E (g_hash : (List Int) → (List Int) → (Int → Option A) → Option A) (g_range_ : Int → Int → (Int → Option A) → Option A) (n : Nat) : Env A := ⟨tys, gls, [(9, hash_ent g_hash), (13, range__ent g_range_)], [(0, loopE awake_d0 awake_sh0 (awake_g0 g_hash g_range_ n))]⟩
theorem awake_T (g_hash : (List Int) → (List Int) → (Int → Option A) → Option A) (g_range_ : Int → Int → (Int → Option A) → Option A) (n : Nat) : TyOK Try.prog (awake_E g_hash g_range_ n) := tyOK_of rfl tysB
theorem awake_fns (n : Nat) : FnsOK Try.prog (awake_E (A := A) (hash_k n) (range__k n) n) := AllOK.env rfl rfl (AllOK.cons (hash_ok n) (AllOK.cons (range__ok n) AllOK.nil))
noncomputable def awake_LK0 (g_hash : (List Int) → (List Int) → (Int → Option A) → Option A) (g_range_ : Int → Int → (Int → Option A) → Option A) (n : Nat) (t0 : Bool) (t5 : Int) (k : Ex → St → Option A) (f : Nat) (t6 : Int) (b : (List Int)) : Option A := loopK (codeK (awake_E g_hash g_range_ n) 1 awake_c0) awake_d0 f (awake_sh0.fill (awake_t0 t0 t5 t6 b)) k
theorem awake_st0 (g_hash : (List Int) → (List Int) → (Int → Option A) → Option A) (g_range_ : Int → Int → (Int → Option A) → Option A) (n f : Nat) (t0 : Bool) (t5 : Int) (k : Ex → St → Option A) (t6 : Int) (b : (List Int)) : awake_LK0 g_hash g_range_ n t0 t5 k (f + 1) t6 b = awake_b0 g_hash g_range_ n t0 t5 (fun z2 z3 => k (.exit 0) (awake_x0_0 t0 t5 z2 z3)) (awake_LK0 g_hash g_range_ n t0 t5 k f) t6 b := by kernel_rfl
theorem awake_le0 (g_hash : (List Int) → (List Int) → (Int → Option A) → Option A) (g_range_ : Int → Int → (Int → Option A) → Option A) (n : Nat) (t0 : Bool) (t5 : Int) (k : Ex → St → Option A) : ∀ (f : Nat) (t6 : Int) (b : (List Int)), awake_LK0 g_hash g_range_ n t0 t5 k f t6 b = awake_l0 g_hash g_range_ n t0 t5 (fun z2 z3 => k (.exit 0) (awake_x0_0 t0 t5 z2 z3)) f t6 b := by
  intro f
  induction f with
  | zero => intros; kernel_rfl
  | succ f ih => intro t6 b; exact (awake_st0 g_hash g_range_ n f t0 t5 k t6 b).trans ((congrArg (fun r => awake_b0 g_hash g_range_ n t0 t5 (fun z2 z3 => k (.exit 0) (awake_x0_0 t0 t5 z2 z3)) r t6 b) (funext fun t6 => funext fun b => ih t6 b)).trans (by kernel_rfl))
theorem awake_lo0 (n : Nat) : LoopOK Try.prog gls awake_c0 (loopE awake_d0 awake_sh0 (awake_g0 (A := A) (hash_k n) (range__k n) n)) :=
  LoopOK.of (awake_T (hash_k n) (range__k n) n) (awake_fns n) follows (j := 1) (n := n) (lo_of (by kernel_rfl : loopsOf 1 awake_c0 = []) lo_nil) fun d k => Eq.trans (by kernel_rfl) (awake_le0 (hash_k n) (range__k n) n d.1.1 d.1.2.2.2.2.2.1 k n d.1.2.2.2.2.2.2.1 d.2.1)
theorem awake_eqg (g_hash : (List Int) → (List Int) → (Int → Option A) → Option A) (g_range_ : Int → Int → (Int → Option A) → Option A) (n : Nat) (k : AV → List Blk → Option A) : fnK (awake_E g_hash g_range_ n) Try.f8 [.pure] [] [] k = awake_p g_hash g_range_ n (fun r0 => k (.p .bool r0) []) := by kernel_rfl
theorem awake_eq (n : Nat) (k : AV → List Blk → Option A) : fnK (awake_E (hash_k n) (range__k n) n) Try.f8 [.pure] [] [] k = awake_k n (fun r0 => k (.p .bool r0) []) := awake_eqg (hash_k n) (range__k n) n k
def awake_ent (g : (Bool → Option A) → Option A) : Entry A := pureE fun args k => args0 args (g (fun r0 => k (.p .bool r0) []))
theorem awake_lo (n : Nat) : ∀ c, Try.f8.body = some c → ∀ q ∈ loopsOf 0 c, ∀ L, (awake_E (A := A) (hash_k n) (range__k n) n).lps.lookup q.1 = some L → LoopOK Try.prog gls q.2 L :=
  lo_body (E := awake_E (hash_k n) (range__k n) n) (by kernel_rfl : Try.f8.body = some (bodyOf Try.f8)) (lo_of (E := awake_E (hash_k n) (range__k n) n) (by kernel_rfl : loopsOf 0 (bodyOf Try.f8) = [(0, awake_c0)]) (lo_cons rfl (awake_lo0 n) lo_nil))
theorem awake_ok (n : Nat) : FnOK Try.prog gls 8 (awake_ent (A := A) (awake_k n)) :=
  FnOK.of (awake_T (hash_k n) (range__k n) n) (awake_fns n) follows ⟨Try.func8, by kernel_rfl⟩ (awake_lo n) (rm := [.pure]) fun args k out h => by
    obtain ⟨e, h1⟩ := args0_sound h
    subst e; rw [awake_eq]; exact h1

end Go.Ev
