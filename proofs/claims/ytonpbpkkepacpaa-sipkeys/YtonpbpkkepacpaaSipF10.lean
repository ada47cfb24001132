/-
  FUNCTION 10: printed by a program of our own (wip/gen/st.py). 'masthead/mastheadref03.Hash', in continuation form; the evaluator gives it.
-/
import Derived.Test.YtonpbpkkepacpaaSipF19
import Derived.Test.YtonpbpkkepacpaaSipF12
set_option linter.all false
set_option maxRecDepth 100000
namespace Go.Ev
open Go.Proofs
variable {A : Type}

-- ============================================================ rhash (function 10)
def rhash_b1 (g_numbers : (List Int) → ((List Int) → Option A) → Option A) (g_rround : (List Int) → ((List Int) → Option A) → Option A) (n : Nat) (t6 : Int) (k0 : Int → (List Int) → Option A) (r : Int → (List Int) → Option A) (i : Int) (v : (List Int)) : Option A :=
  bif (decide (i < 4)) then
    g_rround v fun r10 =>
    r (IntKind.wrap .i64 (i + 1)) r10
  else
    k0 i v

def rhash_l1 (g_numbers : (List Int) → ((List Int) → Option A) → Option A) (g_rround : (List Int) → ((List Int) → Option A) → Option A) (n : Nat) (t6 : Int) (k0 : Int → (List Int) → Option A) : Nat → Int → (List Int) → Option A
  | 0 => fun _ _ => none
  | f + 1 => rhash_b1 g_numbers g_rround n t6 k0 (rhash_l1 g_numbers g_rround n t6 k0 f)

def rhash_b0 (g_numbers : (List Int) → ((List Int) → Option A) → Option A) (g_rround : (List Int) → ((List Int) → Option A) → Option A) (n : Nat) (t6 : Int) (t22 : Int) (t21 : (List Int)) (k0 : Int → (List Int) → Option A) (r : Int → (List Int) → Option A) (t23 : Int) (v : (List Int)) : Option A :=
  bif (decide (t23 < t22)) then
    if 0 ≤ t23 then
      if t23 < (t21.length : Int) then
        (t21[(Int.toNat t23)]?).bind fun y2 =>
        (v[3]?).bind fun y3 =>
        g_rround (v.set 3 (ixor .u64 y3 y2)) fun r4 =>
        g_rround r4 fun r5 =>
        (r5[0]?).bind fun y6 =>
        r (IntKind.wrap .i64 (t23 + 1)) (r5.set 0 (ixor .u64 y6 y2))
      else none
    else none
  else
    k0 t23 v

def rhash_l0 (g_numbers : (List Int) → ((List Int) → Option A) → Option A) (g_rround : (List Int) → ((List Int) → Option A) → Option A) (n : Nat) (t6 : Int) (t22 : Int) (t21 : (List Int)) (k0 : Int → (List Int) → Option A) : Nat → Int → (List Int) → Option A
  | 0 => fun _ _ => none
  | f + 1 => rhash_b0 g_numbers g_rround n t6 t22 t21 k0 (rhash_l0 g_numbers g_rround n t6 t22 t21 k0 f)

def rhash_p (g_numbers : (List Int) → ((List Int) → Option A) → Option A) (g_rround : (List Int) → ((List Int) → Option A) → Option A) (n : Nat) (a0 : Int) (a1 : Int) (a2 : (List Int)) (k : Int → Option A) : Option A :=
  g_numbers a2 fun r1 =>
  rhash_l0 g_numbers g_rround n 0 (r1.length : Int) r1 (fun y7 y8 =>
    (y8[2]?).bind fun y9 =>
    rhash_l1 g_numbers g_rround n 0 (fun y11 y12 =>
      (y12[0]?).bind fun y13 =>
      (y12[1]?).bind fun y14 =>
      (y12[2]?).bind fun y15 =>
      (y12[3]?).bind fun y16 =>
      k (ixor .u64 (ixor .u64 (ixor .u64 y13 y14) y15) y16)) n 0 (y8.set 2 (ixor .u64 y9 255))) n 0 [(ixor .u64 a0 8317987319222330741), (ixor .u64 a1 7237128888997146477), (ixor .u64 a0 7816392313619706465), (ixor .u64 a1 8387220255154660723)]

def rhash_k (n : Nat) (a0 : Int) (a1 : Int) (a2 : (List Int)) (k : Int → Option A) : Option A := rhash_p (numbers_k n) (rround_k n) n a0 a1 a2 k

noncomputable def rhash_c0 : Code := codeAt [1, 1, 0, 1, 0, 0] (bodyOf Try.f10)
def rhash_d0 : List Nat := [0, 1, 2, 9, 11, 12, 13, 14, 15, 16, 17, 18, 19, 20, 24, 25, 26, 27, 28, 29, 30, 31, 32, 33, 34, 35, 36, 37, 38, 39, 40, 41]
def rhash_sh0 : Shape := ⟨[.any, .any, .any, .any, .any, .any, (.p (.int .u64)), (.ptr 0), .any, .any, .any, .any, .any, .any, .any, .any, .any, .any, .any, .any, .any, (.row 1), (.p (.int .i64)), (.p (.int .i64)), .any, .any, .any, .any, .any, .any, .any, .any, .any, .any, .any, .any, .any, .any, .any, .any, .any, .any, .any, .any, .any, .any, .any, .any, .any, .any, .any, .any, .any, .any, .any, .any, .any, .any, .any, .any, .any, .any, .any], [(.var 29 kT29 (.p kT29)), (.row 22 (.int .u64))], 0⟩
def rhash_t0 (t6 : Int) (t22 : Int) (t21 : (List Int)) (t23 : Int) (v : (List Int)) : rhash_sh0.den := (((), (), (), (), (), (), t6, (), (), (), (), (), (), (), (), (), (), (), (), (), (), (), t22, t23, (), (), (), (), (), (), (), (), (), (), (), (), (), (), (), (), (), (), (), (), (), (), (), (), (), (), (), (), (), (), (), (), (), (), (), (), (), (), (), ()), (v, t21, ()))
def rhash_x0_0 (t6 : Int) (t22 : Int) (t21 : (List Int)) (z2 : Int) (z3 : (List Int)) : St := ⟨[.any, .any, .any, .any, .any, .any, .p (.int .u64) t6, .ptr 0 [], .any, .any, .any, .any, .any, .any, .any, .any, .any, .any, .any, .any, .any, .row 1, .p (.int .i64) t22, .p (.int .i64) z2, .any, .any, .any, .any, .any, .any, .any, .any, .any, .any, .any, .any, .any, .any, .any, .any, .any, .any, .any, .any, .any, .any, .any, .any, .any, .any, .any, .any, .any, .any, .any, .any, .any, .any, .any, .any, .any, .any, .any], [.var 29 kT29 (.p kT29 z3), .row 22 (.int .u64) t21], 0⟩
def rhash_g0 (g_numbers : (List Int) → ((List Int) → Option A) → Option A) (g_rround : (List Int) → ((List Int) → Option A) → Option A) (n : Nat) (d : rhash_sh0.den) (k : Ex → St → Option A) : Option A :=
  rhash_l0 g_numbers g_rround n d.1.2.2.2.2.2.2.1 d.1.2.2.2.2.2.2.2.2.2.2.2.2.2.2.2.2.2.2.2.2.2.2.1 d.2.2.1 (fun z2 z3 => k (.exit 0) (rhash_x0_0 d.1.2.2.2.2.2.2.1 d.1.2.2.2.2.2.2.2.2.2.2.2.2.2.2.2.2.2.2.2.2.2.2.1 d.2.2.1 z2 z3)) n d.1.2.2.2.2.2.2.2.2.2.2.2.2.2.2.2.2.2.2.2.2.2.2.2.1 d.2.1
noncomputable def rhash_c1 : Code := codeAt [1, 1, 1, 1, 0, 1, 0, 0] (bodyOf Try.f10)
def rhash_d1 : List Nat := [21, 22, 23, 42, 43, 44, 45, 46, 47, 48, 49, 50, 51]
def rhash_sh1 : Shape := ⟨[.any, .any, .any, .any, .any, .any, (.p (.int .u64)), (.ptr 0), .any, .any, (.p (.int .i64)), .any, .any, .any, .any, .any, .any, .any, .any, .any, .any, .any, .any, .any, .any, .any, .any, .any, .any, .any, .any, .any, .any, .any, .any, .any, .any, .any, .any, .any, .any, .any, .any, .any, .any, .any, .any, .any, .any, .any, .any, .any, .any, .any, .any, .any, .any, .any, .any, .any, .any, .any, .any], [(.var 29 kT29 (.p kT29))], 0⟩
def rhash_t1 (t6 : Int) (i : Int) (v : (List Int)) : rhash_sh1.den := (((), (), (), (), (), (), t6, (), (), (), i, (), (), (), (), (), (), (), (), (), (), (), (), (), (), (), (), (), (), (), (), (), (), (), (), (), (), (), (), (), (), (), (), (), (), (), (), (), (), (), (), (), (), (), (), (), (), (), (), (), (), (), (), ()), (v, ()))
def rhash_x1_0 (t6 : Int) (z1 : Int) (z2 : (List Int)) : St := ⟨[.any, .any, .any, .any, .any, .any, .p (.int .u64) t6, .ptr 0 [], .any, .any, .p (.int .i64) z1, .any, .any, .any, .any, .any, .any, .any, .any, .any, .any, .any, .any, .any, .any, .any, .any, .any, .any, .any, .any, .any, .any, .any, .any, .any, .any, .any, .any, .any, .any, .any, .any, .any, .any, .any, .any, .any, .any, .any, .any, .any, .any, .any, .any, .any, .any, .any, .any, .any, .any, .any, .any], [.var 29 kT29 (.p kT29 z2)], 0⟩
def rhash_g1 (g_numbers : (List Int) → ((List Int) → Option A) → Option A) (g_rround : (List Int) → ((List Int) → Option A) → Option A) (n : Nat) (d : rhash_sh1.den) (k : Ex → St → Option A) : Option A :=
  rhash_l1 g_numbers g_rround n d.1.2.2.2.2.2.2.1 (fun z1 z2 => k (.exit 2) (rhash_x1_0 d.1.2.2.2.2.2.2.1 z1 z2)) n d.1.2.2.2.2.2.2.2.2.2.2.1 d.2.1
noncomputable def rhash_E (g_numbers : (List Int) → ((List Int) → Option A) → Option A) (g_rround : (List Int) → ((List Int) → Option A) → Option A) (n : Nat) : Env A := ⟨tys, gls, [(19, numbers_ent g_numbers), (12, rround_ent g_rround)], [(0, loopE rhash_d0 rhash_sh0 (rhash_g0 g_numbers g_rround n)), (1, loopE rhash_d1 rhash_sh1 (rhash_g1 g_numbers g_rround n))]⟩
theorem rhash_T (g_numbers : (List Int) → ((List Int) → Option A) → Option A) (g_rround : (List Int) → ((List Int) → Option A) → Option A) (n : Nat) : TyOK Try.prog (rhash_E g_numbers g_rround n) := tyOK_of rfl tysB
theorem rhash_fns (n : Nat) : FnsOK Try.prog (rhash_E (A := A) (numbers_k n) (rround_k n) n) := AllOK.env rfl rfl (AllOK.cons (numbers_ok n) (AllOK.cons (rround_ok n) AllOK.nil))
noncomputable def rhash_LK1 (g_numbers : (List Int) → ((List Int) → Option A) → Option A) (g_rround : (List Int) → ((List Int) → Option A) → Option A) (n : Nat) (t6 : Int) (k : Ex → St → Option A) (f : Nat) (i : Int) (v : (List Int)) : Option A := loopK (codeK (rhash_E g_numbers g_rround n) 2 rhash_c1) rhash_d1 f (rhash_sh1.fill (rhash_t1 t6 i v)) k
theorem rhash_st1 (g_numbers : (List Int) → ((List Int) → Option A) → Option A) (g_rround : (List Int) → ((List Int) → Option A) → Option A) (n f : Nat) (t6 : Int) (k : Ex → St → Option A) (i : Int) (v : (List Int)) : rhash_LK1 g_numbers g_rround n t6 k (f + 1) i v = rhash_b1 g_numbers g_rround n t6 (fun z1 z2 => k (.exit 2) (rhash_x1_0 t6 z1 z2)) (rhash_LK1 g_numbers g_rround n t6 k f) i v := by kernel_rfl
theorem rhash_le1 (g_numbers : (List Int) → ((List Int) → Option A) → Option A) (g_rround : (List Int) → ((List Int) → Option A) → Option A) (n : Nat) (t6 : Int) (k : Ex → St → Option A) : ∀ (f : Nat) (i : Int) (v : (List Int)), rhash_LK1 g_numbers g_rround n t6 k f i v = rhash_l1 g_numbers g_rround n t6 (fun z1 z2 => k (.exit 2) (rhash_x1_0 t6 z1 z2)) f i v := by
  intro f
  induction f with
  | zero => intros; kernel_rfl
  | succ f ih => intro i v; exact (rhash_st1 g_numbers g_rround n f t6 k i v).trans ((congrArg (fun r => rhash_b1 g_numbers g_rround n t6 (fun z1 z2 => k (.exit 2) (rhash_x1_0 t6 z1 z2)) r i v) (funext fun i => funext fun v => ih i v)).trans (by kernel_rfl))
theorem rhash_lo1 (n : Nat) : LoopOK Try.prog gls rhash_c1 (loopE rhash_d1 rhash_sh1 (rhash_g1 (A := A) (numbers_k n) (rround_k n) n)) :=
  LoopOK.of (rhash_T (numbers_k n) (rround_k n) n) (rhash_fns n) follows (j := 2) (n := n) (lo_of (by kernel_rfl : loopsOf 2 rhash_c1 = []) lo_nil) fun d k => Eq.trans (by kernel_rfl) (rhash_le1 (numbers_k n) (rround_k n) n d.1.2.2.2.2.2.2.1 k n d.1.2.2.2.2.2.2.2.2.2.2.1 d.2.1)
noncomputable def rhash_LK0 (g_numbers : (List Int) → ((List Int) → Option A) → Option A) (g_rround : (List Int) → ((List Int) → Option A) → Option A) (n : Nat) (t6 : Int) (t22 : Int) (t21 : (List Int)) (k : Ex → St → Option A) (f : Nat) (t23 : Int) (v : (List Int)) : Option A := loopK (codeK (rhash_E g_numbers g_rround n) 1 rhash_c0) rhash_d0 f (rhash_sh0.fill (rhash_t0 t6 t22 t21 t23 v)) k
theorem rhash_st0 (g_numbers : (List Int) → ((List Int) → Option A) → Option A) (g_rround : (List Int) → ((List Int) → Option A) → Option A) (n f : Nat) (t6 : Int) (t22 : Int) (t21 : (List Int)) (k : Ex → St → Option A) (t23 : Int) (v : (List Int)) : rhash_LK0 g_numbers g_rround n t6 t22 t21 k (f + 1) t23 v = rhash_b0 g_numbers g_rround n t6 t22 t21 (fun z2 z3 => k (.exit 0) (rhash_x0_0 t6 t22 t21 z2 z3)) (rhash_LK0 g_numbers g_rround n t6 t22 t21 k f) t23 v := by kernel_rfl
theorem rhash_le0 (g_numbers : (List Int) → ((List Int) → Option A) → Option A) (g_rround : (List Int) → ((List Int) → Option A) → Option A) (n : Nat) (t6 : Int) (t22 : Int) (t21 : (List Int)) (k : Ex → St → Option A) : ∀ (f : Nat) (t23 : Int) (v : (List Int)), rhash_LK0 g_numbers g_rround n t6 t22 t21 k f t23 v = rhash_l0 g_numbers g_rround n t6 t22 t21 (fun z2 z3 => k (.exit 0) (rhash_x0_0 t6 t22 t21 z2 z3)) f t23 v := by
  intro f
  induction f with
  | zero => intros; kernel_rfl
  | succ f ih => intro t23 v; exact (rhash_st0 g_numbers g_rround n f t6 t22 t21 k t23 v).trans ((congrArg (fun r => rhash_b0 g_numbers g_rround n t6 t22 t21 (fun z2 z3 => k (.exit 0) (rhash_x0_0 t6 t22 t21 z2 z3)) r t23 v) (funext fun t23 => funext fun v => ih t23 v)).trans (by kernel_rfl))
theorem rhash_lo0 (n : Nat) : LoopOK Try.prog gls rhash_c0 (loopE rhash_d0 rhash_sh0 (rhash_g0 (A := A) (numbers_k n) (rround_k n) n)) :=
  LoopOK.of (rhash_T (numbers_k n) (rround_k n) n) (rhash_fns n) follows (j := 1) (n := n) (lo_of (by kernel_rfl : loopsOf 1 rhash_c0 = []) lo_nil) fun d k => Eq.trans (by kernel_rfl) (rhash_le0 (numbers_k n) (rround_k n) n d.1.2.2.2.2.2.2.1 d.1.2.2.2.2.2.2.2.2.2.2.2.2.2.2.2.2.2.2.2.2.2.2.1 d.2.2.1 k n d.1.2.2.2.2.2.2.2.2.2.2.2.2.2.2.2.2.2.2.2.2.2.2.2.1 d.2.1)
theorem rhash_eqg (g_numbers : (List Int) → ((List Int) → Option A) → Option A) (g_rround : (List Int) → ((List Int) → Option A) → Option A) (n : Nat) (a0 : Int) (a1 : Int) (a2 : (List Int)) (k : AV → List Blk → Option A) : fnK (rhash_E g_numbers g_rround n) Try.f10 [.pure] [.p (.int .u64) a0, .p (.int .u64) a1, .p (.sl (.int .u8)) a2] [] k = rhash_p g_numbers g_rround n a0 a1 a2 (fun r0 => k (.p (.int .u64) r0) []) := by kernel_rfl
theorem rhash_eq (n : Nat) (a0 : Int) (a1 : Int) (a2 : (List Int)) (k : AV → List Blk → Option A) : fnK (rhash_E (numbers_k n) (rround_k n) n) Try.f10 [.pure] [.p (.int .u64) a0, .p (.int .u64) a1, .p (.sl (.int .u8)) a2] [] k = rhash_k n a0 a1 a2 (fun r0 => k (.p (.int .u64) r0) []) := rhash_eqg (numbers_k n) (rround_k n) n a0 a1 a2 k
def rhash_ent (g : Int → Int → (List Int) → (Int → Option A) → Option A) : Entry A := pureE fun args k => args3 args (.int .u64) (.int .u64) (.sl (.int .u8)) fun a0 a1 a2 => g a0 a1 a2 (fun r0 => k (.p (.int .u64) r0) [])
theorem rhash_lo (n : Nat) : ∀ c, Try.f10.body = some c → ∀ q ∈ loopsOf 0 c, ∀ L, (rhash_E (A := A) (numbers_k n) (rround_k n) n).lps.lookup q.1 = some L → LoopOK Try.prog gls q.2 L :=
  lo_body (E := rhash_E (numbers_k n) (rround_k n) n) (by kernel_rfl : Try.f10.body = some (bodyOf Try.f10)) (lo_of (E := rhash_E (numbers_k n) (rround_k n) n) (by kernel_rfl : loopsOf 0 (bodyOf Try.f10) = [(0, rhash_c0), (1, rhash_c1)]) (lo_cons rfl (rhash_lo0 n) (lo_cons rfl (rhash_lo1 n) lo_nil)))
theorem rhash_ok (n : Nat) : FnOK Try.prog gls 10 (rhash_ent (A := A) (rhash_k n)) :=
  FnOK.of (rhash_T (numbers_k n) (rround_k n) n) (rhash_fns n) follows ⟨Try.func10, by kernel_rfl⟩ (rhash_lo n) (rm := [.pure]) fun args k out h => by
    obtain ⟨a0, a1, a2, e, h1⟩ := args3_sound h
    subst e; rw [rhash_eq]; exact h1

end Go.Ev
