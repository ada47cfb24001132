import Derived.Test.YtelhickgimgbaaaB6
import Derived.Test.YtelhickgimgbaaaB5
set_option linter.all false
section
/-
  FUNCTION 27: printed by a program of our own (wip/gen/st.py). 'masthead/mastheadref18.Lasted', in continuation form; the evaluator gives it.
-/
set_option linter.all false
set_option maxRecDepth 100000
namespace Go.Ev
open Go.Proofs
variable {A : Type}

-- ============================================================ rlasted (function 27)
def rlasted_p (g_held : Int → (Int → Option A) → Option A) (n : Nat) (a0 : Int) (a1 : Int) (a2 : Int) (a3 : Int) (k : Int → Option A) : Option A :=
  g_held a0 fun r1 =>
  g_held a1 fun r2 =>
  bif (decide ((IntKind.wrap .i64 ((IntKind.wrap .i64 a3) - (IntKind.wrap .i64 a2))) < (IntKind.wrap .i64 (Int.tdiv (IntKind.wrap .i64 (r1 * r2)) 4)))) then
    bif (decide ((IntKind.wrap .i64 (Int.tdiv (IntKind.wrap .i64 (r1 * r2)) 4)) < 1)) then
      bif (decide (1 > (IntKind.wrap .i64 (4 * (IntKind.wrap .i64 (r1 * r2)))))) then
        k (IntKind.wrap .i64 (4 * (IntKind.wrap .i64 (r1 * r2))))
      else
        k 1
    else
      bif (decide ((IntKind.wrap .i64 (Int.tdiv (IntKind.wrap .i64 (r1 * r2)) 4)) > (IntKind.wrap .i64 (4 * (IntKind.wrap .i64 (r1 * r2)))))) then
        k (IntKind.wrap .i64 (4 * (IntKind.wrap .i64 (r1 * r2))))
      else
        k (IntKind.wrap .i64 (Int.tdiv (IntKind.wrap .i64 (r1 * r2)) 4))
  else
    bif (decide ((IntKind.wrap .i64 ((IntKind.wrap .i64 a3) - (IntKind.wrap .i64 a2))) < 1)) then
      bif (decide (1 > (IntKind.wrap .i64 (4 * (IntKind.wrap .i64 (r1 * r2)))))) then
        k (IntKind.wrap .i64 (4 * (IntKind.wrap .i64 (r1 * r2))))
      else
        k 1
    else
      bif (decide ((IntKind.wrap .i64 ((IntKind.wrap .i64 a3) - (IntKind.wrap .i64 a2))) > (IntKind.wrap .i64 (4 * (IntKind.wrap .i64 (r1 * r2)))))) then
        k (IntKind.wrap .i64 (4 * (IntKind.wrap .i64 (r1 * r2))))
      else
        k (IntKind.wrap .i64 ((IntKind.wrap .i64 a3) - (IntKind.wrap .i64 a2)))

def rlasted_k (n : Nat) (a0 : Int) (a1 : Int) (a2 : Int) (a3 : Int) (k : Int → Option A) : Option A := rlasted_p (held_k n) n a0 a1 a2 a3 k

noncomputable def rlasted_E (g_held : Int → (Int → Option A) → Option A) (n : Nat) : Env A := ⟨tys, gls, [(29, held_ent g_held)], [], []⟩
theorem rlasted_T (g_held : Int → (Int → Option A) → Option A) (n : Nat) : TyOK Try.prog (rlasted_E g_held n) := tyOK_of rfl tysB
theorem rlasted_fns (n : Nat) : FnsOK Try.prog (rlasted_E (A := A) (held_k n) n) := AllOK.env rfl rfl (AllOK.cons (held_ok n) AllOK.nil)
theorem rlasted_eqg (g_held : Int → (Int → Option A) → Option A) (n : Nat) (a0 : Int) (a1 : Int) (a2 : Int) (a3 : Int) (k : AV → List Blk → Option A) : fnK (rlasted_E g_held n) Try.f27 [.pure] [.p (.int .i64) a0, .p (.int .i64) a1, .p (.int .u32) a2, .p (.int .u32) a3] [] k = rlasted_p g_held n a0 a1 a2 a3 (fun r0 => k (.p (.int .i64) r0) []) := by kernel_rfl
theorem rlasted_eq (n : Nat) (a0 : Int) (a1 : Int) (a2 : Int) (a3 : Int) (k : AV → List Blk → Option A) : fnK (rlasted_E (held_k n) n) Try.f27 [.pure] [.p (.int .i64) a0, .p (.int .i64) a1, .p (.int .u32) a2, .p (.int .u32) a3] [] k = rlasted_k n a0 a1 a2 a3 (fun r0 => k (.p (.int .i64) r0) []) := rlasted_eqg (held_k n) n a0 a1 a2 a3 k
def rlasted_ent (g : Int → Int → Int → Int → (Int → Option A) → Option A) : Entry A := pureE fun args k => args4 args (.int .i64) (.int .i64) (.int .u32) (.int .u32) fun a0 a1 a2 a3 => g a0 a1 a2 a3 (fun r0 => k (.p (.int .i64) r0) [])
theorem rlasted_lo (n : Nat) : ∀ c, Try.f27.body = some c → ∀ q ∈ loopsOf 0 c, ∀ L, (rlasted_E (A := A) (held_k n) n).lps.lookup q.1 = some L → LoopOK Try.prog gls q.2 L :=
  lo_body (E := rlasted_E (held_k n) n) (by kernel_rfl : Try.f27.body = some (bodyOf Try.f27)) (lo_of (E := rlasted_E (held_k n) n) (by kernel_rfl : loopsOf 0 (bodyOf Try.f27) = []) lo_nil)
theorem rlasted_ok (n : Nat) : FnOK Try.prog gls 27 (rlasted_ent (A := A) (rlasted_k n)) :=
  FnOK.of (rlasted_T (held_k n) n) (rlasted_fns n) follows ⟨Try.func27, by kernel_rfl⟩ (rlasted_lo n) (rm := [.pure]) fun args k out h => by
    obtain ⟨a0, a1, a2, a3, e, h1⟩ := args4_sound h
    subst e; rw [rlasted_eq]; exact h1

end Go.Ev
end

section
/-
  FUNCTION 54: printed by a program of our own (wip/gen/st.py). 'math/bits.Mul64', in continuation form; the evaluator gives it.
-/
set_option linter.all false
set_option maxRecDepth 100000
namespace Go.Ev
open Go.Proofs
variable {A : Type}

-- ============================================================ mul64 (function 54)
def mul64_p (n : Nat) (a0 : Int) (a1 : Int) (k : Int → Int → Option A) : Option A :=
  k (IntKind.wrap .u64 ((IntKind.wrap .u64 ((IntKind.wrap .u64 ((shr .u64 a0 32) * (shr .u64 a1 32))) + (shr .u64 (IntKind.wrap .u64 ((IntKind.wrap .u64 ((shr .u64 a0 32) * (iand .u64 a1 4294967295))) + (shr .u64 (IntKind.wrap .u64 ((iand .u64 a0 4294967295) * (iand .u64 a1 4294967295))) 32))) 32))) + (shr .u64 (IntKind.wrap .u64 ((iand .u64 (IntKind.wrap .u64 ((IntKind.wrap .u64 ((shr .u64 a0 32) * (iand .u64 a1 4294967295))) + (shr .u64 (IntKind.wrap .u64 ((iand .u64 a0 4294967295) * (iand .u64 a1 4294967295))) 32))) 4294967295) + (IntKind.wrap .u64 ((iand .u64 a0 4294967295) * (shr .u64 a1 32))))) 32))) (IntKind.wrap .u64 (a0 * a1))

def mul64_k (n : Nat) (a0 : Int) (a1 : Int) (k : Int → Int → Option A) : Option A := mul64_p n a0 a1 k

noncomputable def mul64_E (n : Nat) : Env A := ⟨tys, gls, [], [], []⟩
theorem mul64_T {A : Type} (n : Nat) : TyOK Try.prog (mul64_E (A := A) n) := tyOK_of rfl tysB
theorem mul64_fns (n : Nat) : FnsOK Try.prog (mul64_E (A := A) n) := AllOK.env rfl rfl AllOK.nil
theorem mul64_eqg (n : Nat) (a0 : Int) (a1 : Int) (k : AV → List Blk → Option A) : fnK (mul64_E n) Try.f54 [.pure, .pure] [.p (.int .u64) a0, .p (.int .u64) a1] [] k = mul64_p n a0 a1 (fun r0 r1 => k (.tup [.p (.int .u64) r0, .p (.int .u64) r1]) []) := by kernel_rfl
theorem mul64_eq (n : Nat) (a0 : Int) (a1 : Int) (k : AV → List Blk → Option A) : fnK (mul64_E n) Try.f54 [.pure, .pure] [.p (.int .u64) a0, .p (.int .u64) a1] [] k = mul64_k n a0 a1 (fun r0 r1 => k (.tup [.p (.int .u64) r0, .p (.int .u64) r1]) []) := mul64_eqg n a0 a1 k
def mul64_ent (g : Int → Int → (Int → Int → Option A) → Option A) : Entry A := pureE fun args k => args2 args (.int .u64) (.int .u64) fun a0 a1 => g a0 a1 (fun r0 r1 => k (.tup [.p (.int .u64) r0, .p (.int .u64) r1]) [])
theorem mul64_lo (n : Nat) : ∀ c, Try.f54.body = some c → ∀ q ∈ loopsOf 0 c, ∀ L, (mul64_E (A := A) n).lps.lookup q.1 = some L → LoopOK Try.prog gls q.2 L :=
  lo_body (E := mul64_E n) (by kernel_rfl : Try.f54.body = some (bodyOf Try.f54)) (lo_of (E := mul64_E n) (by kernel_rfl : loopsOf 0 (bodyOf Try.f54) = []) lo_nil)
theorem mul64_ok (n : Nat) : FnOK Try.prog gls 54 (mul64_ent (A := A) (mul64_k n)) :=
  FnOK.of (mul64_T n) (mul64_fns n) follows ⟨Try.func54, by kernel_rfl⟩ (mul64_lo n) (rm := [.pure, .pure]) fun args k out h => by
    obtain ⟨a0, a1, e, h1⟩ := args2_sound h
    subst e; rw [mul64_eq]; exact h1

end Go.Ev
end

section
/-
  FUNCTION 36: printed by a program of our own (wip/gen/st.py). '(masthead/wide.U).Mul', in continuation form; the evaluator gives it.
-/
set_option linter.all false
set_option maxRecDepth 100000
namespace Go.Ev
open Go.Proofs
variable {A : Type}

-- ============================================================ umul (function 36)
def umul_b0 (g_mul64 : Int → Int → (Int → Int → Option A) → Option A) (g_add64 : Int → Int → Int → (Int → Int → Option A) → Option A) (n : Nat) (n_ : Int) (t4 : (List Int)) (k0 : Int → (List Int) → Option A) (r : Int → Int → (List Int) → Option A) (c : Int) (t12 : Int) (a : (List Int)) : Option A :=
  bif (decide (t12 < 4)) then
    if 0 ≤ t12 then
      if t12 < 4 then
        (a[(Int.toNat t12)]?).bind fun y1 =>
        g_mul64 y1 n_ fun r2 r3 =>
        g_add64 r3 c 0 fun r4 r5 =>
        if 0 ≤ t12 then
          if t12 < 4 then
            if (Int.toNat t12) < 4 then
              r (IntKind.wrap .u64 (r2 + r5)) (IntKind.wrap .i64 (t12 + 1)) (a.set (Int.toNat t12) r4)
            else none
          else none
        else none
      else none
    else none
  else
    k0 c a

def umul_l0 (g_mul64 : Int → Int → (Int → Int → Option A) → Option A) (g_add64 : Int → Int → Int → (Int → Int → Option A) → Option A) (n : Nat) (n_ : Int) (t4 : (List Int)) (k0 : Int → (List Int) → Option A) : Nat → Int → Int → (List Int) → Option A
  | 0 => fun _ _ _ => none
  | f + 1 => umul_b0 g_mul64 g_add64 n n_ t4 k0 (umul_l0 g_mul64 g_add64 n n_ t4 k0 f)

def umul_p (g_mul64 : Int → Int → (Int → Int → Option A) → Option A) (g_add64 : Int → Int → Int → (Int → Int → Option A) → Option A) (n : Nat) (a0 : (List Int)) (a1 : Int) (k : (List Int) → Int → Option A) : Option A :=
  umul_l0 g_mul64 g_add64 n a1 [0, 0, 0, 0] (fun y6 y7 =>
    k y7 y6) n 0 0 a0

def umul_k (n : Nat) (a0 : (List Int)) (a1 : Int) (k : (List Int) → Int → Option A) : Option A := umul_p (mul64_k n) (add64_k n) n a0 a1 k

noncomputable def umul_c0 : Code := codeAt [1, 1, 0, 1, 0, 0] (bodyOf Try.f36)
def umul_d0 : List Nat := [0, 5, 7, 8, 9, 10, 11, 13, 14, 15, 16, 17, 18, 19, 20, 21, 22, 23, 24, 25, 26, 27, 28, 29, 30, 31, 32, 33, 34, 35]
def umul_y0 : List Nat := [0, 1, 3, 5, 7, 8, 9, 10, 11, 12, 13, 14, 15, 16, 17, 18, 19, 20, 21, 22, 23, 24, 25, 26, 27, 28, 29, 30, 31, 32, 33, 34, 35, 36, 37]
def umul_sh0 : Shape := ⟨[.any, (.p (.int .u64)), (.ptr 0), .any, (.ptr 1), .any, (.p (.int .u64)), .any, .any, .any, .any, .any, (.p (.int .i64)), .any, .any, .any, .any, .any, .any, .any, .any, .any, .any, .any, .any, .any, .any, .any, .any, .any, .any, .any, .any, .any, .any, .any, .any, .any], [(.var 25 kA4u64 (.p kA4u64)), (.var 25 kA4u64 (.p kA4u64))], 0⟩
def umul_t0 (n_ : Int) (t4 : (List Int)) (c : Int) (t12 : Int) (a : (List Int)) : umul_sh0.den := (((), n_, (), (), (), (), c, (), (), (), (), (), t12, (), (), (), (), (), (), (), (), (), (), (), (), (), (), (), (), (), (), (), (), (), (), (), (), (), ()), (a, t4, ()))
def umul_x0_0 (n_ : Int) (t4 : (List Int)) (z0 : Int) (z1 : (List Int)) : St := ⟨[.any, .any, .ptr 0 [], .any, .ptr 1 [], .any, .p (.int .u64) z0, .any, .any, .any, .any, .any, .any, .any, .any, .any, .any, .any, .any, .any, .any, .any, .any, .any, .any, .any, .any, .any, .any, .any, .any, .any, .any, .any, .any, .any, .any, .any], [.var 25 kA4u64 (.p kA4u64 z1), .var 25 kA4u64 (.p kA4u64 t4)], 0⟩
def umul_g0 (g_mul64 : Int → Int → (Int → Int → Option A) → Option A) (g_add64 : Int → Int → Int → (Int → Int → Option A) → Option A) (n : Nat) (d : umul_sh0.den) (k : Ex → St → Option A) : Option A :=
  umul_l0 g_mul64 g_add64 n d.1.2.1 d.2.2.1 (fun z0 z1 => k (.exit 0) (umul_x0_0 d.1.2.1 d.2.2.1 z0 z1)) n d.1.2.2.2.2.2.2.1 d.1.2.2.2.2.2.2.2.2.2.2.2.2.1 d.2.1
noncomputable def umul_E (g_mul64 : Int → Int → (Int → Int → Option A) → Option A) (g_add64 : Int → Int → Int → (Int → Int → Option A) → Option A) (n : Nat) : Env A := ⟨tys, gls, [(54, mul64_ent g_mul64), (55, add64_ent g_add64)], [(0, loopE umul_d0 umul_sh0 (umul_g0 g_mul64 g_add64 n))], []⟩
theorem umul_T (g_mul64 : Int → Int → (Int → Int → Option A) → Option A) (g_add64 : Int → Int → Int → (Int → Int → Option A) → Option A) (n : Nat) : TyOK Try.prog (umul_E g_mul64 g_add64 n) := tyOK_of rfl tysB
theorem umul_fns (n : Nat) : FnsOK Try.prog (umul_E (A := A) (mul64_k n) (add64_k n) n) := AllOK.env rfl rfl (AllOK.cons (mul64_ok n) (AllOK.cons (add64_ok n) AllOK.nil))
noncomputable def umul_LK0 (g_mul64 : Int → Int → (Int → Int → Option A) → Option A) (g_add64 : Int → Int → Int → (Int → Int → Option A) → Option A) (n : Nat) (n_ : Int) (t4 : (List Int)) (k : Ex → St → Option A) (f : Nat) (c : Int) (t12 : Int) (a : (List Int)) : Option A := loopK (codeK (umul_E g_mul64 g_add64 n) 1 umul_c0) umul_d0 umul_y0 f (umul_sh0.fill (umul_t0 n_ t4 c t12 a)) k
theorem umul_st0 (g_mul64 : Int → Int → (Int → Int → Option A) → Option A) (g_add64 : Int → Int → Int → (Int → Int → Option A) → Option A) (n f : Nat) (n_ : Int) (t4 : (List Int)) (k : Ex → St → Option A) (c : Int) (t12 : Int) (a : (List Int)) : umul_LK0 g_mul64 g_add64 n n_ t4 k (f + 1) c t12 a = umul_b0 g_mul64 g_add64 n n_ t4 (fun z0 z1 => k (.exit 0) (umul_x0_0 n_ t4 z0 z1)) (umul_LK0 g_mul64 g_add64 n n_ t4 k f) c t12 a := by kernel_rfl
theorem umul_le0 (g_mul64 : Int → Int → (Int → Int → Option A) → Option A) (g_add64 : Int → Int → Int → (Int → Int → Option A) → Option A) (n : Nat) (n_ : Int) (t4 : (List Int)) (k : Ex → St → Option A) : ∀ (f : Nat) (c : Int) (t12 : Int) (a : (List Int)), umul_LK0 g_mul64 g_add64 n n_ t4 k f c t12 a = umul_l0 g_mul64 g_add64 n n_ t4 (fun z0 z1 => k (.exit 0) (umul_x0_0 n_ t4 z0 z1)) f c t12 a := by
  intro f
  induction f with
  | zero => intros; kernel_rfl
  | succ f ih => intro c t12 a; exact (umul_st0 g_mul64 g_add64 n f n_ t4 k c t12 a).trans ((congrArg (fun r => umul_b0 g_mul64 g_add64 n n_ t4 (fun z0 z1 => k (.exit 0) (umul_x0_0 n_ t4 z0 z1)) r c t12 a) (funext fun c => funext fun t12 => funext fun a => ih c t12 a)).trans (by kernel_rfl))
theorem umul_lo0 (n : Nat) : LoopOK Try.prog gls umul_c0 (loopE umul_d0 umul_sh0 (umul_g0 (A := A) (mul64_k n) (add64_k n) n)) :=
  LoopOK.of (umul_T (mul64_k n) (add64_k n) n) (umul_fns n) follows (j := 1) (n := n) (xdead := umul_y0) (lo_of (by kernel_rfl : loopsOf 1 umul_c0 = []) lo_nil) fun d k => Eq.trans (by kernel_rfl) (umul_le0 (mul64_k n) (add64_k n) n d.1.2.1 d.2.2.1 k n d.1.2.2.2.2.2.2.1 d.1.2.2.2.2.2.2.2.2.2.2.2.2.1 d.2.1)
theorem umul_eqg (g_mul64 : Int → Int → (Int → Int → Option A) → Option A) (g_add64 : Int → Int → Int → (Int → Int → Option A) → Option A) (n : Nat) (a0 : (List Int)) (a1 : Int) (k : AV → List Blk → Option A) : fnK (umul_E g_mul64 g_add64 n) Try.f36 [.pure, .pure] [.p kA4u64 a0, .p (.int .u64) a1] [] k = umul_p g_mul64 g_add64 n a0 a1 (fun r0 r1 => k (.tup [.p kA4u64 r0, .p (.int .u64) r1]) []) := by kernel_rfl
theorem umul_eq (n : Nat) (a0 : (List Int)) (a1 : Int) (k : AV → List Blk → Option A) : fnK (umul_E (mul64_k n) (add64_k n) n) Try.f36 [.pure, .pure] [.p kA4u64 a0, .p (.int .u64) a1] [] k = umul_k n a0 a1 (fun r0 r1 => k (.tup [.p kA4u64 r0, .p (.int .u64) r1]) []) := umul_eqg (mul64_k n) (add64_k n) n a0 a1 k
def umul_ent (g : (List Int) → Int → ((List Int) → Int → Option A) → Option A) : Entry A := pureE fun args k => args2 args kA4u64 (.int .u64) fun a0 a1 => g a0 a1 (fun r0 r1 => k (.tup [.p kA4u64 r0, .p (.int .u64) r1]) [])
theorem umul_lo (n : Nat) : ∀ c, Try.f36.body = some c → ∀ q ∈ loopsOf 0 c, ∀ L, (umul_E (A := A) (mul64_k n) (add64_k n) n).lps.lookup q.1 = some L → LoopOK Try.prog gls q.2 L :=
  lo_body (E := umul_E (mul64_k n) (add64_k n) n) (by kernel_rfl : Try.f36.body = some (bodyOf Try.f36)) (lo_of (E := umul_E (mul64_k n) (add64_k n) n) (by kernel_rfl : loopsOf 0 (bodyOf Try.f36) = [(0, umul_c0)]) (lo_cons rfl (umul_lo0 n) lo_nil))
theorem umul_ok (n : Nat) : FnOK Try.prog gls 36 (umul_ent (A := A) (umul_k n)) :=
  FnOK.of (umul_T (mul64_k n) (add64_k n) n) (umul_fns n) follows ⟨Try.func36, by kernel_rfl⟩ (umul_lo n) (rm := [.pure, .pure]) fun args k out h => by
    obtain ⟨a0, a1, e, h1⟩ := args2_sound h
    subst e; rw [umul_eq]; exact h1

end Go.Ev
end

section
/-
  FUNCTION 61: printed by a program of our own (wip/gen/st.py). 'math/bits.LeadingZeros64', in continuation form; the evaluator gives it.
-/
set_option linter.all false
set_option maxRecDepth 100000
namespace Go.Ev
open Go.Proofs
variable {A : Type}

-- ============================================================ lz64 (function 61)
def lz64_p (g_len64 : Int → (Int → Option A) → Option A) (n : Nat) (a0 : Int) (k : Int → Option A) : Option A :=
  g_len64 a0 fun r1 =>
  k (IntKind.wrap .i64 (64 - r1))

def lz64_k (n : Nat) (a0 : Int) (k : Int → Option A) : Option A := lz64_p (len64_k n) n a0 k

noncomputable def lz64_E (g_len64 : Int → (Int → Option A) → Option A) (n : Nat) : Env A := ⟨tys, gls, [(57, len64_ent g_len64)], [], []⟩
theorem lz64_T (g_len64 : Int → (Int → Option A) → Option A) (n : Nat) : TyOK Try.prog (lz64_E g_len64 n) := tyOK_of rfl tysB
theorem lz64_fns (n : Nat) : FnsOK Try.prog (lz64_E (A := A) (len64_k n) n) := AllOK.env rfl rfl (AllOK.cons (len64_ok n) AllOK.nil)
theorem lz64_eqg (g_len64 : Int → (Int → Option A) → Option A) (n : Nat) (a0 : Int) (k : AV → List Blk → Option A) : fnK (lz64_E g_len64 n) Try.f61 [.pure] [.p (.int .u64) a0] [] k = lz64_p g_len64 n a0 (fun r0 => k (.p (.int .i64) r0) []) := by kernel_rfl
theorem lz64_eq (n : Nat) (a0 : Int) (k : AV → List Blk → Option A) : fnK (lz64_E (len64_k n) n) Try.f61 [.pure] [.p (.int .u64) a0] [] k = lz64_k n a0 (fun r0 => k (.p (.int .i64) r0) []) := lz64_eqg (len64_k n) n a0 k
def lz64_ent (g : Int → (Int → Option A) → Option A) : Entry A := pureE fun args k => args1 args (.int .u64) fun a0 => g a0 (fun r0 => k (.p (.int .i64) r0) [])
theorem lz64_lo (n : Nat) : ∀ c, Try.f61.body = some c → ∀ q ∈ loopsOf 0 c, ∀ L, (lz64_E (A := A) (len64_k n) n).lps.lookup q.1 = some L → LoopOK Try.prog gls q.2 L :=
  lo_body (E := lz64_E (len64_k n) n) (by kernel_rfl : Try.f61.body = some (bodyOf Try.f61)) (lo_of (E := lz64_E (len64_k n) n) (by kernel_rfl : loopsOf 0 (bodyOf Try.f61) = []) lo_nil)
theorem lz64_ok (n : Nat) : FnOK Try.prog gls 61 (lz64_ent (A := A) (lz64_k n)) :=
  FnOK.of (lz64_T (len64_k n) n) (lz64_fns n) follows ⟨Try.func61, by kernel_rfl⟩ (lz64_lo n) (rm := [.pure]) fun args k out h => by
    obtain ⟨a0, e, h1⟩ := args1_sound h
    subst e; rw [lz64_eq]; exact h1

end Go.Ev
end

section
/-
  FUNCTION 59: printed by a program of our own (wip/gen/st.py). 'math/bits.Div64', in continuation form; the evaluator gives it.
-/
set_option linter.all false
set_option maxRecDepth 100000
namespace Go.Ev
open Go.Proofs
variable {A : Type}

-- ============================================================ div64 (function 59)
def div64_b1 (g_lz64 : Int → (Int → Option A) → Option A) (n : Nat) (y : Int) (s : Int) (yn1 : Int) (yn0 : Int) (un0 : Int) (q1 : Int) (un21 : Int) (k0 : Int → Option A) (r : Int → Int → Option A) (rhat : Int) (q0 : Int) : Option A :=
  bif (decide (q0 ≥ 4294967296)) then
    bif (decide ((IntKind.wrap .u64 (rhat + yn1)) ≥ 4294967296)) then
      k0 (IntKind.wrap .u64 (q0 - 1))
    else
      r (IntKind.wrap .u64 (rhat + yn1)) (IntKind.wrap .u64 (q0 - 1))
  else
    bif (decide ((IntKind.wrap .u64 (q0 * yn0)) > (IntKind.wrap .u64 ((IntKind.wrap .u64 (4294967296 * rhat)) + un0)))) then
      bif (decide ((IntKind.wrap .u64 (rhat + yn1)) ≥ 4294967296)) then
        k0 (IntKind.wrap .u64 (q0 - 1))
      else
        r (IntKind.wrap .u64 (rhat + yn1)) (IntKind.wrap .u64 (q0 - 1))
    else
      k0 q0

def div64_l1 (g_lz64 : Int → (Int → Option A) → Option A) (n : Nat) (y : Int) (s : Int) (yn1 : Int) (yn0 : Int) (un0 : Int) (q1 : Int) (un21 : Int) (k0 : Int → Option A) : Nat → Int → Int → Option A
  | 0 => fun _ _ => none
  | f + 1 => div64_b1 g_lz64 n y s yn1 yn0 un0 q1 un21 k0 (div64_l1 g_lz64 n y s yn1 yn0 un0 q1 un21 k0 f)

def div64_b0 (g_lz64 : Int → (Int → Option A) → Option A) (n : Nat) (y : Int) (s : Int) (yn1 : Int) (yn0 : Int) (un32 : Int) (un1 : Int) (un0 : Int) (k0 : Int → Option A) (r : Int → Int → Option A) (q1 : Int) (rhat : Int) : Option A :=
  bif (decide (q1 ≥ 4294967296)) then
    bif (decide ((IntKind.wrap .u64 (rhat + yn1)) ≥ 4294967296)) then
      k0 (IntKind.wrap .u64 (q1 - 1))
    else
      r (IntKind.wrap .u64 (q1 - 1)) (IntKind.wrap .u64 (rhat + yn1))
  else
    bif (decide ((IntKind.wrap .u64 (q1 * yn0)) > (IntKind.wrap .u64 ((IntKind.wrap .u64 (4294967296 * rhat)) + un1)))) then
      bif (decide ((IntKind.wrap .u64 (rhat + yn1)) ≥ 4294967296)) then
        k0 (IntKind.wrap .u64 (q1 - 1))
      else
        r (IntKind.wrap .u64 (q1 - 1)) (IntKind.wrap .u64 (rhat + yn1))
    else
      k0 q1

def div64_l0 (g_lz64 : Int → (Int → Option A) → Option A) (n : Nat) (y : Int) (s : Int) (yn1 : Int) (yn0 : Int) (un32 : Int) (un1 : Int) (un0 : Int) (k0 : Int → Option A) : Nat → Int → Int → Option A
  | 0 => fun _ _ => none
  | f + 1 => div64_b0 g_lz64 n y s yn1 yn0 un32 un1 un0 k0 (div64_l0 g_lz64 n y s yn1 yn0 un32 un1 un0 k0 f)

def div64_p (g_lz64 : Int → (Int → Option A) → Option A) (n : Nat) (a0 : Int) (a1 : Int) (a2 : Int) (k : Int → Int → Option A) : Option A :=
  bif (a2 == 0) then
    none
  else
    bif (decide (a2 ≤ a0)) then
      none
    else
      bif (a0 == 0) then
        if a2 = 0 then none else
        if a2 = 0 then none else
        k (IntKind.wrap .u64 (Int.tdiv a1 a2)) (Int.tmod a1 a2)
      else
        g_lz64 a2 fun r1 =>
        if (IntKind.wrap .u64 r1) < 0 then none else
        if (IntKind.wrap .u64 r1) < 0 then none else
        if (IntKind.wrap .u64 (64 - (IntKind.wrap .u64 r1))) < 0 then none else
        if (IntKind.wrap .u64 r1) < 0 then none else
        if (shr .u64 (shl .u64 a2 (IntKind.wrap .u64 r1)) 32) = 0 then none else
        div64_l0 g_lz64 n (shl .u64 a2 (IntKind.wrap .u64 r1)) (IntKind.wrap .u64 r1) (shr .u64 (shl .u64 a2 (IntKind.wrap .u64 r1)) 32) (iand .u64 (shl .u64 a2 (IntKind.wrap .u64 r1)) 4294967295) (ior .u64 (shl .u64 a0 (IntKind.wrap .u64 r1)) (shr .u64 a1 (IntKind.wrap .u64 (64 - (IntKind.wrap .u64 r1))))) (shr .u64 (shl .u64 a1 (IntKind.wrap .u64 r1)) 32) (iand .u64 (shl .u64 a1 (IntKind.wrap .u64 r1)) 4294967295) (fun y2 =>
          if (shr .u64 (shl .u64 a2 (IntKind.wrap .u64 r1)) 32) = 0 then none else
          div64_l1 g_lz64 n (shl .u64 a2 (IntKind.wrap .u64 r1)) (IntKind.wrap .u64 r1) (shr .u64 (shl .u64 a2 (IntKind.wrap .u64 r1)) 32) (iand .u64 (shl .u64 a2 (IntKind.wrap .u64 r1)) 4294967295) (iand .u64 (shl .u64 a1 (IntKind.wrap .u64 r1)) 4294967295) y2 (IntKind.wrap .u64 ((IntKind.wrap .u64 ((IntKind.wrap .u64 ((ior .u64 (shl .u64 a0 (IntKind.wrap .u64 r1)) (shr .u64 a1 (IntKind.wrap .u64 (64 - (IntKind.wrap .u64 r1))))) * 4294967296)) + (shr .u64 (shl .u64 a1 (IntKind.wrap .u64 r1)) 32))) - (IntKind.wrap .u64 (y2 * (shl .u64 a2 (IntKind.wrap .u64 r1)))))) (fun y3 =>
            if (IntKind.wrap .u64 r1) < 0 then none else
            k (IntKind.wrap .u64 ((IntKind.wrap .u64 (y2 * 4294967296)) + y3)) (shr .u64 (IntKind.wrap .u64 ((IntKind.wrap .u64 ((IntKind.wrap .u64 ((IntKind.wrap .u64 ((IntKind.wrap .u64 ((IntKind.wrap .u64 ((ior .u64 (shl .u64 a0 (IntKind.wrap .u64 r1)) (shr .u64 a1 (IntKind.wrap .u64 (64 - (IntKind.wrap .u64 r1))))) * 4294967296)) + (shr .u64 (shl .u64 a1 (IntKind.wrap .u64 r1)) 32))) - (IntKind.wrap .u64 (y2 * (shl .u64 a2 (IntKind.wrap .u64 r1)))))) * 4294967296)) + (iand .u64 (shl .u64 a1 (IntKind.wrap .u64 r1)) 4294967295))) - (IntKind.wrap .u64 (y3 * (shl .u64 a2 (IntKind.wrap .u64 r1)))))) (IntKind.wrap .u64 r1))) n (IntKind.wrap .u64 ((IntKind.wrap .u64 ((IntKind.wrap .u64 ((IntKind.wrap .u64 ((ior .u64 (shl .u64 a0 (IntKind.wrap .u64 r1)) (shr .u64 a1 (IntKind.wrap .u64 (64 - (IntKind.wrap .u64 r1))))) * 4294967296)) + (shr .u64 (shl .u64 a1 (IntKind.wrap .u64 r1)) 32))) - (IntKind.wrap .u64 (y2 * (shl .u64 a2 (IntKind.wrap .u64 r1)))))) - (IntKind.wrap .u64 ((IntKind.wrap .u64 (Int.tdiv (IntKind.wrap .u64 ((IntKind.wrap .u64 ((IntKind.wrap .u64 ((ior .u64 (shl .u64 a0 (IntKind.wrap .u64 r1)) (shr .u64 a1 (IntKind.wrap .u64 (64 - (IntKind.wrap .u64 r1))))) * 4294967296)) + (shr .u64 (shl .u64 a1 (IntKind.wrap .u64 r1)) 32))) - (IntKind.wrap .u64 (y2 * (shl .u64 a2 (IntKind.wrap .u64 r1)))))) (shr .u64 (shl .u64 a2 (IntKind.wrap .u64 r1)) 32))) * (shr .u64 (shl .u64 a2 (IntKind.wrap .u64 r1)) 32))))) (IntKind.wrap .u64 (Int.tdiv (IntKind.wrap .u64 ((IntKind.wrap .u64 ((IntKind.wrap .u64 ((ior .u64 (shl .u64 a0 (IntKind.wrap .u64 r1)) (shr .u64 a1 (IntKind.wrap .u64 (64 - (IntKind.wrap .u64 r1))))) * 4294967296)) + (shr .u64 (shl .u64 a1 (IntKind.wrap .u64 r1)) 32))) - (IntKind.wrap .u64 (y2 * (shl .u64 a2 (IntKind.wrap .u64 r1)))))) (shr .u64 (shl .u64 a2 (IntKind.wrap .u64 r1)) 32)))) n (IntKind.wrap .u64 (Int.tdiv (ior .u64 (shl .u64 a0 (IntKind.wrap .u64 r1)) (shr .u64 a1 (IntKind.wrap .u64 (64 - (IntKind.wrap .u64 r1))))) (shr .u64 (shl .u64 a2 (IntKind.wrap .u64 r1)) 32))) (IntKind.wrap .u64 ((ior .u64 (shl .u64 a0 (IntKind.wrap .u64 r1)) (shr .u64 a1 (IntKind.wrap .u64 (64 - (IntKind.wrap .u64 r1))))) - (IntKind.wrap .u64 ((IntKind.wrap .u64 (Int.tdiv (ior .u64 (shl .u64 a0 (IntKind.wrap .u64 r1)) (shr .u64 a1 (IntKind.wrap .u64 (64 - (IntKind.wrap .u64 r1))))) (shr .u64 (shl .u64 a2 (IntKind.wrap .u64 r1)) 32))) * (shr .u64 (shl .u64 a2 (IntKind.wrap .u64 r1)) 32)))))

def div64_k (n : Nat) (a0 : Int) (a1 : Int) (a2 : Int) (k : Int → Int → Option A) : Option A := div64_p (lz64_k n) n a0 a1 a2 k

noncomputable def div64_c0 : Code := codeAt [1, 1, 1, 1, 1, 1, 1, 1, 1, 1, 1, 1, 1, 1, 0, 0, 0] (bodyOf Try.f59)
def div64_d0 : List Nat := [0, 1, 6, 7, 12, 19, 20, 22, 23, 24, 26, 27, 34, 35, 36, 37, 38, 39, 40, 41, 42, 43, 44, 45, 46, 47, 48, 49, 50, 51, 52, 53, 54, 55, 56, 57, 58, 59, 60, 61, 62, 63, 64, 65, 66, 67, 68, 69, 70, 71, 72, 73, 74, 75, 76, 77, 78, 79, 80, 81, 82, 83, 84, 85]
def div64_y0 : List Nat := [0, 1, 3, 4, 5, 6, 7, 12, 16, 17, 18, 19, 20, 21, 22, 23, 24, 25, 26, 27, 28, 29, 30, 31, 32, 33, 34, 35, 36, 37, 38, 39, 40, 41, 42, 43, 44, 45, 46, 47, 48, 49, 50, 51, 52, 53, 54, 55, 56, 57, 58, 59, 60, 61, 62, 63, 64, 65, 66, 67, 68, 69, 70, 71, 72, 73, 74, 75, 76, 77, 78, 79, 80, 81, 82, 83, 84, 85, 86, 87, 88, 89, 90, 91, 92, 93, 94, 95, 96, 97, 98, 99, 100, 101, 102, 103, 104, 105, 106, 107, 108, 109, 110, 111, 112, 113, 114, 115, 116, 117, 118, 119, 120, 121, 122, 123, 124, 125, 126, 127, 128, 129, 130, 131, 132, 133, 134]
def div64_sh0 : Shape := ⟨[.any, .any, (.p (.int .u64)), .any, .any, .any, .any, .any, (.p (.int .u64)), (.p (.int .u64)), (.p (.int .u64)), (.p (.int .u64)), .any, (.p (.int .u64)), (.p (.int .u64)), (.p (.int .u64)), (.p (.int .u64)), .any, .any, .any, .any, .any, .any, .any, .any, .any, .any, .any, .any, .any, .any, .any, .any, .any, .any, .any, .any, .any, .any, .any, .any, .any, .any, .any, .any, .any, .any, .any, .any, .any, .any, .any, .any, .any, .any, .any, .any, .any, .any, .any, .any, .any, .any, .any, .any, .any, .any, .any, .any, .any, .any, .any, .any, .any, .any, .any, .any, .any, .any, .any, .any, .any, .any, .any, .any, .any, .any, .any, .any, .any, .any, .any, .any, .any, .any, .any, .any, .any, .any, .any, .any, .any, .any, .any, .any, .any, .any, .any, .any, .any, .any, .any, .any, .any, .any, .any, .any, .any, .any, .any, .any, .any, .any, .any, .any, .any, .any, .any, .any, .any, .any, .any, .any, .any, .any], [], 0⟩
def div64_t0 (y : Int) (s : Int) (yn1 : Int) (yn0 : Int) (un32 : Int) (un1 : Int) (un0 : Int) (q1 : Int) (rhat : Int) : div64_sh0.den := (((), (), y, (), (), (), (), (), s, yn1, yn0, un32, (), un1, un0, q1, rhat, (), (), (), (), (), (), (), (), (), (), (), (), (), (), (), (), (), (), (), (), (), (), (), (), (), (), (), (), (), (), (), (), (), (), (), (), (), (), (), (), (), (), (), (), (), (), (), (), (), (), (), (), (), (), (), (), (), (), (), (), (), (), (), (), (), (), (), (), (), (), (), (), (), (), (), (), (), (), (), (), (), (), (), (), (), (), (), (), (), (), (), (), (), (), (), (), (), (), (), (), (), (), (), (), (), (), (), (), (), (), (), (), (), (), (), (), (), (), ()), ())
def div64_x0_0 (y : Int) (s : Int) (yn1 : Int) (yn0 : Int) (un32 : Int) (un1 : Int) (un0 : Int) (z7 : Int) : St := ⟨[.any, .any, .p (.int .u64) y, .any, .any, .any, .any, .any, .p (.int .u64) s, .p (.int .u64) yn1, .p (.int .u64) yn0, .p (.int .u64) un32, .any, .p (.int .u64) un1, .p (.int .u64) un0, .p (.int .u64) z7, .any, .any, .any, .any, .any, .any, .any, .any, .any, .any, .any, .any, .any, .any, .any, .any, .any, .any, .any, .any, .any, .any, .any, .any, .any, .any, .any, .any, .any, .any, .any, .any, .any, .any, .any, .any, .any, .any, .any, .any, .any, .any, .any, .any, .any, .any, .any, .any, .any, .any, .any, .any, .any, .any, .any, .any, .any, .any, .any, .any, .any, .any, .any, .any, .any, .any, .any, .any, .any, .any, .any, .any, .any, .any, .any, .any, .any, .any, .any, .any, .any, .any, .any, .any, .any, .any, .any, .any, .any, .any, .any, .any, .any, .any, .any, .any, .any, .any, .any, .any, .any, .any, .any, .any, .any, .any, .any, .any, .any, .any, .any, .any, .any, .any, .any, .any, .any, .any, .any], [], 0⟩
def div64_g0 (g_lz64 : Int → (Int → Option A) → Option A) (n : Nat) (d : div64_sh0.den) (k : Ex → St → Option A) : Option A :=
  div64_l0 g_lz64 n d.1.2.2.1 d.1.2.2.2.2.2.2.2.2.1 d.1.2.2.2.2.2.2.2.2.2.1 d.1.2.2.2.2.2.2.2.2.2.2.1 d.1.2.2.2.2.2.2.2.2.2.2.2.1 d.1.2.2.2.2.2.2.2.2.2.2.2.2.2.1 d.1.2.2.2.2.2.2.2.2.2.2.2.2.2.2.1 (fun z7 => k (.exit 0) (div64_x0_0 d.1.2.2.1 d.1.2.2.2.2.2.2.2.2.1 d.1.2.2.2.2.2.2.2.2.2.1 d.1.2.2.2.2.2.2.2.2.2.2.1 d.1.2.2.2.2.2.2.2.2.2.2.2.1 d.1.2.2.2.2.2.2.2.2.2.2.2.2.2.1 d.1.2.2.2.2.2.2.2.2.2.2.2.2.2.2.1 z7)) n d.1.2.2.2.2.2.2.2.2.2.2.2.2.2.2.2.1 d.1.2.2.2.2.2.2.2.2.2.2.2.2.2.2.2.2.1
noncomputable def div64_c1 : Code := codeAt [1, 1, 1, 1, 1, 1, 1, 1, 1, 1, 1, 1, 1, 1, 1, 1, 1, 1, 0, 0, 0] (bodyOf Try.f59)
def div64_d1 : List Nat := [11, 13, 86, 87, 88, 89, 90, 91, 92, 93, 94, 95, 96, 97, 98, 99, 100, 101, 102, 103, 104, 105, 106, 107, 108, 109, 110, 111, 112, 113, 114, 115, 116, 117, 118, 119, 120]
def div64_y1 : List Nat := [0, 1, 3, 4, 5, 6, 7, 9, 10, 11, 12, 13, 16, 19, 20, 21, 22, 23, 24, 25, 26, 27, 28, 29, 30, 31, 32, 33, 34, 35, 36, 37, 38, 39, 40, 41, 42, 43, 44, 45, 46, 47, 48, 49, 50, 51, 52, 53, 54, 55, 56, 57, 58, 59, 60, 61, 62, 63, 64, 65, 66, 67, 68, 69, 70, 71, 72, 73, 74, 75, 76, 77, 78, 79, 80, 81, 82, 83, 84, 85, 86, 87, 88, 89, 90, 91, 92, 93, 94, 95, 96, 97, 98, 99, 100, 101, 102, 103, 104, 105, 106, 107, 108, 109, 110, 111, 112, 113, 114, 115, 116, 117, 118, 119, 120, 121, 122, 123, 124, 125, 126, 127, 128, 129, 130, 131, 132, 133, 134]
def div64_sh1 : Shape := ⟨[.any, .any, (.p (.int .u64)), .any, .any, .any, .any, .any, (.p (.int .u64)), (.p (.int .u64)), (.p (.int .u64)), .any, .any, .any, (.p (.int .u64)), (.p (.int .u64)), (.p (.int .u64)), (.p (.int .u64)), (.p (.int .u64)), .any, .any, .any, .any, .any, .any, .any, .any, .any, .any, .any, .any, .any, .any, .any, .any, .any, .any, .any, .any, .any, .any, .any, .any, .any, .any, .any, .any, .any, .any, .any, .any, .any, .any, .any, .any, .any, .any, .any, .any, .any, .any, .any, .any, .any, .any, .any, .any, .any, .any, .any, .any, .any, .any, .any, .any, .any, .any, .any, .any, .any, .any, .any, .any, .any, .any, .any, .any, .any, .any, .any, .any, .any, .any, .any, .any, .any, .any, .any, .any, .any, .any, .any, .any, .any, .any, .any, .any, .any, .any, .any, .any, .any, .any, .any, .any, .any, .any, .any, .any, .any, .any, .any, .any, .any, .any, .any, .any, .any, .any, .any, .any, .any, .any, .any, .any], [], 0⟩
def div64_t1 (y : Int) (s : Int) (yn1 : Int) (yn0 : Int) (un0 : Int) (q1 : Int) (un21 : Int) (rhat : Int) (q0 : Int) : div64_sh1.den := (((), (), y, (), (), (), (), (), s, yn1, yn0, (), (), (), un0, q1, rhat, un21, q0, (), (), (), (), (), (), (), (), (), (), (), (), (), (), (), (), (), (), (), (), (), (), (), (), (), (), (), (), (), (), (), (), (), (), (), (), (), (), (), (), (), (), (), (), (), (), (), (), (), (), (), (), (), (), (), (), (), (), (), (), (), (), (), (), (), (), (), (), (), (), (), (), (), (), (), (), (), (), (), (), (), (), (), (), (), (), (), (), (), (), (), (), (), (), (), (), (), (), (), (), (), (), (), (), (), (), (), (), (), (), (), (), (), (), (), (), ()), ())
def div64_x1_0 (y : Int) (s : Int) (yn1 : Int) (yn0 : Int) (un0 : Int) (q1 : Int) (un21 : Int) (z5 : Int) : St := ⟨[.any, .any, .p (.int .u64) y, .any, .any, .any, .any, .any, .p (.int .u64) s, .any, .any, .any, .any, .any, .p (.int .u64) un0, .p (.int .u64) q1, .any, .p (.int .u64) un21, .p (.int .u64) z5, .any, .any, .any, .any, .any, .any, .any, .any, .any, .any, .any, .any, .any, .any, .any, .any, .any, .any, .any, .any, .any, .any, .any, .any, .any, .any, .any, .any, .any, .any, .any, .any, .any, .any, .any, .any, .any, .any, .any, .any, .any, .any, .any, .any, .any, .any, .any, .any, .any, .any, .any, .any, .any, .any, .any, .any, .any, .any, .any, .any, .any, .any, .any, .any, .any, .any, .any, .any, .any, .any, .any, .any, .any, .any, .any, .any, .any, .any, .any, .any, .any, .any, .any, .any, .any, .any, .any, .any, .any, .any, .any, .any, .any, .any, .any, .any, .any, .any, .any, .any, .any, .any, .any, .any, .any, .any, .any, .any, .any, .any, .any, .any, .any, .any, .any, .any], [], 0⟩
def div64_g1 (g_lz64 : Int → (Int → Option A) → Option A) (n : Nat) (d : div64_sh1.den) (k : Ex → St → Option A) : Option A :=
  div64_l1 g_lz64 n d.1.2.2.1 d.1.2.2.2.2.2.2.2.2.1 d.1.2.2.2.2.2.2.2.2.2.1 d.1.2.2.2.2.2.2.2.2.2.2.1 d.1.2.2.2.2.2.2.2.2.2.2.2.2.2.2.1 d.1.2.2.2.2.2.2.2.2.2.2.2.2.2.2.2.1 d.1.2.2.2.2.2.2.2.2.2.2.2.2.2.2.2.2.2.1 (fun z5 => k (.exit 2) (div64_x1_0 d.1.2.2.1 d.1.2.2.2.2.2.2.2.2.1 d.1.2.2.2.2.2.2.2.2.2.1 d.1.2.2.2.2.2.2.2.2.2.2.1 d.1.2.2.2.2.2.2.2.2.2.2.2.2.2.2.1 d.1.2.2.2.2.2.2.2.2.2.2.2.2.2.2.2.1 d.1.2.2.2.2.2.2.2.2.2.2.2.2.2.2.2.2.2.1 z5)) n d.1.2.2.2.2.2.2.2.2.2.2.2.2.2.2.2.2.1 d.1.2.2.2.2.2.2.2.2.2.2.2.2.2.2.2.2.2.2.1
noncomputable def div64_E (g_lz64 : Int → (Int → Option A) → Option A) (n : Nat) : Env A := ⟨tys, gls, [(61, lz64_ent g_lz64)], [(0, loopE div64_d0 div64_sh0 (div64_g0 g_lz64 n)), (1, loopE div64_d1 div64_sh1 (div64_g1 g_lz64 n))], []⟩
theorem div64_T (g_lz64 : Int → (Int → Option A) → Option A) (n : Nat) : TyOK Try.prog (div64_E g_lz64 n) := tyOK_of rfl tysB
theorem div64_fns (n : Nat) : FnsOK Try.prog (div64_E (A := A) (lz64_k n) n) := AllOK.env rfl rfl (AllOK.cons (lz64_ok n) AllOK.nil)
noncomputable def div64_LK1 (g_lz64 : Int → (Int → Option A) → Option A) (n : Nat) (y : Int) (s : Int) (yn1 : Int) (yn0 : Int) (un0 : Int) (q1 : Int) (un21 : Int) (k : Ex → St → Option A) (f : Nat) (rhat : Int) (q0 : Int) : Option A := loopK (codeK (div64_E g_lz64 n) 2 div64_c1) div64_d1 div64_y1 f (div64_sh1.fill (div64_t1 y s yn1 yn0 un0 q1 un21 rhat q0)) k
theorem div64_st1 (g_lz64 : Int → (Int → Option A) → Option A) (n f : Nat) (y : Int) (s : Int) (yn1 : Int) (yn0 : Int) (un0 : Int) (q1 : Int) (un21 : Int) (k : Ex → St → Option A) (rhat : Int) (q0 : Int) : div64_LK1 g_lz64 n y s yn1 yn0 un0 q1 un21 k (f + 1) rhat q0 = div64_b1 g_lz64 n y s yn1 yn0 un0 q1 un21 (fun z5 => k (.exit 2) (div64_x1_0 y s yn1 yn0 un0 q1 un21 z5)) (div64_LK1 g_lz64 n y s yn1 yn0 un0 q1 un21 k f) rhat q0 := by kernel_rfl
theorem div64_le1 (g_lz64 : Int → (Int → Option A) → Option A) (n : Nat) (y : Int) (s : Int) (yn1 : Int) (yn0 : Int) (un0 : Int) (q1 : Int) (un21 : Int) (k : Ex → St → Option A) : ∀ (f : Nat) (rhat : Int) (q0 : Int), div64_LK1 g_lz64 n y s yn1 yn0 un0 q1 un21 k f rhat q0 = div64_l1 g_lz64 n y s yn1 yn0 un0 q1 un21 (fun z5 => k (.exit 2) (div64_x1_0 y s yn1 yn0 un0 q1 un21 z5)) f rhat q0 := by
  intro f
  induction f with
  | zero => intros; kernel_rfl
  | succ f ih => intro rhat q0; exact (div64_st1 g_lz64 n f y s yn1 yn0 un0 q1 un21 k rhat q0).trans ((congrArg (fun r => div64_b1 g_lz64 n y s yn1 yn0 un0 q1 un21 (fun z5 => k (.exit 2) (div64_x1_0 y s yn1 yn0 un0 q1 un21 z5)) r rhat q0) (funext fun rhat => funext fun q0 => ih rhat q0)).trans (by kernel_rfl))
theorem div64_lo1 (n : Nat) : LoopOK Try.prog gls div64_c1 (loopE div64_d1 div64_sh1 (div64_g1 (A := A) (lz64_k n) n)) :=
  LoopOK.of (div64_T (lz64_k n) n) (div64_fns n) follows (j := 2) (n := n) (xdead := div64_y1) (lo_of (by kernel_rfl : loopsOf 2 div64_c1 = []) lo_nil) fun d k => Eq.trans (by kernel_rfl) (div64_le1 (lz64_k n) n d.1.2.2.1 d.1.2.2.2.2.2.2.2.2.1 d.1.2.2.2.2.2.2.2.2.2.1 d.1.2.2.2.2.2.2.2.2.2.2.1 d.1.2.2.2.2.2.2.2.2.2.2.2.2.2.2.1 d.1.2.2.2.2.2.2.2.2.2.2.2.2.2.2.2.1 d.1.2.2.2.2.2.2.2.2.2.2.2.2.2.2.2.2.2.1 k n d.1.2.2.2.2.2.2.2.2.2.2.2.2.2.2.2.2.1 d.1.2.2.2.2.2.2.2.2.2.2.2.2.2.2.2.2.2.2.1)
noncomputable def div64_LK0 (g_lz64 : Int → (Int → Option A) → Option A) (n : Nat) (y : Int) (s : Int) (yn1 : Int) (yn0 : Int) (un32 : Int) (un1 : Int) (un0 : Int) (k : Ex → St → Option A) (f : Nat) (q1 : Int) (rhat : Int) : Option A := loopK (codeK (div64_E g_lz64 n) 1 div64_c0) div64_d0 div64_y0 f (div64_sh0.fill (div64_t0 y s yn1 yn0 un32 un1 un0 q1 rhat)) k
theorem div64_st0 (g_lz64 : Int → (Int → Option A) → Option A) (n f : Nat) (y : Int) (s : Int) (yn1 : Int) (yn0 : Int) (un32 : Int) (un1 : Int) (un0 : Int) (k : Ex → St → Option A) (q1 : Int) (rhat : Int) : div64_LK0 g_lz64 n y s yn1 yn0 un32 un1 un0 k (f + 1) q1 rhat = div64_b0 g_lz64 n y s yn1 yn0 un32 un1 un0 (fun z7 => k (.exit 0) (div64_x0_0 y s yn1 yn0 un32 un1 un0 z7)) (div64_LK0 g_lz64 n y s yn1 yn0 un32 un1 un0 k f) q1 rhat := by kernel_rfl
theorem div64_le0 (g_lz64 : Int → (Int → Option A) → Option A) (n : Nat) (y : Int) (s : Int) (yn1 : Int) (yn0 : Int) (un32 : Int) (un1 : Int) (un0 : Int) (k : Ex → St → Option A) : ∀ (f : Nat) (q1 : Int) (rhat : Int), div64_LK0 g_lz64 n y s yn1 yn0 un32 un1 un0 k f q1 rhat = div64_l0 g_lz64 n y s yn1 yn0 un32 un1 un0 (fun z7 => k (.exit 0) (div64_x0_0 y s yn1 yn0 un32 un1 un0 z7)) f q1 rhat := by
  intro f
  induction f with
  | zero => intros; kernel_rfl
  | succ f ih => intro q1 rhat; exact (div64_st0 g_lz64 n f y s yn1 yn0 un32 un1 un0 k q1 rhat).trans ((congrArg (fun r => div64_b0 g_lz64 n y s yn1 yn0 un32 un1 un0 (fun z7 => k (.exit 0) (div64_x0_0 y s yn1 yn0 un32 un1 un0 z7)) r q1 rhat) (funext fun q1 => funext fun rhat => ih q1 rhat)).trans (by kernel_rfl))
theorem div64_lo0 (n : Nat) : LoopOK Try.prog gls div64_c0 (loopE div64_d0 div64_sh0 (div64_g0 (A := A) (lz64_k n) n)) :=
  LoopOK.of (div64_T (lz64_k n) n) (div64_fns n) follows (j := 1) (n := n) (xdead := div64_y0) (lo_of (by kernel_rfl : loopsOf 1 div64_c0 = []) lo_nil) fun d k => Eq.trans (by kernel_rfl) (div64_le0 (lz64_k n) n d.1.2.2.1 d.1.2.2.2.2.2.2.2.2.1 d.1.2.2.2.2.2.2.2.2.2.1 d.1.2.2.2.2.2.2.2.2.2.2.1 d.1.2.2.2.2.2.2.2.2.2.2.2.1 d.1.2.2.2.2.2.2.2.2.2.2.2.2.2.1 d.1.2.2.2.2.2.2.2.2.2.2.2.2.2.2.1 k n d.1.2.2.2.2.2.2.2.2.2.2.2.2.2.2.2.1 d.1.2.2.2.2.2.2.2.2.2.2.2.2.2.2.2.2.1)
theorem div64_eqg (g_lz64 : Int → (Int → Option A) → Option A) (n : Nat) (a0 : Int) (a1 : Int) (a2 : Int) (k : AV → List Blk → Option A) : fnK (div64_E g_lz64 n) Try.f59 [.pure, .pure] [.p (.int .u64) a0, .p (.int .u64) a1, .p (.int .u64) a2] [] k = div64_p g_lz64 n a0 a1 a2 (fun r0 r1 => k (.tup [.p (.int .u64) r0, .p (.int .u64) r1]) []) := by kernel_rfl
theorem div64_eq (n : Nat) (a0 : Int) (a1 : Int) (a2 : Int) (k : AV → List Blk → Option A) : fnK (div64_E (lz64_k n) n) Try.f59 [.pure, .pure] [.p (.int .u64) a0, .p (.int .u64) a1, .p (.int .u64) a2] [] k = div64_k n a0 a1 a2 (fun r0 r1 => k (.tup [.p (.int .u64) r0, .p (.int .u64) r1]) []) := div64_eqg (lz64_k n) n a0 a1 a2 k
def div64_ent (g : Int → Int → Int → (Int → Int → Option A) → Option A) : Entry A := pureE fun args k => args3 args (.int .u64) (.int .u64) (.int .u64) fun a0 a1 a2 => g a0 a1 a2 (fun r0 r1 => k (.tup [.p (.int .u64) r0, .p (.int .u64) r1]) [])
theorem div64_lo (n : Nat) : ∀ c, Try.f59.body = some c → ∀ q ∈ loopsOf 0 c, ∀ L, (div64_E (A := A) (lz64_k n) n).lps.lookup q.1 = some L → LoopOK Try.prog gls q.2 L :=
  lo_body (E := div64_E (lz64_k n) n) (by kernel_rfl : Try.f59.body = some (bodyOf Try.f59)) (lo_of (E := div64_E (lz64_k n) n) (by kernel_rfl : loopsOf 0 (bodyOf Try.f59) = [(0, div64_c0), (1, div64_c1)]) (lo_cons rfl (div64_lo0 n) (lo_cons rfl (div64_lo1 n) lo_nil)))
theorem div64_ok (n : Nat) : FnOK Try.prog gls 59 (div64_ent (A := A) (div64_k n)) :=
  FnOK.of (div64_T (lz64_k n) n) (div64_fns n) follows ⟨Try.func59, by kernel_rfl⟩ (div64_lo n) (rm := [.pure, .pure]) fun args k out h => by
    obtain ⟨a0, a1, a2, e, h1⟩ := args3_sound h
    subst e; rw [div64_eq]; exact h1

end Go.Ev
end

section
/-
  FUNCTION 52: printed by a program of our own (wip/gen/st.py). 'masthead/pace.by', in continuation form; the evaluator gives it.
-/
set_option linter.all false
set_option maxRecDepth 100000
namespace Go.Ev
open Go.Proofs
variable {A : Type}

-- ============================================================ by_ (function 52)
def by__b0 (g_div64 : Int → Int → Int → (Int → Int → Option A) → Option A) (n : Nat) (n_ : Int) (t6 : (List Int)) (k0 : (List Int) → Option A) (r : Int → Int → (List Int) → Option A) (high : Int) (i : Int) (low : (List Int)) : Option A :=
  bif (decide (i ≥ 0)) then
    if 0 ≤ i then
      if i < 4 then
        (low[(Int.toNat i)]?).bind fun y1 =>
        g_div64 high y1 n_ fun r2 r3 =>
        if 0 ≤ i then
          if i < 4 then
            if (Int.toNat i) < 4 then
              r r3 (IntKind.wrap .i64 (i - 1)) (low.set (Int.toNat i) r2)
            else none
          else none
        else none
      else none
    else none
  else
    k0 low

def by__l0 (g_div64 : Int → Int → Int → (Int → Int → Option A) → Option A) (n : Nat) (n_ : Int) (t6 : (List Int)) (k0 : (List Int) → Option A) : Nat → Int → Int → (List Int) → Option A
  | 0 => fun _ _ _ => none
  | f + 1 => by__b0 g_div64 n n_ t6 k0 (by__l0 g_div64 n n_ t6 k0 f)

def by__p (g_div64 : Int → Int → Int → (Int → Int → Option A) → Option A) (n : Nat) (a0 : (List Int)) (a1 : Int) (a2 : Int) (k : (List Int) → Bool → Option A) : Option A :=
  bif (decide (a1 ≥ a2)) then
    k [0, 0, 0, 0] false
  else
    by__l0 g_div64 n a2 [0, 0, 0, 0] (fun y4 =>
      k y4 true) n a1 3 a0

def by__k (n : Nat) (a0 : (List Int)) (a1 : Int) (a2 : Int) (k : (List Int) → Bool → Option A) : Option A := by__p (div64_k n) n a0 a1 a2 k

noncomputable def by__c0 : Code := codeAt [1, 1, 0, 1, 0, 0] (bodyOf Try.f52)
def by__d0 : List Nat := [0, 7, 9, 10, 11, 13, 14, 15, 16, 17, 18, 19, 20, 21, 22, 23, 24, 25, 26, 27]
def by__y0 : List Nat := [0, 1, 2, 4, 5, 7, 8, 9, 10, 11, 12, 13, 14, 15, 16, 17, 18, 19, 20, 21, 22, 23, 24, 25, 26, 27, 28]
def by__sh0 : Shape := ⟨[.any, (.p (.int .u64)), (.p (.int .u64)), (.ptr 0), .any, .any, (.ptr 1), .any, (.p (.int .i64)), .any, .any, .any, .any, .any, .any, .any, .any, .any, .any, .any, .any, .any, .any, .any, .any, .any, .any, .any, .any], [(.var 25 kA4u64 (.p kA4u64)), (.var 25 kA4u64 (.p kA4u64))], 0⟩
def by__t0 (n_ : Int) (t6 : (List Int)) (high : Int) (i : Int) (low : (List Int)) : by__sh0.den := (((), high, n_, (), (), (), (), (), i, (), (), (), (), (), (), (), (), (), (), (), (), (), (), (), (), (), (), (), (), ()), (low, t6, ()))
def by__x0_0 (n_ : Int) (t6 : (List Int)) (z0 : (List Int)) : St := ⟨[.any, .any, .any, .ptr 0 [], .any, .any, .ptr 1 [], .any, .any, .any, .any, .any, .any, .any, .any, .any, .any, .any, .any, .any, .any, .any, .any, .any, .any, .any, .any, .any, .any], [.var 25 kA4u64 (.p kA4u64 z0), .var 25 kA4u64 (.p kA4u64 t6)], 0⟩
def by__g0 (g_div64 : Int → Int → Int → (Int → Int → Option A) → Option A) (n : Nat) (d : by__sh0.den) (k : Ex → St → Option A) : Option A :=
  by__l0 g_div64 n d.1.2.2.1 d.2.2.1 (fun z0 => k (.exit 0) (by__x0_0 d.1.2.2.1 d.2.2.1 z0)) n d.1.2.1 d.1.2.2.2.2.2.2.2.2.1 d.2.1
noncomputable def by__E (g_div64 : Int → Int → Int → (Int → Int → Option A) → Option A) (n : Nat) : Env A := ⟨tys, gls, [(59, div64_ent g_div64)], [(0, loopE by__d0 by__sh0 (by__g0 g_div64 n))], []⟩
theorem by__T (g_div64 : Int → Int → Int → (Int → Int → Option A) → Option A) (n : Nat) : TyOK Try.prog (by__E g_div64 n) := tyOK_of rfl tysB
theorem by__fns (n : Nat) : FnsOK Try.prog (by__E (A := A) (div64_k n) n) := AllOK.env rfl rfl (AllOK.cons (div64_ok n) AllOK.nil)
noncomputable def by__LK0 (g_div64 : Int → Int → Int → (Int → Int → Option A) → Option A) (n : Nat) (n_ : Int) (t6 : (List Int)) (k : Ex → St → Option A) (f : Nat) (high : Int) (i : Int) (low : (List Int)) : Option A := loopK (codeK (by__E g_div64 n) 1 by__c0) by__d0 by__y0 f (by__sh0.fill (by__t0 n_ t6 high i low)) k
theorem by__st0 (g_div64 : Int → Int → Int → (Int → Int → Option A) → Option A) (n f : Nat) (n_ : Int) (t6 : (List Int)) (k : Ex → St → Option A) (high : Int) (i : Int) (low : (List Int)) : by__LK0 g_div64 n n_ t6 k (f + 1) high i low = by__b0 g_div64 n n_ t6 (fun z0 => k (.exit 0) (by__x0_0 n_ t6 z0)) (by__LK0 g_div64 n n_ t6 k f) high i low := by kernel_rfl
theorem by__le0 (g_div64 : Int → Int → Int → (Int → Int → Option A) → Option A) (n : Nat) (n_ : Int) (t6 : (List Int)) (k : Ex → St → Option A) : ∀ (f : Nat) (high : Int) (i : Int) (low : (List Int)), by__LK0 g_div64 n n_ t6 k f high i low = by__l0 g_div64 n n_ t6 (fun z0 => k (.exit 0) (by__x0_0 n_ t6 z0)) f high i low := by
  intro f
  induction f with
  | zero => intros; kernel_rfl
  | succ f ih => intro high i low; exact (by__st0 g_div64 n f n_ t6 k high i low).trans ((congrArg (fun r => by__b0 g_div64 n n_ t6 (fun z0 => k (.exit 0) (by__x0_0 n_ t6 z0)) r high i low) (funext fun high => funext fun i => funext fun low => ih high i low)).trans (by kernel_rfl))
theorem by__lo0 (n : Nat) : LoopOK Try.prog gls by__c0 (loopE by__d0 by__sh0 (by__g0 (A := A) (div64_k n) n)) :=
  LoopOK.of (by__T (div64_k n) n) (by__fns n) follows (j := 1) (n := n) (xdead := by__y0) (lo_of (by kernel_rfl : loopsOf 1 by__c0 = []) lo_nil) fun d k => Eq.trans (by kernel_rfl) (by__le0 (div64_k n) n d.1.2.2.1 d.2.2.1 k n d.1.2.1 d.1.2.2.2.2.2.2.2.2.1 d.2.1)
theorem by__eqg (g_div64 : Int → Int → Int → (Int → Int → Option A) → Option A) (n : Nat) (a0 : (List Int)) (a1 : Int) (a2 : Int) (k : AV → List Blk → Option A) : fnK (by__E g_div64 n) Try.f52 [.pure, .pure] [.p kA4u64 a0, .p (.int .u64) a1, .p (.int .u64) a2] [] k = by__p g_div64 n a0 a1 a2 (fun r0 r1 => k (.tup [.p kA4u64 r0, .p .bool r1]) []) := by kernel_rfl
theorem by__eq (n : Nat) (a0 : (List Int)) (a1 : Int) (a2 : Int) (k : AV → List Blk → Option A) : fnK (by__E (div64_k n) n) Try.f52 [.pure, .pure] [.p kA4u64 a0, .p (.int .u64) a1, .p (.int .u64) a2] [] k = by__k n a0 a1 a2 (fun r0 r1 => k (.tup [.p kA4u64 r0, .p .bool r1]) []) := by__eqg (div64_k n) n a0 a1 a2 k
def by__ent (g : (List Int) → Int → Int → ((List Int) → Bool → Option A) → Option A) : Entry A := pureE fun args k => args3 args kA4u64 (.int .u64) (.int .u64) fun a0 a1 a2 => g a0 a1 a2 (fun r0 r1 => k (.tup [.p kA4u64 r0, .p .bool r1]) [])
theorem by__lo (n : Nat) : ∀ c, Try.f52.body = some c → ∀ q ∈ loopsOf 0 c, ∀ L, (by__E (A := A) (div64_k n) n).lps.lookup q.1 = some L → LoopOK Try.prog gls q.2 L :=
  lo_body (E := by__E (div64_k n) n) (by kernel_rfl : Try.f52.body = some (bodyOf Try.f52)) (lo_of (E := by__E (div64_k n) n) (by kernel_rfl : loopsOf 0 (bodyOf Try.f52) = [(0, by__c0)]) (lo_cons rfl (by__lo0 n) lo_nil))
theorem by__ok (n : Nat) : FnOK Try.prog gls 52 (by__ent (A := A) (by__k n)) :=
  FnOK.of (by__T (div64_k n) n) (by__fns n) follows ⟨Try.func52, by kernel_rfl⟩ (by__lo n) (rm := [.pure, .pure]) fun args k out h => by
    obtain ⟨a0, a1, a2, e, h1⟩ := args3_sound h
    subst e; rw [by__eq]; exact h1

end Go.Ev
end

section
/-
  FUNCTION 31: printed by a program of our own (wip/gen/st.py). 'masthead/pace.Next', in continuation form; the evaluator gives it.
-/
set_option linter.all false
set_option maxRecDepth 100000
namespace Go.Ev
open Go.Proofs
variable {A : Type}

-- ============================================================ pnext (function 31)
def pnext_p (g_lasted : Int → Int → Int → Int → (Int → Option A) → Option A) (g_umul : (List Int) → Int → ((List Int) → Int → Option A) → Option A) (g_ideal : Int → Int → (Int → Option A) → Option A) (g_by_ : (List Int) → Int → Int → ((List Int) → Bool → Option A) → Option A) (g_uof : Int → ((List Int) → Option A) → Option A) (g_ucmp : (List Int) → (List Int) → (Int → Option A) → Option A) (n : Nat) (a0 : (List Int)) (a1 : (List Int)) (a2 : Int) (a3 : Int) (a4 : Int) (a5 : Int) (k : (List Int) → Option A) : Option A :=
  g_lasted a2 a3 a4 a5 fun r1 =>
  g_umul a0 (IntKind.wrap .u64 r1) fun r2 r3 =>
  g_ideal a2 a3 fun r4 =>
  g_by_ r2 r3 (IntKind.wrap .u64 r4) fun r5 r6 =>
  bif (deq kA4u64 r5 [0, 0, 0, 0]) then
    g_uof 1 fun r7 =>
    bif (!r6) then
      k a1
    else
      g_ucmp r7 a1 fun r8 =>
      bif (decide (r8 > 0)) then
        k a1
      else
        k r7
  else
    bif (!r6) then
      k a1
    else
      g_ucmp r5 a1 fun r9 =>
      bif (decide (r9 > 0)) then
        k a1
      else
        k r5

def pnext_k (n : Nat) (a0 : (List Int)) (a1 : (List Int)) (a2 : Int) (a3 : Int) (a4 : Int) (a5 : Int) (k : (List Int) → Option A) : Option A := pnext_p (lasted_k n) (umul_k n) (ideal_k n) (by__k n) (uof_k n) (ucmp_k n) n a0 a1 a2 a3 a4 a5 k

noncomputable def pnext_E (g_lasted : Int → Int → Int → Int → (Int → Option A) → Option A) (g_umul : (List Int) → Int → ((List Int) → Int → Option A) → Option A) (g_ideal : Int → Int → (Int → Option A) → Option A) (g_by_ : (List Int) → Int → Int → ((List Int) → Bool → Option A) → Option A) (g_uof : Int → ((List Int) → Option A) → Option A) (g_ucmp : (List Int) → (List Int) → (Int → Option A) → Option A) (n : Nat) : Env A := ⟨tys, gls, [(26, lasted_ent g_lasted), (36, umul_ent g_umul), (51, ideal_ent g_ideal), (52, by__ent g_by_), (35, uof_ent g_uof), (30, ucmp_ent g_ucmp)], [], []⟩
theorem pnext_T (g_lasted : Int → Int → Int → Int → (Int → Option A) → Option A) (g_umul : (List Int) → Int → ((List Int) → Int → Option A) → Option A) (g_ideal : Int → Int → (Int → Option A) → Option A) (g_by_ : (List Int) → Int → Int → ((List Int) → Bool → Option A) → Option A) (g_uof : Int → ((List Int) → Option A) → Option A) (g_ucmp : (List Int) → (List Int) → (Int → Option A) → Option A) (n : Nat) : TyOK Try.prog (pnext_E g_lasted g_umul g_ideal g_by_ g_uof g_ucmp n) := tyOK_of rfl tysB
theorem pnext_fns (n : Nat) : FnsOK Try.prog (pnext_E (A := A) (lasted_k n) (umul_k n) (ideal_k n) (by__k n) (uof_k n) (ucmp_k n) n) := AllOK.env rfl rfl (AllOK.cons (lasted_ok n) (AllOK.cons (umul_ok n) (AllOK.cons (ideal_ok n) (AllOK.cons (by__ok n) (AllOK.cons (uof_ok n) (AllOK.cons (ucmp_ok n) AllOK.nil))))))
theorem pnext_eqg (g_lasted : Int → Int → Int → Int → (Int → Option A) → Option A) (g_umul : (List Int) → Int → ((List Int) → Int → Option A) → Option A) (g_ideal : Int → Int → (Int → Option A) → Option A) (g_by_ : (List Int) → Int → Int → ((List Int) → Bool → Option A) → Option A) (g_uof : Int → ((List Int) → Option A) → Option A) (g_ucmp : (List Int) → (List Int) → (Int → Option A) → Option A) (n : Nat) (a0 : (List Int)) (a1 : (List Int)) (a2 : Int) (a3 : Int) (a4 : Int) (a5 : Int) (k : AV → List Blk → Option A) : fnK (pnext_E g_lasted g_umul g_ideal g_by_ g_uof g_ucmp n) Try.f31 [.pure] [.p kA4u64 a0, .p kA4u64 a1, .p (.int .i64) a2, .p (.int .i64) a3, .p (.int .u32) a4, .p (.int .u32) a5] [] k = pnext_p g_lasted g_umul g_ideal g_by_ g_uof g_ucmp n a0 a1 a2 a3 a4 a5 (fun r0 => k (.p kA4u64 r0) []) := by kernel_rfl
theorem pnext_eq (n : Nat) (a0 : (List Int)) (a1 : (List Int)) (a2 : Int) (a3 : Int) (a4 : Int) (a5 : Int) (k : AV → List Blk → Option A) : fnK (pnext_E (lasted_k n) (umul_k n) (ideal_k n) (by__k n) (uof_k n) (ucmp_k n) n) Try.f31 [.pure] [.p kA4u64 a0, .p kA4u64 a1, .p (.int .i64) a2, .p (.int .i64) a3, .p (.int .u32) a4, .p (.int .u32) a5] [] k = pnext_k n a0 a1 a2 a3 a4 a5 (fun r0 => k (.p kA4u64 r0) []) := pnext_eqg (lasted_k n) (umul_k n) (ideal_k n) (by__k n) (uof_k n) (ucmp_k n) n a0 a1 a2 a3 a4 a5 k
def pnext_sh : Shape := ⟨[(.p kA4u64), (.p kA4u64), (.p (.int .i64)), (.p (.int .i64)), (.p (.int .u32)), (.p (.int .u32))], [], 0⟩
def pnext_ent (g : (List Int) → (List Int) → Int → Int → Int → Int → ((List Int) → Option A) → Option A) : Entry A := ownE [] pnext_sh fun d k => g d.1.1 d.1.2.1 d.1.2.2.1 d.1.2.2.2.1 d.1.2.2.2.2.1 d.1.2.2.2.2.2.1 (fun r0 => k (.p kA4u64 r0) [])
theorem pnext_lo (n : Nat) : ∀ c, Try.f31.body = some c → ∀ q ∈ loopsOf 0 c, ∀ L, (pnext_E (A := A) (lasted_k n) (umul_k n) (ideal_k n) (by__k n) (uof_k n) (ucmp_k n) n).lps.lookup q.1 = some L → LoopOK Try.prog gls q.2 L :=
  lo_body (E := pnext_E (lasted_k n) (umul_k n) (ideal_k n) (by__k n) (uof_k n) (ucmp_k n) n) (by kernel_rfl : Try.f31.body = some (bodyOf Try.f31)) (lo_of (E := pnext_E (lasted_k n) (umul_k n) (ideal_k n) (by__k n) (uof_k n) (ucmp_k n) n) (by kernel_rfl : loopsOf 0 (bodyOf Try.f31) = []) lo_nil)
theorem pnext_ok (n : Nat) : FnOK Try.prog gls 31 (pnext_ent (A := A) (pnext_k n)) :=
  FnOK.ofOwn (pnext_T (lasted_k n) (umul_k n) (ideal_k n) (by__k n) (uof_k n) (ucmp_k n) n) (pnext_fns n) follows ⟨Try.func31, by kernel_rfl⟩ (pnext_lo n) (rm := [.pure]) (S := pnext_sh) fun d k => Eq.trans (by kernel_rfl) (pnext_eq n d.1.1 d.1.2.1 d.1.2.2.1 d.1.2.2.2.1 d.1.2.2.2.2.1 d.1.2.2.2.2.2.1 k)

end Go.Ev
end

section
/-
  FUNCTION 28: printed by a program of our own (wip/gen/st.py). 'masthead/mastheadlaw18.awake', in continuation form; the evaluator gives it.
-/
set_option linter.all false
set_option maxRecDepth 100000
namespace Go.Ev
open Go.Proofs
variable {A : Type}

-- ============================================================ pawake (function 28)
def pawake_p (g_lasted : Int → Int → Int → Int → (Int → Option A) → Option A) (g_uof : Int → ((List Int) → Option A) → Option A) (g_umax : ((List Int) → Option A) → Option A) (g_pnext : (List Int) → (List Int) → Int → Int → Int → Int → ((List Int) → Option A) → Option A) (n : Nat) (k : Bool → Option A) : Option A :=
  g_lasted 4 10 100 120 fun r1 =>
  bif (r1 == 20) then
    g_uof 1000 fun r2 =>
    g_umax fun r3 =>
    g_pnext r2 r3 4 10 100 120 fun r4 =>
    g_uof 500 fun r5 =>
    k (deq kA4u64 r4 r5)
  else
    k false

def pawake_k (n : Nat) (k : Bool → Option A) : Option A := pawake_p (lasted_k n) (uof_k n) (umax_k n) (pnext_k n) n k

noncomputable def pawake_E (g_lasted : Int → Int → Int → Int → (Int → Option A) → Option A) (g_uof : Int → ((List Int) → Option A) → Option A) (g_umax : ((List Int) → Option A) → Option A) (g_pnext : (List Int) → (List Int) → Int → Int → Int → Int → ((List Int) → Option A) → Option A) (n : Nat) : Env A := ⟨tys, gls, [(26, lasted_ent g_lasted), (35, uof_ent g_uof), (24, umax_ent g_umax), (31, pnext_ent g_pnext)], [], []⟩
theorem pawake_T (g_lasted : Int → Int → Int → Int → (Int → Option A) → Option A) (g_uof : Int → ((List Int) → Option A) → Option A) (g_umax : ((List Int) → Option A) → Option A) (g_pnext : (List Int) → (List Int) → Int → Int → Int → Int → ((List Int) → Option A) → Option A) (n : Nat) : TyOK Try.prog (pawake_E g_lasted g_uof g_umax g_pnext n) := tyOK_of rfl tysB
theorem pawake_fns (n : Nat) : FnsOK Try.prog (pawake_E (A := A) (lasted_k n) (uof_k n) (umax_k n) (pnext_k n) n) := AllOK.env rfl rfl (AllOK.cons (lasted_ok n) (AllOK.cons (uof_ok n) (AllOK.cons (umax_ok n) (AllOK.cons (pnext_ok n) AllOK.nil))))
theorem pawake_eqg (g_lasted : Int → Int → Int → Int → (Int → Option A) → Option A) (g_uof : Int → ((List Int) → Option A) → Option A) (g_umax : ((List Int) → Option A) → Option A) (g_pnext : (List Int) → (List Int) → Int → Int → Int → Int → ((List Int) → Option A) → Option A) (n : Nat) (k : AV → List Blk → Option A) : fnK (pawake_E g_lasted g_uof g_umax g_pnext n) Try.f28 [.pure] [] [] k = pawake_p g_lasted g_uof g_umax g_pnext n (fun r0 => k (.p .bool r0) []) := by kernel_rfl
theorem pawake_eq (n : Nat) (k : AV → List Blk → Option A) : fnK (pawake_E (lasted_k n) (uof_k n) (umax_k n) (pnext_k n) n) Try.f28 [.pure] [] [] k = pawake_k n (fun r0 => k (.p .bool r0) []) := pawake_eqg (lasted_k n) (uof_k n) (umax_k n) (pnext_k n) n k
def pawake_ent (g : (Bool → Option A) → Option A) : Entry A := pureE fun args k => args0 args (g (fun r0 => k (.p .bool r0) []))
theorem pawake_lo (n : Nat) : ∀ c, Try.f28.body = some c → ∀ q ∈ loopsOf 0 c, ∀ L, (pawake_E (A := A) (lasted_k n) (uof_k n) (umax_k n) (pnext_k n) n).lps.lookup q.1 = some L → LoopOK Try.prog gls q.2 L :=
  lo_body (E := pawake_E (lasted_k n) (uof_k n) (umax_k n) (pnext_k n) n) (by kernel_rfl : Try.f28.body = some (bodyOf Try.f28)) (lo_of (E := pawake_E (lasted_k n) (uof_k n) (umax_k n) (pnext_k n) n) (by kernel_rfl : loopsOf 0 (bodyOf Try.f28) = []) lo_nil)
theorem pawake_ok (n : Nat) : FnOK Try.prog gls 28 (pawake_ent (A := A) (pawake_k n)) :=
  FnOK.of (pawake_T (lasted_k n) (uof_k n) (umax_k n) (pnext_k n) n) (pawake_fns n) follows ⟨Try.func28, by kernel_rfl⟩ (pawake_lo n) (rm := [.pure]) fun args k out h => by
    obtain ⟨e, h1⟩ := args0_sound h
    subst e; rw [pawake_eq]; exact h1

end Go.Ev
end

section
/-
  FUNCTION 7: printed by a program of our own (wip/gen/st.py). 'masthead/mastheadlaw18.PaceLasts', in continuation form; the evaluator gives it.
-/
set_option linter.all false
set_option maxRecDepth 100000
namespace Go.Ev
open Go.Proofs
variable {A : Type}

-- ============================================================ lasts (function 7)
def lasts_p (g_lasted : Int → Int → Int → Int → (Int → Option A) → Option A) (g_rlasted : Int → Int → Int → Int → (Int → Option A) → Option A) (g_pawake : (Bool → Option A) → Option A) (n : Nat) (a0 : (Int × (Int × (Int × (Int × Unit))))) (k : Bool → Option A) : Option A :=
  g_lasted a0.1 a0.2.1 a0.2.2.1 a0.2.2.2.1 fun r1 =>
  g_rlasted a0.1 a0.2.1 a0.2.2.1 a0.2.2.2.1 fun r2 =>
  bif (r1 == r2) then
    g_pawake fun r3 =>
    k r3
  else
    k false

def lasts_k (n : Nat) (a0 : (Int × (Int × (Int × (Int × Unit))))) (k : Bool → Option A) : Option A := lasts_p (lasted_k n) (rlasted_k n) (pawake_k n) n a0 k

noncomputable def lasts_E (g_lasted : Int → Int → Int → Int → (Int → Option A) → Option A) (g_rlasted : Int → Int → Int → Int → (Int → Option A) → Option A) (g_pawake : (Bool → Option A) → Option A) (n : Nat) : Env A := ⟨tys, gls, [(26, lasted_ent g_lasted), (27, rlasted_ent g_rlasted), (28, pawake_ent g_pawake)], [], []⟩
theorem lasts_T (g_lasted : Int → Int → Int → Int → (Int → Option A) → Option A) (g_rlasted : Int → Int → Int → Int → (Int → Option A) → Option A) (g_pawake : (Bool → Option A) → Option A) (n : Nat) : TyOK Try.prog (lasts_E g_lasted g_rlasted g_pawake n) := tyOK_of rfl tysB
theorem lasts_fns (n : Nat) : FnsOK Try.prog (lasts_E (A := A) (lasted_k n) (rlasted_k n) (pawake_k n) n) := AllOK.env rfl rfl (AllOK.cons (lasted_ok n) (AllOK.cons (rlasted_ok n) (AllOK.cons (pawake_ok n) AllOK.nil)))
theorem lasts_eqg (g_lasted : Int → Int → Int → Int → (Int → Option A) → Option A) (g_rlasted : Int → Int → Int → Int → (Int → Option A) → Option A) (g_pawake : (Bool → Option A) → Option A) (n : Nat) (a0 : (Int × (Int × (Int × (Int × Unit))))) (k : AV → List Blk → Option A) : fnK (lasts_E g_lasted g_rlasted g_pawake n) Try.f7 [.pure] [.p kT43 a0] [] k = lasts_p g_lasted g_rlasted g_pawake n a0 (fun r0 => k (.p .bool r0) []) := by kernel_rfl
theorem lasts_eq (n : Nat) (a0 : (Int × (Int × (Int × (Int × Unit))))) (k : AV → List Blk → Option A) : fnK (lasts_E (lasted_k n) (rlasted_k n) (pawake_k n) n) Try.f7 [.pure] [.p kT43 a0] [] k = lasts_k n a0 (fun r0 => k (.p .bool r0) []) := lasts_eqg (lasted_k n) (rlasted_k n) (pawake_k n) n a0 k
def lasts_ent (g : (Int × (Int × (Int × (Int × Unit)))) → (Bool → Option A) → Option A) : Entry A := pureE fun args k => args1 args kT43 fun a0 => g a0 (fun r0 => k (.p .bool r0) [])
theorem lasts_lo (n : Nat) : ∀ c, Try.f7.body = some c → ∀ q ∈ loopsOf 0 c, ∀ L, (lasts_E (A := A) (lasted_k n) (rlasted_k n) (pawake_k n) n).lps.lookup q.1 = some L → LoopOK Try.prog gls q.2 L :=
  lo_body (E := lasts_E (lasted_k n) (rlasted_k n) (pawake_k n) n) (by kernel_rfl : Try.f7.body = some (bodyOf Try.f7)) (lo_of (E := lasts_E (lasted_k n) (rlasted_k n) (pawake_k n) n) (by kernel_rfl : loopsOf 0 (bodyOf Try.f7) = []) lo_nil)
theorem lasts_ok (n : Nat) : FnOK Try.prog gls 7 (lasts_ent (A := A) (lasts_k n)) :=
  FnOK.of (lasts_T (lasted_k n) (rlasted_k n) (pawake_k n) n) (lasts_fns n) follows ⟨Try.func7, by kernel_rfl⟩ (lasts_lo n) (rm := [.pure]) fun args k out h => by
    obtain ⟨a0, e, h1⟩ := args1_sound h
    subst e; rw [lasts_eq]; exact h1

end Go.Ev
end

