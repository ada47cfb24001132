import Derived.Test.YtelhickgimgbaaaB6
import Derived.Test.YtelhickgimgbaaaB5
set_option linter.all false
section
/-
  FUNCTION 33: printed by a program of our own (wip/gen/st.py). '(masthead/wide.U).Sub', in continuation form; the evaluator gives it.
-/
set_option linter.all false
set_option maxRecDepth 100000
namespace Go.Ev
open Go.Proofs
variable {A : Type}

-- ============================================================ usub (function 33)
def usub_b0 (g_sub64 : Int → Int → Int → (Int → Int → Option A) → Option A) (n : Nat) (b : (List Int)) (t4 : (List Int)) (k0 : Int → (List Int) → Option A) (r : Int → Int → (List Int) → Option A) (c : Int) (t8 : Int) (a : (List Int)) : Option A :=
  bif (decide (t8 < 4)) then
    if 0 ≤ t8 then
      if t8 < 4 then
        (a[(Int.toNat t8)]?).bind fun y1 =>
        if 0 ≤ t8 then
          if t8 < 4 then
            (b[(Int.toNat t8)]?).bind fun y2 =>
            g_sub64 y1 y2 c fun r3 r4 =>
            if 0 ≤ t8 then
              if t8 < 4 then
                if (Int.toNat t8) < 4 then
                  r r4 (IntKind.wrap .i64 (t8 + 1)) (a.set (Int.toNat t8) r3)
                else none
              else none
            else none
          else none
        else none
      else none
    else none
  else
    k0 c a

def usub_l0 (g_sub64 : Int → Int → Int → (Int → Int → Option A) → Option A) (n : Nat) (b : (List Int)) (t4 : (List Int)) (k0 : Int → (List Int) → Option A) : Nat → Int → Int → (List Int) → Option A
  | 0 => fun _ _ _ => none
  | f + 1 => usub_b0 g_sub64 n b t4 k0 (usub_l0 g_sub64 n b t4 k0 f)

def usub_p (g_sub64 : Int → Int → Int → (Int → Int → Option A) → Option A) (n : Nat) (a0 : (List Int)) (a1 : (List Int)) (k : (List Int) → Bool → Option A) : Option A :=
  usub_l0 g_sub64 n a1 [0, 0, 0, 0] (fun y5 y6 =>
    k y6 (decide (y5 > 0))) n 0 0 a0

def usub_k (n : Nat) (a0 : (List Int)) (a1 : (List Int)) (k : (List Int) → Bool → Option A) : Option A := usub_p (sub64_k n) n a0 a1 k

noncomputable def usub_c0 : Code := codeAt [1, 1, 0, 1, 0, 0] (bodyOf Try.f33)
def usub_d0 : List Nat := [0, 1, 5, 7, 9, 10, 11, 12, 13, 14, 15, 16, 17, 18, 19, 20, 21, 22, 23, 24]
def usub_y0 : List Nat := [0, 1, 3, 5, 7, 8, 9, 10, 11, 12, 13, 14, 15, 16, 17, 18, 19, 20, 21, 22, 23, 24, 25, 26, 27]
def usub_sh0 : Shape := ⟨[.any, .any, (.ptr 0), (.ptr 1), (.ptr 2), .any, (.p (.int .u64)), .any, (.p (.int .i64)), .any, .any, .any, .any, .any, .any, .any, .any, .any, .any, .any, .any, .any, .any, .any, .any, .any, .any, .any], [(.var 25 kA4u64 (.p kA4u64)), (.var 25 kA4u64 (.p kA4u64)), (.var 25 kA4u64 (.p kA4u64))], 0⟩
def usub_t0 (b : (List Int)) (t4 : (List Int)) (c : Int) (t8 : Int) (a : (List Int)) : usub_sh0.den := (((), (), (), (), (), (), c, (), t8, (), (), (), (), (), (), (), (), (), (), (), (), (), (), (), (), (), (), (), ()), (a, b, t4, ()))
def usub_x0_0 (b : (List Int)) (t4 : (List Int)) (z0 : Int) (z1 : (List Int)) : St := ⟨[.any, .any, .ptr 0 [], .any, .ptr 1 [], .any, .p (.int .u64) z0, .any, .any, .any, .any, .any, .any, .any, .any, .any, .any, .any, .any, .any, .any, .any, .any, .any, .any, .any, .any, .any], [.var 25 kA4u64 (.p kA4u64 z1), .var 25 kA4u64 (.p kA4u64 t4)], 0⟩
def usub_g0 (g_sub64 : Int → Int → Int → (Int → Int → Option A) → Option A) (n : Nat) (d : usub_sh0.den) (k : Ex → St → Option A) : Option A :=
  usub_l0 g_sub64 n d.2.2.1 d.2.2.2.1 (fun z0 z1 => k (.exit 0) (usub_x0_0 d.2.2.1 d.2.2.2.1 z0 z1)) n d.1.2.2.2.2.2.2.1 d.1.2.2.2.2.2.2.2.2.1 d.2.1
noncomputable def usub_E (g_sub64 : Int → Int → Int → (Int → Int → Option A) → Option A) (n : Nat) : Env A := ⟨tys, gls, [(53, sub64_ent g_sub64)], [(0, loopE usub_d0 usub_sh0 (usub_g0 g_sub64 n))], []⟩
theorem usub_T (g_sub64 : Int → Int → Int → (Int → Int → Option A) → Option A) (n : Nat) : TyOK Try.prog (usub_E g_sub64 n) := tyOK_of rfl tysB
theorem usub_fns (n : Nat) : FnsOK Try.prog (usub_E (A := A) (sub64_k n) n) := AllOK.env rfl rfl (AllOK.cons (sub64_ok n) AllOK.nil)
noncomputable def usub_LK0 (g_sub64 : Int → Int → Int → (Int → Int → Option A) → Option A) (n : Nat) (b : (List Int)) (t4 : (List Int)) (k : Ex → St → Option A) (f : Nat) (c : Int) (t8 : Int) (a : (List Int)) : Option A := loopK (codeK (usub_E g_sub64 n) 1 usub_c0) usub_d0 usub_y0 f (usub_sh0.fill (usub_t0 b t4 c t8 a)) k
theorem usub_st0 (g_sub64 : Int → Int → Int → (Int → Int → Option A) → Option A) (n f : Nat) (b : (List Int)) (t4 : (List Int)) (k : Ex → St → Option A) (c : Int) (t8 : Int) (a : (List Int)) : usub_LK0 g_sub64 n b t4 k (f + 1) c t8 a = usub_b0 g_sub64 n b t4 (fun z0 z1 => k (.exit 0) (usub_x0_0 b t4 z0 z1)) (usub_LK0 g_sub64 n b t4 k f) c t8 a := by kernel_rfl
theorem usub_le0 (g_sub64 : Int → Int → Int → (Int → Int → Option A) → Option A) (n : Nat) (b : (List Int)) (t4 : (List Int)) (k : Ex → St → Option A) : ∀ (f : Nat) (c : Int) (t8 : Int) (a : (List Int)), usub_LK0 g_sub64 n b t4 k f c t8 a = usub_l0 g_sub64 n b t4 (fun z0 z1 => k (.exit 0) (usub_x0_0 b t4 z0 z1)) f c t8 a := by
  intro f
  induction f with
  | zero => intros; kernel_rfl
  | succ f ih => intro c t8 a; exact (usub_st0 g_sub64 n f b t4 k c t8 a).trans ((congrArg (fun r => usub_b0 g_sub64 n b t4 (fun z0 z1 => k (.exit 0) (usub_x0_0 b t4 z0 z1)) r c t8 a) (funext fun c => funext fun t8 => funext fun a => ih c t8 a)).trans (by kernel_rfl))
theorem usub_lo0 (n : Nat) : LoopOK Try.prog gls usub_c0 (loopE usub_d0 usub_sh0 (usub_g0 (A := A) (sub64_k n) n)) :=
  LoopOK.of (usub_T (sub64_k n) n) (usub_fns n) follows (j := 1) (n := n) (xdead := usub_y0) (lo_of (by kernel_rfl : loopsOf 1 usub_c0 = []) lo_nil) fun d k => Eq.trans (by kernel_rfl) (usub_le0 (sub64_k n) n d.2.2.1 d.2.2.2.1 k n d.1.2.2.2.2.2.2.1 d.1.2.2.2.2.2.2.2.2.1 d.2.1)
theorem usub_eqg (g_sub64 : Int → Int → Int → (Int → Int → Option A) → Option A) (n : Nat) (a0 : (List Int)) (a1 : (List Int)) (k : AV → List Blk → Option A) : fnK (usub_E g_sub64 n) Try.f33 [.pure, .pure] [.p kA4u64 a0, .p kA4u64 a1] [] k = usub_p g_sub64 n a0 a1 (fun r0 r1 => k (.tup [.p kA4u64 r0, .p .bool r1]) []) := by kernel_rfl
theorem usub_eq (n : Nat) (a0 : (List Int)) (a1 : (List Int)) (k : AV → List Blk → Option A) : fnK (usub_E (sub64_k n) n) Try.f33 [.pure, .pure] [.p kA4u64 a0, .p kA4u64 a1] [] k = usub_k n a0 a1 (fun r0 r1 => k (.tup [.p kA4u64 r0, .p .bool r1]) []) := usub_eqg (sub64_k n) n a0 a1 k
def usub_ent (g : (List Int) → (List Int) → ((List Int) → Bool → Option A) → Option A) : Entry A := pureE fun args k => args2 args kA4u64 kA4u64 fun a0 a1 => g a0 a1 (fun r0 r1 => k (.tup [.p kA4u64 r0, .p .bool r1]) [])
theorem usub_lo (n : Nat) : ∀ c, Try.f33.body = some c → ∀ q ∈ loopsOf 0 c, ∀ L, (usub_E (A := A) (sub64_k n) n).lps.lookup q.1 = some L → LoopOK Try.prog gls q.2 L :=
  lo_body (E := usub_E (sub64_k n) n) (by kernel_rfl : Try.f33.body = some (bodyOf Try.f33)) (lo_of (E := usub_E (sub64_k n) n) (by kernel_rfl : loopsOf 0 (bodyOf Try.f33) = [(0, usub_c0)]) (lo_cons rfl (usub_lo0 n) lo_nil))
theorem usub_ok (n : Nat) : FnOK Try.prog gls 33 (usub_ent (A := A) (usub_k n)) :=
  FnOK.of (usub_T (sub64_k n) n) (usub_fns n) follows ⟨Try.func33, by kernel_rfl⟩ (usub_lo n) (rm := [.pure, .pure]) fun args k out h => by
    obtain ⟨a0, a1, e, h1⟩ := args2_sound h
    subst e; rw [usub_eq]; exact h1

end Go.Ev
end

section
/-
  FUNCTION 49: printed by a program of our own (wip/gen/st.py). '(masthead/wide.U).Quo', in continuation form; the evaluator gives it.
-/
set_option linter.all false
set_option maxRecDepth 100000
namespace Go.Ev
open Go.Proofs
variable {A : Type}

-- ============================================================ uquo (function 49)
def uquo_b0 (g_ulen : (List Int) → (Int → Option A) → Option A) (g_ushl : (List Int) → Int → ((List Int) → Option A) → Option A) (g_usub : (List Int) → (List Int) → ((List Int) → Bool → Option A) → Option A) (n : Nat) (b : (List Int)) (t4 : (List Int)) (t5 : (List Int)) (k0 : (List Int) → (List Int) → Option A) (r : Int → (List Int) → (List Int) → Option A) (k_ : Int) (a : (List Int)) (out : (List Int)) : Option A :=
  bif (decide (k_ ≥ 0)) then
    g_ushl b k_ fun r3 =>
    g_usub a r3 fun r4 r5 =>
    bif (!r5) then
      if 0 ≤ (IntKind.wrap .i64 (Int.tdiv k_ 64)) then
        if (IntKind.wrap .i64 (Int.tdiv k_ 64)) < 4 then
          (out[(Int.toNat (IntKind.wrap .i64 (Int.tdiv k_ 64)))]?).bind fun y6 =>
          if (Int.tmod k_ 64) < 0 then none else
          if 0 ≤ (IntKind.wrap .i64 (Int.tdiv k_ 64)) then
            if (IntKind.wrap .i64 (Int.tdiv k_ 64)) < 4 then
              if (Int.toNat (IntKind.wrap .i64 (Int.tdiv k_ 64))) < 4 then
                r (IntKind.wrap .i64 (k_ - 1)) r4 (out.set (Int.toNat (IntKind.wrap .i64 (Int.tdiv k_ 64))) (ior .u64 y6 (shl .u64 1 (Int.tmod k_ 64))))
              else none
            else none
          else none
        else none
      else none
    else
      r (IntKind.wrap .i64 (k_ - 1)) a out
  else
    k0 a out

def uquo_l0 (g_ulen : (List Int) → (Int → Option A) → Option A) (g_ushl : (List Int) → Int → ((List Int) → Option A) → Option A) (g_usub : (List Int) → (List Int) → ((List Int) → Bool → Option A) → Option A) (n : Nat) (b : (List Int)) (t4 : (List Int)) (t5 : (List Int)) (k0 : (List Int) → (List Int) → Option A) : Nat → Int → (List Int) → (List Int) → Option A
  | 0 => fun _ _ _ => none
  | f + 1 => uquo_b0 g_ulen g_ushl g_usub n b t4 t5 k0 (uquo_l0 g_ulen g_ushl g_usub n b t4 t5 k0 f)

def uquo_p (g_ulen : (List Int) → (Int → Option A) → Option A) (g_ushl : (List Int) → Int → ((List Int) → Option A) → Option A) (g_usub : (List Int) → (List Int) → ((List Int) → Bool → Option A) → Option A) (n : Nat) (a0 : (List Int)) (a1 : (List Int)) (k : (List Int) → (List Int) → Option A) : Option A :=
  bif (deq kA4u64 a1 [0, 0, 0, 0]) then
    k [0, 0, 0, 0] a0
  else
    g_ulen a0 fun r1 =>
    g_ulen a1 fun r2 =>
    uquo_l0 g_ulen g_ushl g_usub n a1 [0, 0, 0, 0] [0, 0, 0, 0] (fun y7 y8 =>
      k y8 y7) n (IntKind.wrap .i64 (r1 - r2)) a0 [0, 0, 0, 0]

def uquo_k (n : Nat) (a0 : (List Int)) (a1 : (List Int)) (k : (List Int) → (List Int) → Option A) : Option A := uquo_p (ulen_k n) (ushl_k n) (usub_k n) n a0 a1 k

noncomputable def uquo_c0 : Code := codeAt [1, 1, 1, 0, 1, 0, 0] (bodyOf Try.f49)
def uquo_d0 : List Nat := [0, 1, 8, 9, 10, 11, 12, 13, 16, 17, 18, 19, 20, 21, 22, 23, 24, 25, 26, 27, 28, 29, 30, 31, 32, 33, 34, 35, 36, 37, 38, 39, 40, 41, 42, 43, 44, 45]
def uquo_y0 : List Nat := [0, 1, 3, 7, 8, 9, 10, 11, 12, 13, 14, 15, 16, 17, 18, 19, 20, 21, 22, 23, 24, 25, 26, 27, 28, 29, 30, 31, 32, 33, 34, 35, 36, 37, 38, 39, 40, 41, 42, 43, 44, 45, 46, 47]
def uquo_sh0 : Shape := ⟨[.any, .any, (.ptr 0), (.ptr 1), (.ptr 2), (.ptr 3), (.ptr 4), (.p (.int .i64)), .any, .any, .any, .any, .any, .any, .any, .any, .any, .any, .any, .any, .any, .any, .any, .any, .any, .any, .any, .any, .any, .any, .any, .any, .any, .any, .any, .any, .any, .any, .any, .any, .any, .any, .any, .any, .any, .any, .any, .any], [(.var 25 kA4u64 (.p kA4u64)), (.var 25 kA4u64 (.p kA4u64)), (.var 25 kA4u64 (.p kA4u64)), (.var 25 kA4u64 (.p kA4u64)), (.var 25 kA4u64 (.p kA4u64))], 0⟩
def uquo_t0 (b : (List Int)) (t4 : (List Int)) (t5 : (List Int)) (k_ : Int) (a : (List Int)) (out : (List Int)) : uquo_sh0.den := (((), (), (), (), (), (), (), k_, (), (), (), (), (), (), (), (), (), (), (), (), (), (), (), (), (), (), (), (), (), (), (), (), (), (), (), (), (), (), (), (), (), (), (), (), (), (), (), (), ()), (a, b, t4, t5, out, ()))
def uquo_x0_0 (b : (List Int)) (t4 : (List Int)) (t5 : (List Int)) (z0 : (List Int)) (z3 : (List Int)) : St := ⟨[.any, .any, .ptr 0 [], .any, .ptr 1 [], .ptr 2 [], .ptr 3 [], .any, .any, .any, .any, .any, .any, .any, .any, .any, .any, .any, .any, .any, .any, .any, .any, .any, .any, .any, .any, .any, .any, .any, .any, .any, .any, .any, .any, .any, .any, .any, .any, .any, .any, .any, .any, .any, .any, .any, .any, .any], [.var 25 kA4u64 (.p kA4u64 z0), .var 25 kA4u64 (.p kA4u64 t4), .var 25 kA4u64 (.p kA4u64 t5), .var 25 kA4u64 (.p kA4u64 z3)], 0⟩
def uquo_g0 (g_ulen : (List Int) → (Int → Option A) → Option A) (g_ushl : (List Int) → Int → ((List Int) → Option A) → Option A) (g_usub : (List Int) → (List Int) → ((List Int) → Bool → Option A) → Option A) (n : Nat) (d : uquo_sh0.den) (k : Ex → St → Option A) : Option A :=
  uquo_l0 g_ulen g_ushl g_usub n d.2.2.1 d.2.2.2.1 d.2.2.2.2.1 (fun z0 z3 => k (.exit 0) (uquo_x0_0 d.2.2.1 d.2.2.2.1 d.2.2.2.2.1 z0 z3)) n d.1.2.2.2.2.2.2.2.1 d.2.1 d.2.2.2.2.2.1
noncomputable def uquo_E (g_ulen : (List Int) → (Int → Option A) → Option A) (g_ushl : (List Int) → Int → ((List Int) → Option A) → Option A) (g_usub : (List Int) → (List Int) → ((List Int) → Bool → Option A) → Option A) (n : Nat) : Env A := ⟨tys, gls, [(39, ulen_ent g_ulen), (40, ushl_ent g_ushl), (33, usub_ent g_usub)], [(0, loopE uquo_d0 uquo_sh0 (uquo_g0 g_ulen g_ushl g_usub n))], []⟩
theorem uquo_T (g_ulen : (List Int) → (Int → Option A) → Option A) (g_ushl : (List Int) → Int → ((List Int) → Option A) → Option A) (g_usub : (List Int) → (List Int) → ((List Int) → Bool → Option A) → Option A) (n : Nat) : TyOK Try.prog (uquo_E g_ulen g_ushl g_usub n) := tyOK_of rfl tysB
theorem uquo_fns (n : Nat) : FnsOK Try.prog (uquo_E (A := A) (ulen_k n) (ushl_k n) (usub_k n) n) := AllOK.env rfl rfl (AllOK.cons (ulen_ok n) (AllOK.cons (ushl_ok n) (AllOK.cons (usub_ok n) AllOK.nil)))
noncomputable def uquo_LK0 (g_ulen : (List Int) → (Int → Option A) → Option A) (g_ushl : (List Int) → Int → ((List Int) → Option A) → Option A) (g_usub : (List Int) → (List Int) → ((List Int) → Bool → Option A) → Option A) (n : Nat) (b : (List Int)) (t4 : (List Int)) (t5 : (List Int)) (k : Ex → St → Option A) (f : Nat) (k_ : Int) (a : (List Int)) (out : (List Int)) : Option A := loopK (codeK (uquo_E g_ulen g_ushl g_usub n) 1 uquo_c0) uquo_d0 uquo_y0 f (uquo_sh0.fill (uquo_t0 b t4 t5 k_ a out)) k
theorem uquo_st0 (g_ulen : (List Int) → (Int → Option A) → Option A) (g_ushl : (List Int) → Int → ((List Int) → Option A) → Option A) (g_usub : (List Int) → (List Int) → ((List Int) → Bool → Option A) → Option A) (n f : Nat) (b : (List Int)) (t4 : (List Int)) (t5 : (List Int)) (k : Ex → St → Option A) (k_ : Int) (a : (List Int)) (out : (List Int)) : uquo_LK0 g_ulen g_ushl g_usub n b t4 t5 k (f + 1) k_ a out = uquo_b0 g_ulen g_ushl g_usub n b t4 t5 (fun z0 z3 => k (.exit 0) (uquo_x0_0 b t4 t5 z0 z3)) (uquo_LK0 g_ulen g_ushl g_usub n b t4 t5 k f) k_ a out := by kernel_rfl
theorem uquo_le0 (g_ulen : (List Int) → (Int → Option A) → Option A) (g_ushl : (List Int) → Int → ((List Int) → Option A) → Option A) (g_usub : (List Int) → (List Int) → ((List Int) → Bool → Option A) → Option A) (n : Nat) (b : (List Int)) (t4 : (List Int)) (t5 : (List Int)) (k : Ex → St → Option A) : ∀ (f : Nat) (k_ : Int) (a : (List Int)) (out : (List Int)), uquo_LK0 g_ulen g_ushl g_usub n b t4 t5 k f k_ a out = uquo_l0 g_ulen g_ushl g_usub n b t4 t5 (fun z0 z3 => k (.exit 0) (uquo_x0_0 b t4 t5 z0 z3)) f k_ a out := by
  intro f
  induction f with
  | zero => intros; kernel_rfl
  | succ f ih => intro k_ a out; exact (uquo_st0 g_ulen g_ushl g_usub n f b t4 t5 k k_ a out).trans ((congrArg (fun r => uquo_b0 g_ulen g_ushl g_usub n b t4 t5 (fun z0 z3 => k (.exit 0) (uquo_x0_0 b t4 t5 z0 z3)) r k_ a out) (funext fun k_ => funext fun a => funext fun out => ih k_ a out)).trans (by kernel_rfl))
theorem uquo_lo0 (n : Nat) : LoopOK Try.prog gls uquo_c0 (loopE uquo_d0 uquo_sh0 (uquo_g0 (A := A) (ulen_k n) (ushl_k n) (usub_k n) n)) :=
  LoopOK.of (uquo_T (ulen_k n) (ushl_k n) (usub_k n) n) (uquo_fns n) follows (j := 1) (n := n) (xdead := uquo_y0) (lo_of (by kernel_rfl : loopsOf 1 uquo_c0 = []) lo_nil) fun d k => Eq.trans (by kernel_rfl) (uquo_le0 (ulen_k n) (ushl_k n) (usub_k n) n d.2.2.1 d.2.2.2.1 d.2.2.2.2.1 k n d.1.2.2.2.2.2.2.2.1 d.2.1 d.2.2.2.2.2.1)
theorem uquo_eqg (g_ulen : (List Int) → (Int → Option A) → Option A) (g_ushl : (List Int) → Int → ((List Int) → Option A) → Option A) (g_usub : (List Int) → (List Int) → ((List Int) → Bool → Option A) → Option A) (n : Nat) (a0 : (List Int)) (a1 : (List Int)) (k : AV → List Blk → Option A) : fnK (uquo_E g_ulen g_ushl g_usub n) Try.f49 [.pure, .pure] [.p kA4u64 a0, .p kA4u64 a1] [] k = uquo_p g_ulen g_ushl g_usub n a0 a1 (fun r0 r1 => k (.tup [.p kA4u64 r0, .p kA4u64 r1]) []) := by kernel_rfl
theorem uquo_eq (n : Nat) (a0 : (List Int)) (a1 : (List Int)) (k : AV → List Blk → Option A) : fnK (uquo_E (ulen_k n) (ushl_k n) (usub_k n) n) Try.f49 [.pure, .pure] [.p kA4u64 a0, .p kA4u64 a1] [] k = uquo_k n a0 a1 (fun r0 r1 => k (.tup [.p kA4u64 r0, .p kA4u64 r1]) []) := uquo_eqg (ulen_k n) (ushl_k n) (usub_k n) n a0 a1 k
def uquo_ent (g : (List Int) → (List Int) → ((List Int) → (List Int) → Option A) → Option A) : Entry A := pureE fun args k => args2 args kA4u64 kA4u64 fun a0 a1 => g a0 a1 (fun r0 r1 => k (.tup [.p kA4u64 r0, .p kA4u64 r1]) [])
theorem uquo_lo (n : Nat) : ∀ c, Try.f49.body = some c → ∀ q ∈ loopsOf 0 c, ∀ L, (uquo_E (A := A) (ulen_k n) (ushl_k n) (usub_k n) n).lps.lookup q.1 = some L → LoopOK Try.prog gls q.2 L :=
  lo_body (E := uquo_E (ulen_k n) (ushl_k n) (usub_k n) n) (by kernel_rfl : Try.f49.body = some (bodyOf Try.f49)) (lo_of (E := uquo_E (ulen_k n) (ushl_k n) (usub_k n) n) (by kernel_rfl : loopsOf 0 (bodyOf Try.f49) = [(0, uquo_c0)]) (lo_cons rfl (uquo_lo0 n) lo_nil))
theorem uquo_ok (n : Nat) : FnOK Try.prog gls 49 (uquo_ent (A := A) (uquo_k n)) :=
  FnOK.of (uquo_T (ulen_k n) (ushl_k n) (usub_k n) n) (uquo_fns n) follows ⟨Try.func49, by kernel_rfl⟩ (uquo_lo n) (rm := [.pure, .pure]) fun args k out h => by
    obtain ⟨a0, a1, e, h1⟩ := args2_sound h
    subst e; rw [uquo_eq]; exact h1

end Go.Ev
end

section
/-
  FUNCTION 23: printed by a program of our own (wip/gen/st.py). 'masthead/compact.Work', in continuation form; the evaluator gives it.
-/
set_option linter.all false
set_option maxRecDepth 100000
namespace Go.Ev
open Go.Proofs
variable {A : Type}

-- ============================================================ cwork (function 23)
def cwork_p (g_uof : Int → ((List Int) → Option A) → Option A) (g_uadd : (List Int) → (List Int) → ((List Int) → Bool → Option A) → Option A) (g_umax : ((List Int) → Option A) → Option A) (g_usub : (List Int) → (List Int) → ((List Int) → Bool → Option A) → Option A) (g_uquo : (List Int) → (List Int) → ((List Int) → (List Int) → Option A) → Option A) (n : Nat) (a0 : (List Int)) (k : (List Int) → Option A) : Option A :=
  g_uof 1 fun r1 =>
  g_uadd a0 r1 fun r2 r3 =>
  bif r3 then
    g_uof 1 fun r4 =>
    k r4
  else
    bif (deq kA4u64 a0 [0, 0, 0, 0]) then
      g_umax fun r5 =>
      k r5
    else
      g_umax fun r6 =>
      g_usub r6 a0 fun r7 r8 =>
      g_uquo r7 r2 fun r9 r10 =>
      g_uof 1 fun r11 =>
      g_uadd r9 r11 fun r12 r13 =>
      k r12

def cwork_k (n : Nat) (a0 : (List Int)) (k : (List Int) → Option A) : Option A := cwork_p (uof_k n) (uadd_k n) (umax_k n) (usub_k n) (uquo_k n) n a0 k

noncomputable def cwork_E (g_uof : Int → ((List Int) → Option A) → Option A) (g_uadd : (List Int) → (List Int) → ((List Int) → Bool → Option A) → Option A) (g_umax : ((List Int) → Option A) → Option A) (g_usub : (List Int) → (List Int) → ((List Int) → Bool → Option A) → Option A) (g_uquo : (List Int) → (List Int) → ((List Int) → (List Int) → Option A) → Option A) (n : Nat) : Env A := ⟨tys, gls, [(35, uof_ent g_uof), (48, uadd_ent g_uadd), (24, umax_ent g_umax), (33, usub_ent g_usub), (49, uquo_ent g_uquo)], [], []⟩
theorem cwork_T (g_uof : Int → ((List Int) → Option A) → Option A) (g_uadd : (List Int) → (List Int) → ((List Int) → Bool → Option A) → Option A) (g_umax : ((List Int) → Option A) → Option A) (g_usub : (List Int) → (List Int) → ((List Int) → Bool → Option A) → Option A) (g_uquo : (List Int) → (List Int) → ((List Int) → (List Int) → Option A) → Option A) (n : Nat) : TyOK Try.prog (cwork_E g_uof g_uadd g_umax g_usub g_uquo n) := tyOK_of rfl tysB
theorem cwork_fns (n : Nat) : FnsOK Try.prog (cwork_E (A := A) (uof_k n) (uadd_k n) (umax_k n) (usub_k n) (uquo_k n) n) := AllOK.env rfl rfl (AllOK.cons (uof_ok n) (AllOK.cons (uadd_ok n) (AllOK.cons (umax_ok n) (AllOK.cons (usub_ok n) (AllOK.cons (uquo_ok n) AllOK.nil)))))
theorem cwork_eqg (g_uof : Int → ((List Int) → Option A) → Option A) (g_uadd : (List Int) → (List Int) → ((List Int) → Bool → Option A) → Option A) (g_umax : ((List Int) → Option A) → Option A) (g_usub : (List Int) → (List Int) → ((List Int) → Bool → Option A) → Option A) (g_uquo : (List Int) → (List Int) → ((List Int) → (List Int) → Option A) → Option A) (n : Nat) (a0 : (List Int)) (k : AV → List Blk → Option A) : fnK (cwork_E g_uof g_uadd g_umax g_usub g_uquo n) Try.f23 [.pure] [.p kA4u64 a0] [] k = cwork_p g_uof g_uadd g_umax g_usub g_uquo n a0 (fun r0 => k (.p kA4u64 r0) []) := by kernel_rfl
theorem cwork_eq (n : Nat) (a0 : (List Int)) (k : AV → List Blk → Option A) : fnK (cwork_E (uof_k n) (uadd_k n) (umax_k n) (usub_k n) (uquo_k n) n) Try.f23 [.pure] [.p kA4u64 a0] [] k = cwork_k n a0 (fun r0 => k (.p kA4u64 r0) []) := cwork_eqg (uof_k n) (uadd_k n) (umax_k n) (usub_k n) (uquo_k n) n a0 k
def cwork_ent (g : (List Int) → ((List Int) → Option A) → Option A) : Entry A := pureE fun args k => args1 args kA4u64 fun a0 => g a0 (fun r0 => k (.p kA4u64 r0) [])
theorem cwork_lo (n : Nat) : ∀ c, Try.f23.body = some c → ∀ q ∈ loopsOf 0 c, ∀ L, (cwork_E (A := A) (uof_k n) (uadd_k n) (umax_k n) (usub_k n) (uquo_k n) n).lps.lookup q.1 = some L → LoopOK Try.prog gls q.2 L :=
  lo_body (E := cwork_E (uof_k n) (uadd_k n) (umax_k n) (usub_k n) (uquo_k n) n) (by kernel_rfl : Try.f23.body = some (bodyOf Try.f23)) (lo_of (E := cwork_E (uof_k n) (uadd_k n) (umax_k n) (usub_k n) (uquo_k n) n) (by kernel_rfl : loopsOf 0 (bodyOf Try.f23) = []) lo_nil)
theorem cwork_ok (n : Nat) : FnOK Try.prog gls 23 (cwork_ent (A := A) (cwork_k n)) :=
  FnOK.of (cwork_T (uof_k n) (uadd_k n) (umax_k n) (usub_k n) (uquo_k n) n) (cwork_fns n) follows ⟨Try.func23, by kernel_rfl⟩ (cwork_lo n) (rm := [.pure]) fun args k out h => by
    obtain ⟨a0, e, h1⟩ := args1_sound h
    subst e; rw [cwork_eq]; exact h1

end Go.Ev
end

section
/-
  FUNCTION 18: printed by a program of our own (wip/gen/st.py). 'masthead/mastheadlaw05.awake', in continuation form; the evaluator gives it.
-/
set_option linter.all false
set_option maxRecDepth 100000
namespace Go.Ev
open Go.Proofs
variable {A : Type}

-- ============================================================ awake (function 18)
def awake_p (g_ctarget : Int → ((List Int) → Int → Option A) → Option A) (g_uof : Int → ((List Int) → Option A) → Option A) (g_ushl : (List Int) → Int → ((List Int) → Option A) → Option A) (g_cwork : (List Int) → ((List Int) → Option A) → Option A) (g_cbits : (List Int) → (Int → Option A) → Option A) (g_canon : Int → (Bool → Option A) → Option A) (n : Nat) (k : Bool → Option A) : Option A :=
  g_ctarget 486604799 fun r1 r2 =>
  bif (r2 == 0) then
    g_uof 65535 fun r3 =>
    g_ushl r3 208 fun r4 =>
    bif (deq kA4u64 r1 r4) then
      g_cwork r1 fun r5 =>
      g_uof 4295032833 fun r6 =>
      bif (deq kA4u64 r5 r6) then
        g_uof 128 fun r7 =>
        g_cbits r7 fun r8 =>
        bif (r8 == 33587200) then
          g_canon 545259519 fun r9 =>
          k r9
        else
          k false
      else
        k false
    else
      k false
  else
    k false

def awake_k (n : Nat) (k : Bool → Option A) : Option A := awake_p (ctarget_k n) (uof_k n) (ushl_k n) (cwork_k n) (cbits_k n) (canon_k n) n k

noncomputable def awake_E (g_ctarget : Int → ((List Int) → Int → Option A) → Option A) (g_uof : Int → ((List Int) → Option A) → Option A) (g_ushl : (List Int) → Int → ((List Int) → Option A) → Option A) (g_cwork : (List Int) → ((List Int) → Option A) → Option A) (g_cbits : (List Int) → (Int → Option A) → Option A) (g_canon : Int → (Bool → Option A) → Option A) (n : Nat) : Env A := ⟨tys, gls, [(15, ctarget_ent g_ctarget), (35, uof_ent g_uof), (40, ushl_ent g_ushl), (23, cwork_ent g_cwork), (21, cbits_ent g_cbits), (17, canon_ent g_canon)], [], []⟩
theorem awake_T (g_ctarget : Int → ((List Int) → Int → Option A) → Option A) (g_uof : Int → ((List Int) → Option A) → Option A) (g_ushl : (List Int) → Int → ((List Int) → Option A) → Option A) (g_cwork : (List Int) → ((List Int) → Option A) → Option A) (g_cbits : (List Int) → (Int → Option A) → Option A) (g_canon : Int → (Bool → Option A) → Option A) (n : Nat) : TyOK Try.prog (awake_E g_ctarget g_uof g_ushl g_cwork g_cbits g_canon n) := tyOK_of rfl tysB
theorem awake_fns (n : Nat) : FnsOK Try.prog (awake_E (A := A) (ctarget_k n) (uof_k n) (ushl_k n) (cwork_k n) (cbits_k n) (canon_k n) n) := AllOK.env rfl rfl (AllOK.cons (ctarget_ok n) (AllOK.cons (uof_ok n) (AllOK.cons (ushl_ok n) (AllOK.cons (cwork_ok n) (AllOK.cons (cbits_ok n) (AllOK.cons (canon_ok n) AllOK.nil))))))
theorem awake_eqg (g_ctarget : Int → ((List Int) → Int → Option A) → Option A) (g_uof : Int → ((List Int) → Option A) → Option A) (g_ushl : (List Int) → Int → ((List Int) → Option A) → Option A) (g_cwork : (List Int) → ((List Int) → Option A) → Option A) (g_cbits : (List Int) → (Int → Option A) → Option A) (g_canon : Int → (Bool → Option A) → Option A) (n : Nat) (k : AV → List Blk → Option A) : fnK (awake_E g_ctarget g_uof g_ushl g_cwork g_cbits g_canon n) Try.f18 [.pure] [] [] k = awake_p g_ctarget g_uof g_ushl g_cwork g_cbits g_canon n (fun r0 => k (.p .bool r0) []) := by kernel_rfl
theorem awake_eq (n : Nat) (k : AV → List Blk → Option A) : fnK (awake_E (ctarget_k n) (uof_k n) (ushl_k n) (cwork_k n) (cbits_k n) (canon_k n) n) Try.f18 [.pure] [] [] k = awake_k n (fun r0 => k (.p .bool r0) []) := awake_eqg (ctarget_k n) (uof_k n) (ushl_k n) (cwork_k n) (cbits_k n) (canon_k n) n k
def awake_ent (g : (Bool → Option A) → Option A) : Entry A := pureE fun args k => args0 args (g (fun r0 => k (.p .bool r0) []))
theorem awake_lo (n : Nat) : ∀ c, Try.f18.body = some c → ∀ q ∈ loopsOf 0 c, ∀ L, (awake_E (A := A) (ctarget_k n) (uof_k n) (ushl_k n) (cwork_k n) (cbits_k n) (canon_k n) n).lps.lookup q.1 = some L → LoopOK Try.prog gls q.2 L :=
  lo_body (E := awake_E (ctarget_k n) (uof_k n) (ushl_k n) (cwork_k n) (cbits_k n) (canon_k n) n) (by kernel_rfl : Try.f18.body = some (bodyOf Try.f18)) (lo_of (E := awake_E (ctarget_k n) (uof_k n) (ushl_k n) (cwork_k n) (cbits_k n) (canon_k n) n) (by kernel_rfl : loopsOf 0 (bodyOf Try.f18) = []) lo_nil)
theorem awake_ok (n : Nat) : FnOK Try.prog gls 18 (awake_ent (A := A) (awake_k n)) :=
  FnOK.of (awake_T (ctarget_k n) (uof_k n) (ushl_k n) (cwork_k n) (cbits_k n) (canon_k n) n) (awake_fns n) follows ⟨Try.func18, by kernel_rfl⟩ (awake_lo n) (rm := [.pure]) fun args k out h => by
    obtain ⟨e, h1⟩ := args0_sound h
    subst e; rw [awake_eq]; exact h1

end Go.Ev
end

section
/-
  THE PROGRAM IS AWAKE (compacts), and what lies in an argument.
-/
set_option linter.all false
namespace Go.Ev
variable {A : Type}

theorem awake_1000 (k : Bool → Option A) : awake_k 1000 k = k true := by kernel_rfl

theorem wf_int64 {x : Int} (h : WF (.int .u64) x) : ∃ n : Nat, x = (n : Int) ∧ n < 18446744073709551616 := by
  have h1 : IntKind.u64.min ≤ x ∧ x ≤ IntKind.u64.max := h
  rw [show IntKind.u64.min = 0 by decide, show IntKind.u64.max = 18446744073709551615 by decide] at h1
  exact ⟨x.toNat, by omega, by omega⟩
theorem wf_int32 {x : Int} (h : WF (.int .u32) x) : ∃ n : Nat, x = (n : Int) ∧ n < 4294967296 := by
  have h1 : IntKind.u32.min ≤ x ∧ x ≤ IntKind.u32.max := h
  rw [show IntKind.u32.min = 0 by decide, show IntKind.u32.max = 4294967295 by decide] at h1
  exact ⟨x.toNat, by omega, by omega⟩
theorem wf_four {v : List Int} (h : WF kA4u64 v) : ∃ x : Nat, v = ints (uw x) ∧ x < 2 ^ 256 := by
  obtain ⟨hl, hu⟩ := h
  match v, hl with
  | [x, y, z, w], _ =>
    obtain ⟨a, rfl, ha⟩ := wf_int64 (hu x (by simp))
    obtain ⟨b, rfl, hb⟩ := wf_int64 (hu y (by simp))
    obtain ⟨c, rfl, hc⟩ := wf_int64 (hu z (by simp))
    obtain ⟨d, rfl, hd⟩ := wf_int64 (hu w (by simp))
    refine ⟨a + 18446744073709551616 * (b + 18446744073709551616 * (c + 18446744073709551616 * d)), ?_, by rw [show (2 : Nat) ^ 256 = 115792089237316195423570985008687907853269984665640564039457584007913129639936 from by decide]; omega⟩
    have e : uw (a + 18446744073709551616 * (b + 18446744073709551616 * (c + 18446744073709551616 * d))) = [a, b, c, d] := by
      unfold uw
      rw [show (a + 18446744073709551616 * (b + 18446744073709551616 * (c + 18446744073709551616 * d))) % 18446744073709551616 = a from by omega,
        show (a + 18446744073709551616 * (b + 18446744073709551616 * (c + 18446744073709551616 * d))) / 18446744073709551616 % 18446744073709551616 = b from by omega,
        show (a + 18446744073709551616 * (b + 18446744073709551616 * (c + 18446744073709551616 * d))) / 340282366920938463463374607431768211456 % 18446744073709551616 = c from by omega,
        show (a + 18446744073709551616 * (b + 18446744073709551616 * (c + 18446744073709551616 * d))) / 6277101735386680763835789423207666416102355444464034512896 % 18446744073709551616 = d from by omega]
    rw [e]; rfl

end Go.Ev
end

section
/-
  FUNCTION 12: printed by a program of our own (wip/gen/st.py). 'masthead/mastheadlaw05.CompactOrder', in continuation form; the evaluator gives it.
-/
set_option linter.all false
set_option maxRecDepth 100000
namespace Go.Ev
open Go.Proofs
variable {A : Type}

-- ============================================================ order (function 12)
def order_p (g_canon : Int → (Bool → Option A) → Option A) (g_awake : (Bool → Option A) → Option A) (g_ctarget : Int → ((List Int) → Int → Option A) → Option A) (g_ucmp : (List Int) → (List Int) → (Int → Option A) → Option A) (n : Nat) (a0 : Int) (a1 : Int) (k : Bool → Option A) : Option A :=
  g_canon a0 fun r1 =>
  bif (!r1) then
    g_awake fun r2 =>
    k r2
  else
    g_canon a1 fun r3 =>
    bif (!r3) then
      g_awake fun r4 =>
      k r4
    else
      g_ctarget a0 fun r5 r6 =>
      g_ctarget a1 fun r7 r8 =>
      g_ucmp r5 r7 fun r9 =>
      bif (deq .bool (decide (a0 < a1)) (decide (r9 < 0))) then
        g_awake fun r10 =>
        k r10
      else
        k false

def order_k (n : Nat) (a0 : Int) (a1 : Int) (k : Bool → Option A) : Option A := order_p (canon_k n) (awake_k n) (ctarget_k n) (ucmp_k n) n a0 a1 k

noncomputable def order_E (g_canon : Int → (Bool → Option A) → Option A) (g_awake : (Bool → Option A) → Option A) (g_ctarget : Int → ((List Int) → Int → Option A) → Option A) (g_ucmp : (List Int) → (List Int) → (Int → Option A) → Option A) (n : Nat) : Env A := ⟨tys, gls, [(17, canon_ent g_canon), (18, awake_ent g_awake), (15, ctarget_ent g_ctarget), (30, ucmp_ent g_ucmp)], [], []⟩
theorem order_T (g_canon : Int → (Bool → Option A) → Option A) (g_awake : (Bool → Option A) → Option A) (g_ctarget : Int → ((List Int) → Int → Option A) → Option A) (g_ucmp : (List Int) → (List Int) → (Int → Option A) → Option A) (n : Nat) : TyOK Try.prog (order_E g_canon g_awake g_ctarget g_ucmp n) := tyOK_of rfl tysB
theorem order_fns (n : Nat) : FnsOK Try.prog (order_E (A := A) (canon_k n) (awake_k n) (ctarget_k n) (ucmp_k n) n) := AllOK.env rfl rfl (AllOK.cons (canon_ok n) (AllOK.cons (awake_ok n) (AllOK.cons (ctarget_ok n) (AllOK.cons (ucmp_ok n) AllOK.nil))))
theorem order_eqg (g_canon : Int → (Bool → Option A) → Option A) (g_awake : (Bool → Option A) → Option A) (g_ctarget : Int → ((List Int) → Int → Option A) → Option A) (g_ucmp : (List Int) → (List Int) → (Int → Option A) → Option A) (n : Nat) (a0 : Int) (a1 : Int) (k : AV → List Blk → Option A) : fnK (order_E g_canon g_awake g_ctarget g_ucmp n) Try.f12 [.pure] [.p (.int .u32) a0, .p (.int .u32) a1] [] k = order_p g_canon g_awake g_ctarget g_ucmp n a0 a1 (fun r0 => k (.p .bool r0) []) := by kernel_rfl
theorem order_eq (n : Nat) (a0 : Int) (a1 : Int) (k : AV → List Blk → Option A) : fnK (order_E (canon_k n) (awake_k n) (ctarget_k n) (ucmp_k n) n) Try.f12 [.pure] [.p (.int .u32) a0, .p (.int .u32) a1] [] k = order_k n a0 a1 (fun r0 => k (.p .bool r0) []) := order_eqg (canon_k n) (awake_k n) (ctarget_k n) (ucmp_k n) n a0 a1 k
def order_ent (g : Int → Int → (Bool → Option A) → Option A) : Entry A := pureE fun args k => args2 args (.int .u32) (.int .u32) fun a0 a1 => g a0 a1 (fun r0 => k (.p .bool r0) [])
theorem order_lo (n : Nat) : ∀ c, Try.f12.body = some c → ∀ q ∈ loopsOf 0 c, ∀ L, (order_E (A := A) (canon_k n) (awake_k n) (ctarget_k n) (ucmp_k n) n).lps.lookup q.1 = some L → LoopOK Try.prog gls q.2 L :=
  lo_body (E := order_E (canon_k n) (awake_k n) (ctarget_k n) (ucmp_k n) n) (by kernel_rfl : Try.f12.body = some (bodyOf Try.f12)) (lo_of (E := order_E (canon_k n) (awake_k n) (ctarget_k n) (ucmp_k n) n) (by kernel_rfl : loopsOf 0 (bodyOf Try.f12) = []) lo_nil)
theorem order_ok (n : Nat) : FnOK Try.prog gls 12 (order_ent (A := A) (order_k n)) :=
  FnOK.of (order_T (canon_k n) (awake_k n) (ctarget_k n) (ucmp_k n) n) (order_fns n) follows ⟨Try.func12, by kernel_rfl⟩ (order_lo n) (rm := [.pure]) fun args k out h => by
    obtain ⟨a0, a1, e, h1⟩ := args2_sound h
    subst e; rw [order_eq]; exact h1

end Go.Ev
end

section
/-
  THE LAW OF CompactOrder.
-/
set_option linter.all false
namespace Go.Ev

theorem order_num (a b ta tb : Nat) (ha : ctN a = some ta) (hb : ctN b = some tb) (ca : cbN ta = a) (cb : cbN tb = b) : a < b ↔ ta < tb := by
  constructor
  · intro h
    rcases Nat.lt_or_ge ta tb with h2 | h2
    · exact h2
    · have := cbN_mono h2; omega
  · intro h
    have := cbN_mono (Nat.le_of_lt h)
    rcases Nat.lt_or_ge a b with h2 | h2
    · exact h2
    · have h3 : a = b := by omega
      subst h3; rw [ha] at hb; cases hb; omega

theorem canN_true {a : Nat} (h : canN a = true) : ∃ t, ctN a = some t ∧ cbN t = a := by
  unfold canN at h
  cases hc : ctN a with
  | none => rw [hc] at h; cases h
  | some t => rw [hc] at h; exact ⟨t, rfl, by simpa using h⟩

theorem order_law (a0 a1 : Int) (f0 : WF (.int .u32) a0) (f1 : WF (.int .u32) a1) : ∃ n, order_k n a0 a1 (fun r => some r) = some true := by
  refine ⟨1000, ?_⟩
  have haw : ∀ k : Bool → Option Bool, awake_k 1000 k = k true := awake_1000
  have hn : 10 < 1000 := by decide
  generalize 1000 = n at haw hn
  obtain ⟨a, rfl, ha⟩ := wf_int32 f0
  obtain ⟨b, rfl, hb⟩ := wf_int32 f1
  unfold order_k order_p
  rw [canon_law n hn a ha]
  cases hca : canN a with
  | false => rw [Bool.not_false, cond_true, haw]
  | true =>
    rw [Bool.not_true, cond_false, canon_law n hn b hb]
    cases hcb : canN b with
    | false => rw [Bool.not_false, cond_true, haw]
    | true =>
      obtain ⟨ta, h1, h2⟩ := canN_true hca
      obtain ⟨tb, h3, h4⟩ := canN_true hcb
      rw [Bool.not_true, cond_false, ctarget_law n hn a ha, h1]
      show ctarget_k n (b : Int) _ = _
      rw [ctarget_law n hn b hb, h3]
      show ucmp_k n (ints (uw ta)) (ints (uw tb)) _ = _
      rw [ucmp_law n hn ta tb (ctN_lt a ta h1).1 (ctN_lt b tb h3).1]
      have h5 := order_num a b ta tb h1 h3 h2 h4
      have e : deq .bool (decide ((a : Int) < (b : Int))) (decide (ucmpN ta tb < 0)) = true := by
        rw [deq_iff]
        show decide _ = decide _
        apply decide_eq_decide.2
        unfold ucmpN
        constructor
        · intro h; rw [if_pos (h5.1 (by omega))]; decide
        · intro h
          have : ta < tb := by
            rcases Nat.lt_or_ge ta tb with h6 | h6
            · exact h6
            · rw [if_neg (by omega)] at h; split at h <;> omega
          have := h5.2 this; omega
      rw [e, cond_true, haw]

end Go.Ev
end

section
/-
  SUMS, DIFFERENCES, QUOTIENTS of 256-bit numbers: plain laws of the printed functions.
-/
set_option linter.all false
namespace Go.Ev
variable {A : Type}

theorem wd_mod (x i : Nat) (h : i < 4) : wd (x % 2 ^ 256) i = wd x i := by
  apply Nat.eq_of_testBit_eq
  intro t
  rw [wd_testBit, wd_testBit, Nat.testBit_mod_two_pow]
  by_cases ht : t < 64
  · have : 64 * i + t < 256 := by omega
    simp [ht, this]
  · simp [ht]
theorem uw_mod (x : Nat) : uw (x % 2 ^ 256) = uw x := by
  rw [uw_wd, uw_wd, wd_mod _ 0 (by decide), wd_mod _ 1 (by decide), wd_mod _ 2 (by decide), wd_mod _ 3 (by decide)]

/-- Words below i are z's, the others x's. -/
def Mix (z x i : Nat) (l : List Nat) : Prop := l.length = 4 ∧ ∀ j, j < 4 → l[j]? = some (if j < i then wd z j else wd x j)
theorem Mix.start (z x : Nat) : Mix z x 0 (uw x) := ⟨rfl, fun j hj => by rw [uw_at x j hj, if_neg (by omega)]⟩
theorem Mix.step {z x i : Nat} {l : List Nat} (h : Mix z x i l) (hi : i < 4) : Mix z x (i + 1) (l.set i (wd z i)) := by
  refine ⟨by rw [List.length_set]; exact h.1, fun j hj => ?_⟩
  by_cases hji : i = j
  · subst hji; rw [List.getElem?_set_self (by rw [h.1]; exact hi), if_pos (by omega)]
  · rw [List.getElem?_set_ne hji, h.2 j hj]
    by_cases h2 : j < i
    · rw [if_pos h2, if_pos (by omega)]
    · rw [if_neg h2, if_neg (by omega)]
theorem Mix.done {z x : Nat} {l : List Nat} (h : Mix z x 4 l) : l = uw z := uw_ext z l h.1 fun i hi => by rw [h.2 i hi, if_pos hi]
theorem Mix.at {z x i : Nat} {l : List Nat} (h : Mix z x i l) (hi : i < 4) : (ints l)[i]? = some ((wd x i : Nat) : Int) := by
  rw [ints_get, h.2 i hi, if_neg (by omega)]; rfl

theorem P4_zero {x : Nat} (h : x < 2 ^ 256) : x / 2 ^ (64 * 4) = 0 := Nat.div_eq_of_lt h

theorem add64_at (n x y c : Nat) (hc : c ≤ 1) (g : Int → Int → Option A) : add64_k n (x : Int) (y : Int) (c : Int) g = g (((x + y + c) % 18446744073709551616 : Nat) : Int) (((x + y + c) / 18446744073709551616 : Nat) : Int) := by
  unfold add64_k
  rw [if_pos (by omega), if_pos (by omega), if_pos (by omega), if_pos (by omega)]
  rfl
theorem sub64_at (n x y c : Nat) (hc : c ≤ 1) (hx : x < 18446744073709551616) (hy : y < 18446744073709551616) (g : Int → Int → Option A) : sub64_k n (x : Int) (y : Int) (c : Int) g = g (((x + 36893488147419103232 - y - c) % 18446744073709551616 : Nat) : Int) ((if x < y + c then 1 else 0 : Nat) : Int) := by
  unfold sub64_k
  have e1 : ((x : Int) - (y : Int) - (c : Int)) % 18446744073709551616 = (((x + 36893488147419103232 - y - c) % 18446744073709551616 : Nat) : Int) := by omega
  have e2 : (if (x : Int) < (y : Int) + (c : Int) then (1 : Int) else 0) = ((if x < y + c then 1 else 0 : Nat) : Int) := by split <;> split <;> omega
  rw [if_pos (by omega), if_pos (by omega), if_pos (by omega), if_pos (by omega), if_pos (by omega), if_pos (by omega), e1, e2]

-- ------------------------------------------------------------ sums

theorem uadd_l0_law (n : Nat) (x y : Nat) (t4 : List Int) (g : Int → List Int → Option A) : ∀ (d f i c : Nat) (l : List Nat), i + d = 4 → d < f → c ≤ 1 → (x + y) / 2 ^ (64 * i) = x / 2 ^ (64 * i) + y / 2 ^ (64 * i) + c → Mix (x + y) x i l →
    ∃ c', (x + y) / 2 ^ (64 * 4) = x / 2 ^ (64 * 4) + y / 2 ^ (64 * 4) + c' ∧ uadd_l0 (add64_k n) n (ints (uw y)) t4 g f (c : Int) (i : Int) (ints l) = g (c' : Int) (ints (uw (x + y))) := by
  intro d
  induction d with
  | zero =>
    intro f i c l hi hf hc he hm
    obtain ⟨f, rfl⟩ : ∃ g, f = g + 1 := ⟨f - 1, by omega⟩
    have : i = 4 := by omega
    subst this
    refine ⟨c, he, ?_⟩
    rw [uadd_l0, uadd_b0, decide_eq_false (show ¬ ((4 : Nat) : Int) < 4 by omega), cond_false, hm.done]
  | succ d ih =>
    intro f i c l hi hf hc he hm
    obtain ⟨f, rfl⟩ : ∃ g, f = g + 1 := ⟨f - 1, by omega⟩
    have hx := wd_split x i
    have hy := wd_split y i
    have hz := wd_split (x + y) i
    have bx := wd_lt x i
    have by_ := wd_lt y i
    have bz := wd_lt (x + y) i
    have e1 : (wd x i + wd y i + c) % 18446744073709551616 = wd (x + y) i := by omega
    have e3 : IntKind.wrap .i64 ((i : Int) + 1) = ((i + 1 : Nat) : Int) := by rw [wrap_id (by omega) (by omega)]; omega
    obtain ⟨c', h1, h2⟩ := ih f (i + 1) ((wd x i + wd y i + c) / 18446744073709551616) (l.set i (wd (x + y) i)) (by omega) (by omega) (by omega) (by omega) (hm.step (by omega))
    refine ⟨c', h1, ?_⟩
    rw [uadd_l0, uadd_b0, decide_eq_true (show (i : Int) < 4 by omega), cond_true, if_pos (by omega), if_pos (by omega), Int.toNat_natCast, hm.at (by omega), Option.bind_some, if_pos (by omega), if_pos (by omega), iuw_at _ _ (by omega), Option.bind_some]
    rw [add64_at n _ _ c hc, if_pos (by omega), if_pos (by omega), if_pos (by omega), e1, e3, ints_set]
    exact h2

theorem uadd_law (n : Nat) (hn : 10 < n) (x y : Nat) (hx : x < 2 ^ 256) (hy : y < 2 ^ 256) (g : List Int → Bool → Option A) : uadd_k n (ints (uw x)) (ints (uw y)) g = g (ints (uw ((x + y) % 2 ^ 256))) (decide (2 ^ 256 ≤ x + y)) := by
  unfold uadd_k uadd_p
  obtain ⟨c', h1, h2⟩ := uadd_l0_law n x y [0, 0, 0, 0] (fun y5 y6 => g y6 (decide (y5 > 0))) 4 n 0 0 (uw x) (by omega) (by omega) (by omega) (by rw [Nat.mul_zero, Nat.pow_zero, Nat.div_one, Nat.div_one, Nat.div_one]; rfl) (.start _ _)
  rw [P4_zero hx, P4_zero hy, show 2 ^ (64 * 4) = 2 ^ 256 from by decide] at h1
  refine Eq.trans h2 ?_
  rw [uw_mod]
  congr 1
  apply decide_eq_decide.2
  rw [show (2 : Nat) ^ 256 = 115792089237316195423570985008687907853269984665640564039457584007913129639936 from by decide] at *
  omega

-- ------------------------------------------------------------ differences

theorem usub_l0_law (n : Nat) (x y z : Nat) (t4 : List Int) (g : Int → List Int → Option A) : ∀ (d f i c : Nat) (l : List Nat), i + d = 4 → d < f → c ≤ 1 → z / 2 ^ (64 * i) + y / 2 ^ (64 * i) + c = x / 2 ^ (64 * i) + 18446744073709551616 ^ d → Mix z x i l →
    ∃ c', z / 2 ^ (64 * 4) + y / 2 ^ (64 * 4) + c' = x / 2 ^ (64 * 4) + 1 ∧ usub_l0 (sub64_k n) n (ints (uw y)) t4 g f (c : Int) (i : Int) (ints l) = g (c' : Int) (ints (uw z)) := by
  intro d
  induction d with
  | zero =>
    intro f i c l hi hf hc he hm
    obtain ⟨f, rfl⟩ : ∃ g, f = g + 1 := ⟨f - 1, by omega⟩
    have : i = 4 := by omega
    subst this
    refine ⟨c, he, ?_⟩
    rw [usub_l0, usub_b0, decide_eq_false (show ¬ ((4 : Nat) : Int) < 4 by omega), cond_false, hm.done]
  | succ d ih =>
    intro f i c l hi hf hc he hm
    obtain ⟨f, rfl⟩ : ∃ g, f = g + 1 := ⟨f - 1, by omega⟩
    have hx := wd_split x i
    have hy := wd_split y i
    have hz := wd_split z i
    have bx := wd_lt x i
    have by_ := wd_lt y i
    have bz := wd_lt z i
    rw [Nat.pow_succ] at he
    generalize hR : 18446744073709551616 ^ d = R at he
    have hD : ((wd x i : Nat) : Int) - ((wd y i : Nat) : Int) - (c : Int) - ((wd z i : Nat) : Int) = 18446744073709551616 * (((z / 2 ^ (64 * (i + 1)) : Nat) : Int) + ((y / 2 ^ (64 * (i + 1)) : Nat) : Int) - ((x / 2 ^ (64 * (i + 1)) : Nat) : Int) - (R : Int)) := by omega
    have hD2 : ((z / 2 ^ (64 * (i + 1)) : Nat) : Int) + ((y / 2 ^ (64 * (i + 1)) : Nat) : Int) - ((x / 2 ^ (64 * (i + 1)) : Nat) : Int) - (R : Int) = if wd x i < wd y i + c then -1 else 0 := by
      generalize ((z / 2 ^ (64 * (i + 1)) : Nat) : Int) + ((y / 2 ^ (64 * (i + 1)) : Nat) : Int) - ((x / 2 ^ (64 * (i + 1)) : Nat) : Int) - (R : Int) = D at hD
      clear he hx hy hz
      split <;> omega
    have e1 : (wd x i + 36893488147419103232 - wd y i - c) % 18446744073709551616 = wd z i := by
      rw [hD2] at hD
      clear he hx hy hz hD2
      split at hD <;> omega
    have e3 : IntKind.wrap .i64 ((i : Int) + 1) = ((i + 1 : Nat) : Int) := by rw [wrap_id (by omega) (by omega)]; omega
    obtain ⟨c', h1, h2⟩ := ih f (i + 1) (if wd x i < wd y i + c then 1 else 0) (l.set i (wd z i)) (by omega) (by omega) (by split <;> omega) (by rw [hR]; clear he hx hy hz hD e1; split at hD2 <;> rename_i hq <;> simp only [hq, if_true, if_false] <;> omega) (hm.step (by omega))
    refine ⟨c', h1, ?_⟩
    rw [usub_l0, usub_b0, decide_eq_true (show (i : Int) < 4 by omega), cond_true, if_pos (by omega), if_pos (by omega), Int.toNat_natCast, hm.at (by omega), Option.bind_some, if_pos (by omega), if_pos (by omega), iuw_at _ _ (by omega), Option.bind_some]
    rw [sub64_at n _ _ c hc bx by_, if_pos (by omega), if_pos (by omega), if_pos (by omega), e1, e3, ints_set]
    exact h2

theorem usub_law (n : Nat) (hn : 10 < n) (x y : Nat) (hx : x < 2 ^ 256) (hy : y < 2 ^ 256) (g : List Int → Bool → Option A) : usub_k n (ints (uw x)) (ints (uw y)) g = g (ints (uw ((x + 2 ^ 256 - y) % 2 ^ 256))) (decide (x < y)) := by
  unfold usub_k usub_p
  obtain ⟨c', h1, h2⟩ := usub_l0_law n x y (x + 2 ^ 256 - y) [0, 0, 0, 0] (fun y5 y6 => g y6 (decide (y5 > 0))) 4 n 0 0 (uw x) (by omega) (by omega) (by omega) (by
    rw [Nat.mul_zero, Nat.pow_zero, Nat.div_one, Nat.div_one, Nat.div_one, show (18446744073709551616 : Nat) ^ 4 = 2 ^ 256 from by decide]; omega) (.start _ _)
  rw [P4_zero hx, P4_zero hy, show 2 ^ (64 * 4) = 2 ^ 256 from by decide] at h1
  refine Eq.trans h2 ?_
  rw [uw_mod]
  congr 1
  apply decide_eq_decide.2
  rw [show (2 : Nat) ^ 256 = 115792089237316195423570985008687907853269984665640564039457584007913129639936 from by decide] at *
  omega

-- ------------------------------------------------------------ quotients, bit by bit

theorem set_bit (m k : Nat) (hk : k < 256) : (uw (m * 2 ^ (k + 1))).set (k / 64) (wd (m * 2 ^ (k + 1)) (k / 64) ||| 1 * 2 ^ (k % 64) % 18446744073709551616) = uw (m * 2 ^ (k + 1) + 2 ^ k) := by
  refine uw_ext _ _ (by rw [List.length_set]; rfl) fun i hi => ?_
  have e : m * 2 ^ (k + 1) + 2 ^ k = m * 2 ^ (k + 1) ||| 2 ^ k := (or_parts m (2 ^ k) (k + 1) (Nat.pow_lt_pow_right (by decide) (by omega))).symm
  rw [e]
  have h1 : ∀ t, (wd (m * 2 ^ (k + 1) ||| 2 ^ k) i).testBit t = (decide (t < 64) && ((m * 2 ^ (k + 1)).testBit (64 * i + t) || decide (k = 64 * i + t))) := fun t => by
    rw [wd_testBit, Nat.testBit_or, Nat.testBit_two_pow]
  by_cases hik : k / 64 = i
  · subst hik
    rw [List.getElem?_set_self (by exact hi)]
    congr 1
    apply Nat.eq_of_testBit_eq
    intro t
    rw [h1, Nat.testBit_or, wd_testBit, Nat.one_mul, show (18446744073709551616 : Nat) = 2 ^ 64 from by decide, Nat.testBit_mod_two_pow, Nat.testBit_two_pow]
    by_cases ht : t < 64
    · have : (k % 64 = t) ↔ (k = 64 * (k / 64) + t) := by omega
      simp [ht, this]
    · simp [ht]
  · rw [List.getElem?_set_ne hik, uw_at _ _ hi]
    congr 1
    apply Nat.eq_of_testBit_eq
    intro t
    rw [h1, wd_testBit]
    by_cases ht : t < 64
    · have : ¬ (k = 64 * i + t) := by omega
      simp [ht, this]
    · simp [ht]

theorem uquo_l0_law (n : Nat) (hn : 10 < n) (x b : Nat) (hb : b ≠ 0) (hb2 : b < 2 ^ 256) (t4 t5 : List Int) (g : List Int → List Int → Option A) : ∀ (k f a m : Nat), k < f → a < 2 ^ 256 → k ≤ 256 → (0 < k → b * 2 ^ (k - 1) < 2 ^ 256) → a < b * 2 ^ k → m * 2 ^ k * b + a = x →
    uquo_l0 (ulen_k n) (ushl_k n) (usub_k n) n (ints (uw b)) t4 t5 g f ((k : Int) - 1) (ints (uw a)) (ints (uw (m * 2 ^ k))) = g (ints (uw (x % b))) (ints (uw (x / b))) := by
  intro k
  induction k with
  | zero =>
    intro f a m hf ha hk hb3 hlt he
    obtain ⟨f, rfl⟩ : ∃ g, f = g + 1 := ⟨f - 1, by omega⟩
    rw [uquo_l0, uquo_b0, decide_eq_false (show ¬ ((0 : Nat) : Int) - 1 ≥ 0 by omega), cond_false]
    rw [Nat.pow_zero, Nat.mul_one] at hlt he ⊢
    have e1 : x % b = a := by rw [← he, Nat.add_comm, Nat.add_mul_mod_self_right, Nat.mod_eq_of_lt hlt]
    have e2 : x / b = m := by rw [← he, Nat.add_comm, Nat.add_mul_div_right _ _ (by omega), Nat.div_eq_of_lt hlt, Nat.zero_add]
    rw [e1, e2]
  | succ k ih =>
    intro f a m hf ha hk hb3 hlt he
    obtain ⟨f, rfl⟩ : ∃ g, f = g + 1 := ⟨f - 1, by omega⟩
    have hb4 := hb3 (by omega)
    rw [Nat.add_sub_cancel] at hb4
    have hbk : 0 < k → b * 2 ^ (k - 1) < 2 ^ 256 := fun h => Nat.lt_of_le_of_lt (Nat.mul_le_mul_left _ (Nat.pow_le_pow_right (by decide) (by omega))) hb4
    have e0 : ((k + 1 : Nat) : Int) - 1 = (k : Int) := by omega
    have e1 : IntKind.wrap .i64 ((k : Int) - 1) = (k : Int) - 1 := wrap_id (by omega) (by omega)
    rw [uquo_l0, uquo_b0, e0, decide_eq_true (show (k : Int) ≥ 0 by omega), cond_true, ushl_law n hn, Nat.mod_eq_of_lt hb4, usub_law n hn _ _ ha hb4, e1]
    have hp : 2 ^ (k + 1) = 2 ^ k * 2 := Nat.pow_succ 2 k
    have hbp : b * 2 ^ (k + 1) = 2 * (b * 2 ^ k) := by rw [hp]; generalize 2 ^ k = p; rw [← Nat.mul_assoc, Nat.mul_comm]
    have hm2 : m * 2 ^ (k + 1) = m * 2 * 2 ^ k := by rw [hp]; generalize 2 ^ k = p; rw [Nat.mul_comm p 2, Nat.mul_assoc]
    by_cases hc : a < b * 2 ^ k
    · rw [decide_eq_true hc, Bool.not_true, cond_false, hm2]
      exact ih f a (m * 2) (by omega) ha (by omega) hbk hc (by rw [← hm2]; exact he)
    · have e2 : IntKind.wrap .i64 (Int.tdiv (k : Int) 64) = ((k / 64 : Nat) : Int) := by
        rw [show (64 : Int) = ((64 : Nat) : Int) from rfl, tdiv_nat]; exact wrap_id (by omega) (by omega)
      have e3 : Int.tmod (k : Int) 64 = ((k % 64 : Nat) : Int) := by rw [show (64 : Int) = ((64 : Nat) : Int) from rfl, tmod_nat]
      have e4 : (a + 2 ^ 256 - b * 2 ^ k) % 2 ^ 256 = a - b * 2 ^ k := by
        rw [show a + 2 ^ 256 - b * 2 ^ k = (a - b * 2 ^ k) + 2 ^ 256 from by omega, Nat.add_mod_right, Nat.mod_eq_of_lt (by omega)]
      have e5 : shl .u64 1 ((k % 64 : Nat) : Int) = ((1 * 2 ^ (k % 64) % 18446744073709551616 : Nat) : Int) := shl_u64 1 (k % 64) (by omega)
      rw [decide_eq_false hc, Bool.not_false, cond_true, e2, e3, e4, e5, if_pos (by omega), if_pos (by omega), Int.toNat_natCast, iuw_at _ _ (by omega), Option.bind_some, if_neg (by omega), if_pos (by omega), if_pos (by omega), if_pos (by omega),
        ior_u64 _ _ (wd_lt _ _) (Nat.mod_lt _ (by decide)), ints_set, set_bit m k (by omega)]
      have e6 : m * 2 ^ (k + 1) + 2 ^ k = (m * 2 + 1) * 2 ^ k := by rw [hm2, Nat.add_mul, Nat.one_mul]
      rw [e6]
      refine ih f (a - b * 2 ^ k) (m * 2 + 1) (by omega) (by omega) (by omega) hbk (by omega) ?_
      rw [← e6, Nat.add_mul, Nat.mul_comm (2 ^ k) b]
      omega

theorem uquo_law (n : Nat) (hn : 300 < n) (x b : Nat) (hx : x < 2 ^ 256) (hb : b < 2 ^ 256) (hb0 : b ≠ 0) (g : List Int → List Int → Option A) : uquo_k n (ints (uw x)) (ints (uw b)) g = g (ints (uw (x / b))) (ints (uw (x % b))) := by
  unfold uquo_k uquo_p
  have hz : deq kA4u64 (ints (uw b)) ([0, 0, 0, 0] : List Int) = false := by
    cases hd : deq kA4u64 (ints (uw b)) ([0, 0, 0, 0] : List Int) with
    | false => rfl
    | true =>
      have h1 := (deq_iff kA4u64 _ _).1 hd
      rw [zero_uw] at h1
      have h2 := congrArg (fun l => wval (List.map Int.toNat l)) h1
      simp only [ints, List.map_map, Function.comp_def, Int.toNat_natCast, List.map_id'] at h2
      rw [wval_uw b hb, wval_uw 0 (by decide)] at h2
      exact absurd h2 hb0
  have hbx : bl x ≤ 256 := (bl_le x 256).2 hx
  have hbb : bl b ≤ 256 := (bl_le b 256).2 hb
  rw [hz, cond_false, ulen_law n (by omega) x hx, ulen_law n (by omega) b hb, wrap_id (x := ((bl x : Nat) : Int) - ((bl b : Nat) : Int)) (by omega) (by omega)]
  by_cases hle : bl b ≤ bl x
  · have e : ((bl x : Nat) : Int) - ((bl b : Nat) : Int) = ((bl x - bl b + 1 : Nat) : Int) - 1 := by omega
    have hlow : 2 ^ (bl b - 1) ≤ b := le_of_bl (by have := bl_pos hb0; omega)
    have hz2 : ([0, 0, 0, 0] : List Int) = ints (uw (0 * 2 ^ (bl x - bl b + 1))) := by rw [Nat.zero_mul]; exact zero_uw
    have h := uquo_l0_law n (by omega) x b hb0 hb [0, 0, 0, 0] [0, 0, 0, 0] (fun y7 y8 => g y8 y7) (bl x - bl b + 1) n x 0 (by omega) hx (by have := bl_pos hb0; omega) (fun _ => by
      rw [Nat.add_sub_cancel]
      calc b * 2 ^ (bl x - bl b) < 2 ^ bl b * 2 ^ (bl x - bl b) := Nat.mul_lt_mul_of_pos_right (lt_bl b) (Nat.two_pow_pos _)
        _ = 2 ^ bl x := by rw [← Nat.pow_add]; congr 1; omega
        _ ≤ 2 ^ 256 := Nat.pow_le_pow_right (by decide) hbx) (by
      calc x < 2 ^ bl x := lt_bl x
        _ = 2 ^ (bl b - 1) * 2 ^ (bl x - bl b + 1) := by rw [← Nat.pow_add]; congr 1; have := bl_pos hb0; omega
        _ ≤ b * 2 ^ (bl x - bl b + 1) := Nat.mul_le_mul_right _ hlow) (by rw [Nat.zero_mul, Nat.zero_mul, Nat.zero_add])
    rw [← hz2, ← e] at h
    exact h
  · have hlt : x < b := by
      rcases Nat.lt_or_ge x b with h | h
      · exact h
      · have : bl b ≤ bl x := (bl_le b _).2 (Nat.lt_of_le_of_lt h (lt_bl x)); omega
    obtain ⟨f, rfl⟩ : ∃ g, n = g + 1 := ⟨n - 1, by omega⟩
    rw [uquo_l0, uquo_b0, decide_eq_false (show ¬ ((bl x : Nat) : Int) - ((bl b : Nat) : Int) ≥ 0 by omega), cond_false, Nat.div_eq_of_lt hlt, Nat.mod_eq_of_lt hlt, zero_uw]

end Go.Ev
end

section
/-
  FUNCTION 10: printed by a program of our own (wip/gen/st.py). 'masthead/mastheadlaw05.CompactRounds', in continuation form; the evaluator gives it.
-/
set_option linter.all false
set_option maxRecDepth 100000
namespace Go.Ev
open Go.Proofs
variable {A : Type}

-- ============================================================ rounds (function 10)
def rounds_p (g_cbits : (List Int) → (Int → Option A) → Option A) (g_ctarget : Int → ((List Int) → Int → Option A) → Option A) (g_awake : (Bool → Option A) → Option A) (g_usub : (List Int) → (List Int) → ((List Int) → Bool → Option A) → Option A) (g_canon : Int → (Bool → Option A) → Option A) (g_ushr : (List Int) → Int → ((List Int) → Option A) → Option A) (g_ucmp : (List Int) → (List Int) → (Int → Option A) → Option A) (n : Nat) (a0 : (List Int)) (k : Bool → Option A) : Option A :=
  g_cbits a0 fun r1 =>
  g_ctarget r1 fun r2 r3 =>
  bif (deq kA4u64 a0 [0, 0, 0, 0]) then
    bif (r1 == 0) then
      bif (r3 == 5) then
        g_awake fun r4 =>
        k r4
      else
        k false
    else
      k false
  else
    g_usub a0 r2 fun r5 r6 =>
    bif (r3 == 0) then
      bif (!r6) then
        bif (deq kA4u64 r5 [0, 0, 0, 0]) then
          g_canon r1 fun r7 =>
          bif r7 then
            g_awake fun r8 =>
            k r8
          else
            k false
        else
          g_ushr a0 15 fun r9 =>
          g_ucmp r5 r9 fun r10 =>
          bif (decide (r10 < 0)) then
            g_canon r1 fun r11 =>
            bif r11 then
              g_awake fun r12 =>
              k r12
            else
              k false
          else
            k false
      else
        k false
    else
      k false

def rounds_k (n : Nat) (a0 : (List Int)) (k : Bool → Option A) : Option A := rounds_p (cbits_k n) (ctarget_k n) (awake_k n) (usub_k n) (canon_k n) (ushr_k n) (ucmp_k n) n a0 k

noncomputable def rounds_E (g_cbits : (List Int) → (Int → Option A) → Option A) (g_ctarget : Int → ((List Int) → Int → Option A) → Option A) (g_awake : (Bool → Option A) → Option A) (g_usub : (List Int) → (List Int) → ((List Int) → Bool → Option A) → Option A) (g_canon : Int → (Bool → Option A) → Option A) (g_ushr : (List Int) → Int → ((List Int) → Option A) → Option A) (g_ucmp : (List Int) → (List Int) → (Int → Option A) → Option A) (n : Nat) : Env A := ⟨tys, gls, [(21, cbits_ent g_cbits), (15, ctarget_ent g_ctarget), (18, awake_ent g_awake), (33, usub_ent g_usub), (17, canon_ent g_canon), (34, ushr_ent g_ushr), (30, ucmp_ent g_ucmp)], [], []⟩
theorem rounds_T (g_cbits : (List Int) → (Int → Option A) → Option A) (g_ctarget : Int → ((List Int) → Int → Option A) → Option A) (g_awake : (Bool → Option A) → Option A) (g_usub : (List Int) → (List Int) → ((List Int) → Bool → Option A) → Option A) (g_canon : Int → (Bool → Option A) → Option A) (g_ushr : (List Int) → Int → ((List Int) → Option A) → Option A) (g_ucmp : (List Int) → (List Int) → (Int → Option A) → Option A) (n : Nat) : TyOK Try.prog (rounds_E g_cbits g_ctarget g_awake g_usub g_canon g_ushr g_ucmp n) := tyOK_of rfl tysB
theorem rounds_fns (n : Nat) : FnsOK Try.prog (rounds_E (A := A) (cbits_k n) (ctarget_k n) (awake_k n) (usub_k n) (canon_k n) (ushr_k n) (ucmp_k n) n) := AllOK.env rfl rfl (AllOK.cons (cbits_ok n) (AllOK.cons (ctarget_ok n) (AllOK.cons (awake_ok n) (AllOK.cons (usub_ok n) (AllOK.cons (canon_ok n) (AllOK.cons (ushr_ok n) (AllOK.cons (ucmp_ok n) AllOK.nil)))))))
theorem rounds_eqg (g_cbits : (List Int) → (Int → Option A) → Option A) (g_ctarget : Int → ((List Int) → Int → Option A) → Option A) (g_awake : (Bool → Option A) → Option A) (g_usub : (List Int) → (List Int) → ((List Int) → Bool → Option A) → Option A) (g_canon : Int → (Bool → Option A) → Option A) (g_ushr : (List Int) → Int → ((List Int) → Option A) → Option A) (g_ucmp : (List Int) → (List Int) → (Int → Option A) → Option A) (n : Nat) (a0 : (List Int)) (k : AV → List Blk → Option A) : fnK (rounds_E g_cbits g_ctarget g_awake g_usub g_canon g_ushr g_ucmp n) Try.f10 [.pure] [.p kA4u64 a0] [] k = rounds_p g_cbits g_ctarget g_awake g_usub g_canon g_ushr g_ucmp n a0 (fun r0 => k (.p .bool r0) []) := by kernel_rfl
theorem rounds_eq (n : Nat) (a0 : (List Int)) (k : AV → List Blk → Option A) : fnK (rounds_E (cbits_k n) (ctarget_k n) (awake_k n) (usub_k n) (canon_k n) (ushr_k n) (ucmp_k n) n) Try.f10 [.pure] [.p kA4u64 a0] [] k = rounds_k n a0 (fun r0 => k (.p .bool r0) []) := rounds_eqg (cbits_k n) (ctarget_k n) (awake_k n) (usub_k n) (canon_k n) (ushr_k n) (ucmp_k n) n a0 k
def rounds_ent (g : (List Int) → (Bool → Option A) → Option A) : Entry A := pureE fun args k => args1 args kA4u64 fun a0 => g a0 (fun r0 => k (.p .bool r0) [])
theorem rounds_lo (n : Nat) : ∀ c, Try.f10.body = some c → ∀ q ∈ loopsOf 0 c, ∀ L, (rounds_E (A := A) (cbits_k n) (ctarget_k n) (awake_k n) (usub_k n) (canon_k n) (ushr_k n) (ucmp_k n) n).lps.lookup q.1 = some L → LoopOK Try.prog gls q.2 L :=
  lo_body (E := rounds_E (cbits_k n) (ctarget_k n) (awake_k n) (usub_k n) (canon_k n) (ushr_k n) (ucmp_k n) n) (by kernel_rfl : Try.f10.body = some (bodyOf Try.f10)) (lo_of (E := rounds_E (cbits_k n) (ctarget_k n) (awake_k n) (usub_k n) (canon_k n) (ushr_k n) (ucmp_k n) n) (by kernel_rfl : loopsOf 0 (bodyOf Try.f10) = []) lo_nil)
theorem rounds_ok (n : Nat) : FnOK Try.prog gls 10 (rounds_ent (A := A) (rounds_k n)) :=
  FnOK.of (rounds_T (cbits_k n) (ctarget_k n) (awake_k n) (usub_k n) (canon_k n) (ushr_k n) (ucmp_k n) n) (rounds_fns n) follows ⟨Try.func10, by kernel_rfl⟩ (rounds_lo n) (rm := [.pure]) fun args k out h => by
    obtain ⟨a0, e, h1⟩ := args1_sound h
    subst e; rw [rounds_eq]; exact h1

end Go.Ev
end

