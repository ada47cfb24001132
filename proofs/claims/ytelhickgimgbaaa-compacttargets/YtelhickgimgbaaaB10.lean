import Derived.Test.YtelhickgimgbaaaB5
import Derived.Test.YtelhickgimgbaaaB6
import Derived.Test.YtelhickgimgbaaaB9
import Derived.Test.YtelhickgimgbaaaB7
import Derived.Test.YtelhickgimgbaaaB8
set_option linter.all false
section
/-
  FUNCTION 55: printed by a program of our own (wip/gen/st.py). 'math/bits.Add64', in continuation form; the evaluator gives it.
-/
set_option linter.all false
set_option maxRecDepth 100000
namespace Go.Ev
open Go.Proofs
variable {A : Type}

-- ============================================================ add64 (function 55), the model's own
def add64_k (n : Nat) (x y c : Int) (k : Int → Int → Option A) : Option A :=
  if 0 ≤ x then if 0 ≤ y then if 0 ≤ c then if c ≤ 1 then k ((x + y + c) % 18446744073709551616) ((x + y + c) / 18446744073709551616) else none else none else none else none

def add64_ent (g : Int → Int → Int → (Int → Int → Option A) → Option A) : Entry A := pureE fun args k => args3 args (.int .u64) (.int .u64) (.int .u64) fun a0 a1 a2 => g a0 a1 a2 (fun r0 r1 => k (.tup [.p (.int .u64) r0, .p (.int .u64) r1]) [])
theorem add64_ok (n : Nat) : FnOK Try.prog gls 55 (add64_ent (A := A) (add64_k n)) := carry_ok (h := fun x y c => ((x + y + c) % 18446744073709551616, (x + y + c) / 18446744073709551616)) (e := add64Entry) Try.func55 rfl (by kernel_rfl) (by kernel_rfl) (by kernel_rfl) (fun x y c h1 h2 h3 h4 P w => run_add64 x y c h1 h2 h3 h4 w) fun args k out h => by
    obtain ⟨a0, a1, a2, e, h1⟩ := args3_sound h
    subst e; exact ⟨a0, a1, a2, rfl, h1⟩


end Go.Ev
end

section
/-
  FUNCTION 48: printed by a program of our own (wip/gen/st.py). '(masthead/wide.U).Add', in continuation form; the evaluator gives it.
-/
set_option linter.all false
set_option maxRecDepth 100000
namespace Go.Ev
open Go.Proofs
variable {A : Type}

-- ============================================================ uadd (function 48)
def uadd_b0 (g_add64 : Int → Int → Int → (Int → Int → Option A) → Option A) (n : Nat) (b : (List Int)) (t4 : (List Int)) (k0 : Int → (List Int) → Option A) (r : Int → Int → (List Int) → Option A) (c : Int) (t8 : Int) (a : (List Int)) : Option A :=
  bif (decide (t8 < 4)) then
    if 0 ≤ t8 then
      if t8 < 4 then
        (a[(Int.toNat t8)]?).bind fun y1 =>
        if 0 ≤ t8 then
          if t8 < 4 then
            (b[(Int.toNat t8)]?).bind fun y2 =>
            g_add64 y1 y2 c fun r3 r4 =>
            if 0 ≤ t8 then
              if t8 < 4 then
                if (Int.toNat t8) < 4 then
                  r r4 (IntKind.wrap .i64 (t8 + 1)) (a.set (Int.toNat t8) r3)
                else none
              else none
            else none
          else none
        else none
      else none
    else none
  else
    k0 c a

def uadd_l0 (g_add64 : Int → Int → Int → (Int → Int → Option A) → Option A) (n : Nat) (b : (List Int)) (t4 : (List Int)) (k0 : Int → (List Int) → Option A) : Nat → Int → Int → (List Int) → Option A
  | 0 => fun _ _ _ => none
  | f + 1 => uadd_b0 g_add64 n b t4 k0 (uadd_l0 g_add64 n b t4 k0 f)

def uadd_p (g_add64 : Int → Int → Int → (Int → Int → Option A) → Option A) (n : Nat) (a0 : (List Int)) (a1 : (List Int)) (k : (List Int) → Bool → Option A) : Option A :=
  uadd_l0 g_add64 n a1 [0, 0, 0, 0] (fun y5 y6 =>
    k y6 (decide (y5 > 0))) n 0 0 a0

def uadd_k (n : Nat) (a0 : (List Int)) (a1 : (List Int)) (k : (List Int) → Bool → Option A) : Option A := uadd_p (add64_k n) n a0 a1 k

noncomputable def uadd_c0 : Code := codeAt [1, 1, 0, 1, 0, 0] (bodyOf Try.f48)
def uadd_d0 : List Nat := [0, 1, 5, 7, 9, 10, 11, 12, 13, 14, 15, 16, 17, 18, 19, 20, 21, 22, 23, 24]
def uadd_y0 : List Nat := [0, 1, 3, 5, 7, 8, 9, 10, 11, 12, 13, 14, 15, 16, 17, 18, 19, 20, 21, 22, 23, 24, 25, 26, 27]
def uadd_sh0 : Shape := ⟨[.any, .any, (.ptr 0), (.ptr 1), (.ptr 2), .any, (.p (.int .u64)), .any, (.p (.int .i64)), .any, .any, .any, .any, .any, .any, .any, .any, .any, .any, .any, .any, .any, .any, .any, .any, .any, .any, .any], [(.var 25 kA4u64 (.p kA4u64)), (.var 25 kA4u64 (.p kA4u64)), (.var 25 kA4u64 (.p kA4u64))], 0⟩
def uadd_t0 (b : (List Int)) (t4 : (List Int)) (c : Int) (t8 : Int) (a : (List Int)) : uadd_sh0.den := (((), (), (), (), (), (), c, (), t8, (), (), (), (), (), (), (), (), (), (), (), (), (), (), (), (), (), (), (), ()), (a, b, t4, ()))
def uadd_x0_0 (b : (List Int)) (t4 : (List Int)) (z0 : Int) (z1 : (List Int)) : St := ⟨[.any, .any, .ptr 0 [], .any, .ptr 1 [], .any, .p (.int .u64) z0, .any, .any, .any, .any, .any, .any, .any, .any, .any, .any, .any, .any, .any, .any, .any, .any, .any, .any, .any, .any, .any], [.var 25 kA4u64 (.p kA4u64 z1), .var 25 kA4u64 (.p kA4u64 t4)], 0⟩
def uadd_g0 (g_add64 : Int → Int → Int → (Int → Int → Option A) → Option A) (n : Nat) (d : uadd_sh0.den) (k : Ex → St → Option A) : Option A :=
  uadd_l0 g_add64 n d.2.2.1 d.2.2.2.1 (fun z0 z1 => k (.exit 0) (uadd_x0_0 d.2.2.1 d.2.2.2.1 z0 z1)) n d.1.2.2.2.2.2.2.1 d.1.2.2.2.2.2.2.2.2.1 d.2.1
noncomputable def uadd_E (g_add64 : Int → Int → Int → (Int → Int → Option A) → Option A) (n : Nat) : Env A := ⟨tys, gls, [(55, add64_ent g_add64)], [(0, loopE uadd_d0 uadd_sh0 (uadd_g0 g_add64 n))], []⟩
theorem uadd_T (g_add64 : Int → Int → Int → (Int → Int → Option A) → Option A) (n : Nat) : TyOK Try.prog (uadd_E g_add64 n) := tyOK_of rfl tysB
theorem uadd_fns (n : Nat) : FnsOK Try.prog (uadd_E (A := A) (add64_k n) n) := AllOK.env rfl rfl (AllOK.cons (add64_ok n) AllOK.nil)
noncomputable def uadd_LK0 (g_add64 : Int → Int → Int → (Int → Int → Option A) → Option A) (n : Nat) (b : (List Int)) (t4 : (List Int)) (k : Ex → St → Option A) (f : Nat) (c : Int) (t8 : Int) (a : (List Int)) : Option A := loopK (codeK (uadd_E g_add64 n) 1 uadd_c0) uadd_d0 uadd_y0 f (uadd_sh0.fill (uadd_t0 b t4 c t8 a)) k
theorem uadd_st0 (g_add64 : Int → Int → Int → (Int → Int → Option A) → Option A) (n f : Nat) (b : (List Int)) (t4 : (List Int)) (k : Ex → St → Option A) (c : Int) (t8 : Int) (a : (List Int)) : uadd_LK0 g_add64 n b t4 k (f + 1) c t8 a = uadd_b0 g_add64 n b t4 (fun z0 z1 => k (.exit 0) (uadd_x0_0 b t4 z0 z1)) (uadd_LK0 g_add64 n b t4 k f) c t8 a := by kernel_rfl
theorem uadd_le0 (g_add64 : Int → Int → Int → (Int → Int → Option A) → Option A) (n : Nat) (b : (List Int)) (t4 : (List Int)) (k : Ex → St → Option A) : ∀ (f : Nat) (c : Int) (t8 : Int) (a : (List Int)), uadd_LK0 g_add64 n b t4 k f c t8 a = uadd_l0 g_add64 n b t4 (fun z0 z1 => k (.exit 0) (uadd_x0_0 b t4 z0 z1)) f c t8 a := by
  intro f
  induction f with
  | zero => intros; kernel_rfl
  | succ f ih => intro c t8 a; exact (uadd_st0 g_add64 n f b t4 k c t8 a).trans ((congrArg (fun r => uadd_b0 g_add64 n b t4 (fun z0 z1 => k (.exit 0) (uadd_x0_0 b t4 z0 z1)) r c t8 a) (funext fun c => funext fun t8 => funext fun a => ih c t8 a)).trans (by kernel_rfl))
theorem uadd_lo0 (n : Nat) : LoopOK Try.prog gls uadd_c0 (loopE uadd_d0 uadd_sh0 (uadd_g0 (A := A) (add64_k n) n)) :=
  LoopOK.of (uadd_T (add64_k n) n) (uadd_fns n) follows (j := 1) (n := n) (xdead := uadd_y0) (lo_of (by kernel_rfl : loopsOf 1 uadd_c0 = []) lo_nil) fun d k => Eq.trans (by kernel_rfl) (uadd_le0 (add64_k n) n d.2.2.1 d.2.2.2.1 k n d.1.2.2.2.2.2.2.1 d.1.2.2.2.2.2.2.2.2.1 d.2.1)
theorem uadd_eqg (g_add64 : Int → Int → Int → (Int → Int → Option A) → Option A) (n : Nat) (a0 : (List Int)) (a1 : (List Int)) (k : AV → List Blk → Option A) : fnK (uadd_E g_add64 n) Try.f48 [.pure, .pure] [.p kA4u64 a0, .p kA4u64 a1] [] k = uadd_p g_add64 n a0 a1 (fun r0 r1 => k (.tup [.p kA4u64 r0, .p .bool r1]) []) := by kernel_rfl
theorem uadd_eq (n : Nat) (a0 : (List Int)) (a1 : (List Int)) (k : AV → List Blk → Option A) : fnK (uadd_E (add64_k n) n) Try.f48 [.pure, .pure] [.p kA4u64 a0, .p kA4u64 a1] [] k = uadd_k n a0 a1 (fun r0 r1 => k (.tup [.p kA4u64 r0, .p .bool r1]) []) := uadd_eqg (add64_k n) n a0 a1 k
def uadd_ent (g : (List Int) → (List Int) → ((List Int) → Bool → Option A) → Option A) : Entry A := pureE fun args k => args2 args kA4u64 kA4u64 fun a0 a1 => g a0 a1 (fun r0 r1 => k (.tup [.p kA4u64 r0, .p .bool r1]) [])
theorem uadd_lo (n : Nat) : ∀ c, Try.f48.body = some c → ∀ q ∈ loopsOf 0 c, ∀ L, (uadd_E (A := A) (add64_k n) n).lps.lookup q.1 = some L → LoopOK Try.prog gls q.2 L :=
  lo_body (E := uadd_E (add64_k n) n) (by kernel_rfl : Try.f48.body = some (bodyOf Try.f48)) (lo_of (E := uadd_E (add64_k n) n) (by kernel_rfl : loopsOf 0 (bodyOf Try.f48) = [(0, uadd_c0)]) (lo_cons rfl (uadd_lo0 n) lo_nil))
theorem uadd_ok (n : Nat) : FnOK Try.prog gls 48 (uadd_ent (A := A) (uadd_k n)) :=
  FnOK.of (uadd_T (add64_k n) n) (uadd_fns n) follows ⟨Try.func48, by kernel_rfl⟩ (uadd_lo n) (rm := [.pure, .pure]) fun args k out h => by
    obtain ⟨a0, a1, e, h1⟩ := args2_sound h
    subst e; rw [uadd_eq]; exact h1

end Go.Ev
end

section
/-
  FUNCTION 53: printed by a program of our own (wip/gen/st.py). 'math/bits.Sub64', in continuation form; the evaluator gives it.
-/
set_option linter.all false
set_option maxRecDepth 100000
namespace Go.Ev
open Go.Proofs
variable {A : Type}

-- ============================================================ sub64 (function 53), the model's own
def sub64_k (n : Nat) (x y c : Int) (k : Int → Int → Option A) : Option A :=
  if 0 ≤ x then if 0 ≤ y then if 0 ≤ c then if c ≤ 1 then if x < 18446744073709551616 then if y < 18446744073709551616 then k ((x - y - c) % 18446744073709551616) (if x < y + c then 1 else 0) else none else none else none else none else none else none

def sub64_ent (g : Int → Int → Int → (Int → Int → Option A) → Option A) : Entry A := pureE fun args k => args3 args (.int .u64) (.int .u64) (.int .u64) fun a0 a1 a2 => g a0 a1 a2 (fun r0 r1 => k (.tup [.p (.int .u64) r0, .p (.int .u64) r1]) [])
theorem sub64_ok (n : Nat) : FnOK Try.prog gls 53 (sub64_ent (A := A) (sub64_k n)) := borrow_ok (h := fun x y c => ((x - y - c) % 18446744073709551616, if x < y + c then 1 else 0)) (e := sub64Entry) Try.func53 rfl (by kernel_rfl) (by kernel_rfl) (by kernel_rfl) (fun x y c h1 h2 h3 h4 h5 h6 P w => run_sub64 x y c h1 h2 h3 h4 h5 h6 w) fun args k out h => by
    obtain ⟨a0, a1, a2, e, h1⟩ := args3_sound h
    subst e; exact ⟨a0, a1, a2, rfl, h1⟩


end Go.Ev
end

section
/-
  FUNCTION 33: printed by a program of our own (wip/gen/st.py). '(masthead/wide.U).Sub', in continuation form; the evaluator gives it.
-/
set_option linter.all false
set_option maxRecDepth 100000
namespace Go.Ev
open Go.Proofs
variable {A : Type}

-- ============================================================ usub (function 33)
def usub_b0 (g_sub64 : Int → Int → Int → (Int → Int → Option A) → Option A) (n : Nat) (b : (List Int)) (t4 : (List Int)) (k0 : Int → (List Int) → Option A) (r : Int → Int → (List Int) → Option A) (c : Int) (t8 : Int) (a : (List Int)) : Option A :=
  bif (decide (t8 < 4)) then
    if 0 ≤ t8 then
      if t8 < 4 then
        (a[(Int.toNat t8)]?).bind fun y1 =>
        if 0 ≤ t8 then
          if t8 < 4 then
            (b[(Int.toNat t8)]?).bind fun y2 =>
            g_sub64 y1 y2 c fun r3 r4 =>
            if 0 ≤ t8 then
              if t8 < 4 then
                if (Int.toNat t8) < 4 then
                  r r4 (IntKind.wrap .i64 (t8 + 1)) (a.set (Int.toNat t8) r3)
                else none
              else none
            else none
          else none
        else none
      else none
    else none
  else
    k0 c a

def usub_l0 (g_sub64 : Int → Int → Int → (Int → Int → Option A) → Option A) (n : Nat) (b : (List Int)) (t4 : (List Int)) (k0 : Int → (List Int) → Option A) : Nat → Int → Int → (List Int) → Option A
  | 0 => fun _ _ _ => none
  | f + 1 => usub_b0 g_sub64 n b t4 k0 (usub_l0 g_sub64 n b t4 k0 f)

def usub_p (g_sub64 : Int → Int → Int → (Int → Int → Option A) → Option A) (n : Nat) (a0 : (List Int)) (a1 : (List Int)) (k : (List Int) → Bool → Option A) : Option A :=
  usub_l0 g_sub64 n a1 [0, 0, 0, 0] (fun y5 y6 =>
    k y6 (decide (y5 > 0))) n 0 0 a0

def usub_k (n : Nat) (a0 : (List Int)) (a1 : (List Int)) (k : (List Int) → Bool → Option A) : Option A := usub_p (sub64_k n) n a0 a1 k

noncomputable def usub_c0 : Code := codeAt [1, 1, 0, 1, 0, 0] (bodyOf Try.f33)
def usub_d0 : List Nat := [0, 1, 5, 7, 9, 10, 11, 12, 13, 14, 15, 16, 17, 18, 19, 20, 21, 22, 23, 24]
def usub_y0 : List Nat := [0, 1, 3, 5, 7, 8, 9, 10, 11, 12, 13, 14, 15, 16, 17, 18, 19, 20, 21, 22, 23, 24, 25, 26, 27]
def usub_sh0 : Shape := ⟨[.any, .any, (.ptr 0), (.ptr 1), (.ptr 2), .any, (.p (.int .u64)), .any, (.p (.int .i64)), .any, .any, .any, .any, .any, .any, .any, .any, .any, .any, .any, .any, .any, .any, .any, .any, .any, .any, .any], [(.var 25 kA4u64 (.p kA4u64)), (.var 25 kA4u64 (.p kA4u64)), (.var 25 kA4u64 (.p kA4u64))], 0⟩
def usub_t0 (b : (List Int)) (t4 : (List Int)) (c : Int) (t8 : Int) (a : (List Int)) : usub_sh0.den := (((), (), (), (), (), (), c, (), t8, (), (), (), (), (), (), (), (), (), (), (), (), (), (), (), (), (), (), (), ()), (a, b, t4, ()))
def usub_x0_0 (b : (List Int)) (t4 : (List Int)) (z0 : Int) (z1 : (List Int)) : St := ⟨[.any, .any, .ptr 0 [], .any, .ptr 1 [], .any, .p (.int .u64) z0, .any, .any, .any, .any, .any, .any, .any, .any, .any, .any, .any, .any, .any, .any, .any, .any, .any, .any, .any, .any, .any], [.var 25 kA4u64 (.p kA4u64 z1), .var 25 kA4u64 (.p kA4u64 t4)], 0⟩
def usub_g0 (g_sub64 : Int → Int → Int → (Int → Int → Option A) → Option A) (n : Nat) (d : usub_sh0.den) (k : Ex → St → Option A) : Option A :=
  usub_l0 g_sub64 n d.2.2.1 d.2.2.2.1 (fun z0 z1 => k (.exit 0) (usub_x0_0 d.2.2.1 d.2.2.2.1 z0 z1)) n d.1.2.2.2.2.2.2.1 d.1.2.2.2.2.2.2.2.2.1 d.2.1
noncomputable def usub_E (g_sub64 : Int → Int → Int → (Int → Int → Option A) → Option A) (n : Nat) : Env A := ⟨tys, gls, [(53, sub64_ent g_sub64)], [(0, loopE usub_d0 usub_sh0 (usub_g0 g_sub64 n))], []⟩
theorem usub_T (g_sub64 : Int → Int → Int → (Int → Int → Option A) → Option A) (n : Nat) : TyOK Try.prog (usub_E g_sub64 n) := tyOK_of rfl tysB
theorem usub_fns (n : Nat) : FnsOK Try.prog (usub_E (A := A) (sub64_k n) n) := AllOK.env rfl rfl (AllOK.cons (sub64_ok n) AllOK.nil)
noncomputable def usub_LK0 (g_sub64 : Int → Int → Int → (Int → Int → Option A) → Option A) (n : Nat) (b : (List Int)) (t4 : (List Int)) (k : Ex → St → Option A) (f : Nat) (c : Int) (t8 : Int) (a : (List Int)) : Option A := loopK (codeK (usub_E g_sub64 n) 1 usub_c0) usub_d0 usub_y0 f (usub_sh0.fill (usub_t0 b t4 c t8 a)) k
theorem usub_st0 (g_sub64 : Int → Int → Int → (Int → Int → Option A) → Option A) (n f : Nat) (b : (List Int)) (t4 : (List Int)) (k : Ex → St → Option A) (c : Int) (t8 : Int) (a : (List Int)) : usub_LK0 g_sub64 n b t4 k (f + 1) c t8 a = usub_b0 g_sub64 n b t4 (fun z0 z1 => k (.exit 0) (usub_x0_0 b t4 z0 z1)) (usub_LK0 g_sub64 n b t4 k f) c t8 a := by kernel_rfl
theorem usub_le0 (g_sub64 : Int → Int → Int → (Int → Int → Option A) → Option A) (n : Nat) (b : (List Int)) (t4 : (List Int)) (k : Ex → St → Option A) : ∀ (f : Nat) (c : Int) (t8 : Int) (a : (List Int)), usub_LK0 g_sub64 n b t4 k f c t8 a = usub_l0 g_sub64 n b t4 (fun z0 z1 => k (.exit 0) (usub_x0_0 b t4 z0 z1)) f c t8 a := by
  intro f
  induction f with
  | zero => intros; kernel_rfl
  | succ f ih => intro c t8 a; exact (usub_st0 g_sub64 n f b t4 k c t8 a).trans ((congrArg (fun r => usub_b0 g_sub64 n b t4 (fun z0 z1 => k (.exit 0) (usub_x0_0 b t4 z0 z1)) r c t8 a) (funext fun c => funext fun t8 => funext fun a => ih c t8 a)).trans (by kernel_rfl))
theorem usub_lo0 (n : Nat) : LoopOK Try.prog gls usub_c0 (loopE usub_d0 usub_sh0 (usub_g0 (A := A) (sub64_k n) n)) :=
  LoopOK.of (usub_T (sub64_k n) n) (usub_fns n) follows (j := 1) (n := n) (xdead := usub_y0) (lo_of (by kernel_rfl : loopsOf 1 usub_c0 = []) lo_nil) fun d k => Eq.trans (by kernel_rfl) (usub_le0 (sub64_k n) n d.2.2.1 d.2.2.2.1 k n d.1.2.2.2.2.2.2.1 d.1.2.2.2.2.2.2.2.2.1 d.2.1)
theorem usub_eqg (g_sub64 : Int → Int → Int → (Int → Int → Option A) → Option A) (n : Nat) (a0 : (List Int)) (a1 : (List Int)) (k : AV → List Blk → Option A) : fnK (usub_E g_sub64 n) Try.f33 [.pure, .pure] [.p kA4u64 a0, .p kA4u64 a1] [] k = usub_p g_sub64 n a0 a1 (fun r0 r1 => k (.tup [.p kA4u64 r0, .p .bool r1]) []) := by kernel_rfl
theorem usub_eq (n : Nat) (a0 : (List Int)) (a1 : (List Int)) (k : AV → List Blk → Option A) : fnK (usub_E (sub64_k n) n) Try.f33 [.pure, .pure] [.p kA4u64 a0, .p kA4u64 a1] [] k = usub_k n a0 a1 (fun r0 r1 => k (.tup [.p kA4u64 r0, .p .bool r1]) []) := usub_eqg (sub64_k n) n a0 a1 k
def usub_ent (g : (List Int) → (List Int) → ((List Int) → Bool → Option A) → Option A) : Entry A := pureE fun args k => args2 args kA4u64 kA4u64 fun a0 a1 => g a0 a1 (fun r0 r1 => k (.tup [.p kA4u64 r0, .p .bool r1]) [])
theorem usub_lo (n : Nat) : ∀ c, Try.f33.body = some c → ∀ q ∈ loopsOf 0 c, ∀ L, (usub_E (A := A) (sub64_k n) n).lps.lookup q.1 = some L → LoopOK Try.prog gls q.2 L :=
  lo_body (E := usub_E (sub64_k n) n) (by kernel_rfl : Try.f33.body = some (bodyOf Try.f33)) (lo_of (E := usub_E (sub64_k n) n) (by kernel_rfl : loopsOf 0 (bodyOf Try.f33) = [(0, usub_c0)]) (lo_cons rfl (usub_lo0 n) lo_nil))
theorem usub_ok (n : Nat) : FnOK Try.prog gls 33 (usub_ent (A := A) (usub_k n)) :=
  FnOK.of (usub_T (sub64_k n) n) (usub_fns n) follows ⟨Try.func33, by kernel_rfl⟩ (usub_lo n) (rm := [.pure, .pure]) fun args k out h => by
    obtain ⟨a0, a1, e, h1⟩ := args2_sound h
    subst e; rw [usub_eq]; exact h1

end Go.Ev
end

section
/-
  FUNCTION 49: printed by a program of our own (wip/gen/st.py). '(masthead/wide.U).Quo', in continuation form; the evaluator gives it.
-/
set_option linter.all false
set_option maxRecDepth 100000
namespace Go.Ev
open Go.Proofs
variable {A : Type}

-- ============================================================ uquo (function 49)
def uquo_b0 (g_ulen : (List Int) → (Int → Option A) → Option A) (g_ushl : (List Int) → Int → ((List Int) → Option A) → Option A) (g_usub : (List Int) → (List Int) → ((List Int) → Bool → Option A) → Option A) (n : Nat) (b : (List Int)) (t4 : (List Int)) (t5 : (List Int)) (k0 : (List Int) → (List Int) → Option A) (r : Int → (List Int) → (List Int) → Option A) (k_ : Int) (a : (List Int)) (out : (List Int)) : Option A :=
  bif (decide (k_ ≥ 0)) then
    g_ushl b k_ fun r3 =>
    g_usub a r3 fun r4 r5 =>
    bif (!r5) then
      if 0 ≤ (IntKind.wrap .i64 (Int.tdiv k_ 64)) then
        if (IntKind.wrap .i64 (Int.tdiv k_ 64)) < 4 then
          (out[(Int.toNat (IntKind.wrap .i64 (Int.tdiv k_ 64)))]?).bind fun y6 =>
          if (Int.tmod k_ 64) < 0 then none else
          if 0 ≤ (IntKind.wrap .i64 (Int.tdiv k_ 64)) then
            if (IntKind.wrap .i64 (Int.tdiv k_ 64)) < 4 then
              if (Int.toNat (IntKind.wrap .i64 (Int.tdiv k_ 64))) < 4 then
                r (IntKind.wrap .i64 (k_ - 1)) r4 (out.set (Int.toNat (IntKind.wrap .i64 (Int.tdiv k_ 64))) (ior .u64 y6 (shl .u64 1 (Int.tmod k_ 64))))
              else none
            else none
          else none
        else none
      else none
    else
      r (IntKind.wrap .i64 (k_ - 1)) a out
  else
    k0 a out

def uquo_l0 (g_ulen : (List Int) → (Int → Option A) → Option A) (g_ushl : (List Int) → Int → ((List Int) → Option A) → Option A) (g_usub : (List Int) → (List Int) → ((List Int) → Bool → Option A) → Option A) (n : Nat) (b : (List Int)) (t4 : (List Int)) (t5 : (List Int)) (k0 : (List Int) → (List Int) → Option A) : Nat → Int → (List Int) → (List Int) → Option A
  | 0 => fun _ _ _ => none
  | f + 1 => uquo_b0 g_ulen g_ushl g_usub n b t4 t5 k0 (uquo_l0 g_ulen g_ushl g_usub n b t4 t5 k0 f)

def uquo_p (g_ulen : (List Int) → (Int → Option A) → Option A) (g_ushl : (List Int) → Int → ((List Int) → Option A) → Option A) (g_usub : (List Int) → (List Int) → ((List Int) → Bool → Option A) → Option A) (n : Nat) (a0 : (List Int)) (a1 : (List Int)) (k : (List Int) → (List Int) → Option A) : Option A :=
  bif (deq kA4u64 a1 [0, 0, 0, 0]) then
    k [0, 0, 0, 0] a0
  else
    g_ulen a0 fun r1 =>
    g_ulen a1 fun r2 =>
    uquo_l0 g_ulen g_ushl g_usub n a1 [0, 0, 0, 0] [0, 0, 0, 0] (fun y7 y8 =>
      k y8 y7) n (IntKind.wrap .i64 (r1 - r2)) a0 [0, 0, 0, 0]

def uquo_k (n : Nat) (a0 : (List Int)) (a1 : (List Int)) (k : (List Int) → (List Int) → Option A) : Option A := uquo_p (ulen_k n) (ushl_k n) (usub_k n) n a0 a1 k

noncomputable def uquo_c0 : Code := codeAt [1, 1, 1, 0, 1, 0, 0] (bodyOf Try.f49)
def uquo_d0 : List Nat := [0, 1, 8, 9, 10, 11, 12, 13, 16, 17, 18, 19, 20, 21, 22, 23, 24, 25, 26, 27, 28, 29, 30, 31, 32, 33, 34, 35, 36, 37, 38, 39, 40, 41, 42, 43, 44, 45]
def uquo_y0 : List Nat := [0, 1, 3, 7, 8, 9, 10, 11, 12, 13, 14, 15, 16, 17, 18, 19, 20, 21, 22, 23, 24, 25, 26, 27, 28, 29, 30, 31, 32, 33, 34, 35, 36, 37, 38, 39, 40, 41, 42, 43, 44, 45, 46, 47]
def uquo_sh0 : Shape := ⟨[.any, .any, (.ptr 0), (.ptr 1), (.ptr 2), (.ptr 3), (.ptr 4), (.p (.int .i64)), .any, .any, .any, .any, .any, .any, .any, .any, .any, .any, .any, .any, .any, .any, .any, .any, .any, .any, .any, .any, .any, .any, .any, .any, .any, .any, .any, .any, .any, .any, .any, .any, .any, .any, .any, .any, .any, .any, .any, .any], [(.var 25 kA4u64 (.p kA4u64)), (.var 25 kA4u64 (.p kA4u64)), (.var 25 kA4u64 (.p kA4u64)), (.var 25 kA4u64 (.p kA4u64)), (.var 25 kA4u64 (.p kA4u64))], 0⟩
def uquo_t0 (b : (List Int)) (t4 : (List Int)) (t5 : (List Int)) (k_ : Int) (a : (List Int)) (out : (List Int)) : uquo_sh0.den := (((), (), (), (), (), (), (), k_, (), (), (), (), (), (), (), (), (), (), (), (), (), (), (), (), (), (), (), (), (), (), (), (), (), (), (), (), (), (), (), (), (), (), (), (), (), (), (), (), ()), (a, b, t4, t5, out, ()))
def uquo_x0_0 (b : (List Int)) (t4 : (List Int)) (t5 : (List Int)) (z0 : (List Int)) (z3 : (List Int)) : St := ⟨[.any, .any, .ptr 0 [], .any, .ptr 1 [], .ptr 2 [], .ptr 3 [], .any, .any, .any, .any, .any, .any, .any, .any, .any, .any, .any, .any, .any, .any, .any, .any, .any, .any, .any, .any, .any, .any, .any, .any, .any, .any, .any, .any, .any, .any, .any, .any, .any, .any, .any, .any, .any, .any, .any, .any, .any], [.var 25 kA4u64 (.p kA4u64 z0), .var 25 kA4u64 (.p kA4u64 t4), .var 25 kA4u64 (.p kA4u64 t5), .var 25 kA4u64 (.p kA4u64 z3)], 0⟩
def uquo_g0 (g_ulen : (List Int) → (Int → Option A) → Option A) (g_ushl : (List Int) → Int → ((List Int) → Option A) → Option A) (g_usub : (List Int) → (List Int) → ((List Int) → Bool → Option A) → Option A) (n : Nat) (d : uquo_sh0.den) (k : Ex → St → Option A) : Option A :=
  uquo_l0 g_ulen g_ushl g_usub n d.2.2.1 d.2.2.2.1 d.2.2.2.2.1 (fun z0 z3 => k (.exit 0) (uquo_x0_0 d.2.2.1 d.2.2.2.1 d.2.2.2.2.1 z0 z3)) n d.1.2.2.2.2.2.2.2.1 d.2.1 d.2.2.2.2.2.1
noncomputable def uquo_E (g_ulen : (List Int) → (Int → Option A) → Option A) (g_ushl : (List Int) → Int → ((List Int) → Option A) → Option A) (g_usub : (List Int) → (List Int) → ((List Int) → Bool → Option A) → Option A) (n : Nat) : Env A := ⟨tys, gls, [(39, ulen_ent g_ulen), (40, ushl_ent g_ushl), (33, usub_ent g_usub)], [(0, loopE uquo_d0 uquo_sh0 (uquo_g0 g_ulen g_ushl g_usub n))], []⟩
theorem uquo_T (g_ulen : (List Int) → (Int → Option A) → Option A) (g_ushl : (List Int) → Int → ((List Int) → Option A) → Option A) (g_usub : (List Int) → (List Int) → ((List Int) → Bool → Option A) → Option A) (n : Nat) : TyOK Try.prog (uquo_E g_ulen g_ushl g_usub n) := tyOK_of rfl tysB
theorem uquo_fns (n : Nat) : FnsOK Try.prog (uquo_E (A := A) (ulen_k n) (ushl_k n) (usub_k n) n) := AllOK.env rfl rfl (AllOK.cons (ulen_ok n) (AllOK.cons (ushl_ok n) (AllOK.cons (usub_ok n) AllOK.nil)))
noncomputable def uquo_LK0 (g_ulen : (List Int) → (Int → Option A) → Option A) (g_ushl : (List Int) → Int → ((List Int) → Option A) → Option A) (g_usub : (List Int) → (List Int) → ((List Int) → Bool → Option A) → Option A) (n : Nat) (b : (List Int)) (t4 : (List Int)) (t5 : (List Int)) (k : Ex → St → Option A) (f : Nat) (k_ : Int) (a : (List Int)) (out : (List Int)) : Option A := loopK (codeK (uquo_E g_ulen g_ushl g_usub n) 1 uquo_c0) uquo_d0 uquo_y0 f (uquo_sh0.fill (uquo_t0 b t4 t5 k_ a out)) k
theorem uquo_st0 (g_ulen : (List Int) → (Int → Option A) → Option A) (g_ushl : (List Int) → Int → ((List Int) → Option A) → Option A) (g_usub : (List Int) → (List Int) → ((List Int) → Bool → Option A) → Option A) (n f : Nat) (b : (List Int)) (t4 : (List Int)) (t5 : (List Int)) (k : Ex → St → Option A) (k_ : Int) (a : (List Int)) (out : (List Int)) : uquo_LK0 g_ulen g_ushl g_usub n b t4 t5 k (f + 1) k_ a out = uquo_b0 g_ulen g_ushl g_usub n b t4 t5 (fun z0 z3 => k (.exit 0) (uquo_x0_0 b t4 t5 z0 z3)) (uquo_LK0 g_ulen g_ushl g_usub n b t4 t5 k f) k_ a out := by kernel_rfl
theorem uquo_le0 (g_ulen : (List Int) → (Int → Option A) → Option A) (g_ushl : (List Int) → Int → ((List Int) → Option A) → Option A) (g_usub : (List Int) → (List Int) → ((List Int) → Bool → Option A) → Option A) (n : Nat) (b : (List Int)) (t4 : (List Int)) (t5 : (List Int)) (k : Ex → St → Option A) : ∀ (f : Nat) (k_ : Int) (a : (List Int)) (out : (List Int)), uquo_LK0 g_ulen g_ushl g_usub n b t4 t5 k f k_ a out = uquo_l0 g_ulen g_ushl g_usub n b t4 t5 (fun z0 z3 => k (.exit 0) (uquo_x0_0 b t4 t5 z0 z3)) f k_ a out := by
  intro f
  induction f with
  | zero => intros; kernel_rfl
  | succ f ih => intro k_ a out; exact (uquo_st0 g_ulen g_ushl g_usub n f b t4 t5 k k_ a out).trans ((congrArg (fun r => uquo_b0 g_ulen g_ushl g_usub n b t4 t5 (fun z0 z3 => k (.exit 0) (uquo_x0_0 b t4 t5 z0 z3)) r k_ a out) (funext fun k_ => funext fun a => funext fun out => ih k_ a out)).trans (by kernel_rfl))
theorem uquo_lo0 (n : Nat) : LoopOK Try.prog gls uquo_c0 (loopE uquo_d0 uquo_sh0 (uquo_g0 (A := A) (ulen_k n) (ushl_k n) (usub_k n) n)) :=
  LoopOK.of (uquo_T (ulen_k n) (ushl_k n) (usub_k n) n) (uquo_fns n) follows (j := 1) (n := n) (xdead := uquo_y0) (lo_of (by kernel_rfl : loopsOf 1 uquo_c0 = []) lo_nil) fun d k => Eq.trans (by kernel_rfl) (uquo_le0 (ulen_k n) (ushl_k n) (usub_k n) n d.2.2.1 d.2.2.2.1 d.2.2.2.2.1 k n d.1.2.2.2.2.2.2.2.1 d.2.1 d.2.2.2.2.2.1)
theorem uquo_eqg (g_ulen : (List Int) → (Int → Option A) → Option A) (g_ushl : (List Int) → Int → ((List Int) → Option A) → Option A) (g_usub : (List Int) → (List Int) → ((List Int) → Bool → Option A) → Option A) (n : Nat) (a0 : (List Int)) (a1 : (List Int)) (k : AV → List Blk → Option A) : fnK (uquo_E g_ulen g_ushl g_usub n) Try.f49 [.pure, .pure] [.p kA4u64 a0, .p kA4u64 a1] [] k = uquo_p g_ulen g_ushl g_usub n a0 a1 (fun r0 r1 => k (.tup [.p kA4u64 r0, .p kA4u64 r1]) []) := by kernel_rfl
theorem uquo_eq (n : Nat) (a0 : (List Int)) (a1 : (List Int)) (k : AV → List Blk → Option A) : fnK (uquo_E (ulen_k n) (ushl_k n) (usub_k n) n) Try.f49 [.pure, .pure] [.p kA4u64 a0, .p kA4u64 a1] [] k = uquo_k n a0 a1 (fun r0 r1 => k (.tup [.p kA4u64 r0, .p kA4u64 r1]) []) := uquo_eqg (ulen_k n) (ushl_k n) (usub_k n) n a0 a1 k
def uquo_ent (g : (List Int) → (List Int) → ((List Int) → (List Int) → Option A) → Option A) : Entry A := pureE fun args k => args2 args kA4u64 kA4u64 fun a0 a1 => g a0 a1 (fun r0 r1 => k (.tup [.p kA4u64 r0, .p kA4u64 r1]) [])
theorem uquo_lo (n : Nat) : ∀ c, Try.f49.body = some c → ∀ q ∈ loopsOf 0 c, ∀ L, (uquo_E (A := A) (ulen_k n) (ushl_k n) (usub_k n) n).lps.lookup q.1 = some L → LoopOK Try.prog gls q.2 L :=
  lo_body (E := uquo_E (ulen_k n) (ushl_k n) (usub_k n) n) (by kernel_rfl : Try.f49.body = some (bodyOf Try.f49)) (lo_of (E := uquo_E (ulen_k n) (ushl_k n) (usub_k n) n) (by kernel_rfl : loopsOf 0 (bodyOf Try.f49) = [(0, uquo_c0)]) (lo_cons rfl (uquo_lo0 n) lo_nil))
theorem uquo_ok (n : Nat) : FnOK Try.prog gls 49 (uquo_ent (A := A) (uquo_k n)) :=
  FnOK.of (uquo_T (ulen_k n) (ushl_k n) (usub_k n) n) (uquo_fns n) follows ⟨Try.func49, by kernel_rfl⟩ (uquo_lo n) (rm := [.pure, .pure]) fun args k out h => by
    obtain ⟨a0, a1, e, h1⟩ := args2_sound h
    subst e; rw [uquo_eq]; exact h1

end Go.Ev
end

section
/-
  FUNCTION 23: printed by a program of our own (wip/gen/st.py). 'masthead/compact.Work', in continuation form; the evaluator gives it.
-/
set_option linter.all false
set_option maxRecDepth 100000
namespace Go.Ev
open Go.Proofs
variable {A : Type}

-- ============================================================ cwork (function 23)
def cwork_p (g_uof : Int → ((List Int) → Option A) → Option A) (g_uadd : (List Int) → (List Int) → ((List Int) → Bool → Option A) → Option A) (g_umax : ((List Int) → Option A) → Option A) (g_usub : (List Int) → (List Int) → ((List Int) → Bool → Option A) → Option A) (g_uquo : (List Int) → (List Int) → ((List Int) → (List Int) → Option A) → Option A) (n : Nat) (a0 : (List Int)) (k : (List Int) → Option A) : Option A :=
  g_uof 1 fun r1 =>
  g_uadd a0 r1 fun r2 r3 =>
  bif r3 then
    g_uof 1 fun r4 =>
    k r4
  else
    bif (deq kA4u64 a0 [0, 0, 0, 0]) then
      g_umax fun r5 =>
      k r5
    else
      g_umax fun r6 =>
      g_usub r6 a0 fun r7 r8 =>
      g_uquo r7 r2 fun r9 r10 =>
      g_uof 1 fun r11 =>
      g_uadd r9 r11 fun r12 r13 =>
      k r12

def cwork_k (n : Nat) (a0 : (List Int)) (k : (List Int) → Option A) : Option A := cwork_p (uof_k n) (uadd_k n) (umax_k n) (usub_k n) (uquo_k n) n a0 k

noncomputable def cwork_E (g_uof : Int → ((List Int) → Option A) → Option A) (g_uadd : (List Int) → (List Int) → ((List Int) → Bool → Option A) → Option A) (g_umax : ((List Int) → Option A) → Option A) (g_usub : (List Int) → (List Int) → ((List Int) → Bool → Option A) → Option A) (g_uquo : (List Int) → (List Int) → ((List Int) → (List Int) → Option A) → Option A) (n : Nat) : Env A := ⟨tys, gls, [(35, uof_ent g_uof), (48, uadd_ent g_uadd), (24, umax_ent g_umax), (33, usub_ent g_usub), (49, uquo_ent g_uquo)], [], []⟩
theorem cwork_T (g_uof : Int → ((List Int) → Option A) → Option A) (g_uadd : (List Int) → (List Int) → ((List Int) → Bool → Option A) → Option A) (g_umax : ((List Int) → Option A) → Option A) (g_usub : (List Int) → (List Int) → ((List Int) → Bool → Option A) → Option A) (g_uquo : (List Int) → (List Int) → ((List Int) → (List Int) → Option A) → Option A) (n : Nat) : TyOK Try.prog (cwork_E g_uof g_uadd g_umax g_usub g_uquo n) := tyOK_of rfl tysB
theorem cwork_fns (n : Nat) : FnsOK Try.prog (cwork_E (A := A) (uof_k n) (uadd_k n) (umax_k n) (usub_k n) (uquo_k n) n) := AllOK.env rfl rfl (AllOK.cons (uof_ok n) (AllOK.cons (uadd_ok n) (AllOK.cons (umax_ok n) (AllOK.cons (usub_ok n) (AllOK.cons (uquo_ok n) AllOK.nil)))))
theorem cwork_eqg (g_uof : Int → ((List Int) → Option A) → Option A) (g_uadd : (List Int) → (List Int) → ((List Int) → Bool → Option A) → Option A) (g_umax : ((List Int) → Option A) → Option A) (g_usub : (List Int) → (List Int) → ((List Int) → Bool → Option A) → Option A) (g_uquo : (List Int) → (List Int) → ((List Int) → (List Int) → Option A) → Option A) (n : Nat) (a0 : (List Int)) (k : AV → List Blk → Option A) : fnK (cwork_E g_uof g_uadd g_umax g_usub g_uquo n) Try.f23 [.pure] [.p kA4u64 a0] [] k = cwork_p g_uof g_uadd g_umax g_usub g_uquo n a0 (fun r0 => k (.p kA4u64 r0) []) := by kernel_rfl
theorem cwork_eq (n : Nat) (a0 : (List Int)) (k : AV → List Blk → Option A) : fnK (cwork_E (uof_k n) (uadd_k n) (umax_k n) (usub_k n) (uquo_k n) n) Try.f23 [.pure] [.p kA4u64 a0] [] k = cwork_k n a0 (fun r0 => k (.p kA4u64 r0) []) := cwork_eqg (uof_k n) (uadd_k n) (umax_k n) (usub_k n) (uquo_k n) n a0 k
def cwork_ent (g : (List Int) → ((List Int) → Option A) → Option A) : Entry A := pureE fun args k => args1 args kA4u64 fun a0 => g a0 (fun r0 => k (.p kA4u64 r0) [])
theorem cwork_lo (n : Nat) : ∀ c, Try.f23.body = some c → ∀ q ∈ loopsOf 0 c, ∀ L, (cwork_E (A := A) (uof_k n) (uadd_k n) (umax_k n) (usub_k n) (uquo_k n) n).lps.lookup q.1 = some L → LoopOK Try.prog gls q.2 L :=
  lo_body (E := cwork_E (uof_k n) (uadd_k n) (umax_k n) (usub_k n) (uquo_k n) n) (by kernel_rfl : Try.f23.body = some (bodyOf Try.f23)) (lo_of (E := cwork_E (uof_k n) (uadd_k n) (umax_k n) (usub_k n) (uquo_k n) n) (by kernel_rfl : loopsOf 0 (bodyOf Try.f23) = []) lo_nil)
theorem cwork_ok (n : Nat) : FnOK Try.prog gls 23 (cwork_ent (A := A) (cwork_k n)) :=
  FnOK.of (cwork_T (uof_k n) (uadd_k n) (umax_k n) (usub_k n) (uquo_k n) n) (cwork_fns n) follows ⟨Try.func23, by kernel_rfl⟩ (cwork_lo n) (rm := [.pure]) fun args k out h => by
    obtain ⟨a0, e, h1⟩ := args1_sound h
    subst e; rw [cwork_eq]; exact h1

end Go.Ev
end

section
/-
  FUNCTION 18: printed by a program of our own (wip/gen/st.py). 'masthead/mastheadlaw05.awake', in continuation form; the evaluator gives it.
-/
set_option linter.all false
set_option maxRecDepth 100000
namespace Go.Ev
open Go.Proofs
variable {A : Type}

-- ============================================================ awake (function 18)
def awake_p (g_ctarget : Int → ((List Int) → Int → Option A) → Option A) (g_uof : Int → ((List Int) → Option A) → Option A) (g_ushl : (List Int) → Int → ((List Int) → Option A) → Option A) (g_cwork : (List Int) → ((List Int) → Option A) → Option A) (g_cbits : (List Int) → (Int → Option A) → Option A) (g_canon : Int → (Bool → Option A) → Option A) (n : Nat) (k : Bool → Option A) : Option A :=
  g_ctarget 486604799 fun r1 r2 =>
  bif (r2 == 0) then
    g_uof 65535 fun r3 =>
    g_ushl r3 208 fun r4 =>
    bif (deq kA4u64 r1 r4) then
      g_cwork r1 fun r5 =>
      g_uof 4295032833 fun r6 =>
      bif (deq kA4u64 r5 r6) then
        g_uof 128 fun r7 =>
        g_cbits r7 fun r8 =>
        bif (r8 == 33587200) then
          g_canon 545259519 fun r9 =>
          k r9
        else
          k false
      else
        k false
    else
      k false
  else
    k false

def awake_k (n : Nat) (k : Bool → Option A) : Option A := awake_p (ctarget_k n) (uof_k n) (ushl_k n) (cwork_k n) (cbits_k n) (canon_k n) n k

noncomputable def awake_E (g_ctarget : Int → ((List Int) → Int → Option A) → Option A) (g_uof : Int → ((List Int) → Option A) → Option A) (g_ushl : (List Int) → Int → ((List Int) → Option A) → Option A) (g_cwork : (List Int) → ((List Int) → Option A) → Option A) (g_cbits : (List Int) → (Int → Option A) → Option A) (g_canon : Int → (Bool → Option A) → Option A) (n : Nat) : Env A := ⟨tys, gls, [(15, ctarget_ent g_ctarget), (35, uof_ent g_uof), (40, ushl_ent g_ushl), (23, cwork_ent g_cwork), (21, cbits_ent g_cbits), (17, canon_ent g_canon)], [], []⟩
theorem awake_T (g_ctarget : Int → ((List Int) → Int → Option A) → Option A) (g_uof : Int → ((List Int) → Option A) → Option A) (g_ushl : (List Int) → Int → ((List Int) → Option A) → Option A) (g_cwork : (List Int) → ((List Int) → Option A) → Option A) (g_cbits : (List Int) → (Int → Option A) → Option A) (g_canon : Int → (Bool → Option A) → Option A) (n : Nat) : TyOK Try.prog (awake_E g_ctarget g_uof g_ushl g_cwork g_cbits g_canon n) := tyOK_of rfl tysB
theorem awake_fns (n : Nat) : FnsOK Try.prog (awake_E (A := A) (ctarget_k n) (uof_k n) (ushl_k n) (cwork_k n) (cbits_k n) (canon_k n) n) := AllOK.env rfl rfl (AllOK.cons (ctarget_ok n) (AllOK.cons (uof_ok n) (AllOK.cons (ushl_ok n) (AllOK.cons (cwork_ok n) (AllOK.cons (cbits_ok n) (AllOK.cons (canon_ok n) AllOK.nil))))))
theorem awake_eqg (g_ctarget : Int → ((List Int) → Int → Option A) → Option A) (g_uof : Int → ((List Int) → Option A) → Option A) (g_ushl : (List Int) → Int → ((List Int) → Option A) → Option A) (g_cwork : (List Int) → ((List Int) → Option A) → Option A) (g_cbits : (List Int) → (Int → Option A) → Option A) (g_canon : Int → (Bool → Option A) → Option A) (n : Nat) (k : AV → List Blk → Option A) : fnK (awake_E g_ctarget g_uof g_ushl g_cwork g_cbits g_canon n) Try.f18 [.pure] [] [] k = awake_p g_ctarget g_uof g_ushl g_cwork g_cbits g_canon n (fun r0 => k (.p .bool r0) []) := by kernel_rfl
theorem awake_eq (n : Nat) (k : AV → List Blk → Option A) : fnK (awake_E (ctarget_k n) (uof_k n) (ushl_k n) (cwork_k n) (cbits_k n) (canon_k n) n) Try.f18 [.pure] [] [] k = awake_k n (fun r0 => k (.p .bool r0) []) := awake_eqg (ctarget_k n) (uof_k n) (ushl_k n) (cwork_k n) (cbits_k n) (canon_k n) n k
def awake_ent (g : (Bool → Option A) → Option A) : Entry A := pureE fun args k => args0 args (g (fun r0 => k (.p .bool r0) []))
theorem awake_lo (n : Nat) : ∀ c, Try.f18.body = some c → ∀ q ∈ loopsOf 0 c, ∀ L, (awake_E (A := A) (ctarget_k n) (uof_k n) (ushl_k n) (cwork_k n) (cbits_k n) (canon_k n) n).lps.lookup q.1 = some L → LoopOK Try.prog gls q.2 L :=
  lo_body (E := awake_E (ctarget_k n) (uof_k n) (ushl_k n) (cwork_k n) (cbits_k n) (canon_k n) n) (by kernel_rfl : Try.f18.body = some (bodyOf Try.f18)) (lo_of (E := awake_E (ctarget_k n) (uof_k n) (ushl_k n) (cwork_k n) (cbits_k n) (canon_k n) n) (by kernel_rfl : loopsOf 0 (bodyOf Try.f18) = []) lo_nil)
theorem awake_ok (n : Nat) : FnOK Try.prog gls 18 (awake_ent (A := A) (awake_k n)) :=
  FnOK.of (awake_T (ctarget_k n) (uof_k n) (ushl_k n) (cwork_k n) (cbits_k n) (canon_k n) n) (awake_fns n) follows ⟨Try.func18, by kernel_rfl⟩ (awake_lo n) (rm := [.pure]) fun args k out h => by
    obtain ⟨e, h1⟩ := args0_sound h
    subst e; rw [awake_eq]; exact h1

end Go.Ev
end

section
/-
  THE PROGRAM IS AWAKE (compacts), and what lies in an argument.
-/
set_option linter.all false
namespace Go.Ev
variable {A : Type}

theorem awake_1000 (k : Bool → Option A) : awake_k 1000 k = k true := by kernel_rfl

theorem wf_int64 {x : Int} (h : WF (.int .u64) x) : ∃ n : Nat, x = (n : Int) ∧ n < 18446744073709551616 := by
  have h1 : IntKind.u64.min ≤ x ∧ x ≤ IntKind.u64.max := h
  rw [show IntKind.u64.min = 0 by decide, show IntKind.u64.max = 18446744073709551615 by decide] at h1
  exact ⟨x.toNat, by omega, by omega⟩
theorem wf_int32 {x : Int} (h : WF (.int .u32) x) : ∃ n : Nat, x = (n : Int) ∧ n < 4294967296 := by
  have h1 : IntKind.u32.min ≤ x ∧ x ≤ IntKind.u32.max := h
  rw [show IntKind.u32.min = 0 by decide, show IntKind.u32.max = 4294967295 by decide] at h1
  exact ⟨x.toNat, by omega, by omega⟩
theorem wf_four {v : List Int} (h : WF kA4u64 v) : ∃ x : Nat, v = ints (uw x) ∧ x < 2 ^ 256 := by
  obtain ⟨hl, hu⟩ := h
  match v, hl with
  | [x, y, z, w], _ =>
    obtain ⟨a, rfl, ha⟩ := wf_int64 (hu x (by simp))
    obtain ⟨b, rfl, hb⟩ := wf_int64 (hu y (by simp))
    obtain ⟨c, rfl, hc⟩ := wf_int64 (hu z (by simp))
    obtain ⟨d, rfl, hd⟩ := wf_int64 (hu w (by simp))
    refine ⟨a + 18446744073709551616 * (b + 18446744073709551616 * (c + 18446744073709551616 * d)), ?_, by rw [show (2 : Nat) ^ 256 = 115792089237316195423570985008687907853269984665640564039457584007913129639936 from by decide]; omega⟩
    have e : uw (a + 18446744073709551616 * (b + 18446744073709551616 * (c + 18446744073709551616 * d))) = [a, b, c, d] := by
      unfold uw
      rw [show (a + 18446744073709551616 * (b + 18446744073709551616 * (c + 18446744073709551616 * d))) % 18446744073709551616 = a from by omega,
        show (a + 18446744073709551616 * (b + 18446744073709551616 * (c + 18446744073709551616 * d))) / 18446744073709551616 % 18446744073709551616 = b from by omega,
        show (a + 18446744073709551616 * (b + 18446744073709551616 * (c + 18446744073709551616 * d))) / 340282366920938463463374607431768211456 % 18446744073709551616 = c from by omega,
        show (a + 18446744073709551616 * (b + 18446744073709551616 * (c + 18446744073709551616 * d))) / 6277101735386680763835789423207666416102355444464034512896 % 18446744073709551616 = d from by omega]
    rw [e]; rfl

end Go.Ev
end

section
/-
  FUNCTION 3: printed by a program of our own (wip/gen/st.py). 'masthead/mastheadlaw05.CompactTargets', in continuation form; the evaluator gives it.
-/
set_option linter.all false
set_option maxRecDepth 100000
namespace Go.Ev
open Go.Proofs
variable {A : Type}

-- ============================================================ targets (function 3)
def targets_p (g_ctarget : Int → ((List Int) → Int → Option A) → Option A) (g_rtarget : Int → ((List Int) → Bool → Option A) → Option A) (g_canon : Int → (Bool → Option A) → Option A) (g_awake : (Bool → Option A) → Option A) (g_words : (List Int) → ((List Int) → Option A) → Option A) (g_rbits : (List Int) → (Int → Option A) → Option A) (n : Nat) (a0 : Int) (k : Bool → Option A) : Option A :=
  g_ctarget a0 fun r1 r2 =>
  g_rtarget a0 fun r3 r4 =>
  bif (!r4) then
    bif (r2 == 5) then
      bif (deq kA4u64 r1 [0, 0, 0, 0]) then
        g_canon a0 fun r5 =>
        bif (!r5) then
          g_awake fun r6 =>
          k r6
        else
          k false
      else
        k false
    else
      k false
  else
    bif (r2 == 0) then
      g_words r3 fun r7 =>
      bif (deq kA4u64 r1 r7) then
        g_canon a0 fun r8 =>
        g_rbits r3 fun r9 =>
        bif (deq .bool r8 (r9 == a0)) then
          g_awake fun r10 =>
          k r10
        else
          k false
      else
        k false
    else
      k false

def targets_k (n : Nat) (a0 : Int) (k : Bool → Option A) : Option A := targets_p (ctarget_k n) (rtarget_k n) (canon_k n) (awake_k n) (words_k n) (rbits_k n) n a0 k

noncomputable def targets_E (g_ctarget : Int → ((List Int) → Int → Option A) → Option A) (g_rtarget : Int → ((List Int) → Bool → Option A) → Option A) (g_canon : Int → (Bool → Option A) → Option A) (g_awake : (Bool → Option A) → Option A) (g_words : (List Int) → ((List Int) → Option A) → Option A) (g_rbits : (List Int) → (Int → Option A) → Option A) (n : Nat) : Env A := ⟨tys, gls, [(15, ctarget_ent g_ctarget), (16, rtarget_ent g_rtarget), (17, canon_ent g_canon), (18, awake_ent g_awake), (19, words_ent g_words), (20, rbits_ent g_rbits)], [], []⟩
theorem targets_T (g_ctarget : Int → ((List Int) → Int → Option A) → Option A) (g_rtarget : Int → ((List Int) → Bool → Option A) → Option A) (g_canon : Int → (Bool → Option A) → Option A) (g_awake : (Bool → Option A) → Option A) (g_words : (List Int) → ((List Int) → Option A) → Option A) (g_rbits : (List Int) → (Int → Option A) → Option A) (n : Nat) : TyOK Try.prog (targets_E g_ctarget g_rtarget g_canon g_awake g_words g_rbits n) := tyOK_of rfl tysB
theorem targets_fns (n : Nat) : FnsOK Try.prog (targets_E (A := A) (ctarget_k n) (rtarget_k n) (canon_k n) (awake_k n) (words_k n) (rbits_k n) n) := AllOK.env rfl rfl (AllOK.cons (ctarget_ok n) (AllOK.cons (rtarget_ok n) (AllOK.cons (canon_ok n) (AllOK.cons (awake_ok n) (AllOK.cons (words_ok n) (AllOK.cons (rbits_ok n) AllOK.nil))))))
theorem targets_eqg (g_ctarget : Int → ((List Int) → Int → Option A) → Option A) (g_rtarget : Int → ((List Int) → Bool → Option A) → Option A) (g_canon : Int → (Bool → Option A) → Option A) (g_awake : (Bool → Option A) → Option A) (g_words : (List Int) → ((List Int) → Option A) → Option A) (g_rbits : (List Int) → (Int → Option A) → Option A) (n : Nat) (a0 : Int) (k : AV → List Blk → Option A) : fnK (targets_E g_ctarget g_rtarget g_canon g_awake g_words g_rbits n) Try.f3 [.pure] [.p (.int .u32) a0] [] k = targets_p g_ctarget g_rtarget g_canon g_awake g_words g_rbits n a0 (fun r0 => k (.p .bool r0) []) := by kernel_rfl
theorem targets_eq (n : Nat) (a0 : Int) (k : AV → List Blk → Option A) : fnK (targets_E (ctarget_k n) (rtarget_k n) (canon_k n) (awake_k n) (words_k n) (rbits_k n) n) Try.f3 [.pure] [.p (.int .u32) a0] [] k = targets_k n a0 (fun r0 => k (.p .bool r0) []) := targets_eqg (ctarget_k n) (rtarget_k n) (canon_k n) (awake_k n) (words_k n) (rbits_k n) n a0 k
def targets_ent (g : Int → (Bool → Option A) → Option A) : Entry A := pureE fun args k => args1 args (.int .u32) fun a0 => g a0 (fun r0 => k (.p .bool r0) [])
theorem targets_lo (n : Nat) : ∀ c, Try.f3.body = some c → ∀ q ∈ loopsOf 0 c, ∀ L, (targets_E (A := A) (ctarget_k n) (rtarget_k n) (canon_k n) (awake_k n) (words_k n) (rbits_k n) n).lps.lookup q.1 = some L → LoopOK Try.prog gls q.2 L :=
  lo_body (E := targets_E (ctarget_k n) (rtarget_k n) (canon_k n) (awake_k n) (words_k n) (rbits_k n) n) (by kernel_rfl : Try.f3.body = some (bodyOf Try.f3)) (lo_of (E := targets_E (ctarget_k n) (rtarget_k n) (canon_k n) (awake_k n) (words_k n) (rbits_k n) n) (by kernel_rfl : loopsOf 0 (bodyOf Try.f3) = []) lo_nil)
theorem targets_ok (n : Nat) : FnOK Try.prog gls 3 (targets_ent (A := A) (targets_k n)) :=
  FnOK.of (targets_T (ctarget_k n) (rtarget_k n) (canon_k n) (awake_k n) (words_k n) (rbits_k n) n) (targets_fns n) follows ⟨Try.func3, by kernel_rfl⟩ (targets_lo n) (rm := [.pure]) fun args k out h => by
    obtain ⟨a0, e, h1⟩ := args1_sound h
    subst e; rw [targets_eq]; exact h1

end Go.Ev
end

section
/-
  FUNCTION 4: printed by a program of our own (wip/gen/st.py). 'masthead/mastheadlaw05.CompactBits', in continuation form; the evaluator gives it.
-/
set_option linter.all false
set_option maxRecDepth 100000
namespace Go.Ev
open Go.Proofs
variable {A : Type}

-- ============================================================ bits (function 4)
def bits_p (g_cbits : (List Int) → (Int → Option A) → Option A) (g_big : (List Int) → ((List Int) → Option A) → Option A) (g_rbits : (List Int) → (Int → Option A) → Option A) (g_awake : (Bool → Option A) → Option A) (n : Nat) (a0 : (List Int)) (k : Bool → Option A) : Option A :=
  g_cbits a0 fun r1 =>
  g_big a0 fun r2 =>
  g_rbits r2 fun r3 =>
  bif (r1 == r3) then
    g_awake fun r4 =>
    k r4
  else
    k false

def bits_k (n : Nat) (a0 : (List Int)) (k : Bool → Option A) : Option A := bits_p (cbits_k n) (big_k n) (rbits_k n) (awake_k n) n a0 k

noncomputable def bits_E (g_cbits : (List Int) → (Int → Option A) → Option A) (g_big : (List Int) → ((List Int) → Option A) → Option A) (g_rbits : (List Int) → (Int → Option A) → Option A) (g_awake : (Bool → Option A) → Option A) (n : Nat) : Env A := ⟨tys, gls, [(21, cbits_ent g_cbits), (22, big_ent g_big), (20, rbits_ent g_rbits), (18, awake_ent g_awake)], [], []⟩
theorem bits_T (g_cbits : (List Int) → (Int → Option A) → Option A) (g_big : (List Int) → ((List Int) → Option A) → Option A) (g_rbits : (List Int) → (Int → Option A) → Option A) (g_awake : (Bool → Option A) → Option A) (n : Nat) : TyOK Try.prog (bits_E g_cbits g_big g_rbits g_awake n) := tyOK_of rfl tysB
theorem bits_fns (n : Nat) : FnsOK Try.prog (bits_E (A := A) (cbits_k n) (big_k n) (rbits_k n) (awake_k n) n) := AllOK.env rfl rfl (AllOK.cons (cbits_ok n) (AllOK.cons (big_ok n) (AllOK.cons (rbits_ok n) (AllOK.cons (awake_ok n) AllOK.nil))))
theorem bits_eqg (g_cbits : (List Int) → (Int → Option A) → Option A) (g_big : (List Int) → ((List Int) → Option A) → Option A) (g_rbits : (List Int) → (Int → Option A) → Option A) (g_awake : (Bool → Option A) → Option A) (n : Nat) (a0 : (List Int)) (k : AV → List Blk → Option A) : fnK (bits_E g_cbits g_big g_rbits g_awake n) Try.f4 [.pure] [.p kA4u64 a0] [] k = bits_p g_cbits g_big g_rbits g_awake n a0 (fun r0 => k (.p .bool r0) []) := by kernel_rfl
theorem bits_eq (n : Nat) (a0 : (List Int)) (k : AV → List Blk → Option A) : fnK (bits_E (cbits_k n) (big_k n) (rbits_k n) (awake_k n) n) Try.f4 [.pure] [.p kA4u64 a0] [] k = bits_k n a0 (fun r0 => k (.p .bool r0) []) := bits_eqg (cbits_k n) (big_k n) (rbits_k n) (awake_k n) n a0 k
def bits_ent (g : (List Int) → (Bool → Option A) → Option A) : Entry A := pureE fun args k => args1 args kA4u64 fun a0 => g a0 (fun r0 => k (.p .bool r0) [])
theorem bits_lo (n : Nat) : ∀ c, Try.f4.body = some c → ∀ q ∈ loopsOf 0 c, ∀ L, (bits_E (A := A) (cbits_k n) (big_k n) (rbits_k n) (awake_k n) n).lps.lookup q.1 = some L → LoopOK Try.prog gls q.2 L :=
  lo_body (E := bits_E (cbits_k n) (big_k n) (rbits_k n) (awake_k n) n) (by kernel_rfl : Try.f4.body = some (bodyOf Try.f4)) (lo_of (E := bits_E (cbits_k n) (big_k n) (rbits_k n) (awake_k n) n) (by kernel_rfl : loopsOf 0 (bodyOf Try.f4) = []) lo_nil)
theorem bits_ok (n : Nat) : FnOK Try.prog gls 4 (bits_ent (A := A) (bits_k n)) :=
  FnOK.of (bits_T (cbits_k n) (big_k n) (rbits_k n) (awake_k n) n) (bits_fns n) follows ⟨Try.func4, by kernel_rfl⟩ (bits_lo n) (rm := [.pure]) fun args k out h => by
    obtain ⟨a0, e, h1⟩ := args1_sound h
    subst e; rw [bits_eq]; exact h1

end Go.Ev
end

section
/-
  THE LAWS OF CompactTargets, CompactBits.
-/
set_option linter.all false
namespace Go.Ev

theorem bits_law (a0 : List Int) (f0 : WF kA4u64 a0) : ∃ n, bits_k n a0 (fun r => some r) = some true := by
  refine ⟨1000, ?_⟩
  have haw : ∀ k : Bool → Option Bool, awake_k 1000 k = k true := awake_1000
  have hn : ∃ n, n = 1000 := ⟨1000, rfl⟩
  obtain ⟨n, hn⟩ := hn
  rw [← hn] at haw ⊢
  obtain ⟨x, rfl, hx⟩ := wf_four f0
  unfold bits_k bits_p
  rw [cbits_law n (by omega) x hx, big_law n (by omega) x hx, rbits_law n (by omega) x hx, show (((cbN x : Nat) : Int) == ((cbN x : Nat) : Int)) = true from by simp, cond_true, haw]

theorem targets_law (a0 : Int) (f0 : WF (.int .u32) a0) : ∃ n, targets_k n a0 (fun r => some r) = some true := by
  refine ⟨1000, ?_⟩
  have haw : ∀ k : Bool → Option Bool, awake_k 1000 k = k true := awake_1000
  have hn : ∃ n, n = 1000 := ⟨1000, rfl⟩
  obtain ⟨n, hn⟩ := hn
  rw [← hn] at haw ⊢
  obtain ⟨c, rfl, hc⟩ := wf_int32 f0
  have b5 : ((5 : Int) == 5) = true := by simp
  have b0 : ((0 : Int) == 0) = true := by simp
  unfold targets_k targets_p
  rw [ctarget_law n (by omega) c hc]
  cases h : ctN c with
  | none =>
    have hcan : canN c = false := by unfold canN; rw [h]
    show (rtarget_k n (c : Int) fun r3 r4 => _) = _
    rw [rtarget_law n (by omega) c hc, h]
    show (bif !false then bif ((5 : Int) == 5) then bif deq kA4u64 (ints (uw 0)) [0, 0, 0, 0] then _ else _ else _ else _) = _
    rw [Bool.not_false, cond_true, b5, cond_true, zero_uw, deq_self kA4u64, cond_true, canon_law n (by omega) c hc, hcan, Bool.not_false, cond_true, haw]
  | some t =>
    have hlt := (ctN_lt c t h).1
    have hl := dig_len256 t hlt
    show (rtarget_k n (c : Int) fun r3 r4 => _) = _
    rw [rtarget_law n (by omega) c hc, h]
    show (bif !true then _ else bif ((0 : Int) == 0) then words_k n (ints (dig t)) _ else _) = _
    rw [Bool.not_true, cond_false, b0, cond_true, words_law n t (by omega) (by omega), deq_self kA4u64, cond_true, canon_law n (by omega) c hc, rbits_law n (by omega) t hlt]
    have e : deq .bool (canN c) (((cbN t : Nat) : Int) == (c : Int)) = true := by
      rw [deq_iff]
      unfold canN
      rw [h]
      show (cbN t == c) = _
      by_cases h2 : cbN t = c
      · rw [h2]; simp
      · rw [beq_eq_false_iff_ne.2 h2]; symm; rw [beq_eq_false_iff_ne]; omega
    rw [e, cond_true, haw]

end Go.Ev
end

