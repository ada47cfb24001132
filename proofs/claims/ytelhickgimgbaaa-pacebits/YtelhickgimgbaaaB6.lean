import Derived.Test.YtelhickgimgbaaaB5
set_option linter.all false
section
/-
  FUNCTION 15: printed by a program of our own (wip/gen/st.py). 'masthead/compact.Target', in continuation form; the evaluator gives it.
-/
set_option linter.all false
set_option maxRecDepth 100000
namespace Go.Ev
open Go.Proofs
variable {A : Type}

-- ============================================================ ctarget (function 15)
def ctarget_p (g_uof : Int → ((List Int) → Option A) → Option A) (g_ushr : (List Int) → Int → ((List Int) → Option A) → Option A) (g_ulen : (List Int) → (Int → Option A) → Option A) (g_ushl : (List Int) → Int → ((List Int) → Option A) → Option A) (n : Nat) (a0 : Int) (k : (List Int) → Int → Option A) : Option A :=
  g_uof (IntKind.wrap .u64 (iand .u32 a0 8388607)) fun r1 =>
  bif ((iand .u32 a0 8388608) != 0) then
    k [0, 0, 0, 0] 5
  else
    bif (decide ((IntKind.wrap .i64 (shr .u32 a0 24)) ≤ 3)) then
      g_ushr r1 (IntKind.wrap .i64 (8 * (IntKind.wrap .i64 (3 - (IntKind.wrap .i64 (shr .u32 a0 24)))))) fun r2 =>
      bif (deq kA4u64 r2 [0, 0, 0, 0]) then
        k [0, 0, 0, 0] 5
      else
        k r2 0
    else
      g_ulen r1 fun r3 =>
      bif (decide ((IntKind.wrap .i64 (r3 + (IntKind.wrap .i64 (8 * (IntKind.wrap .i64 ((IntKind.wrap .i64 (shr .u32 a0 24)) - 3)))))) > 256)) then
        k [0, 0, 0, 0] 5
      else
        g_ushl r1 (IntKind.wrap .i64 (8 * (IntKind.wrap .i64 ((IntKind.wrap .i64 (shr .u32 a0 24)) - 3)))) fun r4 =>
        bif (deq kA4u64 r4 [0, 0, 0, 0]) then
          k [0, 0, 0, 0] 5
        else
          k r4 0

def ctarget_k (n : Nat) (a0 : Int) (k : (List Int) → Int → Option A) : Option A := ctarget_p (uof_k n) (ushr_k n) (ulen_k n) (ushl_k n) n a0 k

noncomputable def ctarget_E (g_uof : Int → ((List Int) → Option A) → Option A) (g_ushr : (List Int) → Int → ((List Int) → Option A) → Option A) (g_ulen : (List Int) → (Int → Option A) → Option A) (g_ushl : (List Int) → Int → ((List Int) → Option A) → Option A) (n : Nat) : Env A := ⟨tys, gls, [(35, uof_ent g_uof), (34, ushr_ent g_ushr), (39, ulen_ent g_ulen), (40, ushl_ent g_ushl)], [], []⟩
theorem ctarget_T (g_uof : Int → ((List Int) → Option A) → Option A) (g_ushr : (List Int) → Int → ((List Int) → Option A) → Option A) (g_ulen : (List Int) → (Int → Option A) → Option A) (g_ushl : (List Int) → Int → ((List Int) → Option A) → Option A) (n : Nat) : TyOK Try.prog (ctarget_E g_uof g_ushr g_ulen g_ushl n) := tyOK_of rfl tysB
theorem ctarget_fns (n : Nat) : FnsOK Try.prog (ctarget_E (A := A) (uof_k n) (ushr_k n) (ulen_k n) (ushl_k n) n) := AllOK.env rfl rfl (AllOK.cons (uof_ok n) (AllOK.cons (ushr_ok n) (AllOK.cons (ulen_ok n) (AllOK.cons (ushl_ok n) AllOK.nil))))
theorem ctarget_eqg (g_uof : Int → ((List Int) → Option A) → Option A) (g_ushr : (List Int) → Int → ((List Int) → Option A) → Option A) (g_ulen : (List Int) → (Int → Option A) → Option A) (g_ushl : (List Int) → Int → ((List Int) → Option A) → Option A) (n : Nat) (a0 : Int) (k : AV → List Blk → Option A) : fnK (ctarget_E g_uof g_ushr g_ulen g_ushl n) Try.f15 [.pure, .pure] [.p (.int .u32) a0] [] k = ctarget_p g_uof g_ushr g_ulen g_ushl n a0 (fun r0 r1 => k (.tup [.p kA4u64 r0, .p (.int .i64) r1]) []) := by kernel_rfl
theorem ctarget_eq (n : Nat) (a0 : Int) (k : AV → List Blk → Option A) : fnK (ctarget_E (uof_k n) (ushr_k n) (ulen_k n) (ushl_k n) n) Try.f15 [.pure, .pure] [.p (.int .u32) a0] [] k = ctarget_k n a0 (fun r0 r1 => k (.tup [.p kA4u64 r0, .p (.int .i64) r1]) []) := ctarget_eqg (uof_k n) (ushr_k n) (ulen_k n) (ushl_k n) n a0 k
def ctarget_ent (g : Int → ((List Int) → Int → Option A) → Option A) : Entry A := pureE fun args k => args1 args (.int .u32) fun a0 => g a0 (fun r0 r1 => k (.tup [.p kA4u64 r0, .p (.int .i64) r1]) [])
theorem ctarget_lo (n : Nat) : ∀ c, Try.f15.body = some c → ∀ q ∈ loopsOf 0 c, ∀ L, (ctarget_E (A := A) (uof_k n) (ushr_k n) (ulen_k n) (ushl_k n) n).lps.lookup q.1 = some L → LoopOK Try.prog gls q.2 L :=
  lo_body (E := ctarget_E (uof_k n) (ushr_k n) (ulen_k n) (ushl_k n) n) (by kernel_rfl : Try.f15.body = some (bodyOf Try.f15)) (lo_of (E := ctarget_E (uof_k n) (ushr_k n) (ulen_k n) (ushl_k n) n) (by kernel_rfl : loopsOf 0 (bodyOf Try.f15) = []) lo_nil)
theorem ctarget_ok (n : Nat) : FnOK Try.prog gls 15 (ctarget_ent (A := A) (ctarget_k n)) :=
  FnOK.of (ctarget_T (uof_k n) (ushr_k n) (ulen_k n) (ushl_k n) n) (ctarget_fns n) follows ⟨Try.func15, by kernel_rfl⟩ (ctarget_lo n) (rm := [.pure, .pure]) fun args k out h => by
    obtain ⟨a0, e, h1⟩ := args1_sound h
    subst e; rw [ctarget_eq]; exact h1

end Go.Ev
end

section
/-
  FUNCTION 55: printed by a program of our own (wip/gen/st.py). 'math/bits.Add64', in continuation form; the evaluator gives it.
-/
set_option linter.all false
set_option maxRecDepth 100000
namespace Go.Ev
open Go.Proofs
variable {A : Type}

-- ============================================================ add64 (function 55), the model's own
def add64_k (n : Nat) (x y c : Int) (k : Int → Int → Option A) : Option A :=
  if 0 ≤ x then if 0 ≤ y then if 0 ≤ c then if c ≤ 1 then k ((x + y + c) % 18446744073709551616) ((x + y + c) / 18446744073709551616) else none else none else none else none

def add64_ent (g : Int → Int → Int → (Int → Int → Option A) → Option A) : Entry A := pureE fun args k => args3 args (.int .u64) (.int .u64) (.int .u64) fun a0 a1 a2 => g a0 a1 a2 (fun r0 r1 => k (.tup [.p (.int .u64) r0, .p (.int .u64) r1]) [])
theorem add64_ok (n : Nat) : FnOK Try.prog gls 55 (add64_ent (A := A) (add64_k n)) := carry_ok (h := fun x y c => ((x + y + c) % 18446744073709551616, (x + y + c) / 18446744073709551616)) (e := add64Entry) Try.func55 rfl (by kernel_rfl) (by kernel_rfl) (by kernel_rfl) (fun x y c h1 h2 h3 h4 P w => run_add64 x y c h1 h2 h3 h4 w) fun args k out h => by
    obtain ⟨a0, a1, a2, e, h1⟩ := args3_sound h
    subst e; exact ⟨a0, a1, a2, rfl, h1⟩


end Go.Ev
end

section
/-
  FUNCTION 48: printed by a program of our own (wip/gen/st.py). '(masthead/wide.U).Add', in continuation form; the evaluator gives it.
-/
set_option linter.all false
set_option maxRecDepth 100000
namespace Go.Ev
open Go.Proofs
variable {A : Type}

-- ============================================================ uadd (function 48)
def uadd_b0 (g_add64 : Int → Int → Int → (Int → Int → Option A) → Option A) (n : Nat) (b : (List Int)) (t4 : (List Int)) (k0 : Int → (List Int) → Option A) (r : Int → Int → (List Int) → Option A) (c : Int) (t8 : Int) (a : (List Int)) : Option A :=
  bif (decide (t8 < 4)) then
    if 0 ≤ t8 then
      if t8 < 4 then
        (a[(Int.toNat t8)]?).bind fun y1 =>
        if 0 ≤ t8 then
          if t8 < 4 then
            (b[(Int.toNat t8)]?).bind fun y2 =>
            g_add64 y1 y2 c fun r3 r4 =>
            if 0 ≤ t8 then
              if t8 < 4 then
                if (Int.toNat t8) < 4 then
                  r r4 (IntKind.wrap .i64 (t8 + 1)) (a.set (Int.toNat t8) r3)
                else none
              else none
            else none
          else none
        else none
      else none
    else none
  else
    k0 c a

def uadd_l0 (g_add64 : Int → Int → Int → (Int → Int → Option A) → Option A) (n : Nat) (b : (List Int)) (t4 : (List Int)) (k0 : Int → (List Int) → Option A) : Nat → Int → Int → (List Int) → Option A
  | 0 => fun _ _ _ => none
  | f + 1 => uadd_b0 g_add64 n b t4 k0 (uadd_l0 g_add64 n b t4 k0 f)

def uadd_p (g_add64 : Int → Int → Int → (Int → Int → Option A) → Option A) (n : Nat) (a0 : (List Int)) (a1 : (List Int)) (k : (List Int) → Bool → Option A) : Option A :=
  uadd_l0 g_add64 n a1 [0, 0, 0, 0] (fun y5 y6 =>
    k y6 (decide (y5 > 0))) n 0 0 a0

def uadd_k (n : Nat) (a0 : (List Int)) (a1 : (List Int)) (k : (List Int) → Bool → Option A) : Option A := uadd_p (add64_k n) n a0 a1 k

noncomputable def uadd_c0 : Code := codeAt [1, 1, 0, 1, 0, 0] (bodyOf Try.f48)
def uadd_d0 : List Nat := [0, 1, 5, 7, 9, 10, 11, 12, 13, 14, 15, 16, 17, 18, 19, 20, 21, 22, 23, 24]
def uadd_y0 : List Nat := [0, 1, 3, 5, 7, 8, 9, 10, 11, 12, 13, 14, 15, 16, 17, 18, 19, 20, 21, 22, 23, 24, 25, 26, 27]
def uadd_sh0 : Shape := ⟨[.any, .any, (.ptr 0), (.ptr 1), (.ptr 2), .any, (.p (.int .u64)), .any, (.p (.int .i64)), .any, .any, .any, .any, .any, .any, .any, .any, .any, .any, .any, .any, .any, .any, .any, .any, .any, .any, .any], [(.var 25 kA4u64 (.p kA4u64)), (.var 25 kA4u64 (.p kA4u64)), (.var 25 kA4u64 (.p kA4u64))], 0⟩
def uadd_t0 (b : (List Int)) (t4 : (List Int)) (c : Int) (t8 : Int) (a : (List Int)) : uadd_sh0.den := (((), (), (), (), (), (), c, (), t8, (), (), (), (), (), (), (), (), (), (), (), (), (), (), (), (), (), (), (), ()), (a, b, t4, ()))
def uadd_x0_0 (b : (List Int)) (t4 : (List Int)) (z0 : Int) (z1 : (List Int)) : St := ⟨[.any, .any, .ptr 0 [], .any, .ptr 1 [], .any, .p (.int .u64) z0, .any, .any, .any, .any, .any, .any, .any, .any, .any, .any, .any, .any, .any, .any, .any, .any, .any, .any, .any, .any, .any], [.var 25 kA4u64 (.p kA4u64 z1), .var 25 kA4u64 (.p kA4u64 t4)], 0⟩
def uadd_g0 (g_add64 : Int → Int → Int → (Int → Int → Option A) → Option A) (n : Nat) (d : uadd_sh0.den) (k : Ex → St → Option A) : Option A :=
  uadd_l0 g_add64 n d.2.2.1 d.2.2.2.1 (fun z0 z1 => k (.exit 0) (uadd_x0_0 d.2.2.1 d.2.2.2.1 z0 z1)) n d.1.2.2.2.2.2.2.1 d.1.2.2.2.2.2.2.2.2.1 d.2.1
noncomputable def uadd_E (g_add64 : Int → Int → Int → (Int → Int → Option A) → Option A) (n : Nat) : Env A := ⟨tys, gls, [(55, add64_ent g_add64)], [(0, loopE uadd_d0 uadd_sh0 (uadd_g0 g_add64 n))], []⟩
theorem uadd_T (g_add64 : Int → Int → Int → (Int → Int → Option A) → Option A) (n : Nat) : TyOK Try.prog (uadd_E g_add64 n) := tyOK_of rfl tysB
theorem uadd_fns (n : Nat) : FnsOK Try.prog (uadd_E (A := A) (add64_k n) n) := AllOK.env rfl rfl (AllOK.cons (add64_ok n) AllOK.nil)
noncomputable def uadd_LK0 (g_add64 : Int → Int → Int → (Int → Int → Option A) → Option A) (n : Nat) (b : (List Int)) (t4 : (List Int)) (k : Ex → St → Option A) (f : Nat) (c : Int) (t8 : Int) (a : (List Int)) : Option A := loopK (codeK (uadd_E g_add64 n) 1 uadd_c0) uadd_d0 uadd_y0 f (uadd_sh0.fill (uadd_t0 b t4 c t8 a)) k
theorem uadd_st0 (g_add64 : Int → Int → Int → (Int → Int → Option A) → Option A) (n f : Nat) (b : (List Int)) (t4 : (List Int)) (k : Ex → St → Option A) (c : Int) (t8 : Int) (a : (List Int)) : uadd_LK0 g_add64 n b t4 k (f + 1) c t8 a = uadd_b0 g_add64 n b t4 (fun z0 z1 => k (.exit 0) (uadd_x0_0 b t4 z0 z1)) (uadd_LK0 g_add64 n b t4 k f) c t8 a := by kernel_rfl
theorem uadd_le0 (g_add64 : Int → Int → Int → (Int → Int → Option A) → Option A) (n : Nat) (b : (List Int)) (t4 : (List Int)) (k : Ex → St → Option A) : ∀ (f : Nat) (c : Int) (t8 : Int) (a : (List Int)), uadd_LK0 g_add64 n b t4 k f c t8 a = uadd_l0 g_add64 n b t4 (fun z0 z1 => k (.exit 0) (uadd_x0_0 b t4 z0 z1)) f c t8 a := by
  intro f
  induction f with
  | zero => intros; kernel_rfl
  | succ f ih => intro c t8 a; exact (uadd_st0 g_add64 n f b t4 k c t8 a).trans ((congrArg (fun r => uadd_b0 g_add64 n b t4 (fun z0 z1 => k (.exit 0) (uadd_x0_0 b t4 z0 z1)) r c t8 a) (funext fun c => funext fun t8 => funext fun a => ih c t8 a)).trans (by kernel_rfl))
theorem uadd_lo0 (n : Nat) : LoopOK Try.prog gls uadd_c0 (loopE uadd_d0 uadd_sh0 (uadd_g0 (A := A) (add64_k n) n)) :=
  LoopOK.of (uadd_T (add64_k n) n) (uadd_fns n) follows (j := 1) (n := n) (xdead := uadd_y0) (lo_of (by kernel_rfl : loopsOf 1 uadd_c0 = []) lo_nil) fun d k => Eq.trans (by kernel_rfl) (uadd_le0 (add64_k n) n d.2.2.1 d.2.2.2.1 k n d.1.2.2.2.2.2.2.1 d.1.2.2.2.2.2.2.2.2.1 d.2.1)
theorem uadd_eqg (g_add64 : Int → Int → Int → (Int → Int → Option A) → Option A) (n : Nat) (a0 : (List Int)) (a1 : (List Int)) (k : AV → List Blk → Option A) : fnK (uadd_E g_add64 n) Try.f48 [.pure, .pure] [.p kA4u64 a0, .p kA4u64 a1] [] k = uadd_p g_add64 n a0 a1 (fun r0 r1 => k (.tup [.p kA4u64 r0, .p .bool r1]) []) := by kernel_rfl
theorem uadd_eq (n : Nat) (a0 : (List Int)) (a1 : (List Int)) (k : AV → List Blk → Option A) : fnK (uadd_E (add64_k n) n) Try.f48 [.pure, .pure] [.p kA4u64 a0, .p kA4u64 a1] [] k = uadd_k n a0 a1 (fun r0 r1 => k (.tup [.p kA4u64 r0, .p .bool r1]) []) := uadd_eqg (add64_k n) n a0 a1 k
def uadd_ent (g : (List Int) → (List Int) → ((List Int) → Bool → Option A) → Option A) : Entry A := pureE fun args k => args2 args kA4u64 kA4u64 fun a0 a1 => g a0 a1 (fun r0 r1 => k (.tup [.p kA4u64 r0, .p .bool r1]) [])
theorem uadd_lo (n : Nat) : ∀ c, Try.f48.body = some c → ∀ q ∈ loopsOf 0 c, ∀ L, (uadd_E (A := A) (add64_k n) n).lps.lookup q.1 = some L → LoopOK Try.prog gls q.2 L :=
  lo_body (E := uadd_E (add64_k n) n) (by kernel_rfl : Try.f48.body = some (bodyOf Try.f48)) (lo_of (E := uadd_E (add64_k n) n) (by kernel_rfl : loopsOf 0 (bodyOf Try.f48) = [(0, uadd_c0)]) (lo_cons rfl (uadd_lo0 n) lo_nil))
theorem uadd_ok (n : Nat) : FnOK Try.prog gls 48 (uadd_ent (A := A) (uadd_k n)) :=
  FnOK.of (uadd_T (add64_k n) n) (uadd_fns n) follows ⟨Try.func48, by kernel_rfl⟩ (uadd_lo n) (rm := [.pure, .pure]) fun args k out h => by
    obtain ⟨a0, a1, e, h1⟩ := args2_sound h
    subst e; rw [uadd_eq]; exact h1

end Go.Ev
end

section
/-
  FUNCTION 24: printed by a program of our own (wip/gen/st.py). 'masthead/wide.Max', in continuation form; the evaluator gives it.
-/
set_option linter.all false
set_option maxRecDepth 100000
namespace Go.Ev
open Go.Proofs
variable {A : Type}

-- ============================================================ umax (function 24)
def umax_p (n : Nat) (k : (List Int) → Option A) : Option A :=
  k [18446744073709551615, 18446744073709551615, 18446744073709551615, 18446744073709551615]

def umax_k (n : Nat) (k : (List Int) → Option A) : Option A := umax_p n k

noncomputable def umax_E (n : Nat) : Env A := ⟨tys, gls, [], [], []⟩
theorem umax_T {A : Type} (n : Nat) : TyOK Try.prog (umax_E (A := A) n) := tyOK_of rfl tysB
theorem umax_fns (n : Nat) : FnsOK Try.prog (umax_E (A := A) n) := AllOK.env rfl rfl AllOK.nil
theorem umax_eqg (n : Nat) (k : AV → List Blk → Option A) : fnK (umax_E n) Try.f24 [.pure] [] [] k = umax_p n (fun r0 => k (.p kA4u64 r0) []) := by kernel_rfl
theorem umax_eq (n : Nat) (k : AV → List Blk → Option A) : fnK (umax_E n) Try.f24 [.pure] [] [] k = umax_k n (fun r0 => k (.p kA4u64 r0) []) := umax_eqg n k
def umax_ent (g : ((List Int) → Option A) → Option A) : Entry A := pureE fun args k => args0 args (g (fun r0 => k (.p kA4u64 r0) []))
theorem umax_lo (n : Nat) : ∀ c, Try.f24.body = some c → ∀ q ∈ loopsOf 0 c, ∀ L, (umax_E (A := A) n).lps.lookup q.1 = some L → LoopOK Try.prog gls q.2 L :=
  lo_body (E := umax_E n) (by kernel_rfl : Try.f24.body = some (bodyOf Try.f24)) (lo_of (E := umax_E n) (by kernel_rfl : loopsOf 0 (bodyOf Try.f24) = []) lo_nil)
theorem umax_ok (n : Nat) : FnOK Try.prog gls 24 (umax_ent (A := A) (umax_k n)) :=
  FnOK.of (umax_T n) (umax_fns n) follows ⟨Try.func24, by kernel_rfl⟩ (umax_lo n) (rm := [.pure]) fun args k out h => by
    obtain ⟨e, h1⟩ := args0_sound h
    subst e; rw [umax_eq]; exact h1

end Go.Ev
end

section
/-
  FUNCTION 53: printed by a program of our own (wip/gen/st.py). 'math/bits.Sub64', in continuation form; the evaluator gives it.
-/
set_option linter.all false
set_option maxRecDepth 100000
namespace Go.Ev
open Go.Proofs
variable {A : Type}

-- ============================================================ sub64 (function 53), the model's own
def sub64_k (n : Nat) (x y c : Int) (k : Int → Int → Option A) : Option A :=
  if 0 ≤ x then if 0 ≤ y then if 0 ≤ c then if c ≤ 1 then if x < 18446744073709551616 then if y < 18446744073709551616 then k ((x - y - c) % 18446744073709551616) (if x < y + c then 1 else 0) else none else none else none else none else none else none

def sub64_ent (g : Int → Int → Int → (Int → Int → Option A) → Option A) : Entry A := pureE fun args k => args3 args (.int .u64) (.int .u64) (.int .u64) fun a0 a1 a2 => g a0 a1 a2 (fun r0 r1 => k (.tup [.p (.int .u64) r0, .p (.int .u64) r1]) [])
theorem sub64_ok (n : Nat) : FnOK Try.prog gls 53 (sub64_ent (A := A) (sub64_k n)) := borrow_ok (h := fun x y c => ((x - y - c) % 18446744073709551616, if x < y + c then 1 else 0)) (e := sub64Entry) Try.func53 rfl (by kernel_rfl) (by kernel_rfl) (by kernel_rfl) (fun x y c h1 h2 h3 h4 h5 h6 P w => run_sub64 x y c h1 h2 h3 h4 h5 h6 w) fun args k out h => by
    obtain ⟨a0, a1, a2, e, h1⟩ := args3_sound h
    subst e; exact ⟨a0, a1, a2, rfl, h1⟩


end Go.Ev
end

section
/-
  FUNCTION 33: printed by a program of our own (wip/gen/st.py). '(masthead/wide.U).Sub', in continuation form; the evaluator gives it.
-/
set_option linter.all false
set_option maxRecDepth 100000
namespace Go.Ev
open Go.Proofs
variable {A : Type}

-- ============================================================ usub (function 33)
def usub_b0 (g_sub64 : Int → Int → Int → (Int → Int → Option A) → Option A) (n : Nat) (b : (List Int)) (t4 : (List Int)) (k0 : Int → (List Int) → Option A) (r : Int → Int → (List Int) → Option A) (c : Int) (t8 : Int) (a : (List Int)) : Option A :=
  bif (decide (t8 < 4)) then
    if 0 ≤ t8 then
      if t8 < 4 then
        (a[(Int.toNat t8)]?).bind fun y1 =>
        if 0 ≤ t8 then
          if t8 < 4 then
            (b[(Int.toNat t8)]?).bind fun y2 =>
            g_sub64 y1 y2 c fun r3 r4 =>
            if 0 ≤ t8 then
              if t8 < 4 then
                if (Int.toNat t8) < 4 then
                  r r4 (IntKind.wrap .i64 (t8 + 1)) (a.set (Int.toNat t8) r3)
                else none
              else none
            else none
          else none
        else none
      else none
    else none
  else
    k0 c a

def usub_l0 (g_sub64 : Int → Int → Int → (Int → Int → Option A) → Option A) (n : Nat) (b : (List Int)) (t4 : (List Int)) (k0 : Int → (List Int) → Option A) : Nat → Int → Int → (List Int) → Option A
  | 0 => fun _ _ _ => none
  | f + 1 => usub_b0 g_sub64 n b t4 k0 (usub_l0 g_sub64 n b t4 k0 f)

def usub_p (g_sub64 : Int → Int → Int → (Int → Int → Option A) → Option A) (n : Nat) (a0 : (List Int)) (a1 : (List Int)) (k : (List Int) → Bool → Option A) : Option A :=
  usub_l0 g_sub64 n a1 [0, 0, 0, 0] (fun y5 y6 =>
    k y6 (decide (y5 > 0))) n 0 0 a0

def usub_k (n : Nat) (a0 : (List Int)) (a1 : (List Int)) (k : (List Int) → Bool → Option A) : Option A := usub_p (sub64_k n) n a0 a1 k

noncomputable def usub_c0 : Code := codeAt [1, 1, 0, 1, 0, 0] (bodyOf Try.f33)
def usub_d0 : List Nat := [0, 1, 5, 7, 9, 10, 11, 12, 13, 14, 15, 16, 17, 18, 19, 20, 21, 22, 23, 24]
def usub_y0 : List Nat := [0, 1, 3, 5, 7, 8, 9, 10, 11, 12, 13, 14, 15, 16, 17, 18, 19, 20, 21, 22, 23, 24, 25, 26, 27]
def usub_sh0 : Shape := ⟨[.any, .any, (.ptr 0), (.ptr 1), (.ptr 2), .any, (.p (.int .u64)), .any, (.p (.int .i64)), .any, .any, .any, .any, .any, .any, .any, .any, .any, .any, .any, .any, .any, .any, .any, .any, .any, .any, .any], [(.var 25 kA4u64 (.p kA4u64)), (.var 25 kA4u64 (.p kA4u64)), (.var 25 kA4u64 (.p kA4u64))], 0⟩
def usub_t0 (b : (List Int)) (t4 : (List Int)) (c : Int) (t8 : Int) (a : (List Int)) : usub_sh0.den := (((), (), (), (), (), (), c, (), t8, (), (), (), (), (), (), (), (), (), (), (), (), (), (), (), (), (), (), (), ()), (a, b, t4, ()))
def usub_x0_0 (b : (List Int)) (t4 : (List Int)) (z0 : Int) (z1 : (List Int)) : St := ⟨[.any, .any, .ptr 0 [], .any, .ptr 1 [], .any, .p (.int .u64) z0, .any, .any, .any, .any, .any, .any, .any, .any, .any, .any, .any, .any, .any, .any, .any, .any, .any, .any, .any, .any, .any], [.var 25 kA4u64 (.p kA4u64 z1), .var 25 kA4u64 (.p kA4u64 t4)], 0⟩
def usub_g0 (g_sub64 : Int → Int → Int → (Int → Int → Option A) → Option A) (n : Nat) (d : usub_sh0.den) (k : Ex → St → Option A) : Option A :=
  usub_l0 g_sub64 n d.2.2.1 d.2.2.2.1 (fun z0 z1 => k (.exit 0) (usub_x0_0 d.2.2.1 d.2.2.2.1 z0 z1)) n d.1.2.2.2.2.2.2.1 d.1.2.2.2.2.2.2.2.2.1 d.2.1
noncomputable def usub_E (g_sub64 : Int → Int → Int → (Int → Int → Option A) → Option A) (n : Nat) : Env A := ⟨tys, gls, [(53, sub64_ent g_sub64)], [(0, loopE usub_d0 usub_sh0 (usub_g0 g_sub64 n))], []⟩
theorem usub_T (g_sub64 : Int → Int → Int → (Int → Int → Option A) → Option A) (n : Nat) : TyOK Try.prog (usub_E g_sub64 n) := tyOK_of rfl tysB
theorem usub_fns (n : Nat) : FnsOK Try.prog (usub_E (A := A) (sub64_k n) n) := AllOK.env rfl rfl (AllOK.cons (sub64_ok n) AllOK.nil)
noncomputable def usub_LK0 (g_sub64 : Int → Int → Int → (Int → Int → Option A) → Option A) (n : Nat) (b : (List Int)) (t4 : (List Int)) (k : Ex → St → Option A) (f : Nat) (c : Int) (t8 : Int) (a : (List Int)) : Option A := loopK (codeK (usub_E g_sub64 n) 1 usub_c0) usub_d0 usub_y0 f (usub_sh0.fill (usub_t0 b t4 c t8 a)) k
theorem usub_st0 (g_sub64 : Int → Int → Int → (Int → Int → Option A) → Option A) (n f : Nat) (b : (List Int)) (t4 : (List Int)) (k : Ex → St → Option A) (c : Int) (t8 : Int) (a : (List Int)) : usub_LK0 g_sub64 n b t4 k (f + 1) c t8 a = usub_b0 g_sub64 n b t4 (fun z0 z1 => k (.exit 0) (usub_x0_0 b t4 z0 z1)) (usub_LK0 g_sub64 n b t4 k f) c t8 a := by kernel_rfl
theorem usub_le0 (g_sub64 : Int → Int → Int → (Int → Int → Option A) → Option A) (n : Nat) (b : (List Int)) (t4 : (List Int)) (k : Ex → St → Option A) : ∀ (f : Nat) (c : Int) (t8 : Int) (a : (List Int)), usub_LK0 g_sub64 n b t4 k f c t8 a = usub_l0 g_sub64 n b t4 (fun z0 z1 => k (.exit 0) (usub_x0_0 b t4 z0 z1)) f c t8 a := by
  intro f
  induction f with
  | zero => intros; kernel_rfl
  | succ f ih => intro c t8 a; exact (usub_st0 g_sub64 n f b t4 k c t8 a).trans ((congrArg (fun r => usub_b0 g_sub64 n b t4 (fun z0 z1 => k (.exit 0) (usub_x0_0 b t4 z0 z1)) r c t8 a) (funext fun c => funext fun t8 => funext fun a => ih c t8 a)).trans (by kernel_rfl))
theorem usub_lo0 (n : Nat) : LoopOK Try.prog gls usub_c0 (loopE usub_d0 usub_sh0 (usub_g0 (A := A) (sub64_k n) n)) :=
  LoopOK.of (usub_T (sub64_k n) n) (usub_fns n) follows (j := 1) (n := n) (xdead := usub_y0) (lo_of (by kernel_rfl : loopsOf 1 usub_c0 = []) lo_nil) fun d k => Eq.trans (by kernel_rfl) (usub_le0 (sub64_k n) n d.2.2.1 d.2.2.2.1 k n d.1.2.2.2.2.2.2.1 d.1.2.2.2.2.2.2.2.2.1 d.2.1)
theorem usub_eqg (g_sub64 : Int → Int → Int → (Int → Int → Option A) → Option A) (n : Nat) (a0 : (List Int)) (a1 : (List Int)) (k : AV → List Blk → Option A) : fnK (usub_E g_sub64 n) Try.f33 [.pure, .pure] [.p kA4u64 a0, .p kA4u64 a1] [] k = usub_p g_sub64 n a0 a1 (fun r0 r1 => k (.tup [.p kA4u64 r0, .p .bool r1]) []) := by kernel_rfl
theorem usub_eq (n : Nat) (a0 : (List Int)) (a1 : (List Int)) (k : AV → List Blk → Option A) : fnK (usub_E (sub64_k n) n) Try.f33 [.pure, .pure] [.p kA4u64 a0, .p kA4u64 a1] [] k = usub_k n a0 a1 (fun r0 r1 => k (.tup [.p kA4u64 r0, .p .bool r1]) []) := usub_eqg (sub64_k n) n a0 a1 k
def usub_ent (g : (List Int) → (List Int) → ((List Int) → Bool → Option A) → Option A) : Entry A := pureE fun args k => args2 args kA4u64 kA4u64 fun a0 a1 => g a0 a1 (fun r0 r1 => k (.tup [.p kA4u64 r0, .p .bool r1]) [])
theorem usub_lo (n : Nat) : ∀ c, Try.f33.body = some c → ∀ q ∈ loopsOf 0 c, ∀ L, (usub_E (A := A) (sub64_k n) n).lps.lookup q.1 = some L → LoopOK Try.prog gls q.2 L :=
  lo_body (E := usub_E (sub64_k n) n) (by kernel_rfl : Try.f33.body = some (bodyOf Try.f33)) (lo_of (E := usub_E (sub64_k n) n) (by kernel_rfl : loopsOf 0 (bodyOf Try.f33) = [(0, usub_c0)]) (lo_cons rfl (usub_lo0 n) lo_nil))
theorem usub_ok (n : Nat) : FnOK Try.prog gls 33 (usub_ent (A := A) (usub_k n)) :=
  FnOK.of (usub_T (sub64_k n) n) (usub_fns n) follows ⟨Try.func33, by kernel_rfl⟩ (usub_lo n) (rm := [.pure, .pure]) fun args k out h => by
    obtain ⟨a0, a1, e, h1⟩ := args2_sound h
    subst e; rw [usub_eq]; exact h1

end Go.Ev
end

section
/-
  FUNCTION 49: printed by a program of our own (wip/gen/st.py). '(masthead/wide.U).Quo', in continuation form; the evaluator gives it.
-/
set_option linter.all false
set_option maxRecDepth 100000
namespace Go.Ev
open Go.Proofs
variable {A : Type}

-- ============================================================ uquo (function 49)
def uquo_b0 (g_ulen : (List Int) → (Int → Option A) → Option A) (g_ushl : (List Int) → Int → ((List Int) → Option A) → Option A) (g_usub : (List Int) → (List Int) → ((List Int) → Bool → Option A) → Option A) (n : Nat) (b : (List Int)) (t4 : (List Int)) (t5 : (List Int)) (k0 : (List Int) → (List Int) → Option A) (r : Int → (List Int) → (List Int) → Option A) (k_ : Int) (a : (List Int)) (out : (List Int)) : Option A :=
  bif (decide (k_ ≥ 0)) then
    g_ushl b k_ fun r3 =>
    g_usub a r3 fun r4 r5 =>
    bif (!r5) then
      if 0 ≤ (IntKind.wrap .i64 (Int.tdiv k_ 64)) then
        if (IntKind.wrap .i64 (Int.tdiv k_ 64)) < 4 then
          (out[(Int.toNat (IntKind.wrap .i64 (Int.tdiv k_ 64)))]?).bind fun y6 =>
          if (Int.tmod k_ 64) < 0 then none else
          if 0 ≤ (IntKind.wrap .i64 (Int.tdiv k_ 64)) then
            if (IntKind.wrap .i64 (Int.tdiv k_ 64)) < 4 then
              if (Int.toNat (IntKind.wrap .i64 (Int.tdiv k_ 64))) < 4 then
                r (IntKind.wrap .i64 (k_ - 1)) r4 (out.set (Int.toNat (IntKind.wrap .i64 (Int.tdiv k_ 64))) (ior .u64 y6 (shl .u64 1 (Int.tmod k_ 64))))
              else none
            else none
          else none
        else none
      else none
    else
      r (IntKind.wrap .i64 (k_ - 1)) a out
  else
    k0 a out

def uquo_l0 (g_ulen : (List Int) → (Int → Option A) → Option A) (g_ushl : (List Int) → Int → ((List Int) → Option A) → Option A) (g_usub : (List Int) → (List Int) → ((List Int) → Bool → Option A) → Option A) (n : Nat) (b : (List Int)) (t4 : (List Int)) (t5 : (List Int)) (k0 : (List Int) → (List Int) → Option A) : Nat → Int → (List Int) → (List Int) → Option A
  | 0 => fun _ _ _ => none
  | f + 1 => uquo_b0 g_ulen g_ushl g_usub n b t4 t5 k0 (uquo_l0 g_ulen g_ushl g_usub n b t4 t5 k0 f)

def uquo_p (g_ulen : (List Int) → (Int → Option A) → Option A) (g_ushl : (List Int) → Int → ((List Int) → Option A) → Option A) (g_usub : (List Int) → (List Int) → ((List Int) → Bool → Option A) → Option A) (n : Nat) (a0 : (List Int)) (a1 : (List Int)) (k : (List Int) → (List Int) → Option A) : Option A :=
  bif (deq kA4u64 a1 [0, 0, 0, 0]) then
    k [0, 0, 0, 0] a0
  else
    g_ulen a0 fun r1 =>
    g_ulen a1 fun r2 =>
    uquo_l0 g_ulen g_ushl g_usub n a1 [0, 0, 0, 0] [0, 0, 0, 0] (fun y7 y8 =>
      k y8 y7) n (IntKind.wrap .i64 (r1 - r2)) a0 [0, 0, 0, 0]

def uquo_k (n : Nat) (a0 : (List Int)) (a1 : (List Int)) (k : (List Int) → (List Int) → Option A) : Option A := uquo_p (ulen_k n) (ushl_k n) (usub_k n) n a0 a1 k

noncomputable def uquo_c0 : Code := codeAt [1, 1, 1, 0, 1, 0, 0] (bodyOf Try.f49)
def uquo_d0 : List Nat := [0, 1, 8, 9, 10, 11, 12, 13, 16, 17, 18, 19, 20, 21, 22, 23, 24, 25, 26, 27, 28, 29, 30, 31, 32, 33, 34, 35, 36, 37, 38, 39, 40, 41, 42, 43, 44, 45]
def uquo_y0 : List Nat := [0, 1, 3, 7, 8, 9, 10, 11, 12, 13, 14, 15, 16, 17, 18, 19, 20, 21, 22, 23, 24, 25, 26, 27, 28, 29, 30, 31, 32, 33, 34, 35, 36, 37, 38, 39, 40, 41, 42, 43, 44, 45, 46, 47]
def uquo_sh0 : Shape := ⟨[.any, .any, (.ptr 0), (.ptr 1), (.ptr 2), (.ptr 3), (.ptr 4), (.p (.int .i64)), .any, .any, .any, .any, .any, .any, .any, .any, .any, .any, .any, .any, .any, .any, .any, .any, .any, .any, .any, .any, .any, .any, .any, .any, .any, .any, .any, .any, .any, .any, .any, .any, .any, .any, .any, .any, .any, .any, .any, .any], [(.var 25 kA4u64 (.p kA4u64)), (.var 25 kA4u64 (.p kA4u64)), (.var 25 kA4u64 (.p kA4u64)), (.var 25 kA4u64 (.p kA4u64)), (.var 25 kA4u64 (.p kA4u64))], 0⟩
def uquo_t0 (b : (List Int)) (t4 : (List Int)) (t5 : (List Int)) (k_ : Int) (a : (List Int)) (out : (List Int)) : uquo_sh0.den := (((), (), (), (), (), (), (), k_, (), (), (), (), (), (), (), (), (), (), (), (), (), (), (), (), (), (), (), (), (), (), (), (), (), (), (), (), (), (), (), (), (), (), (), (), (), (), (), (), ()), (a, b, t4, t5, out, ()))
def uquo_x0_0 (b : (List Int)) (t4 : (List Int)) (t5 : (List Int)) (z0 : (List Int)) (z3 : (List Int)) : St := ⟨[.any, .any, .ptr 0 [], .any, .ptr 1 [], .ptr 2 [], .ptr 3 [], .any, .any, .any, .any, .any, .any, .any, .any, .any, .any, .any, .any, .any, .any, .any, .any, .any, .any, .any, .any, .any, .any, .any, .any, .any, .any, .any, .any, .any, .any, .any, .any, .any, .any, .any, .any, .any, .any, .any, .any, .any], [.var 25 kA4u64 (.p kA4u64 z0), .var 25 kA4u64 (.p kA4u64 t4), .var 25 kA4u64 (.p kA4u64 t5), .var 25 kA4u64 (.p kA4u64 z3)], 0⟩
def uquo_g0 (g_ulen : (List Int) → (Int → Option A) → Option A) (g_ushl : (List Int) → Int → ((List Int) → Option A) → Option A) (g_usub : (List Int) → (List Int) → ((List Int) → Bool → Option A) → Option A) (n : Nat) (d : uquo_sh0.den) (k : Ex → St → Option A) : Option A :=
  uquo_l0 g_ulen g_ushl g_usub n d.2.2.1 d.2.2.2.1 d.2.2.2.2.1 (fun z0 z3 => k (.exit 0) (uquo_x0_0 d.2.2.1 d.2.2.2.1 d.2.2.2.2.1 z0 z3)) n d.1.2.2.2.2.2.2.2.1 d.2.1 d.2.2.2.2.2.1
noncomputable def uquo_E (g_ulen : (List Int) → (Int → Option A) → Option A) (g_ushl : (List Int) → Int → ((List Int) → Option A) → Option A) (g_usub : (List Int) → (List Int) → ((List Int) → Bool → Option A) → Option A) (n : Nat) : Env A := ⟨tys, gls, [(39, ulen_ent g_ulen), (40, ushl_ent g_ushl), (33, usub_ent g_usub)], [(0, loopE uquo_d0 uquo_sh0 (uquo_g0 g_ulen g_ushl g_usub n))], []⟩
theorem uquo_T (g_ulen : (List Int) → (Int → Option A) → Option A) (g_ushl : (List Int) → Int → ((List Int) → Option A) → Option A) (g_usub : (List Int) → (List Int) → ((List Int) → Bool → Option A) → Option A) (n : Nat) : TyOK Try.prog (uquo_E g_ulen g_ushl g_usub n) := tyOK_of rfl tysB
theorem uquo_fns (n : Nat) : FnsOK Try.prog (uquo_E (A := A) (ulen_k n) (ushl_k n) (usub_k n) n) := AllOK.env rfl rfl (AllOK.cons (ulen_ok n) (AllOK.cons (ushl_ok n) (AllOK.cons (usub_ok n) AllOK.nil)))
noncomputable def uquo_LK0 (g_ulen : (List Int) → (Int → Option A) → Option A) (g_ushl : (List Int) → Int → ((List Int) → Option A) → Option A) (g_usub : (List Int) → (List Int) → ((List Int) → Bool → Option A) → Option A) (n : Nat) (b : (List Int)) (t4 : (List Int)) (t5 : (List Int)) (k : Ex → St → Option A) (f : Nat) (k_ : Int) (a : (List Int)) (out : (List Int)) : Option A := loopK (codeK (uquo_E g_ulen g_ushl g_usub n) 1 uquo_c0) uquo_d0 uquo_y0 f (uquo_sh0.fill (uquo_t0 b t4 t5 k_ a out)) k
theorem uquo_st0 (g_ulen : (List Int) → (Int → Option A) → Option A) (g_ushl : (List Int) → Int → ((List Int) → Option A) → Option A) (g_usub : (List Int) → (List Int) → ((List Int) → Bool → Option A) → Option A) (n f : Nat) (b : (List Int)) (t4 : (List Int)) (t5 : (List Int)) (k : Ex → St → Option A) (k_ : Int) (a : (List Int)) (out : (List Int)) : uquo_LK0 g_ulen g_ushl g_usub n b t4 t5 k (f + 1) k_ a out = uquo_b0 g_ulen g_ushl g_usub n b t4 t5 (fun z0 z3 => k (.exit 0) (uquo_x0_0 b t4 t5 z0 z3)) (uquo_LK0 g_ulen g_ushl g_usub n b t4 t5 k f) k_ a out := by kernel_rfl
theorem uquo_le0 (g_ulen : (List Int) → (Int → Option A) → Option A) (g_ushl : (List Int) → Int → ((List Int) → Option A) → Option A) (g_usub : (List Int) → (List Int) → ((List Int) → Bool → Option A) → Option A) (n : Nat) (b : (List Int)) (t4 : (List Int)) (t5 : (List Int)) (k : Ex → St → Option A) : ∀ (f : Nat) (k_ : Int) (a : (List Int)) (out : (List Int)), uquo_LK0 g_ulen g_ushl g_usub n b t4 t5 k f k_ a out = uquo_l0 g_ulen g_ushl g_usub n b t4 t5 (fun z0 z3 => k (.exit 0) (uquo_x0_0 b t4 t5 z0 z3)) f k_ a out := by
  intro f
  induction f with
  | zero => intros; kernel_rfl
  | succ f ih => intro k_ a out; exact (uquo_st0 g_ulen g_ushl g_usub n f b t4 t5 k k_ a out).trans ((congrArg (fun r => uquo_b0 g_ulen g_ushl g_usub n b t4 t5 (fun z0 z3 => k (.exit 0) (uquo_x0_0 b t4 t5 z0 z3)) r k_ a out) (funext fun k_ => funext fun a => funext fun out => ih k_ a out)).trans (by kernel_rfl))
theorem uquo_lo0 (n : Nat) : LoopOK Try.prog gls uquo_c0 (loopE uquo_d0 uquo_sh0 (uquo_g0 (A := A) (ulen_k n) (ushl_k n) (usub_k n) n)) :=
  LoopOK.of (uquo_T (ulen_k n) (ushl_k n) (usub_k n) n) (uquo_fns n) follows (j := 1) (n := n) (xdead := uquo_y0) (lo_of (by kernel_rfl : loopsOf 1 uquo_c0 = []) lo_nil) fun d k => Eq.trans (by kernel_rfl) (uquo_le0 (ulen_k n) (ushl_k n) (usub_k n) n d.2.2.1 d.2.2.2.1 d.2.2.2.2.1 k n d.1.2.2.2.2.2.2.2.1 d.2.1 d.2.2.2.2.2.1)
theorem uquo_eqg (g_ulen : (List Int) → (Int → Option A) → Option A) (g_ushl : (List Int) → Int → ((List Int) → Option A) → Option A) (g_usub : (List Int) → (List Int) → ((List Int) → Bool → Option A) → Option A) (n : Nat) (a0 : (List Int)) (a1 : (List Int)) (k : AV → List Blk → Option A) : fnK (uquo_E g_ulen g_ushl g_usub n) Try.f49 [.pure, .pure] [.p kA4u64 a0, .p kA4u64 a1] [] k = uquo_p g_ulen g_ushl g_usub n a0 a1 (fun r0 r1 => k (.tup [.p kA4u64 r0, .p kA4u64 r1]) []) := by kernel_rfl
theorem uquo_eq (n : Nat) (a0 : (List Int)) (a1 : (List Int)) (k : AV → List Blk → Option A) : fnK (uquo_E (ulen_k n) (ushl_k n) (usub_k n) n) Try.f49 [.pure, .pure] [.p kA4u64 a0, .p kA4u64 a1] [] k = uquo_k n a0 a1 (fun r0 r1 => k (.tup [.p kA4u64 r0, .p kA4u64 r1]) []) := uquo_eqg (ulen_k n) (ushl_k n) (usub_k n) n a0 a1 k
def uquo_ent (g : (List Int) → (List Int) → ((List Int) → (List Int) → Option A) → Option A) : Entry A := pureE fun args k => args2 args kA4u64 kA4u64 fun a0 a1 => g a0 a1 (fun r0 r1 => k (.tup [.p kA4u64 r0, .p kA4u64 r1]) [])
theorem uquo_lo (n : Nat) : ∀ c, Try.f49.body = some c → ∀ q ∈ loopsOf 0 c, ∀ L, (uquo_E (A := A) (ulen_k n) (ushl_k n) (usub_k n) n).lps.lookup q.1 = some L → LoopOK Try.prog gls q.2 L :=
  lo_body (E := uquo_E (ulen_k n) (ushl_k n) (usub_k n) n) (by kernel_rfl : Try.f49.body = some (bodyOf Try.f49)) (lo_of (E := uquo_E (ulen_k n) (ushl_k n) (usub_k n) n) (by kernel_rfl : loopsOf 0 (bodyOf Try.f49) = [(0, uquo_c0)]) (lo_cons rfl (uquo_lo0 n) lo_nil))
theorem uquo_ok (n : Nat) : FnOK Try.prog gls 49 (uquo_ent (A := A) (uquo_k n)) :=
  FnOK.of (uquo_T (ulen_k n) (ushl_k n) (usub_k n) n) (uquo_fns n) follows ⟨Try.func49, by kernel_rfl⟩ (uquo_lo n) (rm := [.pure, .pure]) fun args k out h => by
    obtain ⟨a0, a1, e, h1⟩ := args2_sound h
    subst e; rw [uquo_eq]; exact h1

end Go.Ev
end

section
/-
  FUNCTION 23: printed by a program of our own (wip/gen/st.py). 'masthead/compact.Work', in continuation form; the evaluator gives it.
-/
set_option linter.all false
set_option maxRecDepth 100000
namespace Go.Ev
open Go.Proofs
variable {A : Type}

-- ============================================================ cwork (function 23)
def cwork_p (g_uof : Int → ((List Int) → Option A) → Option A) (g_uadd : (List Int) → (List Int) → ((List Int) → Bool → Option A) → Option A) (g_umax : ((List Int) → Option A) → Option A) (g_usub : (List Int) → (List Int) → ((List Int) → Bool → Option A) → Option A) (g_uquo : (List Int) → (List Int) → ((List Int) → (List Int) → Option A) → Option A) (n : Nat) (a0 : (List Int)) (k : (List Int) → Option A) : Option A :=
  g_uof 1 fun r1 =>
  g_uadd a0 r1 fun r2 r3 =>
  bif r3 then
    g_uof 1 fun r4 =>
    k r4
  else
    bif (deq kA4u64 a0 [0, 0, 0, 0]) then
      g_umax fun r5 =>
      k r5
    else
      g_umax fun r6 =>
      g_usub r6 a0 fun r7 r8 =>
      g_uquo r7 r2 fun r9 r10 =>
      g_uof 1 fun r11 =>
      g_uadd r9 r11 fun r12 r13 =>
      k r12

def cwork_k (n : Nat) (a0 : (List Int)) (k : (List Int) → Option A) : Option A := cwork_p (uof_k n) (uadd_k n) (umax_k n) (usub_k n) (uquo_k n) n a0 k

noncomputable def cwork_E (g_uof : Int → ((List Int) → Option A) → Option A) (g_uadd : (List Int) → (List Int) → ((List Int) → Bool → Option A) → Option A) (g_umax : ((List Int) → Option A) → Option A) (g_usub : (List Int) → (List Int) → ((List Int) → Bool → Option A) → Option A) (g_uquo : (List Int) → (List Int) → ((List Int) → (List Int) → Option A) → Option A) (n : Nat) : Env A := ⟨tys, gls, [(35, uof_ent g_uof), (48, uadd_ent g_uadd), (24, umax_ent g_umax), (33, usub_ent g_usub), (49, uquo_ent g_uquo)], [], []⟩
theorem cwork_T (g_uof : Int → ((List Int) → Option A) → Option A) (g_uadd : (List Int) → (List Int) → ((List Int) → Bool → Option A) → Option A) (g_umax : ((List Int) → Option A) → Option A) (g_usub : (List Int) → (List Int) → ((List Int) → Bool → Option A) → Option A) (g_uquo : (List Int) → (List Int) → ((List Int) → (List Int) → Option A) → Option A) (n : Nat) : TyOK Try.prog (cwork_E g_uof g_uadd g_umax g_usub g_uquo n) := tyOK_of rfl tysB
theorem cwork_fns (n : Nat) : FnsOK Try.prog (cwork_E (A := A) (uof_k n) (uadd_k n) (umax_k n) (usub_k n) (uquo_k n) n) := AllOK.env rfl rfl (AllOK.cons (uof_ok n) (AllOK.cons (uadd_ok n) (AllOK.cons (umax_ok n) (AllOK.cons (usub_ok n) (AllOK.cons (uquo_ok n) AllOK.nil)))))
theorem cwork_eqg (g_uof : Int → ((List Int) → Option A) → Option A) (g_uadd : (List Int) → (List Int) → ((List Int) → Bool → Option A) → Option A) (g_umax : ((List Int) → Option A) → Option A) (g_usub : (List Int) → (List Int) → ((List Int) → Bool → Option A) → Option A) (g_uquo : (List Int) → (List Int) → ((List Int) → (List Int) → Option A) → Option A) (n : Nat) (a0 : (List Int)) (k : AV → List Blk → Option A) : fnK (cwork_E g_uof g_uadd g_umax g_usub g_uquo n) Try.f23 [.pure] [.p kA4u64 a0] [] k = cwork_p g_uof g_uadd g_umax g_usub g_uquo n a0 (fun r0 => k (.p kA4u64 r0) []) := by kernel_rfl
theorem cwork_eq (n : Nat) (a0 : (List Int)) (k : AV → List Blk → Option A) : fnK (cwork_E (uof_k n) (uadd_k n) (umax_k n) (usub_k n) (uquo_k n) n) Try.f23 [.pure] [.p kA4u64 a0] [] k = cwork_k n a0 (fun r0 => k (.p kA4u64 r0) []) := cwork_eqg (uof_k n) (uadd_k n) (umax_k n) (usub_k n) (uquo_k n) n a0 k
def cwork_ent (g : (List Int) → ((List Int) → Option A) → Option A) : Entry A := pureE fun args k => args1 args kA4u64 fun a0 => g a0 (fun r0 => k (.p kA4u64 r0) [])
theorem cwork_lo (n : Nat) : ∀ c, Try.f23.body = some c → ∀ q ∈ loopsOf 0 c, ∀ L, (cwork_E (A := A) (uof_k n) (uadd_k n) (umax_k n) (usub_k n) (uquo_k n) n).lps.lookup q.1 = some L → LoopOK Try.prog gls q.2 L :=
  lo_body (E := cwork_E (uof_k n) (uadd_k n) (umax_k n) (usub_k n) (uquo_k n) n) (by kernel_rfl : Try.f23.body = some (bodyOf Try.f23)) (lo_of (E := cwork_E (uof_k n) (uadd_k n) (umax_k n) (usub_k n) (uquo_k n) n) (by kernel_rfl : loopsOf 0 (bodyOf Try.f23) = []) lo_nil)
theorem cwork_ok (n : Nat) : FnOK Try.prog gls 23 (cwork_ent (A := A) (cwork_k n)) :=
  FnOK.of (cwork_T (uof_k n) (uadd_k n) (umax_k n) (usub_k n) (uquo_k n) n) (cwork_fns n) follows ⟨Try.func23, by kernel_rfl⟩ (cwork_lo n) (rm := [.pure]) fun args k out h => by
    obtain ⟨a0, e, h1⟩ := args1_sound h
    subst e; rw [cwork_eq]; exact h1

end Go.Ev
end

section
/-
  FUNCTION 21: printed by a program of our own (wip/gen/st.py). 'masthead/compact.Bits', in continuation form; the evaluator gives it.
-/
set_option linter.all false
set_option maxRecDepth 100000
namespace Go.Ev
open Go.Proofs
variable {A : Type}

-- ============================================================ cbits (function 21)
def cbits_p (g_ulen : (List Int) → (Int → Option A) → Option A) (g_ushl : (List Int) → Int → ((List Int) → Option A) → Option A) (g_ushr : (List Int) → Int → ((List Int) → Option A) → Option A) (n : Nat) (a0 : (List Int)) (k : Int → Option A) : Option A :=
  g_ulen a0 fun r1 =>
  g_ushl a0 (IntKind.wrap .i64 (8 * (IntKind.wrap .i64 (3 - (IntKind.wrap .i64 (Int.tdiv (IntKind.wrap .i64 ((IntKind.wrap .i64 (r1 + 8)) - 1)) 8)))))) fun r2 =>
  g_ushr r2 (IntKind.wrap .i64 (8 * (IntKind.wrap .i64 ((IntKind.wrap .i64 (Int.tdiv (IntKind.wrap .i64 ((IntKind.wrap .i64 (r1 + 8)) - 1)) 8)) - 3)))) fun r3 =>
  (r3[0]?).bind fun y4 =>
  bif ((iand .u64 y4 8388608) != 0) then
    k (ior .u32 (shl .u32 (IntKind.wrap .u32 (IntKind.wrap .i64 ((IntKind.wrap .i64 (Int.tdiv (IntKind.wrap .i64 ((IntKind.wrap .i64 (r1 + 8)) - 1)) 8)) + 1))) 24) (IntKind.wrap .u32 (shr .u64 y4 8)))
  else
    k (ior .u32 (shl .u32 (IntKind.wrap .u32 (IntKind.wrap .i64 (Int.tdiv (IntKind.wrap .i64 ((IntKind.wrap .i64 (r1 + 8)) - 1)) 8))) 24) (IntKind.wrap .u32 y4))

def cbits_k (n : Nat) (a0 : (List Int)) (k : Int → Option A) : Option A := cbits_p (ulen_k n) (ushl_k n) (ushr_k n) n a0 k

noncomputable def cbits_E (g_ulen : (List Int) → (Int → Option A) → Option A) (g_ushl : (List Int) → Int → ((List Int) → Option A) → Option A) (g_ushr : (List Int) → Int → ((List Int) → Option A) → Option A) (n : Nat) : Env A := ⟨tys, gls, [(39, ulen_ent g_ulen), (40, ushl_ent g_ushl), (34, ushr_ent g_ushr)], [], []⟩
theorem cbits_T (g_ulen : (List Int) → (Int → Option A) → Option A) (g_ushl : (List Int) → Int → ((List Int) → Option A) → Option A) (g_ushr : (List Int) → Int → ((List Int) → Option A) → Option A) (n : Nat) : TyOK Try.prog (cbits_E g_ulen g_ushl g_ushr n) := tyOK_of rfl tysB
theorem cbits_fns (n : Nat) : FnsOK Try.prog (cbits_E (A := A) (ulen_k n) (ushl_k n) (ushr_k n) n) := AllOK.env rfl rfl (AllOK.cons (ulen_ok n) (AllOK.cons (ushl_ok n) (AllOK.cons (ushr_ok n) AllOK.nil)))
theorem cbits_eqg (g_ulen : (List Int) → (Int → Option A) → Option A) (g_ushl : (List Int) → Int → ((List Int) → Option A) → Option A) (g_ushr : (List Int) → Int → ((List Int) → Option A) → Option A) (n : Nat) (a0 : (List Int)) (k : AV → List Blk → Option A) : fnK (cbits_E g_ulen g_ushl g_ushr n) Try.f21 [.pure] [.p kA4u64 a0] [] k = cbits_p g_ulen g_ushl g_ushr n a0 (fun r0 => k (.p (.int .u32) r0) []) := by kernel_rfl
theorem cbits_eq (n : Nat) (a0 : (List Int)) (k : AV → List Blk → Option A) : fnK (cbits_E (ulen_k n) (ushl_k n) (ushr_k n) n) Try.f21 [.pure] [.p kA4u64 a0] [] k = cbits_k n a0 (fun r0 => k (.p (.int .u32) r0) []) := cbits_eqg (ulen_k n) (ushl_k n) (ushr_k n) n a0 k
def cbits_ent (g : (List Int) → (Int → Option A) → Option A) : Entry A := pureE fun args k => args1 args kA4u64 fun a0 => g a0 (fun r0 => k (.p (.int .u32) r0) [])
theorem cbits_lo (n : Nat) : ∀ c, Try.f21.body = some c → ∀ q ∈ loopsOf 0 c, ∀ L, (cbits_E (A := A) (ulen_k n) (ushl_k n) (ushr_k n) n).lps.lookup q.1 = some L → LoopOK Try.prog gls q.2 L :=
  lo_body (E := cbits_E (ulen_k n) (ushl_k n) (ushr_k n) n) (by kernel_rfl : Try.f21.body = some (bodyOf Try.f21)) (lo_of (E := cbits_E (ulen_k n) (ushl_k n) (ushr_k n) n) (by kernel_rfl : loopsOf 0 (bodyOf Try.f21) = []) lo_nil)
theorem cbits_ok (n : Nat) : FnOK Try.prog gls 21 (cbits_ent (A := A) (cbits_k n)) :=
  FnOK.of (cbits_T (ulen_k n) (ushl_k n) (ushr_k n) n) (cbits_fns n) follows ⟨Try.func21, by kernel_rfl⟩ (cbits_lo n) (rm := [.pure]) fun args k out h => by
    obtain ⟨a0, e, h1⟩ := args1_sound h
    subst e; rw [cbits_eq]; exact h1

end Go.Ev
end

section
/-
  FUNCTION 17: printed by a program of our own (wip/gen/st.py). 'masthead/compact.Canon', in continuation form; the evaluator gives it.
-/
set_option linter.all false
set_option maxRecDepth 100000
namespace Go.Ev
open Go.Proofs
variable {A : Type}

-- ============================================================ canon (function 17)
def canon_p (g_ctarget : Int → ((List Int) → Int → Option A) → Option A) (g_cbits : (List Int) → (Int → Option A) → Option A) (n : Nat) (a0 : Int) (k : Bool → Option A) : Option A :=
  g_ctarget a0 fun r1 r2 =>
  bif (r2 == 0) then
    g_cbits r1 fun r3 =>
    k (r3 == a0)
  else
    k false

def canon_k (n : Nat) (a0 : Int) (k : Bool → Option A) : Option A := canon_p (ctarget_k n) (cbits_k n) n a0 k

noncomputable def canon_E (g_ctarget : Int → ((List Int) → Int → Option A) → Option A) (g_cbits : (List Int) → (Int → Option A) → Option A) (n : Nat) : Env A := ⟨tys, gls, [(15, ctarget_ent g_ctarget), (21, cbits_ent g_cbits)], [], []⟩
theorem canon_T (g_ctarget : Int → ((List Int) → Int → Option A) → Option A) (g_cbits : (List Int) → (Int → Option A) → Option A) (n : Nat) : TyOK Try.prog (canon_E g_ctarget g_cbits n) := tyOK_of rfl tysB
theorem canon_fns (n : Nat) : FnsOK Try.prog (canon_E (A := A) (ctarget_k n) (cbits_k n) n) := AllOK.env rfl rfl (AllOK.cons (ctarget_ok n) (AllOK.cons (cbits_ok n) AllOK.nil))
theorem canon_eqg (g_ctarget : Int → ((List Int) → Int → Option A) → Option A) (g_cbits : (List Int) → (Int → Option A) → Option A) (n : Nat) (a0 : Int) (k : AV → List Blk → Option A) : fnK (canon_E g_ctarget g_cbits n) Try.f17 [.pure] [.p (.int .u32) a0] [] k = canon_p g_ctarget g_cbits n a0 (fun r0 => k (.p .bool r0) []) := by kernel_rfl
theorem canon_eq (n : Nat) (a0 : Int) (k : AV → List Blk → Option A) : fnK (canon_E (ctarget_k n) (cbits_k n) n) Try.f17 [.pure] [.p (.int .u32) a0] [] k = canon_k n a0 (fun r0 => k (.p .bool r0) []) := canon_eqg (ctarget_k n) (cbits_k n) n a0 k
def canon_ent (g : Int → (Bool → Option A) → Option A) : Entry A := pureE fun args k => args1 args (.int .u32) fun a0 => g a0 (fun r0 => k (.p .bool r0) [])
theorem canon_lo (n : Nat) : ∀ c, Try.f17.body = some c → ∀ q ∈ loopsOf 0 c, ∀ L, (canon_E (A := A) (ctarget_k n) (cbits_k n) n).lps.lookup q.1 = some L → LoopOK Try.prog gls q.2 L :=
  lo_body (E := canon_E (ctarget_k n) (cbits_k n) n) (by kernel_rfl : Try.f17.body = some (bodyOf Try.f17)) (lo_of (E := canon_E (ctarget_k n) (cbits_k n) n) (by kernel_rfl : loopsOf 0 (bodyOf Try.f17) = []) lo_nil)
theorem canon_ok (n : Nat) : FnOK Try.prog gls 17 (canon_ent (A := A) (canon_k n)) :=
  FnOK.of (canon_T (ctarget_k n) (cbits_k n) n) (canon_fns n) follows ⟨Try.func17, by kernel_rfl⟩ (canon_lo n) (rm := [.pure]) fun args k out h => by
    obtain ⟨a0, e, h1⟩ := args1_sound h
    subst e; rw [canon_eq]; exact h1

end Go.Ev
end

section
/-
  FUNCTION 18: printed by a program of our own (wip/gen/st.py). 'masthead/mastheadlaw05.awake', in continuation form; the evaluator gives it.
-/
set_option linter.all false
set_option maxRecDepth 100000
namespace Go.Ev
open Go.Proofs
variable {A : Type}

-- ============================================================ awake (function 18)
def awake_p (g_ctarget : Int → ((List Int) → Int → Option A) → Option A) (g_uof : Int → ((List Int) → Option A) → Option A) (g_ushl : (List Int) → Int → ((List Int) → Option A) → Option A) (g_cwork : (List Int) → ((List Int) → Option A) → Option A) (g_cbits : (List Int) → (Int → Option A) → Option A) (g_canon : Int → (Bool → Option A) → Option A) (n : Nat) (k : Bool → Option A) : Option A :=
  g_ctarget 486604799 fun r1 r2 =>
  bif (r2 == 0) then
    g_uof 65535 fun r3 =>
    g_ushl r3 208 fun r4 =>
    bif (deq kA4u64 r1 r4) then
      g_cwork r1 fun r5 =>
      g_uof 4295032833 fun r6 =>
      bif (deq kA4u64 r5 r6) then
        g_uof 128 fun r7 =>
        g_cbits r7 fun r8 =>
        bif (r8 == 33587200) then
          g_canon 545259519 fun r9 =>
          k r9
        else
          k false
      else
        k false
    else
      k false
  else
    k false

def awake_k (n : Nat) (k : Bool → Option A) : Option A := awake_p (ctarget_k n) (uof_k n) (ushl_k n) (cwork_k n) (cbits_k n) (canon_k n) n k

noncomputable def awake_E (g_ctarget : Int → ((List Int) → Int → Option A) → Option A) (g_uof : Int → ((List Int) → Option A) → Option A) (g_ushl : (List Int) → Int → ((List Int) → Option A) → Option A) (g_cwork : (List Int) → ((List Int) → Option A) → Option A) (g_cbits : (List Int) → (Int → Option A) → Option A) (g_canon : Int → (Bool → Option A) → Option A) (n : Nat) : Env A := ⟨tys, gls, [(15, ctarget_ent g_ctarget), (35, uof_ent g_uof), (40, ushl_ent g_ushl), (23, cwork_ent g_cwork), (21, cbits_ent g_cbits), (17, canon_ent g_canon)], [], []⟩
theorem awake_T (g_ctarget : Int → ((List Int) → Int → Option A) → Option A) (g_uof : Int → ((List Int) → Option A) → Option A) (g_ushl : (List Int) → Int → ((List Int) → Option A) → Option A) (g_cwork : (List Int) → ((List Int) → Option A) → Option A) (g_cbits : (List Int) → (Int → Option A) → Option A) (g_canon : Int → (Bool → Option A) → Option A) (n : Nat) : TyOK Try.prog (awake_E g_ctarget g_uof g_ushl g_cwork g_cbits g_canon n) := tyOK_of rfl tysB
theorem awake_fns (n : Nat) : FnsOK Try.prog (awake_E (A := A) (ctarget_k n) (uof_k n) (ushl_k n) (cwork_k n) (cbits_k n) (canon_k n) n) := AllOK.env rfl rfl (AllOK.cons (ctarget_ok n) (AllOK.cons (uof_ok n) (AllOK.cons (ushl_ok n) (AllOK.cons (cwork_ok n) (AllOK.cons (cbits_ok n) (AllOK.cons (canon_ok n) AllOK.nil))))))
theorem awake_eqg (g_ctarget : Int → ((List Int) → Int → Option A) → Option A) (g_uof : Int → ((List Int) → Option A) → Option A) (g_ushl : (List Int) → Int → ((List Int) → Option A) → Option A) (g_cwork : (List Int) → ((List Int) → Option A) → Option A) (g_cbits : (List Int) → (Int → Option A) → Option A) (g_canon : Int → (Bool → Option A) → Option A) (n : Nat) (k : AV → List Blk → Option A) : fnK (awake_E g_ctarget g_uof g_ushl g_cwork g_cbits g_canon n) Try.f18 [.pure] [] [] k = awake_p g_ctarget g_uof g_ushl g_cwork g_cbits g_canon n (fun r0 => k (.p .bool r0) []) := by kernel_rfl
theorem awake_eq (n : Nat) (k : AV → List Blk → Option A) : fnK (awake_E (ctarget_k n) (uof_k n) (ushl_k n) (cwork_k n) (cbits_k n) (canon_k n) n) Try.f18 [.pure] [] [] k = awake_k n (fun r0 => k (.p .bool r0) []) := awake_eqg (ctarget_k n) (uof_k n) (ushl_k n) (cwork_k n) (cbits_k n) (canon_k n) n k
def awake_ent (g : (Bool → Option A) → Option A) : Entry A := pureE fun args k => args0 args (g (fun r0 => k (.p .bool r0) []))
theorem awake_lo (n : Nat) : ∀ c, Try.f18.body = some c → ∀ q ∈ loopsOf 0 c, ∀ L, (awake_E (A := A) (ctarget_k n) (uof_k n) (ushl_k n) (cwork_k n) (cbits_k n) (canon_k n) n).lps.lookup q.1 = some L → LoopOK Try.prog gls q.2 L :=
  lo_body (E := awake_E (ctarget_k n) (uof_k n) (ushl_k n) (cwork_k n) (cbits_k n) (canon_k n) n) (by kernel_rfl : Try.f18.body = some (bodyOf Try.f18)) (lo_of (E := awake_E (ctarget_k n) (uof_k n) (ushl_k n) (cwork_k n) (cbits_k n) (canon_k n) n) (by kernel_rfl : loopsOf 0 (bodyOf Try.f18) = []) lo_nil)
theorem awake_ok (n : Nat) : FnOK Try.prog gls 18 (awake_ent (A := A) (awake_k n)) :=
  FnOK.of (awake_T (ctarget_k n) (uof_k n) (ushl_k n) (cwork_k n) (cbits_k n) (canon_k n) n) (awake_fns n) follows ⟨Try.func18, by kernel_rfl⟩ (awake_lo n) (rm := [.pure]) fun args k out h => by
    obtain ⟨e, h1⟩ := args0_sound h
    subst e; rw [awake_eq]; exact h1

end Go.Ev
end

section
/-
  THE PROGRAM IS AWAKE (compacts), and what lies in an argument.
-/
set_option linter.all false
namespace Go.Ev
variable {A : Type}

theorem awake_1000 (k : Bool → Option A) : awake_k 1000 k = k true := by kernel_rfl

theorem wf_int64 {x : Int} (h : WF (.int .u64) x) : ∃ n : Nat, x = (n : Int) ∧ n < 18446744073709551616 := by
  have h1 : IntKind.u64.min ≤ x ∧ x ≤ IntKind.u64.max := h
  rw [show IntKind.u64.min = 0 by decide, show IntKind.u64.max = 18446744073709551615 by decide] at h1
  exact ⟨x.toNat, by omega, by omega⟩
theorem wf_int32 {x : Int} (h : WF (.int .u32) x) : ∃ n : Nat, x = (n : Int) ∧ n < 4294967296 := by
  have h1 : IntKind.u32.min ≤ x ∧ x ≤ IntKind.u32.max := h
  rw [show IntKind.u32.min = 0 by decide, show IntKind.u32.max = 4294967295 by decide] at h1
  exact ⟨x.toNat, by omega, by omega⟩
theorem wf_four {v : List Int} (h : WF kA4u64 v) : ∃ x : Nat, v = ints (uw x) ∧ x < 2 ^ 256 := by
  obtain ⟨hl, hu⟩ := h
  match v, hl with
  | [x, y, z, w], _ =>
    obtain ⟨a, rfl, ha⟩ := wf_int64 (hu x (by simp))
    obtain ⟨b, rfl, hb⟩ := wf_int64 (hu y (by simp))
    obtain ⟨c, rfl, hc⟩ := wf_int64 (hu z (by simp))
    obtain ⟨d, rfl, hd⟩ := wf_int64 (hu w (by simp))
    refine ⟨a + 18446744073709551616 * (b + 18446744073709551616 * (c + 18446744073709551616 * d)), ?_, by rw [show (2 : Nat) ^ 256 = 115792089237316195423570985008687907853269984665640564039457584007913129639936 from by decide]; omega⟩
    have e : uw (a + 18446744073709551616 * (b + 18446744073709551616 * (c + 18446744073709551616 * d))) = [a, b, c, d] := by
      unfold uw
      rw [show (a + 18446744073709551616 * (b + 18446744073709551616 * (c + 18446744073709551616 * d))) % 18446744073709551616 = a from by omega,
        show (a + 18446744073709551616 * (b + 18446744073709551616 * (c + 18446744073709551616 * d))) / 18446744073709551616 % 18446744073709551616 = b from by omega,
        show (a + 18446744073709551616 * (b + 18446744073709551616 * (c + 18446744073709551616 * d))) / 340282366920938463463374607431768211456 % 18446744073709551616 = c from by omega,
        show (a + 18446744073709551616 * (b + 18446744073709551616 * (c + 18446744073709551616 * d))) / 6277101735386680763835789423207666416102355444464034512896 % 18446744073709551616 = d from by omega]
    rw [e]; rfl

end Go.Ev
end

section
/-
  FUNCTION 51: printed by a program of our own (wip/gen/st.py). 'masthead/pace.ideal', in continuation form; the evaluator gives it.
-/
set_option linter.all false
set_option maxRecDepth 100000
namespace Go.Ev
open Go.Proofs
variable {A : Type}

-- ============================================================ ideal (function 51)
def ideal_p (n : Nat) (a0 : Int) (a1 : Int) (k : Int → Option A) : Option A :=
  k (IntKind.wrap .i64 ((imin (imax a0 1) 65536) * (imin (imax a1 1) 65536)))

def ideal_k (n : Nat) (a0 : Int) (a1 : Int) (k : Int → Option A) : Option A := ideal_p n a0 a1 k

noncomputable def ideal_E (n : Nat) : Env A := ⟨tys, gls, [], [], []⟩
theorem ideal_T {A : Type} (n : Nat) : TyOK Try.prog (ideal_E (A := A) n) := tyOK_of rfl tysB
theorem ideal_fns (n : Nat) : FnsOK Try.prog (ideal_E (A := A) n) := AllOK.env rfl rfl AllOK.nil
theorem ideal_eqg (n : Nat) (a0 : Int) (a1 : Int) (k : AV → List Blk → Option A) : fnK (ideal_E n) Try.f51 [.pure] [.p (.int .i64) a0, .p (.int .i64) a1] [] k = ideal_p n a0 a1 (fun r0 => k (.p (.int .i64) r0) []) := by kernel_rfl
theorem ideal_eq (n : Nat) (a0 : Int) (a1 : Int) (k : AV → List Blk → Option A) : fnK (ideal_E n) Try.f51 [.pure] [.p (.int .i64) a0, .p (.int .i64) a1] [] k = ideal_k n a0 a1 (fun r0 => k (.p (.int .i64) r0) []) := ideal_eqg n a0 a1 k
def ideal_ent (g : Int → Int → (Int → Option A) → Option A) : Entry A := pureE fun args k => args2 args (.int .i64) (.int .i64) fun a0 a1 => g a0 a1 (fun r0 => k (.p (.int .i64) r0) [])
theorem ideal_lo (n : Nat) : ∀ c, Try.f51.body = some c → ∀ q ∈ loopsOf 0 c, ∀ L, (ideal_E (A := A) n).lps.lookup q.1 = some L → LoopOK Try.prog gls q.2 L :=
  lo_body (E := ideal_E n) (by kernel_rfl : Try.f51.body = some (bodyOf Try.f51)) (lo_of (E := ideal_E n) (by kernel_rfl : loopsOf 0 (bodyOf Try.f51) = []) lo_nil)
theorem ideal_ok (n : Nat) : FnOK Try.prog gls 51 (ideal_ent (A := A) (ideal_k n)) :=
  FnOK.of (ideal_T n) (ideal_fns n) follows ⟨Try.func51, by kernel_rfl⟩ (ideal_lo n) (rm := [.pure]) fun args k out h => by
    obtain ⟨a0, a1, e, h1⟩ := args2_sound h
    subst e; rw [ideal_eq]; exact h1

end Go.Ev
end

section
/-
  FUNCTION 26: printed by a program of our own (wip/gen/st.py). 'masthead/pace.Lasted', in continuation form; the evaluator gives it.
-/
set_option linter.all false
set_option maxRecDepth 100000
namespace Go.Ev
open Go.Proofs
variable {A : Type}

-- ============================================================ lasted (function 26)
def lasted_p (g_ideal : Int → Int → (Int → Option A) → Option A) (n : Nat) (a0 : Int) (a1 : Int) (a2 : Int) (a3 : Int) (k : Int → Option A) : Option A :=
  g_ideal a0 a1 fun r1 =>
  k (imin (imax (imax (IntKind.wrap .i64 ((IntKind.wrap .i64 a3) - (IntKind.wrap .i64 a2))) (IntKind.wrap .i64 (Int.tdiv r1 4))) 1) (IntKind.wrap .i64 (4 * r1)))

def lasted_k (n : Nat) (a0 : Int) (a1 : Int) (a2 : Int) (a3 : Int) (k : Int → Option A) : Option A := lasted_p (ideal_k n) n a0 a1 a2 a3 k

noncomputable def lasted_E (g_ideal : Int → Int → (Int → Option A) → Option A) (n : Nat) : Env A := ⟨tys, gls, [(51, ideal_ent g_ideal)], [], []⟩
theorem lasted_T (g_ideal : Int → Int → (Int → Option A) → Option A) (n : Nat) : TyOK Try.prog (lasted_E g_ideal n) := tyOK_of rfl tysB
theorem lasted_fns (n : Nat) : FnsOK Try.prog (lasted_E (A := A) (ideal_k n) n) := AllOK.env rfl rfl (AllOK.cons (ideal_ok n) AllOK.nil)
theorem lasted_eqg (g_ideal : Int → Int → (Int → Option A) → Option A) (n : Nat) (a0 : Int) (a1 : Int) (a2 : Int) (a3 : Int) (k : AV → List Blk → Option A) : fnK (lasted_E g_ideal n) Try.f26 [.pure] [.p (.int .i64) a0, .p (.int .i64) a1, .p (.int .u32) a2, .p (.int .u32) a3] [] k = lasted_p g_ideal n a0 a1 a2 a3 (fun r0 => k (.p (.int .i64) r0) []) := by kernel_rfl
theorem lasted_eq (n : Nat) (a0 : Int) (a1 : Int) (a2 : Int) (a3 : Int) (k : AV → List Blk → Option A) : fnK (lasted_E (ideal_k n) n) Try.f26 [.pure] [.p (.int .i64) a0, .p (.int .i64) a1, .p (.int .u32) a2, .p (.int .u32) a3] [] k = lasted_k n a0 a1 a2 a3 (fun r0 => k (.p (.int .i64) r0) []) := lasted_eqg (ideal_k n) n a0 a1 a2 a3 k
def lasted_ent (g : Int → Int → Int → Int → (Int → Option A) → Option A) : Entry A := pureE fun args k => args4 args (.int .i64) (.int .i64) (.int .u32) (.int .u32) fun a0 a1 a2 a3 => g a0 a1 a2 a3 (fun r0 => k (.p (.int .i64) r0) [])
theorem lasted_lo (n : Nat) : ∀ c, Try.f26.body = some c → ∀ q ∈ loopsOf 0 c, ∀ L, (lasted_E (A := A) (ideal_k n) n).lps.lookup q.1 = some L → LoopOK Try.prog gls q.2 L :=
  lo_body (E := lasted_E (ideal_k n) n) (by kernel_rfl : Try.f26.body = some (bodyOf Try.f26)) (lo_of (E := lasted_E (ideal_k n) n) (by kernel_rfl : loopsOf 0 (bodyOf Try.f26) = []) lo_nil)
theorem lasted_ok (n : Nat) : FnOK Try.prog gls 26 (lasted_ent (A := A) (lasted_k n)) :=
  FnOK.of (lasted_T (ideal_k n) n) (lasted_fns n) follows ⟨Try.func26, by kernel_rfl⟩ (lasted_lo n) (rm := [.pure]) fun args k out h => by
    obtain ⟨a0, a1, a2, a3, e, h1⟩ := args4_sound h
    subst e; rw [lasted_eq]; exact h1

end Go.Ev
end

section
/-
  FUNCTION 29: printed by a program of our own (wip/gen/st.py). 'masthead/mastheadref18.Held', in continuation form; the evaluator gives it.
-/
set_option linter.all false
set_option maxRecDepth 100000
namespace Go.Ev
open Go.Proofs
variable {A : Type}

-- ============================================================ held (function 29)
def held_p (n : Nat) (a0 : Int) (k : Int → Option A) : Option A :=
  bif (decide (a0 < 1)) then
    k 1
  else
    bif (decide (a0 > 65536)) then
      k 65536
    else
      k a0

def held_k (n : Nat) (a0 : Int) (k : Int → Option A) : Option A := held_p n a0 k

noncomputable def held_E (n : Nat) : Env A := ⟨tys, gls, [], [], []⟩
theorem held_T {A : Type} (n : Nat) : TyOK Try.prog (held_E (A := A) n) := tyOK_of rfl tysB
theorem held_fns (n : Nat) : FnsOK Try.prog (held_E (A := A) n) := AllOK.env rfl rfl AllOK.nil
theorem held_eqg (n : Nat) (a0 : Int) (k : AV → List Blk → Option A) : fnK (held_E n) Try.f29 [.pure] [.p (.int .i64) a0] [] k = held_p n a0 (fun r0 => k (.p (.int .i64) r0) []) := by kernel_rfl
theorem held_eq (n : Nat) (a0 : Int) (k : AV → List Blk → Option A) : fnK (held_E n) Try.f29 [.pure] [.p (.int .i64) a0] [] k = held_k n a0 (fun r0 => k (.p (.int .i64) r0) []) := held_eqg n a0 k
def held_ent (g : Int → (Int → Option A) → Option A) : Entry A := pureE fun args k => args1 args (.int .i64) fun a0 => g a0 (fun r0 => k (.p (.int .i64) r0) [])
theorem held_lo (n : Nat) : ∀ c, Try.f29.body = some c → ∀ q ∈ loopsOf 0 c, ∀ L, (held_E (A := A) n).lps.lookup q.1 = some L → LoopOK Try.prog gls q.2 L :=
  lo_body (E := held_E n) (by kernel_rfl : Try.f29.body = some (bodyOf Try.f29)) (lo_of (E := held_E n) (by kernel_rfl : loopsOf 0 (bodyOf Try.f29) = []) lo_nil)
theorem held_ok (n : Nat) : FnOK Try.prog gls 29 (held_ent (A := A) (held_k n)) :=
  FnOK.of (held_T n) (held_fns n) follows ⟨Try.func29, by kernel_rfl⟩ (held_lo n) (rm := [.pure]) fun args k out h => by
    obtain ⟨a0, e, h1⟩ := args1_sound h
    subst e; rw [held_eq]; exact h1

end Go.Ev
end

