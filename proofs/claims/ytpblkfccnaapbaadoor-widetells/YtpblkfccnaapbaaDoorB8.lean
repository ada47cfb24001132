import Derived.Test.YtpblkfccnaapbaaDoorB6
import Derived.Test.YtpblkfccnaapbaaDoorB7
import Derived.Test.YtpblkfccnaapbaaDoorB5
set_option linter.all false
section
/-
  FUNCTION 17: printed by a program of our own (wip/gen/st.py). '(masthead/wide.U).Text', in continuation form; the evaluator gives it.
-/
set_option linter.all false
set_option maxRecDepth 100000
namespace Go.Ev
open Go.Proofs
variable {A : Type}

-- ============================================================ utext (function 17)
def utext_b2 (g_udiv : (List Int) → Int → ((List Int) → Int → Option A) → Option A) (g_fmt : Int → Int → (ByteArray → Option A) → Option A) (g_reverse : (List ByteArray) → ((List ByteArray) → Option A) → Option A) (n : Nat) (t41 : Int) (t40 : (List ByteArray)) (k0 : ByteArray → Option A) (r : ByteArray → Int → Option A) (out : ByteArray) (t42 : Int) : Option A :=
  bif (decide (t42 < t41)) then
    if 0 ≤ t42 then
      if t42 < (t40.length : Int) then
        (t40[(Int.toNat t42)]?).bind fun y7 =>
        if out.size + y7.size ≤ 9223372036854775807 then
          r (out ++ y7) (IntKind.wrap .i64 (t42 + 1))
        else none
      else none
    else none
  else
    k0 out

def utext_l2 (g_udiv : (List Int) → Int → ((List Int) → Int → Option A) → Option A) (g_fmt : Int → Int → (ByteArray → Option A) → Option A) (g_reverse : (List ByteArray) → ((List ByteArray) → Option A) → Option A) (n : Nat) (t41 : Int) (t40 : (List ByteArray)) (k0 : ByteArray → Option A) : Nat → ByteArray → Int → Option A
  | 0 => fun _ _ => none
  | f + 1 => utext_b2 g_udiv g_fmt g_reverse n t41 t40 k0 (utext_l2 g_udiv g_fmt g_reverse n t41 t40 k0 f)

def utext_b1 (g_udiv : (List Int) → Int → ((List Int) → Int → Option A) → Option A) (g_fmt : Int → Int → (ByteArray → Option A) → Option A) (g_reverse : (List ByteArray) → ((List ByteArray) → Option A) → Option A) (n : Nat) (a : (List Int)) (parts : (List ByteArray)) (rest_ : (List Int)) (k0 : ByteArray → Option A) (r : ByteArray → Option A) (s : ByteArray) : Option A :=
  bif (!(deq kA4u64 rest_ [0, 0, 0, 0])) then
    bif (decide ((s.size : Int) < 19)) then
      if str1.size + s.size ≤ 9223372036854775807 then
        r (str1 ++ s)
      else none
    else
      k0 s
  else
    k0 s

def utext_l1 (g_udiv : (List Int) → Int → ((List Int) → Int → Option A) → Option A) (g_fmt : Int → Int → (ByteArray → Option A) → Option A) (g_reverse : (List ByteArray) → ((List ByteArray) → Option A) → Option A) (n : Nat) (a : (List Int)) (parts : (List ByteArray)) (rest_ : (List Int)) (k0 : ByteArray → Option A) : Nat → ByteArray → Option A
  | 0 => fun _ => none
  | f + 1 => utext_b1 g_udiv g_fmt g_reverse n a parts rest_ k0 (utext_l1 g_udiv g_fmt g_reverse n a parts rest_ k0 f)

def utext_b0 (g_udiv : (List Int) → Int → ((List Int) → Int → Option A) → Option A) (g_fmt : Int → Int → (ByteArray → Option A) → Option A) (g_reverse : (List ByteArray) → ((List ByteArray) → Option A) → Option A) (n : Nat) (k0 : (List ByteArray) → Option A) (r : (List Int) → (List ByteArray) → Option A) (a : (List Int)) (parts : (List ByteArray)) : Option A :=
  bif (!(deq kA4u64 a [0, 0, 0, 0])) then
    g_udiv a 10000000000000000000 fun r1 r2 =>
    g_fmt r2 10 fun r3 =>
    utext_l1 g_udiv g_fmt g_reverse n a parts r1 (fun y4 =>
      if (parts.length + 1) * 16 ≤ 140737488355328 then
        r r1 (parts ++ [y4])
      else none) n r3
  else
    k0 parts

def utext_l0 (g_udiv : (List Int) → Int → ((List Int) → Int → Option A) → Option A) (g_fmt : Int → Int → (ByteArray → Option A) → Option A) (g_reverse : (List ByteArray) → ((List ByteArray) → Option A) → Option A) (n : Nat) (k0 : (List ByteArray) → Option A) : Nat → (List Int) → (List ByteArray) → Option A
  | 0 => fun _ _ => none
  | f + 1 => utext_b0 g_udiv g_fmt g_reverse n k0 (utext_l0 g_udiv g_fmt g_reverse n k0 f)

def utext_p (g_udiv : (List Int) → Int → ((List Int) → Int → Option A) → Option A) (g_fmt : Int → Int → (ByteArray → Option A) → Option A) (g_reverse : (List ByteArray) → ((List ByteArray) → Option A) → Option A) (n : Nat) (a0 : (List Int)) (k : ByteArray → Option A) : Option A :=
  utext_l0 g_udiv g_fmt g_reverse n (fun y5 =>
    bif ((y5.length : Int) == 0) then
      k str1
    else
      g_reverse y5 fun r6 =>
      utext_l2 g_udiv g_fmt g_reverse n (r6.length : Int) r6 (fun y8 =>
        k y8) n ByteArray.empty 0) n a0 []

def utext_k (n : Nat) (a0 : (List Int)) (k : ByteArray → Option A) : Option A := utext_p (udiv_k n) (fmt_k n) (reverse_k n) n a0 k

noncomputable def utext_c0 : Code := codeAt [1, 1, 0, 0, 0] (bodyOf Tryd.f17)
def utext_d0 : List Nat := [0, 2, 4, 5, 6, 10, 11, 12, 13, 14, 15, 16, 17, 18, 19, 20, 21, 22, 23, 24, 25, 26, 27, 28, 29, 30, 31, 32, 33, 34]
def utext_y0 : List Nat := [0, 1, 2, 4, 5, 6, 7, 8, 9, 10, 11, 12, 13, 14, 15, 16, 17, 18, 19, 20, 21, 22, 23, 24, 25, 26, 27, 28, 29, 30, 31, 32, 33, 34, 35, 36, 37, 38, 39, 40, 41, 42, 43, 44, 45, 46, 47, 48, 49, 50]
def utext_sh0 : Shape := ⟨[.any, (.ptr 0), .any, (.row 1), .any, .any, .any, .any, .any, .any, .any, .any, .any, .any, .any, .any, .any, .any, .any, .any, .any, .any, .any, .any, .any, .any, .any, .any, .any, .any, .any, .any, .any, .any, .any, .any, .any, .any, .any, .any, .any, .any, .any, .any, .any, .any, .any, .any, .any, .any, .any], [(.var 24 kA4u64 (.p kA4u64)), (.row 9 .str)], 0⟩
def utext_t0 (a : (List Int)) (parts : (List ByteArray)) : utext_sh0.den := (((), (), (), (), (), (), (), (), (), (), (), (), (), (), (), (), (), (), (), (), (), (), (), (), (), (), (), (), (), (), (), (), (), (), (), (), (), (), (), (), (), (), (), (), (), (), (), (), (), (), (), ()), (a, parts, ()))
def utext_x0_0 (z0 : (List ByteArray)) : St := ⟨[.any, .any, .any, .row 0, .any, .any, .any, .any, .any, .any, .any, .any, .any, .any, .any, .any, .any, .any, .any, .any, .any, .any, .any, .any, .any, .any, .any, .any, .any, .any, .any, .any, .any, .any, .any, .any, .any, .any, .any, .any, .any, .any, .any, .any, .any, .any, .any, .any, .any, .any, .any], [.row 9 .str z0], 0⟩
def utext_g0 (g_udiv : (List Int) → Int → ((List Int) → Int → Option A) → Option A) (g_fmt : Int → Int → (ByteArray → Option A) → Option A) (g_reverse : (List ByteArray) → ((List ByteArray) → Option A) → Option A) (n : Nat) (d : utext_sh0.den) (k : Ex → St → Option A) : Option A :=
  utext_l0 g_udiv g_fmt g_reverse n (fun z0 => k (.exit 0) (utext_x0_0 z0)) n d.2.1 d.2.2.1
noncomputable def utext_c1 : Code := codeAt [1, 1, 0, 0, 0, 1, 0, 1, 1, 0, 0, 0] (bodyOf Tryd.f17)
def utext_d1 : List Nat := [5, 10, 11, 12, 13, 14, 15, 16, 17, 18, 19, 20, 21, 22, 23, 24, 25, 26, 27, 28, 29]
def utext_y1 : List Nat := [0, 2, 5, 7, 8, 9, 10, 11, 12, 13, 14, 15, 16, 17, 18, 19, 20, 21, 22, 23, 24, 25, 26, 27, 28, 29, 30, 31, 32, 33, 34, 35, 36, 37, 38, 39, 40, 41, 42, 43, 44, 45, 46, 47, 48, 49, 50]
def utext_sh1 : Shape := ⟨[.any, (.ptr 0), .any, (.row 1), (.ptr 2), .any, (.p .str), .any, .any, .any, .any, .any, .any, .any, .any, .any, .any, .any, .any, .any, .any, .any, .any, .any, .any, .any, .any, .any, .any, .any, .any, .any, .any, .any, .any, .any, .any, .any, .any, .any, .any, .any, .any, .any, .any, .any, .any, .any, .any, .any, .any], [(.var 24 kA4u64 (.p kA4u64)), (.row 9 .str), (.var 24 kA4u64 (.p kA4u64))], 0⟩
def utext_t1 (a : (List Int)) (parts : (List ByteArray)) (rest_ : (List Int)) (s : ByteArray) : utext_sh1.den := (((), (), (), (), (), (), s, (), (), (), (), (), (), (), (), (), (), (), (), (), (), (), (), (), (), (), (), (), (), (), (), (), (), (), (), (), (), (), (), (), (), (), (), (), (), (), (), (), (), (), (), ()), (a, parts, rest_, ()))
def utext_x1_0 (a : (List Int)) (parts : (List ByteArray)) (rest_ : (List Int)) (z0 : ByteArray) : St := ⟨[.any, .ptr 0 [], .any, .row 1, .ptr 2 [], .any, .p .str z0, .any, .any, .any, .any, .any, .any, .any, .any, .any, .any, .any, .any, .any, .any, .any, .any, .any, .any, .any, .any, .any, .any, .any, .any, .any, .any, .any, .any, .any, .any, .any, .any, .any, .any, .any, .any, .any, .any, .any, .any, .any, .any, .any, .any], [.var 24 kA4u64 (.p kA4u64 a), .row 9 .str parts, .var 24 kA4u64 (.p kA4u64 rest_)], 0⟩
def utext_g1 (g_udiv : (List Int) → Int → ((List Int) → Int → Option A) → Option A) (g_fmt : Int → Int → (ByteArray → Option A) → Option A) (g_reverse : (List ByteArray) → ((List ByteArray) → Option A) → Option A) (n : Nat) (d : utext_sh1.den) (k : Ex → St → Option A) : Option A :=
  utext_l1 g_udiv g_fmt g_reverse n d.2.1 d.2.2.1 d.2.2.2.1 (fun z0 => k (.exit 2) (utext_x1_0 d.2.1 d.2.2.1 d.2.2.2.1 z0)) n d.1.2.2.2.2.2.2.1
noncomputable def utext_c2 : Code := codeAt [1, 1, 1, 1, 1, 1, 0, 1, 0, 0] (bodyOf Tryd.f17)
def utext_d2 : List Nat := [3, 9, 35, 36, 37, 38, 39, 43, 44, 45, 46, 47, 48, 49]
def utext_y2 : List Nat := [0, 1, 2, 3, 4, 5, 6, 8, 9, 10, 11, 12, 13, 14, 15, 16, 17, 18, 19, 20, 21, 22, 23, 24, 25, 26, 27, 28, 29, 30, 31, 32, 33, 34, 35, 36, 37, 38, 39, 40, 41, 42, 43, 44, 45, 46, 47, 48, 49, 50]
def utext_sh2 : Shape := ⟨[.any, .any, .any, .any, .any, .any, .any, (.p .str), .any, .any, .any, .any, .any, .any, .any, .any, .any, .any, .any, .any, .any, .any, .any, .any, .any, .any, .any, .any, .any, .any, .any, .any, .any, .any, .any, .any, .any, .any, .any, .any, (.row 0), (.p (.int .i64)), (.p (.int .i64)), .any, .any, .any, .any, .any, .any, .any, .any], [(.row 9 .str)], 0⟩
def utext_t2 (t41 : Int) (t40 : (List ByteArray)) (out : ByteArray) (t42 : Int) : utext_sh2.den := (((), (), (), (), (), (), (), out, (), (), (), (), (), (), (), (), (), (), (), (), (), (), (), (), (), (), (), (), (), (), (), (), (), (), (), (), (), (), (), (), (), t41, t42, (), (), (), (), (), (), (), (), ()), (t40, ()))
def utext_x2_0 (t41 : Int) (t40 : (List ByteArray)) (z0 : ByteArray) : St := ⟨[.any, .any, .any, .any, .any, .any, .any, .p .str z0, .any, .any, .any, .any, .any, .any, .any, .any, .any, .any, .any, .any, .any, .any, .any, .any, .any, .any, .any, .any, .any, .any, .any, .any, .any, .any, .any, .any, .any, .any, .any, .any, .any, .any, .any, .any, .any, .any, .any, .any, .any, .any, .any], [], 0⟩
def utext_g2 (g_udiv : (List Int) → Int → ((List Int) → Int → Option A) → Option A) (g_fmt : Int → Int → (ByteArray → Option A) → Option A) (g_reverse : (List ByteArray) → ((List ByteArray) → Option A) → Option A) (n : Nat) (d : utext_sh2.den) (k : Ex → St → Option A) : Option A :=
  utext_l2 g_udiv g_fmt g_reverse n d.1.2.2.2.2.2.2.2.2.2.2.2.2.2.2.2.2.2.2.2.2.2.2.2.2.2.2.2.2.2.2.2.2.2.2.2.2.2.2.2.2.2.1 d.2.1 (fun z0 => k (.exit 4) (utext_x2_0 d.1.2.2.2.2.2.2.2.2.2.2.2.2.2.2.2.2.2.2.2.2.2.2.2.2.2.2.2.2.2.2.2.2.2.2.2.2.2.2.2.2.2.1 d.2.1 z0)) n d.1.2.2.2.2.2.2.2.1 d.1.2.2.2.2.2.2.2.2.2.2.2.2.2.2.2.2.2.2.2.2.2.2.2.2.2.2.2.2.2.2.2.2.2.2.2.2.2.2.2.2.2.2.1
noncomputable def utext_E (g_udiv : (List Int) → Int → ((List Int) → Int → Option A) → Option A) (g_fmt : Int → Int → (ByteArray → Option A) → Option A) (g_reverse : (List ByteArray) → ((List ByteArray) → Option A) → Option A) (n : Nat) : Env A := ⟨tys, gls, [(12, udiv_ent g_udiv), (42, fmt_ent g_fmt), (43, reverse_ent g_reverse)], [(0, loopE utext_d0 utext_sh0 (utext_g0 g_udiv g_fmt g_reverse n)), (1, loopE utext_d1 utext_sh1 (utext_g1 g_udiv g_fmt g_reverse n)), (2, loopE utext_d2 utext_sh2 (utext_g2 g_udiv g_fmt g_reverse n))], []⟩
theorem utext_T (g_udiv : (List Int) → Int → ((List Int) → Int → Option A) → Option A) (g_fmt : Int → Int → (ByteArray → Option A) → Option A) (g_reverse : (List ByteArray) → ((List ByteArray) → Option A) → Option A) (n : Nat) : TyOK Tryd.prog (utext_E g_udiv g_fmt g_reverse n) := tyOK_of rfl tysB
theorem utext_fns (n : Nat) : FnsOK Tryd.prog (utext_E (A := A) (udiv_k n) (fmt_k n) (reverse_k n) n) := AllOK.env rfl rfl (AllOK.cons (udiv_ok n) (AllOK.cons (fmt_ok n) (AllOK.cons (reverse_ok n) AllOK.nil)))
noncomputable def utext_LK2 (g_udiv : (List Int) → Int → ((List Int) → Int → Option A) → Option A) (g_fmt : Int → Int → (ByteArray → Option A) → Option A) (g_reverse : (List ByteArray) → ((List ByteArray) → Option A) → Option A) (n : Nat) (t41 : Int) (t40 : (List ByteArray)) (k : Ex → St → Option A) (f : Nat) (out : ByteArray) (t42 : Int) : Option A := loopK (codeK (utext_E g_udiv g_fmt g_reverse n) 3 utext_c2) utext_d2 utext_y2 f (utext_sh2.fill (utext_t2 t41 t40 out t42)) k
theorem utext_st2 (g_udiv : (List Int) → Int → ((List Int) → Int → Option A) → Option A) (g_fmt : Int → Int → (ByteArray → Option A) → Option A) (g_reverse : (List ByteArray) → ((List ByteArray) → Option A) → Option A) (n f : Nat) (t41 : Int) (t40 : (List ByteArray)) (k : Ex → St → Option A) (out : ByteArray) (t42 : Int) : utext_LK2 g_udiv g_fmt g_reverse n t41 t40 k (f + 1) out t42 = utext_b2 g_udiv g_fmt g_reverse n t41 t40 (fun z0 => k (.exit 4) (utext_x2_0 t41 t40 z0)) (utext_LK2 g_udiv g_fmt g_reverse n t41 t40 k f) out t42 := by kernel_rfl
theorem utext_le2 (g_udiv : (List Int) → Int → ((List Int) → Int → Option A) → Option A) (g_fmt : Int → Int → (ByteArray → Option A) → Option A) (g_reverse : (List ByteArray) → ((List ByteArray) → Option A) → Option A) (n : Nat) (t41 : Int) (t40 : (List ByteArray)) (k : Ex → St → Option A) : ∀ (f : Nat) (out : ByteArray) (t42 : Int), utext_LK2 g_udiv g_fmt g_reverse n t41 t40 k f out t42 = utext_l2 g_udiv g_fmt g_reverse n t41 t40 (fun z0 => k (.exit 4) (utext_x2_0 t41 t40 z0)) f out t42 := by
  intro f
  induction f with
  | zero => intros; kernel_rfl
  | succ f ih => intro out t42; exact (utext_st2 g_udiv g_fmt g_reverse n f t41 t40 k out t42).trans ((congrArg (fun r => utext_b2 g_udiv g_fmt g_reverse n t41 t40 (fun z0 => k (.exit 4) (utext_x2_0 t41 t40 z0)) r out t42) (funext fun out => funext fun t42 => ih out t42)).trans (by kernel_rfl))
theorem utext_lo2 (n : Nat) : LoopOK Tryd.prog gls utext_c2 (loopE utext_d2 utext_sh2 (utext_g2 (A := A) (udiv_k n) (fmt_k n) (reverse_k n) n)) :=
  LoopOK.of (utext_T (udiv_k n) (fmt_k n) (reverse_k n) n) (utext_fns n) follows (j := 3) (n := n) (xdead := utext_y2) (lo_of (by kernel_rfl : loopsOf 3 utext_c2 = []) lo_nil) fun d k => Eq.trans (by kernel_rfl) (utext_le2 (udiv_k n) (fmt_k n) (reverse_k n) n d.1.2.2.2.2.2.2.2.2.2.2.2.2.2.2.2.2.2.2.2.2.2.2.2.2.2.2.2.2.2.2.2.2.2.2.2.2.2.2.2.2.2.1 d.2.1 k n d.1.2.2.2.2.2.2.2.1 d.1.2.2.2.2.2.2.2.2.2.2.2.2.2.2.2.2.2.2.2.2.2.2.2.2.2.2.2.2.2.2.2.2.2.2.2.2.2.2.2.2.2.2.1)
noncomputable def utext_LK1 (g_udiv : (List Int) → Int → ((List Int) → Int → Option A) → Option A) (g_fmt : Int → Int → (ByteArray → Option A) → Option A) (g_reverse : (List ByteArray) → ((List ByteArray) → Option A) → Option A) (n : Nat) (a : (List Int)) (parts : (List ByteArray)) (rest_ : (List Int)) (k : Ex → St → Option A) (f : Nat) (s : ByteArray) : Option A := loopK (codeK (utext_E g_udiv g_fmt g_reverse n) 2 utext_c1) utext_d1 utext_y1 f (utext_sh1.fill (utext_t1 a parts rest_ s)) k
theorem utext_st1 (g_udiv : (List Int) → Int → ((List Int) → Int → Option A) → Option A) (g_fmt : Int → Int → (ByteArray → Option A) → Option A) (g_reverse : (List ByteArray) → ((List ByteArray) → Option A) → Option A) (n f : Nat) (a : (List Int)) (parts : (List ByteArray)) (rest_ : (List Int)) (k : Ex → St → Option A) (s : ByteArray) : utext_LK1 g_udiv g_fmt g_reverse n a parts rest_ k (f + 1) s = utext_b1 g_udiv g_fmt g_reverse n a parts rest_ (fun z0 => k (.exit 2) (utext_x1_0 a parts rest_ z0)) (utext_LK1 g_udiv g_fmt g_reverse n a parts rest_ k f) s := by kernel_rfl
theorem utext_le1 (g_udiv : (List Int) → Int → ((List Int) → Int → Option A) → Option A) (g_fmt : Int → Int → (ByteArray → Option A) → Option A) (g_reverse : (List ByteArray) → ((List ByteArray) → Option A) → Option A) (n : Nat) (a : (List Int)) (parts : (List ByteArray)) (rest_ : (List Int)) (k : Ex → St → Option A) : ∀ (f : Nat) (s : ByteArray), utext_LK1 g_udiv g_fmt g_reverse n a parts rest_ k f s = utext_l1 g_udiv g_fmt g_reverse n a parts rest_ (fun z0 => k (.exit 2) (utext_x1_0 a parts rest_ z0)) f s := by
  intro f
  induction f with
  | zero => intros; kernel_rfl
  | succ f ih => intro s; exact (utext_st1 g_udiv g_fmt g_reverse n f a parts rest_ k s).trans ((congrArg (fun r => utext_b1 g_udiv g_fmt g_reverse n a parts rest_ (fun z0 => k (.exit 2) (utext_x1_0 a parts rest_ z0)) r s) (funext fun s => ih s)).trans (by kernel_rfl))
theorem utext_lo1 (n : Nat) : LoopOK Tryd.prog gls utext_c1 (loopE utext_d1 utext_sh1 (utext_g1 (A := A) (udiv_k n) (fmt_k n) (reverse_k n) n)) :=
  LoopOK.of (utext_T (udiv_k n) (fmt_k n) (reverse_k n) n) (utext_fns n) follows (j := 2) (n := n) (xdead := utext_y1) (lo_of (by kernel_rfl : loopsOf 2 utext_c1 = []) lo_nil) fun d k => Eq.trans (by kernel_rfl) (utext_le1 (udiv_k n) (fmt_k n) (reverse_k n) n d.2.1 d.2.2.1 d.2.2.2.1 k n d.1.2.2.2.2.2.2.1)
noncomputable def utext_LK0 (g_udiv : (List Int) → Int → ((List Int) → Int → Option A) → Option A) (g_fmt : Int → Int → (ByteArray → Option A) → Option A) (g_reverse : (List ByteArray) → ((List ByteArray) → Option A) → Option A) (n : Nat) (k : Ex → St → Option A) (f : Nat) (a : (List Int)) (parts : (List ByteArray)) : Option A := loopK (codeK (utext_E g_udiv g_fmt g_reverse n) 1 utext_c0) utext_d0 utext_y0 f (utext_sh0.fill (utext_t0 a parts)) k
theorem utext_st0 (g_udiv : (List Int) → Int → ((List Int) → Int → Option A) → Option A) (g_fmt : Int → Int → (ByteArray → Option A) → Option A) (g_reverse : (List ByteArray) → ((List ByteArray) → Option A) → Option A) (n f : Nat) (k : Ex → St → Option A) (a : (List Int)) (parts : (List ByteArray)) : utext_LK0 g_udiv g_fmt g_reverse n k (f + 1) a parts = utext_b0 g_udiv g_fmt g_reverse n (fun z0 => k (.exit 0) (utext_x0_0 z0)) (utext_LK0 g_udiv g_fmt g_reverse n k f) a parts := by kernel_rfl
theorem utext_le0 (g_udiv : (List Int) → Int → ((List Int) → Int → Option A) → Option A) (g_fmt : Int → Int → (ByteArray → Option A) → Option A) (g_reverse : (List ByteArray) → ((List ByteArray) → Option A) → Option A) (n : Nat) (k : Ex → St → Option A) : ∀ (f : Nat) (a : (List Int)) (parts : (List ByteArray)), utext_LK0 g_udiv g_fmt g_reverse n k f a parts = utext_l0 g_udiv g_fmt g_reverse n (fun z0 => k (.exit 0) (utext_x0_0 z0)) f a parts := by
  intro f
  induction f with
  | zero => intros; kernel_rfl
  | succ f ih => intro a parts; exact (utext_st0 g_udiv g_fmt g_reverse n f k a parts).trans ((congrArg (fun r => utext_b0 g_udiv g_fmt g_reverse n (fun z0 => k (.exit 0) (utext_x0_0 z0)) r a parts) (funext fun a => funext fun parts => ih a parts)).trans (by kernel_rfl))
theorem utext_lo0 (n : Nat) : LoopOK Tryd.prog gls utext_c0 (loopE utext_d0 utext_sh0 (utext_g0 (A := A) (udiv_k n) (fmt_k n) (reverse_k n) n)) :=
  LoopOK.of (utext_T (udiv_k n) (fmt_k n) (reverse_k n) n) (utext_fns n) follows (j := 1) (n := n) (xdead := utext_y0) (lo_of (by kernel_rfl : loopsOf 1 utext_c0 = [(1, utext_c1)]) (lo_cons rfl (utext_lo1 n) lo_nil)) fun d k => Eq.trans (by kernel_rfl) (utext_le0 (udiv_k n) (fmt_k n) (reverse_k n) n k n d.2.1 d.2.2.1)
theorem utext_eqg (g_udiv : (List Int) → Int → ((List Int) → Int → Option A) → Option A) (g_fmt : Int → Int → (ByteArray → Option A) → Option A) (g_reverse : (List ByteArray) → ((List ByteArray) → Option A) → Option A) (n : Nat) (a0 : (List Int)) (k : AV → List Blk → Option A) : fnK (utext_E g_udiv g_fmt g_reverse n) Tryd.f17 [.pure] [.p kA4u64 a0] [] k = utext_p g_udiv g_fmt g_reverse n a0 (fun r0 => k (.p .str r0) []) := by kernel_rfl
theorem utext_eq (n : Nat) (a0 : (List Int)) (k : AV → List Blk → Option A) : fnK (utext_E (udiv_k n) (fmt_k n) (reverse_k n) n) Tryd.f17 [.pure] [.p kA4u64 a0] [] k = utext_k n a0 (fun r0 => k (.p .str r0) []) := utext_eqg (udiv_k n) (fmt_k n) (reverse_k n) n a0 k
def utext_ent (g : (List Int) → (ByteArray → Option A) → Option A) : Entry A := pureE fun args k => args1 args kA4u64 fun a0 => g a0 (fun r0 => k (.p .str r0) [])
theorem utext_lo (n : Nat) : ∀ c, Tryd.f17.body = some c → ∀ q ∈ loopsOf 0 c, ∀ L, (utext_E (A := A) (udiv_k n) (fmt_k n) (reverse_k n) n).lps.lookup q.1 = some L → LoopOK Tryd.prog gls q.2 L :=
  lo_body (E := utext_E (udiv_k n) (fmt_k n) (reverse_k n) n) (by kernel_rfl : Tryd.f17.body = some (bodyOf Tryd.f17)) (lo_of (E := utext_E (udiv_k n) (fmt_k n) (reverse_k n) n) (by kernel_rfl : loopsOf 0 (bodyOf Tryd.f17) = [(0, utext_c0), (1, utext_c1), (2, utext_c2)]) (lo_cons rfl (utext_lo0 n) (lo_cons rfl (utext_lo1 n) (lo_cons rfl (utext_lo2 n) lo_nil))))
theorem utext_ok (n : Nat) : FnOK Tryd.prog gls 17 (utext_ent (A := A) (utext_k n)) :=
  FnOK.of (utext_T (udiv_k n) (fmt_k n) (reverse_k n) n) (utext_fns n) follows ⟨Tryd.func17, by kernel_rfl⟩ (utext_lo n) (rm := [.pure]) fun args k out h => by
    obtain ⟨a0, e, h1⟩ := args1_sound h
    subst e; rw [utext_eq]; exact h1

end Go.Ev
end

section
/-
  FUNCTION 13: printed by a program of our own (wip/gen/st.py). 'masthead/mastheadlaw04.awake', in continuation form; the evaluator gives it.
-/
set_option linter.all false
set_option maxRecDepth 100000
namespace Go.Ev
open Go.Proofs
variable {A : Type}

-- ============================================================ awake (function 13)
def awake_p (g_uof : Int → ((List Int) → Option A) → Option A) (g_ushl : (List Int) → Int → ((List Int) → Option A) → Option A) (g_ulen : (List Int) → (Int → Option A) → Option A) (g_umax : ((List Int) → Option A) → Option A) (g_utext : (List Int) → (ByteArray → Option A) → Option A) (n : Nat) (k : Bool → Option A) : Option A :=
  g_uof 1 fun r1 =>
  g_ushl r1 255 fun r2 =>
  g_ulen r2 fun r3 =>
  bif (r3 == 256) then
    g_umax fun r4 =>
    g_utext r4 fun r5 =>
    k ((r5.size : Int) == 78)
  else
    k false

def awake_k (n : Nat) (k : Bool → Option A) : Option A := awake_p (uof_k n) (ushl_k n) (ulen_k n) (umax_k n) (utext_k n) n k

noncomputable def awake_E (g_uof : Int → ((List Int) → Option A) → Option A) (g_ushl : (List Int) → Int → ((List Int) → Option A) → Option A) (g_ulen : (List Int) → (Int → Option A) → Option A) (g_umax : ((List Int) → Option A) → Option A) (g_utext : (List Int) → (ByteArray → Option A) → Option A) (n : Nat) : Env A := ⟨tys, gls, [(39, uof_ent g_uof), (21, ushl_ent g_ushl), (37, ulen_ent g_ulen), (40, umax_ent g_umax), (17, utext_ent g_utext)], [], []⟩
theorem awake_T (g_uof : Int → ((List Int) → Option A) → Option A) (g_ushl : (List Int) → Int → ((List Int) → Option A) → Option A) (g_ulen : (List Int) → (Int → Option A) → Option A) (g_umax : ((List Int) → Option A) → Option A) (g_utext : (List Int) → (ByteArray → Option A) → Option A) (n : Nat) : TyOK Tryd.prog (awake_E g_uof g_ushl g_ulen g_umax g_utext n) := tyOK_of rfl tysB
theorem awake_fns (n : Nat) : FnsOK Tryd.prog (awake_E (A := A) (uof_k n) (ushl_k n) (ulen_k n) (umax_k n) (utext_k n) n) := AllOK.env rfl rfl (AllOK.cons (uof_ok n) (AllOK.cons (ushl_ok n) (AllOK.cons (ulen_ok n) (AllOK.cons (umax_ok n) (AllOK.cons (utext_ok n) AllOK.nil)))))
theorem awake_eqg (g_uof : Int → ((List Int) → Option A) → Option A) (g_ushl : (List Int) → Int → ((List Int) → Option A) → Option A) (g_ulen : (List Int) → (Int → Option A) → Option A) (g_umax : ((List Int) → Option A) → Option A) (g_utext : (List Int) → (ByteArray → Option A) → Option A) (n : Nat) (k : AV → List Blk → Option A) : fnK (awake_E g_uof g_ushl g_ulen g_umax g_utext n) Tryd.f13 [.pure] [] [] k = awake_p g_uof g_ushl g_ulen g_umax g_utext n (fun r0 => k (.p .bool r0) []) := by kernel_rfl
theorem awake_eq (n : Nat) (k : AV → List Blk → Option A) : fnK (awake_E (uof_k n) (ushl_k n) (ulen_k n) (umax_k n) (utext_k n) n) Tryd.f13 [.pure] [] [] k = awake_k n (fun r0 => k (.p .bool r0) []) := awake_eqg (uof_k n) (ushl_k n) (ulen_k n) (umax_k n) (utext_k n) n k
def awake_ent (g : (Bool → Option A) → Option A) : Entry A := pureE fun args k => args0 args (g (fun r0 => k (.p .bool r0) []))
theorem awake_lo (n : Nat) : ∀ c, Tryd.f13.body = some c → ∀ q ∈ loopsOf 0 c, ∀ L, (awake_E (A := A) (uof_k n) (ushl_k n) (ulen_k n) (umax_k n) (utext_k n) n).lps.lookup q.1 = some L → LoopOK Tryd.prog gls q.2 L :=
  lo_body (E := awake_E (uof_k n) (ushl_k n) (ulen_k n) (umax_k n) (utext_k n) n) (by kernel_rfl : Tryd.f13.body = some (bodyOf Tryd.f13)) (lo_of (E := awake_E (uof_k n) (ushl_k n) (ulen_k n) (umax_k n) (utext_k n) n) (by kernel_rfl : loopsOf 0 (bodyOf Tryd.f13) = []) lo_nil)
theorem awake_ok (n : Nat) : FnOK Tryd.prog gls 13 (awake_ent (A := A) (awake_k n)) :=
  FnOK.of (awake_T (uof_k n) (ushl_k n) (ulen_k n) (umax_k n) (utext_k n) n) (awake_fns n) follows ⟨Tryd.func13, by kernel_rfl⟩ (awake_lo n) (rm := [.pure]) fun args k out h => by
    obtain ⟨e, h1⟩ := args0_sound h
    subst e; rw [awake_eq]; exact h1

end Go.Ev
end

section
/-
  THE PROGRAM IS AWAKE (wide numbers), and what lies in an argument.
-/
set_option linter.all false
namespace Go.Ev
variable {A : Type}

theorem awake_1000 (k : Bool → Option A) : awake_k 1000 k = k true := by kernel_rfl

theorem wf_int64 {x : Int} (h : WF (.int .u64) x) : ∃ n : Nat, x = (n : Int) ∧ n < 18446744073709551616 := by
  have h1 : IntKind.u64.min ≤ x ∧ x ≤ IntKind.u64.max := h
  rw [show IntKind.u64.min = 0 by decide, show IntKind.u64.max = 18446744073709551615 by decide] at h1
  exact ⟨x.toNat, by omega, by omega⟩
theorem wf_four {v : List Int} (h : WF kA4u64 v) : ∃ x : Nat, v = ints (uw x) ∧ x < 2 ^ 256 := by
  obtain ⟨hl, hu⟩ := h
  match v, hl with
  | [x, y, z, w], _ =>
    obtain ⟨a, rfl, ha⟩ := wf_int64 (hu x (by simp))
    obtain ⟨b, rfl, hb⟩ := wf_int64 (hu y (by simp))
    obtain ⟨c, rfl, hc⟩ := wf_int64 (hu z (by simp))
    obtain ⟨d, rfl, hd⟩ := wf_int64 (hu w (by simp))
    refine ⟨a + 18446744073709551616 * (b + 18446744073709551616 * (c + 18446744073709551616 * d)), ?_, by rw [show (2 : Nat) ^ 256 = 115792089237316195423570985008687907853269984665640564039457584007913129639936 from by decide]; omega⟩
    have e : uw (a + 18446744073709551616 * (b + 18446744073709551616 * (c + 18446744073709551616 * d))) = [a, b, c, d] := by
      unfold uw
      rw [show (a + 18446744073709551616 * (b + 18446744073709551616 * (c + 18446744073709551616 * d))) % 18446744073709551616 = a from by omega,
        show (a + 18446744073709551616 * (b + 18446744073709551616 * (c + 18446744073709551616 * d))) / 18446744073709551616 % 18446744073709551616 = b from by omega,
        show (a + 18446744073709551616 * (b + 18446744073709551616 * (c + 18446744073709551616 * d))) / 340282366920938463463374607431768211456 % 18446744073709551616 = c from by omega,
        show (a + 18446744073709551616 * (b + 18446744073709551616 * (c + 18446744073709551616 * d))) / 6277101735386680763835789423207666416102355444464034512896 % 18446744073709551616 = d from by omega]
    rw [e]; rfl

end Go.Ev
end

section
/-
  FUNCTION 31: printed by a program of our own (wip/gen/st.py). 'masthead/wide.Little', in continuation form; the evaluator gives it.
-/
set_option linter.all false
set_option maxRecDepth 100000
namespace Go.Ev
open Go.Proofs
variable {A : Type}

-- ============================================================ ulittle (function 31)
def ulittle_b0 (g_num : (List Int) → (Int → Option A) → Option A) (n : Nat) (h : (List Int)) (t2 : (List Int)) (k0 : (List Int) → Option A) (r : Int → (List Int) → Option A) (t5 : Int) (out : (List Int)) : Option A :=
  bif (decide (t5 < 4)) then
    if 0 ≤ (IntKind.wrap .i64 ((IntKind.wrap .i64 (8 * t5)) + 8)) then
      if (IntKind.wrap .i64 ((IntKind.wrap .i64 (8 * t5)) + 8)) ≤ 32 then
        if 0 ≤ (IntKind.wrap .i64 (8 * t5)) then
          if (IntKind.wrap .i64 (8 * t5)) ≤ ((Int.toNat (IntKind.wrap .i64 ((IntKind.wrap .i64 (8 * t5)) + 8))) : Int) then
            g_num ((h.drop (Int.toNat (IntKind.wrap .i64 (8 * t5)))).take ((Int.toNat (IntKind.wrap .i64 ((IntKind.wrap .i64 (8 * t5)) + 8))) - (Int.toNat (IntKind.wrap .i64 (8 * t5))))) fun r1 =>
            if 0 ≤ t5 then
              if t5 < 4 then
                if (Int.toNat t5) < 4 then
                  r (IntKind.wrap .i64 (t5 + 1)) (out.set (Int.toNat t5) r1)
                else none
              else none
            else none
          else none
        else none
      else none
    else none
  else
    k0 out

def ulittle_l0 (g_num : (List Int) → (Int → Option A) → Option A) (n : Nat) (h : (List Int)) (t2 : (List Int)) (k0 : (List Int) → Option A) : Nat → Int → (List Int) → Option A
  | 0 => fun _ _ => none
  | f + 1 => ulittle_b0 g_num n h t2 k0 (ulittle_l0 g_num n h t2 k0 f)

def ulittle_p (g_num : (List Int) → (Int → Option A) → Option A) (n : Nat) (a0 : (List Int)) (k : (List Int) → Option A) : Option A :=
  ulittle_l0 g_num n a0 [0, 0, 0, 0] (fun y2 =>
    k y2) n 0 [0, 0, 0, 0]

def ulittle_k (n : Nat) (a0 : (List Int)) (k : (List Int) → Option A) : Option A := ulittle_p (num_k n) n a0 k

noncomputable def ulittle_c0 : Code := codeAt [1, 1, 0, 1, 0, 0] (bodyOf Tryd.f31)
def ulittle_d0 : List Nat := [0, 4, 6, 7, 8, 9, 10, 11, 12, 13, 14, 15, 16, 17]
def ulittle_y0 : List Nat := [0, 1, 4, 5, 6, 7, 8, 9, 10, 11, 12, 13, 14, 15, 16, 17, 18]
def ulittle_sh0 : Shape := ⟨[.any, (.ptr 0), (.ptr 1), (.ptr 2), .any, (.p (.int .i64)), .any, .any, .any, .any, .any, .any, .any, .any, .any, .any, .any, .any, .any], [(.var 51 kA32u8 (.p kA32u8)), (.var 24 kA4u64 (.p kA4u64)), (.var 24 kA4u64 (.p kA4u64))], 0⟩
def ulittle_t0 (h : (List Int)) (t2 : (List Int)) (t5 : Int) (out : (List Int)) : ulittle_sh0.den := (((), (), (), (), (), t5, (), (), (), (), (), (), (), (), (), (), (), (), (), ()), (h, t2, out, ()))
def ulittle_x0_0 (h : (List Int)) (t2 : (List Int)) (z1 : (List Int)) : St := ⟨[.any, .any, .ptr 0 [], .ptr 1 [], .any, .any, .any, .any, .any, .any, .any, .any, .any, .any, .any, .any, .any, .any, .any], [.var 24 kA4u64 (.p kA4u64 t2), .var 24 kA4u64 (.p kA4u64 z1)], 0⟩
def ulittle_g0 (g_num : (List Int) → (Int → Option A) → Option A) (n : Nat) (d : ulittle_sh0.den) (k : Ex → St → Option A) : Option A :=
  ulittle_l0 g_num n d.2.1 d.2.2.1 (fun z1 => k (.exit 0) (ulittle_x0_0 d.2.1 d.2.2.1 z1)) n d.1.2.2.2.2.2.1 d.2.2.2.1
noncomputable def ulittle_E (g_num : (List Int) → (Int → Option A) → Option A) (n : Nat) : Env A := ⟨tys, gls, [(46, num_ent g_num)], [(0, loopE ulittle_d0 ulittle_sh0 (ulittle_g0 g_num n))], []⟩
theorem ulittle_T (g_num : (List Int) → (Int → Option A) → Option A) (n : Nat) : TyOK Tryd.prog (ulittle_E g_num n) := tyOK_of rfl tysB
theorem ulittle_fns (n : Nat) : FnsOK Tryd.prog (ulittle_E (A := A) (num_k n) n) := AllOK.env rfl rfl (AllOK.cons (num_ok n) AllOK.nil)
noncomputable def ulittle_LK0 (g_num : (List Int) → (Int → Option A) → Option A) (n : Nat) (h : (List Int)) (t2 : (List Int)) (k : Ex → St → Option A) (f : Nat) (t5 : Int) (out : (List Int)) : Option A := loopK (codeK (ulittle_E g_num n) 1 ulittle_c0) ulittle_d0 ulittle_y0 f (ulittle_sh0.fill (ulittle_t0 h t2 t5 out)) k
theorem ulittle_st0 (g_num : (List Int) → (Int → Option A) → Option A) (n f : Nat) (h : (List Int)) (t2 : (List Int)) (k : Ex → St → Option A) (t5 : Int) (out : (List Int)) : ulittle_LK0 g_num n h t2 k (f + 1) t5 out = ulittle_b0 g_num n h t2 (fun z1 => k (.exit 0) (ulittle_x0_0 h t2 z1)) (ulittle_LK0 g_num n h t2 k f) t5 out := by kernel_rfl
theorem ulittle_le0 (g_num : (List Int) → (Int → Option A) → Option A) (n : Nat) (h : (List Int)) (t2 : (List Int)) (k : Ex → St → Option A) : ∀ (f : Nat) (t5 : Int) (out : (List Int)), ulittle_LK0 g_num n h t2 k f t5 out = ulittle_l0 g_num n h t2 (fun z1 => k (.exit 0) (ulittle_x0_0 h t2 z1)) f t5 out := by
  intro f
  induction f with
  | zero => intros; kernel_rfl
  | succ f ih => intro t5 out; exact (ulittle_st0 g_num n f h t2 k t5 out).trans ((congrArg (fun r => ulittle_b0 g_num n h t2 (fun z1 => k (.exit 0) (ulittle_x0_0 h t2 z1)) r t5 out) (funext fun t5 => funext fun out => ih t5 out)).trans (by kernel_rfl))
theorem ulittle_lo0 (n : Nat) : LoopOK Tryd.prog gls ulittle_c0 (loopE ulittle_d0 ulittle_sh0 (ulittle_g0 (A := A) (num_k n) n)) :=
  LoopOK.of (ulittle_T (num_k n) n) (ulittle_fns n) follows (j := 1) (n := n) (xdead := ulittle_y0) (lo_of (by kernel_rfl : loopsOf 1 ulittle_c0 = []) lo_nil) fun d k => Eq.trans (by kernel_rfl) (ulittle_le0 (num_k n) n d.2.1 d.2.2.1 k n d.1.2.2.2.2.2.1 d.2.2.2.1)
theorem ulittle_eqg (g_num : (List Int) → (Int → Option A) → Option A) (n : Nat) (a0 : (List Int)) (k : AV → List Blk → Option A) : fnK (ulittle_E g_num n) Tryd.f31 [.pure] [.p kA32u8 a0] [] k = ulittle_p g_num n a0 (fun r0 => k (.p kA4u64 r0) []) := by kernel_rfl
theorem ulittle_eq (n : Nat) (a0 : (List Int)) (k : AV → List Blk → Option A) : fnK (ulittle_E (num_k n) n) Tryd.f31 [.pure] [.p kA32u8 a0] [] k = ulittle_k n a0 (fun r0 => k (.p kA4u64 r0) []) := ulittle_eqg (num_k n) n a0 k
def ulittle_ent (g : (List Int) → ((List Int) → Option A) → Option A) : Entry A := pureE fun args k => args1 args kA32u8 fun a0 => g a0 (fun r0 => k (.p kA4u64 r0) [])
theorem ulittle_lo (n : Nat) : ∀ c, Tryd.f31.body = some c → ∀ q ∈ loopsOf 0 c, ∀ L, (ulittle_E (A := A) (num_k n) n).lps.lookup q.1 = some L → LoopOK Tryd.prog gls q.2 L :=
  lo_body (E := ulittle_E (num_k n) n) (by kernel_rfl : Tryd.f31.body = some (bodyOf Tryd.f31)) (lo_of (E := ulittle_E (num_k n) n) (by kernel_rfl : loopsOf 0 (bodyOf Tryd.f31) = [(0, ulittle_c0)]) (lo_cons rfl (ulittle_lo0 n) lo_nil))
theorem ulittle_ok (n : Nat) : FnOK Tryd.prog gls 31 (ulittle_ent (A := A) (ulittle_k n)) :=
  FnOK.of (ulittle_T (num_k n) n) (ulittle_fns n) follows ⟨Tryd.func31, by kernel_rfl⟩ (ulittle_lo n) (rm := [.pure]) fun args k out h => by
    obtain ⟨a0, e, h1⟩ := args1_sound h
    subst e; rw [ulittle_eq]; exact h1

end Go.Ev
end

section
/-
  FUNCTION 32: printed by a program of our own (wip/gen/st.py). '(masthead/wide.U).Bytes', in continuation form; the evaluator gives it.
-/
set_option linter.all false
set_option maxRecDepth 100000
namespace Go.Ev
open Go.Proofs
variable {A : Type}

-- ============================================================ ubytes (function 32)
def ubytes_b0 (g_little : Int → Int → ((List Int) → Option A) → Option A) (n : Nat) (t6 : (List Int)) (t2 : (List Int)) (k0 : (List Int) → Option A) (r : Int → (List Int) → Option A) (t7 : Int) (out : (List Int)) : Option A :=
  bif (decide (t7 < 4)) then
    if 0 ≤ t7 then
      (t6[(Int.toNat t7)]?).bind fun y1 =>
      if 0 ≤ (IntKind.wrap .i64 (8 * t7)) then
        if (IntKind.wrap .i64 (8 * t7)) ≤ 32 then
          g_little y1 8 fun r2 =>
          r (IntKind.wrap .i64 (t7 + 1)) (out.take (Int.toNat (IntKind.wrap .i64 (8 * t7))) ++ (r2.take (32 - (Int.toNat (IntKind.wrap .i64 (8 * t7)))) ++ out.drop ((Int.toNat (IntKind.wrap .i64 (8 * t7))) + (min r2.length (32 - (Int.toNat (IntKind.wrap .i64 (8 * t7))))))))
        else none
      else none
    else none
  else
    k0 out

def ubytes_l0 (g_little : Int → Int → ((List Int) → Option A) → Option A) (n : Nat) (t6 : (List Int)) (t2 : (List Int)) (k0 : (List Int) → Option A) : Nat → Int → (List Int) → Option A
  | 0 => fun _ _ => none
  | f + 1 => ubytes_b0 g_little n t6 t2 k0 (ubytes_l0 g_little n t6 t2 k0 f)

def ubytes_p (g_little : Int → Int → ((List Int) → Option A) → Option A) (n : Nat) (a0 : (List Int)) (k : (List Int) → Option A) : Option A :=
  ubytes_l0 g_little n a0 (List.replicate 32 (0 : Int)) (fun y3 =>
    k y3) n 0 (List.replicate 32 (0 : Int))

def ubytes_k (n : Nat) (a0 : (List Int)) (k : (List Int) → Option A) : Option A := ubytes_p (little_k n) n a0 k

noncomputable def ubytes_c0 : Code := codeAt [1, 1, 0, 1, 0, 0] (bodyOf Tryd.f32)
def ubytes_d0 : List Nat := [0, 1, 4, 5, 8, 9, 10, 11, 12, 13, 14, 15, 16, 17]
def ubytes_y0 : List Nat := [0, 1, 4, 5, 6, 7, 8, 9, 10, 11, 12, 13, 14, 15, 16, 17, 18]
def ubytes_sh0 : Shape := ⟨[.any, .any, (.ptr 0), (.ptr 1), .any, .any, (.p kA4u64), (.p (.int .i64)), .any, .any, .any, .any, .any, .any, .any, .any, .any, .any, .any], [(.var 51 kA32u8 (.p kA32u8)), (.var 51 kA32u8 (.p kA32u8))], 0⟩
def ubytes_t0 (t6 : (List Int)) (t2 : (List Int)) (t7 : Int) (out : (List Int)) : ubytes_sh0.den := (((), (), (), (), (), (), t6, t7, (), (), (), (), (), (), (), (), (), (), (), ()), (t2, out, ()))
def ubytes_x0_0 (t6 : (List Int)) (t2 : (List Int)) (z1 : (List Int)) : St := ⟨[.any, .any, .ptr 0 [], .ptr 1 [], .any, .any, .any, .any, .any, .any, .any, .any, .any, .any, .any, .any, .any, .any, .any], [.var 51 kA32u8 (.p kA32u8 t2), .var 51 kA32u8 (.p kA32u8 z1)], 0⟩
def ubytes_g0 (g_little : Int → Int → ((List Int) → Option A) → Option A) (n : Nat) (d : ubytes_sh0.den) (k : Ex → St → Option A) : Option A :=
  ubytes_l0 g_little n d.1.2.2.2.2.2.2.1 d.2.1 (fun z1 => k (.exit 0) (ubytes_x0_0 d.1.2.2.2.2.2.2.1 d.2.1 z1)) n d.1.2.2.2.2.2.2.2.1 d.2.2.1
noncomputable def ubytes_E (g_little : Int → Int → ((List Int) → Option A) → Option A) (n : Nat) : Env A := ⟨tys, gls, [(47, little_ent g_little)], [(0, loopE ubytes_d0 ubytes_sh0 (ubytes_g0 g_little n))], []⟩
theorem ubytes_T (g_little : Int → Int → ((List Int) → Option A) → Option A) (n : Nat) : TyOK Tryd.prog (ubytes_E g_little n) := tyOK_of rfl tysB
theorem ubytes_fns (n : Nat) : FnsOK Tryd.prog (ubytes_E (A := A) (little_k n) n) := AllOK.env rfl rfl (AllOK.cons (little_ok n) AllOK.nil)
noncomputable def ubytes_LK0 (g_little : Int → Int → ((List Int) → Option A) → Option A) (n : Nat) (t6 : (List Int)) (t2 : (List Int)) (k : Ex → St → Option A) (f : Nat) (t7 : Int) (out : (List Int)) : Option A := loopK (codeK (ubytes_E g_little n) 1 ubytes_c0) ubytes_d0 ubytes_y0 f (ubytes_sh0.fill (ubytes_t0 t6 t2 t7 out)) k
theorem ubytes_st0 (g_little : Int → Int → ((List Int) → Option A) → Option A) (n f : Nat) (t6 : (List Int)) (t2 : (List Int)) (k : Ex → St → Option A) (t7 : Int) (out : (List Int)) : ubytes_LK0 g_little n t6 t2 k (f + 1) t7 out = ubytes_b0 g_little n t6 t2 (fun z1 => k (.exit 0) (ubytes_x0_0 t6 t2 z1)) (ubytes_LK0 g_little n t6 t2 k f) t7 out := by kernel_rfl
theorem ubytes_le0 (g_little : Int → Int → ((List Int) → Option A) → Option A) (n : Nat) (t6 : (List Int)) (t2 : (List Int)) (k : Ex → St → Option A) : ∀ (f : Nat) (t7 : Int) (out : (List Int)), ubytes_LK0 g_little n t6 t2 k f t7 out = ubytes_l0 g_little n t6 t2 (fun z1 => k (.exit 0) (ubytes_x0_0 t6 t2 z1)) f t7 out := by
  intro f
  induction f with
  | zero => intros; kernel_rfl
  | succ f ih => intro t7 out; exact (ubytes_st0 g_little n f t6 t2 k t7 out).trans ((congrArg (fun r => ubytes_b0 g_little n t6 t2 (fun z1 => k (.exit 0) (ubytes_x0_0 t6 t2 z1)) r t7 out) (funext fun t7 => funext fun out => ih t7 out)).trans (by kernel_rfl))
theorem ubytes_lo0 (n : Nat) : LoopOK Tryd.prog gls ubytes_c0 (loopE ubytes_d0 ubytes_sh0 (ubytes_g0 (A := A) (little_k n) n)) :=
  LoopOK.of (ubytes_T (little_k n) n) (ubytes_fns n) follows (j := 1) (n := n) (xdead := ubytes_y0) (lo_of (by kernel_rfl : loopsOf 1 ubytes_c0 = []) lo_nil) fun d k => Eq.trans (by kernel_rfl) (ubytes_le0 (little_k n) n d.1.2.2.2.2.2.2.1 d.2.1 k n d.1.2.2.2.2.2.2.2.1 d.2.2.1)
theorem ubytes_eqg (g_little : Int → Int → ((List Int) → Option A) → Option A) (n : Nat) (a0 : (List Int)) (k : AV → List Blk → Option A) : fnK (ubytes_E g_little n) Tryd.f32 [.pure] [.p kA4u64 a0] [] k = ubytes_p g_little n a0 (fun r0 => k (.p kA32u8 r0) []) := by kernel_rfl
theorem ubytes_eq (n : Nat) (a0 : (List Int)) (k : AV → List Blk → Option A) : fnK (ubytes_E (little_k n) n) Tryd.f32 [.pure] [.p kA4u64 a0] [] k = ubytes_k n a0 (fun r0 => k (.p kA32u8 r0) []) := ubytes_eqg (little_k n) n a0 k
def ubytes_ent (g : (List Int) → ((List Int) → Option A) → Option A) : Entry A := pureE fun args k => args1 args kA4u64 fun a0 => g a0 (fun r0 => k (.p kA32u8 r0) [])
theorem ubytes_lo (n : Nat) : ∀ c, Tryd.f32.body = some c → ∀ q ∈ loopsOf 0 c, ∀ L, (ubytes_E (A := A) (little_k n) n).lps.lookup q.1 = some L → LoopOK Tryd.prog gls q.2 L :=
  lo_body (E := ubytes_E (little_k n) n) (by kernel_rfl : Tryd.f32.body = some (bodyOf Tryd.f32)) (lo_of (E := ubytes_E (little_k n) n) (by kernel_rfl : loopsOf 0 (bodyOf Tryd.f32) = [(0, ubytes_c0)]) (lo_cons rfl (ubytes_lo0 n) lo_nil))
theorem ubytes_ok (n : Nat) : FnOK Tryd.prog gls 32 (ubytes_ent (A := A) (ubytes_k n)) :=
  FnOK.of (ubytes_T (little_k n) n) (ubytes_fns n) follows ⟨Tryd.func32, by kernel_rfl⟩ (ubytes_lo n) (rm := [.pure]) fun args k out h => by
    obtain ⟨a0, e, h1⟩ := args1_sound h
    subst e; rw [ubytes_eq]; exact h1

end Go.Ev
end

section
/-
  FUNCTION 8: printed by a program of our own (wip/gen/st.py). 'masthead/mastheadlaw04.WideBytes', in continuation form; the evaluator gives it.
-/
set_option linter.all false
set_option maxRecDepth 100000
namespace Go.Ev
open Go.Proofs
variable {A : Type}

-- ============================================================ bytes (function 8)
def bytes_p (g_ulittle : (List Int) → ((List Int) → Option A) → Option A) (g_ubytes : (List Int) → ((List Int) → Option A) → Option A) (g_awake : (Bool → Option A) → Option A) (n : Nat) (a0 : (List Int)) (k : Bool → Option A) : Option A :=
  g_ulittle a0 fun r1 =>
  g_ubytes r1 fun r2 =>
  bif (deq kA32u8 r2 a0) then
    g_awake fun r3 =>
    k r3
  else
    k false

def bytes_k (n : Nat) (a0 : (List Int)) (k : Bool → Option A) : Option A := bytes_p (ulittle_k n) (ubytes_k n) (awake_k n) n a0 k

noncomputable def bytes_E (g_ulittle : (List Int) → ((List Int) → Option A) → Option A) (g_ubytes : (List Int) → ((List Int) → Option A) → Option A) (g_awake : (Bool → Option A) → Option A) (n : Nat) : Env A := ⟨tys, gls, [(31, ulittle_ent g_ulittle), (32, ubytes_ent g_ubytes), (13, awake_ent g_awake)], [], []⟩
theorem bytes_T (g_ulittle : (List Int) → ((List Int) → Option A) → Option A) (g_ubytes : (List Int) → ((List Int) → Option A) → Option A) (g_awake : (Bool → Option A) → Option A) (n : Nat) : TyOK Tryd.prog (bytes_E g_ulittle g_ubytes g_awake n) := tyOK_of rfl tysB
theorem bytes_fns (n : Nat) : FnsOK Tryd.prog (bytes_E (A := A) (ulittle_k n) (ubytes_k n) (awake_k n) n) := AllOK.env rfl rfl (AllOK.cons (ulittle_ok n) (AllOK.cons (ubytes_ok n) (AllOK.cons (awake_ok n) AllOK.nil)))
theorem bytes_eqg (g_ulittle : (List Int) → ((List Int) → Option A) → Option A) (g_ubytes : (List Int) → ((List Int) → Option A) → Option A) (g_awake : (Bool → Option A) → Option A) (n : Nat) (a0 : (List Int)) (k : AV → List Blk → Option A) : fnK (bytes_E g_ulittle g_ubytes g_awake n) Tryd.f8 [.pure] [.p kA32u8 a0] [] k = bytes_p g_ulittle g_ubytes g_awake n a0 (fun r0 => k (.p .bool r0) []) := by kernel_rfl
theorem bytes_eq (n : Nat) (a0 : (List Int)) (k : AV → List Blk → Option A) : fnK (bytes_E (ulittle_k n) (ubytes_k n) (awake_k n) n) Tryd.f8 [.pure] [.p kA32u8 a0] [] k = bytes_k n a0 (fun r0 => k (.p .bool r0) []) := bytes_eqg (ulittle_k n) (ubytes_k n) (awake_k n) n a0 k
def bytes_ent (g : (List Int) → (Bool → Option A) → Option A) : Entry A := pureE fun args k => args1 args kA32u8 fun a0 => g a0 (fun r0 => k (.p .bool r0) [])
theorem bytes_lo (n : Nat) : ∀ c, Tryd.f8.body = some c → ∀ q ∈ loopsOf 0 c, ∀ L, (bytes_E (A := A) (ulittle_k n) (ubytes_k n) (awake_k n) n).lps.lookup q.1 = some L → LoopOK Tryd.prog gls q.2 L :=
  lo_body (E := bytes_E (ulittle_k n) (ubytes_k n) (awake_k n) n) (by kernel_rfl : Tryd.f8.body = some (bodyOf Tryd.f8)) (lo_of (E := bytes_E (ulittle_k n) (ubytes_k n) (awake_k n) n) (by kernel_rfl : loopsOf 0 (bodyOf Tryd.f8) = []) lo_nil)
theorem bytes_ok (n : Nat) : FnOK Tryd.prog gls 8 (bytes_ent (A := A) (bytes_k n)) :=
  FnOK.of (bytes_T (ulittle_k n) (ubytes_k n) (awake_k n) n) (bytes_fns n) follows ⟨Tryd.func8, by kernel_rfl⟩ (bytes_lo n) (rm := [.pure]) fun args k out h => by
    obtain ⟨a0, e, h1⟩ := args1_sound h
    subst e; rw [bytes_eq]; exact h1

end Go.Ev
end

section
/-
  THE LAW OF WideBytes.
-/
set_option linter.all false
namespace Go.Ev
variable {A : Type}

/-- The bytes of the word t. -/
def bw (b : List Nat) (t : Nat) : List Nat := (b.drop (8 * t)).take 8
theorem bw_length {b : List Nat} (hl : b.length = 32) {t : Nat} (ht : t < 4) : (bw b t).length = 8 := by
  unfold bw; rw [List.length_take, List.length_drop]; omega
theorem bw_By {b : List Nat} (hb : By b) (t : Nat) : By (bw b t) := fun x hx => hb x (List.mem_of_mem_drop (List.mem_of_mem_take hx))
def ws (b : List Nat) : List Nat := [byv (bw b 0), byv (bw b 1), byv (bw b 2), byv (bw b 3)]
theorem ws_at (b : List Nat) (t : Nat) (h : t < 4) : (ws b)[t]? = some (byv (bw b t)) := by
  rcases t with _ | _ | _ | _ | t
  · rfl
  · rfl
  · rfl
  · rfl
  · omega

theorem ulittle_l0_law (n : Nat) (hn : 10 < n) (b : List Nat) (hb : By b) (hl : b.length = 32) (t2 : List Int) (k0 : List Int → Option A) : ∀ (d f t : Nat) (o : List Nat), t + d = 4 → d < f → o.length = 4 → (∀ j, j < t → o[j]? = some (byv (bw b j))) →
    ulittle_l0 (num_k n) n (ints b) t2 k0 f (t : Int) (ints o) = k0 (ints (ws b)) := by
  intro d
  induction d with
  | zero =>
    intro f t o ht hf ho h
    obtain ⟨f, rfl⟩ : ∃ g, f = g + 1 := ⟨f - 1, by omega⟩
    have e : o = ws b := by
      apply List.ext_getElem?
      intro j
      by_cases hj : j < 4
      · rw [h j (by omega), ws_at b j hj]
      · rw [List.getElem?_eq_none (by omega), List.getElem?_eq_none (by show 4 ≤ j; omega)]
    rw [ulittle_l0, ulittle_b0, decide_eq_false (by omega), cond_false, e]
  | succ d ih =>
    intro f t o ht hf ho h
    obtain ⟨f, rfl⟩ : ∃ g, f = g + 1 := ⟨f - 1, by omega⟩
    have e1 : IntKind.wrap .i64 (8 * (t : Int)) = ((8 * t : Nat) : Int) := by rw [wrap_id (by omega) (by omega)]; omega
    have e2 : IntKind.wrap .i64 (((8 * t : Nat) : Int) + 8) = ((8 * t + 8 : Nat) : Int) := by rw [wrap_id (by omega) (by omega)]; omega
    have e3 : IntKind.wrap .i64 ((t : Int) + 1) = ((t + 1 : Nat) : Int) := by rw [wrap_id (by omega) (by omega)]; omega
    have e4 : ((ints b).drop (8 * t)).take (8 * t + 8 - 8 * t) = ints (bw b t) := by rw [ints_drop, ints_take, show 8 * t + 8 - 8 * t = 8 from by omega]; rfl
    rw [ulittle_l0, ulittle_b0, decide_eq_true (by omega), cond_true, e1, e2, if_pos (by omega), if_pos (by omega), if_pos (by omega), Int.toNat_natCast, Int.toNat_natCast, if_pos (by omega), e4, num_law n hn _ (bw_By hb t) (bw_length hl (by omega)), if_pos (by omega), if_pos (by omega), Int.toNat_natCast, if_pos (by omega), e3, ints_set]
    refine ih f (t + 1) _ (by omega) (by omega) (by rw [List.length_set]; exact ho) fun j hj => ?_
    by_cases hji : t = j
    · subst hji; rw [List.getElem?_set_self (by omega)]
    · rw [List.getElem?_set_ne hji]; exact h j (by omega)

theorem ulittle_law (n : Nat) (hn : 10 < n) (b : List Nat) (hb : By b) (hl : b.length = 32) (g : List Int → Option A) : ulittle_k n (ints b) g = g (ints (ws b)) := by
  unfold ulittle_k ulittle_p
  exact ulittle_l0_law n hn b hb hl [0, 0, 0, 0] (fun y2 => g y2) 4 n 0 [0, 0, 0, 0] (by omega) (by omega) rfl fun j hj => by omega

theorem ubytes_l0_law (n : Nat) (hn : 10 < n) (b : List Nat) (hb : By b) (hl : b.length = 32) (W : List Nat) (hW : ∀ t, t < 4 → W[t]? = some (byv (bw b t))) (t2 : List Int) (k0 : List Int → Option A) : ∀ (d f t : Nat), t + d = 4 → d < f →
    ubytes_l0 (little_k n) n (ints W) t2 k0 f (t : Int) (ints (b.take (8 * t) ++ List.replicate (32 - 8 * t) 0)) = k0 (ints b) := by
  intro d
  induction d with
  | zero =>
    intro f t ht hf
    obtain ⟨f, rfl⟩ : ∃ g, f = g + 1 := ⟨f - 1, by omega⟩
    have : t = 4 := by omega
    subst this
    rw [ubytes_l0, ubytes_b0, decide_eq_false (by omega), cond_false, List.take_of_length_le (by omega)]
    simp
  | succ d ih =>
    intro f t ht hf
    obtain ⟨f, rfl⟩ : ∃ g, f = g + 1 := ⟨f - 1, by omega⟩
    have e1 : IntKind.wrap .i64 (8 * (t : Int)) = ((8 * t : Nat) : Int) := by rw [wrap_id (by omega) (by omega)]; omega
    have e3 : IntKind.wrap .i64 ((t : Int) + 1) = ((t + 1 : Nat) : Int) := by rw [wrap_id (by omega) (by omega)]; omega
    have e4 : (ints W)[t]? = some ((byv (bw b t) : Nat) : Int) := by rw [ints_get, hW t (by omega)]; rfl
    have hbl := bw_length hl (t := t) (by omega)
    have e5 : lb 8 (byv (bw b t)) = bw b t := by
      have := lb_byv (bw b t) (bw_By hb t)
      rw [hbl] at this; exact this
    rw [ubytes_l0, ubytes_b0, decide_eq_true (by omega), cond_true, if_pos (by omega), Int.toNat_natCast, e4, Option.bind_some, e1, if_pos (by omega), if_pos (by omega), little_law n hn, e5, e3, Int.toNat_natCast, ints_length, hbl, show min 8 (32 - 8 * t) = 8 from by omega, ints_take, ints_take, ints_drop]
    have key : ints ((b.take (8 * t) ++ List.replicate (32 - 8 * t) 0).take (8 * t)) ++ (ints ((bw b t).take (32 - 8 * t)) ++ ints ((b.take (8 * t) ++ List.replicate (32 - 8 * t) 0).drop (8 * t + 8))) = ints (b.take (8 * (t + 1)) ++ List.replicate (32 - 8 * (t + 1)) 0) := by
      have app : ∀ x y : List Nat, ints x ++ ints y = ints (x ++ y) := fun x y => by simp [ints]
      rw [app, app]
      congr 1
      have l1 : (b.take (8 * t)).length = 8 * t := by rw [List.length_take]; omega
      rw [List.take_left' l1, List.take_of_length_le (show (bw b t).length ≤ 32 - 8 * t by omega), List.drop_append, List.drop_eq_nil_of_le (by omega), List.nil_append, List.drop_replicate, l1, ← List.append_assoc]
      have e6 : b.take (8 * (t + 1)) = b.take (8 * t) ++ bw b t := by
        unfold bw
        rw [show 8 * (t + 1) = 8 * t + 8 from by omega, List.take_add]
      rw [e6, show 32 - 8 * t - (8 * t + 8 - 8 * t) = 32 - 8 * (t + 1) from by omega]
    rw [key]
    exact ih f (t + 1) (by omega) (by omega)

theorem ubytes_law (n : Nat) (hn : 10 < n) (b : List Nat) (hb : By b) (hl : b.length = 32) (g : List Int → Option A) : ubytes_k n (ints (ws b)) g = g (ints b) := by
  unfold ubytes_k ubytes_p
  have h := ubytes_l0_law n hn b hb hl (ws b) (fun t ht => ws_at b t ht) (List.replicate 32 (0 : Int)) (fun y3 => g y3) 4 n 0 (by omega) (by omega)
  exact h

theorem bytes_of : ∀ {a : List Int}, (∀ x ∈ a, IntKind.u8.min ≤ x ∧ x ≤ IntKind.u8.max) → ∃ l, a = ints l ∧ By l
  | [], _ => ⟨[], rfl, fun x hx => by cases hx⟩
  | x :: a, h => by
    obtain ⟨l, rfl, hl⟩ := bytes_of (a := a) fun y hy => h y (by simp [hy])
    have hx := h x (by simp)
    rw [show IntKind.u8.min = 0 by decide, show IntKind.u8.max = 255 by decide] at hx
    refine ⟨x.toNat :: l, ?_, fun y hy => ?_⟩
    · simp only [ints, List.map_cons]; rw [Int.toNat_of_nonneg hx.1]
    · rcases List.mem_cons.1 hy with rfl | hy
      · omega
      · exact hl y hy

theorem bytes_law (a0 : List Int) (f0 : WF kA32u8 a0) : ∃ n, bytes_k n a0 (fun r => some r) = some true := by
  refine ⟨1000, ?_⟩
  have haw : ∀ k : Bool → Option Bool, awake_k 1000 k = k true := awake_1000
  have hn : 10 < 1000 := by decide
  generalize 1000 = n at haw hn
  obtain ⟨hl, hu⟩ := f0
  obtain ⟨b, rfl, hb⟩ := bytes_of hu
  rw [ints_length] at hl
  unfold bytes_k bytes_p
  rw [ulittle_law n hn b hb hl, ubytes_law n hn b hb hl, deq_self, cond_true, haw]

end Go.Ev
end

section
/-
  FUNCTION 41: printed by a program of our own (wip/gen/st.py). 'masthead/mastheadref04.trim', in continuation form; the evaluator gives it.
-/
set_option linter.all false
set_option maxRecDepth 100000
namespace Go.Ev
open Go.Proofs
variable {A : Type}

-- ============================================================ trim (function 41)
def trim_b0 (n : Nat) (a : (List Int)) (k0 : Int → Option A) (r : Int → Option A) (n_ : Int) : Option A :=
  bif (decide (n_ > 0)) then
    if 0 ≤ (IntKind.wrap .i64 (n_ - 1)) then
      (a[(Int.toNat (IntKind.wrap .i64 (n_ - 1)))]?).bind fun y1 =>
      bif (y1 == 0) then
        r (IntKind.wrap .i64 (n_ - 1))
      else
        k0 n_
    else none
  else
    k0 n_

def trim_l0 (n : Nat) (a : (List Int)) (k0 : Int → Option A) : Nat → Int → Option A
  | 0 => fun _ => none
  | f + 1 => trim_b0 n a k0 (trim_l0 n a k0 f)

def trim_p (n : Nat) (a0 : (List Int)) (k : (List Int) → Option A) : Option A :=
  trim_l0 n a0 (fun y2 =>
    if 0 ≤ y2 then
      if y2 ≤ (a0.length : Int) then
        k ((a0.drop 0).take ((Int.toNat y2) - 0))
      else none
    else none) n (a0.length : Int)

def trim_k (n : Nat) (a0 : (List Int)) (k : (List Int) → Option A) : Option A := trim_p n a0 k

noncomputable def trim_c0 : Code := codeAt [1, 1, 0, 0, 0] (bodyOf Tryd.f41)
def trim_d0 : List Nat := [2, 4, 5, 6, 7, 8, 9, 10, 11, 12, 13, 14, 15, 16, 17]
def trim_y0 : List Nat := [1, 2, 4, 5, 6, 7, 8, 9, 10, 11, 12, 13, 14, 15, 16, 17, 18, 19, 20]
def trim_sh0 : Shape := ⟨[(.p (.sl (.int .i64))), .any, .any, (.p (.int .i64)), .any, .any, .any, .any, .any, .any, .any, .any, .any, .any, .any, .any, .any, .any, .any, .any, .any], [], 0⟩
def trim_t0 (a : (List Int)) (n_ : Int) : trim_sh0.den := ((a, (), (), n_, (), (), (), (), (), (), (), (), (), (), (), (), (), (), (), (), (), ()), ())
def trim_x0_0 (a : (List Int)) (z1 : Int) : St := ⟨[.p (.sl (.int .i64)) a, .any, .any, .p (.int .i64) z1, .any, .any, .any, .any, .any, .any, .any, .any, .any, .any, .any, .any, .any, .any, .any, .any, .any], [], 0⟩
def trim_g0 (n : Nat) (d : trim_sh0.den) (k : Ex → St → Option A) : Option A :=
  trim_l0 n d.1.1 (fun z1 => k (.exit 0) (trim_x0_0 d.1.1 z1)) n d.1.2.2.2.1
noncomputable def trim_E (n : Nat) : Env A := ⟨tys, gls, [], [(0, loopE trim_d0 trim_sh0 (trim_g0 n))], []⟩
theorem trim_T {A : Type} (n : Nat) : TyOK Tryd.prog (trim_E (A := A) n) := tyOK_of rfl tysB
theorem trim_fns (n : Nat) : FnsOK Tryd.prog (trim_E (A := A) n) := AllOK.env rfl rfl AllOK.nil
noncomputable def trim_LK0 (n : Nat) (a : (List Int)) (k : Ex → St → Option A) (f : Nat) (n_ : Int) : Option A := loopK (codeK (trim_E n) 1 trim_c0) trim_d0 trim_y0 f (trim_sh0.fill (trim_t0 a n_)) k
theorem trim_st0 (n f : Nat) (a : (List Int)) (k : Ex → St → Option A) (n_ : Int) : trim_LK0 n a k (f + 1) n_ = trim_b0 n a (fun z1 => k (.exit 0) (trim_x0_0 a z1)) (trim_LK0 n a k f) n_ := by kernel_rfl
theorem trim_le0 (n : Nat) (a : (List Int)) (k : Ex → St → Option A) : ∀ (f : Nat) (n_ : Int), trim_LK0 n a k f n_ = trim_l0 n a (fun z1 => k (.exit 0) (trim_x0_0 a z1)) f n_ := by
  intro f
  induction f with
  | zero => intros; kernel_rfl
  | succ f ih => intro n_; exact (trim_st0 n f a k n_).trans ((congrArg (fun r => trim_b0 n a (fun z1 => k (.exit 0) (trim_x0_0 a z1)) r n_) (funext fun n_ => ih n_)).trans (by kernel_rfl))
theorem trim_lo0 (n : Nat) : LoopOK Tryd.prog gls trim_c0 (loopE trim_d0 trim_sh0 (trim_g0 (A := A) n)) :=
  LoopOK.of (trim_T n) (trim_fns n) follows (j := 1) (n := n) (xdead := trim_y0) (lo_of (by kernel_rfl : loopsOf 1 trim_c0 = []) lo_nil) fun d k => Eq.trans (by kernel_rfl) (trim_le0 n d.1.1 k n d.1.2.2.2.1)
theorem trim_eqg (n : Nat) (a0 : (List Int)) (k : AV → List Blk → Option A) : fnK (trim_E n) Tryd.f41 [.pure] [.p (.sl (.int .i64)) a0] [] k = trim_p n a0 (fun r0 => k (.p (.sl (.int .i64)) r0) []) := by kernel_rfl
theorem trim_eq (n : Nat) (a0 : (List Int)) (k : AV → List Blk → Option A) : fnK (trim_E n) Tryd.f41 [.pure] [.p (.sl (.int .i64)) a0] [] k = trim_k n a0 (fun r0 => k (.p (.sl (.int .i64)) r0) []) := trim_eqg n a0 k
def trim_ent (g : (List Int) → ((List Int) → Option A) → Option A) : Entry A := pureE fun args k => args1 args (.sl (.int .i64)) fun a0 => g a0 (fun r0 => k (.p (.sl (.int .i64)) r0) [])
theorem trim_lo (n : Nat) : ∀ c, Tryd.f41.body = some c → ∀ q ∈ loopsOf 0 c, ∀ L, (trim_E (A := A) n).lps.lookup q.1 = some L → LoopOK Tryd.prog gls q.2 L :=
  lo_body (E := trim_E n) (by kernel_rfl : Tryd.f41.body = some (bodyOf Tryd.f41)) (lo_of (E := trim_E n) (by kernel_rfl : loopsOf 0 (bodyOf Tryd.f41) = [(0, trim_c0)]) (lo_cons rfl (trim_lo0 n) lo_nil))
theorem trim_ok (n : Nat) : FnOK Tryd.prog gls 41 (trim_ent (A := A) (trim_k n)) :=
  FnOK.of (trim_T n) (trim_fns n) follows ⟨Tryd.func41, by kernel_rfl⟩ (trim_lo n) (rm := [.pure]) fun args k out h => by
    obtain ⟨a0, e, h1⟩ := args1_sound h
    subst e; rw [trim_eq]; exact h1

end Go.Ev
end

