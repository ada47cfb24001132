import Derived.Test.YtelhickgimgbaaaB9
import Derived.Test.YtelhickgimgbaaaB12
import Derived.Test.YtelhickgimgbaaaB5
import Derived.Test.YtelhickgimgbaaaB11
set_option linter.all false
section
/-
  FUNCTION 20: printed by a program of our own (wip/gen/st.py). 'masthead/mastheadref05.Bits', in continuation form; the evaluator gives it.
-/
set_option linter.all false
set_option maxRecDepth 100000
namespace Go.Ev
open Go.Proofs
variable {A : Type}

-- ============================================================ rbits (function 20)
def rbits_b3 (g_pow_ : Int → ((List Int) → Option A) → Option A) (g_less : (List Int) → (List Int) → (Bool → Option A) → Option A) (g_half : (List Int) → ((List Int) → Option A) → Option A) (g_mul : (List Int) → (List Int) → ((List Int) → Option A) → Option A) (g_words : (List Int) → ((List Int) → Option A) → Option A) (n : Nat) (e : Int) (k0 : (List Int) → Option A) (r : (List Int) → Int → Option A) (m : (List Int)) (i : Int) : Option A :=
  bif (decide (i < 8)) then
    g_half m fun r9 =>
    r r9 (IntKind.wrap .i64 (i + 1))
  else
    k0 m

def rbits_l3 (g_pow_ : Int → ((List Int) → Option A) → Option A) (g_less : (List Int) → (List Int) → (Bool → Option A) → Option A) (g_half : (List Int) → ((List Int) → Option A) → Option A) (g_mul : (List Int) → (List Int) → ((List Int) → Option A) → Option A) (g_words : (List Int) → ((List Int) → Option A) → Option A) (n : Nat) (e : Int) (k0 : (List Int) → Option A) : Nat → (List Int) → Int → Option A
  | 0 => fun _ _ => none
  | f + 1 => rbits_b3 g_pow_ g_less g_half g_mul g_words n e k0 (rbits_l3 g_pow_ g_less g_half g_mul g_words n e k0 f)

def rbits_b2 (g_pow_ : Int → ((List Int) → Option A) → Option A) (g_less : (List Int) → (List Int) → (Bool → Option A) → Option A) (g_half : (List Int) → ((List Int) → Option A) → Option A) (g_mul : (List Int) → (List Int) → ((List Int) → Option A) → Option A) (g_words : (List Int) → ((List Int) → Option A) → Option A) (n : Nat) (e : Int) (k0 : (List Int) → Option A) (r : (List Int) → Int → Option A) (m : (List Int)) (i : Int) : Option A :=
  bif (decide (i < 3)) then
    g_mul m [256] fun r6 =>
    r r6 (IntKind.wrap .i64 (i + 1))
  else
    k0 m

def rbits_l2 (g_pow_ : Int → ((List Int) → Option A) → Option A) (g_less : (List Int) → (List Int) → (Bool → Option A) → Option A) (g_half : (List Int) → ((List Int) → Option A) → Option A) (g_mul : (List Int) → (List Int) → ((List Int) → Option A) → Option A) (g_words : (List Int) → ((List Int) → Option A) → Option A) (n : Nat) (e : Int) (k0 : (List Int) → Option A) : Nat → (List Int) → Int → Option A
  | 0 => fun _ _ => none
  | f + 1 => rbits_b2 g_pow_ g_less g_half g_mul g_words n e k0 (rbits_l2 g_pow_ g_less g_half g_mul g_words n e k0 f)

def rbits_b1 (g_pow_ : Int → ((List Int) → Option A) → Option A) (g_less : (List Int) → (List Int) → (Bool → Option A) → Option A) (g_half : (List Int) → ((List Int) → Option A) → Option A) (g_mul : (List Int) → (List Int) → ((List Int) → Option A) → Option A) (g_words : (List Int) → ((List Int) → Option A) → Option A) (n : Nat) (e : Int) (k0 : (List Int) → Option A) (r : (List Int) → Int → Option A) (m : (List Int)) (i : Int) : Option A :=
  bif (decide (i < (IntKind.wrap .i64 (8 * (IntKind.wrap .i64 (e - 3)))))) then
    g_half m fun r4 =>
    r r4 (IntKind.wrap .i64 (i + 1))
  else
    k0 m

def rbits_l1 (g_pow_ : Int → ((List Int) → Option A) → Option A) (g_less : (List Int) → (List Int) → (Bool → Option A) → Option A) (g_half : (List Int) → ((List Int) → Option A) → Option A) (g_mul : (List Int) → (List Int) → ((List Int) → Option A) → Option A) (g_words : (List Int) → ((List Int) → Option A) → Option A) (n : Nat) (e : Int) (k0 : (List Int) → Option A) : Nat → (List Int) → Int → Option A
  | 0 => fun _ _ => none
  | f + 1 => rbits_b1 g_pow_ g_less g_half g_mul g_words n e k0 (rbits_l1 g_pow_ g_less g_half g_mul g_words n e k0 f)

def rbits_b0 (g_pow_ : Int → ((List Int) → Option A) → Option A) (g_less : (List Int) → (List Int) → (Bool → Option A) → Option A) (g_half : (List Int) → ((List Int) → Option A) → Option A) (g_mul : (List Int) → (List Int) → ((List Int) → Option A) → Option A) (g_words : (List Int) → ((List Int) → Option A) → Option A) (n : Nat) (t : (List Int)) (k0 : Int → Option A) (r : Int → Option A) (e : Int) : Option A :=
  bif (decide (e < 32)) then
    g_pow_ (IntKind.wrap .i64 (8 * e)) fun r1 =>
    g_less t r1 fun r2 =>
    bif (!r2) then
      r (IntKind.wrap .i64 (e + 1))
    else
      k0 e
  else
    k0 e

def rbits_l0 (g_pow_ : Int → ((List Int) → Option A) → Option A) (g_less : (List Int) → (List Int) → (Bool → Option A) → Option A) (g_half : (List Int) → ((List Int) → Option A) → Option A) (g_mul : (List Int) → (List Int) → ((List Int) → Option A) → Option A) (g_words : (List Int) → ((List Int) → Option A) → Option A) (n : Nat) (t : (List Int)) (k0 : Int → Option A) : Nat → Int → Option A
  | 0 => fun _ => none
  | f + 1 => rbits_b0 g_pow_ g_less g_half g_mul g_words n t k0 (rbits_l0 g_pow_ g_less g_half g_mul g_words n t k0 f)

def rbits_p (g_pow_ : Int → ((List Int) → Option A) → Option A) (g_less : (List Int) → (List Int) → (Bool → Option A) → Option A) (g_half : (List Int) → ((List Int) → Option A) → Option A) (g_mul : (List Int) → (List Int) → ((List Int) → Option A) → Option A) (g_words : (List Int) → ((List Int) → Option A) → Option A) (n : Nat) (a0 : (List Int)) (k : Int → Option A) : Option A :=
  rbits_l0 g_pow_ g_less g_half g_mul g_words n a0 (fun y3 =>
    rbits_l1 g_pow_ g_less g_half g_mul g_words n y3 (fun y5 =>
      rbits_l2 g_pow_ g_less g_half g_mul g_words n y3 (fun y7 =>
        g_less y7 [0, 128] fun r8 =>
        bif (!r8) then
          rbits_l3 g_pow_ g_less g_half g_mul g_words n y3 (fun y10 =>
            g_words y10 fun r11 =>
            (r11[0]?).bind fun y12 =>
            k (IntKind.wrap .u32 ((IntKind.wrap .u32 ((IntKind.wrap .u32 (IntKind.wrap .i64 (y3 + 1))) * 16777216)) + (IntKind.wrap .u32 y12)))) n y7 0
        else
          g_words y7 fun r13 =>
          (r13[0]?).bind fun y14 =>
          k (IntKind.wrap .u32 ((IntKind.wrap .u32 ((IntKind.wrap .u32 y3) * 16777216)) + (IntKind.wrap .u32 y14)))) n y5 y3) n a0 0) n 0

def rbits_k (n : Nat) (a0 : (List Int)) (k : Int → Option A) : Option A := rbits_p (pow__k n) (less_k n) (half_k n) (mul_k n) (words_k n) n a0 k

noncomputable def rbits_c0 : Code := codeAt [1, 1, 0, 0, 0] (bodyOf Try.f20)
def rbits_d0 : List Nat := [2, 8, 9, 10, 11, 12, 13, 14, 15, 16, 17, 18, 19]
def rbits_y0 : List Nat := [1, 2, 4, 5, 6, 7, 8, 9, 10, 11, 12, 13, 14, 15, 16, 17, 18, 19, 20, 21, 22, 23, 24, 25, 26, 27, 28, 29, 30, 31, 32, 33, 34, 35, 36, 37, 38, 39, 40, 41, 42, 43, 44, 45, 46, 47, 48, 49, 50, 51, 52, 53, 54, 55, 56, 57]
def rbits_sh0 : Shape := ⟨[(.p (.sl (.int .i64))), .any, .any, (.p (.int .i64)), .any, .any, .any, .any, .any, .any, .any, .any, .any, .any, .any, .any, .any, .any, .any, .any, .any, .any, .any, .any, .any, .any, .any, .any, .any, .any, .any, .any, .any, .any, .any, .any, .any, .any, .any, .any, .any, .any, .any, .any, .any, .any, .any, .any, .any, .any, .any, .any, .any, .any, .any, .any, .any, .any], [], 0⟩
def rbits_t0 (t : (List Int)) (e : Int) : rbits_sh0.den := ((t, (), (), e, (), (), (), (), (), (), (), (), (), (), (), (), (), (), (), (), (), (), (), (), (), (), (), (), (), (), (), (), (), (), (), (), (), (), (), (), (), (), (), (), (), (), (), (), (), (), (), (), (), (), (), (), (), (), ()), ())
def rbits_x0_0 (t : (List Int)) (z1 : Int) : St := ⟨[.p (.sl (.int .i64)) t, .any, .any, .p (.int .i64) z1, .any, .any, .any, .any, .any, .any, .any, .any, .any, .any, .any, .any, .any, .any, .any, .any, .any, .any, .any, .any, .any, .any, .any, .any, .any, .any, .any, .any, .any, .any, .any, .any, .any, .any, .any, .any, .any, .any, .any, .any, .any, .any, .any, .any, .any, .any, .any, .any, .any, .any, .any, .any, .any, .any], [], 0⟩
def rbits_g0 (g_pow_ : Int → ((List Int) → Option A) → Option A) (g_less : (List Int) → (List Int) → (Bool → Option A) → Option A) (g_half : (List Int) → ((List Int) → Option A) → Option A) (g_mul : (List Int) → (List Int) → ((List Int) → Option A) → Option A) (g_words : (List Int) → ((List Int) → Option A) → Option A) (n : Nat) (d : rbits_sh0.den) (k : Ex → St → Option A) : Option A :=
  rbits_l0 g_pow_ g_less g_half g_mul g_words n d.1.1 (fun z1 => k (.exit 0) (rbits_x0_0 d.1.1 z1)) n d.1.2.2.2.1
noncomputable def rbits_c1 : Code := codeAt [1, 1, 1, 1, 0, 1, 0, 0] (bodyOf Try.f20)
def rbits_d1 : List Nat := [0, 20, 21, 22, 23, 24, 25, 26, 27, 28, 29]
def rbits_y1 : List Nat := [0, 1, 2, 5, 6, 7, 8, 9, 10, 11, 12, 13, 14, 15, 16, 17, 18, 19, 20, 21, 22, 23, 24, 25, 26, 27, 28, 29, 30, 31, 32, 33, 34, 35, 36, 37, 38, 39, 40, 41, 42, 43, 44, 45, 46, 47, 48, 49, 50, 51, 52, 53, 54, 55, 56, 57]
def rbits_sh1 : Shape := ⟨[.any, .any, .any, (.p (.int .i64)), (.p (.sl (.int .i64))), (.p (.int .i64)), .any, .any, .any, .any, .any, .any, .any, .any, .any, .any, .any, .any, .any, .any, .any, .any, .any, .any, .any, .any, .any, .any, .any, .any, .any, .any, .any, .any, .any, .any, .any, .any, .any, .any, .any, .any, .any, .any, .any, .any, .any, .any, .any, .any, .any, .any, .any, .any, .any, .any, .any, .any], [], 0⟩
def rbits_t1 (e : Int) (m : (List Int)) (i : Int) : rbits_sh1.den := (((), (), (), e, m, i, (), (), (), (), (), (), (), (), (), (), (), (), (), (), (), (), (), (), (), (), (), (), (), (), (), (), (), (), (), (), (), (), (), (), (), (), (), (), (), (), (), (), (), (), (), (), (), (), (), (), (), (), ()), ())
def rbits_x1_0 (e : Int) (z1 : (List Int)) : St := ⟨[.any, .any, .any, .p (.int .i64) e, .p (.sl (.int .i64)) z1, .any, .any, .any, .any, .any, .any, .any, .any, .any, .any, .any, .any, .any, .any, .any, .any, .any, .any, .any, .any, .any, .any, .any, .any, .any, .any, .any, .any, .any, .any, .any, .any, .any, .any, .any, .any, .any, .any, .any, .any, .any, .any, .any, .any, .any, .any, .any, .any, .any, .any, .any, .any, .any], [], 0⟩
def rbits_g1 (g_pow_ : Int → ((List Int) → Option A) → Option A) (g_less : (List Int) → (List Int) → (Bool → Option A) → Option A) (g_half : (List Int) → ((List Int) → Option A) → Option A) (g_mul : (List Int) → (List Int) → ((List Int) → Option A) → Option A) (g_words : (List Int) → ((List Int) → Option A) → Option A) (n : Nat) (d : rbits_sh1.den) (k : Ex → St → Option A) : Option A :=
  rbits_l1 g_pow_ g_less g_half g_mul g_words n d.1.2.2.2.1 (fun z1 => k (.exit 2) (rbits_x1_0 d.1.2.2.2.1 z1)) n d.1.2.2.2.2.1 d.1.2.2.2.2.2.1
noncomputable def rbits_c2 : Code := codeAt [1, 1, 1, 1, 1, 0, 1, 0, 0] (bodyOf Try.f20)
def rbits_d2 : List Nat := [30, 31, 32, 33, 34, 35, 36, 37]
def rbits_y2 : List Nat := [0, 1, 2, 5, 6, 7, 8, 9, 10, 11, 12, 13, 14, 15, 16, 17, 18, 19, 20, 21, 22, 23, 24, 25, 26, 27, 28, 29, 30, 31, 32, 33, 34, 35, 36, 37, 38, 39, 40, 41, 42, 43, 44, 45, 46, 47, 48, 49, 50, 51, 52, 53, 54, 55, 56, 57]
def rbits_sh2 : Shape := ⟨[.any, .any, .any, (.p (.int .i64)), (.p (.sl (.int .i64))), .any, (.p (.int .i64)), .any, .any, .any, .any, .any, .any, .any, .any, .any, .any, .any, .any, .any, .any, .any, .any, .any, .any, .any, .any, .any, .any, .any, .any, .any, .any, .any, .any, .any, .any, .any, .any, .any, .any, .any, .any, .any, .any, .any, .any, .any, .any, .any, .any, .any, .any, .any, .any, .any, .any, .any], [], 0⟩
def rbits_t2 (e : Int) (m : (List Int)) (i : Int) : rbits_sh2.den := (((), (), (), e, m, (), i, (), (), (), (), (), (), (), (), (), (), (), (), (), (), (), (), (), (), (), (), (), (), (), (), (), (), (), (), (), (), (), (), (), (), (), (), (), (), (), (), (), (), (), (), (), (), (), (), (), (), (), ()), ())
def rbits_x2_0 (e : Int) (z1 : (List Int)) : St := ⟨[.any, .any, .any, .p (.int .i64) e, .p (.sl (.int .i64)) z1, .any, .any, .any, .any, .any, .any, .any, .any, .any, .any, .any, .any, .any, .any, .any, .any, .any, .any, .any, .any, .any, .any, .any, .any, .any, .any, .any, .any, .any, .any, .any, .any, .any, .any, .any, .any, .any, .any, .any, .any, .any, .any, .any, .any, .any, .any, .any, .any, .any, .any, .any, .any, .any], [], 0⟩
def rbits_g2 (g_pow_ : Int → ((List Int) → Option A) → Option A) (g_less : (List Int) → (List Int) → (Bool → Option A) → Option A) (g_half : (List Int) → ((List Int) → Option A) → Option A) (g_mul : (List Int) → (List Int) → ((List Int) → Option A) → Option A) (g_words : (List Int) → ((List Int) → Option A) → Option A) (n : Nat) (d : rbits_sh2.den) (k : Ex → St → Option A) : Option A :=
  rbits_l2 g_pow_ g_less g_half g_mul g_words n d.1.2.2.2.1 (fun z1 => k (.exit 4) (rbits_x2_0 d.1.2.2.2.1 z1)) n d.1.2.2.2.2.1 d.1.2.2.2.2.2.2.1
noncomputable def rbits_c3 : Code := codeAt [1, 1, 1, 1, 1, 1, 0, 1, 0, 0, 1, 0, 0] (bodyOf Try.f20)
def rbits_d3 : List Nat := [38, 39, 40, 41, 42, 43, 44, 45, 46, 47]
def rbits_y3 : List Nat := [0, 1, 2, 5, 6, 7, 8, 9, 10, 11, 12, 13, 14, 15, 16, 17, 18, 19, 20, 21, 22, 23, 24, 25, 26, 27, 28, 29, 30, 31, 32, 33, 34, 35, 36, 37, 38, 39, 40, 41, 42, 43, 44, 45, 46, 47, 48, 49, 50, 51, 52, 53, 54, 55, 56, 57]
def rbits_sh3 : Shape := ⟨[.any, .any, .any, (.p (.int .i64)), (.p (.sl (.int .i64))), .any, .any, (.p (.int .i64)), .any, .any, .any, .any, .any, .any, .any, .any, .any, .any, .any, .any, .any, .any, .any, .any, .any, .any, .any, .any, .any, .any, .any, .any, .any, .any, .any, .any, .any, .any, .any, .any, .any, .any, .any, .any, .any, .any, .any, .any, .any, .any, .any, .any, .any, .any, .any, .any, .any, .any], [], 0⟩
def rbits_t3 (e : Int) (m : (List Int)) (i : Int) : rbits_sh3.den := (((), (), (), e, m, (), (), i, (), (), (), (), (), (), (), (), (), (), (), (), (), (), (), (), (), (), (), (), (), (), (), (), (), (), (), (), (), (), (), (), (), (), (), (), (), (), (), (), (), (), (), (), (), (), (), (), (), (), ()), ())
def rbits_x3_0 (e : Int) (z1 : (List Int)) : St := ⟨[.any, .any, .any, .p (.int .i64) e, .p (.sl (.int .i64)) z1, .any, .any, .any, .any, .any, .any, .any, .any, .any, .any, .any, .any, .any, .any, .any, .any, .any, .any, .any, .any, .any, .any, .any, .any, .any, .any, .any, .any, .any, .any, .any, .any, .any, .any, .any, .any, .any, .any, .any, .any, .any, .any, .any, .any, .any, .any, .any, .any, .any, .any, .any, .any, .any], [], 0⟩
def rbits_g3 (g_pow_ : Int → ((List Int) → Option A) → Option A) (g_less : (List Int) → (List Int) → (Bool → Option A) → Option A) (g_half : (List Int) → ((List Int) → Option A) → Option A) (g_mul : (List Int) → (List Int) → ((List Int) → Option A) → Option A) (g_words : (List Int) → ((List Int) → Option A) → Option A) (n : Nat) (d : rbits_sh3.den) (k : Ex → St → Option A) : Option A :=
  rbits_l3 g_pow_ g_less g_half g_mul g_words n d.1.2.2.2.1 (fun z1 => k (.exit 6) (rbits_x3_0 d.1.2.2.2.1 z1)) n d.1.2.2.2.2.1 d.1.2.2.2.2.2.2.2.1
noncomputable def rbits_E (g_pow_ : Int → ((List Int) → Option A) → Option A) (g_less : (List Int) → (List Int) → (Bool → Option A) → Option A) (g_half : (List Int) → ((List Int) → Option A) → Option A) (g_mul : (List Int) → (List Int) → ((List Int) → Option A) → Option A) (g_words : (List Int) → ((List Int) → Option A) → Option A) (n : Nat) : Env A := ⟨tys, gls, [(44, pow__ent g_pow_), (43, less_ent g_less), (45, half_ent g_half), (46, mul_ent g_mul), (19, words_ent g_words)], [(0, loopE rbits_d0 rbits_sh0 (rbits_g0 g_pow_ g_less g_half g_mul g_words n)), (1, loopE rbits_d1 rbits_sh1 (rbits_g1 g_pow_ g_less g_half g_mul g_words n)), (2, loopE rbits_d2 rbits_sh2 (rbits_g2 g_pow_ g_less g_half g_mul g_words n)), (3, loopE rbits_d3 rbits_sh3 (rbits_g3 g_pow_ g_less g_half g_mul g_words n))], []⟩
theorem rbits_T (g_pow_ : Int → ((List Int) → Option A) → Option A) (g_less : (List Int) → (List Int) → (Bool → Option A) → Option A) (g_half : (List Int) → ((List Int) → Option A) → Option A) (g_mul : (List Int) → (List Int) → ((List Int) → Option A) → Option A) (g_words : (List Int) → ((List Int) → Option A) → Option A) (n : Nat) : TyOK Try.prog (rbits_E g_pow_ g_less g_half g_mul g_words n) := tyOK_of rfl tysB
theorem rbits_fns (n : Nat) : FnsOK Try.prog (rbits_E (A := A) (pow__k n) (less_k n) (half_k n) (mul_k n) (words_k n) n) := AllOK.env rfl rfl (AllOK.cons (pow__ok n) (AllOK.cons (less_ok n) (AllOK.cons (half_ok n) (AllOK.cons (mul_ok n) (AllOK.cons (words_ok n) AllOK.nil)))))
noncomputable def rbits_LK3 (g_pow_ : Int → ((List Int) → Option A) → Option A) (g_less : (List Int) → (List Int) → (Bool → Option A) → Option A) (g_half : (List Int) → ((List Int) → Option A) → Option A) (g_mul : (List Int) → (List Int) → ((List Int) → Option A) → Option A) (g_words : (List Int) → ((List Int) → Option A) → Option A) (n : Nat) (e : Int) (k : Ex → St → Option A) (f : Nat) (m : (List Int)) (i : Int) : Option A := loopK (codeK (rbits_E g_pow_ g_less g_half g_mul g_words n) 4 rbits_c3) rbits_d3 rbits_y3 f (rbits_sh3.fill (rbits_t3 e m i)) k
theorem rbits_st3 (g_pow_ : Int → ((List Int) → Option A) → Option A) (g_less : (List Int) → (List Int) → (Bool → Option A) → Option A) (g_half : (List Int) → ((List Int) → Option A) → Option A) (g_mul : (List Int) → (List Int) → ((List Int) → Option A) → Option A) (g_words : (List Int) → ((List Int) → Option A) → Option A) (n f : Nat) (e : Int) (k : Ex → St → Option A) (m : (List Int)) (i : Int) : rbits_LK3 g_pow_ g_less g_half g_mul g_words n e k (f + 1) m i = rbits_b3 g_pow_ g_less g_half g_mul g_words n e (fun z1 => k (.exit 6) (rbits_x3_0 e z1)) (rbits_LK3 g_pow_ g_less g_half g_mul g_words n e k f) m i := by kernel_rfl
theorem rbits_le3 (g_pow_ : Int → ((List Int) → Option A) → Option A) (g_less : (List Int) → (List Int) → (Bool → Option A) → Option A) (g_half : (List Int) → ((List Int) → Option A) → Option A) (g_mul : (List Int) → (List Int) → ((List Int) → Option A) → Option A) (g_words : (List Int) → ((List Int) → Option A) → Option A) (n : Nat) (e : Int) (k : Ex → St → Option A) : ∀ (f : Nat) (m : (List Int)) (i : Int), rbits_LK3 g_pow_ g_less g_half g_mul g_words n e k f m i = rbits_l3 g_pow_ g_less g_half g_mul g_words n e (fun z1 => k (.exit 6) (rbits_x3_0 e z1)) f m i := by
  intro f
  induction f with
  | zero => intros; kernel_rfl
  | succ f ih => intro m i; exact (rbits_st3 g_pow_ g_less g_half g_mul g_words n f e k m i).trans ((congrArg (fun r => rbits_b3 g_pow_ g_less g_half g_mul g_words n e (fun z1 => k (.exit 6) (rbits_x3_0 e z1)) r m i) (funext fun m => funext fun i => ih m i)).trans (by kernel_rfl))
theorem rbits_lo3 (n : Nat) : LoopOK Try.prog gls rbits_c3 (loopE rbits_d3 rbits_sh3 (rbits_g3 (A := A) (pow__k n) (less_k n) (half_k n) (mul_k n) (words_k n) n)) :=
  LoopOK.of (rbits_T (pow__k n) (less_k n) (half_k n) (mul_k n) (words_k n) n) (rbits_fns n) follows (j := 4) (n := n) (xdead := rbits_y3) (lo_of (by kernel_rfl : loopsOf 4 rbits_c3 = []) lo_nil) fun d k => Eq.trans (by kernel_rfl) (rbits_le3 (pow__k n) (less_k n) (half_k n) (mul_k n) (words_k n) n d.1.2.2.2.1 k n d.1.2.2.2.2.1 d.1.2.2.2.2.2.2.2.1)
noncomputable def rbits_LK2 (g_pow_ : Int → ((List Int) → Option A) → Option A) (g_less : (List Int) → (List Int) → (Bool → Option A) → Option A) (g_half : (List Int) → ((List Int) → Option A) → Option A) (g_mul : (List Int) → (List Int) → ((List Int) → Option A) → Option A) (g_words : (List Int) → ((List Int) → Option A) → Option A) (n : Nat) (e : Int) (k : Ex → St → Option A) (f : Nat) (m : (List Int)) (i : Int) : Option A := loopK (codeK (rbits_E g_pow_ g_less g_half g_mul g_words n) 3 rbits_c2) rbits_d2 rbits_y2 f (rbits_sh2.fill (rbits_t2 e m i)) k
theorem rbits_st2 (g_pow_ : Int → ((List Int) → Option A) → Option A) (g_less : (List Int) → (List Int) → (Bool → Option A) → Option A) (g_half : (List Int) → ((List Int) → Option A) → Option A) (g_mul : (List Int) → (List Int) → ((List Int) → Option A) → Option A) (g_words : (List Int) → ((List Int) → Option A) → Option A) (n f : Nat) (e : Int) (k : Ex → St → Option A) (m : (List Int)) (i : Int) : rbits_LK2 g_pow_ g_less g_half g_mul g_words n e k (f + 1) m i = rbits_b2 g_pow_ g_less g_half g_mul g_words n e (fun z1 => k (.exit 4) (rbits_x2_0 e z1)) (rbits_LK2 g_pow_ g_less g_half g_mul g_words n e k f) m i := by kernel_rfl
theorem rbits_le2 (g_pow_ : Int → ((List Int) → Option A) → Option A) (g_less : (List Int) → (List Int) → (Bool → Option A) → Option A) (g_half : (List Int) → ((List Int) → Option A) → Option A) (g_mul : (List Int) → (List Int) → ((List Int) → Option A) → Option A) (g_words : (List Int) → ((List Int) → Option A) → Option A) (n : Nat) (e : Int) (k : Ex → St → Option A) : ∀ (f : Nat) (m : (List Int)) (i : Int), rbits_LK2 g_pow_ g_less g_half g_mul g_words n e k f m i = rbits_l2 g_pow_ g_less g_half g_mul g_words n e (fun z1 => k (.exit 4) (rbits_x2_0 e z1)) f m i := by
  intro f
  induction f with
  | zero => intros; kernel_rfl
  | succ f ih => intro m i; exact (rbits_st2 g_pow_ g_less g_half g_mul g_words n f e k m i).trans ((congrArg (fun r => rbits_b2 g_pow_ g_less g_half g_mul g_words n e (fun z1 => k (.exit 4) (rbits_x2_0 e z1)) r m i) (funext fun m => funext fun i => ih m i)).trans (by kernel_rfl))
theorem rbits_lo2 (n : Nat) : LoopOK Try.prog gls rbits_c2 (loopE rbits_d2 rbits_sh2 (rbits_g2 (A := A) (pow__k n) (less_k n) (half_k n) (mul_k n) (words_k n) n)) :=
  LoopOK.of (rbits_T (pow__k n) (less_k n) (half_k n) (mul_k n) (words_k n) n) (rbits_fns n) follows (j := 3) (n := n) (xdead := rbits_y2) (lo_of (by kernel_rfl : loopsOf 3 rbits_c2 = []) lo_nil) fun d k => Eq.trans (by kernel_rfl) (rbits_le2 (pow__k n) (less_k n) (half_k n) (mul_k n) (words_k n) n d.1.2.2.2.1 k n d.1.2.2.2.2.1 d.1.2.2.2.2.2.2.1)
noncomputable def rbits_LK1 (g_pow_ : Int → ((List Int) → Option A) → Option A) (g_less : (List Int) → (List Int) → (Bool → Option A) → Option A) (g_half : (List Int) → ((List Int) → Option A) → Option A) (g_mul : (List Int) → (List Int) → ((List Int) → Option A) → Option A) (g_words : (List Int) → ((List Int) → Option A) → Option A) (n : Nat) (e : Int) (k : Ex → St → Option A) (f : Nat) (m : (List Int)) (i : Int) : Option A := loopK (codeK (rbits_E g_pow_ g_less g_half g_mul g_words n) 2 rbits_c1) rbits_d1 rbits_y1 f (rbits_sh1.fill (rbits_t1 e m i)) k
theorem rbits_st1 (g_pow_ : Int → ((List Int) → Option A) → Option A) (g_less : (List Int) → (List Int) → (Bool → Option A) → Option A) (g_half : (List Int) → ((List Int) → Option A) → Option A) (g_mul : (List Int) → (List Int) → ((List Int) → Option A) → Option A) (g_words : (List Int) → ((List Int) → Option A) → Option A) (n f : Nat) (e : Int) (k : Ex → St → Option A) (m : (List Int)) (i : Int) : rbits_LK1 g_pow_ g_less g_half g_mul g_words n e k (f + 1) m i = rbits_b1 g_pow_ g_less g_half g_mul g_words n e (fun z1 => k (.exit 2) (rbits_x1_0 e z1)) (rbits_LK1 g_pow_ g_less g_half g_mul g_words n e k f) m i := by kernel_rfl
theorem rbits_le1 (g_pow_ : Int → ((List Int) → Option A) → Option A) (g_less : (List Int) → (List Int) → (Bool → Option A) → Option A) (g_half : (List Int) → ((List Int) → Option A) → Option A) (g_mul : (List Int) → (List Int) → ((List Int) → Option A) → Option A) (g_words : (List Int) → ((List Int) → Option A) → Option A) (n : Nat) (e : Int) (k : Ex → St → Option A) : ∀ (f : Nat) (m : (List Int)) (i : Int), rbits_LK1 g_pow_ g_less g_half g_mul g_words n e k f m i = rbits_l1 g_pow_ g_less g_half g_mul g_words n e (fun z1 => k (.exit 2) (rbits_x1_0 e z1)) f m i := by
  intro f
  induction f with
  | zero => intros; kernel_rfl
  | succ f ih => intro m i; exact (rbits_st1 g_pow_ g_less g_half g_mul g_words n f e k m i).trans ((congrArg (fun r => rbits_b1 g_pow_ g_less g_half g_mul g_words n e (fun z1 => k (.exit 2) (rbits_x1_0 e z1)) r m i) (funext fun m => funext fun i => ih m i)).trans (by kernel_rfl))
theorem rbits_lo1 (n : Nat) : LoopOK Try.prog gls rbits_c1 (loopE rbits_d1 rbits_sh1 (rbits_g1 (A := A) (pow__k n) (less_k n) (half_k n) (mul_k n) (words_k n) n)) :=
  LoopOK.of (rbits_T (pow__k n) (less_k n) (half_k n) (mul_k n) (words_k n) n) (rbits_fns n) follows (j := 2) (n := n) (xdead := rbits_y1) (lo_of (by kernel_rfl : loopsOf 2 rbits_c1 = []) lo_nil) fun d k => Eq.trans (by kernel_rfl) (rbits_le1 (pow__k n) (less_k n) (half_k n) (mul_k n) (words_k n) n d.1.2.2.2.1 k n d.1.2.2.2.2.1 d.1.2.2.2.2.2.1)
noncomputable def rbits_LK0 (g_pow_ : Int → ((List Int) → Option A) → Option A) (g_less : (List Int) → (List Int) → (Bool → Option A) → Option A) (g_half : (List Int) → ((List Int) → Option A) → Option A) (g_mul : (List Int) → (List Int) → ((List Int) → Option A) → Option A) (g_words : (List Int) → ((List Int) → Option A) → Option A) (n : Nat) (t : (List Int)) (k : Ex → St → Option A) (f : Nat) (e : Int) : Option A := loopK (codeK (rbits_E g_pow_ g_less g_half g_mul g_words n) 1 rbits_c0) rbits_d0 rbits_y0 f (rbits_sh0.fill (rbits_t0 t e)) k
theorem rbits_st0 (g_pow_ : Int → ((List Int) → Option A) → Option A) (g_less : (List Int) → (List Int) → (Bool → Option A) → Option A) (g_half : (List Int) → ((List Int) → Option A) → Option A) (g_mul : (List Int) → (List Int) → ((List Int) → Option A) → Option A) (g_words : (List Int) → ((List Int) → Option A) → Option A) (n f : Nat) (t : (List Int)) (k : Ex → St → Option A) (e : Int) : rbits_LK0 g_pow_ g_less g_half g_mul g_words n t k (f + 1) e = rbits_b0 g_pow_ g_less g_half g_mul g_words n t (fun z1 => k (.exit 0) (rbits_x0_0 t z1)) (rbits_LK0 g_pow_ g_less g_half g_mul g_words n t k f) e := by kernel_rfl
theorem rbits_le0 (g_pow_ : Int → ((List Int) → Option A) → Option A) (g_less : (List Int) → (List Int) → (Bool → Option A) → Option A) (g_half : (List Int) → ((List Int) → Option A) → Option A) (g_mul : (List Int) → (List Int) → ((List Int) → Option A) → Option A) (g_words : (List Int) → ((List Int) → Option A) → Option A) (n : Nat) (t : (List Int)) (k : Ex → St → Option A) : ∀ (f : Nat) (e : Int), rbits_LK0 g_pow_ g_less g_half g_mul g_words n t k f e = rbits_l0 g_pow_ g_less g_half g_mul g_words n t (fun z1 => k (.exit 0) (rbits_x0_0 t z1)) f e := by
  intro f
  induction f with
  | zero => intros; kernel_rfl
  | succ f ih => intro e; exact (rbits_st0 g_pow_ g_less g_half g_mul g_words n f t k e).trans ((congrArg (fun r => rbits_b0 g_pow_ g_less g_half g_mul g_words n t (fun z1 => k (.exit 0) (rbits_x0_0 t z1)) r e) (funext fun e => ih e)).trans (by kernel_rfl))
theorem rbits_lo0 (n : Nat) : LoopOK Try.prog gls rbits_c0 (loopE rbits_d0 rbits_sh0 (rbits_g0 (A := A) (pow__k n) (less_k n) (half_k n) (mul_k n) (words_k n) n)) :=
  LoopOK.of (rbits_T (pow__k n) (less_k n) (half_k n) (mul_k n) (words_k n) n) (rbits_fns n) follows (j := 1) (n := n) (xdead := rbits_y0) (lo_of (by kernel_rfl : loopsOf 1 rbits_c0 = []) lo_nil) fun d k => Eq.trans (by kernel_rfl) (rbits_le0 (pow__k n) (less_k n) (half_k n) (mul_k n) (words_k n) n d.1.1 k n d.1.2.2.2.1)
theorem rbits_eqg (g_pow_ : Int → ((List Int) → Option A) → Option A) (g_less : (List Int) → (List Int) → (Bool → Option A) → Option A) (g_half : (List Int) → ((List Int) → Option A) → Option A) (g_mul : (List Int) → (List Int) → ((List Int) → Option A) → Option A) (g_words : (List Int) → ((List Int) → Option A) → Option A) (n : Nat) (a0 : (List Int)) (k : AV → List Blk → Option A) : fnK (rbits_E g_pow_ g_less g_half g_mul g_words n) Try.f20 [.pure] [.p (.sl (.int .i64)) a0] [] k = rbits_p g_pow_ g_less g_half g_mul g_words n a0 (fun r0 => k (.p (.int .u32) r0) []) := by kernel_rfl
theorem rbits_eq (n : Nat) (a0 : (List Int)) (k : AV → List Blk → Option A) : fnK (rbits_E (pow__k n) (less_k n) (half_k n) (mul_k n) (words_k n) n) Try.f20 [.pure] [.p (.sl (.int .i64)) a0] [] k = rbits_k n a0 (fun r0 => k (.p (.int .u32) r0) []) := rbits_eqg (pow__k n) (less_k n) (half_k n) (mul_k n) (words_k n) n a0 k
def rbits_ent (g : (List Int) → (Int → Option A) → Option A) : Entry A := pureE fun args k => args1 args (.sl (.int .i64)) fun a0 => g a0 (fun r0 => k (.p (.int .u32) r0) [])
theorem rbits_lo (n : Nat) : ∀ c, Try.f20.body = some c → ∀ q ∈ loopsOf 0 c, ∀ L, (rbits_E (A := A) (pow__k n) (less_k n) (half_k n) (mul_k n) (words_k n) n).lps.lookup q.1 = some L → LoopOK Try.prog gls q.2 L :=
  lo_body (E := rbits_E (pow__k n) (less_k n) (half_k n) (mul_k n) (words_k n) n) (by kernel_rfl : Try.f20.body = some (bodyOf Try.f20)) (lo_of (E := rbits_E (pow__k n) (less_k n) (half_k n) (mul_k n) (words_k n) n) (by kernel_rfl : loopsOf 0 (bodyOf Try.f20) = [(0, rbits_c0), (1, rbits_c1), (2, rbits_c2), (3, rbits_c3)]) (lo_cons rfl (rbits_lo0 n) (lo_cons rfl (rbits_lo1 n) (lo_cons rfl (rbits_lo2 n) (lo_cons rfl (rbits_lo3 n) lo_nil)))))
theorem rbits_ok (n : Nat) : FnOK Try.prog gls 20 (rbits_ent (A := A) (rbits_k n)) :=
  FnOK.of (rbits_T (pow__k n) (less_k n) (half_k n) (mul_k n) (words_k n) n) (rbits_fns n) follows ⟨Try.func20, by kernel_rfl⟩ (rbits_lo n) (rm := [.pure]) fun args k out h => by
    obtain ⟨a0, e, h1⟩ := args1_sound h
    subst e; rw [rbits_eq]; exact h1

end Go.Ev
end

section
/-
  FUNCTION 41: printed by a program of our own (wip/gen/st.py). 'masthead/mastheadref05.Parts', in continuation form; the evaluator gives it.
-/
set_option linter.all false
set_option maxRecDepth 100000
namespace Go.Ev
open Go.Proofs
variable {A : Type}

-- ============================================================ parts (function 41)
def parts_p (n : Nat) (a0 : Int) (k : Int → Bool → Int → Option A) : Option A :=
  k (IntKind.wrap .i64 (IntKind.wrap .u32 (Int.tdiv a0 16777216))) ((Int.tmod (IntKind.wrap .u32 (Int.tdiv a0 8388608)) 2) == 1) (IntKind.wrap .i64 (Int.tmod a0 8388608))

def parts_k (n : Nat) (a0 : Int) (k : Int → Bool → Int → Option A) : Option A := parts_p n a0 k

noncomputable def parts_E (n : Nat) : Env A := ⟨tys, gls, [], [], []⟩
theorem parts_T {A : Type} (n : Nat) : TyOK Try.prog (parts_E (A := A) n) := tyOK_of rfl tysB
theorem parts_fns (n : Nat) : FnsOK Try.prog (parts_E (A := A) n) := AllOK.env rfl rfl AllOK.nil
theorem parts_eqg (n : Nat) (a0 : Int) (k : AV → List Blk → Option A) : fnK (parts_E n) Try.f41 [.pure, .pure, .pure] [.p (.int .u32) a0] [] k = parts_p n a0 (fun r0 r1 r2 => k (.tup [.p (.int .i64) r0, .p .bool r1, .p (.int .i64) r2]) []) := by kernel_rfl
theorem parts_eq (n : Nat) (a0 : Int) (k : AV → List Blk → Option A) : fnK (parts_E n) Try.f41 [.pure, .pure, .pure] [.p (.int .u32) a0] [] k = parts_k n a0 (fun r0 r1 r2 => k (.tup [.p (.int .i64) r0, .p .bool r1, .p (.int .i64) r2]) []) := parts_eqg n a0 k
def parts_ent (g : Int → (Int → Bool → Int → Option A) → Option A) : Entry A := pureE fun args k => args1 args (.int .u32) fun a0 => g a0 (fun r0 r1 r2 => k (.tup [.p (.int .i64) r0, .p .bool r1, .p (.int .i64) r2]) [])
theorem parts_lo (n : Nat) : ∀ c, Try.f41.body = some c → ∀ q ∈ loopsOf 0 c, ∀ L, (parts_E (A := A) n).lps.lookup q.1 = some L → LoopOK Try.prog gls q.2 L :=
  lo_body (E := parts_E n) (by kernel_rfl : Try.f41.body = some (bodyOf Try.f41)) (lo_of (E := parts_E n) (by kernel_rfl : loopsOf 0 (bodyOf Try.f41) = []) lo_nil)
theorem parts_ok (n : Nat) : FnOK Try.prog gls 41 (parts_ent (A := A) (parts_k n)) :=
  FnOK.of (parts_T n) (parts_fns n) follows ⟨Try.func41, by kernel_rfl⟩ (parts_lo n) (rm := [.pure, .pure, .pure]) fun args k out h => by
    obtain ⟨a0, e, h1⟩ := args1_sound h
    subst e; rw [parts_eq]; exact h1

end Go.Ev
end

section
/-
  FUNCTION 42: printed by a program of our own (wip/gen/st.py). 'masthead/mastheadref05.Number', in continuation form; the evaluator gives it.
-/
set_option linter.all false
set_option maxRecDepth 100000
namespace Go.Ev
open Go.Proofs
variable {A : Type}

-- ============================================================ number (function 42)
def number_b0 (g_parts : Int → (Int → Bool → Int → Option A) → Option A) (g_of : (List Int) → ((List Int) → Option A) → Option A) (g_pow_ : Int → ((List Int) → Option A) → Option A) (g_mul : (List Int) → (List Int) → ((List Int) → Option A) → Option A) (n : Nat) (k0 : Int → Int → Option A) (r : Int → Int → Option A) (e : Int) (m : Int) : Option A :=
  bif (decide (e < 3)) then
    r (IntKind.wrap .i64 (e + 1)) (IntKind.wrap .i64 (Int.tdiv m 256))
  else
    k0 e m

def number_l0 (g_parts : Int → (Int → Bool → Int → Option A) → Option A) (g_of : (List Int) → ((List Int) → Option A) → Option A) (g_pow_ : Int → ((List Int) → Option A) → Option A) (g_mul : (List Int) → (List Int) → ((List Int) → Option A) → Option A) (n : Nat) (k0 : Int → Int → Option A) : Nat → Int → Int → Option A
  | 0 => fun _ _ => none
  | f + 1 => number_b0 g_parts g_of g_pow_ g_mul n k0 (number_l0 g_parts g_of g_pow_ g_mul n k0 f)

def number_p (g_parts : Int → (Int → Bool → Int → Option A) → Option A) (g_of : (List Int) → ((List Int) → Option A) → Option A) (g_pow_ : Int → ((List Int) → Option A) → Option A) (g_mul : (List Int) → (List Int) → ((List Int) → Option A) → Option A) (n : Nat) (a0 : Int) (k : (List Int) → Option A) : Option A :=
  g_parts a0 fun r1 r2 r3 =>
  number_l0 g_parts g_of g_pow_ g_mul n (fun y4 y5 =>
    g_of [(IntKind.wrap .u64 y5)] fun r6 =>
    g_pow_ (IntKind.wrap .i64 (8 * (IntKind.wrap .i64 (y4 - 3)))) fun r7 =>
    g_mul r6 r7 fun r8 =>
    k r8) n r1 r3

def number_k (n : Nat) (a0 : Int) (k : (List Int) → Option A) : Option A := number_p (parts_k n) (of_k n) (pow__k n) (mul_k n) n a0 k

noncomputable def number_c0 : Code := codeAt [1, 1, 0, 0, 0] (bodyOf Try.f42)
def number_d0 : List Nat := [0, 2, 4, 6, 7, 8, 9, 10, 11, 12, 13, 14, 15, 16, 17]
def number_y0 : List Nat := [0, 1, 2, 4, 6, 7, 8, 9, 10, 11, 12, 13, 14, 15, 16, 17, 18, 19, 20, 21, 22, 23, 24, 25, 26]
def number_sh0 : Shape := ⟨[.any, .any, .any, (.p (.int .i64)), .any, (.p (.int .i64)), .any, .any, .any, .any, .any, .any, .any, .any, .any, .any, .any, .any, .any, .any, .any, .any, .any, .any, .any, .any, .any], [], 0⟩
def number_t0 (e : Int) (m : Int) : number_sh0.den := (((), (), (), e, (), m, (), (), (), (), (), (), (), (), (), (), (), (), (), (), (), (), (), (), (), (), (), ()), ())
def number_x0_0 (z0 : Int) (z1 : Int) : St := ⟨[.any, .any, .any, .p (.int .i64) z0, .any, .p (.int .i64) z1, .any, .any, .any, .any, .any, .any, .any, .any, .any, .any, .any, .any, .any, .any, .any, .any, .any, .any, .any, .any, .any], [], 0⟩
def number_g0 (g_parts : Int → (Int → Bool → Int → Option A) → Option A) (g_of : (List Int) → ((List Int) → Option A) → Option A) (g_pow_ : Int → ((List Int) → Option A) → Option A) (g_mul : (List Int) → (List Int) → ((List Int) → Option A) → Option A) (n : Nat) (d : number_sh0.den) (k : Ex → St → Option A) : Option A :=
  number_l0 g_parts g_of g_pow_ g_mul n (fun z0 z1 => k (.exit 0) (number_x0_0 z0 z1)) n d.1.2.2.2.1 d.1.2.2.2.2.2.1
noncomputable def number_E (g_parts : Int → (Int → Bool → Int → Option A) → Option A) (g_of : (List Int) → ((List Int) → Option A) → Option A) (g_pow_ : Int → ((List Int) → Option A) → Option A) (g_mul : (List Int) → (List Int) → ((List Int) → Option A) → Option A) (n : Nat) : Env A := ⟨tys, gls, [(41, parts_ent g_parts), (47, of_ent g_of), (44, pow__ent g_pow_), (46, mul_ent g_mul)], [(0, loopE number_d0 number_sh0 (number_g0 g_parts g_of g_pow_ g_mul n))], []⟩
theorem number_T (g_parts : Int → (Int → Bool → Int → Option A) → Option A) (g_of : (List Int) → ((List Int) → Option A) → Option A) (g_pow_ : Int → ((List Int) → Option A) → Option A) (g_mul : (List Int) → (List Int) → ((List Int) → Option A) → Option A) (n : Nat) : TyOK Try.prog (number_E g_parts g_of g_pow_ g_mul n) := tyOK_of rfl tysB
theorem number_fns (n : Nat) : FnsOK Try.prog (number_E (A := A) (parts_k n) (of_k n) (pow__k n) (mul_k n) n) := AllOK.env rfl rfl (AllOK.cons (parts_ok n) (AllOK.cons (of_ok n) (AllOK.cons (pow__ok n) (AllOK.cons (mul_ok n) AllOK.nil))))
noncomputable def number_LK0 (g_parts : Int → (Int → Bool → Int → Option A) → Option A) (g_of : (List Int) → ((List Int) → Option A) → Option A) (g_pow_ : Int → ((List Int) → Option A) → Option A) (g_mul : (List Int) → (List Int) → ((List Int) → Option A) → Option A) (n : Nat) (k : Ex → St → Option A) (f : Nat) (e : Int) (m : Int) : Option A := loopK (codeK (number_E g_parts g_of g_pow_ g_mul n) 1 number_c0) number_d0 number_y0 f (number_sh0.fill (number_t0 e m)) k
theorem number_st0 (g_parts : Int → (Int → Bool → Int → Option A) → Option A) (g_of : (List Int) → ((List Int) → Option A) → Option A) (g_pow_ : Int → ((List Int) → Option A) → Option A) (g_mul : (List Int) → (List Int) → ((List Int) → Option A) → Option A) (n f : Nat) (k : Ex → St → Option A) (e : Int) (m : Int) : number_LK0 g_parts g_of g_pow_ g_mul n k (f + 1) e m = number_b0 g_parts g_of g_pow_ g_mul n (fun z0 z1 => k (.exit 0) (number_x0_0 z0 z1)) (number_LK0 g_parts g_of g_pow_ g_mul n k f) e m := by kernel_rfl
theorem number_le0 (g_parts : Int → (Int → Bool → Int → Option A) → Option A) (g_of : (List Int) → ((List Int) → Option A) → Option A) (g_pow_ : Int → ((List Int) → Option A) → Option A) (g_mul : (List Int) → (List Int) → ((List Int) → Option A) → Option A) (n : Nat) (k : Ex → St → Option A) : ∀ (f : Nat) (e : Int) (m : Int), number_LK0 g_parts g_of g_pow_ g_mul n k f e m = number_l0 g_parts g_of g_pow_ g_mul n (fun z0 z1 => k (.exit 0) (number_x0_0 z0 z1)) f e m := by
  intro f
  induction f with
  | zero => intros; kernel_rfl
  | succ f ih => intro e m; exact (number_st0 g_parts g_of g_pow_ g_mul n f k e m).trans ((congrArg (fun r => number_b0 g_parts g_of g_pow_ g_mul n (fun z0 z1 => k (.exit 0) (number_x0_0 z0 z1)) r e m) (funext fun e => funext fun m => ih e m)).trans (by kernel_rfl))
theorem number_lo0 (n : Nat) : LoopOK Try.prog gls number_c0 (loopE number_d0 number_sh0 (number_g0 (A := A) (parts_k n) (of_k n) (pow__k n) (mul_k n) n)) :=
  LoopOK.of (number_T (parts_k n) (of_k n) (pow__k n) (mul_k n) n) (number_fns n) follows (j := 1) (n := n) (xdead := number_y0) (lo_of (by kernel_rfl : loopsOf 1 number_c0 = []) lo_nil) fun d k => Eq.trans (by kernel_rfl) (number_le0 (parts_k n) (of_k n) (pow__k n) (mul_k n) n k n d.1.2.2.2.1 d.1.2.2.2.2.2.1)
theorem number_eqg (g_parts : Int → (Int → Bool → Int → Option A) → Option A) (g_of : (List Int) → ((List Int) → Option A) → Option A) (g_pow_ : Int → ((List Int) → Option A) → Option A) (g_mul : (List Int) → (List Int) → ((List Int) → Option A) → Option A) (n : Nat) (a0 : Int) (k : AV → List Blk → Option A) : fnK (number_E g_parts g_of g_pow_ g_mul n) Try.f42 [.pure] [.p (.int .u32) a0] [] k = number_p g_parts g_of g_pow_ g_mul n a0 (fun r0 => k (.p (.sl (.int .i64)) r0) []) := by kernel_rfl
theorem number_eq (n : Nat) (a0 : Int) (k : AV → List Blk → Option A) : fnK (number_E (parts_k n) (of_k n) (pow__k n) (mul_k n) n) Try.f42 [.pure] [.p (.int .u32) a0] [] k = number_k n a0 (fun r0 => k (.p (.sl (.int .i64)) r0) []) := number_eqg (parts_k n) (of_k n) (pow__k n) (mul_k n) n a0 k
def number_ent (g : Int → ((List Int) → Option A) → Option A) : Entry A := pureE fun args k => args1 args (.int .u32) fun a0 => g a0 (fun r0 => k (.p (.sl (.int .i64)) r0) [])
theorem number_lo (n : Nat) : ∀ c, Try.f42.body = some c → ∀ q ∈ loopsOf 0 c, ∀ L, (number_E (A := A) (parts_k n) (of_k n) (pow__k n) (mul_k n) n).lps.lookup q.1 = some L → LoopOK Try.prog gls q.2 L :=
  lo_body (E := number_E (parts_k n) (of_k n) (pow__k n) (mul_k n) n) (by kernel_rfl : Try.f42.body = some (bodyOf Try.f42)) (lo_of (E := number_E (parts_k n) (of_k n) (pow__k n) (mul_k n) n) (by kernel_rfl : loopsOf 0 (bodyOf Try.f42) = [(0, number_c0)]) (lo_cons rfl (number_lo0 n) lo_nil))
theorem number_ok (n : Nat) : FnOK Try.prog gls 42 (number_ent (A := A) (number_k n)) :=
  FnOK.of (number_T (parts_k n) (of_k n) (pow__k n) (mul_k n) n) (number_fns n) follows ⟨Try.func42, by kernel_rfl⟩ (number_lo n) (rm := [.pure]) fun args k out h => by
    obtain ⟨a0, e, h1⟩ := args1_sound h
    subst e; rw [number_eq]; exact h1

end Go.Ev
end

section
/-
  FUNCTION 16: printed by a program of our own (wip/gen/st.py). 'masthead/mastheadref05.Target', in continuation form; the evaluator gives it.
-/
set_option linter.all false
set_option maxRecDepth 100000
namespace Go.Ev
open Go.Proofs
variable {A : Type}

-- ============================================================ rtarget (function 16)
def rtarget_p (g_parts : Int → (Int → Bool → Int → Option A) → Option A) (g_number : Int → ((List Int) → Option A) → Option A) (n : Nat) (a0 : Int) (k : (List Int) → Bool → Option A) : Option A :=
  g_parts a0 fun r1 r2 r3 =>
  g_number a0 fun r4 =>
  bif r2 then
    k [] false
  else
    bif ((r4.length : Int) == 0) then
      k [] false
    else
      bif (decide ((r4.length : Int) > 16)) then
        k [] false
      else
        k r4 true

def rtarget_k (n : Nat) (a0 : Int) (k : (List Int) → Bool → Option A) : Option A := rtarget_p (parts_k n) (number_k n) n a0 k

noncomputable def rtarget_E (g_parts : Int → (Int → Bool → Int → Option A) → Option A) (g_number : Int → ((List Int) → Option A) → Option A) (n : Nat) : Env A := ⟨tys, gls, [(41, parts_ent g_parts), (42, number_ent g_number)], [], []⟩
theorem rtarget_T (g_parts : Int → (Int → Bool → Int → Option A) → Option A) (g_number : Int → ((List Int) → Option A) → Option A) (n : Nat) : TyOK Try.prog (rtarget_E g_parts g_number n) := tyOK_of rfl tysB
theorem rtarget_fns (n : Nat) : FnsOK Try.prog (rtarget_E (A := A) (parts_k n) (number_k n) n) := AllOK.env rfl rfl (AllOK.cons (parts_ok n) (AllOK.cons (number_ok n) AllOK.nil))
theorem rtarget_eqg (g_parts : Int → (Int → Bool → Int → Option A) → Option A) (g_number : Int → ((List Int) → Option A) → Option A) (n : Nat) (a0 : Int) (k : AV → List Blk → Option A) : fnK (rtarget_E g_parts g_number n) Try.f16 [.pure, .pure] [.p (.int .u32) a0] [] k = rtarget_p g_parts g_number n a0 (fun r0 r1 => k (.tup [.p (.sl (.int .i64)) r0, .p .bool r1]) []) := by kernel_rfl
theorem rtarget_eq (n : Nat) (a0 : Int) (k : AV → List Blk → Option A) : fnK (rtarget_E (parts_k n) (number_k n) n) Try.f16 [.pure, .pure] [.p (.int .u32) a0] [] k = rtarget_k n a0 (fun r0 r1 => k (.tup [.p (.sl (.int .i64)) r0, .p .bool r1]) []) := rtarget_eqg (parts_k n) (number_k n) n a0 k
def rtarget_ent (g : Int → ((List Int) → Bool → Option A) → Option A) : Entry A := pureE fun args k => args1 args (.int .u32) fun a0 => g a0 (fun r0 r1 => k (.tup [.p (.sl (.int .i64)) r0, .p .bool r1]) [])
theorem rtarget_lo (n : Nat) : ∀ c, Try.f16.body = some c → ∀ q ∈ loopsOf 0 c, ∀ L, (rtarget_E (A := A) (parts_k n) (number_k n) n).lps.lookup q.1 = some L → LoopOK Try.prog gls q.2 L :=
  lo_body (E := rtarget_E (parts_k n) (number_k n) n) (by kernel_rfl : Try.f16.body = some (bodyOf Try.f16)) (lo_of (E := rtarget_E (parts_k n) (number_k n) n) (by kernel_rfl : loopsOf 0 (bodyOf Try.f16) = []) lo_nil)
theorem rtarget_ok (n : Nat) : FnOK Try.prog gls 16 (rtarget_ent (A := A) (rtarget_k n)) :=
  FnOK.of (rtarget_T (parts_k n) (number_k n) n) (rtarget_fns n) follows ⟨Try.func16, by kernel_rfl⟩ (rtarget_lo n) (rm := [.pure, .pure]) fun args k out h => by
    obtain ⟨a0, e, h1⟩ := args1_sound h
    subst e; rw [rtarget_eq]; exact h1

end Go.Ev
end

section
/-
  COMPACT BITS, THE REFERENCE: what target and bits compute there.
-/
set_option linter.all false
namespace Go.Ev
variable {A : Type}

-- ------------------------------------------------------------ bits

theorem rbits_l0_law (n : Nat) (hn : 100 < n) (x : Nat) (hx : x < 2 ^ 256) (k0 : Int → Option A) : ∀ (d f e : Nat), e + d = bs x → d < f →
    rbits_l0 (pow__k n) (less_k n) (half_k n) (mul_k n) (words_k n) n (ints (dig x)) k0 f (e : Int) = k0 ((bs x : Nat) : Int) := by
  have hb := bs_256 hx
  have hl := dig_len256 x hx
  intro d
  induction d with
  | zero =>
    intro f e he hf
    obtain ⟨f, rfl⟩ : ∃ g, f = g + 1 := ⟨f - 1, by omega⟩
    have : e = bs x := by omega
    subst this
    rw [rbits_l0, rbits_b0]
    by_cases h : bs x < 32
    · have e1 : IntKind.wrap .i64 (8 * ((bs x : Nat) : Int)) = ((8 * bs x : Nat) : Int) := by rw [wrap_id (by omega) (by omega)]; omega
      rw [decide_eq_true (show ((bs x : Nat) : Int) < 32 by omega), cond_true, e1, pow_law n _ (by omega) (by omega), less_law n _ _ (by omega) (by omega), decide_eq_true (lt_bs x), Bool.not_true, cond_false]
    · rw [decide_eq_false (show ¬ ((bs x : Nat) : Int) < 32 by omega), cond_false]
  | succ d ih =>
    intro f e he hf
    obtain ⟨f, rfl⟩ : ∃ g, f = g + 1 := ⟨f - 1, by omega⟩
    have e1 : IntKind.wrap .i64 (8 * (e : Int)) = ((8 * e : Nat) : Int) := by rw [wrap_id (by omega) (by omega)]; omega
    have e2 : IntKind.wrap .i64 ((e : Int) + 1) = ((e + 1 : Nat) : Int) := by rw [wrap_id (by omega) (by omega)]; omega
    have h := le_of_bs (x := x) (k := e) (by omega)
    rw [rbits_l0, rbits_b0, decide_eq_true (show (e : Int) < 32 by omega), cond_true, e1, pow_law n _ (by omega) (by omega), less_law n _ _ (by omega) (by omega), decide_eq_false (by omega), Bool.not_false, cond_true, e2]
    exact ih f (e + 1) (by omega) (by omega)

theorem rbits_l1_law (n : Nat) (hn : 1000 ≤ n) (e : Nat) (he : e ≤ 32) (k0 : List Int → Option A) : ∀ (d f i m : Nat), i + d = 8 * (e - 3) → d < f → m < 2 ^ 256 →
    rbits_l1 (pow__k n) (less_k n) (half_k n) (mul_k n) (words_k n) n (e : Int) k0 f (ints (dig m)) (i : Int) = k0 (ints (dig (m / 2 ^ d))) := by
  intro d
  induction d with
  | zero =>
    intro f i m hi hf hm
    obtain ⟨f, rfl⟩ : ∃ g, f = g + 1 := ⟨f - 1, by omega⟩
    have e1 : IntKind.wrap .i64 (8 * IntKind.wrap .i64 ((e : Int) - 3)) = 8 * ((e : Int) - 3) := by rw [wrap_id (x := (e : Int) - 3) (by omega) (by omega), wrap_id (by omega) (by omega)]
    rw [rbits_l1, rbits_b1, e1, decide_eq_false (show ¬ (i : Int) < 8 * ((e : Int) - 3) by omega), cond_false, Nat.pow_zero, Nat.div_one]
  | succ d ih =>
    intro f i m hi hf hm
    obtain ⟨f, rfl⟩ : ∃ g, f = g + 1 := ⟨f - 1, by omega⟩
    have hl := dig_len256 m hm
    have e1 : IntKind.wrap .i64 (8 * IntKind.wrap .i64 ((e : Int) - 3)) = 8 * ((e : Int) - 3) := by rw [wrap_id (x := (e : Int) - 3) (by omega) (by omega), wrap_id (by omega) (by omega)]
    have e2 : IntKind.wrap .i64 ((i : Int) + 1) = ((i + 1 : Nat) : Int) := by rw [wrap_id (by omega) (by omega)]; omega
    rw [rbits_l1, rbits_b1, e1, decide_eq_true (show (i : Int) < 8 * ((e : Int) - 3) by omega), cond_true, half_law n m (by omega) (by omega), e2, ih f (i + 1) (m / 2) (by omega) (by omega) (Nat.lt_of_le_of_lt (Nat.div_le_self _ _) hm), Nat.div_div_eq_div_mul, Nat.pow_succ, Nat.mul_comm]

theorem dig_256 : ([256] : List Int) = ints (dig 256) := by rw [dig_pos (by decide), show 256 / 65536 = 0 from rfl, dig_zero]; rfl
theorem dig_2_23 : ([0, 128] : List Int) = ints (dig 8388608) := by rw [dig_pos (by decide), show 8388608 / 65536 = 128 from rfl, dig_pos (by decide), show 128 / 65536 = 0 from rfl, dig_zero]; rfl

theorem rbits_l2_law (n : Nat) (hn : 1000 ≤ n) (e : Nat) (k0 : List Int → Option A) (E : Int) : ∀ (d f i m : Nat), (i < 3 → i + d = 3) → (3 ≤ i → d = 0) → d < f → m < 2 ^ 256 → m * 2 ^ (8 * d) < 2 ^ 256 →
    rbits_l2 (pow__k n) (less_k n) (half_k n) (mul_k n) (words_k n) n E k0 f (ints (dig m)) (i : Int) = k0 (ints (dig (m * 2 ^ (8 * d)))) := by
  intro d
  induction d with
  | zero =>
    intro f i m hi hi2 hf hm hm2
    obtain ⟨f, rfl⟩ : ∃ g, f = g + 1 := ⟨f - 1, by omega⟩
    rw [rbits_l2, rbits_b2, decide_eq_false (show ¬ (i : Int) < 3 by omega), cond_false, Nat.mul_zero, Nat.pow_zero, Nat.mul_one]
  | succ d ih =>
    intro f i m hi hi2 hf hm hm2
    obtain ⟨f, rfl⟩ : ∃ g, f = g + 1 := ⟨f - 1, by omega⟩
    have hl := dig_len256 m hm
    have l3 : (dig 256).length ≤ 1 := dig_len 256 1 (by decide)
    have hi3 : i < 3 := by omega
    have e2 : IntKind.wrap .i64 ((i : Int) + 1) = ((i + 1 : Nat) : Int) := by rw [wrap_id (by omega) (by omega)]; omega
    have e3 : m * 2 ^ (8 * (d + 1)) = m * 256 * 2 ^ (8 * d) := by
      rw [show 8 * (d + 1) = 8 + 8 * d from by omega, Nat.pow_add, show 256 = 2 ^ 8 from by decide, Nat.mul_assoc]
    have h5 : m * 256 < 2 ^ 256 := by
      rw [e3] at hm2
      exact Nat.lt_of_le_of_lt (Nat.le_mul_of_pos_right _ (Nat.two_pow_pos _)) hm2
    rw [rbits_l2, rbits_b2, decide_eq_true (show (i : Int) < 3 by omega), cond_true, dig_256, mul_law n m 256 (by omega) (by omega), e2, ih f (i + 1) (m * 256) (by omega) (by omega) (by omega) h5 (by rw [← e3]; exact hm2), e3]

theorem rbits_l3_law (n : Nat) (hn : 1000 ≤ n) (k0 : List Int → Option A) (E : Int) : ∀ (d f i m : Nat), i + d = 8 → d < f → m < 2 ^ 256 →
    rbits_l3 (pow__k n) (less_k n) (half_k n) (mul_k n) (words_k n) n E k0 f (ints (dig m)) (i : Int) = k0 (ints (dig (m / 2 ^ d))) := by
  intro d
  induction d with
  | zero =>
    intro f i m hi hf hm
    obtain ⟨f, rfl⟩ : ∃ g, f = g + 1 := ⟨f - 1, by omega⟩
    rw [rbits_l3, rbits_b3, decide_eq_false (show ¬ (i : Int) < 8 by omega), cond_false, Nat.pow_zero, Nat.div_one]
  | succ d ih =>
    intro f i m hi hf hm
    obtain ⟨f, rfl⟩ : ∃ g, f = g + 1 := ⟨f - 1, by omega⟩
    have hl := dig_len256 m hm
    have e2 : IntKind.wrap .i64 ((i : Int) + 1) = ((i + 1 : Nat) : Int) := by rw [wrap_id (by omega) (by omega)]; omega
    rw [rbits_l3, rbits_b3, decide_eq_true (show (i : Int) < 8 by omega), cond_true, half_law n m (by omega) (by omega), e2, ih f (i + 1) (m / 2) (by omega) (by omega) (Nat.lt_of_le_of_lt (Nat.div_le_self _ _) hm), Nat.div_div_eq_div_mul, Nat.pow_succ, Nat.mul_comm]

theorem word0 (x : Nat) (h : x < 18446744073709551616) : (ints (uw x))[0]? = some ((x : Nat) : Int) := by
  have w0 : wd x 0 = x := by unfold wd; rw [Nat.mul_zero, Nat.pow_zero, Nat.div_one]; omega
  rw [iuw_at _ 0 (by decide), w0]

theorem rbits_law (n : Nat) (hn : 1000 ≤ n) (x : Nat) (hx : x < 2 ^ 256) (g : Int → Option A) : rbits_k n (ints (dig x)) g = g ((cbN x : Nat) : Int) := by
  unfold rbits_k rbits_p
  have hb := bs_256 hx
  have hz := zN_lt x
  have hm : x / 2 ^ (8 * (bs x - 3)) < 2 ^ 256 := Nat.lt_of_le_of_lt (Nat.div_le_self _ _) hx
  have ez : x / 2 ^ (8 * (bs x - 3)) * 2 ^ (8 * (3 - bs x)) = zN x := by
    rcases Nat.lt_or_ge (bs x) 3 with h | h
    · rw [zN_small h, show bs x - 3 = 0 from by omega, Nat.mul_zero, Nat.pow_zero, Nat.div_one]
    · rw [zN_big h, show 3 - bs x = 0 from by omega, Nat.mul_zero, Nat.pow_zero, Nat.mul_one]
  have hz256 : zN x < 2 ^ 256 := Nat.lt_trans hz (by decide)
  refine Eq.trans (rbits_l0_law n (by omega) x hx _ (bs x) n 0 (by omega) (by omega)) ?_
  refine Eq.trans (rbits_l1_law n hn (bs x) hb _ (8 * (bs x - 3)) n 0 x (by omega) (by omega) hx) ?_
  refine Eq.trans (rbits_l2_law n hn 0 _ ((bs x : Nat) : Int) (3 - bs x) n (bs x) _ (by omega) (by omega) (by omega) hm (by rw [ez]; exact hz256)) ?_
  have hl := dig_len256 (zN x) hz256
  have u1 : IntKind.wrap .u32 (IntKind.wrap .i64 (((bs x : Nat) : Int) + 1)) = ((bs x + 1 : Nat) : Int) := by
    rw [wrap_id (x := ((bs x : Nat) : Int) + 1) (by omega) (by omega), show ((bs x : Nat) : Int) + 1 = ((bs x + 1 : Nat) : Int) from by omega]; exact wrap_u32_nat _ (by omega)
  have u2 : IntKind.wrap .u32 ((bs x : Nat) : Int) = ((bs x : Nat) : Int) := wrap_u32_nat _ (by omega)
  rw [ez, dig_2_23, less_law n _ _ (by omega) (by omega), u1, u2]
  unfold cbN
  by_cases h : 8388608 ≤ zN x
  · rw [decide_eq_false (by omega), Bool.not_false, cond_true, if_pos h]
    refine Eq.trans (rbits_l3_law n hn _ ((bs x : Nat) : Int) 8 n 0 (zN x) (by omega) (by omega) hz256) ?_
    have hz2 : zN x / 2 ^ 8 < 2 ^ 256 := Nat.lt_of_le_of_lt (Nat.div_le_self _ _) hz256
    have hl2 := dig_len256 _ hz2
    rw [words_law n _ (by omega) (by omega), word0 _ (by omega), Option.bind_some, show (2 : Nat) ^ 8 = 256 from by decide]
    rw [show ((bs x + 1 : Nat) : Int) * 16777216 = (((bs x + 1) * 16777216 : Nat) : Int) from by omega, wrap_u32_nat _ (by omega), wrap_u32_nat (zN x / 256) (by omega), ← Int.natCast_add, wrap_u32_nat _ (by omega)]
  · rw [decide_eq_true (by omega), Bool.not_true, cond_false, if_neg h]
    rw [words_law n _ (by omega) (by omega), word0 _ (by omega), Option.bind_some]
    rw [show ((bs x : Nat) : Int) * 16777216 = ((bs x * 16777216 : Nat) : Int) from by omega, wrap_u32_nat _ (by omega), wrap_u32_nat (zN x) (by omega), ← Int.natCast_add, wrap_u32_nat _ (by omega)]

-- ------------------------------------------------------------ target

/-- The number that the bits tell, its sign and its bounds left out. -/
def numN (c : Nat) : Nat := if c / 16777216 ≤ 3 then c % 8388608 / 2 ^ (8 * (3 - c / 16777216)) else c % 8388608 * 2 ^ (8 * (c / 16777216 - 3))

theorem number_l0_law (P : Int → (Int → Bool → Int → Option A) → Option A) (n : Nat) (k0 : Int → Int → Option A) : ∀ (d f e m : Nat), e + d = 3 → d < f → m < 8388608 →
    number_l0 P (of_k n) (pow__k n) (mul_k n) n k0 f (e : Int) (m : Int) = k0 3 ((m / 2 ^ (8 * d) : Nat) : Int) := by
  intro d
  induction d with
  | zero =>
    intro f e m he hf hm
    obtain ⟨f, rfl⟩ : ∃ g, f = g + 1 := ⟨f - 1, by omega⟩
    have : e = 3 := by omega
    subst this
    rw [number_l0, number_b0, decide_eq_false (show ¬ ((3 : Nat) : Int) < 3 by omega), cond_false, Nat.mul_zero, Nat.pow_zero, Nat.div_one]
    rfl
  | succ d ih =>
    intro f e m he hf hm
    obtain ⟨f, rfl⟩ : ∃ g, f = g + 1 := ⟨f - 1, by omega⟩
    have e2 : IntKind.wrap .i64 ((e : Int) + 1) = ((e + 1 : Nat) : Int) := by rw [wrap_id (by omega) (by omega)]; omega
    have e3 : IntKind.wrap .i64 (Int.tdiv (m : Int) 256) = ((m / 256 : Nat) : Int) := by
      rw [show (256 : Int) = ((256 : Nat) : Int) from rfl, tdiv_nat]; exact wrap_id (by omega) (by omega)
    rw [number_l0, number_b0, decide_eq_true (show (e : Int) < 3 by omega), cond_true, e2, e3, ih f (e + 1) (m / 256) (by omega) (by omega) (by omega), Nat.div_div_eq_div_mul, show 256 = 2 ^ 8 from by decide, ← Nat.pow_add]
    rw [show 8 + 8 * d = 8 * (d + 1) from by omega]

theorem parts_law (n c : Nat) (hc : c < 4294967296) (g : Int → Bool → Int → Option A) : parts_k n (c : Int) g = g ((c / 16777216 : Nat) : Int) (decide (c / 8388608 % 2 = 1)) ((c % 8388608 : Nat) : Int) := by
  unfold parts_k parts_p
  have e1 : IntKind.wrap .i64 (IntKind.wrap .u32 (Int.tdiv (c : Int) 16777216)) = ((c / 16777216 : Nat) : Int) := by
    rw [show (16777216 : Int) = ((16777216 : Nat) : Int) from rfl, tdiv_nat, wrap_u32_nat _ (by omega)]; exact wrap_id (by omega) (by omega)
  have e2 : (Int.tmod (IntKind.wrap .u32 (Int.tdiv (c : Int) 8388608)) 2 == 1) = decide (c / 8388608 % 2 = 1) := by
    rw [show (8388608 : Int) = ((8388608 : Nat) : Int) from rfl, tdiv_nat, wrap_u32_nat _ (by omega), show (2 : Int) = ((2 : Nat) : Int) from rfl, tmod_nat]
    by_cases h : c / 8388608 % 2 = 1
    · rw [h]; rfl
    · rw [decide_eq_false h, beq_eq_false_iff_ne]; omega
  have e3 : IntKind.wrap .i64 (Int.tmod (c : Int) 8388608) = ((c % 8388608 : Nat) : Int) := by
    rw [show (8388608 : Int) = ((8388608 : Nat) : Int) from rfl, tmod_nat]; exact wrap_id (by omega) (by omega)
  rw [e1, e2, e3]

theorem number_law (n : Nat) (hn : 1000 ≤ n) (c : Nat) (hc : c < 4294967296) (g : List Int → Option A) : number_k n (c : Int) g = g (ints (dig (numN c))) ∧ (dig (numN c)).length ≤ 200 := by
  unfold number_k number_p
  have hm : c % 8388608 < 8388608 := Nat.mod_lt _ (by decide)
  have fin : ∀ (e m : Nat), m < 8388608 → 3 ≤ e → e < 256 → (of_k n [IntKind.wrap .u64 (m : Int)] fun r6 => pow__k n (IntKind.wrap .i64 (8 * IntKind.wrap .i64 ((e : Int) - 3))) fun r7 => mul_k n r6 r7 fun r8 => g r8) = g (ints (dig (m * 2 ^ (8 * (e - 3))))) := fun e m hm he he2 => by
    have w1 : IntKind.wrap .u64 (m : Int) = (m : Int) := wrap_u64_nat _ (by omega)
    have w2 : IntKind.wrap .i64 (8 * IntKind.wrap .i64 ((e : Int) - 3)) = ((8 * (e - 3) : Nat) : Int) := by
      rw [wrap_id (x := (e : Int) - 3) (by omega) (by omega), wrap_id (by omega) (by omega)]; omega
    have l1 : (dig m).length ≤ 2 := dig_len m 2 (by omega)
    have l2 : (dig (2 ^ (8 * (e - 3)))).length ≤ 127 := dig_len_gen _ (8 * (e - 3)) 127 (by omega) (Nat.le_refl _)
    have ho := of_law (A := A) n [m] (fun x hx => by rw [List.mem_singleton.1 hx]; omega) (show 1 < 100 by decide) (by omega)
    rw [w1, w2, show ([(m : Int)] : List Int) = ints [m] from rfl, ho, show wval [m] = m from by simp [wval], pow_law n _ (by omega) (by omega), mul_law n _ _ (by omega) (by omega)]
  rw [parts_law n c hc]
  unfold numN
  by_cases h : c / 16777216 ≤ 3
  · rw [if_pos h]
    have hm2 : c % 8388608 / 2 ^ (8 * (3 - c / 16777216)) < 8388608 := Nat.lt_of_le_of_lt (Nat.div_le_self _ _) hm
    refine ⟨?_, Nat.le_trans (dig_len _ 2 (by omega)) (by decide)⟩
    refine Eq.trans (number_l0_law _ n _ (3 - c / 16777216) n (c / 16777216) (c % 8388608) (by omega) (by omega) hm) ?_
    have := fin 3 _ hm2 (by omega) (by omega)
    rw [Nat.sub_self, Nat.mul_zero, Nat.pow_zero, Nat.mul_one] at this
    exact this
  · rw [if_neg h]
    obtain ⟨f, rfl⟩ : ∃ g, n = g + 1 := ⟨n - 1, by omega⟩
    refine ⟨?_, Nat.le_trans (dig_len _ 150 ?_) (by decide)⟩
    · rw [number_l0, number_b0, decide_eq_false (show ¬ ((c / 16777216 : Nat) : Int) < 3 by omega), cond_false]
      exact fin (c / 16777216) (c % 8388608) hm (by omega) (by omega)
    · calc c % 8388608 * 2 ^ (8 * (c / 16777216 - 3)) < 2 ^ 23 * 2 ^ (8 * (c / 16777216 - 3)) := Nat.mul_lt_mul_of_pos_right (by omega) (Nat.two_pow_pos _)
        _ = 2 ^ (23 + 8 * (c / 16777216 - 3)) := by rw [← Nat.pow_add]
        _ ≤ 2 ^ (16 * 150) := Nat.pow_le_pow_right (by decide) (by omega)

theorem ctN_num (c : Nat) : ctN c = if c / 8388608 % 2 = 1 then none else if numN c = 0 then none else if numN c < 2 ^ 256 then some (numN c) else none := by
  have hm : c % 8388608 < 8388608 := Nat.mod_lt _ (by decide)
  unfold ctN numN
  by_cases h1 : c / 8388608 % 2 = 1
  · rw [if_pos (by omega), if_pos h1]
  · rw [if_neg (by omega), if_neg h1]
    by_cases h2 : c / 16777216 ≤ 3
    · rw [if_pos h2, if_pos h2]
      have : c % 8388608 / 2 ^ (8 * (3 - c / 16777216)) < 2 ^ 256 := Nat.lt_of_le_of_lt (Nat.div_le_self _ _) (Nat.lt_trans hm (by decide))
      rw [if_pos this]
    · rw [if_neg h2, if_neg h2]
      by_cases h0 : c % 8388608 = 0
      · rw [h0, Nat.zero_mul, if_pos rfl]
        split <;> rfl
      · have hne : c % 8388608 * 2 ^ (8 * (c / 16777216 - 3)) ≠ 0 := Nat.mul_ne_zero h0 (Nat.ne_of_gt (Nat.two_pow_pos _))
        have hb := bl_le (c % 8388608 * 2 ^ (8 * (c / 16777216 - 3))) 256
        rw [bl_mul _ _ h0] at hb
        rw [if_neg hne, if_neg hne]
        by_cases h3 : c % 8388608 * 2 ^ (8 * (c / 16777216 - 3)) < 2 ^ 256
        · rw [if_pos h3, if_neg (by have := hb.2 h3; omega)]
        · rw [if_neg h3, if_pos (by
            rcases Nat.lt_or_ge 256 (bl (c % 8388608) + 8 * (c / 16777216 - 3)) with h | h
            · exact h
            · exact absurd (hb.1 (by omega)) h3)]

theorem rtarget_law (n : Nat) (hn : 1000 ≤ n) (c : Nat) (hc : c < 4294967296) (g : List Int → Bool → Option A) : rtarget_k n (c : Int) g = match ctN c with
    | none => g [] false
    | some t => g (ints (dig t)) true := by
  unfold rtarget_k rtarget_p
  rw [parts_law n c hc, (number_law n hn c hc _).1, ctN_num c, ints_length]
  by_cases h1 : c / 8388608 % 2 = 1
  · rw [decide_eq_true h1, cond_true, if_pos h1]
  · rw [decide_eq_false h1, cond_false, if_neg h1]
    by_cases h2 : numN c = 0
    · rw [h2, dig_zero]; rfl
    · have h3 : (dig (numN c)).length ≠ 0 := fun h => h2 (dig_nil.1 (List.length_eq_zero_iff.1 h))
      rw [if_neg h2, show (((dig (numN c)).length : Int) == 0) = false from by rw [beq_eq_false_iff_ne]; omega, cond_false]
      by_cases h4 : numN c < 2 ^ 256
      · have := dig_len256 _ h4
        rw [if_pos h4, decide_eq_false (by omega), cond_false]
      · have := dig_len_lt 16 (numN c) (by rw [show 65536 = 2 ^ 16 from by decide, ← Nat.pow_mul]; omega)
        rw [if_neg h4, decide_eq_true (by omega), cond_true]

end Go.Ev
end

