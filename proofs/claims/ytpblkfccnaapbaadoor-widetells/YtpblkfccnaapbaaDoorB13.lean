import Derived.Test.YtpblkfccnaapbaaDoorB10
import Derived.Test.YtpblkfccnaapbaaDoorB9
import Derived.Test.YtpblkfccnaapbaaDoorB8
import Derived.Test.YtpblkfccnaapbaaDoorB5
import Derived.Test.YtpblkfccnaapbaaDoorB6
import Derived.Test.YtpblkfccnaapbaaDoorB12
set_option linter.all false
section
/-
  FUNCTION 10: printed by a program of our own (wip/gen/st.py). 'masthead/mastheadlaw04.WideTells', in continuation form; the evaluator gives it.
-/
set_option linter.all false
set_option maxRecDepth 100000
namespace Go.Ev
open Go.Proofs
variable {A : Type}

-- ============================================================ tells (function 10)
def tells_b1 (g_big : (List Int) → ((List Int) → Option A) → Option A) (g_less : (List Int) → (List Int) → (Bool → Option A) → Option A) (g_pow_ : Int → ((List Int) → Option A) → Option A) (g_ubytes : (List Int) → ((List Int) → Option A) → Option A) (g_ucmp : (List Int) → (List Int) → (Int → Option A) → Option A) (g_ulen : (List Int) → (Int → Option A) → Option A) (g_ulittle : (List Int) → ((List Int) → Option A) → Option A) (g_awake : (Bool → Option A) → Option A) (n : Nat) (want : Int) (n_ : Int) (a : (List Int)) (b : (List Int)) (h : (List Int)) (k0 : Option A) (k1 : Option A) (r : Int → Option A) (t34 : Int) : Option A :=
  bif (decide (t34 < 32)) then
    if 0 ≤ t34 then
      if t34 < 32 then
        (h[(Int.toNat t34)]?).bind fun y9 =>
        if 0 ≤ (IntKind.wrap .i64 (Int.tdiv t34 8)) then
          if (IntKind.wrap .i64 (Int.tdiv t34 8)) < 4 then
            (a[(Int.toNat (IntKind.wrap .i64 (Int.tdiv t34 8)))]?).bind fun y10 =>
            if (IntKind.wrap .i64 (8 * (Int.tmod t34 8))) < 0 then none else
            bif (y9 != (IntKind.wrap .u8 (shr .u64 y10 (IntKind.wrap .i64 (8 * (Int.tmod t34 8)))))) then
              k0
            else
              r (IntKind.wrap .i64 (t34 + 1))
          else none
        else none
      else none
    else none
  else
    k1

def tells_l1 (g_big : (List Int) → ((List Int) → Option A) → Option A) (g_less : (List Int) → (List Int) → (Bool → Option A) → Option A) (g_pow_ : Int → ((List Int) → Option A) → Option A) (g_ubytes : (List Int) → ((List Int) → Option A) → Option A) (g_ucmp : (List Int) → (List Int) → (Int → Option A) → Option A) (g_ulen : (List Int) → (Int → Option A) → Option A) (g_ulittle : (List Int) → ((List Int) → Option A) → Option A) (g_awake : (Bool → Option A) → Option A) (n : Nat) (want : Int) (n_ : Int) (a : (List Int)) (b : (List Int)) (h : (List Int)) (k0 : Option A) (k1 : Option A) : Nat → Int → Option A
  | 0 => fun _ => none
  | f + 1 => tells_b1 g_big g_less g_pow_ g_ubytes g_ucmp g_ulen g_ulittle g_awake n want n_ a b h k0 k1 (tells_l1 g_big g_less g_pow_ g_ubytes g_ucmp g_ulen g_ulittle g_awake n want n_ a b h k0 k1 f)

def tells_b0 (g_big : (List Int) → ((List Int) → Option A) → Option A) (g_less : (List Int) → (List Int) → (Bool → Option A) → Option A) (g_pow_ : Int → ((List Int) → Option A) → Option A) (g_ubytes : (List Int) → ((List Int) → Option A) → Option A) (g_ucmp : (List Int) → (List Int) → (Int → Option A) → Option A) (g_ulen : (List Int) → (Int → Option A) → Option A) (g_ulittle : (List Int) → ((List Int) → Option A) → Option A) (g_awake : (Bool → Option A) → Option A) (n : Nat) (p : (List Int)) (want : Int) (a : (List Int)) (b : (List Int)) (k0 : Int → Option A) (r : Int → Option A) (n_ : Int) : Option A :=
  bif (decide (n_ < 256)) then
    g_pow_ n_ fun r5 =>
    g_less p r5 fun r6 =>
    bif (!r6) then
      r (IntKind.wrap .i64 (n_ + 1))
    else
      k0 n_
  else
    k0 n_

def tells_l0 (g_big : (List Int) → ((List Int) → Option A) → Option A) (g_less : (List Int) → (List Int) → (Bool → Option A) → Option A) (g_pow_ : Int → ((List Int) → Option A) → Option A) (g_ubytes : (List Int) → ((List Int) → Option A) → Option A) (g_ucmp : (List Int) → (List Int) → (Int → Option A) → Option A) (g_ulen : (List Int) → (Int → Option A) → Option A) (g_ulittle : (List Int) → ((List Int) → Option A) → Option A) (g_awake : (Bool → Option A) → Option A) (n : Nat) (p : (List Int)) (want : Int) (a : (List Int)) (b : (List Int)) (k0 : Int → Option A) : Nat → Int → Option A
  | 0 => fun _ => none
  | f + 1 => tells_b0 g_big g_less g_pow_ g_ubytes g_ucmp g_ulen g_ulittle g_awake n p want a b k0 (tells_l0 g_big g_less g_pow_ g_ubytes g_ucmp g_ulen g_ulittle g_awake n p want a b k0 f)

def tells_p (g_big : (List Int) → ((List Int) → Option A) → Option A) (g_less : (List Int) → (List Int) → (Bool → Option A) → Option A) (g_pow_ : Int → ((List Int) → Option A) → Option A) (g_ubytes : (List Int) → ((List Int) → Option A) → Option A) (g_ucmp : (List Int) → (List Int) → (Int → Option A) → Option A) (g_ulen : (List Int) → (Int → Option A) → Option A) (g_ulittle : (List Int) → ((List Int) → Option A) → Option A) (g_awake : (Bool → Option A) → Option A) (n : Nat) (a0 : (List Int)) (a1 : (List Int)) (k : Bool → Option A) : Option A :=
  g_big a0 fun r1 =>
  g_big a1 fun r2 =>
  g_less r1 r2 fun r3 =>
  bif r3 then
    g_less r2 r1 fun r4 =>
    bif r4 then
      tells_l0 g_big g_less g_pow_ g_ubytes g_ucmp g_ulen g_ulittle g_awake n r1 1 a0 a1 (fun y7 =>
        g_ubytes a0 fun r8 =>
        tells_l1 g_big g_less g_pow_ g_ubytes g_ucmp g_ulen g_ulittle g_awake n 1 y7 a0 a1 r8 (
          k false) (
          g_ucmp a0 a1 fun r11 =>
          bif (r11 == 1) then
            g_ulen a0 fun r12 =>
            bif (r12 == y7) then
              g_ulittle r8 fun r13 =>
              bif (deq kA4u64 r13 a0) then
                g_awake fun r14 =>
                k r14
              else
                k false
            else
              k false
          else
            k false) n 0) n 0
    else
      tells_l0 g_big g_less g_pow_ g_ubytes g_ucmp g_ulen g_ulittle g_awake n r1 (-1) a0 a1 (fun y15 =>
        g_ubytes a0 fun r16 =>
        tells_l1 g_big g_less g_pow_ g_ubytes g_ucmp g_ulen g_ulittle g_awake n (-1) y15 a0 a1 r16 (
          k false) (
          g_ucmp a0 a1 fun r17 =>
          bif (r17 == (-1)) then
            g_ulen a0 fun r18 =>
            bif (r18 == y15) then
              g_ulittle r16 fun r19 =>
              bif (deq kA4u64 r19 a0) then
                g_awake fun r20 =>
                k r20
              else
                k false
            else
              k false
          else
            k false) n 0) n 0
  else
    g_less r2 r1 fun r21 =>
    bif r21 then
      tells_l0 g_big g_less g_pow_ g_ubytes g_ucmp g_ulen g_ulittle g_awake n r1 1 a0 a1 (fun y22 =>
        g_ubytes a0 fun r23 =>
        tells_l1 g_big g_less g_pow_ g_ubytes g_ucmp g_ulen g_ulittle g_awake n 1 y22 a0 a1 r23 (
          k false) (
          g_ucmp a0 a1 fun r24 =>
          bif (r24 == 1) then
            g_ulen a0 fun r25 =>
            bif (r25 == y22) then
              g_ulittle r23 fun r26 =>
              bif (deq kA4u64 r26 a0) then
                g_awake fun r27 =>
                k r27
              else
                k false
            else
              k false
          else
            k false) n 0) n 0
    else
      tells_l0 g_big g_less g_pow_ g_ubytes g_ucmp g_ulen g_ulittle g_awake n r1 0 a0 a1 (fun y28 =>
        g_ubytes a0 fun r29 =>
        tells_l1 g_big g_less g_pow_ g_ubytes g_ucmp g_ulen g_ulittle g_awake n 0 y28 a0 a1 r29 (
          k false) (
          g_ucmp a0 a1 fun r30 =>
          bif (r30 == 0) then
            g_ulen a0 fun r31 =>
            bif (r31 == y28) then
              g_ulittle r29 fun r32 =>
              bif (deq kA4u64 r32 a0) then
                g_awake fun r33 =>
                k r33
              else
                k false
            else
              k false
          else
            k false) n 0) n 0

def tells_k (n : Nat) (a0 : (List Int)) (a1 : (List Int)) (k : Bool → Option A) : Option A := tells_p (big_k n) (less_k n) (pow__k n) (ubytes_k n) (ucmp_k n) (ulen_k n) (ulittle_k n) (awake_k n) n a0 a1 k

noncomputable def tells_c0 : Code := codeAt [1, 1, 1, 1, 1, 1, 0, 0, 0] (bodyOf Tryd.f10)
def tells_d0 : List Nat := [0, 1, 4, 6, 11, 12, 13, 14, 15, 16, 17, 18, 19, 20, 21, 22, 23, 24, 25, 26, 27, 28, 29, 30, 31]
def tells_y0 : List Nat := [0, 1, 4, 5, 6, 9, 10, 11, 12, 13, 14, 15, 16, 17, 18, 19, 20, 21, 22, 23, 24, 25, 26, 27, 28, 29, 30, 31, 32, 33, 34, 35, 36, 37, 38, 39, 40, 41, 42, 43, 44, 45, 46, 47, 48, 49, 50, 51, 52, 53, 54, 55, 56, 57, 58, 59, 60, 61, 62, 63, 64, 65, 66, 67, 68, 69, 70]
def tells_sh0 : Shape := ⟨[.any, .any, (.ptr 0), (.ptr 1), .any, (.p (.sl (.int .i64))), .any, (.p (.int .i64)), (.p (.int .i64)), .any, .any, .any, .any, .any, .any, .any, .any, .any, .any, .any, .any, .any, .any, .any, .any, .any, .any, .any, .any, .any, .any, .any, .any, .any, .any, .any, .any, .any, .any, .any, .any, .any, .any, .any, .any, .any, .any, .any, .any, .any, .any, .any, .any, .any, .any, .any, .any, .any, .any, .any, .any, .any, .any, .any, .any, .any, .any, .any, .any, .any, .any], [(.var 24 kA4u64 (.p kA4u64)), (.var 24 kA4u64 (.p kA4u64))], 0⟩
def tells_t0 (p : (List Int)) (want : Int) (a : (List Int)) (b : (List Int)) (n_ : Int) : tells_sh0.den := (((), (), (), (), (), p, (), want, n_, (), (), (), (), (), (), (), (), (), (), (), (), (), (), (), (), (), (), (), (), (), (), (), (), (), (), (), (), (), (), (), (), (), (), (), (), (), (), (), (), (), (), (), (), (), (), (), (), (), (), (), (), (), (), (), (), (), (), (), (), (), (), ()), (a, b, ()))
def tells_x0_0 (p : (List Int)) (want : Int) (a : (List Int)) (b : (List Int)) (z1 : Int) : St := ⟨[.any, .any, .ptr 0 [], .ptr 1 [], .any, .any, .any, .p (.int .i64) want, .p (.int .i64) z1, .any, .any, .any, .any, .any, .any, .any, .any, .any, .any, .any, .any, .any, .any, .any, .any, .any, .any, .any, .any, .any, .any, .any, .any, .any, .any, .any, .any, .any, .any, .any, .any, .any, .any, .any, .any, .any, .any, .any, .any, .any, .any, .any, .any, .any, .any, .any, .any, .any, .any, .any, .any, .any, .any, .any, .any, .any, .any, .any, .any, .any, .any], [.var 24 kA4u64 (.p kA4u64 a), .var 24 kA4u64 (.p kA4u64 b)], 0⟩
def tells_g0 (g_big : (List Int) → ((List Int) → Option A) → Option A) (g_less : (List Int) → (List Int) → (Bool → Option A) → Option A) (g_pow_ : Int → ((List Int) → Option A) → Option A) (g_ubytes : (List Int) → ((List Int) → Option A) → Option A) (g_ucmp : (List Int) → (List Int) → (Int → Option A) → Option A) (g_ulen : (List Int) → (Int → Option A) → Option A) (g_ulittle : (List Int) → ((List Int) → Option A) → Option A) (g_awake : (Bool → Option A) → Option A) (n : Nat) (d : tells_sh0.den) (k : Ex → St → Option A) : Option A :=
  tells_l0 g_big g_less g_pow_ g_ubytes g_ucmp g_ulen g_ulittle g_awake n d.1.2.2.2.2.2.1 d.1.2.2.2.2.2.2.2.1 d.2.1 d.2.2.1 (fun z1 => k (.exit 0) (tells_x0_0 d.1.2.2.2.2.2.1 d.1.2.2.2.2.2.2.2.1 d.2.1 d.2.2.1 z1)) n d.1.2.2.2.2.2.2.2.2.1
noncomputable def tells_c1 : Code := codeAt [1, 1, 1, 1, 1, 1, 1, 1, 0, 1, 0, 0] (bodyOf Tryd.f10)
def tells_d1 : List Nat := [4, 10, 32, 33, 35, 36, 37, 38, 39, 40, 41, 42, 43, 44, 45, 46, 47, 48, 49, 50]
def tells_y1 : List Nat := [0, 1, 5, 6, 10, 11, 12, 13, 14, 15, 16, 17, 18, 19, 20, 21, 22, 23, 24, 25, 26, 27, 28, 29, 30, 31, 32, 33, 34, 35, 36, 37, 38, 39, 40, 41, 42, 43, 44, 45, 46, 47, 48, 49, 50, 51, 52, 53, 54, 55, 56, 57, 58, 59, 60, 61, 62, 63, 64, 65, 66, 67, 68, 69, 70]
def tells_sh1 : Shape := ⟨[.any, .any, (.ptr 0), (.ptr 1), .any, .any, .any, (.p (.int .i64)), (.p (.int .i64)), (.ptr 2), .any, .any, .any, .any, .any, .any, .any, .any, .any, .any, .any, .any, .any, .any, .any, .any, .any, .any, .any, .any, .any, .any, .any, .any, (.p (.int .i64)), .any, .any, .any, .any, .any, .any, .any, .any, .any, .any, .any, .any, .any, .any, .any, .any, .any, .any, .any, .any, .any, .any, .any, .any, .any, .any, .any, .any, .any, .any, .any, .any, .any, .any, .any, .any], [(.var 24 kA4u64 (.p kA4u64)), (.var 24 kA4u64 (.p kA4u64)), (.var 51 kA32u8 (.p kA32u8))], 0⟩
def tells_t1 (want : Int) (n_ : Int) (a : (List Int)) (b : (List Int)) (h : (List Int)) (t34 : Int) : tells_sh1.den := (((), (), (), (), (), (), (), want, n_, (), (), (), (), (), (), (), (), (), (), (), (), (), (), (), (), (), (), (), (), (), (), (), (), (), t34, (), (), (), (), (), (), (), (), (), (), (), (), (), (), (), (), (), (), (), (), (), (), (), (), (), (), (), (), (), (), (), (), (), (), (), (), ()), (a, b, h, ()))
def tells_x1_0 (want : Int) (n_ : Int) (a : (List Int)) (b : (List Int)) (h : (List Int)) : St := ⟨[.any, .any, .ptr 0 [], .ptr 1 [], .p .bool false, .any, .any, .p (.int .i64) want, .p (.int .i64) n_, .ptr 2 [], .any, .any, .any, .any, .any, .any, .any, .any, .any, .any, .any, .any, .any, .any, .any, .any, .any, .any, .any, .any, .any, .any, .any, .any, .any, .any, .any, .any, .any, .any, .any, .any, .any, .any, .any, .any, .any, .any, .any, .any, .any, .any, .any, .any, .any, .any, .any, .any, .any, .any, .any, .any, .any, .any, .any, .any, .any, .any, .any, .any, .any], [.var 24 kA4u64 (.p kA4u64 a), .var 24 kA4u64 (.p kA4u64 b), .var 51 kA32u8 (.p kA32u8 h)], 0⟩
def tells_x1_1 (want : Int) (n_ : Int) (a : (List Int)) (b : (List Int)) (h : (List Int)) : St := ⟨[.any, .any, .ptr 0 [], .ptr 1 [], .any, .any, .any, .p (.int .i64) want, .p (.int .i64) n_, .ptr 2 [], .any, .any, .any, .any, .any, .any, .any, .any, .any, .any, .any, .any, .any, .any, .any, .any, .any, .any, .any, .any, .any, .any, .any, .any, .any, .any, .any, .any, .any, .any, .any, .any, .any, .any, .any, .any, .any, .any, .any, .any, .any, .any, .any, .any, .any, .any, .any, .any, .any, .any, .any, .any, .any, .any, .any, .any, .any, .any, .any, .any, .any], [.var 24 kA4u64 (.p kA4u64 a), .var 24 kA4u64 (.p kA4u64 b), .var 51 kA32u8 (.p kA32u8 h)], 0⟩
def tells_g1 (g_big : (List Int) → ((List Int) → Option A) → Option A) (g_less : (List Int) → (List Int) → (Bool → Option A) → Option A) (g_pow_ : Int → ((List Int) → Option A) → Option A) (g_ubytes : (List Int) → ((List Int) → Option A) → Option A) (g_ucmp : (List Int) → (List Int) → (Int → Option A) → Option A) (g_ulen : (List Int) → (Int → Option A) → Option A) (g_ulittle : (List Int) → ((List Int) → Option A) → Option A) (g_awake : (Bool → Option A) → Option A) (n : Nat) (d : tells_sh1.den) (k : Ex → St → Option A) : Option A :=
  tells_l1 g_big g_less g_pow_ g_ubytes g_ucmp g_ulen g_ulittle g_awake n d.1.2.2.2.2.2.2.2.1 d.1.2.2.2.2.2.2.2.2.1 d.2.1 d.2.2.1 d.2.2.2.1 (k .ret (tells_x1_0 d.1.2.2.2.2.2.2.2.1 d.1.2.2.2.2.2.2.2.2.1 d.2.1 d.2.2.1 d.2.2.2.1)) (k (.exit 2) (tells_x1_1 d.1.2.2.2.2.2.2.2.1 d.1.2.2.2.2.2.2.2.2.1 d.2.1 d.2.2.1 d.2.2.2.1)) n d.1.2.2.2.2.2.2.2.2.2.2.2.2.2.2.2.2.2.2.2.2.2.2.2.2.2.2.2.2.2.2.2.2.2.2.1
noncomputable def tells_E (g_big : (List Int) → ((List Int) → Option A) → Option A) (g_less : (List Int) → (List Int) → (Bool → Option A) → Option A) (g_pow_ : Int → ((List Int) → Option A) → Option A) (g_ubytes : (List Int) → ((List Int) → Option A) → Option A) (g_ucmp : (List Int) → (List Int) → (Int → Option A) → Option A) (g_ulen : (List Int) → (Int → Option A) → Option A) (g_ulittle : (List Int) → ((List Int) → Option A) → Option A) (g_awake : (Bool → Option A) → Option A) (n : Nat) : Env A := ⟨tys, gls, [(15, big_ent g_big), (25, less_ent g_less), (19, pow__ent g_pow_), (32, ubytes_ent g_ubytes), (36, ucmp_ent g_ucmp), (37, ulen_ent g_ulen), (31, ulittle_ent g_ulittle), (13, awake_ent g_awake)], [(0, loopE tells_d0 tells_sh0 (tells_g0 g_big g_less g_pow_ g_ubytes g_ucmp g_ulen g_ulittle g_awake n)), (1, loopE tells_d1 tells_sh1 (tells_g1 g_big g_less g_pow_ g_ubytes g_ucmp g_ulen g_ulittle g_awake n))], []⟩
theorem tells_T (g_big : (List Int) → ((List Int) → Option A) → Option A) (g_less : (List Int) → (List Int) → (Bool → Option A) → Option A) (g_pow_ : Int → ((List Int) → Option A) → Option A) (g_ubytes : (List Int) → ((List Int) → Option A) → Option A) (g_ucmp : (List Int) → (List Int) → (Int → Option A) → Option A) (g_ulen : (List Int) → (Int → Option A) → Option A) (g_ulittle : (List Int) → ((List Int) → Option A) → Option A) (g_awake : (Bool → Option A) → Option A) (n : Nat) : TyOK Tryd.prog (tells_E g_big g_less g_pow_ g_ubytes g_ucmp g_ulen g_ulittle g_awake n) := tyOK_of rfl tysB
theorem tells_fns (n : Nat) : FnsOK Tryd.prog (tells_E (A := A) (big_k n) (less_k n) (pow__k n) (ubytes_k n) (ucmp_k n) (ulen_k n) (ulittle_k n) (awake_k n) n) := AllOK.env rfl rfl (AllOK.cons (big_ok n) (AllOK.cons (less_ok n) (AllOK.cons (pow__ok n) (AllOK.cons (ubytes_ok n) (AllOK.cons (ucmp_ok n) (AllOK.cons (ulen_ok n) (AllOK.cons (ulittle_ok n) (AllOK.cons (awake_ok n) AllOK.nil))))))))
noncomputable def tells_LK1 (g_big : (List Int) → ((List Int) → Option A) → Option A) (g_less : (List Int) → (List Int) → (Bool → Option A) → Option A) (g_pow_ : Int → ((List Int) → Option A) → Option A) (g_ubytes : (List Int) → ((List Int) → Option A) → Option A) (g_ucmp : (List Int) → (List Int) → (Int → Option A) → Option A) (g_ulen : (List Int) → (Int → Option A) → Option A) (g_ulittle : (List Int) → ((List Int) → Option A) → Option A) (g_awake : (Bool → Option A) → Option A) (n : Nat) (want : Int) (n_ : Int) (a : (List Int)) (b : (List Int)) (h : (List Int)) (k : Ex → St → Option A) (f : Nat) (t34 : Int) : Option A := loopK (codeK (tells_E g_big g_less g_pow_ g_ubytes g_ucmp g_ulen g_ulittle g_awake n) 2 tells_c1) tells_d1 tells_y1 f (tells_sh1.fill (tells_t1 want n_ a b h t34)) k
theorem tells_st1 (g_big : (List Int) → ((List Int) → Option A) → Option A) (g_less : (List Int) → (List Int) → (Bool → Option A) → Option A) (g_pow_ : Int → ((List Int) → Option A) → Option A) (g_ubytes : (List Int) → ((List Int) → Option A) → Option A) (g_ucmp : (List Int) → (List Int) → (Int → Option A) → Option A) (g_ulen : (List Int) → (Int → Option A) → Option A) (g_ulittle : (List Int) → ((List Int) → Option A) → Option A) (g_awake : (Bool → Option A) → Option A) (n f : Nat) (want : Int) (n_ : Int) (a : (List Int)) (b : (List Int)) (h : (List Int)) (k : Ex → St → Option A) (t34 : Int) : tells_LK1 g_big g_less g_pow_ g_ubytes g_ucmp g_ulen g_ulittle g_awake n want n_ a b h k (f + 1) t34 = tells_b1 g_big g_less g_pow_ g_ubytes g_ucmp g_ulen g_ulittle g_awake n want n_ a b h (k .ret (tells_x1_0 want n_ a b h)) (k (.exit 2) (tells_x1_1 want n_ a b h)) (tells_LK1 g_big g_less g_pow_ g_ubytes g_ucmp g_ulen g_ulittle g_awake n want n_ a b h k f) t34 := by kernel_rfl
theorem tells_le1 (g_big : (List Int) → ((List Int) → Option A) → Option A) (g_less : (List Int) → (List Int) → (Bool → Option A) → Option A) (g_pow_ : Int → ((List Int) → Option A) → Option A) (g_ubytes : (List Int) → ((List Int) → Option A) → Option A) (g_ucmp : (List Int) → (List Int) → (Int → Option A) → Option A) (g_ulen : (List Int) → (Int → Option A) → Option A) (g_ulittle : (List Int) → ((List Int) → Option A) → Option A) (g_awake : (Bool → Option A) → Option A) (n : Nat) (want : Int) (n_ : Int) (a : (List Int)) (b : (List Int)) (h : (List Int)) (k : Ex → St → Option A) : ∀ (f : Nat) (t34 : Int), tells_LK1 g_big g_less g_pow_ g_ubytes g_ucmp g_ulen g_ulittle g_awake n want n_ a b h k f t34 = tells_l1 g_big g_less g_pow_ g_ubytes g_ucmp g_ulen g_ulittle g_awake n want n_ a b h (k .ret (tells_x1_0 want n_ a b h)) (k (.exit 2) (tells_x1_1 want n_ a b h)) f t34 := by
  intro f
  induction f with
  | zero => intros; kernel_rfl
  | succ f ih => intro t34; exact (tells_st1 g_big g_less g_pow_ g_ubytes g_ucmp g_ulen g_ulittle g_awake n f want n_ a b h k t34).trans ((congrArg (fun r => tells_b1 g_big g_less g_pow_ g_ubytes g_ucmp g_ulen g_ulittle g_awake n want n_ a b h (k .ret (tells_x1_0 want n_ a b h)) (k (.exit 2) (tells_x1_1 want n_ a b h)) r t34) (funext fun t34 => ih t34)).trans (by kernel_rfl))
theorem tells_lo1 (n : Nat) : LoopOK Tryd.prog gls tells_c1 (loopE tells_d1 tells_sh1 (tells_g1 (A := A) (big_k n) (less_k n) (pow__k n) (ubytes_k n) (ucmp_k n) (ulen_k n) (ulittle_k n) (awake_k n) n)) :=
  LoopOK.of (tells_T (big_k n) (less_k n) (pow__k n) (ubytes_k n) (ucmp_k n) (ulen_k n) (ulittle_k n) (awake_k n) n) (tells_fns n) follows (j := 2) (n := n) (xdead := tells_y1) (lo_of (by kernel_rfl : loopsOf 2 tells_c1 = []) lo_nil) fun d k => Eq.trans (by kernel_rfl) (tells_le1 (big_k n) (less_k n) (pow__k n) (ubytes_k n) (ucmp_k n) (ulen_k n) (ulittle_k n) (awake_k n) n d.1.2.2.2.2.2.2.2.1 d.1.2.2.2.2.2.2.2.2.1 d.2.1 d.2.2.1 d.2.2.2.1 k n d.1.2.2.2.2.2.2.2.2.2.2.2.2.2.2.2.2.2.2.2.2.2.2.2.2.2.2.2.2.2.2.2.2.2.2.1)
noncomputable def tells_LK0 (g_big : (List Int) → ((List Int) → Option A) → Option A) (g_less : (List Int) → (List Int) → (Bool → Option A) → Option A) (g_pow_ : Int → ((List Int) → Option A) → Option A) (g_ubytes : (List Int) → ((List Int) → Option A) → Option A) (g_ucmp : (List Int) → (List Int) → (Int → Option A) → Option A) (g_ulen : (List Int) → (Int → Option A) → Option A) (g_ulittle : (List Int) → ((List Int) → Option A) → Option A) (g_awake : (Bool → Option A) → Option A) (n : Nat) (p : (List Int)) (want : Int) (a : (List Int)) (b : (List Int)) (k : Ex → St → Option A) (f : Nat) (n_ : Int) : Option A := loopK (codeK (tells_E g_big g_less g_pow_ g_ubytes g_ucmp g_ulen g_ulittle g_awake n) 1 tells_c0) tells_d0 tells_y0 f (tells_sh0.fill (tells_t0 p want a b n_)) k
theorem tells_st0 (g_big : (List Int) → ((List Int) → Option A) → Option A) (g_less : (List Int) → (List Int) → (Bool → Option A) → Option A) (g_pow_ : Int → ((List Int) → Option A) → Option A) (g_ubytes : (List Int) → ((List Int) → Option A) → Option A) (g_ucmp : (List Int) → (List Int) → (Int → Option A) → Option A) (g_ulen : (List Int) → (Int → Option A) → Option A) (g_ulittle : (List Int) → ((List Int) → Option A) → Option A) (g_awake : (Bool → Option A) → Option A) (n f : Nat) (p : (List Int)) (want : Int) (a : (List Int)) (b : (List Int)) (k : Ex → St → Option A) (n_ : Int) : tells_LK0 g_big g_less g_pow_ g_ubytes g_ucmp g_ulen g_ulittle g_awake n p want a b k (f + 1) n_ = tells_b0 g_big g_less g_pow_ g_ubytes g_ucmp g_ulen g_ulittle g_awake n p want a b (fun z1 => k (.exit 0) (tells_x0_0 p want a b z1)) (tells_LK0 g_big g_less g_pow_ g_ubytes g_ucmp g_ulen g_ulittle g_awake n p want a b k f) n_ := by kernel_rfl
theorem tells_le0 (g_big : (List Int) → ((List Int) → Option A) → Option A) (g_less : (List Int) → (List Int) → (Bool → Option A) → Option A) (g_pow_ : Int → ((List Int) → Option A) → Option A) (g_ubytes : (List Int) → ((List Int) → Option A) → Option A) (g_ucmp : (List Int) → (List Int) → (Int → Option A) → Option A) (g_ulen : (List Int) → (Int → Option A) → Option A) (g_ulittle : (List Int) → ((List Int) → Option A) → Option A) (g_awake : (Bool → Option A) → Option A) (n : Nat) (p : (List Int)) (want : Int) (a : (List Int)) (b : (List Int)) (k : Ex → St → Option A) : ∀ (f : Nat) (n_ : Int), tells_LK0 g_big g_less g_pow_ g_ubytes g_ucmp g_ulen g_ulittle g_awake n p want a b k f n_ = tells_l0 g_big g_less g_pow_ g_ubytes g_ucmp g_ulen g_ulittle g_awake n p want a b (fun z1 => k (.exit 0) (tells_x0_0 p want a b z1)) f n_ := by
  intro f
  induction f with
  | zero => intros; kernel_rfl
  | succ f ih => intro n_; exact (tells_st0 g_big g_less g_pow_ g_ubytes g_ucmp g_ulen g_ulittle g_awake n f p want a b k n_).trans ((congrArg (fun r => tells_b0 g_big g_less g_pow_ g_ubytes g_ucmp g_ulen g_ulittle g_awake n p want a b (fun z1 => k (.exit 0) (tells_x0_0 p want a b z1)) r n_) (funext fun n_ => ih n_)).trans (by kernel_rfl))
theorem tells_lo0 (n : Nat) : LoopOK Tryd.prog gls tells_c0 (loopE tells_d0 tells_sh0 (tells_g0 (A := A) (big_k n) (less_k n) (pow__k n) (ubytes_k n) (ucmp_k n) (ulen_k n) (ulittle_k n) (awake_k n) n)) :=
  LoopOK.of (tells_T (big_k n) (less_k n) (pow__k n) (ubytes_k n) (ucmp_k n) (ulen_k n) (ulittle_k n) (awake_k n) n) (tells_fns n) follows (j := 1) (n := n) (xdead := tells_y0) (lo_of (by kernel_rfl : loopsOf 1 tells_c0 = []) lo_nil) fun d k => Eq.trans (by kernel_rfl) (tells_le0 (big_k n) (less_k n) (pow__k n) (ubytes_k n) (ucmp_k n) (ulen_k n) (ulittle_k n) (awake_k n) n d.1.2.2.2.2.2.1 d.1.2.2.2.2.2.2.2.1 d.2.1 d.2.2.1 k n d.1.2.2.2.2.2.2.2.2.1)
theorem tells_eqg (g_big : (List Int) → ((List Int) → Option A) → Option A) (g_less : (List Int) → (List Int) → (Bool → Option A) → Option A) (g_pow_ : Int → ((List Int) → Option A) → Option A) (g_ubytes : (List Int) → ((List Int) → Option A) → Option A) (g_ucmp : (List Int) → (List Int) → (Int → Option A) → Option A) (g_ulen : (List Int) → (Int → Option A) → Option A) (g_ulittle : (List Int) → ((List Int) → Option A) → Option A) (g_awake : (Bool → Option A) → Option A) (n : Nat) (a0 : (List Int)) (a1 : (List Int)) (k : AV → List Blk → Option A) : fnK (tells_E g_big g_less g_pow_ g_ubytes g_ucmp g_ulen g_ulittle g_awake n) Tryd.f10 [.pure] [.p kA4u64 a0, .p kA4u64 a1] [] k = tells_p g_big g_less g_pow_ g_ubytes g_ucmp g_ulen g_ulittle g_awake n a0 a1 (fun r0 => k (.p .bool r0) []) := by kernel_rfl
theorem tells_eq (n : Nat) (a0 : (List Int)) (a1 : (List Int)) (k : AV → List Blk → Option A) : fnK (tells_E (big_k n) (less_k n) (pow__k n) (ubytes_k n) (ucmp_k n) (ulen_k n) (ulittle_k n) (awake_k n) n) Tryd.f10 [.pure] [.p kA4u64 a0, .p kA4u64 a1] [] k = tells_k n a0 a1 (fun r0 => k (.p .bool r0) []) := tells_eqg (big_k n) (less_k n) (pow__k n) (ubytes_k n) (ucmp_k n) (ulen_k n) (ulittle_k n) (awake_k n) n a0 a1 k
def tells_ent (g : (List Int) → (List Int) → (Bool → Option A) → Option A) : Entry A := pureE fun args k => args2 args kA4u64 kA4u64 fun a0 a1 => g a0 a1 (fun r0 => k (.p .bool r0) [])
theorem tells_lo (n : Nat) : ∀ c, Tryd.f10.body = some c → ∀ q ∈ loopsOf 0 c, ∀ L, (tells_E (A := A) (big_k n) (less_k n) (pow__k n) (ubytes_k n) (ucmp_k n) (ulen_k n) (ulittle_k n) (awake_k n) n).lps.lookup q.1 = some L → LoopOK Tryd.prog gls q.2 L :=
  lo_body (E := tells_E (big_k n) (less_k n) (pow__k n) (ubytes_k n) (ucmp_k n) (ulen_k n) (ulittle_k n) (awake_k n) n) (by kernel_rfl : Tryd.f10.body = some (bodyOf Tryd.f10)) (lo_of (E := tells_E (big_k n) (less_k n) (pow__k n) (ubytes_k n) (ucmp_k n) (ulen_k n) (ulittle_k n) (awake_k n) n) (by kernel_rfl : loopsOf 0 (bodyOf Tryd.f10) = [(0, tells_c0), (1, tells_c1)]) (lo_cons rfl (tells_lo0 n) (lo_cons rfl (tells_lo1 n) lo_nil)))
theorem tells_ok (n : Nat) : FnOK Tryd.prog gls 10 (tells_ent (A := A) (tells_k n)) :=
  FnOK.of (tells_T (big_k n) (less_k n) (pow__k n) (ubytes_k n) (ucmp_k n) (ulen_k n) (ulittle_k n) (awake_k n) n) (tells_fns n) follows ⟨Tryd.func10, by kernel_rfl⟩ (tells_lo n) (rm := [.pure]) fun args k out h => by
    obtain ⟨a0, a1, e, h1⟩ := args2_sound h
    subst e; rw [tells_eq]; exact h1

end Go.Ev
end

section
/-
  THE LAW OF WideTells.
-/
set_option linter.all false
namespace Go.Ev
variable {A : Type}

theorem lb_By : ∀ (m x : Nat), By (lb m x)
  | 0, _ => fun y hy => by cases hy
  | m + 1, x => fun y hy => by
    rw [lb] at hy
    rcases List.mem_cons.1 hy with rfl | hy
    · exact Nat.mod_lt _ (by decide)
    · exact lb_By m _ y hy
theorem byv_lb : ∀ (m x : Nat), byv (lb m x) = x % 2 ^ (8 * m)
  | 0, x => by rw [lb, byv, Nat.mul_zero, Nat.pow_zero, Nat.mod_one]
  | m + 1, x => by
    rw [lb, byv, byv_lb m, show 8 * (m + 1) = 8 + 8 * m from by omega, Nat.pow_add, Nat.mod_mul, show (2 : Nat) ^ 8 = 256 from rfl]
theorem lb_drop : ∀ (a m x : Nat), (lb (a + m) x).drop a = lb m (x / 2 ^ (8 * a))
  | 0, m, x => by rw [Nat.zero_add, List.drop_zero, Nat.mul_zero, Nat.pow_zero, Nat.div_one]
  | a + 1, m, x => by
    rw [show a + 1 + m = (a + m) + 1 from by omega, lb, List.drop_succ_cons, lb_drop a m, Nat.div_div_eq_div_mul, show 8 * (a + 1) = 8 + 8 * a from by omega, Nat.pow_add, show (2 : Nat) ^ 8 = 256 from rfl]
theorem lb_take : ∀ (a m x : Nat), (lb (a + m) x).take a = lb a x
  | 0, m, x => by rw [List.take_zero, lb]
  | a + 1, m, x => by rw [show a + 1 + m = (a + m) + 1 from by omega, lb, List.take_succ_cons, lb_take a m, lb]

theorem bw_lb (x t : Nat) (ht : t < 4) : byv (bw (lb 32 x) t) = wd x t := by
  unfold bw wd
  rw [show 32 = 8 * t + (8 + (24 - 8 * t)) from by omega, lb_drop, lb_take, byv_lb, ← Nat.mul_assoc]
theorem ws_lb (x : Nat) : ws (lb 32 x) = uw x := by
  rw [uw_wd]; unfold ws
  rw [bw_lb x 0 (by decide), bw_lb x 1 (by decide), bw_lb x 2 (by decide), bw_lb x 3 (by decide)]

theorem byte_of (x t : Nat) (ht : t < 32) : wd x (t / 8) / 2 ^ (8 * (t % 8)) % 256 = x / 2 ^ (8 * t) % 256 := by
  apply Nat.eq_of_testBit_eq
  intro j
  rw [show (256 : Nat) = 2 ^ 8 from rfl, Nat.testBit_mod_two_pow, Nat.testBit_mod_two_pow, tb_div, tb_div, wd_testBit]
  by_cases h : j < 8
  · have h1 : 8 * (t % 8) + j < 64 := by omega
    have h2 : 64 * (t / 8) + (8 * (t % 8) + j) = 8 * t + j := by omega
    simp [h, h1, h2]
  · simp [h]

theorem tells_l0_law (G1 : List Int → (List Int → Option A) → Option A) (G5 : List Int → List Int → (Int → Option A) → Option A) (G6 : List Int → (Int → Option A) → Option A) (G4 G7 : List Int → (List Int → Option A) → Option A) (G8 : (Bool → Option A) → Option A) (n : Nat) (hn : 100 < n) (x : Nat) (hx : x < 2 ^ 256) (w : Int) (a b : List Int) (k0 : Int → Option A) : ∀ (d f i : Nat), i + d = bl x → d < f →
    tells_l0 G1 (less_k n) (pow__k n) G4 G5 G6 G7 G8 n (ints (dig x)) w a b k0 f (i : Int) = k0 ((bl x : Nat) : Int) := by
  have hb : bl x ≤ 256 := (bl_le x 256).2 hx
  have hl := dig_len256 x hx
  intro d
  induction d with
  | zero =>
    intro f i hi hf
    obtain ⟨f, rfl⟩ : ∃ g, f = g + 1 := ⟨f - 1, by omega⟩
    have : i = bl x := by omega
    subst this
    rw [tells_l0, tells_b0]
    by_cases h : bl x < 256
    · rw [decide_eq_true (by omega), cond_true, pow_law n _ (by omega) (by omega), less_law n _ _ (by omega) (by omega), decide_eq_true (lt_bl x), Bool.not_true, cond_false]
    · rw [decide_eq_false (by omega), cond_false]
  | succ d ih =>
    intro f i hi hf
    obtain ⟨f, rfl⟩ : ∃ g, f = g + 1 := ⟨f - 1, by omega⟩
    have e2 : IntKind.wrap .i64 ((i : Int) + 1) = ((i + 1 : Nat) : Int) := by rw [wrap_id (by omega) (by omega)]; omega
    have h := le_of_bl (x := x) (k := i) (by omega)
    rw [tells_l0, tells_b0, decide_eq_true (by omega), cond_true, pow_law n _ (by omega) (by omega), less_law n _ _ (by omega) (by omega), decide_eq_false (by omega), Bool.not_false, cond_true, e2]
    exact ih f (i + 1) (by omega) (by omega)

theorem tells_l1_law (G1 : List Int → (List Int → Option A) → Option A) (G2 : List Int → List Int → (Bool → Option A) → Option A) (G3 : Int → (List Int → Option A) → Option A) (G5 : List Int → List Int → (Int → Option A) → Option A) (G6 : List Int → (Int → Option A) → Option A) (G4 G7 : List Int → (List Int → Option A) → Option A) (G8 : (Bool → Option A) → Option A) (n : Nat) (x : Nat) (w v : Int) (b : List Int) (k0 k1 : Option A) : ∀ (d f t : Nat), t + d = 32 → d < f →
    tells_l1 G1 G2 G3 G4 G5 G6 G7 G8 n w v (ints (uw x)) b (ints (lb 32 x)) k0 k1 f (t : Int) = k1 := by
  intro d
  induction d with
  | zero =>
    intro f t ht hf
    obtain ⟨f, rfl⟩ : ∃ g, f = g + 1 := ⟨f - 1, by omega⟩
    rw [tells_l1, tells_b1, decide_eq_false (by omega), cond_false]
  | succ d ih =>
    intro f t ht hf
    obtain ⟨f, rfl⟩ : ∃ g, f = g + 1 := ⟨f - 1, by omega⟩
    have e2 : IntKind.wrap .i64 ((t : Int) + 1) = ((t + 1 : Nat) : Int) := by rw [wrap_id (by omega) (by omega)]; omega
    have e3 : IntKind.wrap .i64 (Int.tdiv (t : Int) 8) = ((t / 8 : Nat) : Int) := by
      rw [show (8 : Int) = ((8 : Nat) : Int) from rfl, tdiv_nat]; exact wrap_id (by omega) (by omega)
    have e4 : IntKind.wrap .i64 (8 * Int.tmod (t : Int) 8) = ((8 * (t % 8) : Nat) : Int) := by
      rw [show Int.tmod (t : Int) 8 = ((t % 8 : Nat) : Int) from rfl, wrap_id (by omega) (by omega)]; omega
    have e5 : (ints (lb 32 x))[t]? = some ((x / 2 ^ (8 * t) % 256 : Nat) : Int) := by rw [ints_get, lb_at 32 x t (by omega)]; rfl
    have e6 : IntKind.wrap .u8 (shr .u64 ((wd x (t / 8) : Nat) : Int) ((8 * (t % 8) : Nat) : Int)) = ((x / 2 ^ (8 * t) % 256 : Nat) : Int) := by
      rw [shr_u64 _ _ (by omega), ← byte_of x t (by omega), wrap_u8]; omega
    rw [tells_l1, tells_b1, decide_eq_true (by omega), cond_true, if_pos (by omega), if_pos (by omega), Int.toNat_natCast, e5, Option.bind_some, e3, if_pos (by omega), if_pos (by omega), Int.toNat_natCast, iuw_at _ _ (by omega), Option.bind_some, e4, if_neg (by omega), e6, show (((x / 2 ^ (8 * t) % 256 : Nat) : Int) != ((x / 2 ^ (8 * t) % 256 : Nat) : Int)) = false from by simp, cond_false, e2]
    exact ih f (t + 1) (by omega) (by omega)

theorem tells_law (a0 a1 : List Int) (f0 : WF kA4u64 a0) (f1 : WF kA4u64 a1) : ∃ n, tells_k n a0 a1 (fun r => some r) = some true := by
  refine ⟨1000, ?_⟩
  have haw : ∀ k : Bool → Option Bool, awake_k 1000 k = k true := awake_1000
  obtain ⟨n, hn⟩ : ∃ n, n = 1000 := ⟨1000, rfl⟩
  rw [← hn] at haw ⊢
  obtain ⟨x, rfl, hx⟩ := wf_four f0
  obtain ⟨y, rfl, hy⟩ := wf_four f1
  have hb : bl x ≤ 256 := (bl_le x 256).2 hx
  have l1 := dig_len256 x hx
  have l2 := dig_len256 y hy
  have tail : ∀ w : Int, ucmpN x y = w → tells_l0 (big_k n) (less_k n) (pow__k n) (ubytes_k n) (ucmp_k n) (ulen_k n) (ulittle_k n) (awake_k n) n (ints (dig x)) w (ints (uw x)) (ints (uw y)) (fun y7 =>
        ubytes_k n (ints (uw x)) fun r8 =>
        tells_l1 (big_k n) (less_k n) (pow__k n) (ubytes_k n) (ucmp_k n) (ulen_k n) (ulittle_k n) (awake_k n) n w y7 (ints (uw x)) (ints (uw y)) r8 (
          some false) (
          ucmp_k n (ints (uw x)) (ints (uw y)) fun r11 =>
          bif (r11 == w) then
            ulen_k n (ints (uw x)) fun r12 =>
            bif (r12 == y7) then
              ulittle_k n r8 fun r13 =>
              bif (deq kA4u64 r13 (ints (uw x))) then
                awake_k n fun r14 =>
                some r14
              else
                some false
            else
              some false
          else
            some false) n 0) n 0 = some true := fun w hw => by
    refine Eq.trans (tells_l0_law _ _ _ _ _ _ n (by omega) x hx w _ _ _ (bl x) n 0 (by omega) (by omega)) ?_
    have hub := ubytes_law (A := Bool) n (by omega) (lb 32 x) (lb_By 32 x) (lb_length 32 x)
    rw [ws_lb] at hub
    rw [hub]
    refine Eq.trans (tells_l1_law _ _ _ _ _ _ _ _ n x w _ _ _ _ 32 n 0 (by omega) (by omega)) ?_
    rw [ucmp_law n (by omega) x y hx hy, hw, show (w == w) = true from by simp, cond_true, ulen_law n (by omega) x hx, show (((bl x : Nat) : Int) == ((bl x : Nat) : Int)) = true from by simp, cond_true, ulittle_law n (by omega) _ (lb_By 32 x) (lb_length 32 x), ws_lb, deq_self, cond_true, haw]
  unfold tells_k tells_p
  rw [big_law n (by omega) x hx, big_law n (by omega) y hy, less_law n x y (by omega) (by omega)]
  rcases Nat.lt_trichotomy x y with h | h | h
  · rw [decide_eq_true h, cond_true, less_law n y x (by omega) (by omega), decide_eq_false (by omega), cond_false]
    exact tail (-1) (by unfold ucmpN; rw [if_pos h])
  · rw [decide_eq_false (by omega), cond_false, less_law n y x (by omega) (by omega), decide_eq_false (by omega), cond_false]
    exact tail 0 (by unfold ucmpN; rw [if_neg (by omega), if_neg (by omega)])
  · rw [decide_eq_false (by omega), cond_false, less_law n y x (by omega) (by omega), decide_eq_true h, cond_true]
    exact tail 1 (by unfold ucmpN; rw [if_neg (by omega), if_pos h])

end Go.Ev
end

