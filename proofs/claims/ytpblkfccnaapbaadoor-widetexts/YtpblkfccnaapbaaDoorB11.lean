import Derived.Test.YtpblkfccnaapbaaDoorB10
import Derived.Test.YtpblkfccnaapbaaDoorB5
set_option linter.all false
section
/-
  FUNCTION 38: printed by a program of our own (wip/gen/st.py). 'math/bits.Div64', in continuation form; the evaluator gives it.
-/
set_option linter.all false
set_option maxRecDepth 100000
namespace Go.Ev
open Go.Proofs
variable {A : Type}

-- ============================================================ div64 (function 38)
def div64_b1 (g_lz64 : Int → (Int → Option A) → Option A) (n : Nat) (y : Int) (s : Int) (yn1 : Int) (yn0 : Int) (un0 : Int) (q1 : Int) (un21 : Int) (k0 : Int → Option A) (r : Int → Int → Option A) (rhat : Int) (q0 : Int) : Option A :=
  bif (decide (q0 ≥ 4294967296)) then
    bif (decide ((IntKind.wrap .u64 (rhat + yn1)) ≥ 4294967296)) then
      k0 (IntKind.wrap .u64 (q0 - 1))
    else
      r (IntKind.wrap .u64 (rhat + yn1)) (IntKind.wrap .u64 (q0 - 1))
  else
    bif (decide ((IntKind.wrap .u64 (q0 * yn0)) > (IntKind.wrap .u64 ((IntKind.wrap .u64 (4294967296 * rhat)) + un0)))) then
      bif (decide ((IntKind.wrap .u64 (rhat + yn1)) ≥ 4294967296)) then
        k0 (IntKind.wrap .u64 (q0 - 1))
      else
        r (IntKind.wrap .u64 (rhat + yn1)) (IntKind.wrap .u64 (q0 - 1))
    else
      k0 q0

def div64_l1 (g_lz64 : Int → (Int → Option A) → Option A) (n : Nat) (y : Int) (s : Int) (yn1 : Int) (yn0 : Int) (un0 : Int) (q1 : Int) (un21 : Int) (k0 : Int → Option A) : Nat → Int → Int → Option A
  | 0 => fun _ _ => none
  | f + 1 => div64_b1 g_lz64 n y s yn1 yn0 un0 q1 un21 k0 (div64_l1 g_lz64 n y s yn1 yn0 un0 q1 un21 k0 f)

def div64_b0 (g_lz64 : Int → (Int → Option A) → Option A) (n : Nat) (y : Int) (s : Int) (yn1 : Int) (yn0 : Int) (un32 : Int) (un1 : Int) (un0 : Int) (k0 : Int → Option A) (r : Int → Int → Option A) (q1 : Int) (rhat : Int) : Option A :=
  bif (decide (q1 ≥ 4294967296)) then
    bif (decide ((IntKind.wrap .u64 (rhat + yn1)) ≥ 4294967296)) then
      k0 (IntKind.wrap .u64 (q1 - 1))
    else
      r (IntKind.wrap .u64 (q1 - 1)) (IntKind.wrap .u64 (rhat + yn1))
  else
    bif (decide ((IntKind.wrap .u64 (q1 * yn0)) > (IntKind.wrap .u64 ((IntKind.wrap .u64 (4294967296 * rhat)) + un1)))) then
      bif (decide ((IntKind.wrap .u64 (rhat + yn1)) ≥ 4294967296)) then
        k0 (IntKind.wrap .u64 (q1 - 1))
      else
        r (IntKind.wrap .u64 (q1 - 1)) (IntKind.wrap .u64 (rhat + yn1))
    else
      k0 q1

def div64_l0 (g_lz64 : Int → (Int → Option A) → Option A) (n : Nat) (y : Int) (s : Int) (yn1 : Int) (yn0 : Int) (un32 : Int) (un1 : Int) (un0 : Int) (k0 : Int → Option A) : Nat → Int → Int → Option A
  | 0 => fun _ _ => none
  | f + 1 => div64_b0 g_lz64 n y s yn1 yn0 un32 un1 un0 k0 (div64_l0 g_lz64 n y s yn1 yn0 un32 un1 un0 k0 f)

def div64_p (g_lz64 : Int → (Int → Option A) → Option A) (n : Nat) (a0 : Int) (a1 : Int) (a2 : Int) (k : Int → Int → Option A) : Option A :=
  bif (a2 == 0) then
    none
  else
    bif (decide (a2 ≤ a0)) then
      none
    else
      bif (a0 == 0) then
        if a2 = 0 then none else
        if a2 = 0 then none else
        k (IntKind.wrap .u64 (Int.tdiv a1 a2)) (Int.tmod a1 a2)
      else
        g_lz64 a2 fun r1 =>
        if (IntKind.wrap .u64 r1) < 0 then none else
        if (IntKind.wrap .u64 r1) < 0 then none else
        if (IntKind.wrap .u64 (64 - (IntKind.wrap .u64 r1))) < 0 then none else
        if (IntKind.wrap .u64 r1) < 0 then none else
        if (shr .u64 (shl .u64 a2 (IntKind.wrap .u64 r1)) 32) = 0 then none else
        div64_l0 g_lz64 n (shl .u64 a2 (IntKind.wrap .u64 r1)) (IntKind.wrap .u64 r1) (shr .u64 (shl .u64 a2 (IntKind.wrap .u64 r1)) 32) (iand .u64 (shl .u64 a2 (IntKind.wrap .u64 r1)) 4294967295) (ior .u64 (shl .u64 a0 (IntKind.wrap .u64 r1)) (shr .u64 a1 (IntKind.wrap .u64 (64 - (IntKind.wrap .u64 r1))))) (shr .u64 (shl .u64 a1 (IntKind.wrap .u64 r1)) 32) (iand .u64 (shl .u64 a1 (IntKind.wrap .u64 r1)) 4294967295) (fun y2 =>
          if (shr .u64 (shl .u64 a2 (IntKind.wrap .u64 r1)) 32) = 0 then none else
          div64_l1 g_lz64 n (shl .u64 a2 (IntKind.wrap .u64 r1)) (IntKind.wrap .u64 r1) (shr .u64 (shl .u64 a2 (IntKind.wrap .u64 r1)) 32) (iand .u64 (shl .u64 a2 (IntKind.wrap .u64 r1)) 4294967295) (iand .u64 (shl .u64 a1 (IntKind.wrap .u64 r1)) 4294967295) y2 (IntKind.wrap .u64 ((IntKind.wrap .u64 ((IntKind.wrap .u64 ((ior .u64 (shl .u64 a0 (IntKind.wrap .u64 r1)) (shr .u64 a1 (IntKind.wrap .u64 (64 - (IntKind.wrap .u64 r1))))) * 4294967296)) + (shr .u64 (shl .u64 a1 (IntKind.wrap .u64 r1)) 32))) - (IntKind.wrap .u64 (y2 * (shl .u64 a2 (IntKind.wrap .u64 r1)))))) (fun y3 =>
            if (IntKind.wrap .u64 r1) < 0 then none else
            k (IntKind.wrap .u64 ((IntKind.wrap .u64 (y2 * 4294967296)) + y3)) (shr .u64 (IntKind.wrap .u64 ((IntKind.wrap .u64 ((IntKind.wrap .u64 ((IntKind.wrap .u64 ((IntKind.wrap .u64 ((IntKind.wrap .u64 ((ior .u64 (shl .u64 a0 (IntKind.wrap .u64 r1)) (shr .u64 a1 (IntKind.wrap .u64 (64 - (IntKind.wrap .u64 r1))))) * 4294967296)) + (shr .u64 (shl .u64 a1 (IntKind.wrap .u64 r1)) 32))) - (IntKind.wrap .u64 (y2 * (shl .u64 a2 (IntKind.wrap .u64 r1)))))) * 4294967296)) + (iand .u64 (shl .u64 a1 (IntKind.wrap .u64 r1)) 4294967295))) - (IntKind.wrap .u64 (y3 * (shl .u64 a2 (IntKind.wrap .u64 r1)))))) (IntKind.wrap .u64 r1))) n (IntKind.wrap .u64 ((IntKind.wrap .u64 ((IntKind.wrap .u64 ((IntKind.wrap .u64 ((ior .u64 (shl .u64 a0 (IntKind.wrap .u64 r1)) (shr .u64 a1 (IntKind.wrap .u64 (64 - (IntKind.wrap .u64 r1))))) * 4294967296)) + (shr .u64 (shl .u64 a1 (IntKind.wrap .u64 r1)) 32))) - (IntKind.wrap .u64 (y2 * (shl .u64 a2 (IntKind.wrap .u64 r1)))))) - (IntKind.wrap .u64 ((IntKind.wrap .u64 (Int.tdiv (IntKind.wrap .u64 ((IntKind.wrap .u64 ((IntKind.wrap .u64 ((ior .u64 (shl .u64 a0 (IntKind.wrap .u64 r1)) (shr .u64 a1 (IntKind.wrap .u64 (64 - (IntKind.wrap .u64 r1))))) * 4294967296)) + (shr .u64 (shl .u64 a1 (IntKind.wrap .u64 r1)) 32))) - (IntKind.wrap .u64 (y2 * (shl .u64 a2 (IntKind.wrap .u64 r1)))))) (shr .u64 (shl .u64 a2 (IntKind.wrap .u64 r1)) 32))) * (shr .u64 (shl .u64 a2 (IntKind.wrap .u64 r1)) 32))))) (IntKind.wrap .u64 (Int.tdiv (IntKind.wrap .u64 ((IntKind.wrap .u64 ((IntKind.wrap .u64 ((ior .u64 (shl .u64 a0 (IntKind.wrap .u64 r1)) (shr .u64 a1 (IntKind.wrap .u64 (64 - (IntKind.wrap .u64 r1))))) * 4294967296)) + (shr .u64 (shl .u64 a1 (IntKind.wrap .u64 r1)) 32))) - (IntKind.wrap .u64 (y2 * (shl .u64 a2 (IntKind.wrap .u64 r1)))))) (shr .u64 (shl .u64 a2 (IntKind.wrap .u64 r1)) 32)))) n (IntKind.wrap .u64 (Int.tdiv (ior .u64 (shl .u64 a0 (IntKind.wrap .u64 r1)) (shr .u64 a1 (IntKind.wrap .u64 (64 - (IntKind.wrap .u64 r1))))) (shr .u64 (shl .u64 a2 (IntKind.wrap .u64 r1)) 32))) (IntKind.wrap .u64 ((ior .u64 (shl .u64 a0 (IntKind.wrap .u64 r1)) (shr .u64 a1 (IntKind.wrap .u64 (64 - (IntKind.wrap .u64 r1))))) - (IntKind.wrap .u64 ((IntKind.wrap .u64 (Int.tdiv (ior .u64 (shl .u64 a0 (IntKind.wrap .u64 r1)) (shr .u64 a1 (IntKind.wrap .u64 (64 - (IntKind.wrap .u64 r1))))) (shr .u64 (shl .u64 a2 (IntKind.wrap .u64 r1)) 32))) * (shr .u64 (shl .u64 a2 (IntKind.wrap .u64 r1)) 32)))))

def div64_k (n : Nat) (a0 : Int) (a1 : Int) (a2 : Int) (k : Int → Int → Option A) : Option A := div64_p (lz64_k n) n a0 a1 a2 k

noncomputable def div64_c0 : Code := codeAt [1, 1, 1, 1, 1, 1, 1, 1, 1, 1, 1, 1, 1, 1, 0, 0, 0] (bodyOf Tryd.f38)
def div64_d0 : List Nat := [0, 1, 6, 7, 12, 19, 20, 22, 23, 24, 26, 27, 34, 35, 36, 37, 38, 39, 40, 41, 42, 43, 44, 45, 46, 47, 48, 49, 50, 51, 52, 53, 54, 55, 56, 57, 58, 59, 60, 61, 62, 63, 64, 65, 66, 67, 68, 69, 70, 71, 72, 73, 74, 75, 76, 77, 78, 79, 80, 81, 82, 83, 84, 85]
def div64_y0 : List Nat := [0, 1, 3, 4, 5, 6, 7, 12, 16, 17, 18, 19, 20, 21, 22, 23, 24, 25, 26, 27, 28, 29, 30, 31, 32, 33, 34, 35, 36, 37, 38, 39, 40, 41, 42, 43, 44, 45, 46, 47, 48, 49, 50, 51, 52, 53, 54, 55, 56, 57, 58, 59, 60, 61, 62, 63, 64, 65, 66, 67, 68, 69, 70, 71, 72, 73, 74, 75, 76, 77, 78, 79, 80, 81, 82, 83, 84, 85, 86, 87, 88, 89, 90, 91, 92, 93, 94, 95, 96, 97, 98, 99, 100, 101, 102, 103, 104, 105, 106, 107, 108, 109, 110, 111, 112, 113, 114, 115, 116, 117, 118, 119, 120, 121, 122, 123, 124, 125, 126, 127, 128, 129, 130, 131, 132, 133, 134]
def div64_sh0 : Shape := ⟨[.any, .any, (.p (.int .u64)), .any, .any, .any, .any, .any, (.p (.int .u64)), (.p (.int .u64)), (.p (.int .u64)), (.p (.int .u64)), .any, (.p (.int .u64)), (.p (.int .u64)), (.p (.int .u64)), (.p (.int .u64)), .any, .any, .any, .any, .any, .any, .any, .any, .any, .any, .any, .any, .any, .any, .any, .any, .any, .any, .any, .any, .any, .any, .any, .any, .any, .any, .any, .any, .any, .any, .any, .any, .any, .any, .any, .any, .any, .any, .any, .any, .any, .any, .any, .any, .any, .any, .any, .any, .any, .any, .any, .any, .any, .any, .any, .any, .any, .any, .any, .any, .any, .any, .any, .any, .any, .any, .any, .any, .any, .any, .any, .any, .any, .any, .any, .any, .any, .any, .any, .any, .any, .any, .any, .any, .any, .any, .any, .any, .any, .any, .any, .any, .any, .any, .any, .any, .any, .any, .any, .any, .any, .any, .any, .any, .any, .any, .any, .any, .any, .any, .any, .any, .any, .any, .any, .any, .any, .any], [], 0⟩
def div64_t0 (y : Int) (s : Int) (yn1 : Int) (yn0 : Int) (un32 : Int) (un1 : Int) (un0 : Int) (q1 : Int) (rhat : Int) : div64_sh0.den := (((), (), y, (), (), (), (), (), s, yn1, yn0, un32, (), un1, un0, q1, rhat, (), (), (), (), (), (), (), (), (), (), (), (), (), (), (), (), (), (), (), (), (), (), (), (), (), (), (), (), (), (), (), (), (), (), (), (), (), (), (), (), (), (), (), (), (), (), (), (), (), (), (), (), (), (), (), (), (), (), (), (), (), (), (), (), (), (), (), (), (), (), (), (), (), (), (), (), (), (), (), (), (), (), (), (), (), (), (), (), (), (), (), (), (), (), (), (), (), (), (), (), (), (), (), (), (), (), (), (), (), (), (), (), (), (), (), (), (), (), ()), ())
def div64_x0_0 (y : Int) (s : Int) (yn1 : Int) (yn0 : Int) (un32 : Int) (un1 : Int) (un0 : Int) (z7 : Int) : St := ⟨[.any, .any, .p (.int .u64) y, .any, .any, .any, .any, .any, .p (.int .u64) s, .p (.int .u64) yn1, .p (.int .u64) yn0, .p (.int .u64) un32, .any, .p (.int .u64) un1, .p (.int .u64) un0, .p (.int .u64) z7, .any, .any, .any, .any, .any, .any, .any, .any, .any, .any, .any, .any, .any, .any, .any, .any, .any, .any, .any, .any, .any, .any, .any, .any, .any, .any, .any, .any, .any, .any, .any, .any, .any, .any, .any, .any, .any, .any, .any, .any, .any, .any, .any, .any, .any, .any, .any, .any, .any, .any, .any, .any, .any, .any, .any, .any, .any, .any, .any, .any, .any, .any, .any, .any, .any, .any, .any, .any, .any, .any, .any, .any, .any, .any, .any, .any, .any, .any, .any, .any, .any, .any, .any, .any, .any, .any, .any, .any, .any, .any, .any, .any, .any, .any, .any, .any, .any, .any, .any, .any, .any, .any, .any, .any, .any, .any, .any, .any, .any, .any, .any, .any, .any, .any, .any, .any, .any, .any, .any], [], 0⟩
def div64_g0 (g_lz64 : Int → (Int → Option A) → Option A) (n : Nat) (d : div64_sh0.den) (k : Ex → St → Option A) : Option A :=
  div64_l0 g_lz64 n d.1.2.2.1 d.1.2.2.2.2.2.2.2.2.1 d.1.2.2.2.2.2.2.2.2.2.1 d.1.2.2.2.2.2.2.2.2.2.2.1 d.1.2.2.2.2.2.2.2.2.2.2.2.1 d.1.2.2.2.2.2.2.2.2.2.2.2.2.2.1 d.1.2.2.2.2.2.2.2.2.2.2.2.2.2.2.1 (fun z7 => k (.exit 0) (div64_x0_0 d.1.2.2.1 d.1.2.2.2.2.2.2.2.2.1 d.1.2.2.2.2.2.2.2.2.2.1 d.1.2.2.2.2.2.2.2.2.2.2.1 d.1.2.2.2.2.2.2.2.2.2.2.2.1 d.1.2.2.2.2.2.2.2.2.2.2.2.2.2.1 d.1.2.2.2.2.2.2.2.2.2.2.2.2.2.2.1 z7)) n d.1.2.2.2.2.2.2.2.2.2.2.2.2.2.2.2.1 d.1.2.2.2.2.2.2.2.2.2.2.2.2.2.2.2.2.1
noncomputable def div64_c1 : Code := codeAt [1, 1, 1, 1, 1, 1, 1, 1, 1, 1, 1, 1, 1, 1, 1, 1, 1, 1, 0, 0, 0] (bodyOf Tryd.f38)
def div64_d1 : List Nat := [11, 13, 86, 87, 88, 89, 90, 91, 92, 93, 94, 95, 96, 97, 98, 99, 100, 101, 102, 103, 104, 105, 106, 107, 108, 109, 110, 111, 112, 113, 114, 115, 116, 117, 118, 119, 120]
def div64_y1 : List Nat := [0, 1, 3, 4, 5, 6, 7, 9, 10, 11, 12, 13, 16, 19, 20, 21, 22, 23, 24, 25, 26, 27, 28, 29, 30, 31, 32, 33, 34, 35, 36, 37, 38, 39, 40, 41, 42, 43, 44, 45, 46, 47, 48, 49, 50, 51, 52, 53, 54, 55, 56, 57, 58, 59, 60, 61, 62, 63, 64, 65, 66, 67, 68, 69, 70, 71, 72, 73, 74, 75, 76, 77, 78, 79, 80, 81, 82, 83, 84, 85, 86, 87, 88, 89, 90, 91, 92, 93, 94, 95, 96, 97, 98, 99, 100, 101, 102, 103, 104, 105, 106, 107, 108, 109, 110, 111, 112, 113, 114, 115, 116, 117, 118, 119, 120, 121, 122, 123, 124, 125, 126, 127, 128, 129, 130, 131, 132, 133, 134]
def div64_sh1 : Shape := ⟨[.any, .any, (.p (.int .u64)), .any, .any, .any, .any, .any, (.p (.int .u64)), (.p (.int .u64)), (.p (.int .u64)), .any, .any, .any, (.p (.int .u64)), (.p (.int .u64)), (.p (.int .u64)), (.p (.int .u64)), (.p (.int .u64)), .any, .any, .any, .any, .any, .any, .any, .any, .any, .any, .any, .any, .any, .any, .any, .any, .any, .any, .any, .any, .any, .any, .any, .any, .any, .any, .any, .any, .any, .any, .any, .any, .any, .any, .any, .any, .any, .any, .any, .any, .any, .any, .any, .any, .any, .any, .any, .any, .any, .any, .any, .any, .any, .any, .any, .any, .any, .any, .any, .any, .any, .any, .any, .any, .any, .any, .any, .any, .any, .any, .any, .any, .any, .any, .any, .any, .any, .any, .any, .any, .any, .any, .any, .any, .any, .any, .any, .any, .any, .any, .any, .any, .any, .any, .any, .any, .any, .any, .any, .any, .any, .any, .any, .any, .any, .any, .any, .any, .any, .any, .any, .any, .any, .any, .any, .any], [], 0⟩
def div64_t1 (y : Int) (s : Int) (yn1 : Int) (yn0 : Int) (un0 : Int) (q1 : Int) (un21 : Int) (rhat : Int) (q0 : Int) : div64_sh1.den := (((), (), y, (), (), (), (), (), s, yn1, yn0, (), (), (), un0, q1, rhat, un21, q0, (), (), (), (), (), (), (), (), (), (), (), (), (), (), (), (), (), (), (), (), (), (), (), (), (), (), (), (), (), (), (), (), (), (), (), (), (), (), (), (), (), (), (), (), (), (), (), (), (), (), (), (), (), (), (), (), (), (), (), (), (), (), (), (), (), (), (), (), (), (), (), (), (), (), (), (), (), (), (), (), (), (), (), (), (), (), (), (), (), (), (), (), (), (), (), (), (), (), (), (), (), (), (), (), (), (), (), (), (), (), (), (), (), (), (), (), ()), ())
def div64_x1_0 (y : Int) (s : Int) (yn1 : Int) (yn0 : Int) (un0 : Int) (q1 : Int) (un21 : Int) (z5 : Int) : St := ⟨[.any, .any, .p (.int .u64) y, .any, .any, .any, .any, .any, .p (.int .u64) s, .any, .any, .any, .any, .any, .p (.int .u64) un0, .p (.int .u64) q1, .any, .p (.int .u64) un21, .p (.int .u64) z5, .any, .any, .any, .any, .any, .any, .any, .any, .any, .any, .any, .any, .any, .any, .any, .any, .any, .any, .any, .any, .any, .any, .any, .any, .any, .any, .any, .any, .any, .any, .any, .any, .any, .any, .any, .any, .any, .any, .any, .any, .any, .any, .any, .any, .any, .any, .any, .any, .any, .any, .any, .any, .any, .any, .any, .any, .any, .any, .any, .any, .any, .any, .any, .any, .any, .any, .any, .any, .any, .any, .any, .any, .any, .any, .any, .any, .any, .any, .any, .any, .any, .any, .any, .any, .any, .any, .any, .any, .any, .any, .any, .any, .any, .any, .any, .any, .any, .any, .any, .any, .any, .any, .any, .any, .any, .any, .any, .any, .any, .any, .any, .any, .any, .any, .any, .any], [], 0⟩
def div64_g1 (g_lz64 : Int → (Int → Option A) → Option A) (n : Nat) (d : div64_sh1.den) (k : Ex → St → Option A) : Option A :=
  div64_l1 g_lz64 n d.1.2.2.1 d.1.2.2.2.2.2.2.2.2.1 d.1.2.2.2.2.2.2.2.2.2.1 d.1.2.2.2.2.2.2.2.2.2.2.1 d.1.2.2.2.2.2.2.2.2.2.2.2.2.2.2.1 d.1.2.2.2.2.2.2.2.2.2.2.2.2.2.2.2.1 d.1.2.2.2.2.2.2.2.2.2.2.2.2.2.2.2.2.2.1 (fun z5 => k (.exit 2) (div64_x1_0 d.1.2.2.1 d.1.2.2.2.2.2.2.2.2.1 d.1.2.2.2.2.2.2.2.2.2.1 d.1.2.2.2.2.2.2.2.2.2.2.1 d.1.2.2.2.2.2.2.2.2.2.2.2.2.2.2.1 d.1.2.2.2.2.2.2.2.2.2.2.2.2.2.2.2.1 d.1.2.2.2.2.2.2.2.2.2.2.2.2.2.2.2.2.2.1 z5)) n d.1.2.2.2.2.2.2.2.2.2.2.2.2.2.2.2.2.1 d.1.2.2.2.2.2.2.2.2.2.2.2.2.2.2.2.2.2.2.1
noncomputable def div64_E (g_lz64 : Int → (Int → Option A) → Option A) (n : Nat) : Env A := ⟨tys, gls, [(50, lz64_ent g_lz64)], [(0, loopE div64_d0 div64_sh0 (div64_g0 g_lz64 n)), (1, loopE div64_d1 div64_sh1 (div64_g1 g_lz64 n))], []⟩
theorem div64_T (g_lz64 : Int → (Int → Option A) → Option A) (n : Nat) : TyOK Tryd.prog (div64_E g_lz64 n) := tyOK_of rfl tysB
theorem div64_fns (n : Nat) : FnsOK Tryd.prog (div64_E (A := A) (lz64_k n) n) := AllOK.env rfl rfl (AllOK.cons (lz64_ok n) AllOK.nil)
noncomputable def div64_LK1 (g_lz64 : Int → (Int → Option A) → Option A) (n : Nat) (y : Int) (s : Int) (yn1 : Int) (yn0 : Int) (un0 : Int) (q1 : Int) (un21 : Int) (k : Ex → St → Option A) (f : Nat) (rhat : Int) (q0 : Int) : Option A := loopK (codeK (div64_E g_lz64 n) 2 div64_c1) div64_d1 div64_y1 f (div64_sh1.fill (div64_t1 y s yn1 yn0 un0 q1 un21 rhat q0)) k
theorem div64_st1 (g_lz64 : Int → (Int → Option A) → Option A) (n f : Nat) (y : Int) (s : Int) (yn1 : Int) (yn0 : Int) (un0 : Int) (q1 : Int) (un21 : Int) (k : Ex → St → Option A) (rhat : Int) (q0 : Int) : div64_LK1 g_lz64 n y s yn1 yn0 un0 q1 un21 k (f + 1) rhat q0 = div64_b1 g_lz64 n y s yn1 yn0 un0 q1 un21 (fun z5 => k (.exit 2) (div64_x1_0 y s yn1 yn0 un0 q1 un21 z5)) (div64_LK1 g_lz64 n y s yn1 yn0 un0 q1 un21 k f) rhat q0 := by kernel_rfl
theorem div64_le1 (g_lz64 : Int → (Int → Option A) → Option A) (n : Nat) (y : Int) (s : Int) (yn1 : Int) (yn0 : Int) (un0 : Int) (q1 : Int) (un21 : Int) (k : Ex → St → Option A) : ∀ (f : Nat) (rhat : Int) (q0 : Int), div64_LK1 g_lz64 n y s yn1 yn0 un0 q1 un21 k f rhat q0 = div64_l1 g_lz64 n y s yn1 yn0 un0 q1 un21 (fun z5 => k (.exit 2) (div64_x1_0 y s yn1 yn0 un0 q1 un21 z5)) f rhat q0 := by
  intro f
  induction f with
  | zero => intros; kernel_rfl
  | succ f ih => intro rhat q0; exact (div64_st1 g_lz64 n f y s yn1 yn0 un0 q1 un21 k rhat q0).trans ((congrArg (fun r => div64_b1 g_lz64 n y s yn1 yn0 un0 q1 un21 (fun z5 => k (.exit 2) (div64_x1_0 y s yn1 yn0 un0 q1 un21 z5)) r rhat q0) (funext fun rhat => funext fun q0 => ih rhat q0)).trans (by kernel_rfl))
theorem div64_lo1 (n : Nat) : LoopOK Tryd.prog gls div64_c1 (loopE div64_d1 div64_sh1 (div64_g1 (A := A) (lz64_k n) n)) :=
  LoopOK.of (div64_T (lz64_k n) n) (div64_fns n) follows (j := 2) (n := n) (xdead := div64_y1) (lo_of (by kernel_rfl : loopsOf 2 div64_c1 = []) lo_nil) fun d k => Eq.trans (by kernel_rfl) (div64_le1 (lz64_k n) n d.1.2.2.1 d.1.2.2.2.2.2.2.2.2.1 d.1.2.2.2.2.2.2.2.2.2.1 d.1.2.2.2.2.2.2.2.2.2.2.1 d.1.2.2.2.2.2.2.2.2.2.2.2.2.2.2.1 d.1.2.2.2.2.2.2.2.2.2.2.2.2.2.2.2.1 d.1.2.2.2.2.2.2.2.2.2.2.2.2.2.2.2.2.2.1 k n d.1.2.2.2.2.2.2.2.2.2.2.2.2.2.2.2.2.1 d.1.2.2.2.2.2.2.2.2.2.2.2.2.2.2.2.2.2.2.1)
noncomputable def div64_LK0 (g_lz64 : Int → (Int → Option A) → Option A) (n : Nat) (y : Int) (s : Int) (yn1 : Int) (yn0 : Int) (un32 : Int) (un1 : Int) (un0 : Int) (k : Ex → St → Option A) (f : Nat) (q1 : Int) (rhat : Int) : Option A := loopK (codeK (div64_E g_lz64 n) 1 div64_c0) div64_d0 div64_y0 f (div64_sh0.fill (div64_t0 y s yn1 yn0 un32 un1 un0 q1 rhat)) k
theorem div64_st0 (g_lz64 : Int → (Int → Option A) → Option A) (n f : Nat) (y : Int) (s : Int) (yn1 : Int) (yn0 : Int) (un32 : Int) (un1 : Int) (un0 : Int) (k : Ex → St → Option A) (q1 : Int) (rhat : Int) : div64_LK0 g_lz64 n y s yn1 yn0 un32 un1 un0 k (f + 1) q1 rhat = div64_b0 g_lz64 n y s yn1 yn0 un32 un1 un0 (fun z7 => k (.exit 0) (div64_x0_0 y s yn1 yn0 un32 un1 un0 z7)) (div64_LK0 g_lz64 n y s yn1 yn0 un32 un1 un0 k f) q1 rhat := by kernel_rfl
theorem div64_le0 (g_lz64 : Int → (Int → Option A) → Option A) (n : Nat) (y : Int) (s : Int) (yn1 : Int) (yn0 : Int) (un32 : Int) (un1 : Int) (un0 : Int) (k : Ex → St → Option A) : ∀ (f : Nat) (q1 : Int) (rhat : Int), div64_LK0 g_lz64 n y s yn1 yn0 un32 un1 un0 k f q1 rhat = div64_l0 g_lz64 n y s yn1 yn0 un32 un1 un0 (fun z7 => k (.exit 0) (div64_x0_0 y s yn1 yn0 un32 un1 un0 z7)) f q1 rhat := by
  intro f
  induction f with
  | zero => intros; kernel_rfl
  | succ f ih => intro q1 rhat; exact (div64_st0 g_lz64 n f y s yn1 yn0 un32 un1 un0 k q1 rhat).trans ((congrArg (fun r => div64_b0 g_lz64 n y s yn1 yn0 un32 un1 un0 (fun z7 => k (.exit 0) (div64_x0_0 y s yn1 yn0 un32 un1 un0 z7)) r q1 rhat) (funext fun q1 => funext fun rhat => ih q1 rhat)).trans (by kernel_rfl))
theorem div64_lo0 (n : Nat) : LoopOK Tryd.prog gls div64_c0 (loopE div64_d0 div64_sh0 (div64_g0 (A := A) (lz64_k n) n)) :=
  LoopOK.of (div64_T (lz64_k n) n) (div64_fns n) follows (j := 1) (n := n) (xdead := div64_y0) (lo_of (by kernel_rfl : loopsOf 1 div64_c0 = []) lo_nil) fun d k => Eq.trans (by kernel_rfl) (div64_le0 (lz64_k n) n d.1.2.2.1 d.1.2.2.2.2.2.2.2.2.1 d.1.2.2.2.2.2.2.2.2.2.1 d.1.2.2.2.2.2.2.2.2.2.2.1 d.1.2.2.2.2.2.2.2.2.2.2.2.1 d.1.2.2.2.2.2.2.2.2.2.2.2.2.2.1 d.1.2.2.2.2.2.2.2.2.2.2.2.2.2.2.1 k n d.1.2.2.2.2.2.2.2.2.2.2.2.2.2.2.2.1 d.1.2.2.2.2.2.2.2.2.2.2.2.2.2.2.2.2.1)
theorem div64_eqg (g_lz64 : Int → (Int → Option A) → Option A) (n : Nat) (a0 : Int) (a1 : Int) (a2 : Int) (k : AV → List Blk → Option A) : fnK (div64_E g_lz64 n) Tryd.f38 [.pure, .pure] [.p (.int .u64) a0, .p (.int .u64) a1, .p (.int .u64) a2] [] k = div64_p g_lz64 n a0 a1 a2 (fun r0 r1 => k (.tup [.p (.int .u64) r0, .p (.int .u64) r1]) []) := by kernel_rfl
theorem div64_eq (n : Nat) (a0 : Int) (a1 : Int) (a2 : Int) (k : AV → List Blk → Option A) : fnK (div64_E (lz64_k n) n) Tryd.f38 [.pure, .pure] [.p (.int .u64) a0, .p (.int .u64) a1, .p (.int .u64) a2] [] k = div64_k n a0 a1 a2 (fun r0 r1 => k (.tup [.p (.int .u64) r0, .p (.int .u64) r1]) []) := div64_eqg (lz64_k n) n a0 a1 a2 k
def div64_ent (g : Int → Int → Int → (Int → Int → Option A) → Option A) : Entry A := pureE fun args k => args3 args (.int .u64) (.int .u64) (.int .u64) fun a0 a1 a2 => g a0 a1 a2 (fun r0 r1 => k (.tup [.p (.int .u64) r0, .p (.int .u64) r1]) [])
theorem div64_lo (n : Nat) : ∀ c, Tryd.f38.body = some c → ∀ q ∈ loopsOf 0 c, ∀ L, (div64_E (A := A) (lz64_k n) n).lps.lookup q.1 = some L → LoopOK Tryd.prog gls q.2 L :=
  lo_body (E := div64_E (lz64_k n) n) (by kernel_rfl : Tryd.f38.body = some (bodyOf Tryd.f38)) (lo_of (E := div64_E (lz64_k n) n) (by kernel_rfl : loopsOf 0 (bodyOf Tryd.f38) = [(0, div64_c0), (1, div64_c1)]) (lo_cons rfl (div64_lo0 n) (lo_cons rfl (div64_lo1 n) lo_nil)))
theorem div64_ok (n : Nat) : FnOK Tryd.prog gls 38 (div64_ent (A := A) (div64_k n)) :=
  FnOK.of (div64_T (lz64_k n) n) (div64_fns n) follows ⟨Tryd.func38, by kernel_rfl⟩ (div64_lo n) (rm := [.pure, .pure]) fun args k out h => by
    obtain ⟨a0, a1, a2, e, h1⟩ := args3_sound h
    subst e; rw [div64_eq]; exact h1

end Go.Ev
end

section
/-
  FUNCTION 33: printed by a program of our own (wip/gen/st.py). '(masthead/wide.U).Mul', in continuation form; the evaluator gives it.
-/
set_option linter.all false
set_option maxRecDepth 100000
namespace Go.Ev
open Go.Proofs
variable {A : Type}

-- ============================================================ umul (function 33)
def umul_b0 (g_mul64 : Int → Int → (Int → Int → Option A) → Option A) (g_add64 : Int → Int → Int → (Int → Int → Option A) → Option A) (n : Nat) (n_ : Int) (t4 : (List Int)) (k0 : Int → (List Int) → Option A) (r : Int → Int → (List Int) → Option A) (c : Int) (t12 : Int) (a : (List Int)) : Option A :=
  bif (decide (t12 < 4)) then
    if 0 ≤ t12 then
      if t12 < 4 then
        (a[(Int.toNat t12)]?).bind fun y1 =>
        g_mul64 y1 n_ fun r2 r3 =>
        g_add64 r3 c 0 fun r4 r5 =>
        if 0 ≤ t12 then
          if t12 < 4 then
            if (Int.toNat t12) < 4 then
              r (IntKind.wrap .u64 (r2 + r5)) (IntKind.wrap .i64 (t12 + 1)) (a.set (Int.toNat t12) r4)
            else none
          else none
        else none
      else none
    else none
  else
    k0 c a

def umul_l0 (g_mul64 : Int → Int → (Int → Int → Option A) → Option A) (g_add64 : Int → Int → Int → (Int → Int → Option A) → Option A) (n : Nat) (n_ : Int) (t4 : (List Int)) (k0 : Int → (List Int) → Option A) : Nat → Int → Int → (List Int) → Option A
  | 0 => fun _ _ _ => none
  | f + 1 => umul_b0 g_mul64 g_add64 n n_ t4 k0 (umul_l0 g_mul64 g_add64 n n_ t4 k0 f)

def umul_p (g_mul64 : Int → Int → (Int → Int → Option A) → Option A) (g_add64 : Int → Int → Int → (Int → Int → Option A) → Option A) (n : Nat) (a0 : (List Int)) (a1 : Int) (k : (List Int) → Int → Option A) : Option A :=
  umul_l0 g_mul64 g_add64 n a1 [0, 0, 0, 0] (fun y6 y7 =>
    k y7 y6) n 0 0 a0

def umul_k (n : Nat) (a0 : (List Int)) (a1 : Int) (k : (List Int) → Int → Option A) : Option A := umul_p (mul64_k n) (add64_k n) n a0 a1 k

noncomputable def umul_c0 : Code := codeAt [1, 1, 0, 1, 0, 0] (bodyOf Tryd.f33)
def umul_d0 : List Nat := [0, 5, 7, 8, 9, 10, 11, 13, 14, 15, 16, 17, 18, 19, 20, 21, 22, 23, 24, 25, 26, 27, 28, 29, 30, 31, 32, 33, 34, 35]
def umul_y0 : List Nat := [0, 1, 3, 5, 7, 8, 9, 10, 11, 12, 13, 14, 15, 16, 17, 18, 19, 20, 21, 22, 23, 24, 25, 26, 27, 28, 29, 30, 31, 32, 33, 34, 35, 36, 37]
def umul_sh0 : Shape := ⟨[.any, (.p (.int .u64)), (.ptr 0), .any, (.ptr 1), .any, (.p (.int .u64)), .any, .any, .any, .any, .any, (.p (.int .i64)), .any, .any, .any, .any, .any, .any, .any, .any, .any, .any, .any, .any, .any, .any, .any, .any, .any, .any, .any, .any, .any, .any, .any, .any, .any], [(.var 24 kA4u64 (.p kA4u64)), (.var 24 kA4u64 (.p kA4u64))], 0⟩
def umul_t0 (n_ : Int) (t4 : (List Int)) (c : Int) (t12 : Int) (a : (List Int)) : umul_sh0.den := (((), n_, (), (), (), (), c, (), (), (), (), (), t12, (), (), (), (), (), (), (), (), (), (), (), (), (), (), (), (), (), (), (), (), (), (), (), (), (), ()), (a, t4, ()))
def umul_x0_0 (n_ : Int) (t4 : (List Int)) (z0 : Int) (z1 : (List Int)) : St := ⟨[.any, .any, .ptr 0 [], .any, .ptr 1 [], .any, .p (.int .u64) z0, .any, .any, .any, .any, .any, .any, .any, .any, .any, .any, .any, .any, .any, .any, .any, .any, .any, .any, .any, .any, .any, .any, .any, .any, .any, .any, .any, .any, .any, .any, .any], [.var 24 kA4u64 (.p kA4u64 z1), .var 24 kA4u64 (.p kA4u64 t4)], 0⟩
def umul_g0 (g_mul64 : Int → Int → (Int → Int → Option A) → Option A) (g_add64 : Int → Int → Int → (Int → Int → Option A) → Option A) (n : Nat) (d : umul_sh0.den) (k : Ex → St → Option A) : Option A :=
  umul_l0 g_mul64 g_add64 n d.1.2.1 d.2.2.1 (fun z0 z1 => k (.exit 0) (umul_x0_0 d.1.2.1 d.2.2.1 z0 z1)) n d.1.2.2.2.2.2.2.1 d.1.2.2.2.2.2.2.2.2.2.2.2.2.1 d.2.1
noncomputable def umul_E (g_mul64 : Int → Int → (Int → Int → Option A) → Option A) (g_add64 : Int → Int → Int → (Int → Int → Option A) → Option A) (n : Nat) : Env A := ⟨tys, gls, [(48, mul64_ent g_mul64), (44, add64_ent g_add64)], [(0, loopE umul_d0 umul_sh0 (umul_g0 g_mul64 g_add64 n))], []⟩
theorem umul_T (g_mul64 : Int → Int → (Int → Int → Option A) → Option A) (g_add64 : Int → Int → Int → (Int → Int → Option A) → Option A) (n : Nat) : TyOK Tryd.prog (umul_E g_mul64 g_add64 n) := tyOK_of rfl tysB
theorem umul_fns (n : Nat) : FnsOK Tryd.prog (umul_E (A := A) (mul64_k n) (add64_k n) n) := AllOK.env rfl rfl (AllOK.cons (mul64_ok n) (AllOK.cons (add64_ok n) AllOK.nil))
noncomputable def umul_LK0 (g_mul64 : Int → Int → (Int → Int → Option A) → Option A) (g_add64 : Int → Int → Int → (Int → Int → Option A) → Option A) (n : Nat) (n_ : Int) (t4 : (List Int)) (k : Ex → St → Option A) (f : Nat) (c : Int) (t12 : Int) (a : (List Int)) : Option A := loopK (codeK (umul_E g_mul64 g_add64 n) 1 umul_c0) umul_d0 umul_y0 f (umul_sh0.fill (umul_t0 n_ t4 c t12 a)) k
theorem umul_st0 (g_mul64 : Int → Int → (Int → Int → Option A) → Option A) (g_add64 : Int → Int → Int → (Int → Int → Option A) → Option A) (n f : Nat) (n_ : Int) (t4 : (List Int)) (k : Ex → St → Option A) (c : Int) (t12 : Int) (a : (List Int)) : umul_LK0 g_mul64 g_add64 n n_ t4 k (f + 1) c t12 a = umul_b0 g_mul64 g_add64 n n_ t4 (fun z0 z1 => k (.exit 0) (umul_x0_0 n_ t4 z0 z1)) (umul_LK0 g_mul64 g_add64 n n_ t4 k f) c t12 a := by kernel_rfl
theorem umul_le0 (g_mul64 : Int → Int → (Int → Int → Option A) → Option A) (g_add64 : Int → Int → Int → (Int → Int → Option A) → Option A) (n : Nat) (n_ : Int) (t4 : (List Int)) (k : Ex → St → Option A) : ∀ (f : Nat) (c : Int) (t12 : Int) (a : (List Int)), umul_LK0 g_mul64 g_add64 n n_ t4 k f c t12 a = umul_l0 g_mul64 g_add64 n n_ t4 (fun z0 z1 => k (.exit 0) (umul_x0_0 n_ t4 z0 z1)) f c t12 a := by
  intro f
  induction f with
  | zero => intros; kernel_rfl
  | succ f ih => intro c t12 a; exact (umul_st0 g_mul64 g_add64 n f n_ t4 k c t12 a).trans ((congrArg (fun r => umul_b0 g_mul64 g_add64 n n_ t4 (fun z0 z1 => k (.exit 0) (umul_x0_0 n_ t4 z0 z1)) r c t12 a) (funext fun c => funext fun t12 => funext fun a => ih c t12 a)).trans (by kernel_rfl))
theorem umul_lo0 (n : Nat) : LoopOK Tryd.prog gls umul_c0 (loopE umul_d0 umul_sh0 (umul_g0 (A := A) (mul64_k n) (add64_k n) n)) :=
  LoopOK.of (umul_T (mul64_k n) (add64_k n) n) (umul_fns n) follows (j := 1) (n := n) (xdead := umul_y0) (lo_of (by kernel_rfl : loopsOf 1 umul_c0 = []) lo_nil) fun d k => Eq.trans (by kernel_rfl) (umul_le0 (mul64_k n) (add64_k n) n d.1.2.1 d.2.2.1 k n d.1.2.2.2.2.2.2.1 d.1.2.2.2.2.2.2.2.2.2.2.2.2.1 d.2.1)
theorem umul_eqg (g_mul64 : Int → Int → (Int → Int → Option A) → Option A) (g_add64 : Int → Int → Int → (Int → Int → Option A) → Option A) (n : Nat) (a0 : (List Int)) (a1 : Int) (k : AV → List Blk → Option A) : fnK (umul_E g_mul64 g_add64 n) Tryd.f33 [.pure, .pure] [.p kA4u64 a0, .p (.int .u64) a1] [] k = umul_p g_mul64 g_add64 n a0 a1 (fun r0 r1 => k (.tup [.p kA4u64 r0, .p (.int .u64) r1]) []) := by kernel_rfl
theorem umul_eq (n : Nat) (a0 : (List Int)) (a1 : Int) (k : AV → List Blk → Option A) : fnK (umul_E (mul64_k n) (add64_k n) n) Tryd.f33 [.pure, .pure] [.p kA4u64 a0, .p (.int .u64) a1] [] k = umul_k n a0 a1 (fun r0 r1 => k (.tup [.p kA4u64 r0, .p (.int .u64) r1]) []) := umul_eqg (mul64_k n) (add64_k n) n a0 a1 k
def umul_ent (g : (List Int) → Int → ((List Int) → Int → Option A) → Option A) : Entry A := pureE fun args k => args2 args kA4u64 (.int .u64) fun a0 a1 => g a0 a1 (fun r0 r1 => k (.tup [.p kA4u64 r0, .p (.int .u64) r1]) [])
theorem umul_lo (n : Nat) : ∀ c, Tryd.f33.body = some c → ∀ q ∈ loopsOf 0 c, ∀ L, (umul_E (A := A) (mul64_k n) (add64_k n) n).lps.lookup q.1 = some L → LoopOK Tryd.prog gls q.2 L :=
  lo_body (E := umul_E (mul64_k n) (add64_k n) n) (by kernel_rfl : Tryd.f33.body = some (bodyOf Tryd.f33)) (lo_of (E := umul_E (mul64_k n) (add64_k n) n) (by kernel_rfl : loopsOf 0 (bodyOf Tryd.f33) = [(0, umul_c0)]) (lo_cons rfl (umul_lo0 n) lo_nil))
theorem umul_ok (n : Nat) : FnOK Tryd.prog gls 33 (umul_ent (A := A) (umul_k n)) :=
  FnOK.of (umul_T (mul64_k n) (add64_k n) n) (umul_fns n) follows ⟨Tryd.func33, by kernel_rfl⟩ (umul_lo n) (rm := [.pure, .pure]) fun args k out h => by
    obtain ⟨a0, a1, e, h1⟩ := args2_sound h
    subst e; rw [umul_eq]; exact h1

end Go.Ev
end

section
/-
  PRODUCTS AND QUOTIENTS of 64 bits: plain laws of the printed functions.
-/
set_option linter.all false
namespace Go.Ev
variable {A : Type}

theorem hi_parts (P Q R S : Nat) : (P * 18446744073709551616 + (Q + R) * 4294967296 + S) / 18446744073709551616 = P + (Q + S / 4294967296) / 4294967296 + ((Q + S / 4294967296) % 4294967296 + R) / 4294967296 := by omega
theorem prod_parts (x1 x0 y1 y0 : Nat) : (x1 * 4294967296 + x0) * (y1 * 4294967296 + y0) = x1 * y1 * 18446744073709551616 + (x1 * y0 + x0 * y1) * 4294967296 + x0 * y0 := by
  rw [Nat.add_mul, Nat.mul_add, Nat.mul_add, Nat.add_mul]
  have e1 : x1 * 4294967296 * (y1 * 4294967296) = x1 * y1 * 18446744073709551616 := by
    rw [Nat.mul_assoc, Nat.mul_left_comm 4294967296 y1, ← Nat.mul_assoc]
  have e2 : x1 * 4294967296 * y0 = x1 * y0 * 4294967296 := by rw [Nat.mul_assoc, Nat.mul_comm 4294967296, ← Nat.mul_assoc]
  have e3 : x0 * (y1 * 4294967296) = x0 * y1 * 4294967296 := by rw [Nat.mul_assoc]
  rw [e1, e2, e3]; omega
theorem mul_lt32 {a b : Nat} (ha : a < 4294967296) (hb : b < 4294967296) : a * b ≤ 18446744065119617025 := by
  have := Nat.mul_le_mul (show a ≤ 4294967295 by omega) (show b ≤ 4294967295 by omega)
  omega
theorem shr32 (x : Nat) : shr .u64 (x : Int) 32 = ((x / 4294967296 : Nat) : Int) := shr_u64 x 32 (by decide)
theorem and32 (x : Nat) (hx : x < 18446744073709551616) : iand .u64 (x : Int) 4294967295 = ((x % 4294967296 : Nat) : Int) := by
  rw [show (4294967295 : Int) = ((4294967295 : Nat) : Int) from rfl, iand_u64 x _ hx (by decide), show 4294967295 = 2 ^ 32 - 1 from rfl, Nat.and_two_pow_sub_one_eq_mod]

theorem mul64_law (n x y : Nat) (hx : x < 18446744073709551616) (hy : y < 18446744073709551616) (g : Int → Int → Option A) : mul64_k n (x : Int) (y : Int) g = g ((x * y / 18446744073709551616 : Nat) : Int) ((x * y % 18446744073709551616 : Nat) : Int) := by
  unfold mul64_k mul64_p
  rw [shr32, shr32, and32 x hx, and32 y hy]
  have hx1 : x / 4294967296 < 4294967296 := by omega
  have hy1 : y / 4294967296 < 4294967296 := by omega
  have hx0 : x % 4294967296 < 4294967296 := by omega
  have hy0 : y % 4294967296 < 4294967296 := by omega
  have hxd : x / 4294967296 * 4294967296 + x % 4294967296 = x := Nat.div_add_mod' _ _
  have hyd : y / 4294967296 * 4294967296 + y % 4294967296 = y := Nat.div_add_mod' _ _
  have hpp := prod_parts (x / 4294967296) (x % 4294967296) (y / 4294967296) (y % 4294967296)
  rw [hxd, hyd] at hpp
  have b1 := mul_lt32 hx1 hy1
  have b2 := mul_lt32 hx1 hy0
  have b3 := mul_lt32 hx0 hy1
  have b4 := mul_lt32 hx0 hy0
  simp only [← Int.natCast_mul]
  generalize x / 4294967296 * (y / 4294967296) = P at *
  generalize x / 4294967296 * (y % 4294967296) = Q at *
  generalize x % 4294967296 * (y / 4294967296) = R at *
  generalize x % 4294967296 * (y % 4294967296) = S at *
  rw [wrap_u64_nat P (by omega), wrap_u64_nat Q (by omega), wrap_u64_nat S (by omega), wrap_u64_nat R (by omega), shr32]
  rw [← Int.natCast_add, wrap_u64_nat (Q + S / 4294967296) (by omega), shr32, and32 _ (by omega), ← Int.natCast_add, ← Int.natCast_add, wrap_u64_nat (P + _) (by omega), wrap_u64_nat _ (by omega), shr32, ← Int.natCast_add, wrap_u64_nat _ (by omega), wrap_u64_mod]
  have hhi := hi_parts P Q R S
  rw [← hpp] at hhi
  rw [hhi]

-- ------------------------------------------------------------ by one word

theorem umul_l0_law (n : Nat) (x y : Nat) (hy : y < 18446744073709551616) (t4 : List Int) (g : Int → List Int → Option A) : ∀ (d f i c : Nat) (l : List Nat), i + d = 4 → d < f → c < 18446744073709551616 → (x * y) / 2 ^ (64 * i) = x / 2 ^ (64 * i) * y + c → Mix (x * y) x i l →
    ∃ c', (x * y) / 2 ^ (64 * 4) = x / 2 ^ (64 * 4) * y + c' ∧ umul_l0 (mul64_k n) (add64_k n) n (y : Int) t4 g f (c : Int) (i : Int) (ints l) = g (c' : Int) (ints (uw (x * y))) := by
  intro d
  induction d with
  | zero =>
    intro f i c l hi hf hc he hm
    obtain ⟨f, rfl⟩ : ∃ g, f = g + 1 := ⟨f - 1, by omega⟩
    have : i = 4 := by omega
    subst this
    refine ⟨c, he, ?_⟩
    rw [umul_l0, umul_b0, decide_eq_false (show ¬ ((4 : Nat) : Int) < 4 by omega), cond_false, hm.done]
  | succ d ih =>
    intro f i c l hi hf hc he hm
    obtain ⟨f, rfl⟩ : ∃ g, f = g + 1 := ⟨f - 1, by omega⟩
    have hx := wd_split x i
    have hz := wd_split (x * y) i
    have bx := wd_lt x i
    have bz := wd_lt (x * y) i
    have hp : wd x i * y ≤ 18446744073709551615 * 18446744073709551615 := Nat.mul_le_mul (by omega) (by omega)
    rw [hx, Nat.add_mul, Nat.mul_assoc] at he
    have e3 : IntKind.wrap .i64 ((i : Int) + 1) = ((i + 1 : Nat) : Int) := by rw [wrap_id (by omega) (by omega)]; omega
    generalize hP : wd x i * y = P at he hp
    generalize hX : x / 2 ^ (64 * (i + 1)) * y = X at he
    rw [hz] at he
    have e1 : (P % 18446744073709551616 + c + 0) % 18446744073709551616 = wd (x * y) i := by omega
    have e2 : x * y / 2 ^ (64 * (i + 1)) = X + (P / 18446744073709551616 + (P % 18446744073709551616 + c + 0) / 18446744073709551616) := by omega
    have e4 : IntKind.wrap .u64 (((P / 18446744073709551616 : Nat) : Int) + (((P % 18446744073709551616 + c + 0) / 18446744073709551616 : Nat) : Int)) = ((P / 18446744073709551616 + (P % 18446744073709551616 + c + 0) / 18446744073709551616 : Nat) : Int) := by
      rw [← Int.natCast_add]; exact wrap_u64_nat _ (by omega)
    obtain ⟨c', h1, h2⟩ := ih f (i + 1) (P / 18446744073709551616 + (P % 18446744073709551616 + c + 0) / 18446744073709551616) (l.set i (wd (x * y) i)) (by omega) (by omega) (by omega) (by rw [hX]; exact e2) (hm.step (by omega))
    refine ⟨c', h1, ?_⟩
    rw [umul_l0, umul_b0, decide_eq_true (show (i : Int) < 4 by omega), cond_true, if_pos (by omega), if_pos (by omega), Int.toNat_natCast, hm.at (by omega), Option.bind_some, mul64_law n _ _ bx hy, hP, show (0 : Int) = ((0 : Nat) : Int) from rfl, add64_at n _ _ 0 (by decide), if_pos (by omega), if_pos (by omega), if_pos (by omega), e1, e3, e4, ints_set]
    exact h2

theorem umul_law (n : Nat) (hn : 10 < n) (x y : Nat) (hx : x < 2 ^ 256) (hy : y < 18446744073709551616) (g : List Int → Int → Option A) : umul_k n (ints (uw x)) (y : Int) g = g (ints (uw (x * y % 2 ^ 256))) ((x * y / 2 ^ 256 : Nat) : Int) := by
  unfold umul_k umul_p
  obtain ⟨c', h1, h2⟩ := umul_l0_law n x y hy [0, 0, 0, 0] (fun y5 y6 => g y6 y5) 4 n 0 0 (uw x) (by omega) (by omega) (by omega) (by rw [Nat.mul_zero, Nat.pow_zero, Nat.div_one, Nat.div_one]; rfl) (.start _ _)
  rw [P4_zero hx, Nat.zero_mul, Nat.zero_add, show 2 ^ (64 * 4) = 2 ^ 256 from by decide] at h1
  refine Eq.trans h2 ?_
  rw [uw_mod, h1]

-- ------------------------------------------------------------ two words by one

theorem quo_of {a b q : Nat} (hb : 0 < b) (h1 : q * b ≤ a) (h2 : a / b ≤ q) : q = a / b := Nat.le_antisymm ((Nat.le_div_iff_mul_le hb).2 h1) h2

section digit
variable (y1 y0 u v : Nat)
theorem est_ok {q r : Nat} (hy1 : 0 < y1) (h : q * y1 + r = u) (hc : q * y0 ≤ 4294967296 * r + v) (hq : (u * 4294967296 + v) / (y1 * 4294967296 + y0) ≤ q) : q = (u * 4294967296 + v) / (y1 * 4294967296 + y0) := by
  refine quo_of (by omega) ?_ hq
  rw [Nat.mul_add, ← Nat.mul_assoc]
  generalize q * y1 = a at *
  generalize q * y0 = b at *
  omega
theorem est_big {q r : Nat} (hy1 : 0 < y1) (hu : u < y1 * 4294967296 + y0) (hv : v < 4294967296) (h : q * y1 + r = u) (hc : 4294967296 ≤ q ∨ 4294967296 * r + v < q * y0) : (u * 4294967296 + v) / (y1 * 4294967296 + y0) < q := by
  rcases hc with hc | hc
  · refine Nat.lt_of_lt_of_le ?_ hc
    rw [Nat.div_lt_iff_lt_mul (by omega)]
    omega
  · rw [Nat.div_lt_iff_lt_mul (by omega), Nat.mul_add, ← Nat.mul_assoc]
    generalize q * y1 = a at *
    generalize q * y0 = b at *
    omega
theorem est_start (hv : v < 4294967296) (hy1 : 0 < y1) : (u * 4294967296 + v) / (y1 * 4294967296 + y0) ≤ u / y1 := by
  rw [Nat.le_div_iff_mul_le hy1]
  have h := Nat.div_mul_le_self (u * 4294967296 + v) (y1 * 4294967296 + y0)
  generalize (u * 4294967296 + v) / (y1 * 4294967296 + y0) = Q at *
  rw [Nat.mul_add, ← Nat.mul_assoc] at h
  generalize Q * y1 = a at *
  generalize Q * y0 = b at *
  omega
theorem est_small (hy1 : 2147483648 ≤ y1) (hy0 : y0 < 4294967296) (hu : u < y1 * 4294967296 + y0) : u / y1 ≤ 4294967297 := by
  have : u / y1 < 4294967298 := by
    rw [Nat.div_lt_iff_lt_mul (by omega)]
    omega
  omega
theorem est_prod {q : Nat} (hq : q ≤ 4294967296) (hy0 : y0 < 4294967296) : q * y0 ≤ 18446744069414584320 := by
  have := Nat.mul_le_mul hq (show y0 ≤ 4294967295 by omega)
  omega

theorem div64_l0_law (L : Int → (Int → Option A) → Option A) (n : Nat) (Y S U0 : Int) (k0 : Int → Option A) (hy1 : 2147483648 ≤ y1) (hy12 : y1 < 4294967296) (hy0 : y0 < 4294967296) (hu : u < y1 * 4294967296 + y0) (hv : v < 4294967296) : ∀ (d f q r : Nat), d < f → q * y1 + r = u → r < 4294967296 → 4294967296 ≤ r + d * y1 → q ≤ 4294967297 → (u * 4294967296 + v) / (y1 * 4294967296 + y0) ≤ q →
    div64_l0 L n Y S (y1 : Int) (y0 : Int) (u : Int) (v : Int) U0 k0 f (q : Int) (r : Int) = k0 (((u * 4294967296 + v) / (y1 * 4294967296 + y0) : Nat) : Int) := by
  intro d
  induction d with
  | zero => intro f q r hf h hr hd; omega
  | succ d ih =>
    intro f q r hf h hr hd hq hQ
    obtain ⟨f, rfl⟩ : ∃ g, f = g + 1 := ⟨f - 1, by omega⟩
    have e1 : IntKind.wrap .u64 ((r : Int) + (y1 : Int)) = ((r + y1 : Nat) : Int) := by rw [← Int.natCast_add]; exact wrap_u64_nat _ (by omega)
    have e4 : IntKind.wrap .u64 (IntKind.wrap .u64 (4294967296 * (r : Int)) + (v : Int)) = ((4294967296 * r + v : Nat) : Int) := by
      rw [show 4294967296 * (r : Int) = ((4294967296 * r : Nat) : Int) from by omega, wrap_u64_nat _ (by omega), ← Int.natCast_add]; exact wrap_u64_nat _ (by omega)
    have down : (4294967296 ≤ q ∨ 4294967296 * r + v < q * y0) → (bif decide (IntKind.wrap .u64 ((r : Int) + (y1 : Int)) ≥ 4294967296) then k0 (IntKind.wrap .u64 ((q : Int) - 1)) else div64_l0 L n Y S (y1 : Int) (y0 : Int) (u : Int) (v : Int) U0 k0 f (IntKind.wrap .u64 ((q : Int) - 1)) (IntKind.wrap .u64 ((r : Int) + (y1 : Int)))) = k0 (((u * 4294967296 + v) / (y1 * 4294967296 + y0) : Nat) : Int) := fun hc => by
      have hb := est_big y1 y0 u v (by omega) hu hv h hc
      have hq0 : 0 < q := Nat.lt_of_le_of_lt (Nat.zero_le _) hb
      have e2 : IntKind.wrap .u64 ((q : Int) - 1) = ((q - 1 : Nat) : Int) := by rw [show (q : Int) - 1 = ((q - 1 : Nat) : Int) from by omega]; exact wrap_u64_nat _ (by omega)
      have h2 : (q - 1) * y1 + (r + y1) = u := by
        have : q * y1 = (q - 1) * y1 + y1 := by rw [← Nat.succ_mul, Nat.succ_eq_add_one, Nat.sub_add_cancel hq0]
        omega
      rw [e1, e2]
      by_cases hbr : 4294967296 ≤ r + y1
      · have hp := est_prod y0 (q := q - 1) (by omega) hy0
        rw [decide_eq_true (show ((r + y1 : Nat) : Int) ≥ 4294967296 by omega), cond_true, est_ok y1 y0 u v (by omega) h2 (by omega) (by omega)]
      · rw [decide_eq_false (show ¬ ((r + y1 : Nat) : Int) ≥ 4294967296 by omega), cond_false]
        exact ih f (q - 1) (r + y1) (by omega) h2 (by omega) (by rw [Nat.add_mul, Nat.one_mul] at hd; omega) (by omega) (by omega)
    rw [div64_l0, div64_b0]
    by_cases hb : 4294967296 ≤ q
    · rw [decide_eq_true (show (q : Int) ≥ 4294967296 by omega), cond_true]
      exact down (.inl hb)
    · have hp := est_prod y0 (q := q) (by omega) hy0
      have e3 : IntKind.wrap .u64 ((q : Int) * (y0 : Int)) = ((q * y0 : Nat) : Int) := by rw [← Int.natCast_mul]; exact wrap_u64_nat _ (by omega)
      rw [decide_eq_false (show ¬ (q : Int) ≥ 4294967296 by omega), cond_false, e3, e4]
      by_cases hc : 4294967296 * r + v < q * y0
      · rw [decide_eq_true (show ((q * y0 : Nat) : Int) > ((4294967296 * r + v : Nat) : Int) by omega), cond_true]
        exact down (.inr hc)
      · rw [decide_eq_false (show ¬ ((q * y0 : Nat) : Int) > ((4294967296 * r + v : Nat) : Int) by omega), cond_false, ← est_ok y1 y0 u v (by omega) h (by omega) hQ]

theorem div64_l1_law (L : Int → (Int → Option A) → Option A) (n : Nat) (Y S U0 U1 : Int) (k0 : Int → Option A) (hy1 : 2147483648 ≤ y1) (hy12 : y1 < 4294967296) (hy0 : y0 < 4294967296) (hu : u < y1 * 4294967296 + y0) (hv : v < 4294967296) : ∀ (d f q r : Nat), d < f → q * y1 + r = u → r < 4294967296 → 4294967296 ≤ r + d * y1 → q ≤ 4294967297 → (u * 4294967296 + v) / (y1 * 4294967296 + y0) ≤ q →
    div64_l1 L n Y S (y1 : Int) (y0 : Int) (v : Int) U0 U1 k0 f (r : Int) (q : Int) = k0 (((u * 4294967296 + v) / (y1 * 4294967296 + y0) : Nat) : Int) := by
  intro d
  induction d with
  | zero => intro f q r hf h hr hd; omega
  | succ d ih =>
    intro f q r hf h hr hd hq hQ
    obtain ⟨f, rfl⟩ : ∃ g, f = g + 1 := ⟨f - 1, by omega⟩
    have e1 : IntKind.wrap .u64 ((r : Int) + (y1 : Int)) = ((r + y1 : Nat) : Int) := by rw [← Int.natCast_add]; exact wrap_u64_nat _ (by omega)
    have e4 : IntKind.wrap .u64 (IntKind.wrap .u64 (4294967296 * (r : Int)) + (v : Int)) = ((4294967296 * r + v : Nat) : Int) := by
      rw [show 4294967296 * (r : Int) = ((4294967296 * r : Nat) : Int) from by omega, wrap_u64_nat _ (by omega), ← Int.natCast_add]; exact wrap_u64_nat _ (by omega)
    have down : (4294967296 ≤ q ∨ 4294967296 * r + v < q * y0) → (bif decide (IntKind.wrap .u64 ((r : Int) + (y1 : Int)) ≥ 4294967296) then k0 (IntKind.wrap .u64 ((q : Int) - 1)) else div64_l1 L n Y S (y1 : Int) (y0 : Int) (v : Int) U0 U1 k0 f (IntKind.wrap .u64 ((r : Int) + (y1 : Int))) (IntKind.wrap .u64 ((q : Int) - 1))) = k0 (((u * 4294967296 + v) / (y1 * 4294967296 + y0) : Nat) : Int) := fun hc => by
      have hb := est_big y1 y0 u v (by omega) hu hv h hc
      have hq0 : 0 < q := Nat.lt_of_le_of_lt (Nat.zero_le _) hb
      have e2 : IntKind.wrap .u64 ((q : Int) - 1) = ((q - 1 : Nat) : Int) := by rw [show (q : Int) - 1 = ((q - 1 : Nat) : Int) from by omega]; exact wrap_u64_nat _ (by omega)
      have h2 : (q - 1) * y1 + (r + y1) = u := by
        have : q * y1 = (q - 1) * y1 + y1 := by rw [← Nat.succ_mul, Nat.succ_eq_add_one, Nat.sub_add_cancel hq0]
        omega
      rw [e1, e2]
      by_cases hbr : 4294967296 ≤ r + y1
      · have hp := est_prod y0 (q := q - 1) (by omega) hy0
        rw [decide_eq_true (show ((r + y1 : Nat) : Int) ≥ 4294967296 by omega), cond_true, est_ok y1 y0 u v (by omega) h2 (by omega) (by omega)]
      · rw [decide_eq_false (show ¬ ((r + y1 : Nat) : Int) ≥ 4294967296 by omega), cond_false]
        exact ih f (q - 1) (r + y1) (by omega) h2 (by omega) (by rw [Nat.add_mul, Nat.one_mul] at hd; omega) (by omega) (by omega)
    rw [div64_l1, div64_b1]
    by_cases hb : 4294967296 ≤ q
    · rw [decide_eq_true (show (q : Int) ≥ 4294967296 by omega), cond_true]
      exact down (.inl hb)
    · have hp := est_prod y0 (q := q) (by omega) hy0
      have e3 : IntKind.wrap .u64 ((q : Int) * (y0 : Int)) = ((q * y0 : Nat) : Int) := by rw [← Int.natCast_mul]; exact wrap_u64_nat _ (by omega)
      rw [decide_eq_false (show ¬ (q : Int) ≥ 4294967296 by omega), cond_false, e3, e4]
      by_cases hc : 4294967296 * r + v < q * y0
      · rw [decide_eq_true (show ((q * y0 : Nat) : Int) > ((4294967296 * r + v : Nat) : Int) by omega), cond_true]
        exact down (.inr hc)
      · rw [decide_eq_false (show ¬ ((q * y0 : Nat) : Int) > ((4294967296 * r + v : Nat) : Int) by omega), cond_false, ← est_ok y1 y0 u v (by omega) h (by omega) hQ]
end digit

end Go.Ev
end

section
/-
  TWO WORDS BY ONE: the quotient and what is left.
-/
set_option linter.all false
namespace Go.Ev
variable {A : Type}

theorem lz64_law (n x : Nat) (hx : x < 18446744073709551616) (g : Int → Option A) : lz64_k n (x : Int) g = g ((64 - bl x : Nat) : Int) := by
  unfold lz64_k lz64_p
  have h : bl x ≤ 64 := (bl_le x 64).2 hx
  rw [len64_law n x hx, wrap_id (x := 64 - ((bl x : Nat) : Int)) (by omega) (by omega), show 64 - ((bl x : Nat) : Int) = ((64 - bl x : Nat) : Int) from by omega]

theorem wrap_rem (u v p R : Nat) (h : u * 4294967296 + v = p + R) (hR : R < 18446744073709551616) : IntKind.wrap .u64 (IntKind.wrap .u64 (IntKind.wrap .u64 ((u : Int) * 4294967296) + (v : Int)) - IntKind.wrap .u64 ((p : Nat) : Int)) = ((R : Nat) : Int) := by
  rw [wrap_u64, wrap_u64, wrap_u64, wrap_u64]
  omega

theorem start_q (u y1 : Nat) (hu : u < 18446744073709551616) (h1 : 0 < y1) : IntKind.wrap .u64 (Int.tdiv (u : Int) (y1 : Int)) = ((u / y1 : Nat) : Int) := by
  rw [tdiv_nat]
  exact wrap_u64_nat _ (Nat.lt_of_le_of_lt (Nat.div_le_self _ _) hu)
theorem start_r (u y1 : Nat) (hu : u < 18446744073709551616) : IntKind.wrap .u64 ((u : Int) - IntKind.wrap .u64 (((u / y1 : Nat) : Int) * (y1 : Int))) = ((u % y1 : Nat) : Int) := by
  have h := Nat.div_add_mod u y1
  rw [Nat.mul_comm] at h
  rw [← Int.natCast_mul]
  generalize u / y1 * y1 = p at *
  generalize u % y1 = r at *
  rw [wrap_u64_nat p (by omega), show (u : Int) - (p : Int) = (r : Int) from by omega]
  exact wrap_u64_nat _ (by omega)

theorem div_lin (U V a b R1 R0 : Nat) (h1 : U * 4294967296 + V / 4294967296 = a + R1) (h2 : R1 * 4294967296 + V % 4294967296 = b + R0) : U * 18446744073709551616 + V = a * 4294967296 + b + R0 := by
  have e : U * 18446744073709551616 = U * 4294967296 * 4294967296 := by rw [Nat.mul_assoc]
  calc U * 18446744073709551616 + V = U * 4294967296 * 4294967296 + (V / 4294967296 * 4294967296 + V % 4294967296) := by rw [e, Nat.div_add_mod']
    _ = (U * 4294967296 + V / 4294967296) * 4294967296 + V % 4294967296 := by rw [Nat.add_mul, Nat.add_assoc]
    _ = a * 4294967296 + (R1 * 4294967296 + V % 4294967296) := by rw [h1, Nat.add_mul, Nat.add_assoc]
    _ = a * 4294967296 + b + R0 := by rw [h2, Nat.add_assoc]

theorem div_final (N y s Y U V Q1 R1 Q0 R0 : Nat) (hY : Y = y * 2 ^ s) (hy : 0 < y) (h0 : N * 2 ^ s = U * 18446744073709551616 + V)
    (h1 : U * 4294967296 + V / 4294967296 = Q1 * Y + R1) (h2 : R1 * 4294967296 + V % 4294967296 = Q0 * Y + R0) (hR : R0 < Y) :
    Q1 * 4294967296 + Q0 = N / y ∧ R0 / 2 ^ s = N % y := by
  have h3 : N * 2 ^ s = (Q1 * 4294967296 + Q0) * Y + R0 := by
    have e1 : (Q1 * 4294967296 + Q0) * Y = Q1 * Y * 4294967296 + Q0 * Y := by
      rw [Nat.add_mul, Nat.mul_assoc, Nat.mul_comm 4294967296 Y, ← Nat.mul_assoc]
    rw [h0, e1]
    exact div_lin U V (Q1 * Y) (Q0 * Y) R1 R0 h1 h2
  have hp : 0 < 2 ^ s := Nat.two_pow_pos s
  constructor
  · rw [← Nat.mul_div_mul_right N y hp, ← hY, h3, Nat.add_comm (_ * Y), Nat.add_mul_div_right _ _ (by omega), Nat.div_eq_of_lt hR, Nat.zero_add]
  · have h4 : R0 = N % y * 2 ^ s := by
      rw [← Nat.mul_mod_mul_right, ← hY, h3, Nat.add_comm (_ * Y), Nat.add_mul_mod_self_right, Nat.mod_eq_of_lt hR]
    rw [h4, Nat.mul_div_cancel _ hp]

theorem div64_law (n : Nat) (hn : 10 < n) (hi lo y : Nat) (hy : y < 18446744073709551616) (hhi : hi < y) (hlo : lo < 18446744073709551616) (g : Int → Int → Option A) :
    div64_k n (hi : Int) (lo : Int) (y : Int) g = g (((hi * 18446744073709551616 + lo) / y : Nat) : Int) (((hi * 18446744073709551616 + lo) % y : Nat) : Int) := by
  unfold div64_k div64_p
  rw [show ((y : Int) == 0) = false from by rw [beq_eq_false_iff_ne]; omega, cond_false, decide_eq_false (show ¬ (y : Int) ≤ (hi : Int) by omega), cond_false]
  by_cases h0 : hi = 0
  · subst h0
    rw [show (((0 : Nat) : Int) == 0) = true from rfl, cond_true, if_neg (by omega), if_neg (by omega), tdiv_nat, tmod_nat, wrap_u64_nat (lo / y) (Nat.lt_of_le_of_lt (Nat.div_le_self _ _) hlo), Nat.zero_mul, Nat.zero_add]
  · rw [show ((hi : Int) == 0) = false from by rw [beq_eq_false_iff_ne]; omega, cond_false, lz64_law n y hy]
    have hbl : bl y ≤ 64 := (bl_le y 64).2 hy
    have hbp : 0 < bl y := bl_pos (by omega)
    have hlow : 2 ^ (bl y - 1) ≤ y := le_of_bl (by omega)
    have hhigh : y < 2 ^ bl y := lt_bl y
    generalize hs : 64 - bl y = s at *
    have hs64 : s ≤ 64 := by omega
    have hYlt : y * 2 ^ s < 18446744073709551616 := by
      calc y * 2 ^ s < 2 ^ bl y * 2 ^ s := Nat.mul_lt_mul_of_pos_right hhigh (Nat.two_pow_pos s)
        _ = 2 ^ 64 := by rw [← Nat.pow_add]; congr 1; omega
        _ = 18446744073709551616 := by decide
    have hYge : 9223372036854775808 ≤ y * 2 ^ s := by
      calc 9223372036854775808 = 2 ^ 63 := by decide
        _ = 2 ^ (bl y - 1) * 2 ^ s := by rw [← Nat.pow_add]; congr 1; omega
        _ ≤ y * 2 ^ s := Nat.mul_le_mul_right _ hlow
    have hU1 : hi * 2 ^ s + 2 ^ s ≤ y * 2 ^ s := by
      rw [← Nat.succ_mul]; exact Nat.mul_le_mul_right _ hhi
    have hls : lo * 2 ^ s / 18446744073709551616 = lo / 2 ^ (64 - s) := by
      rw [show 18446744073709551616 = 2 ^ (64 - s) * 2 ^ s from by rw [← Nat.pow_add, show 64 - s + s = 64 from by omega], Nat.mul_div_mul_right _ _ (Nat.two_pow_pos s)]
    have hlt : lo / 2 ^ (64 - s) < 2 ^ s := by
      rw [Nat.div_lt_iff_lt_mul (Nat.two_pow_pos _), ← Nat.pow_add, show s + (64 - s) = 64 from by omega]; omega
    have hN : (hi * 18446744073709551616 + lo) * 2 ^ s = (hi * 2 ^ s + lo / 2 ^ (64 - s)) * 18446744073709551616 + lo * 2 ^ s % 18446744073709551616 := by
      have := Nat.div_add_mod (lo * 2 ^ s) 18446744073709551616
      rw [hls] at this
      rw [Nat.add_mul, Nat.add_mul, Nat.mul_right_comm hi]
      omega
    have eS : IntKind.wrap .u64 ((s : Nat) : Int) = ((s : Nat) : Int) := wrap_u64_nat _ (by omega)
    have eT : IntKind.wrap .u64 (64 - ((s : Nat) : Int)) = ((64 - s : Nat) : Int) := by rw [show 64 - ((s : Nat) : Int) = ((64 - s : Nat) : Int) from by omega]; exact wrap_u64_nat _ (by omega)
    have eY : shl .u64 (y : Int) ((s : Nat) : Int) = ((y * 2 ^ s : Nat) : Int) := by rw [shl_u64 y s hs64, Nat.mod_eq_of_lt hYlt]
    have eU : ior .u64 (shl .u64 (hi : Int) ((s : Nat) : Int)) (shr .u64 (lo : Int) ((64 - s : Nat) : Int)) = ((hi * 2 ^ s + lo / 2 ^ (64 - s) : Nat) : Int) := by
      rw [shl_u64 hi s hs64, shr_u64 lo (64 - s) (by omega), Nat.mod_eq_of_lt (by omega), ior_u64 _ _ (by omega) (by omega), or_parts hi _ s hlt]
    have eV : shl .u64 (lo : Int) ((s : Nat) : Int) = ((lo * 2 ^ s % 18446744073709551616 : Nat) : Int) := shl_u64 lo s hs64
    have hV : lo * 2 ^ s % 18446744073709551616 < 18446744073709551616 := Nat.mod_lt _ (by decide)
    rw [eS, eT, eY, eU, eV]
    generalize hYY : y * 2 ^ s = Y at *
    generalize hUU : hi * 2 ^ s + lo / 2 ^ (64 - s) = U at *
    generalize lo * 2 ^ s % 18446744073709551616 = V at *
    have hUY : U < Y := by omega
    rw [shr32, shr32, and32 _ hYlt, and32 _ hV]
    have hy1 : 2147483648 ≤ Y / 4294967296 := by omega
    have hy12 : Y / 4294967296 < 4294967296 := by omega
    have hy0 : Y % 4294967296 < 4294967296 := by omega
    have hYd : Y / 4294967296 * 4294967296 + Y % 4294967296 = Y := Nat.div_add_mod' _ _
    have hv1 : V / 4294967296 < 4294967296 := by omega
    have hv0 : V % 4294967296 < 4294967296 := by omega
    rw [start_q U _ (by omega) (by omega), start_r U _ (by omega)]
    rw [if_neg (by omega), if_neg (by omega), if_neg (by omega), if_neg (by omega), if_neg (by omega)]
    have l0 := fun (k0 : Int → Option A) => div64_l0_law (Y / 4294967296) (Y % 4294967296) U (V / 4294967296) (lz64_k n) n (Y : Int) (s : Int) ((V % 4294967296 : Nat) : Int) k0 hy1 hy12 hy0 (by omega) hv1 2 n (U / (Y / 4294967296)) (U % (Y / 4294967296)) (by omega) (Nat.div_add_mod' _ _)
      (Nat.lt_trans (Nat.mod_lt _ (by omega)) hy12) (by omega) (est_small _ _ _ hy1 hy0 (by omega)) (est_start _ _ _ _ hv1 (by omega))
    rw [l0, if_neg (by omega), hYd]
    have hd1 := Nat.div_add_mod' (U * 4294967296 + V / 4294967296) Y
    have hR1 : (U * 4294967296 + V / 4294967296) % Y < Y := Nat.mod_lt _ (by omega)
    have hQ1b : (U * 4294967296 + V / 4294967296) / Y < 4294967296 := by rw [Nat.div_lt_iff_lt_mul (by omega)]; omega
    obtain ⟨Q1, hQ1⟩ : ∃ q, q = (U * 4294967296 + V / 4294967296) / Y := ⟨_, rfl⟩
    obtain ⟨R1, hR1e⟩ : ∃ q, q = (U * 4294967296 + V / 4294967296) % Y := ⟨_, rfl⟩
    rw [← hQ1] at hQ1b
    rw [← hQ1, ← hR1e] at hd1
    rw [← hR1e] at hR1
    rw [← hQ1]
    have e21 : IntKind.wrap .u64 (IntKind.wrap .u64 (IntKind.wrap .u64 ((U : Int) * 4294967296) + ((V / 4294967296 : Nat) : Int)) - IntKind.wrap .u64 ((Q1 : Int) * (Y : Int))) = ((R1 : Nat) : Int) := by
      rw [← Int.natCast_mul]; exact wrap_rem U _ _ R1 hd1.symm (by omega)
    rw [e21, start_q R1 _ (by omega) (by omega), start_r R1 _ (by omega)]
    have l1 := fun (k0 : Int → Option A) => div64_l1_law (Y / 4294967296) (Y % 4294967296) R1 (V % 4294967296) (lz64_k n) n (Y : Int) (s : Int) (Q1 : Int) (R1 : Int) k0 hy1 hy12 hy0 (by omega) hv0 2 n (R1 / (Y / 4294967296)) (R1 % (Y / 4294967296)) (by omega) (Nat.div_add_mod' _ _)
      (Nat.lt_trans (Nat.mod_lt _ (by omega)) hy12) (by omega) (est_small _ _ _ hy1 hy0 (by omega)) (est_start _ _ _ _ hv0 (by omega))
    rw [l1, if_neg (by omega), hYd]
    have hd0 := Nat.div_add_mod' (R1 * 4294967296 + V % 4294967296) Y
    have hR0 : (R1 * 4294967296 + V % 4294967296) % Y < Y := Nat.mod_lt _ (by omega)
    have hQ0 : (R1 * 4294967296 + V % 4294967296) / Y < 4294967296 := by rw [Nat.div_lt_iff_lt_mul (by omega)]; omega
    obtain ⟨Q0, hQ0e⟩ : ∃ q, q = (R1 * 4294967296 + V % 4294967296) / Y := ⟨_, rfl⟩
    obtain ⟨R0, hR0e⟩ : ∃ q, q = (R1 * 4294967296 + V % 4294967296) % Y := ⟨_, rfl⟩
    rw [← hQ0e] at hQ0
    rw [← hQ0e, ← hR0e] at hd0
    rw [← hR0e] at hR0
    rw [← hQ0e]
    have e20 : IntKind.wrap .u64 (IntKind.wrap .u64 (IntKind.wrap .u64 ((R1 : Int) * 4294967296) + ((V % 4294967296 : Nat) : Int)) - IntKind.wrap .u64 ((Q0 : Int) * (Y : Int))) = ((R0 : Nat) : Int) := by
      rw [← Int.natCast_mul]; exact wrap_rem R1 _ _ R0 hd0.symm (by omega)
    have eq : IntKind.wrap .u64 (IntKind.wrap .u64 ((Q1 : Int) * 4294967296) + (Q0 : Int)) = ((Q1 * 4294967296 + Q0 : Nat) : Int) := by
      rw [show (Q1 : Int) * 4294967296 = ((Q1 * 4294967296 : Nat) : Int) from by omega, wrap_u64_nat _ (by omega), ← Int.natCast_add]; exact wrap_u64_nat _ (by omega)
    obtain ⟨f1, f2⟩ := div_final (hi * 18446744073709551616 + lo) y s Y U V Q1 R1 Q0 R0 hYY.symm (by omega) hN hd1.symm hd0.symm hR0
    rw [e20, eq, shr_u64 R0 s hs64, f1, f2]

end Go.Ev
end

section
/-
  FUNCTION 22: printed by a program of our own (wip/gen/st.py). 'masthead/mastheadref04.Low', in continuation form; the evaluator gives it.
-/
set_option linter.all false
set_option maxRecDepth 100000
namespace Go.Ev
open Go.Proofs
variable {A : Type}

-- ============================================================ low (function 22)
def low_p (g_trim : (List Int) → ((List Int) → Option A) → Option A) (n : Nat) (a0 : (List Int)) (k : (List Int) → Option A) : Option A :=
  bif (decide ((a0.length : Int) > 16)) then
    if 16 ≤ (a0.length : Int) then
      if (0 + ((a0.drop 0).take 16).length) * 8 ≤ 140737488355328 then
        g_trim ([] ++ ((a0.drop 0).take 16)) fun r1 =>
        k r1
      else none
    else none
  else
    if (0 + a0.length) * 8 ≤ 140737488355328 then
      g_trim ([] ++ a0) fun r2 =>
      k r2
    else none

def low_k (n : Nat) (a0 : (List Int)) (k : (List Int) → Option A) : Option A := low_p (trim_k n) n a0 k

noncomputable def low_E (g_trim : (List Int) → ((List Int) → Option A) → Option A) (n : Nat) : Env A := ⟨tys, gls, [(41, trim_ent g_trim)], [], []⟩
theorem low_T (g_trim : (List Int) → ((List Int) → Option A) → Option A) (n : Nat) : TyOK Tryd.prog (low_E g_trim n) := tyOK_of rfl tysB
theorem low_fns (n : Nat) : FnsOK Tryd.prog (low_E (A := A) (trim_k n) n) := AllOK.env rfl rfl (AllOK.cons (trim_ok n) AllOK.nil)
theorem low_eqg (g_trim : (List Int) → ((List Int) → Option A) → Option A) (n : Nat) (a0 : (List Int)) (k : AV → List Blk → Option A) : fnK (low_E g_trim n) Tryd.f22 [.pure] [.p (.sl (.int .i64)) a0] [] k = low_p g_trim n a0 (fun r0 => k (.p (.sl (.int .i64)) r0) []) := by kernel_rfl
theorem low_eq (n : Nat) (a0 : (List Int)) (k : AV → List Blk → Option A) : fnK (low_E (trim_k n) n) Tryd.f22 [.pure] [.p (.sl (.int .i64)) a0] [] k = low_k n a0 (fun r0 => k (.p (.sl (.int .i64)) r0) []) := low_eqg (trim_k n) n a0 k
def low_ent (g : (List Int) → ((List Int) → Option A) → Option A) : Entry A := pureE fun args k => args1 args (.sl (.int .i64)) fun a0 => g a0 (fun r0 => k (.p (.sl (.int .i64)) r0) [])
theorem low_lo (n : Nat) : ∀ c, Tryd.f22.body = some c → ∀ q ∈ loopsOf 0 c, ∀ L, (low_E (A := A) (trim_k n) n).lps.lookup q.1 = some L → LoopOK Tryd.prog gls q.2 L :=
  lo_body (E := low_E (trim_k n) n) (by kernel_rfl : Tryd.f22.body = some (bodyOf Tryd.f22)) (lo_of (E := low_E (trim_k n) n) (by kernel_rfl : loopsOf 0 (bodyOf Tryd.f22) = []) lo_nil)
theorem low_ok (n : Nat) : FnOK Tryd.prog gls 22 (low_ent (A := A) (low_k n)) :=
  FnOK.of (low_T (trim_k n) n) (low_fns n) follows ⟨Tryd.func22, by kernel_rfl⟩ (low_lo n) (rm := [.pure]) fun args k out h => by
    obtain ⟨a0, e, h1⟩ := args1_sound h
    subst e; rw [low_eq]; exact h1

end Go.Ev
end

