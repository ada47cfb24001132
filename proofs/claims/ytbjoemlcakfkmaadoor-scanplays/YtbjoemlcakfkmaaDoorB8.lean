import Derived.Test.YtbjoemlcakfkmaaDoorB5
import Derived.Test.YtbjoemlcakfkmaaDoorB7
import Derived.Test.YtbjoemlcakfkmaaDoorB6
set_option linter.all false
section
/-
  FUNCTION 4: printed by a program of our own (wip/gen/st.py). 'masthead/mastheadlaw25.ScanStays', in continuation form; the evaluator gives it.
-/
set_option linter.all false
set_option maxRecDepth 100000
namespace Go.Ev
open Go.Proofs
variable {A : Type}

-- ============================================================ stays (function 4)
def stays_b1 (g_new_ : Int → (Int → Option A) → (Int → Int → Unit → (List ((List Int) × Int)) → Option A) → Option A) (g_awake : (Bool → Option A) → Option A) (g_step : (Int × ((List ((List Int) × ((List Int) × Unit))) × Unit)) → (Int × (Int × (Int × ((List Int) × Unit)))) → Int → Unit → (List ((List Int) × Int)) → ((Int × ((List ((List Int) × ((List Int) × Unit))) × Unit)) → Bool → Int → Unit → (List ((List Int) × Int)) → Option A) → Option A) (g_block : Int → ((List Int) → Option A) → Option A) (g_done : (List Int) → Int → Unit → (List ((List Int) × Int)) → (Bool → Int → Unit → (List ((List Int) × Int)) → Option A) → Option A) (n : Nat) (items : Int) (t27 : (List (Int × (Int × (Int × ((List Int) × Unit)))))) (t28 : Int) (t29 : Int) (k0 : Int → Unit → (List ((List Int) × Int)) → (List Int) → Option A) (k1 : Int → Unit → (List ((List Int) × Int)) → (List Int) → Option A) (r : Int → Int → Unit → (List ((List Int) × Int)) → (List Int) → Option A) (t38 : Int) (sa : Int) (sbb : Unit) (sba : (List ((List Int) × Int))) (done : (List Int)) : Option A :=
  bif (decide (t38 < 16)) then
    g_block (IntKind.wrap .u8 t38) fun r16 =>
    g_done r16 sa sbb sba fun r17 r18 r19 r20 =>
    if 0 ≤ t38 then
      if t38 < 16 then
        (done[(Int.toNat t38)]?).bind fun y21 =>
        bif (y21 == 1) then
          bif (!r17) then
            k0 r18 r19 r20 done
          else
            bif r17 then
              if 0 ≤ t38 then
                if t38 < 16 then
                  if (Int.toNat t38) < 16 then
                    r (IntKind.wrap .i64 (t38 + 1)) r18 r19 r20 (done.set (Int.toNat t38) 1)
                  else none
                else none
              else none
            else
              r (IntKind.wrap .i64 (t38 + 1)) r18 r19 r20 done
        else
          bif r17 then
            if 0 ≤ t38 then
              if t38 < 16 then
                if (Int.toNat t38) < 16 then
                  r (IntKind.wrap .i64 (t38 + 1)) r18 r19 r20 (done.set (Int.toNat t38) 1)
                else none
              else none
            else none
          else
            r (IntKind.wrap .i64 (t38 + 1)) r18 r19 r20 done
      else none
    else none
  else
    k1 sa sbb sba done

def stays_l1 (g_new_ : Int → (Int → Option A) → (Int → Int → Unit → (List ((List Int) × Int)) → Option A) → Option A) (g_awake : (Bool → Option A) → Option A) (g_step : (Int × ((List ((List Int) × ((List Int) × Unit))) × Unit)) → (Int × (Int × (Int × ((List Int) × Unit)))) → Int → Unit → (List ((List Int) × Int)) → ((Int × ((List ((List Int) × ((List Int) × Unit))) × Unit)) → Bool → Int → Unit → (List ((List Int) × Int)) → Option A) → Option A) (g_block : Int → ((List Int) → Option A) → Option A) (g_done : (List Int) → Int → Unit → (List ((List Int) × Int)) → (Bool → Int → Unit → (List ((List Int) × Int)) → Option A) → Option A) (n : Nat) (items : Int) (t27 : (List (Int × (Int × (Int × ((List Int) × Unit)))))) (t28 : Int) (t29 : Int) (k0 : Int → Unit → (List ((List Int) × Int)) → (List Int) → Option A) (k1 : Int → Unit → (List ((List Int) × Int)) → (List Int) → Option A) : Nat → Int → Int → Unit → (List ((List Int) × Int)) → (List Int) → Option A
  | 0 => fun _ _ _ _ _ => none
  | f + 1 => stays_b1 g_new_ g_awake g_step g_block g_done n items t27 t28 t29 k0 k1 (stays_l1 g_new_ g_awake g_step g_block g_done n items t27 t28 t29 k0 k1 f)

def stays_b0 (g_new_ : Int → (Int → Option A) → (Int → Int → Unit → (List ((List Int) × Int)) → Option A) → Option A) (g_awake : (Bool → Option A) → Option A) (g_step : (Int × ((List ((List Int) × ((List Int) × Unit))) × Unit)) → (Int × (Int × (Int × ((List Int) × Unit)))) → Int → Unit → (List ((List Int) × Int)) → ((Int × ((List ((List Int) × ((List Int) × Unit))) × Unit)) → Bool → Int → Unit → (List ((List Int) × Int)) → Option A) → Option A) (g_block : Int → ((List Int) → Option A) → Option A) (g_done : (List Int) → Int → Unit → (List ((List Int) × Int)) → (Bool → Int → Unit → (List ((List Int) × Int)) → Option A) → Option A) (n : Nat) (items : Int) (t27 : (List (Int × (Int × (Int × ((List Int) × Unit)))))) (t28 : Int) (k0 : Option A) (k1 : Option A) (r : Int → Int → Unit → (List ((List Int) × Int)) → (List Int) → Option A) (t29 : Int) (sa : Int) (sbb : Unit) (sba : (List ((List Int) × Int))) (done : (List Int)) : Option A :=
  bif (decide (t29 < t28)) then
    if 0 ≤ t29 then
      (t27[(Int.toNat t29)]?).bind fun y10 =>
      g_step (items, ([], ())) y10 sa sbb sba fun r11 r12 r13 r14 r15 =>
      stays_l1 g_new_ g_awake g_step g_block g_done n items t27 t28 t29 (fun y16 y17 y18 y19 =>
        k0) (fun y20 y21 y22 y23 =>
        r (IntKind.wrap .i64 (t29 + 1)) y20 y21 y22 y23) n 0 r13 r14 r15 done
    else none
  else
    k1

def stays_l0 (g_new_ : Int → (Int → Option A) → (Int → Int → Unit → (List ((List Int) × Int)) → Option A) → Option A) (g_awake : (Bool → Option A) → Option A) (g_step : (Int × ((List ((List Int) × ((List Int) × Unit))) × Unit)) → (Int × (Int × (Int × ((List Int) × Unit)))) → Int → Unit → (List ((List Int) × Int)) → ((Int × ((List ((List Int) × ((List Int) × Unit))) × Unit)) → Bool → Int → Unit → (List ((List Int) × Int)) → Option A) → Option A) (g_block : Int → ((List Int) → Option A) → Option A) (g_done : (List Int) → Int → Unit → (List ((List Int) × Int)) → (Bool → Int → Unit → (List ((List Int) × Int)) → Option A) → Option A) (n : Nat) (items : Int) (t27 : (List (Int × (Int × (Int × ((List Int) × Unit)))))) (t28 : Int) (k0 : Option A) (k1 : Option A) : Nat → Int → Int → Unit → (List ((List Int) × Int)) → (List Int) → Option A
  | 0 => fun _ _ _ _ _ => none
  | f + 1 => stays_b0 g_new_ g_awake g_step g_block g_done n items t27 t28 k0 k1 (stays_l0 g_new_ g_awake g_step g_block g_done n items t27 t28 k0 k1 f)

def stays_p (g_new_ : Int → (Int → Option A) → (Int → Int → Unit → (List ((List Int) × Int)) → Option A) → Option A) (g_awake : (Bool → Option A) → Option A) (g_step : (Int × ((List ((List Int) × ((List Int) × Unit))) × Unit)) → (Int × (Int × (Int × ((List Int) × Unit)))) → Int → Unit → (List ((List Int) × Int)) → ((Int × ((List ((List Int) × ((List Int) × Unit))) × Unit)) → Bool → Int → Unit → (List ((List Int) × Int)) → Option A) → Option A) (g_block : Int → ((List Int) → Option A) → Option A) (g_done : (List Int) → Int → Unit → (List ((List Int) × Int)) → (Bool → Int → Unit → (List ((List Int) × Int)) → Option A) → Option A) (n : Nat) (a0 : Int) (a1 : (List (Int × (Int × (Int × ((List Int) × Unit)))))) (k : Bool → Option A) : Option A :=
  g_new_ a0 (fun r1 =>
    bif (decide ((a1.length : Int) > 40)) then
      g_awake fun r2 =>
      k r2
    else
      bif (r1 != 0) then
        g_awake fun r3 =>
        k r3
      else
        k false) (fun r4 r5 r6 r7 =>
    bif (decide ((a1.length : Int) > 40)) then
      g_awake fun r8 =>
      k r8
    else
      bif (r4 != 0) then
        g_awake fun r9 =>
        k r9
      else
        stays_l0 g_new_ g_awake g_step g_block g_done n a0 a1 (a1.length : Int) (
          k false) (
          g_awake fun r24 =>
          k r24) n 0 r5 r6 r7 (List.replicate 16 (0 : Int)))

def stays_k (n : Nat) (a0 : Int) (a1 : (List (Int × (Int × (Int × ((List Int) × Unit)))))) (k : Bool → Option A) : Option A := stays_p (new__k n) (awake_k n) (step_k n) (block_k n) (done_k n) n a0 a1 k

noncomputable def stays_c0 : Code := codeAt [1, 1, 1, 1, 1, 0, 1, 0, 0] (bodyOf Tryd.f4)
def stays_d0 : List Nat := [1, 4, 6, 9, 10, 11, 12, 13, 14, 15, 16, 17, 18, 19, 20, 21, 22, 23, 25, 26, 30, 31, 32, 33, 34, 35, 36, 37, 38, 39, 40, 41, 42, 43, 44, 45, 46, 47, 48, 49, 50, 51, 52, 53, 54, 55, 56, 57, 58]
def stays_y0 : List Nat := [0, 1, 2, 3, 5, 6, 7, 8, 9, 10, 11, 12, 13, 14, 15, 16, 17, 18, 19, 20, 21, 22, 23, 24, 25, 26, 27, 28, 29, 30, 31, 32, 33, 34, 35, 36, 37, 38, 39, 40, 41, 42, 43, 44, 45, 46, 47, 48, 49, 50, 51, 52, 53, 54, 55, 56, 57, 58, 59]
def stays_sh0 : Shape := ⟨[(.p (.int .i64)), .any, .any, .any, .any, (.ptr 0), .any, (.ptr 2), .any, .any, .any, .any, .any, .any, .any, .any, .any, .any, .any, .any, .any, .any, .any, .any, .any, .any, .any, (.p (.sl kT44)), (.p (.int .i64)), (.p (.int .i64)), .any, .any, .any, .any, .any, .any, .any, .any, .any, .any, .any, .any, .any, .any, .any, .any, .any, .any, .any, .any, .any, .any, .any, .any, .any, .any, .any, .any, .any, .any], [(.var 57 kT56 (.pr (.p (.int .i64)) (.pr (.mp 1) (.p .unit)))), (.map kA32u8 (.int .u16)), (.var 43 kA16u8 (.p kA16u8))], 0⟩
def stays_x0_0 (items : Int) (t27 : (List (Int × (Int × (Int × ((List Int) × Unit)))))) (t28 : Int) : St := ⟨[.any, .any, .any, .any, .p .bool false, .any, .any, .any, .any, .any, .any, .any, .any, .any, .any, .any, .any, .any, .any, .any, .any, .any, .any, .any, .any, .any, .any, .any, .any, .any, .any, .any, .any, .any, .any, .any, .any, .any, .any, .any, .any, .any, .any, .any, .any, .any, .any, .any, .any, .any, .any, .any, .any, .any, .any, .any, .any, .any, .any, .any], [], 0⟩
def stays_x0_1 (items : Int) (t27 : (List (Int × (Int × (Int × ((List Int) × Unit)))))) (t28 : Int) : St := ⟨[.any, .any, .any, .any, .any, .any, .any, .any, .any, .any, .any, .any, .any, .any, .any, .any, .any, .any, .any, .any, .any, .any, .any, .any, .any, .any, .any, .any, .any, .any, .any, .any, .any, .any, .any, .any, .any, .any, .any, .any, .any, .any, .any, .any, .any, .any, .any, .any, .any, .any, .any, .any, .any, .any, .any, .any, .any, .any, .any, .any], [], 0⟩
def stays_g0 (g_new_ : Int → (Int → Option A) → (Int → Int → Unit → (List ((List Int) × Int)) → Option A) → Option A) (g_awake : (Bool → Option A) → Option A) (g_step : (Int × ((List ((List Int) × ((List Int) × Unit))) × Unit)) → (Int × (Int × (Int × ((List Int) × Unit)))) → Int → Unit → (List ((List Int) × Int)) → ((Int × ((List ((List Int) × ((List Int) × Unit))) × Unit)) → Bool → Int → Unit → (List ((List Int) × Int)) → Option A) → Option A) (g_block : Int → ((List Int) → Option A) → Option A) (g_done : (List Int) → Int → Unit → (List ((List Int) × Int)) → (Bool → Int → Unit → (List ((List Int) × Int)) → Option A) → Option A) (n : Nat) (d : stays_sh0.den) (k : Ex → St → Option A) : Option A :=
  stays_l0 g_new_ g_awake g_step g_block g_done n d.1.1 d.1.2.2.2.2.2.2.2.2.2.2.2.2.2.2.2.2.2.2.2.2.2.2.2.2.2.2.2.1 d.1.2.2.2.2.2.2.2.2.2.2.2.2.2.2.2.2.2.2.2.2.2.2.2.2.2.2.2.2.1 (k .ret (stays_x0_0 d.1.1 d.1.2.2.2.2.2.2.2.2.2.2.2.2.2.2.2.2.2.2.2.2.2.2.2.2.2.2.2.1 d.1.2.2.2.2.2.2.2.2.2.2.2.2.2.2.2.2.2.2.2.2.2.2.2.2.2.2.2.2.1)) (k (.exit 0) (stays_x0_1 d.1.1 d.1.2.2.2.2.2.2.2.2.2.2.2.2.2.2.2.2.2.2.2.2.2.2.2.2.2.2.2.1 d.1.2.2.2.2.2.2.2.2.2.2.2.2.2.2.2.2.2.2.2.2.2.2.2.2.2.2.2.2.1)) n d.1.2.2.2.2.2.2.2.2.2.2.2.2.2.2.2.2.2.2.2.2.2.2.2.2.2.2.2.2.2.1 d.2.1.1 d.2.1.2.2 d.2.2.1 d.2.2.2.1
noncomputable def stays_c1 : Code := codeAt [1, 1, 1, 1, 1, 0, 1, 0, 0, 1, 1, 0, 0, 1, 1, 1, 0, 0] (bodyOf Tryd.f4)
def stays_d1 : List Nat := [4, 9, 10, 11, 30, 31, 32, 33, 34, 35, 36, 37, 39, 40, 41, 42, 43, 44, 45, 46, 47, 48, 49, 50, 51, 52, 53, 54, 55, 56, 57]
def stays_y1 : List Nat := [1, 2, 3, 6, 8, 9, 10, 11, 12, 13, 14, 15, 16, 17, 18, 19, 20, 21, 22, 23, 24, 25, 26, 30, 31, 32, 33, 34, 35, 36, 37, 38, 39, 40, 41, 42, 43, 44, 45, 46, 47, 48, 49, 50, 51, 52, 53, 54, 55, 56, 57, 58, 59]
def stays_sh1 : Shape := ⟨[(.p (.int .i64)), .any, .any, .any, .any, (.ptr 0), .any, (.ptr 2), .any, .any, .any, .any, .any, .any, .any, .any, .any, .any, .any, .any, .any, .any, .any, .any, .any, .any, .any, (.p (.sl kT44)), (.p (.int .i64)), (.p (.int .i64)), .any, .any, .any, .any, .any, .any, .any, .any, (.p (.int .i64)), .any, .any, .any, .any, .any, .any, .any, .any, .any, .any, .any, .any, .any, .any, .any, .any, .any, .any, .any, .any, .any], [(.var 57 kT56 (.pr (.p (.int .i64)) (.pr (.mp 1) (.p .unit)))), (.map kA32u8 (.int .u16)), (.var 43 kA16u8 (.p kA16u8))], 0⟩
def stays_x1_0 (items : Int) (t27 : (List (Int × (Int × (Int × ((List Int) × Unit)))))) (t28 : Int) (t29 : Int) (z5 : Int) (z6 : Unit) (z7 : (List ((List Int) × Int))) (z8 : (List Int)) : St := ⟨[.p (.int .i64) items, .any, .any, .any, .p .bool false, .ptr 0 [], .any, .ptr 2 [], .any, .any, .any, .any, .any, .any, .any, .any, .any, .any, .any, .any, .any, .any, .any, .any, .any, .any, .any, .p (.sl kT44) t27, .p (.int .i64) t28, .p (.int .i64) t29, .any, .any, .any, .any, .any, .any, .any, .any, .any, .any, .any, .any, .any, .any, .any, .any, .any, .any, .any, .any, .any, .any, .any, .any, .any, .any, .any, .any, .any, .any], [.var 57 kT56 (.pr (.p (.int .i64) z5) (.pr (.mp 1) (.p .unit z6))), .map kA32u8 (.int .u16) z7, .var 43 kA16u8 (.p kA16u8 z8)], 0⟩
def stays_x1_1 (items : Int) (t27 : (List (Int × (Int × (Int × ((List Int) × Unit)))))) (t28 : Int) (t29 : Int) (z4 : Int) (z5 : Unit) (z6 : (List ((List Int) × Int))) (z7 : (List Int)) : St := ⟨[.p (.int .i64) items, .any, .any, .any, .any, .ptr 0 [], .any, .ptr 2 [], .any, .any, .any, .any, .any, .any, .any, .any, .any, .any, .any, .any, .any, .any, .any, .any, .any, .any, .any, .p (.sl kT44) t27, .p (.int .i64) t28, .p (.int .i64) t29, .any, .any, .any, .any, .any, .any, .any, .any, .any, .any, .any, .any, .any, .any, .any, .any, .any, .any, .any, .any, .any, .any, .any, .any, .any, .any, .any, .any, .any, .any], [.var 57 kT56 (.pr (.p (.int .i64) z4) (.pr (.mp 1) (.p .unit z5))), .map kA32u8 (.int .u16) z6, .var 43 kA16u8 (.p kA16u8 z7)], 0⟩
def stays_g1 (g_new_ : Int → (Int → Option A) → (Int → Int → Unit → (List ((List Int) × Int)) → Option A) → Option A) (g_awake : (Bool → Option A) → Option A) (g_step : (Int × ((List ((List Int) × ((List Int) × Unit))) × Unit)) → (Int × (Int × (Int × ((List Int) × Unit)))) → Int → Unit → (List ((List Int) × Int)) → ((Int × ((List ((List Int) × ((List Int) × Unit))) × Unit)) → Bool → Int → Unit → (List ((List Int) × Int)) → Option A) → Option A) (g_block : Int → ((List Int) → Option A) → Option A) (g_done : (List Int) → Int → Unit → (List ((List Int) × Int)) → (Bool → Int → Unit → (List ((List Int) × Int)) → Option A) → Option A) (n : Nat) (d : stays_sh1.den) (k : Ex → St → Option A) : Option A :=
  stays_l1 g_new_ g_awake g_step g_block g_done n d.1.1 d.1.2.2.2.2.2.2.2.2.2.2.2.2.2.2.2.2.2.2.2.2.2.2.2.2.2.2.2.1 d.1.2.2.2.2.2.2.2.2.2.2.2.2.2.2.2.2.2.2.2.2.2.2.2.2.2.2.2.2.1 d.1.2.2.2.2.2.2.2.2.2.2.2.2.2.2.2.2.2.2.2.2.2.2.2.2.2.2.2.2.2.1 (fun z5 z6 z7 z8 => k .ret (stays_x1_0 d.1.1 d.1.2.2.2.2.2.2.2.2.2.2.2.2.2.2.2.2.2.2.2.2.2.2.2.2.2.2.2.1 d.1.2.2.2.2.2.2.2.2.2.2.2.2.2.2.2.2.2.2.2.2.2.2.2.2.2.2.2.2.1 d.1.2.2.2.2.2.2.2.2.2.2.2.2.2.2.2.2.2.2.2.2.2.2.2.2.2.2.2.2.2.1 z5 z6 z7 z8)) (fun z4 z5 z6 z7 => k (.exit 2) (stays_x1_1 d.1.1 d.1.2.2.2.2.2.2.2.2.2.2.2.2.2.2.2.2.2.2.2.2.2.2.2.2.2.2.2.1 d.1.2.2.2.2.2.2.2.2.2.2.2.2.2.2.2.2.2.2.2.2.2.2.2.2.2.2.2.2.1 d.1.2.2.2.2.2.2.2.2.2.2.2.2.2.2.2.2.2.2.2.2.2.2.2.2.2.2.2.2.2.1 z4 z5 z6 z7)) n d.1.2.2.2.2.2.2.2.2.2.2.2.2.2.2.2.2.2.2.2.2.2.2.2.2.2.2.2.2.2.2.2.2.2.2.2.2.2.2.1 d.2.1.1 d.2.1.2.2 d.2.2.1 d.2.2.2.1
noncomputable def stays_E (g_new_ : Int → (Int → Option A) → (Int → Int → Unit → (List ((List Int) × Int)) → Option A) → Option A) (g_awake : (Bool → Option A) → Option A) (g_step : (Int × ((List ((List Int) × ((List Int) × Unit))) × Unit)) → (Int × (Int × (Int × ((List Int) × Unit)))) → Int → Unit → (List ((List Int) × Int)) → ((Int × ((List ((List Int) × ((List Int) × Unit))) × Unit)) → Bool → Int → Unit → (List ((List Int) × Int)) → Option A) → Option A) (g_block : Int → ((List Int) → Option A) → Option A) (g_done : (List Int) → Int → Unit → (List ((List Int) × Int)) → (Bool → Int → Unit → (List ((List Int) × Int)) → Option A) → Option A) (n : Nat) : Env A := ⟨tys, gls, [(6, new__ent g_new_), (7, awake_ent g_awake), (13, step_ent g_step), (14, block_ent g_block), (10, done_ent g_done)], [(0, loopE stays_d0 stays_sh0 (stays_g0 g_new_ g_awake g_step g_block g_done n)), (1, loopE stays_d1 stays_sh1 (stays_g1 g_new_ g_awake g_step g_block g_done n))], []⟩
theorem stays_T (g_new_ : Int → (Int → Option A) → (Int → Int → Unit → (List ((List Int) × Int)) → Option A) → Option A) (g_awake : (Bool → Option A) → Option A) (g_step : (Int × ((List ((List Int) × ((List Int) × Unit))) × Unit)) → (Int × (Int × (Int × ((List Int) × Unit)))) → Int → Unit → (List ((List Int) × Int)) → ((Int × ((List ((List Int) × ((List Int) × Unit))) × Unit)) → Bool → Int → Unit → (List ((List Int) × Int)) → Option A) → Option A) (g_block : Int → ((List Int) → Option A) → Option A) (g_done : (List Int) → Int → Unit → (List ((List Int) × Int)) → (Bool → Int → Unit → (List ((List Int) × Int)) → Option A) → Option A) (n : Nat) : TyOK Tryd.prog (stays_E g_new_ g_awake g_step g_block g_done n) := tyOK_of rfl tysB
theorem stays_fns (n : Nat) : FnsOK Tryd.prog (stays_E (A := A) (new__k n) (awake_k n) (step_k n) (block_k n) (done_k n) n) := AllOK.env rfl rfl (AllOK.cons (new__ok n) (AllOK.cons (awake_ok n) (AllOK.cons (step_ok n) (AllOK.cons (block_ok n) (AllOK.cons (done_ok n) AllOK.nil)))))
noncomputable def stays_LK1 (g_new_ : Int → (Int → Option A) → (Int → Int → Unit → (List ((List Int) × Int)) → Option A) → Option A) (g_awake : (Bool → Option A) → Option A) (g_step : (Int × ((List ((List Int) × ((List Int) × Unit))) × Unit)) → (Int × (Int × (Int × ((List Int) × Unit)))) → Int → Unit → (List ((List Int) × Int)) → ((Int × ((List ((List Int) × ((List Int) × Unit))) × Unit)) → Bool → Int → Unit → (List ((List Int) × Int)) → Option A) → Option A) (g_block : Int → ((List Int) → Option A) → Option A) (g_done : (List Int) → Int → Unit → (List ((List Int) × Int)) → (Bool → Int → Unit → (List ((List Int) × Int)) → Option A) → Option A) (n : Nat) (items : Int) (t27 : (List (Int × (Int × (Int × ((List Int) × Unit)))))) (t28 : Int) (t29 : Int) (k : Ex → St → Option A) (f : Nat) (t38 : Int) (sa : Int) (sbb : Unit) (sba : (List ((List Int) × Int))) (done : (List Int)) : Option A := loopK (codeK (stays_E g_new_ g_awake g_step g_block g_done n) 2 stays_c1) stays_d1 stays_y1 f (⟨[.p (.int .i64) items, .any, .any, .any, .any, .ptr 0 [], .any, .ptr 2 [], .any, .any, .any, .any, .any, .any, .any, .any, .any, .any, .any, .any, .any, .any, .any, .any, .any, .any, .any, .p (.sl kT44) t27, .p (.int .i64) t28, .p (.int .i64) t29, .any, .any, .any, .any, .any, .any, .any, .any, .p (.int .i64) t38, .any, .any, .any, .any, .any, .any, .any, .any, .any, .any, .any, .any, .any, .any, .any, .any, .any, .any, .any, .any, .any], [.var 57 kT56 (.pr (.p (.int .i64) sa) (.pr (.mp 1) (.p .unit sbb))), .map kA32u8 (.int .u16) sba, .var 43 kA16u8 (.p kA16u8 done)], 0⟩) k
theorem stays_st1 (g_new_ : Int → (Int → Option A) → (Int → Int → Unit → (List ((List Int) × Int)) → Option A) → Option A) (g_awake : (Bool → Option A) → Option A) (g_step : (Int × ((List ((List Int) × ((List Int) × Unit))) × Unit)) → (Int × (Int × (Int × ((List Int) × Unit)))) → Int → Unit → (List ((List Int) × Int)) → ((Int × ((List ((List Int) × ((List Int) × Unit))) × Unit)) → Bool → Int → Unit → (List ((List Int) × Int)) → Option A) → Option A) (g_block : Int → ((List Int) → Option A) → Option A) (g_done : (List Int) → Int → Unit → (List ((List Int) × Int)) → (Bool → Int → Unit → (List ((List Int) × Int)) → Option A) → Option A) (n f : Nat) (items : Int) (t27 : (List (Int × (Int × (Int × ((List Int) × Unit)))))) (t28 : Int) (t29 : Int) (k : Ex → St → Option A) (t38 : Int) (sa : Int) (sbb : Unit) (sba : (List ((List Int) × Int))) (done : (List Int)) : stays_LK1 g_new_ g_awake g_step g_block g_done n items t27 t28 t29 k (f + 1) t38 sa sbb sba done = stays_b1 g_new_ g_awake g_step g_block g_done n items t27 t28 t29 (fun z5 z6 z7 z8 => k .ret (stays_x1_0 items t27 t28 t29 z5 z6 z7 z8)) (fun z4 z5 z6 z7 => k (.exit 2) (stays_x1_1 items t27 t28 t29 z4 z5 z6 z7)) (stays_LK1 g_new_ g_awake g_step g_block g_done n items t27 t28 t29 k f) t38 sa sbb sba done := by kernel_rfl
theorem stays_le1 (g_new_ : Int → (Int → Option A) → (Int → Int → Unit → (List ((List Int) × Int)) → Option A) → Option A) (g_awake : (Bool → Option A) → Option A) (g_step : (Int × ((List ((List Int) × ((List Int) × Unit))) × Unit)) → (Int × (Int × (Int × ((List Int) × Unit)))) → Int → Unit → (List ((List Int) × Int)) → ((Int × ((List ((List Int) × ((List Int) × Unit))) × Unit)) → Bool → Int → Unit → (List ((List Int) × Int)) → Option A) → Option A) (g_block : Int → ((List Int) → Option A) → Option A) (g_done : (List Int) → Int → Unit → (List ((List Int) × Int)) → (Bool → Int → Unit → (List ((List Int) × Int)) → Option A) → Option A) (n : Nat) (items : Int) (t27 : (List (Int × (Int × (Int × ((List Int) × Unit)))))) (t28 : Int) (t29 : Int) (k : Ex → St → Option A) : ∀ (f : Nat) (t38 : Int) (sa : Int) (sbb : Unit) (sba : (List ((List Int) × Int))) (done : (List Int)), stays_LK1 g_new_ g_awake g_step g_block g_done n items t27 t28 t29 k f t38 sa sbb sba done = stays_l1 g_new_ g_awake g_step g_block g_done n items t27 t28 t29 (fun z5 z6 z7 z8 => k .ret (stays_x1_0 items t27 t28 t29 z5 z6 z7 z8)) (fun z4 z5 z6 z7 => k (.exit 2) (stays_x1_1 items t27 t28 t29 z4 z5 z6 z7)) f t38 sa sbb sba done := by
  intro f
  induction f with
  | zero => intros; kernel_rfl
  | succ f ih => intro t38 sa sbb sba done; exact (stays_st1 g_new_ g_awake g_step g_block g_done n f items t27 t28 t29 k t38 sa sbb sba done).trans ((congrArg (fun r => stays_b1 g_new_ g_awake g_step g_block g_done n items t27 t28 t29 (fun z5 z6 z7 z8 => k .ret (stays_x1_0 items t27 t28 t29 z5 z6 z7 z8)) (fun z4 z5 z6 z7 => k (.exit 2) (stays_x1_1 items t27 t28 t29 z4 z5 z6 z7)) r t38 sa sbb sba done) (funext fun t38 => funext fun sa => funext fun sbb => funext fun sba => funext fun done => ih t38 sa sbb sba done)).trans (by kernel_rfl))
theorem stays_lo1 (n : Nat) : LoopOK Tryd.prog gls stays_c1 (loopE stays_d1 stays_sh1 (stays_g1 (A := A) (new__k n) (awake_k n) (step_k n) (block_k n) (done_k n) n)) :=
  LoopOK.of (stays_T (new__k n) (awake_k n) (step_k n) (block_k n) (done_k n) n) (stays_fns n) follows (j := 2) (n := n) (xdead := stays_y1) (lo_of (by kernel_rfl : loopsOf 2 stays_c1 = []) lo_nil) fun d k => Eq.trans (by kernel_rfl) (stays_le1 (new__k n) (awake_k n) (step_k n) (block_k n) (done_k n) n d.1.1 d.1.2.2.2.2.2.2.2.2.2.2.2.2.2.2.2.2.2.2.2.2.2.2.2.2.2.2.2.1 d.1.2.2.2.2.2.2.2.2.2.2.2.2.2.2.2.2.2.2.2.2.2.2.2.2.2.2.2.2.1 d.1.2.2.2.2.2.2.2.2.2.2.2.2.2.2.2.2.2.2.2.2.2.2.2.2.2.2.2.2.2.1 k n d.1.2.2.2.2.2.2.2.2.2.2.2.2.2.2.2.2.2.2.2.2.2.2.2.2.2.2.2.2.2.2.2.2.2.2.2.2.2.2.1 d.2.1.1 d.2.1.2.2 d.2.2.1 d.2.2.2.1)
noncomputable def stays_LK0 (g_new_ : Int → (Int → Option A) → (Int → Int → Unit → (List ((List Int) × Int)) → Option A) → Option A) (g_awake : (Bool → Option A) → Option A) (g_step : (Int × ((List ((List Int) × ((List Int) × Unit))) × Unit)) → (Int × (Int × (Int × ((List Int) × Unit)))) → Int → Unit → (List ((List Int) × Int)) → ((Int × ((List ((List Int) × ((List Int) × Unit))) × Unit)) → Bool → Int → Unit → (List ((List Int) × Int)) → Option A) → Option A) (g_block : Int → ((List Int) → Option A) → Option A) (g_done : (List Int) → Int → Unit → (List ((List Int) × Int)) → (Bool → Int → Unit → (List ((List Int) × Int)) → Option A) → Option A) (n : Nat) (items : Int) (t27 : (List (Int × (Int × (Int × ((List Int) × Unit)))))) (t28 : Int) (k : Ex → St → Option A) (f : Nat) (t29 : Int) (sa : Int) (sbb : Unit) (sba : (List ((List Int) × Int))) (done : (List Int)) : Option A := loopK (codeK (stays_E g_new_ g_awake g_step g_block g_done n) 1 stays_c0) stays_d0 stays_y0 f (⟨[.p (.int .i64) items, .any, .any, .any, .any, .ptr 0 [], .any, .ptr 2 [], .any, .any, .any, .any, .any, .any, .any, .any, .any, .any, .any, .any, .any, .any, .any, .any, .any, .any, .any, .p (.sl kT44) t27, .p (.int .i64) t28, .p (.int .i64) t29, .any, .any, .any, .any, .any, .any, .any, .any, .any, .any, .any, .any, .any, .any, .any, .any, .any, .any, .any, .any, .any, .any, .any, .any, .any, .any, .any, .any, .any, .any], [.var 57 kT56 (.pr (.p (.int .i64) sa) (.pr (.mp 1) (.p .unit sbb))), .map kA32u8 (.int .u16) sba, .var 43 kA16u8 (.p kA16u8 done)], 0⟩) k
theorem stays_st0 (g_new_ : Int → (Int → Option A) → (Int → Int → Unit → (List ((List Int) × Int)) → Option A) → Option A) (g_awake : (Bool → Option A) → Option A) (g_step : (Int × ((List ((List Int) × ((List Int) × Unit))) × Unit)) → (Int × (Int × (Int × ((List Int) × Unit)))) → Int → Unit → (List ((List Int) × Int)) → ((Int × ((List ((List Int) × ((List Int) × Unit))) × Unit)) → Bool → Int → Unit → (List ((List Int) × Int)) → Option A) → Option A) (g_block : Int → ((List Int) → Option A) → Option A) (g_done : (List Int) → Int → Unit → (List ((List Int) × Int)) → (Bool → Int → Unit → (List ((List Int) × Int)) → Option A) → Option A) (n f : Nat) (items : Int) (t27 : (List (Int × (Int × (Int × ((List Int) × Unit)))))) (t28 : Int) (k : Ex → St → Option A) (t29 : Int) (sa : Int) (sbb : Unit) (sba : (List ((List Int) × Int))) (done : (List Int)) : stays_LK0 g_new_ g_awake g_step g_block g_done n items t27 t28 k (f + 1) t29 sa sbb sba done = stays_b0 g_new_ g_awake g_step g_block g_done n items t27 t28 (k .ret (stays_x0_0 items t27 t28)) (k (.exit 0) (stays_x0_1 items t27 t28)) (stays_LK0 g_new_ g_awake g_step g_block g_done n items t27 t28 k f) t29 sa sbb sba done := by kernel_rfl
theorem stays_le0 (g_new_ : Int → (Int → Option A) → (Int → Int → Unit → (List ((List Int) × Int)) → Option A) → Option A) (g_awake : (Bool → Option A) → Option A) (g_step : (Int × ((List ((List Int) × ((List Int) × Unit))) × Unit)) → (Int × (Int × (Int × ((List Int) × Unit)))) → Int → Unit → (List ((List Int) × Int)) → ((Int × ((List ((List Int) × ((List Int) × Unit))) × Unit)) → Bool → Int → Unit → (List ((List Int) × Int)) → Option A) → Option A) (g_block : Int → ((List Int) → Option A) → Option A) (g_done : (List Int) → Int → Unit → (List ((List Int) × Int)) → (Bool → Int → Unit → (List ((List Int) × Int)) → Option A) → Option A) (n : Nat) (items : Int) (t27 : (List (Int × (Int × (Int × ((List Int) × Unit)))))) (t28 : Int) (k : Ex → St → Option A) : ∀ (f : Nat) (t29 : Int) (sa : Int) (sbb : Unit) (sba : (List ((List Int) × Int))) (done : (List Int)), stays_LK0 g_new_ g_awake g_step g_block g_done n items t27 t28 k f t29 sa sbb sba done = stays_l0 g_new_ g_awake g_step g_block g_done n items t27 t28 (k .ret (stays_x0_0 items t27 t28)) (k (.exit 0) (stays_x0_1 items t27 t28)) f t29 sa sbb sba done := by
  intro f
  induction f with
  | zero => intros; kernel_rfl
  | succ f ih => intro t29 sa sbb sba done; exact (stays_st0 g_new_ g_awake g_step g_block g_done n f items t27 t28 k t29 sa sbb sba done).trans ((congrArg (fun r => stays_b0 g_new_ g_awake g_step g_block g_done n items t27 t28 (k .ret (stays_x0_0 items t27 t28)) (k (.exit 0) (stays_x0_1 items t27 t28)) r t29 sa sbb sba done) (funext fun t29 => funext fun sa => funext fun sbb => funext fun sba => funext fun done => ih t29 sa sbb sba done)).trans (by kernel_rfl))
theorem stays_lo0 (n : Nat) : LoopOK Tryd.prog gls stays_c0 (loopE stays_d0 stays_sh0 (stays_g0 (A := A) (new__k n) (awake_k n) (step_k n) (block_k n) (done_k n) n)) :=
  LoopOK.of (stays_T (new__k n) (awake_k n) (step_k n) (block_k n) (done_k n) n) (stays_fns n) follows (j := 1) (n := n) (xdead := stays_y0) (lo_of (by kernel_rfl : loopsOf 1 stays_c0 = [(1, stays_c1)]) (lo_cons rfl (stays_lo1 n) lo_nil)) fun d k => Eq.trans (by kernel_rfl) (stays_le0 (new__k n) (awake_k n) (step_k n) (block_k n) (done_k n) n d.1.1 d.1.2.2.2.2.2.2.2.2.2.2.2.2.2.2.2.2.2.2.2.2.2.2.2.2.2.2.2.1 d.1.2.2.2.2.2.2.2.2.2.2.2.2.2.2.2.2.2.2.2.2.2.2.2.2.2.2.2.2.1 k n d.1.2.2.2.2.2.2.2.2.2.2.2.2.2.2.2.2.2.2.2.2.2.2.2.2.2.2.2.2.2.1 d.2.1.1 d.2.1.2.2 d.2.2.1 d.2.2.2.1)
theorem stays_eqg (g_new_ : Int → (Int → Option A) → (Int → Int → Unit → (List ((List Int) × Int)) → Option A) → Option A) (g_awake : (Bool → Option A) → Option A) (g_step : (Int × ((List ((List Int) × ((List Int) × Unit))) × Unit)) → (Int × (Int × (Int × ((List Int) × Unit)))) → Int → Unit → (List ((List Int) × Int)) → ((Int × ((List ((List Int) × ((List Int) × Unit))) × Unit)) → Bool → Int → Unit → (List ((List Int) × Int)) → Option A) → Option A) (g_block : Int → ((List Int) → Option A) → Option A) (g_done : (List Int) → Int → Unit → (List ((List Int) × Int)) → (Bool → Int → Unit → (List ((List Int) × Int)) → Option A) → Option A) (n : Nat) (a0 : Int) (a1 : (List (Int × (Int × (Int × ((List Int) × Unit)))))) (k : AV → List Blk → Option A) : fnK (stays_E g_new_ g_awake g_step g_block g_done n) Tryd.f4 [.pure] [.p (.int .i64) a0, .p (.sl kT44) a1] [] k = stays_p g_new_ g_awake g_step g_block g_done n a0 a1 (fun r0 => k (.p .bool r0) []) := by kernel_rfl
theorem stays_eq (n : Nat) (a0 : Int) (a1 : (List (Int × (Int × (Int × ((List Int) × Unit)))))) (k : AV → List Blk → Option A) : fnK (stays_E (new__k n) (awake_k n) (step_k n) (block_k n) (done_k n) n) Tryd.f4 [.pure] [.p (.int .i64) a0, .p (.sl kT44) a1] [] k = stays_k n a0 a1 (fun r0 => k (.p .bool r0) []) := stays_eqg (new__k n) (awake_k n) (step_k n) (block_k n) (done_k n) n a0 a1 k
def stays_ent (g : Int → (List (Int × (Int × (Int × ((List Int) × Unit))))) → (Bool → Option A) → Option A) : Entry A := pureE fun args k => args2 args (.int .i64) (.sl kT44) fun a0 a1 => g a0 a1 (fun r0 => k (.p .bool r0) [])
theorem stays_lo (n : Nat) : ∀ c, Tryd.f4.body = some c → ∀ q ∈ loopsOf 0 c, ∀ L, (stays_E (A := A) (new__k n) (awake_k n) (step_k n) (block_k n) (done_k n) n).lps.lookup q.1 = some L → LoopOK Tryd.prog gls q.2 L :=
  lo_body (E := stays_E (new__k n) (awake_k n) (step_k n) (block_k n) (done_k n) n) (by kernel_rfl : Tryd.f4.body = some (bodyOf Tryd.f4)) (lo_of (E := stays_E (new__k n) (awake_k n) (step_k n) (block_k n) (done_k n) n) (by kernel_rfl : loopsOf 0 (bodyOf Tryd.f4) = [(0, stays_c0), (1, stays_c1)]) (lo_cons rfl (stays_lo0 n) (lo_cons rfl (stays_lo1 n) lo_nil)))
theorem stays_ok (n : Nat) : FnOK Tryd.prog gls 4 (stays_ent (A := A) (stays_k n)) :=
  FnOK.of (stays_T (new__k n) (awake_k n) (step_k n) (block_k n) (done_k n) n) (stays_fns n) follows ⟨Tryd.func4, by kernel_rfl⟩ (stays_lo n) (rm := [.pure]) fun args k out h => by
    obtain ⟨a0, a1, e, h1⟩ := args2_sound h
    subst e; rw [stays_eq]; exact h1

end Go.Ev
end

section
/-
  THE LAW OF ScanStays.
-/
set_option linter.all false
namespace Go.Ev
variable {A : Type}

abbrev KN := Int × (List (BK × (List Int × Unit)) × Unit)
abbrev SOP := Int × (Int × (Int × (List Int × Unit)))

/-- Is a block done? -/
def dn (m : SM) (x : BK) : Bool := (mget kA32u8 m x).isSome && ((mget kA32u8 m x).getD 0 == 0)
theorem done_law (n : Nat) (x : BK) (sa : Int) (m : SM) (k : Bool → Int → Unit → SM → Option A) : done_k n x sa () m k = k (dn m x) sa () m := by
  unfold done_k done_p dn
  cases mget kA32u8 m x <;> rfl

theorem dn_put (m : SM) (x : BK) (v : Int) (y : BK) : dn (mset kA32u8 m x v) y = if @decide (x = y) (kA32u8.dec x y) then (v == 0) else dn m y := by
  unfold dn
  rw [mget_mset]
  by_cases h : x = y
  · rw [if_pos (by simpa using h), if_pos (by simpa using h)]; rfl
  · rw [if_neg (by simpa using h), if_neg (by simpa using h)]

/-- What was done is done. -/
def Keeps (m m' : SM) : Prop := ∀ y, dn m y = true → dn m' y = true
theorem Keeps.refl (m : SM) : Keeps m m := fun _ h => h
theorem keeps_put {m : SM} {x : BK} {v : Int} (h : dn m x = false ∨ v = 0) : Keeps m (mset kA32u8 m x v) := fun y hy => by
  rw [dn_put]
  by_cases hxy : x = y
  · subst hxy
    rw [if_pos (by simp)]
    rcases h with h | h
    · rw [h] at hy; cases hy
    · rw [h]; rfl
  · rw [if_neg (by simpa using hxy)]; exact hy

-- ------------------------------------------------------------ the document's, of nothing known

theorem find_nil (n : Nat) (hn : 0 < n) (it : Int) (x : BK) (g : Int → Option A) : find_k n (it, ([], ())) x g = g (-1) := by
  obtain ⟨n, rfl⟩ : ∃ m, n = m + 1 := ⟨n - 1, by omega⟩
  rfl
theorem put_nil (n : Nat) (hn : 0 < n) (it : Int) (q : BK × (List Int × Unit)) : ∃ r : KN, ∀ g : KN → Option A, put__k n (it, ([], ())) q g = g r := by
  obtain ⟨n, rfl⟩ : ∃ m, n = m + 1 := ⟨n - 1, by omega⟩
  exact ⟨(it, ([q], ())), fun g => rfl⟩

theorem rfilter_l0_law (n : Nat) (it : Nat) (hit : it ≤ 8) (l : List Int) (hl : l.length ≤ 9223372036854775807) (hn : l.length < n) (G1 : KN → BK → (Int → Option A) → Option A) (G3 : KN → (BK × (List Int × Unit)) → (KN → Option A) → Option A) (x : BK) (t6 : KN) (s2 : List (BK × (List Int × Unit)) × Unit) : ∀ (d f i : Nat) (o : List Int), i + d = it → d < f → o.length ≤ i →
    ∃ o' : List Int, ∀ k0 : List Int → Option A, rfilter_l0 G1 (has_k n) G3 n l ((it : Int), s2) x t6 k0 f (i : Int) o = k0 o' := by
  intro d
  induction d with
  | zero =>
    intro f i o hi hf ho
    obtain ⟨f, rfl⟩ : ∃ g, f = g + 1 := ⟨f - 1, by omega⟩
    exact ⟨o, fun k0 => by rw [rfilter_l0, rfilter_b0, decide_eq_false (show ¬ (i : Int) < (it : Int) by omega), cond_false]⟩
  | succ d ih =>
    intro f i o hi hf ho
    obtain ⟨f, rfl⟩ : ∃ g, f = g + 1 := ⟨f - 1, by omega⟩
    have e1 : IntKind.wrap .i64 ((i : Int) + 1) = ((i + 1 : Nat) : Int) := by rw [wrap_id (by omega) (by omega)]; omega
    by_cases h : (i : Int) ∈ l
    · obtain ⟨o', ho'⟩ := ih f (i + 1) (o ++ [(i : Int)]) (by omega) (by omega) (by rw [List.length_append, List.length_singleton]; omega)
      exact ⟨o', fun k0 => by rw [rfilter_l0, rfilter_b0, decide_eq_true (show (i : Int) < (it : Int) by omega), cond_true, has_law n l _ hl hn, decide_eq_true h, cond_true, if_pos (by omega), e1]; exact ho' k0⟩
    · obtain ⟨o', ho'⟩ := ih f (i + 1) o (by omega) (by omega) (by omega)
      exact ⟨o', fun k0 => by rw [rfilter_l0, rfilter_b0, decide_eq_true (show (i : Int) < (it : Int) by omega), cond_true, has_law n l _ hl hn, decide_eq_false h, cond_false, e1]; exact ho' k0⟩

theorem rfilter_nil (n : Nat) (it : Nat) (hit : it ≤ 8) (hn : 20 < n) (x : BK) (l : List Int) (hl : l.length ≤ 9223372036854775807) (hln : l.length < n) : ∃ (r : KN) (e : Int), ∀ g : KN → Int → Option A, rfilter_k n ((it : Int), ([], ())) x l g = g r e := by
  obtain ⟨o', ho'⟩ := rfilter_l0_law (A := A) n it hit l hl hln (find_k n) (put__k n) x (0, ([], ())) ([], ()) it n 0 [] (by omega) (by omega) (by simp)
  obtain ⟨r, hr⟩ := put_nil (A := A) n (by omega) (it : Int) (x, (o', ()))
  refine ⟨r, 0, fun g => ?_⟩
  unfold rfilter_k rfilter_p
  rw [find_nil n (by omega), decide_eq_false (by decide), cond_false]
  exact (ho' _).trans (hr _)
theorem rproof_nil (n : Nat) (it : Int) (hn : 20 < n) (x : BK) (item : Int) (g : KN → Int → Option A) : rproof_k n (it, ([], ())) x item g = g (it, ([], ())) 6 := by
  unfold rproof_k rproof_p
  rw [find_nil n (by omega), decide_eq_true (by decide), cond_true]
theorem rskip_nil (n : Nat) (it : Int) (hn : 20 < n) (x : BK) : ∃ r : KN, ∀ g : KN → Option A, rskip_k n (it, ([], ())) x g = g r := by
  obtain ⟨r, hr⟩ := put_nil (A := A) n (by omega) it (x, ([], ()))
  exact ⟨r, fun g => hr _⟩

-- ------------------------------------------------------------ the program's

theorem filter_any_l0 (n : Nat) (sa : Int) (m : SM) (x : BK) (l : List Int) (hl : l.length ≤ 9223372036854775807) (hsa : sa ≤ 8) : ∀ (d f i : Nat) (w : Int), i + d = l.length → d < f →
    ∃ w', ∀ k0 : Int → Option A, filter_l0 n l (l.length : Int) sa () m x k0 f w (i : Int) = k0 w' := by
  intro d
  induction d with
  | zero =>
    intro f i w hi hf
    obtain ⟨f, rfl⟩ : ∃ g, f = g + 1 := ⟨f - 1, by omega⟩
    exact ⟨w, fun k0 => by rw [filter_l0, filter_b0, decide_eq_false (by omega), cond_false]⟩
  | succ d ih =>
    intro f i w hi hf
    obtain ⟨f, rfl⟩ : ∃ g, f = g + 1 := ⟨f - 1, by omega⟩
    have hlt : i < l.length := by omega
    have e1 : IntKind.wrap .i64 ((i : Int) + 1) = ((i + 1 : Nat) : Int) := by rw [wrap_id (by omega) (by omega)]; omega
    have step : ∀ k0 : Int → Option A, filter_l0 n l (l.length : Int) sa () m x k0 (f + 1) w (i : Int) = bif (decide (l[i] ≥ 0)) then (bif (decide (l[i] < sa)) then (if l[i] < 0 then none else filter_l0 n l (l.length : Int) sa () m x k0 f (ior .u16 w (shl .u16 1 l[i])) ((i + 1 : Nat) : Int)) else filter_l0 n l (l.length : Int) sa () m x k0 f w ((i + 1 : Nat) : Int)) else filter_l0 n l (l.length : Int) sa () m x k0 f w ((i + 1 : Nat) : Int) := fun k0 => by
      rw [filter_l0, filter_b0, decide_eq_true (by omega), cond_true, if_pos (by omega), Int.toNat_natCast, List.getElem?_eq_getElem hlt, Option.bind_some, e1]
    by_cases h1 : l[i] ≥ 0
    · by_cases h2 : l[i] < sa
      · obtain ⟨w', hw'⟩ := ih f (i + 1) (ior .u16 w (shl .u16 1 l[i])) (by omega) (by omega)
        exact ⟨w', fun k0 => by rw [step, decide_eq_true h1, cond_true, decide_eq_true h2, cond_true, if_neg (by omega)]; exact hw' k0⟩
      · obtain ⟨w', hw'⟩ := ih f (i + 1) w (by omega) (by omega)
        exact ⟨w', fun k0 => by rw [step, decide_eq_true h1, cond_true, decide_eq_false h2, cond_false]; exact hw' k0⟩
    · obtain ⟨w', hw'⟩ := ih f (i + 1) w (by omega) (by omega)
      exact ⟨w', fun k0 => by rw [step, decide_eq_false h1, cond_false]; exact hw' k0⟩

theorem filter_any (n : Nat) (sa : Int) (hsa : sa ≤ 8) (m : SM) (x : BK) (l : List Int) (hl : l.length ≤ 9223372036854775807) (hn : l.length < n) : ∃ (e : Int) (m' : SM), Keeps m m' ∧ ∀ k : Int → Int → Unit → SM → Option A, filter_k n x l sa () m k = k e sa () m' := by
  cases hx : mget kA32u8 m x with
  | some v => exact ⟨7, m, .refl m, fun k => by unfold filter_k filter_p; rw [hx]; rfl⟩
  | none =>
    obtain ⟨w, hw⟩ := filter_any_l0 (A := A) n sa m x l hl hsa l.length n 0 0 (by omega) (by omega)
    refine ⟨0, mset kA32u8 m x w, keeps_put (.inl (by unfold dn; rw [hx]; rfl)), fun k => ?_⟩
    unfold filter_k filter_p
    rw [hx]
    exact hw _

theorem shr_zero16 (t : Int) : shr .u16 0 t = 0 := by unfold shr; rw [Int.zero_fdiv]
theorem proof_any (n : Nat) (sa : Int) (m : SM) (x : BK) (item : Int) : ∃ (e : Int) (m' : SM), Keeps m m' ∧ ∀ k : Int → Int → Unit → SM → Option A, proof_k n x item sa () m k = k e sa () m' := by
  unfold proof_k proof_p
  by_cases h1 : item < 0
  · exact ⟨6, m, .refl m, fun k => by rw [decide_eq_true h1, cond_true]⟩
  · by_cases h2 : item ≥ sa
    · exact ⟨6, m, .refl m, fun k => by rw [decide_eq_false h1, cond_false, decide_eq_true h2, cond_true]⟩
    · cases h3 : (iand .u16 (shr .u16 ((mget kA32u8 m x).getD 0) item) 1 == 0) with
      | true => exact ⟨6, m, .refl m, fun k => by rw [decide_eq_false h1, cond_false, decide_eq_false h2, cond_false, if_neg h1, cond_true]⟩
      | false =>
        refine ⟨0, _, ?_, fun k => by rw [decide_eq_false h1, cond_false, decide_eq_false h2, cond_false, if_neg h1, cond_false, if_neg h1, mset_mset]⟩
        refine keeps_put (.inl ?_)
        cases hd : dn m x with
        | false => rfl
        | true =>
          unfold dn at hd
          have h0 : (mget kA32u8 m x).getD 0 = 0 := by
            have := (Bool.and_eq_true_iff.1 hd).2
            simpa using this
          rw [h0, shr_zero16] at h3
          exact absurd h3 (by decide)

theorem step_stay (n : Nat) (it : Nat) (hit : it ≤ 8) (hn : 20 < n) (o : SOP) (m : SM) (hl : o.2.2.2.1.length ≤ 9223372036854775807) (hln : o.2.2.2.1.length < n) :
    ∃ (r : KN) (b : Bool) (m' : SM), Keeps m m' ∧ ∀ g : KN → Bool → Int → Unit → SM → Option A, step_k n ((it : Int), ([], ())) o (it : Int) () m g = g r b (it : Int) () m' := by
  have hst : ∀ g : KN → Bool → Int → Unit → SM → Option A, step_k n ((it : Int), ([], ())) o (it : Int) () m g = step_p (block_k n) (rfilter_k n) (filter_k n) (rproof_k n) (proof_k n) (skip_k n) (rskip_k n) n ((it : Int), ([], ())) o (it : Int) () m g := fun g => rfl
  have hb : ∀ (y : Int) (g : BK → Option A), block_k n y g = g (blk y) := fun y g => rfl
  by_cases h1 : o.1 = 1
  · obtain ⟨r, e, hr⟩ := rfilter_nil (A := A) n it hit hn (blk o.2.1) o.2.2.2.1 hl hln
    obtain ⟨e', m', hk, hm'⟩ := filter_any (A := A) n (it : Int) (by omega) m (blk o.2.1) o.2.2.2.1 hl hln
    exact ⟨r, e' == e, m', hk, fun g => by rw [hst]; unfold step_p; rw [hb, show (o.1 == 1) = true from by rw [h1]; rfl, cond_true, hr, hm']⟩
  · by_cases h2 : o.1 = 2
    · obtain ⟨e', m', hk, hm'⟩ := proof_any (A := A) n (it : Int) m (blk o.2.1) o.2.2.1
      exact ⟨_, e' == 6, m', hk, fun g => by rw [hst]; unfold step_p; rw [hb, beq_eq_false_iff_ne.2 h1, cond_false, show (o.1 == 2) = true from by rw [h2]; rfl, cond_true, rproof_nil n _ hn, hm']⟩
    · by_cases h3 : o.1 = 3
      · obtain ⟨r, hr⟩ := rskip_nil (A := A) n (it : Int) hn (blk o.2.1)
        exact ⟨r, true, mset kA32u8 m (blk o.2.1) 0, keeps_put (.inr rfl), fun g => by
          rw [hst]; unfold step_p
          rw [hb, beq_eq_false_iff_ne.2 h1, cond_false, beq_eq_false_iff_ne.2 h2, cond_false, show (o.1 == 3) = true from by rw [h3]; rfl, cond_true]
          show rskip_k n ((it : Int), ([], ())) (blk o.2.1) (fun r17 => g r17 true (it : Int) () (mset kA32u8 m (blk o.2.1) 0)) = _
          rw [hr]⟩
      · exact ⟨_, true, m, .refl m, fun g => by rw [hst]; unfold step_p; rw [hb, beq_eq_false_iff_ne.2 h1, cond_false, beq_eq_false_iff_ne.2 h2, cond_false, beq_eq_false_iff_ne.2 h3, cond_false]⟩

/-- What was seen to be done, by numbers. -/
def Seen (m : SM) (D : List Int) : Prop := D.length = 16 ∧ ∀ j : Nat, j < 16 → ∃ v : Int, D[j]? = some v ∧ (v = 1 → dn m (blk (IntKind.wrap .u8 (j : Int))) = true)

theorem stays_l1_law (n : Nat) (it : Int) (t27 : List SOP) (t28 t29 : Int) (m : SM) (k0 : Int → Unit → SM → List Int → Option A) (k1 : Int → Unit → SM → List Int → Option A) (out : Option A) (hk : ∀ D, Seen m D → k1 it () m D = out) :
    ∀ (d f j : Nat) (D : List Int), j + d = 16 → d < f → Seen m D →
    stays_l1 (new__k n) (awake_k n) (step_k n) (block_k n) (done_k n) n it t27 t28 t29 k0 k1 f (j : Int) it () m D = out := by
  intro d
  induction d with
  | zero =>
    intro f j D hj hf hD
    obtain ⟨f, rfl⟩ : ∃ g, f = g + 1 := ⟨f - 1, by omega⟩
    rw [stays_l1, stays_b1, decide_eq_false (by omega), cond_false]
    exact hk D hD
  | succ d ih =>
    intro f j D hj hf hD
    obtain ⟨f, rfl⟩ : ∃ g, f = g + 1 := ⟨f - 1, by omega⟩
    have e1 : IntKind.wrap .i64 ((j : Int) + 1) = ((j + 1 : Nat) : Int) := by rw [wrap_id (by omega) (by omega)]; omega
    have hb : ∀ (y : Int) (g : BK → Option A), block_k n y g = g (blk y) := fun y g => rfl
    obtain ⟨v, hv, hv1⟩ := hD.2 j (by omega)
    rw [stays_l1, stays_b1, decide_eq_true (by omega), cond_true, hb, done_law, if_pos (by omega), if_pos (by omega), Int.toNat_natCast, hv, Option.bind_some, e1]
    have same := ih f (j + 1) D (by omega) (by omega) hD
    have setD : dn m (blk (IntKind.wrap .u8 (j : Int))) = true → Seen m (D.set j 1) := fun hd => by
      refine ⟨by rw [List.length_set]; exact hD.1, fun q hq => ?_⟩
      by_cases hjq : j = q
      · subst hjq; exact ⟨1, by rw [List.getElem?_set_self (by rw [hD.1]; exact hq)], fun _ => hd⟩
      · obtain ⟨u, hu, hu1⟩ := hD.2 q hq
        exact ⟨u, by rw [List.getElem?_set_ne hjq]; exact hu, hu1⟩
    cases hd : dn m (blk (IntKind.wrap .u8 (j : Int))) with
    | true =>
      have := ih f (j + 1) (D.set j 1) (by omega) (by omega) (setD hd)
      rw [Bool.not_true, cond_false, cond_true, if_pos (by omega), if_pos (by omega), if_pos (by omega)]
      cases (v == 1) <;> exact this
    | false =>
      have hne : (v == 1) = false := beq_eq_false_iff_ne.2 fun h => by have := hv1 h; rw [hd] at this; cases this
      rw [hne, cond_false, cond_false]
      exact same

theorem Seen.keeps {m m' : SM} {D : List Int} (h : Seen m D) (hk : Keeps m m') : Seen m' D := ⟨h.1, fun j hj => by
  obtain ⟨v, h1, h2⟩ := h.2 j hj
  exact ⟨v, h1, fun hv => hk _ (h2 hv)⟩⟩

theorem stays_l0_law (n : Nat) (it : Nat) (hit : it ≤ 8) (hn : 50 < n) (l : List SOP) (hl : l.length ≤ 40) (hops : ∀ o ∈ l, o.2.2.2.1.length ≤ 9223372036854775807 ∧ o.2.2.2.1.length < n) (k0 k1 : Option A) : ∀ (d f i : Nat) (m : SM) (D : List Int), i + d = l.length → d < f → Seen m D →
    stays_l0 (new__k n) (awake_k n) (step_k n) (block_k n) (done_k n) n (it : Int) l (l.length : Int) k0 k1 f (i : Int) (it : Int) () m D = k1 := by
  intro d
  induction d with
  | zero =>
    intro f i m D hi hf hD
    obtain ⟨f, rfl⟩ : ∃ g, f = g + 1 := ⟨f - 1, by omega⟩
    rw [stays_l0, stays_b0, decide_eq_false (by omega), cond_false]
  | succ d ih =>
    intro f i m D hi hf hD
    obtain ⟨f, rfl⟩ : ∃ g, f = g + 1 := ⟨f - 1, by omega⟩
    have hlt : i < l.length := by omega
    have e1 : IntKind.wrap .i64 ((i : Int) + 1) = ((i + 1 : Nat) : Int) := by rw [wrap_id (by omega) (by omega)]; omega
    obtain ⟨q1, q2⟩ := hops l[i] (List.getElem_mem hlt)
    obtain ⟨r, b, m', hk, hstep⟩ := step_stay (A := A) n it hit (by omega) l[i] m q1 q2
    rw [stays_l0, stays_b0, decide_eq_true (by omega), cond_true, if_pos (by omega), Int.toNat_natCast, List.getElem?_eq_getElem hlt, Option.bind_some, hstep]
    refine stays_l1_law n (it : Int) l (l.length : Int) (i : Int) m' _ _ k1 (fun D' hD' => ?_) 16 n 0 D (by omega) (by omega) (hD.keeps hk)
    rw [e1]
    exact ih f (i + 1) m' D' (by omega) (by omega) hD'

theorem maxlen_fuel (l : List SOP) : ∃ N : Nat, ∀ o ∈ l, o.2.2.2.1.length < N := by
  induction l with
  | nil => exact ⟨0, fun o h => by cases h⟩
  | cons o r ih =>
    obtain ⟨N, h⟩ := ih
    refine ⟨N + o.2.2.2.1.length + 1, fun q hq => ?_⟩
    rcases List.mem_cons.1 hq with rfl | hq
    · omega
    · have := h q hq; omega

theorem stays_main (a0 : Int) (a1 : List SOP) (f0 : WF (.int .i64) a0) (hl : ∀ o ∈ a1, o.2.2.2.1.length ≤ 9223372036854775807) : ∃ n, stays_k n a0 a1 (fun r => some r) = some true := by
  obtain ⟨N, hN⟩ := maxlen_fuel a1
  refine ⟨(N + 100) + 30, ?_⟩
  have haw : ∀ k : Bool → Option Bool, awake_k ((N + 100) + 30) k = k true := awake_any (N + 100)
  have hn : 50 < (N + 100) + 30 := by omega
  have hops : ∀ o ∈ a1, o.2.2.2.1.length ≤ 9223372036854775807 ∧ o.2.2.2.1.length < (N + 100) + 30 := fun o ho => ⟨hl o ho, by have := hN o ho; omega⟩
  generalize (N + 100) + 30 = n at haw hn hops
  unfold stays_k stays_p
  by_cases h1 : 0 ≤ a0 ∧ a0 ≤ 8
  · rw [new_good n a0 h1]
    by_cases h2 : (a1.length : Int) > 40
    · rw [decide_eq_true h2, cond_true, haw]
    · rw [decide_eq_false h2, cond_false, show ((0 : Int) != 0) = false from rfl, cond_false]
      obtain ⟨it, rfl⟩ : ∃ it : Nat, a0 = (it : Int) := ⟨a0.toNat, by omega⟩
      refine (stays_l0_law n it (by omega) hn a1 (by omega) hops (some false) _ a1.length n 0 [] (List.replicate 16 0) (by omega) (by omega) ⟨by simp, fun j hj => ⟨0, by rw [List.getElem?_replicate, if_pos hj], fun h => by cases h⟩⟩).trans ?_
      rw [haw]
  · rw [new_bad n a0 h1]
    by_cases h2 : (a1.length : Int) > 40
    · rw [decide_eq_true h2, cond_true, haw]
    · rw [decide_eq_false h2, cond_false, show ((1 : Int) != 0) = true from rfl, cond_true, haw]

theorem stays_law (a0 : Int) (a1 : List SOP) (f0 : WF (.int .i64) a0) (f1 : WF (.sl kT44) a1) : ∃ n, stays_k n a0 a1 (fun r => some r) = some true :=
  stays_main a0 a1 f0 fun o ho => Nat.le_trans (f1.2 o ho).2.2.2.1.1 (by decide)

end Go.Ev
end

section
/-
  FUNCTION 22: printed by a program of our own (wip/gen/st.py). 'masthead/mastheadlaw25.refs', in continuation form; the evaluator gives it.
-/
set_option linter.all false
set_option maxRecDepth 100000
namespace Go.Ev
open Go.Proofs
variable {A : Type}

-- ============================================================ refs (function 22)
def refs_b0 (n : Nat) (t6 : (List (List Int))) (t7 : Int) (k0 : (List (List Int)) → Option A) (r : Int → (List (List Int)) → Option A) (t8 : Int) (out : (List (List Int))) : Option A :=
  bif (decide (t8 < t7)) then
    if 0 ≤ t8 then
      (t6[(Int.toNat t8)]?).bind fun y1 =>
      if (out.length + 1) * 32 ≤ 140737488355328 then
        r (IntKind.wrap .i64 (t8 + 1)) (out ++ [y1])
      else none
    else none
  else
    k0 out

def refs_l0 (n : Nat) (t6 : (List (List Int))) (t7 : Int) (k0 : (List (List Int)) → Option A) : Nat → Int → (List (List Int)) → Option A
  | 0 => fun _ _ => none
  | f + 1 => refs_b0 n t6 t7 k0 (refs_l0 n t6 t7 k0 f)

def refs_p (n : Nat) (a0 : (List (List Int))) (k : (List (List Int)) → Option A) : Option A :=
  refs_l0 n a0 (a0.length : Int) (fun y2 =>
    k y2) n 0 []

def refs_k (n : Nat) (a0 : (List (List Int))) (k : (List (List Int)) → Option A) : Option A := refs_p n a0 k

noncomputable def refs_c0 : Code := codeAt [1, 1, 0, 1, 0, 0] (bodyOf Tryd.f22)
def refs_d0 : List Nat := [0, 2, 5, 9, 10, 11, 12, 13, 14, 15, 16]
def refs_y0 : List Nat := [0, 1, 2, 4, 5, 6, 7, 8, 9, 10, 11, 12, 13, 14, 15, 16, 17]
def refs_sh0 : Shape := ⟨[.any, .any, .any, (.row 0), .any, .any, (.p (.sl kA32u8)), (.p (.int .i64)), (.p (.int .i64)), .any, .any, .any, .any, .any, .any, .any, .any, .any], [(.row 31 kA32u8)], 0⟩
def refs_x0_0 (t6 : (List (List Int))) (t7 : Int) (z0 : (List (List Int))) : St := ⟨[.any, .any, .any, .row 0, .any, .any, .any, .any, .any, .any, .any, .any, .any, .any, .any, .any, .any, .any], [.row 31 kA32u8 z0], 0⟩
def refs_g0 (n : Nat) (d : refs_sh0.den) (k : Ex → St → Option A) : Option A :=
  refs_l0 n d.1.2.2.2.2.2.2.1 d.1.2.2.2.2.2.2.2.1 (fun z0 => k (.exit 0) (refs_x0_0 d.1.2.2.2.2.2.2.1 d.1.2.2.2.2.2.2.2.1 z0)) n d.1.2.2.2.2.2.2.2.2.1 d.2.1
noncomputable def refs_E (n : Nat) : Env A := ⟨tys, gls, [], [(0, loopE refs_d0 refs_sh0 (refs_g0 n))], []⟩
theorem refs_T {A : Type} (n : Nat) : TyOK Tryd.prog (refs_E (A := A) n) := tyOK_of rfl tysB
theorem refs_fns (n : Nat) : FnsOK Tryd.prog (refs_E (A := A) n) := AllOK.env rfl rfl AllOK.nil
noncomputable def refs_LK0 (n : Nat) (t6 : (List (List Int))) (t7 : Int) (k : Ex → St → Option A) (f : Nat) (t8 : Int) (out : (List (List Int))) : Option A := loopK (codeK (refs_E n) 1 refs_c0) refs_d0 refs_y0 f (⟨[.any, .any, .any, .row 0, .any, .any, .p (.sl kA32u8) t6, .p (.int .i64) t7, .p (.int .i64) t8, .any, .any, .any, .any, .any, .any, .any, .any, .any], [.row 31 kA32u8 out], 0⟩) k
theorem refs_st0 (n f : Nat) (t6 : (List (List Int))) (t7 : Int) (k : Ex → St → Option A) (t8 : Int) (out : (List (List Int))) : refs_LK0 n t6 t7 k (f + 1) t8 out = refs_b0 n t6 t7 (fun z0 => k (.exit 0) (refs_x0_0 t6 t7 z0)) (refs_LK0 n t6 t7 k f) t8 out := by kernel_rfl
theorem refs_le0 (n : Nat) (t6 : (List (List Int))) (t7 : Int) (k : Ex → St → Option A) : ∀ (f : Nat) (t8 : Int) (out : (List (List Int))), refs_LK0 n t6 t7 k f t8 out = refs_l0 n t6 t7 (fun z0 => k (.exit 0) (refs_x0_0 t6 t7 z0)) f t8 out := by
  intro f
  induction f with
  | zero => intros; kernel_rfl
  | succ f ih => intro t8 out; exact (refs_st0 n f t6 t7 k t8 out).trans ((congrArg (fun r => refs_b0 n t6 t7 (fun z0 => k (.exit 0) (refs_x0_0 t6 t7 z0)) r t8 out) (funext fun t8 => funext fun out => ih t8 out)).trans (by kernel_rfl))
theorem refs_lo0 (n : Nat) : LoopOK Tryd.prog gls refs_c0 (loopE refs_d0 refs_sh0 (refs_g0 (A := A) n)) :=
  LoopOK.of (refs_T n) (refs_fns n) follows (j := 1) (n := n) (xdead := refs_y0) (lo_of (by kernel_rfl : loopsOf 1 refs_c0 = []) lo_nil) fun d k => Eq.trans (by kernel_rfl) (refs_le0 n d.1.2.2.2.2.2.2.1 d.1.2.2.2.2.2.2.2.1 k n d.1.2.2.2.2.2.2.2.2.1 d.2.1)
theorem refs_eqg (n : Nat) (a0 : (List (List Int))) (k : AV → List Blk → Option A) : fnK (refs_E n) Tryd.f22 [.own] [.p (.sl kA32u8) a0] [] k = refs_p n a0 (fun r0 => k (.row 0) [.row 31 kA32u8 r0]) := by kernel_rfl
theorem refs_eq (n : Nat) (a0 : (List (List Int))) (k : AV → List Blk → Option A) : fnK (refs_E n) Tryd.f22 [.own] [.p (.sl kA32u8) a0] [] k = refs_k n a0 (fun r0 => k (.row 0) [.row 31 kA32u8 r0]) := refs_eqg n a0 k
def refs_ent (g : (List (List Int)) → ((List (List Int)) → Option A) → Option A) : Entry A := pureE fun args k => args1 args (.sl kA32u8) fun a0 => g a0 (fun r0 => k (.row 0) [.row 31 kA32u8 r0])
theorem refs_lo (n : Nat) : ∀ c, Tryd.f22.body = some c → ∀ q ∈ loopsOf 0 c, ∀ L, (refs_E (A := A) n).lps.lookup q.1 = some L → LoopOK Tryd.prog gls q.2 L :=
  lo_body (E := refs_E n) (by kernel_rfl : Tryd.f22.body = some (bodyOf Tryd.f22)) (lo_of (E := refs_E n) (by kernel_rfl : loopsOf 0 (bodyOf Tryd.f22) = [(0, refs_c0)]) (lo_cons rfl (refs_lo0 n) lo_nil))
theorem refs_ok (n : Nat) : FnOK Tryd.prog gls 22 (refs_ent (A := A) (refs_k n)) :=
  FnOK.of (refs_T n) (refs_fns n) follows ⟨Tryd.func22, by kernel_rfl⟩ (refs_lo n) (rm := [.own]) fun args k out h => by
    obtain ⟨a0, e, h1⟩ := args1_sound h
    subst e; rw [refs_eq]; exact h1

end Go.Ev
end

