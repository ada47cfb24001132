import Derived.Test.YtbjoemlcakfkmaaDoorB5
import Derived.Test.YtbjoemlcakfkmaaDoorB7
import Derived.Test.YtbjoemlcakfkmaaDoorScanF15
import Derived.Test.YtbjoemlcakfkmaaDoorB8
set_option linter.all false
section
/-
  FUNCTION 5: printed by a program of our own (wip/gen/st.py). 'masthead/mastheadlaw25.ScanPlays', in continuation form; the evaluator gives it.
-/
set_option linter.all false
set_option maxRecDepth 100000
namespace Go.Ev
open Go.Proofs
variable {A : Type}

-- ============================================================ plays (function 5)
def plays_b0 (g_awake : (Bool → Option A) → Option A) (g_new_ : Int → (Int → Option A) → (Int → Int → Unit → (List ((List Int) × Int)) → Option A) → Option A) (g_step : (Int × ((List ((List Int) × ((List Int) × Unit))) × Unit)) → (Int × (Int × (Int × ((List Int) × Unit)))) → Int → Unit → (List ((List Int) × Int)) → ((Int × ((List ((List Int) × ((List Int) × Unit))) × Unit)) → Bool → Int → Unit → (List ((List Int) × Int)) → Option A) → Option A) (g_row : (List Int) → ((List (List Int)) → Option A) → Option A) (g_same : (Int × ((List ((List Int) × ((List Int) × Unit))) × Unit)) → (List (List Int)) → Int → Unit → (List ((List Int) × Int)) → (Bool → Int → Unit → (List ((List Int) × Int)) → Option A) → Option A) (n : Nat) (line : (List Int)) (t50 : (List (Int × (Int × (Int × ((List Int) × Unit)))))) (t51 : Int) (k0 : Int → Unit → (List ((List Int) × Int)) → (Int × ((List ((List Int) × ((List Int) × Unit))) × Unit)) → Option A) (k1 : Int → Unit → (List ((List Int) × Int)) → (Int × ((List ((List Int) × ((List Int) × Unit))) × Unit)) → Option A) (r : Int → Int → Unit → (List ((List Int) × Int)) → (Int × ((List ((List Int) × ((List Int) × Unit))) × Unit)) → Option A) (t52 : Int) (sa : Int) (sbb : Unit) (sba : (List ((List Int) × Int))) (x : (Int × ((List ((List Int) × ((List Int) × Unit))) × Unit))) : Option A :=
  bif (decide (t52 < t51)) then
    if 0 ≤ t52 then
      (t50[(Int.toNat t52)]?).bind fun y10 =>
      g_step x y10 sa sbb sba fun r11 r12 r13 r14 r15 =>
      bif (!r12) then
        k0 r13 r14 r15 r11
      else
        g_row line fun r16 =>
        g_same r11 r16 r13 r14 r15 fun r17 r18 r19 r20 =>
        bif (!r17) then
          k0 r18 r19 r20 r11
        else
          r (IntKind.wrap .i64 (t52 + 1)) r18 r19 r20 r11
    else none
  else
    k1 sa sbb sba x

def plays_l0 (g_awake : (Bool → Option A) → Option A) (g_new_ : Int → (Int → Option A) → (Int → Int → Unit → (List ((List Int) × Int)) → Option A) → Option A) (g_step : (Int × ((List ((List Int) × ((List Int) × Unit))) × Unit)) → (Int × (Int × (Int × ((List Int) × Unit)))) → Int → Unit → (List ((List Int) × Int)) → ((Int × ((List ((List Int) × ((List Int) × Unit))) × Unit)) → Bool → Int → Unit → (List ((List Int) × Int)) → Option A) → Option A) (g_row : (List Int) → ((List (List Int)) → Option A) → Option A) (g_same : (Int × ((List ((List Int) × ((List Int) × Unit))) × Unit)) → (List (List Int)) → Int → Unit → (List ((List Int) × Int)) → (Bool → Int → Unit → (List ((List Int) × Int)) → Option A) → Option A) (n : Nat) (line : (List Int)) (t50 : (List (Int × (Int × (Int × ((List Int) × Unit)))))) (t51 : Int) (k0 : Int → Unit → (List ((List Int) × Int)) → (Int × ((List ((List Int) × ((List Int) × Unit))) × Unit)) → Option A) (k1 : Int → Unit → (List ((List Int) × Int)) → (Int × ((List ((List Int) × ((List Int) × Unit))) × Unit)) → Option A) : Nat → Int → Int → Unit → (List ((List Int) × Int)) → (Int × ((List ((List Int) × ((List Int) × Unit))) × Unit)) → Option A
  | 0 => fun _ _ _ _ _ => none
  | f + 1 => plays_b0 g_awake g_new_ g_step g_row g_same n line t50 t51 k0 k1 (plays_l0 g_awake g_new_ g_step g_row g_same n line t50 t51 k0 k1 f)

def plays_p (g_awake : (Bool → Option A) → Option A) (g_new_ : Int → (Int → Option A) → (Int → Int → Unit → (List ((List Int) × Int)) → Option A) → Option A) (g_step : (Int × ((List ((List Int) × ((List Int) × Unit))) × Unit)) → (Int × (Int × (Int × ((List Int) × Unit)))) → Int → Unit → (List ((List Int) × Int)) → ((Int × ((List ((List Int) × ((List Int) × Unit))) × Unit)) → Bool → Int → Unit → (List ((List Int) × Int)) → Option A) → Option A) (g_row : (List Int) → ((List (List Int)) → Option A) → Option A) (g_same : (Int × ((List ((List Int) × ((List Int) × Unit))) × Unit)) → (List (List Int)) → Int → Unit → (List ((List Int) × Int)) → (Bool → Int → Unit → (List ((List Int) × Int)) → Option A) → Option A) (n : Nat) (a0 : Int) (a1 : (List (Int × (Int × (Int × ((List Int) × Unit)))))) (a2 : (List Int)) (k : Bool → Option A) : Option A :=
  bif (decide ((a1.length : Int) > 40)) then
    g_awake fun r1 =>
    k r1
  else
    bif (decide ((a2.length : Int) > 30)) then
      g_awake fun r2 =>
      k r2
    else
      g_new_ a0 (fun r3 =>
        bif (decide (a0 < 0)) then
          bif (r3 == 1) then
            g_awake fun r4 =>
            k r4
          else
            k false
        else
          bif (decide (a0 > 8)) then
            bif (r3 == 1) then
              g_awake fun r5 =>
              k r5
            else
              k false
          else
            bif (r3 != 0) then
              k false
            else
              k false) (fun r6 r7 r8 r9 =>
        bif (decide (a0 < 0)) then
          bif (r6 == 1) then
            k false
          else
            k false
        else
          bif (decide (a0 > 8)) then
            bif (r6 == 1) then
              k false
            else
              k false
          else
            bif (r6 != 0) then
              k false
            else
              plays_l0 g_awake g_new_ g_step g_row g_same n a2 a1 (a1.length : Int) (fun y21 y22 y23 y24 =>
                k false) (fun y25 y26 y27 y28 =>
                g_row a2 fun r29 =>
                g_same y28 r29 y25 y26 y27 fun r30 r31 r32 r33 =>
                bif r30 then
                  g_awake fun r34 =>
                  k r34
                else
                  k false) n 0 r7 r8 r9 (a0, ([], ())))

def plays_k (n : Nat) (a0 : Int) (a1 : (List (Int × (Int × (Int × ((List Int) × Unit)))))) (a2 : (List Int)) (k : Bool → Option A) : Option A := plays_p (awake_k n) (new__k n) (step_k n) (row_k n) (same_k n) n a0 a1 a2 k

noncomputable def plays_c0 : Code := codeAt [1, 1, 1, 1, 1, 1, 0, 1, 0, 0] (bodyOf Tryd.f5)
def plays_d0 : List Nat := [0, 1, 6, 8, 11, 12, 13, 14, 15, 16, 17, 18, 19, 20, 22, 23, 24, 25, 26, 27, 28, 29, 30, 31, 32, 42, 43, 44, 45, 46, 47, 48, 49, 53, 54, 55, 56, 57, 58, 59, 60, 61, 62, 63, 64, 65, 66, 67, 68, 69, 70, 71, 72, 73]
def plays_y0 : List Nat := [0, 1, 3, 4, 5, 8, 10, 11, 12, 13, 14, 15, 16, 17, 18, 19, 20, 21, 22, 23, 24, 25, 26, 27, 28, 29, 30, 31, 32, 33, 34, 35, 36, 37, 38, 39, 40, 41, 42, 43, 44, 45, 46, 47, 48, 49, 50, 51, 52, 53, 54, 55, 56, 57, 58, 59, 60, 61, 62, 63, 64, 65, 66, 67, 68, 69, 70, 71, 72, 73, 74, 75, 76, 77, 78, 79, 80, 81]
def plays_sh0 : Shape := ⟨[.any, .any, (.p (.sl (.int .u8))), .any, .any, .any, .any, (.ptr 0), .any, (.ptr 2), .any, .any, .any, .any, .any, .any, .any, .any, .any, .any, .any, .any, .any, .any, .any, .any, .any, .any, .any, .any, .any, .any, .any, .any, .any, .any, .any, .any, .any, .any, .any, .any, .any, .any, .any, .any, .any, .any, .any, .any, (.p (.sl kT44)), (.p (.int .i64)), (.p (.int .i64)), .any, .any, .any, .any, .any, .any, .any, .any, .any, .any, .any, .any, .any, .any, .any, .any, .any, .any, .any, .any, .any, .any, .any, .any, .any, .any, .any, .any, .any], [(.var 57 kT56 (.pr (.p (.int .i64)) (.pr (.mp 1) (.p .unit)))), (.map kA32u8 (.int .u16)), (.var 48 kT47 (.p kT47))], 0⟩
def plays_x0_0 (line : (List Int)) (t50 : (List (Int × (Int × (Int × ((List Int) × Unit)))))) (t51 : Int) (z2 : Int) (z3 : Unit) (z4 : (List ((List Int) × Int))) (z5 : (Int × ((List ((List Int) × ((List Int) × Unit))) × Unit))) : St := ⟨[.any, .any, .p (.sl (.int .u8)) line, .any, .any, .any, .p .bool false, .ptr 0 [], .any, .ptr 2 [], .any, .any, .any, .any, .any, .any, .any, .any, .any, .any, .any, .any, .any, .any, .any, .any, .any, .any, .any, .any, .any, .any, .any, .any, .any, .any, .any, .any, .any, .any, .any, .any, .any, .any, .any, .any, .any, .any, .any, .any, .any, .any, .any, .any, .any, .any, .any, .any, .any, .any, .any, .any, .any, .any, .any, .any, .any, .any, .any, .any, .any, .any, .any, .any, .any, .any, .any, .any, .any, .any, .any, .any], [.var 57 kT56 (.pr (.p (.int .i64) z2) (.pr (.mp 1) (.p .unit z3))), .map kA32u8 (.int .u16) z4, .var 48 kT47 (.p kT47 z5)], 0⟩
def plays_x0_1 (line : (List Int)) (t50 : (List (Int × (Int × (Int × ((List Int) × Unit)))))) (t51 : Int) (z1 : Int) (z2 : Unit) (z3 : (List ((List Int) × Int))) (z4 : (Int × ((List ((List Int) × ((List Int) × Unit))) × Unit))) : St := ⟨[.any, .any, .p (.sl (.int .u8)) line, .any, .any, .any, .any, .ptr 0 [], .any, .ptr 2 [], .any, .any, .any, .any, .any, .any, .any, .any, .any, .any, .any, .any, .any, .any, .any, .any, .any, .any, .any, .any, .any, .any, .any, .any, .any, .any, .any, .any, .any, .any, .any, .any, .any, .any, .any, .any, .any, .any, .any, .any, .any, .any, .any, .any, .any, .any, .any, .any, .any, .any, .any, .any, .any, .any, .any, .any, .any, .any, .any, .any, .any, .any, .any, .any, .any, .any, .any, .any, .any, .any, .any, .any], [.var 57 kT56 (.pr (.p (.int .i64) z1) (.pr (.mp 1) (.p .unit z2))), .map kA32u8 (.int .u16) z3, .var 48 kT47 (.p kT47 z4)], 0⟩
def plays_g0 (g_awake : (Bool → Option A) → Option A) (g_new_ : Int → (Int → Option A) → (Int → Int → Unit → (List ((List Int) × Int)) → Option A) → Option A) (g_step : (Int × ((List ((List Int) × ((List Int) × Unit))) × Unit)) → (Int × (Int × (Int × ((List Int) × Unit)))) → Int → Unit → (List ((List Int) × Int)) → ((Int × ((List ((List Int) × ((List Int) × Unit))) × Unit)) → Bool → Int → Unit → (List ((List Int) × Int)) → Option A) → Option A) (g_row : (List Int) → ((List (List Int)) → Option A) → Option A) (g_same : (Int × ((List ((List Int) × ((List Int) × Unit))) × Unit)) → (List (List Int)) → Int → Unit → (List ((List Int) × Int)) → (Bool → Int → Unit → (List ((List Int) × Int)) → Option A) → Option A) (n : Nat) (d : plays_sh0.den) (k : Ex → St → Option A) : Option A :=
  plays_l0 g_awake g_new_ g_step g_row g_same n d.1.2.2.1 d.1.2.2.2.2.2.2.2.2.2.2.2.2.2.2.2.2.2.2.2.2.2.2.2.2.2.2.2.2.2.2.2.2.2.2.2.2.2.2.2.2.2.2.2.2.2.2.2.2.2.2.1 d.1.2.2.2.2.2.2.2.2.2.2.2.2.2.2.2.2.2.2.2.2.2.2.2.2.2.2.2.2.2.2.2.2.2.2.2.2.2.2.2.2.2.2.2.2.2.2.2.2.2.2.2.1 (fun z2 z3 z4 z5 => k .ret (plays_x0_0 d.1.2.2.1 d.1.2.2.2.2.2.2.2.2.2.2.2.2.2.2.2.2.2.2.2.2.2.2.2.2.2.2.2.2.2.2.2.2.2.2.2.2.2.2.2.2.2.2.2.2.2.2.2.2.2.2.1 d.1.2.2.2.2.2.2.2.2.2.2.2.2.2.2.2.2.2.2.2.2.2.2.2.2.2.2.2.2.2.2.2.2.2.2.2.2.2.2.2.2.2.2.2.2.2.2.2.2.2.2.2.1 z2 z3 z4 z5)) (fun z1 z2 z3 z4 => k (.exit 0) (plays_x0_1 d.1.2.2.1 d.1.2.2.2.2.2.2.2.2.2.2.2.2.2.2.2.2.2.2.2.2.2.2.2.2.2.2.2.2.2.2.2.2.2.2.2.2.2.2.2.2.2.2.2.2.2.2.2.2.2.2.1 d.1.2.2.2.2.2.2.2.2.2.2.2.2.2.2.2.2.2.2.2.2.2.2.2.2.2.2.2.2.2.2.2.2.2.2.2.2.2.2.2.2.2.2.2.2.2.2.2.2.2.2.2.1 z1 z2 z3 z4)) n d.1.2.2.2.2.2.2.2.2.2.2.2.2.2.2.2.2.2.2.2.2.2.2.2.2.2.2.2.2.2.2.2.2.2.2.2.2.2.2.2.2.2.2.2.2.2.2.2.2.2.2.2.2.1 d.2.1.1 d.2.1.2.2 d.2.2.1 d.2.2.2.1
noncomputable def plays_E (g_awake : (Bool → Option A) → Option A) (g_new_ : Int → (Int → Option A) → (Int → Int → Unit → (List ((List Int) × Int)) → Option A) → Option A) (g_step : (Int × ((List ((List Int) × ((List Int) × Unit))) × Unit)) → (Int × (Int × (Int × ((List Int) × Unit)))) → Int → Unit → (List ((List Int) × Int)) → ((Int × ((List ((List Int) × ((List Int) × Unit))) × Unit)) → Bool → Int → Unit → (List ((List Int) × Int)) → Option A) → Option A) (g_row : (List Int) → ((List (List Int)) → Option A) → Option A) (g_same : (Int × ((List ((List Int) × ((List Int) × Unit))) × Unit)) → (List (List Int)) → Int → Unit → (List ((List Int) × Int)) → (Bool → Int → Unit → (List ((List Int) × Int)) → Option A) → Option A) (n : Nat) : Env A := ⟨tys, gls, [(7, awake_ent g_awake), (6, new__ent g_new_), (13, step_ent g_step), (8, row_ent g_row), (15, same_ent g_same)], [(0, loopE plays_d0 plays_sh0 (plays_g0 g_awake g_new_ g_step g_row g_same n))], []⟩
theorem plays_T (g_awake : (Bool → Option A) → Option A) (g_new_ : Int → (Int → Option A) → (Int → Int → Unit → (List ((List Int) × Int)) → Option A) → Option A) (g_step : (Int × ((List ((List Int) × ((List Int) × Unit))) × Unit)) → (Int × (Int × (Int × ((List Int) × Unit)))) → Int → Unit → (List ((List Int) × Int)) → ((Int × ((List ((List Int) × ((List Int) × Unit))) × Unit)) → Bool → Int → Unit → (List ((List Int) × Int)) → Option A) → Option A) (g_row : (List Int) → ((List (List Int)) → Option A) → Option A) (g_same : (Int × ((List ((List Int) × ((List Int) × Unit))) × Unit)) → (List (List Int)) → Int → Unit → (List ((List Int) × Int)) → (Bool → Int → Unit → (List ((List Int) × Int)) → Option A) → Option A) (n : Nat) : TyOK Tryd.prog (plays_E g_awake g_new_ g_step g_row g_same n) := tyOK_of rfl tysB
theorem plays_fns (n : Nat) : FnsOK Tryd.prog (plays_E (A := A) (awake_k n) (new__k n) (step_k n) (row_k n) (same_k n) n) := AllOK.env rfl rfl (AllOK.cons (awake_ok n) (AllOK.cons (new__ok n) (AllOK.cons (step_ok n) (AllOK.cons (row_ok n) (AllOK.cons (same_ok n) AllOK.nil)))))
noncomputable def plays_LK0 (g_awake : (Bool → Option A) → Option A) (g_new_ : Int → (Int → Option A) → (Int → Int → Unit → (List ((List Int) × Int)) → Option A) → Option A) (g_step : (Int × ((List ((List Int) × ((List Int) × Unit))) × Unit)) → (Int × (Int × (Int × ((List Int) × Unit)))) → Int → Unit → (List ((List Int) × Int)) → ((Int × ((List ((List Int) × ((List Int) × Unit))) × Unit)) → Bool → Int → Unit → (List ((List Int) × Int)) → Option A) → Option A) (g_row : (List Int) → ((List (List Int)) → Option A) → Option A) (g_same : (Int × ((List ((List Int) × ((List Int) × Unit))) × Unit)) → (List (List Int)) → Int → Unit → (List ((List Int) × Int)) → (Bool → Int → Unit → (List ((List Int) × Int)) → Option A) → Option A) (n : Nat) (line : (List Int)) (t50 : (List (Int × (Int × (Int × ((List Int) × Unit)))))) (t51 : Int) (k : Ex → St → Option A) (f : Nat) (t52 : Int) (sa : Int) (sbb : Unit) (sba : (List ((List Int) × Int))) (x : (Int × ((List ((List Int) × ((List Int) × Unit))) × Unit))) : Option A := loopK (codeK (plays_E g_awake g_new_ g_step g_row g_same n) 1 plays_c0) plays_d0 plays_y0 f (⟨[.any, .any, .p (.sl (.int .u8)) line, .any, .any, .any, .any, .ptr 0 [], .any, .ptr 2 [], .any, .any, .any, .any, .any, .any, .any, .any, .any, .any, .any, .any, .any, .any, .any, .any, .any, .any, .any, .any, .any, .any, .any, .any, .any, .any, .any, .any, .any, .any, .any, .any, .any, .any, .any, .any, .any, .any, .any, .any, .p (.sl kT44) t50, .p (.int .i64) t51, .p (.int .i64) t52, .any, .any, .any, .any, .any, .any, .any, .any, .any, .any, .any, .any, .any, .any, .any, .any, .any, .any, .any, .any, .any, .any, .any, .any, .any, .any, .any, .any, .any], [.var 57 kT56 (.pr (.p (.int .i64) sa) (.pr (.mp 1) (.p .unit sbb))), .map kA32u8 (.int .u16) sba, .var 48 kT47 (.p kT47 x)], 0⟩) k
theorem plays_st0 (g_awake : (Bool → Option A) → Option A) (g_new_ : Int → (Int → Option A) → (Int → Int → Unit → (List ((List Int) × Int)) → Option A) → Option A) (g_step : (Int × ((List ((List Int) × ((List Int) × Unit))) × Unit)) → (Int × (Int × (Int × ((List Int) × Unit)))) → Int → Unit → (List ((List Int) × Int)) → ((Int × ((List ((List Int) × ((List Int) × Unit))) × Unit)) → Bool → Int → Unit → (List ((List Int) × Int)) → Option A) → Option A) (g_row : (List Int) → ((List (List Int)) → Option A) → Option A) (g_same : (Int × ((List ((List Int) × ((List Int) × Unit))) × Unit)) → (List (List Int)) → Int → Unit → (List ((List Int) × Int)) → (Bool → Int → Unit → (List ((List Int) × Int)) → Option A) → Option A) (n f : Nat) (line : (List Int)) (t50 : (List (Int × (Int × (Int × ((List Int) × Unit)))))) (t51 : Int) (k : Ex → St → Option A) (t52 : Int) (sa : Int) (sbb : Unit) (sba : (List ((List Int) × Int))) (x : (Int × ((List ((List Int) × ((List Int) × Unit))) × Unit))) : plays_LK0 g_awake g_new_ g_step g_row g_same n line t50 t51 k (f + 1) t52 sa sbb sba x = plays_b0 g_awake g_new_ g_step g_row g_same n line t50 t51 (fun z2 z3 z4 z5 => k .ret (plays_x0_0 line t50 t51 z2 z3 z4 z5)) (fun z1 z2 z3 z4 => k (.exit 0) (plays_x0_1 line t50 t51 z1 z2 z3 z4)) (plays_LK0 g_awake g_new_ g_step g_row g_same n line t50 t51 k f) t52 sa sbb sba x := by kernel_rfl
theorem plays_le0 (g_awake : (Bool → Option A) → Option A) (g_new_ : Int → (Int → Option A) → (Int → Int → Unit → (List ((List Int) × Int)) → Option A) → Option A) (g_step : (Int × ((List ((List Int) × ((List Int) × Unit))) × Unit)) → (Int × (Int × (Int × ((List Int) × Unit)))) → Int → Unit → (List ((List Int) × Int)) → ((Int × ((List ((List Int) × ((List Int) × Unit))) × Unit)) → Bool → Int → Unit → (List ((List Int) × Int)) → Option A) → Option A) (g_row : (List Int) → ((List (List Int)) → Option A) → Option A) (g_same : (Int × ((List ((List Int) × ((List Int) × Unit))) × Unit)) → (List (List Int)) → Int → Unit → (List ((List Int) × Int)) → (Bool → Int → Unit → (List ((List Int) × Int)) → Option A) → Option A) (n : Nat) (line : (List Int)) (t50 : (List (Int × (Int × (Int × ((List Int) × Unit)))))) (t51 : Int) (k : Ex → St → Option A) : ∀ (f : Nat) (t52 : Int) (sa : Int) (sbb : Unit) (sba : (List ((List Int) × Int))) (x : (Int × ((List ((List Int) × ((List Int) × Unit))) × Unit))), plays_LK0 g_awake g_new_ g_step g_row g_same n line t50 t51 k f t52 sa sbb sba x = plays_l0 g_awake g_new_ g_step g_row g_same n line t50 t51 (fun z2 z3 z4 z5 => k .ret (plays_x0_0 line t50 t51 z2 z3 z4 z5)) (fun z1 z2 z3 z4 => k (.exit 0) (plays_x0_1 line t50 t51 z1 z2 z3 z4)) f t52 sa sbb sba x := by
  intro f
  induction f with
  | zero => intros; kernel_rfl
  | succ f ih => intro t52 sa sbb sba x; exact (plays_st0 g_awake g_new_ g_step g_row g_same n f line t50 t51 k t52 sa sbb sba x).trans ((congrArg (fun r => plays_b0 g_awake g_new_ g_step g_row g_same n line t50 t51 (fun z2 z3 z4 z5 => k .ret (plays_x0_0 line t50 t51 z2 z3 z4 z5)) (fun z1 z2 z3 z4 => k (.exit 0) (plays_x0_1 line t50 t51 z1 z2 z3 z4)) r t52 sa sbb sba x) (funext fun t52 => funext fun sa => funext fun sbb => funext fun sba => funext fun x => ih t52 sa sbb sba x)).trans (by kernel_rfl))
theorem plays_lo0 (n : Nat) : LoopOK Tryd.prog gls plays_c0 (loopE plays_d0 plays_sh0 (plays_g0 (A := A) (awake_k n) (new__k n) (step_k n) (row_k n) (same_k n) n)) :=
  LoopOK.of (plays_T (awake_k n) (new__k n) (step_k n) (row_k n) (same_k n) n) (plays_fns n) follows (j := 1) (n := n) (xdead := plays_y0) (lo_of (by kernel_rfl : loopsOf 1 plays_c0 = []) lo_nil) fun d k => Eq.trans (by kernel_rfl) (plays_le0 (awake_k n) (new__k n) (step_k n) (row_k n) (same_k n) n d.1.2.2.1 d.1.2.2.2.2.2.2.2.2.2.2.2.2.2.2.2.2.2.2.2.2.2.2.2.2.2.2.2.2.2.2.2.2.2.2.2.2.2.2.2.2.2.2.2.2.2.2.2.2.2.2.1 d.1.2.2.2.2.2.2.2.2.2.2.2.2.2.2.2.2.2.2.2.2.2.2.2.2.2.2.2.2.2.2.2.2.2.2.2.2.2.2.2.2.2.2.2.2.2.2.2.2.2.2.2.1 k n d.1.2.2.2.2.2.2.2.2.2.2.2.2.2.2.2.2.2.2.2.2.2.2.2.2.2.2.2.2.2.2.2.2.2.2.2.2.2.2.2.2.2.2.2.2.2.2.2.2.2.2.2.2.1 d.2.1.1 d.2.1.2.2 d.2.2.1 d.2.2.2.1)
theorem plays_eqg (g_awake : (Bool → Option A) → Option A) (g_new_ : Int → (Int → Option A) → (Int → Int → Unit → (List ((List Int) × Int)) → Option A) → Option A) (g_step : (Int × ((List ((List Int) × ((List Int) × Unit))) × Unit)) → (Int × (Int × (Int × ((List Int) × Unit)))) → Int → Unit → (List ((List Int) × Int)) → ((Int × ((List ((List Int) × ((List Int) × Unit))) × Unit)) → Bool → Int → Unit → (List ((List Int) × Int)) → Option A) → Option A) (g_row : (List Int) → ((List (List Int)) → Option A) → Option A) (g_same : (Int × ((List ((List Int) × ((List Int) × Unit))) × Unit)) → (List (List Int)) → Int → Unit → (List ((List Int) × Int)) → (Bool → Int → Unit → (List ((List Int) × Int)) → Option A) → Option A) (n : Nat) (a0 : Int) (a1 : (List (Int × (Int × (Int × ((List Int) × Unit)))))) (a2 : (List Int)) (k : AV → List Blk → Option A) : fnK (plays_E g_awake g_new_ g_step g_row g_same n) Tryd.f5 [.pure] [.p (.int .i64) a0, .p (.sl kT44) a1, .p (.sl (.int .u8)) a2] [] k = plays_p g_awake g_new_ g_step g_row g_same n a0 a1 a2 (fun r0 => k (.p .bool r0) []) := by kernel_rfl
theorem plays_eq (n : Nat) (a0 : Int) (a1 : (List (Int × (Int × (Int × ((List Int) × Unit)))))) (a2 : (List Int)) (k : AV → List Blk → Option A) : fnK (plays_E (awake_k n) (new__k n) (step_k n) (row_k n) (same_k n) n) Tryd.f5 [.pure] [.p (.int .i64) a0, .p (.sl kT44) a1, .p (.sl (.int .u8)) a2] [] k = plays_k n a0 a1 a2 (fun r0 => k (.p .bool r0) []) := plays_eqg (awake_k n) (new__k n) (step_k n) (row_k n) (same_k n) n a0 a1 a2 k
def plays_ent (g : Int → (List (Int × (Int × (Int × ((List Int) × Unit))))) → (List Int) → (Bool → Option A) → Option A) : Entry A := pureE fun args k => args3 args (.int .i64) (.sl kT44) (.sl (.int .u8)) fun a0 a1 a2 => g a0 a1 a2 (fun r0 => k (.p .bool r0) [])
theorem plays_lo (n : Nat) : ∀ c, Tryd.f5.body = some c → ∀ q ∈ loopsOf 0 c, ∀ L, (plays_E (A := A) (awake_k n) (new__k n) (step_k n) (row_k n) (same_k n) n).lps.lookup q.1 = some L → LoopOK Tryd.prog gls q.2 L :=
  lo_body (E := plays_E (awake_k n) (new__k n) (step_k n) (row_k n) (same_k n) n) (by kernel_rfl : Tryd.f5.body = some (bodyOf Tryd.f5)) (lo_of (E := plays_E (awake_k n) (new__k n) (step_k n) (row_k n) (same_k n) n) (by kernel_rfl : loopsOf 0 (bodyOf Tryd.f5) = [(0, plays_c0)]) (lo_cons rfl (plays_lo0 n) lo_nil))
theorem plays_ok (n : Nat) : FnOK Tryd.prog gls 5 (plays_ent (A := A) (plays_k n)) :=
  FnOK.of (plays_T (awake_k n) (new__k n) (step_k n) (row_k n) (same_k n) n) (plays_fns n) follows ⟨Tryd.func5, by kernel_rfl⟩ (plays_lo n) (rm := [.pure]) fun args k out h => by
    obtain ⟨a0, a1, a2, e, h1⟩ := args3_sound h
    subst e; rw [plays_eq]; exact h1

end Go.Ev
end

section
/-
  SCAN: the document's list of blocks beside the program's map: what each call does with both.
-/
set_option linter.all false
namespace Go.Ev
variable {A : Type}

abbrev Jb := Int × (BK × (Int × Unit))

/-- The bits of a number, lowest first. -/
def bln (w : Nat) : List Int := ((List.range 8).filter fun t => w.testBit t).map fun t : Nat => (t : Int)
def bl (v : Int) : List Int := bln v.toNat
def FE (e : BK × Int) : BK × (List Int × Unit) := (e.1, (bl e.2, ()))
def refk (it : Int) (m : SM) : KN := (it, (m.map FE, ()))

theorem bl_nat (w : Nat) : bl (w : Int) = bln w := rfl
theorem bln_zero : bln 0 = [] := by decide
theorem bln_low : ∀ v : Nat, v < 256 → 0 < v → bln v = ((tzn v : Nat) : Int) :: bln (v - 2 ^ tzn v) ∧ iand .u16 (v : Int) (IntKind.wrap .u16 ((v : Int) - 1)) = ((v - 2 ^ tzn v : Nat) : Int) := by decide +kernel
theorem bln_len : ∀ v : Nat, v < 256 → (bln v).length = pc v := by decide +kernel
theorem bit_test : ∀ v : Nat, v < 256 → ∀ t : Nat, t < 8 → (iand .u16 (shr .u16 (v : Int) (t : Int)) 1 == 0) = !(v.testBit t) := by decide +kernel
theorem bit_clear : ∀ v : Nat, v < 256 → ∀ t : Nat, t < 8 → v.testBit t = true → iandNot .u16 (v : Int) (shl .u16 1 (t : Int)) = ((v - 2 ^ t : Nat) : Int) ∧ bln (v - 2 ^ t) = (bln v).filter (fun i => i != (t : Int)) := by decide +kernel
theorem bln_it : ∀ k : Nat, k ≤ 8 → ∀ v : Nat, v < 2 ^ k → bln v = ((List.range k).filter fun t => v.testBit t).map fun t : Nat => (t : Int) := by decide +kernel

theorem bln_mem (v : Nat) (x : Int) : x ∈ bln v ↔ ∃ t : Nat, t < 8 ∧ v.testBit t = true ∧ x = (t : Int) := by
  unfold bln
  simp only [List.mem_map, List.mem_filter, List.mem_range]
  constructor
  · rintro ⟨t, ⟨h1, h2⟩, rfl⟩; exact ⟨t, h1, h2, rfl⟩
  · rintro ⟨t, h1, h2, rfl⟩; exact ⟨t, ⟨h1, h2⟩, rfl⟩

theorem bln_le (v : Nat) : (bln v).length ≤ 8 := by
  unfold bln
  rw [List.length_map]
  exact Nat.le_trans (List.length_filter_le _ _) (by simp)

theorem bl_len (v : Int) : (bl v).length ≤ 8 := bln_le _

/-- The blocks of small numbers. -/
def KS : List BK := (List.range 16).map fun j : Nat => blk (j : Int)
theorem KS_nodup : KS.Nodup := by decide +kernel
theorem iand15 : ∀ y : Nat, y < 256 → iand .u8 (y : Int) 15 = ((y % 16 : Nat) : Int) := by decide +kernel
theorem blk_KS (y : Int) (h : 0 ≤ y) (h2 : y < 256) : blk y ∈ KS := by
  obtain ⟨z, rfl⟩ : ∃ z : Nat, y = (z : Int) := ⟨y.toNat, by omega⟩
  refine List.mem_map.2 ⟨z % 16, List.mem_range.2 (Nat.mod_lt _ (by decide)), ?_⟩
  unfold blk
  rw [iand15 z (by omega), iand15 (z % 16) (by omega), Nat.mod_mod]

structure Inv (it : Nat) (m : SM) : Prop where
  uniq : Uniq m
  ok : ∀ e ∈ m, ∃ w : Nat, e.2 = (w : Int) ∧ w < 2 ^ it
  key : ∀ e ∈ m, e.1 ∈ KS
  len : m.length ≤ 50000

theorem mset_mem {m : SM} {x : BK} {v : Int} {e : BK × Int} (h : e ∈ mset kA32u8 m x v) : e = (x, v) ∨ e ∈ m := by
  induction m with
  | nil => left; simpa [mset] using h
  | cons q r ih =>
    by_cases hq : q.1 = x
    · simp only [mset, hq, decide_true, if_true, List.mem_cons] at h
      rcases h with h | h
      · exact .inl h
      · exact .inr (List.mem_cons_of_mem _ h)
    · simp only [mset, hq, decide_false, Bool.false_eq_true, if_false, List.mem_cons] at h
      rcases h with h | h
      · exact .inr (by rw [h]; exact List.mem_cons_self)
      · rcases ih h with h | h
        · exact .inl h
        · exact .inr (List.mem_cons_of_mem _ h)

theorem mset_len (m : SM) (x : BK) (v : Int) : (mset kA32u8 m x v).length ≤ m.length + 1 := by
  have := congrArg List.length (show (mset kA32u8 m x v).map (·.1) = (mset kA32u8 m x v).map (·.1) from rfl)
  rcases mset_keys m x v with ⟨_, h⟩ | ⟨_, h⟩
  · have := congrArg List.length h; simp only [List.length_map] at this; omega
  · have := congrArg List.length h; simp only [List.length_map, List.length_append, List.length_singleton] at this; omega

theorem Inv.put {it : Nat} {m : SM} (h : Inv it m) (hl : m.length < 50000) {x : BK} (hx : x ∈ KS) {w : Nat} (hw : w < 2 ^ it) : Inv it (mset kA32u8 m x (w : Int)) :=
  ⟨h.uniq.mset x _, fun e he => by rcases mset_mem he with rfl | he; exact ⟨w, rfl, hw⟩; exact h.ok e he, fun e he => by rcases mset_mem he with rfl | he; exact hx; exact h.key e he, by have := mset_len m x (w : Int); omega⟩

theorem mget_ent {m : SM} {x : BK} {v : Int} (h : mget kA32u8 m x = some v) : (x, v) ∈ m := by
  induction m with
  | nil => cases h
  | cons q r ih =>
    by_cases hq : q.1 = x
    · simp only [mget, hq, decide_true, if_true, Option.some.injEq] at h
      rw [← hq, ← h]; exact List.mem_cons_self
    · simp only [mget, hq, decide_false, Bool.false_eq_true, if_false] at h
      exact List.mem_cons_of_mem _ (ih h)

theorem Inv.get {it : Nat} {m : SM} (h : Inv it m) {x : BK} {v : Int} (hg : mget kA32u8 m x = some v) : ∃ w : Nat, v = (w : Int) ∧ w < 2 ^ it := h.ok _ (mget_ent hg)
theorem Inv.okm {it : Nat} {m : SM} (h : Inv it m) : Okm it m := fun x v hg => h.get hg

-- ------------------------------------------------------------ where a block is

theorem find_l0_law (n : Nat) (it : Int) (m : SM) (x : BK) (hl : m.length ≤ 50000) : ∀ (d f i : Nat), i + d = m.length → d < f →
    (mget kA32u8 (m.drop i) x = none ∧ ∀ (k0 : Int → Option A) (k1 : Option A), find_l0 n (refk it m) x k0 k1 f (i : Int) = k1) ∨
    (∃ (j : Nat) (v : Int), mget kA32u8 (m.drop i) x = some v ∧ m[j]? = some (x, v) ∧ ∀ (k0 : Int → Option A) (k1 : Option A), find_l0 n (refk it m) x k0 k1 f (i : Int) = k0 (j : Int)) := by
  have hlen : (refk it m).2.1.length = m.length := List.length_map ..
  intro d
  induction d with
  | zero =>
    intro f i hi hf
    obtain ⟨f, rfl⟩ : ∃ g, f = g + 1 := ⟨f - 1, by omega⟩
    left
    exact ⟨by rw [List.drop_eq_nil_of_le (by omega)]; rfl, fun k0 k1 => by rw [find_l0, find_b0, hlen, decide_eq_false (by omega), cond_false]⟩
  | succ d ih =>
    intro f i hi hf
    obtain ⟨f, rfl⟩ : ∃ g, f = g + 1 := ⟨f - 1, by omega⟩
    have hlt : i < m.length := by omega
    have e1 : IntKind.wrap .i64 ((i : Int) + 1) = ((i + 1 : Nat) : Int) := by rw [wrap_id (by omega) (by omega)]; omega
    have hg : (refk it m).2.1[i]? = some (FE m[i]) := by
      show (m.map FE)[i]? = _
      rw [List.getElem?_map, List.getElem?_eq_getElem hlt]; rfl
    have step : ∀ (k0 : Int → Option A) (k1 : Option A), find_l0 n (refk it m) x k0 k1 (f + 1) (i : Int) = bif (deq kA32u8 m[i].1 x) then k0 (i : Int) else find_l0 n (refk it m) x k0 k1 f ((i + 1 : Nat) : Int) := fun k0 k1 => by
      rw [find_l0, find_b0, hlen, decide_eq_true (by omega), cond_true, if_pos (by omega), Int.toNat_natCast, hg, Option.bind_some, e1]; rfl
    rw [List.drop_eq_getElem_cons hlt]
    by_cases h : m[i].1 = x
    · right
      refine ⟨i, m[i].2, by simp [mget, h], by rw [List.getElem?_eq_getElem hlt, ← h], fun k0 k1 => ?_⟩
      rw [step, h, deq_self, cond_true]
    · have hm : mget kA32u8 (m[i] :: m.drop (i + 1)) x = mget kA32u8 (m.drop (i + 1)) x := by simp [mget, h]
      rw [hm]
      rcases ih f (i + 1) (by omega) (by omega) with ⟨h1, h2⟩ | ⟨j, v, h1, h2, h3⟩
      · exact .inl ⟨h1, fun k0 k1 => by rw [step, deq_false h, cond_false]; exact h2 k0 k1⟩
      · exact .inr ⟨j, v, h1, h2, fun k0 k1 => by rw [step, deq_false h, cond_false]; exact h3 k0 k1⟩

theorem find_law (n : Nat) (it : Int) (m : SM) (x : BK) (hl : m.length ≤ 50000) (hn : 50000 < n) :
    (mget kA32u8 m x = none ∧ ∀ g : Int → Option A, find_k n (refk it m) x g = g (-1)) ∨
    (∃ (j : Nat) (v : Int), mget kA32u8 m x = some v ∧ (refk it m).2.1[j]? = some (x, (bl v, ())) ∧ ∀ g : Int → Option A, find_k n (refk it m) x g = g (j : Int)) := by
  rcases find_l0_law (A := A) n it m x hl m.length n 0 (by omega) (by omega) with ⟨h1, h2⟩ | ⟨j, v, h1, h2, h3⟩
  · rw [List.drop_zero] at h1
    exact .inl ⟨h1, fun g => h2 _ _⟩
  · rw [List.drop_zero] at h1
    refine .inr ⟨j, v, h1, ?_, fun g => h3 _ _⟩
    show (m.map FE)[j]? = _
    rw [List.getElem?_map, h2]; rfl

theorem bln_nil : ∀ v : Nat, v < 256 → (bln v).isEmpty = (v == 0) := by decide +kernel

theorem rdone_law (n : Nat) (it : Nat) (hit : it ≤ 8) (m : SM) (hm : Inv it m) (x : BK) (hn : 50000 < n) (g : Bool → Option A) : rdone_k n (refk (it : Int) m) x g = g (dn m x) := by
  unfold rdone_k rdone_p dn
  rcases find_law (A := A) n (it : Int) m x hm.len hn with ⟨h1, h2⟩ | ⟨j, v, h1, h2, h3⟩
  · rw [h2, h1, decide_eq_false (by decide), cond_false]; rfl
  · obtain ⟨w, rfl, hw⟩ := hm.get h1
    rw [h3, h1, decide_eq_true (by omega), cond_true, if_pos (by omega), Int.toNat_natCast, h2, Option.bind_some, Option.isSome_some, Bool.true_and, Option.getD_some]
    have hb := bln_nil w (Nat.lt_of_lt_of_le hw (p256 hit))
    refine congrArg g ?_
    show (((bln w).length : Int) == 0) = ((w : Int) == 0)
    cases hw0 : bln w with
    | nil =>
      rw [hw0] at hb
      have : w = 0 := by simpa using hb.symm
      subst this; rfl
    | cons a r =>
      rw [hw0] at hb
      have : w ≠ 0 := by simpa using hb.symm
      rw [beq_eq_false_iff_ne.2 (by simp; omega), beq_eq_false_iff_ne.2 (by omega)]

-- ------------------------------------------------------------ what is known, now

/-- A block's part of the list, replaced. -/
def rep (q : BK × (List Int × Unit)) (L : List (BK × (List Int × Unit))) : List (BK × (List Int × Unit)) := L.map fun e => bif deq kA32u8 e.1 q.1 then q else e
def isin (q : BK × (List Int × Unit)) (L : List (BK × (List Int × Unit))) : Bool := L.any fun e => deq kA32u8 e.1 q.1

theorem put_l0_law (n : Nat) (s : KN) (q : BK × (List Int × Unit)) (t4 : KN) (L : List (BK × (List Int × Unit))) (hL : L.length ≤ 50000) (k0 : Bool → List (BK × (List Int × Unit)) → Option A) : ∀ (d f i : Nat) (b : Bool) (o : List (BK × (List Int × Unit))), i + d = L.length → d < f → o.length = i →
    put__l0 n L (L.length : Int) s q t4 k0 f b (i : Int) o = k0 (b || isin q (L.drop i)) (o ++ rep q (L.drop i)) := by
  intro d
  induction d with
  | zero =>
    intro f i b o hi hf ho
    obtain ⟨f, rfl⟩ : ∃ g, f = g + 1 := ⟨f - 1, by omega⟩
    rw [put__l0, put__b0, decide_eq_false (by omega), cond_false, List.drop_eq_nil_of_le (by omega)]
    simp [isin, rep]
  | succ d ih =>
    intro f i b o hi hf ho
    obtain ⟨f, rfl⟩ : ∃ g, f = g + 1 := ⟨f - 1, by omega⟩
    have hlt : i < L.length := by omega
    have e1 : IntKind.wrap .i64 ((i : Int) + 1) = ((i + 1 : Nat) : Int) := by rw [wrap_id (by omega) (by omega)]; omega
    rw [put__l0, put__b0, decide_eq_true (by omega), cond_true, if_pos (by omega), Int.toNat_natCast, List.getElem?_eq_getElem hlt, Option.bind_some, if_pos (by omega), if_pos (by omega), e1,
      ih f (i + 1) true (o ++ [q]) (by omega) (by omega) (by rw [List.length_append, ho]; rfl), ih f (i + 1) b (o ++ [L[i]]) (by omega) (by omega) (by rw [List.length_append, ho]; rfl), List.drop_eq_getElem_cons hlt]
    have hi2 : isin q (L[i] :: L.drop (i + 1)) = (deq kA32u8 L[i].1 q.1 || isin q (L.drop (i + 1))) := rfl
    have hr2 : rep q (L[i] :: L.drop (i + 1)) = (bif deq kA32u8 L[i].1 q.1 then q else L[i]) :: rep q (L.drop (i + 1)) := rfl
    rw [hi2, hr2]
    cases deq kA32u8 L[i].1 q.1 <;> simp

theorem rep_out {q : BK × (List Int × Unit)} {L : List (BK × (List Int × Unit))} (h : isin q L = false) : rep q L = L := by
  induction L with
  | nil => rfl
  | cons e r ih =>
    have h' : (deq kA32u8 e.1 q.1 || isin q r) = false := h
    rw [Bool.or_eq_false_iff] at h'
    show (bif deq kA32u8 e.1 q.1 then q else e) :: rep q r = _
    rw [h'.1, cond_false, ih h'.2]

theorem isin_map (m : SM) (x : BK) (o : List Int) : isin (x, (o, ())) (m.map FE) = true ↔ x ∈ m.map (·.1) := by
  induction m with
  | nil => simp [isin]
  | cons e r ih =>
    have h' : isin (x, (o, ())) ((e :: r).map FE) = (deq kA32u8 e.1 x || isin (x, (o, ())) (r.map FE)) := rfl
    rw [h', Bool.or_eq_true, ih, deq_iff]
    simp only [List.map_cons, List.mem_cons]
    constructor
    · rintro (h | h)
      · exact .inl h.symm
      · exact .inr h
    · rintro (h | h)
      · exact .inl h.symm
      · exact .inr h

theorem put_map (x : BK) (v : Int) : ∀ (m : SM), Uniq m → (mset kA32u8 m x v).map FE = if isin (x, (bl v, ())) (m.map FE) = true then rep (x, (bl v, ())) (m.map FE) else m.map FE ++ [(x, (bl v, ()))]
  | [], _ => rfl
  | e :: r, hu => by
    have hu' : e.1 ∉ r.map (·.1) ∧ Uniq r := by
      unfold Uniq at hu ⊢; rw [List.map_cons] at hu; exact List.nodup_cons.1 hu
    have h1 : isin (x, (bl v, ())) ((e :: r).map FE) = (deq kA32u8 e.1 x || isin (x, (bl v, ())) (r.map FE)) := rfl
    have h2 : rep (x, (bl v, ())) ((e :: r).map FE) = (bif deq kA32u8 e.1 x then (x, (bl v, ())) else FE e) :: rep (x, (bl v, ())) (r.map FE) := rfl
    rw [h1, h2]
    by_cases h : e.1 = x
    · have hni : isin (x, (bl v, ())) (r.map FE) = false := by
        cases hc : isin (x, (bl v, ())) (r.map FE) with
        | false => rfl
        | true => exact absurd ((isin_map r x _).1 hc) (h ▸ hu'.1)
      rw [h, deq_self, Bool.true_or, if_pos rfl, cond_true, rep_out hni]
      simp only [mset, h, decide_true, if_true, List.map_cons]
      rfl
    · have ih := put_map x v r hu'.2
      rw [deq_false h, Bool.false_or, cond_false]
      simp only [mset, h, decide_false, Bool.false_eq_true, if_false, List.map_cons, ih]
      split <;> rfl

theorem put_law (n : Nat) (it : Int) (m : SM) (hu : Uniq m) (hl : m.length ≤ 50000) (hn : 50000 < n) (x : BK) (v : Int) (o : List Int) (ho : o = bl v) (g : KN → Option A) : put__k n (refk it m) (x, (o, ())) g = g (refk it (mset kA32u8 m x v)) := by
  subst ho
  have hlen : (m.map FE).length = m.length := List.length_map ..
  unfold put__k put__p
  refine (put_l0_law n (refk it m) (x, (bl v, ())) (0, ([], ())) (m.map FE) (by omega) _ (m.map FE).length n 0 false [] (by omega) (by omega) rfl).trans ?_
  rw [List.drop_zero, Bool.false_or, List.nil_append]
  have hp := put_map x v m hu
  unfold refk
  rw [hp]
  cases hc : isin (x, (bl v, ())) (m.map FE) with
  | true => simp
  | false =>
    rw [rep_out hc]
    simp only [Bool.not_false, cond_true, Bool.false_eq_true, if_false]
    rw [if_pos (by omega)]

-- ------------------------------------------------------------ the open items

theorem open_l0_law (n : Nat) (sa : Int) (m : SM) (k0 : List Int → Option A) : ∀ (p f w : Nat) (o : List Int), w < 256 → pc w = p → p < f → o.length + p ≤ 8 →
    open__l0 (tz16_k n) n sa () m k0 f (w : Int) o = k0 (o ++ bln w) := by
  intro p
  induction p with
  | zero =>
    intro f w o hw hp hf ho
    obtain ⟨f, rfl⟩ : ∃ g, f = g + 1 := ⟨f - 1, by omega⟩
    have h0 : w = 0 := by
      rcases Nat.eq_zero_or_pos w with h | h
      · exact h
      · have := pc_pos w hw h; omega
    subst h0
    rw [open__l0, open__b0, show (((0 : Nat) : Int) != 0) = false from rfl, cond_false, bln_zero, List.append_nil]
  | succ p ih =>
    intro f w o hw hp hf ho
    obtain ⟨f, rfl⟩ : ∃ g, f = g + 1 := ⟨f - 1, by omega⟩
    have h0 : 0 < w := by
      rcases Nat.eq_zero_or_pos w with h | h
      · subst h; rw [show pc 0 = 0 from by decide] at hp; omega
      · exact h
    obtain ⟨b1, b2⟩ := bln_low w hw h0
    obtain ⟨_, _, b3, _⟩ := bit_facts w hw h0
    have hne : (((w : Nat) : Int) != 0) = true := by simp; omega
    rw [open__l0, open__b0, hne, cond_true, tz16_law n w h0 hw, if_pos (by omega), b2, ih f (w - 2 ^ tzn w) _ (Nat.lt_of_le_of_lt (Nat.sub_le _ _) hw) (by omega) (by omega) (by rw [List.length_append, List.length_singleton]; omega), b1, List.append_assoc]
    rfl

theorem open_law (n : Nat) (hn : 50000 < n) (it : Nat) (hit : it ≤ 8) (m : SM) (hm : Inv it m) (x : BK) (k : Int → Unit → SM → List Int → Option A) : open__k n x (it : Int) () m k = k (it : Int) () m (bl ((mget kA32u8 m x).getD 0)) := by
  unfold open__k open__p
  have key : ∀ w : Nat, w < 256 → open__l0 (tz16_k n) n (it : Int) () m (fun y2 => k (it : Int) () m y2) n (w : Int) [] = k (it : Int) () m (bln w) := fun w hw => by
    have hp := bln_len w hw
    have := bln_le w
    refine (open_l0_law n (it : Int) m _ (pc w) n w [] hw rfl (by omega) (by simp; omega)).trans ?_
    rw [List.nil_append]
  cases hg : mget kA32u8 m x with
  | none => exact key 0 (by decide)
  | some v =>
    obtain ⟨w, rfl, hw⟩ := hm.get hg
    exact key w (Nat.lt_of_lt_of_le hw (p256 hit))

end Go.Ev
end

