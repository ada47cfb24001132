import Derived.Test.YtbjoemlcakfkmaaDoorB5
set_option linter.all false
section
/-
  FUNCTION 3: printed by a program of our own (wip/gen/st.py). 'masthead/mastheadlaw25.ScanEnds', in continuation form; the evaluator gives it.
-/
set_option linter.all false
set_option maxRecDepth 100000
namespace Go.Ev
open Go.Proofs
variable {A : Type}

-- ============================================================ ends (function 3)
def ends_b1 (g_new_ : Int → (Int → Option A) → (Int → Int → Unit → (List ((List Int) × Int)) → Option A) → Option A) (g_awake : (Bool → Option A) → Option A) (g_row : (List Int) → ((List (List Int)) → Option A) → Option A) (g_next : (List (List Int)) → Int → Unit → (List ((List Int) × Int)) → ((Int × ((List Int) × (Int × Unit))) → Bool → Int → Unit → (List ((List Int) × Int)) → Option A) → Option A) (g_done : (List Int) → Int → Unit → (List ((List Int) × Int)) → (Bool → Int → Unit → (List ((List Int) × Int)) → Option A) → Option A) (g_filter : (List Int) → (List Int) → Int → Unit → (List ((List Int) × Int)) → (Int → Int → Unit → (List ((List Int) × Int)) → Option A) → Option A) (g_proof : (List Int) → Int → Int → Unit → (List ((List Int) × Int)) → (Int → Int → Unit → (List ((List Int) × Int)) → Option A) → Option A) (n : Nat) (items : Int) (t54 : (List (List Int))) (t55 : Int) (k0 : Option A) (k1 : Option A) (r : Int → Int → Unit → (List ((List Int) × Int)) → Option A) (t56 : Int) (sa : Int) (sbb : Unit) (sba : (List ((List Int) × Int))) : Option A :=
  bif (decide (t56 < t55)) then
    if 0 ≤ t56 then
      (t54[(Int.toNat t56)]?).bind fun y16 =>
      bif (decide (items > 0)) then
        g_done y16 sa sbb sba fun r17 r18 r19 r20 =>
        bif (!r17) then
          k0
        else
          r (IntKind.wrap .i64 (t56 + 1)) r18 r19 r20
      else
        r (IntKind.wrap .i64 (t56 + 1)) sa sbb sba
    else none
  else
    k1

def ends_l1 (g_new_ : Int → (Int → Option A) → (Int → Int → Unit → (List ((List Int) × Int)) → Option A) → Option A) (g_awake : (Bool → Option A) → Option A) (g_row : (List Int) → ((List (List Int)) → Option A) → Option A) (g_next : (List (List Int)) → Int → Unit → (List ((List Int) × Int)) → ((Int × ((List Int) × (Int × Unit))) → Bool → Int → Unit → (List ((List Int) × Int)) → Option A) → Option A) (g_done : (List Int) → Int → Unit → (List ((List Int) × Int)) → (Bool → Int → Unit → (List ((List Int) × Int)) → Option A) → Option A) (g_filter : (List Int) → (List Int) → Int → Unit → (List ((List Int) × Int)) → (Int → Int → Unit → (List ((List Int) × Int)) → Option A) → Option A) (g_proof : (List Int) → Int → Int → Unit → (List ((List Int) × Int)) → (Int → Int → Unit → (List ((List Int) × Int)) → Option A) → Option A) (n : Nat) (items : Int) (t54 : (List (List Int))) (t55 : Int) (k0 : Option A) (k1 : Option A) : Nat → Int → Int → Unit → (List ((List Int) × Int)) → Option A
  | 0 => fun _ _ _ _ => none
  | f + 1 => ends_b1 g_new_ g_awake g_row g_next g_done g_filter g_proof n items t54 t55 k0 k1 (ends_l1 g_new_ g_awake g_row g_next g_done g_filter g_proof n items t54 t55 k0 k1 f)

def ends_b0 (g_new_ : Int → (Int → Option A) → (Int → Int → Unit → (List ((List Int) × Int)) → Option A) → Option A) (g_awake : (Bool → Option A) → Option A) (g_row : (List Int) → ((List (List Int)) → Option A) → Option A) (g_next : (List (List Int)) → Int → Unit → (List ((List Int) × Int)) → ((Int × ((List Int) × (Int × Unit))) → Bool → Int → Unit → (List ((List Int) × Int)) → Option A) → Option A) (g_done : (List Int) → Int → Unit → (List ((List Int) × Int)) → (Bool → Int → Unit → (List ((List Int) × Int)) → Option A) → Option A) (g_filter : (List Int) → (List Int) → Int → Unit → (List ((List Int) × Int)) → (Int → Int → Unit → (List ((List Int) × Int)) → Option A) → Option A) (g_proof : (List Int) → Int → Int → Unit → (List ((List Int) × Int)) → (Int → Int → Unit → (List ((List Int) × Int)) → Option A) → Option A) (n : Nat) (items : Int) (matched : (List (List Int))) (l : (List (List Int))) (k0 : Bool → Option A) (k1 : Option A) (r : Int → Int → Unit → (List ((List Int) × Int)) → Option A) (i : Int) (sa : Int) (sbb : Unit) (sba : (List ((List Int) × Int))) : Option A :=
  bif (decide (i ≤ (IntKind.wrap .i64 ((l.length : Int) * (IntKind.wrap .i64 (items + 1)))))) then
    g_next l sa sbb sba fun r11 r12 r13 r14 r15 =>
    bif (!r12) then
      if 0 ≤ (imin 1 (l.length : Int)) then
        if (imin 1 (l.length : Int)) ≤ (l.length : Int) then
          ends_l1 g_new_ g_awake g_row g_next g_done g_filter g_proof n items ((l.drop (Int.toNat (imin 1 (l.length : Int)))).take (l.length - (Int.toNat (imin 1 (l.length : Int))))) (((l.drop (Int.toNat (imin 1 (l.length : Int)))).take (l.length - (Int.toNat (imin 1 (l.length : Int))))).length : Int) (
            k0 false) (
            g_awake fun r16 =>
            k0 r16) n 0 r13 r14 r15
        else none
      else none
    else
      bif (r11.1 == 3) then
        bif (decide ((matched.length : Int) > 0)) then
          if (matched.length : Int) = 0 then none else
          if 0 ≤ (Int.tmod i (matched.length : Int)) then
            (matched[(Int.toNat (Int.tmod i (matched.length : Int)))]?).bind fun y17 =>
            if 0 ≤ (imin (y17.length : Int) 20) then
              if (imin (y17.length : Int) 20) ≤ (y17.length : Int) then
                g_filter r11.2.1 ((y17.drop 0).take ((Int.toNat (imin (y17.length : Int) 20)) - 0)) r13 r14 r15 fun r18 r19 r20 r21 =>
                bif (r18 != 0) then
                  k0 false
                else
                  r (IntKind.wrap .i64 (i + 1)) r19 r20 r21
              else none
            else none
          else none
        else
          if 0 ≤ (imin 0 20) then
            if (imin 0 20) ≤ 0 then
              g_filter r11.2.1 (([].drop 0).take ((Int.toNat (imin 0 20)) - 0)) r13 r14 r15 fun r22 r23 r24 r25 =>
              bif (r22 != 0) then
                k0 false
              else
                r (IntKind.wrap .i64 (i + 1)) r23 r24 r25
            else none
          else none
      else
        bif (r11.1 == 5) then
          g_proof r11.2.1 r11.2.2.1 r13 r14 r15 fun r26 r27 r28 r29 =>
          bif (r26 != 0) then
            k0 false
          else
            r (IntKind.wrap .i64 (i + 1)) r27 r28 r29
        else
          k0 false
  else
    k1

def ends_l0 (g_new_ : Int → (Int → Option A) → (Int → Int → Unit → (List ((List Int) × Int)) → Option A) → Option A) (g_awake : (Bool → Option A) → Option A) (g_row : (List Int) → ((List (List Int)) → Option A) → Option A) (g_next : (List (List Int)) → Int → Unit → (List ((List Int) × Int)) → ((Int × ((List Int) × (Int × Unit))) → Bool → Int → Unit → (List ((List Int) × Int)) → Option A) → Option A) (g_done : (List Int) → Int → Unit → (List ((List Int) × Int)) → (Bool → Int → Unit → (List ((List Int) × Int)) → Option A) → Option A) (g_filter : (List Int) → (List Int) → Int → Unit → (List ((List Int) × Int)) → (Int → Int → Unit → (List ((List Int) × Int)) → Option A) → Option A) (g_proof : (List Int) → Int → Int → Unit → (List ((List Int) × Int)) → (Int → Int → Unit → (List ((List Int) × Int)) → Option A) → Option A) (n : Nat) (items : Int) (matched : (List (List Int))) (l : (List (List Int))) (k0 : Bool → Option A) (k1 : Option A) : Nat → Int → Int → Unit → (List ((List Int) × Int)) → Option A
  | 0 => fun _ _ _ _ => none
  | f + 1 => ends_b0 g_new_ g_awake g_row g_next g_done g_filter g_proof n items matched l k0 k1 (ends_l0 g_new_ g_awake g_row g_next g_done g_filter g_proof n items matched l k0 k1 f)

def ends_p (g_new_ : Int → (Int → Option A) → (Int → Int → Unit → (List ((List Int) × Int)) → Option A) → Option A) (g_awake : (Bool → Option A) → Option A) (g_row : (List Int) → ((List (List Int)) → Option A) → Option A) (g_next : (List (List Int)) → Int → Unit → (List ((List Int) × Int)) → ((Int × ((List Int) × (Int × Unit))) → Bool → Int → Unit → (List ((List Int) × Int)) → Option A) → Option A) (g_done : (List Int) → Int → Unit → (List ((List Int) × Int)) → (Bool → Int → Unit → (List ((List Int) × Int)) → Option A) → Option A) (g_filter : (List Int) → (List Int) → Int → Unit → (List ((List Int) × Int)) → (Int → Int → Unit → (List ((List Int) × Int)) → Option A) → Option A) (g_proof : (List Int) → Int → Int → Unit → (List ((List Int) × Int)) → (Int → Int → Unit → (List ((List Int) × Int)) → Option A) → Option A) (n : Nat) (a0 : Int) (a1 : (List Int)) (a2 : (List (List Int))) (k : Bool → Option A) : Option A :=
  g_new_ a0 (fun r1 =>
    bif (decide ((a1.length : Int) > 30)) then
      g_awake fun r2 =>
      k r2
    else
      bif (r1 != 0) then
        g_awake fun r3 =>
        k r3
      else
        k false) (fun r4 r5 r6 r7 =>
    bif (decide ((a1.length : Int) > 30)) then
      g_awake fun r8 =>
      k r8
    else
      bif (r4 != 0) then
        g_awake fun r9 =>
        k r9
      else
        g_row a1 fun r10 =>
        ends_l0 g_new_ g_awake g_row g_next g_done g_filter g_proof n a0 a2 r10 (fun y30 =>
          k y30) (
          k false) n 0 r5 r6 r7)

def ends_k (n : Nat) (a0 : Int) (a1 : (List Int)) (a2 : (List (List Int))) (k : Bool → Option A) : Option A := ends_p (new__k n) (awake_k n) (row_k n) (next_k n) (done_k n) (filter_k n) (proof_k n) n a0 a1 a2 k

noncomputable def ends_c0 : Code := codeAt [1, 1, 1, 1, 1, 0, 1, 0, 0] (bodyOf Tryd.f3)
def ends_d0 : List Nat := [1, 6, 8, 11, 12, 14, 15, 16, 17, 18, 19, 20, 21, 22, 23, 24, 25, 26, 27, 29, 30, 31, 32, 33, 34, 35, 36, 37, 38, 39, 40, 41, 42, 43, 44, 45, 46, 47, 48, 49, 50, 51, 52, 53, 54, 55, 56, 57, 58, 59, 60, 61, 62, 63, 64, 65, 66, 67, 68, 69, 70, 71, 72, 73, 74, 75, 76, 77, 78, 79, 80, 81, 82, 83, 84, 85, 86, 87, 88, 89, 90, 91, 92, 93, 94, 95, 96, 97, 98, 99, 100, 101, 102]
def ends_y0 : List Nat := [0, 1, 2, 3, 4, 5, 7, 8, 9, 10, 11, 12, 13, 14, 15, 16, 17, 18, 19, 20, 21, 22, 23, 24, 25, 26, 27, 28, 29, 30, 31, 32, 33, 34, 35, 36, 37, 38, 39, 40, 41, 42, 43, 44, 45, 46, 47, 48, 49, 50, 51, 52, 53, 54, 55, 56, 57, 58, 59, 60, 61, 62, 63, 64, 65, 66, 67, 68, 69, 70, 71, 72, 73, 74, 75, 76, 77, 78, 79, 80, 81, 82, 83, 84, 85, 86, 87, 88, 89, 90, 91, 92, 93, 94, 95, 96, 97, 98, 99, 100, 101, 102]
def ends_sh0 : Shape := ⟨[(.p (.int .i64)), .any, (.p (.sl (.sl (.int .i64)))), .any, .any, .any, .any, (.ptr 0), .any, (.p (.sl kA32u8)), (.p (.int .i64)), .any, .any, .any, .any, .any, .any, .any, .any, .any, .any, .any, .any, .any, .any, .any, .any, .any, .any, .any, .any, .any, .any, .any, .any, .any, .any, .any, .any, .any, .any, .any, .any, .any, .any, .any, .any, .any, .any, .any, .any, .any, .any, .any, .any, .any, .any, .any, .any, .any, .any, .any, .any, .any, .any, .any, .any, .any, .any, .any, .any, .any, .any, .any, .any, .any, .any, .any, .any, .any, .any, .any, .any, .any, .any, .any, .any, .any, .any, .any, .any, .any, .any, .any, .any, .any, .any, .any, .any, .any, .any, .any, .any], [(.var 57 kT56 (.pr (.p (.int .i64)) (.pr (.mp 1) (.p .unit)))), (.map kA32u8 (.int .u16))], 0⟩
def ends_x0_0 (items : Int) (matched : (List (List Int))) (l : (List (List Int))) (z0 : Bool) : St := ⟨[.any, .any, .any, .any, .any, .any, .p .bool z0, .any, .any, .any, .any, .any, .any, .any, .any, .any, .any, .any, .any, .any, .any, .any, .any, .any, .any, .any, .any, .any, .any, .any, .any, .any, .any, .any, .any, .any, .any, .any, .any, .any, .any, .any, .any, .any, .any, .any, .any, .any, .any, .any, .any, .any, .any, .any, .any, .any, .any, .any, .any, .any, .any, .any, .any, .any, .any, .any, .any, .any, .any, .any, .any, .any, .any, .any, .any, .any, .any, .any, .any, .any, .any, .any, .any, .any, .any, .any, .any, .any, .any, .any, .any, .any, .any, .any, .any, .any, .any, .any, .any, .any, .any, .any, .any], [], 0⟩
def ends_x0_1 (items : Int) (matched : (List (List Int))) (l : (List (List Int))) : St := ⟨[.any, .any, .any, .any, .any, .any, .any, .any, .any, .any, .any, .any, .any, .any, .any, .any, .any, .any, .any, .any, .any, .any, .any, .any, .any, .any, .any, .any, .any, .any, .any, .any, .any, .any, .any, .any, .any, .any, .any, .any, .any, .any, .any, .any, .any, .any, .any, .any, .any, .any, .any, .any, .any, .any, .any, .any, .any, .any, .any, .any, .any, .any, .any, .any, .any, .any, .any, .any, .any, .any, .any, .any, .any, .any, .any, .any, .any, .any, .any, .any, .any, .any, .any, .any, .any, .any, .any, .any, .any, .any, .any, .any, .any, .any, .any, .any, .any, .any, .any, .any, .any, .any, .any], [], 0⟩
def ends_g0 (g_new_ : Int → (Int → Option A) → (Int → Int → Unit → (List ((List Int) × Int)) → Option A) → Option A) (g_awake : (Bool → Option A) → Option A) (g_row : (List Int) → ((List (List Int)) → Option A) → Option A) (g_next : (List (List Int)) → Int → Unit → (List ((List Int) × Int)) → ((Int × ((List Int) × (Int × Unit))) → Bool → Int → Unit → (List ((List Int) × Int)) → Option A) → Option A) (g_done : (List Int) → Int → Unit → (List ((List Int) × Int)) → (Bool → Int → Unit → (List ((List Int) × Int)) → Option A) → Option A) (g_filter : (List Int) → (List Int) → Int → Unit → (List ((List Int) × Int)) → (Int → Int → Unit → (List ((List Int) × Int)) → Option A) → Option A) (g_proof : (List Int) → Int → Int → Unit → (List ((List Int) × Int)) → (Int → Int → Unit → (List ((List Int) × Int)) → Option A) → Option A) (n : Nat) (d : ends_sh0.den) (k : Ex → St → Option A) : Option A :=
  ends_l0 g_new_ g_awake g_row g_next g_done g_filter g_proof n d.1.1 d.1.2.2.1 d.1.2.2.2.2.2.2.2.2.2.1 (fun z0 => k .ret (ends_x0_0 d.1.1 d.1.2.2.1 d.1.2.2.2.2.2.2.2.2.2.1 z0)) (k (.exit 0) (ends_x0_1 d.1.1 d.1.2.2.1 d.1.2.2.2.2.2.2.2.2.2.1)) n d.1.2.2.2.2.2.2.2.2.2.2.1 d.2.1.1 d.2.1.2.2 d.2.2.1
noncomputable def ends_c1 : Code := codeAt [1, 1, 1, 1, 1, 0, 1, 0, 0, 1, 0, 0, 1, 0, 1, 0, 0, 1, 0, 0] (bodyOf Tryd.f3)
def ends_d1 : List Nat := [2, 6, 9, 10, 11, 12, 14, 33, 34, 35, 36, 37, 38, 39, 42, 43, 44, 45, 46, 47, 48, 49, 50, 51, 52, 53, 57, 58, 59, 60, 61, 62, 63, 64, 65, 66, 67, 68]
def ends_y1 : List Nat := [0, 1, 2, 3, 4, 5, 7, 8, 9, 10, 11, 12, 13, 14, 15, 16, 17, 18, 19, 20, 21, 22, 23, 24, 25, 26, 27, 28, 29, 30, 31, 32, 33, 34, 35, 36, 37, 38, 39, 40, 41, 42, 43, 44, 45, 46, 47, 48, 49, 50, 51, 52, 53, 54, 55, 56, 57, 58, 59, 60, 61, 62, 63, 64, 65, 66, 67, 68, 69, 70, 71, 72, 73, 74, 75, 76, 77, 78, 79, 80, 81, 82, 83, 84, 85, 86, 87, 88, 89, 90, 91, 92, 93, 94, 95, 96, 97, 98, 99, 100, 101, 102]
def ends_sh1 : Shape := ⟨[(.p (.int .i64)), .any, .any, .any, .any, .any, .any, (.ptr 0), .any, .any, .any, .any, .any, .any, .any, .any, .any, .any, .any, .any, .any, .any, .any, .any, .any, .any, .any, .any, .any, .any, .any, .any, .any, .any, .any, .any, .any, .any, .any, .any, .any, .any, .any, .any, .any, .any, .any, .any, .any, .any, .any, .any, .any, .any, (.p (.sl kA32u8)), (.p (.int .i64)), (.p (.int .i64)), .any, .any, .any, .any, .any, .any, .any, .any, .any, .any, .any, .any, .any, .any, .any, .any, .any, .any, .any, .any, .any, .any, .any, .any, .any, .any, .any, .any, .any, .any, .any, .any, .any, .any, .any, .any, .any, .any, .any, .any, .any, .any, .any, .any, .any, .any], [(.var 57 kT56 (.pr (.p (.int .i64)) (.pr (.mp 1) (.p .unit)))), (.map kA32u8 (.int .u16))], 0⟩
def ends_x1_0 (items : Int) (t54 : (List (List Int))) (t55 : Int) : St := ⟨[.any, .any, .any, .any, .any, .any, .p .bool false, .any, .any, .any, .any, .any, .any, .any, .any, .any, .any, .any, .any, .any, .any, .any, .any, .any, .any, .any, .any, .any, .any, .any, .any, .any, .any, .any, .any, .any, .any, .any, .any, .any, .any, .any, .any, .any, .any, .any, .any, .any, .any, .any, .any, .any, .any, .any, .any, .any, .any, .any, .any, .any, .any, .any, .any, .any, .any, .any, .any, .any, .any, .any, .any, .any, .any, .any, .any, .any, .any, .any, .any, .any, .any, .any, .any, .any, .any, .any, .any, .any, .any, .any, .any, .any, .any, .any, .any, .any, .any, .any, .any, .any, .any, .any, .any], [], 0⟩
def ends_x1_1 (items : Int) (t54 : (List (List Int))) (t55 : Int) : St := ⟨[.any, .any, .any, .any, .any, .any, .any, .any, .any, .any, .any, .any, .any, .any, .any, .any, .any, .any, .any, .any, .any, .any, .any, .any, .any, .any, .any, .any, .any, .any, .any, .any, .any, .any, .any, .any, .any, .any, .any, .any, .any, .any, .any, .any, .any, .any, .any, .any, .any, .any, .any, .any, .any, .any, .any, .any, .any, .any, .any, .any, .any, .any, .any, .any, .any, .any, .any, .any, .any, .any, .any, .any, .any, .any, .any, .any, .any, .any, .any, .any, .any, .any, .any, .any, .any, .any, .any, .any, .any, .any, .any, .any, .any, .any, .any, .any, .any, .any, .any, .any, .any, .any, .any], [], 0⟩
def ends_g1 (g_new_ : Int → (Int → Option A) → (Int → Int → Unit → (List ((List Int) × Int)) → Option A) → Option A) (g_awake : (Bool → Option A) → Option A) (g_row : (List Int) → ((List (List Int)) → Option A) → Option A) (g_next : (List (List Int)) → Int → Unit → (List ((List Int) × Int)) → ((Int × ((List Int) × (Int × Unit))) → Bool → Int → Unit → (List ((List Int) × Int)) → Option A) → Option A) (g_done : (List Int) → Int → Unit → (List ((List Int) × Int)) → (Bool → Int → Unit → (List ((List Int) × Int)) → Option A) → Option A) (g_filter : (List Int) → (List Int) → Int → Unit → (List ((List Int) × Int)) → (Int → Int → Unit → (List ((List Int) × Int)) → Option A) → Option A) (g_proof : (List Int) → Int → Int → Unit → (List ((List Int) × Int)) → (Int → Int → Unit → (List ((List Int) × Int)) → Option A) → Option A) (n : Nat) (d : ends_sh1.den) (k : Ex → St → Option A) : Option A :=
  ends_l1 g_new_ g_awake g_row g_next g_done g_filter g_proof n d.1.1 d.1.2.2.2.2.2.2.2.2.2.2.2.2.2.2.2.2.2.2.2.2.2.2.2.2.2.2.2.2.2.2.2.2.2.2.2.2.2.2.2.2.2.2.2.2.2.2.2.2.2.2.2.2.2.2.1 d.1.2.2.2.2.2.2.2.2.2.2.2.2.2.2.2.2.2.2.2.2.2.2.2.2.2.2.2.2.2.2.2.2.2.2.2.2.2.2.2.2.2.2.2.2.2.2.2.2.2.2.2.2.2.2.2.1 (k .ret (ends_x1_0 d.1.1 d.1.2.2.2.2.2.2.2.2.2.2.2.2.2.2.2.2.2.2.2.2.2.2.2.2.2.2.2.2.2.2.2.2.2.2.2.2.2.2.2.2.2.2.2.2.2.2.2.2.2.2.2.2.2.2.1 d.1.2.2.2.2.2.2.2.2.2.2.2.2.2.2.2.2.2.2.2.2.2.2.2.2.2.2.2.2.2.2.2.2.2.2.2.2.2.2.2.2.2.2.2.2.2.2.2.2.2.2.2.2.2.2.2.1)) (k (.exit 2) (ends_x1_1 d.1.1 d.1.2.2.2.2.2.2.2.2.2.2.2.2.2.2.2.2.2.2.2.2.2.2.2.2.2.2.2.2.2.2.2.2.2.2.2.2.2.2.2.2.2.2.2.2.2.2.2.2.2.2.2.2.2.2.1 d.1.2.2.2.2.2.2.2.2.2.2.2.2.2.2.2.2.2.2.2.2.2.2.2.2.2.2.2.2.2.2.2.2.2.2.2.2.2.2.2.2.2.2.2.2.2.2.2.2.2.2.2.2.2.2.2.1)) n d.1.2.2.2.2.2.2.2.2.2.2.2.2.2.2.2.2.2.2.2.2.2.2.2.2.2.2.2.2.2.2.2.2.2.2.2.2.2.2.2.2.2.2.2.2.2.2.2.2.2.2.2.2.2.2.2.2.1 d.2.1.1 d.2.1.2.2 d.2.2.1
noncomputable def ends_E (g_new_ : Int → (Int → Option A) → (Int → Int → Unit → (List ((List Int) × Int)) → Option A) → Option A) (g_awake : (Bool → Option A) → Option A) (g_row : (List Int) → ((List (List Int)) → Option A) → Option A) (g_next : (List (List Int)) → Int → Unit → (List ((List Int) × Int)) → ((Int × ((List Int) × (Int × Unit))) → Bool → Int → Unit → (List ((List Int) × Int)) → Option A) → Option A) (g_done : (List Int) → Int → Unit → (List ((List Int) × Int)) → (Bool → Int → Unit → (List ((List Int) × Int)) → Option A) → Option A) (g_filter : (List Int) → (List Int) → Int → Unit → (List ((List Int) × Int)) → (Int → Int → Unit → (List ((List Int) × Int)) → Option A) → Option A) (g_proof : (List Int) → Int → Int → Unit → (List ((List Int) × Int)) → (Int → Int → Unit → (List ((List Int) × Int)) → Option A) → Option A) (n : Nat) : Env A := ⟨tys, gls, [(6, new__ent g_new_), (7, awake_ent g_awake), (8, row_ent g_row), (9, next_ent g_next), (10, done_ent g_done), (11, filter_ent g_filter), (12, proof_ent g_proof)], [(0, loopE ends_d0 ends_sh0 (ends_g0 g_new_ g_awake g_row g_next g_done g_filter g_proof n)), (1, loopE ends_d1 ends_sh1 (ends_g1 g_new_ g_awake g_row g_next g_done g_filter g_proof n))], []⟩
theorem ends_T (g_new_ : Int → (Int → Option A) → (Int → Int → Unit → (List ((List Int) × Int)) → Option A) → Option A) (g_awake : (Bool → Option A) → Option A) (g_row : (List Int) → ((List (List Int)) → Option A) → Option A) (g_next : (List (List Int)) → Int → Unit → (List ((List Int) × Int)) → ((Int × ((List Int) × (Int × Unit))) → Bool → Int → Unit → (List ((List Int) × Int)) → Option A) → Option A) (g_done : (List Int) → Int → Unit → (List ((List Int) × Int)) → (Bool → Int → Unit → (List ((List Int) × Int)) → Option A) → Option A) (g_filter : (List Int) → (List Int) → Int → Unit → (List ((List Int) × Int)) → (Int → Int → Unit → (List ((List Int) × Int)) → Option A) → Option A) (g_proof : (List Int) → Int → Int → Unit → (List ((List Int) × Int)) → (Int → Int → Unit → (List ((List Int) × Int)) → Option A) → Option A) (n : Nat) : TyOK Tryd.prog (ends_E g_new_ g_awake g_row g_next g_done g_filter g_proof n) := tyOK_of rfl tysB
theorem ends_fns (n : Nat) : FnsOK Tryd.prog (ends_E (A := A) (new__k n) (awake_k n) (row_k n) (next_k n) (done_k n) (filter_k n) (proof_k n) n) := AllOK.env rfl rfl (AllOK.cons (new__ok n) (AllOK.cons (awake_ok n) (AllOK.cons (row_ok n) (AllOK.cons (next_ok n) (AllOK.cons (done_ok n) (AllOK.cons (filter_ok n) (AllOK.cons (proof_ok n) AllOK.nil)))))))
noncomputable def ends_LK1 (g_new_ : Int → (Int → Option A) → (Int → Int → Unit → (List ((List Int) × Int)) → Option A) → Option A) (g_awake : (Bool → Option A) → Option A) (g_row : (List Int) → ((List (List Int)) → Option A) → Option A) (g_next : (List (List Int)) → Int → Unit → (List ((List Int) × Int)) → ((Int × ((List Int) × (Int × Unit))) → Bool → Int → Unit → (List ((List Int) × Int)) → Option A) → Option A) (g_done : (List Int) → Int → Unit → (List ((List Int) × Int)) → (Bool → Int → Unit → (List ((List Int) × Int)) → Option A) → Option A) (g_filter : (List Int) → (List Int) → Int → Unit → (List ((List Int) × Int)) → (Int → Int → Unit → (List ((List Int) × Int)) → Option A) → Option A) (g_proof : (List Int) → Int → Int → Unit → (List ((List Int) × Int)) → (Int → Int → Unit → (List ((List Int) × Int)) → Option A) → Option A) (n : Nat) (items : Int) (t54 : (List (List Int))) (t55 : Int) (k : Ex → St → Option A) (f : Nat) (t56 : Int) (sa : Int) (sbb : Unit) (sba : (List ((List Int) × Int))) : Option A := loopK (codeK (ends_E g_new_ g_awake g_row g_next g_done g_filter g_proof n) 2 ends_c1) ends_d1 ends_y1 f (⟨[.p (.int .i64) items, .any, .any, .any, .any, .any, .any, .ptr 0 [], .any, .any, .any, .any, .any, .any, .any, .any, .any, .any, .any, .any, .any, .any, .any, .any, .any, .any, .any, .any, .any, .any, .any, .any, .any, .any, .any, .any, .any, .any, .any, .any, .any, .any, .any, .any, .any, .any, .any, .any, .any, .any, .any, .any, .any, .any, .p (.sl kA32u8) t54, .p (.int .i64) t55, .p (.int .i64) t56, .any, .any, .any, .any, .any, .any, .any, .any, .any, .any, .any, .any, .any, .any, .any, .any, .any, .any, .any, .any, .any, .any, .any, .any, .any, .any, .any, .any, .any, .any, .any, .any, .any, .any, .any, .any, .any, .any, .any, .any, .any, .any, .any, .any, .any, .any], [.var 57 kT56 (.pr (.p (.int .i64) sa) (.pr (.mp 1) (.p .unit sbb))), .map kA32u8 (.int .u16) sba], 0⟩) k
theorem ends_st1 (g_new_ : Int → (Int → Option A) → (Int → Int → Unit → (List ((List Int) × Int)) → Option A) → Option A) (g_awake : (Bool → Option A) → Option A) (g_row : (List Int) → ((List (List Int)) → Option A) → Option A) (g_next : (List (List Int)) → Int → Unit → (List ((List Int) × Int)) → ((Int × ((List Int) × (Int × Unit))) → Bool → Int → Unit → (List ((List Int) × Int)) → Option A) → Option A) (g_done : (List Int) → Int → Unit → (List ((List Int) × Int)) → (Bool → Int → Unit → (List ((List Int) × Int)) → Option A) → Option A) (g_filter : (List Int) → (List Int) → Int → Unit → (List ((List Int) × Int)) → (Int → Int → Unit → (List ((List Int) × Int)) → Option A) → Option A) (g_proof : (List Int) → Int → Int → Unit → (List ((List Int) × Int)) → (Int → Int → Unit → (List ((List Int) × Int)) → Option A) → Option A) (n f : Nat) (items : Int) (t54 : (List (List Int))) (t55 : Int) (k : Ex → St → Option A) (t56 : Int) (sa : Int) (sbb : Unit) (sba : (List ((List Int) × Int))) : ends_LK1 g_new_ g_awake g_row g_next g_done g_filter g_proof n items t54 t55 k (f + 1) t56 sa sbb sba = ends_b1 g_new_ g_awake g_row g_next g_done g_filter g_proof n items t54 t55 (k .ret (ends_x1_0 items t54 t55)) (k (.exit 2) (ends_x1_1 items t54 t55)) (ends_LK1 g_new_ g_awake g_row g_next g_done g_filter g_proof n items t54 t55 k f) t56 sa sbb sba := by kernel_rfl
theorem ends_le1 (g_new_ : Int → (Int → Option A) → (Int → Int → Unit → (List ((List Int) × Int)) → Option A) → Option A) (g_awake : (Bool → Option A) → Option A) (g_row : (List Int) → ((List (List Int)) → Option A) → Option A) (g_next : (List (List Int)) → Int → Unit → (List ((List Int) × Int)) → ((Int × ((List Int) × (Int × Unit))) → Bool → Int → Unit → (List ((List Int) × Int)) → Option A) → Option A) (g_done : (List Int) → Int → Unit → (List ((List Int) × Int)) → (Bool → Int → Unit → (List ((List Int) × Int)) → Option A) → Option A) (g_filter : (List Int) → (List Int) → Int → Unit → (List ((List Int) × Int)) → (Int → Int → Unit → (List ((List Int) × Int)) → Option A) → Option A) (g_proof : (List Int) → Int → Int → Unit → (List ((List Int) × Int)) → (Int → Int → Unit → (List ((List Int) × Int)) → Option A) → Option A) (n : Nat) (items : Int) (t54 : (List (List Int))) (t55 : Int) (k : Ex → St → Option A) : ∀ (f : Nat) (t56 : Int) (sa : Int) (sbb : Unit) (sba : (List ((List Int) × Int))), ends_LK1 g_new_ g_awake g_row g_next g_done g_filter g_proof n items t54 t55 k f t56 sa sbb sba = ends_l1 g_new_ g_awake g_row g_next g_done g_filter g_proof n items t54 t55 (k .ret (ends_x1_0 items t54 t55)) (k (.exit 2) (ends_x1_1 items t54 t55)) f t56 sa sbb sba := by
  intro f
  induction f with
  | zero => intros; kernel_rfl
  | succ f ih => intro t56 sa sbb sba; exact (ends_st1 g_new_ g_awake g_row g_next g_done g_filter g_proof n f items t54 t55 k t56 sa sbb sba).trans ((congrArg (fun r => ends_b1 g_new_ g_awake g_row g_next g_done g_filter g_proof n items t54 t55 (k .ret (ends_x1_0 items t54 t55)) (k (.exit 2) (ends_x1_1 items t54 t55)) r t56 sa sbb sba) (funext fun t56 => funext fun sa => funext fun sbb => funext fun sba => ih t56 sa sbb sba)).trans (by kernel_rfl))
theorem ends_lo1 (n : Nat) : LoopOK Tryd.prog gls ends_c1 (loopE ends_d1 ends_sh1 (ends_g1 (A := A) (new__k n) (awake_k n) (row_k n) (next_k n) (done_k n) (filter_k n) (proof_k n) n)) :=
  LoopOK.of (ends_T (new__k n) (awake_k n) (row_k n) (next_k n) (done_k n) (filter_k n) (proof_k n) n) (ends_fns n) follows (j := 2) (n := n) (xdead := ends_y1) (lo_of (by kernel_rfl : loopsOf 2 ends_c1 = []) lo_nil) fun d k => Eq.trans (by kernel_rfl) (ends_le1 (new__k n) (awake_k n) (row_k n) (next_k n) (done_k n) (filter_k n) (proof_k n) n d.1.1 d.1.2.2.2.2.2.2.2.2.2.2.2.2.2.2.2.2.2.2.2.2.2.2.2.2.2.2.2.2.2.2.2.2.2.2.2.2.2.2.2.2.2.2.2.2.2.2.2.2.2.2.2.2.2.2.1 d.1.2.2.2.2.2.2.2.2.2.2.2.2.2.2.2.2.2.2.2.2.2.2.2.2.2.2.2.2.2.2.2.2.2.2.2.2.2.2.2.2.2.2.2.2.2.2.2.2.2.2.2.2.2.2.2.1 k n d.1.2.2.2.2.2.2.2.2.2.2.2.2.2.2.2.2.2.2.2.2.2.2.2.2.2.2.2.2.2.2.2.2.2.2.2.2.2.2.2.2.2.2.2.2.2.2.2.2.2.2.2.2.2.2.2.2.1 d.2.1.1 d.2.1.2.2 d.2.2.1)
noncomputable def ends_LK0 (g_new_ : Int → (Int → Option A) → (Int → Int → Unit → (List ((List Int) × Int)) → Option A) → Option A) (g_awake : (Bool → Option A) → Option A) (g_row : (List Int) → ((List (List Int)) → Option A) → Option A) (g_next : (List (List Int)) → Int → Unit → (List ((List Int) × Int)) → ((Int × ((List Int) × (Int × Unit))) → Bool → Int → Unit → (List ((List Int) × Int)) → Option A) → Option A) (g_done : (List Int) → Int → Unit → (List ((List Int) × Int)) → (Bool → Int → Unit → (List ((List Int) × Int)) → Option A) → Option A) (g_filter : (List Int) → (List Int) → Int → Unit → (List ((List Int) × Int)) → (Int → Int → Unit → (List ((List Int) × Int)) → Option A) → Option A) (g_proof : (List Int) → Int → Int → Unit → (List ((List Int) × Int)) → (Int → Int → Unit → (List ((List Int) × Int)) → Option A) → Option A) (n : Nat) (items : Int) (matched : (List (List Int))) (l : (List (List Int))) (k : Ex → St → Option A) (f : Nat) (i : Int) (sa : Int) (sbb : Unit) (sba : (List ((List Int) × Int))) : Option A := loopK (codeK (ends_E g_new_ g_awake g_row g_next g_done g_filter g_proof n) 1 ends_c0) ends_d0 ends_y0 f (⟨[.p (.int .i64) items, .any, .p (.sl (.sl (.int .i64))) matched, .any, .any, .any, .any, .ptr 0 [], .any, .p (.sl kA32u8) l, .p (.int .i64) i, .any, .any, .any, .any, .any, .any, .any, .any, .any, .any, .any, .any, .any, .any, .any, .any, .any, .any, .any, .any, .any, .any, .any, .any, .any, .any, .any, .any, .any, .any, .any, .any, .any, .any, .any, .any, .any, .any, .any, .any, .any, .any, .any, .any, .any, .any, .any, .any, .any, .any, .any, .any, .any, .any, .any, .any, .any, .any, .any, .any, .any, .any, .any, .any, .any, .any, .any, .any, .any, .any, .any, .any, .any, .any, .any, .any, .any, .any, .any, .any, .any, .any, .any, .any, .any, .any, .any, .any, .any, .any, .any, .any], [.var 57 kT56 (.pr (.p (.int .i64) sa) (.pr (.mp 1) (.p .unit sbb))), .map kA32u8 (.int .u16) sba], 0⟩) k
theorem ends_st0 (g_new_ : Int → (Int → Option A) → (Int → Int → Unit → (List ((List Int) × Int)) → Option A) → Option A) (g_awake : (Bool → Option A) → Option A) (g_row : (List Int) → ((List (List Int)) → Option A) → Option A) (g_next : (List (List Int)) → Int → Unit → (List ((List Int) × Int)) → ((Int × ((List Int) × (Int × Unit))) → Bool → Int → Unit → (List ((List Int) × Int)) → Option A) → Option A) (g_done : (List Int) → Int → Unit → (List ((List Int) × Int)) → (Bool → Int → Unit → (List ((List Int) × Int)) → Option A) → Option A) (g_filter : (List Int) → (List Int) → Int → Unit → (List ((List Int) × Int)) → (Int → Int → Unit → (List ((List Int) × Int)) → Option A) → Option A) (g_proof : (List Int) → Int → Int → Unit → (List ((List Int) × Int)) → (Int → Int → Unit → (List ((List Int) × Int)) → Option A) → Option A) (n f : Nat) (items : Int) (matched : (List (List Int))) (l : (List (List Int))) (k : Ex → St → Option A) (i : Int) (sa : Int) (sbb : Unit) (sba : (List ((List Int) × Int))) : ends_LK0 g_new_ g_awake g_row g_next g_done g_filter g_proof n items matched l k (f + 1) i sa sbb sba = ends_b0 g_new_ g_awake g_row g_next g_done g_filter g_proof n items matched l (fun z0 => k .ret (ends_x0_0 items matched l z0)) (k (.exit 0) (ends_x0_1 items matched l)) (ends_LK0 g_new_ g_awake g_row g_next g_done g_filter g_proof n items matched l k f) i sa sbb sba := by kernel_rfl
theorem ends_le0 (g_new_ : Int → (Int → Option A) → (Int → Int → Unit → (List ((List Int) × Int)) → Option A) → Option A) (g_awake : (Bool → Option A) → Option A) (g_row : (List Int) → ((List (List Int)) → Option A) → Option A) (g_next : (List (List Int)) → Int → Unit → (List ((List Int) × Int)) → ((Int × ((List Int) × (Int × Unit))) → Bool → Int → Unit → (List ((List Int) × Int)) → Option A) → Option A) (g_done : (List Int) → Int → Unit → (List ((List Int) × Int)) → (Bool → Int → Unit → (List ((List Int) × Int)) → Option A) → Option A) (g_filter : (List Int) → (List Int) → Int → Unit → (List ((List Int) × Int)) → (Int → Int → Unit → (List ((List Int) × Int)) → Option A) → Option A) (g_proof : (List Int) → Int → Int → Unit → (List ((List Int) × Int)) → (Int → Int → Unit → (List ((List Int) × Int)) → Option A) → Option A) (n : Nat) (items : Int) (matched : (List (List Int))) (l : (List (List Int))) (k : Ex → St → Option A) : ∀ (f : Nat) (i : Int) (sa : Int) (sbb : Unit) (sba : (List ((List Int) × Int))), ends_LK0 g_new_ g_awake g_row g_next g_done g_filter g_proof n items matched l k f i sa sbb sba = ends_l0 g_new_ g_awake g_row g_next g_done g_filter g_proof n items matched l (fun z0 => k .ret (ends_x0_0 items matched l z0)) (k (.exit 0) (ends_x0_1 items matched l)) f i sa sbb sba := by
  intro f
  induction f with
  | zero => intros; kernel_rfl
  | succ f ih => intro i sa sbb sba; exact (ends_st0 g_new_ g_awake g_row g_next g_done g_filter g_proof n f items matched l k i sa sbb sba).trans ((congrArg (fun r => ends_b0 g_new_ g_awake g_row g_next g_done g_filter g_proof n items matched l (fun z0 => k .ret (ends_x0_0 items matched l z0)) (k (.exit 0) (ends_x0_1 items matched l)) r i sa sbb sba) (funext fun i => funext fun sa => funext fun sbb => funext fun sba => ih i sa sbb sba)).trans (by kernel_rfl))
theorem ends_lo0 (n : Nat) : LoopOK Tryd.prog gls ends_c0 (loopE ends_d0 ends_sh0 (ends_g0 (A := A) (new__k n) (awake_k n) (row_k n) (next_k n) (done_k n) (filter_k n) (proof_k n) n)) :=
  LoopOK.of (ends_T (new__k n) (awake_k n) (row_k n) (next_k n) (done_k n) (filter_k n) (proof_k n) n) (ends_fns n) follows (j := 1) (n := n) (xdead := ends_y0) (lo_of (by kernel_rfl : loopsOf 1 ends_c0 = [(1, ends_c1)]) (lo_cons rfl (ends_lo1 n) lo_nil)) fun d k => Eq.trans (by kernel_rfl) (ends_le0 (new__k n) (awake_k n) (row_k n) (next_k n) (done_k n) (filter_k n) (proof_k n) n d.1.1 d.1.2.2.1 d.1.2.2.2.2.2.2.2.2.2.1 k n d.1.2.2.2.2.2.2.2.2.2.2.1 d.2.1.1 d.2.1.2.2 d.2.2.1)
theorem ends_eqg (g_new_ : Int → (Int → Option A) → (Int → Int → Unit → (List ((List Int) × Int)) → Option A) → Option A) (g_awake : (Bool → Option A) → Option A) (g_row : (List Int) → ((List (List Int)) → Option A) → Option A) (g_next : (List (List Int)) → Int → Unit → (List ((List Int) × Int)) → ((Int × ((List Int) × (Int × Unit))) → Bool → Int → Unit → (List ((List Int) × Int)) → Option A) → Option A) (g_done : (List Int) → Int → Unit → (List ((List Int) × Int)) → (Bool → Int → Unit → (List ((List Int) × Int)) → Option A) → Option A) (g_filter : (List Int) → (List Int) → Int → Unit → (List ((List Int) × Int)) → (Int → Int → Unit → (List ((List Int) × Int)) → Option A) → Option A) (g_proof : (List Int) → Int → Int → Unit → (List ((List Int) × Int)) → (Int → Int → Unit → (List ((List Int) × Int)) → Option A) → Option A) (n : Nat) (a0 : Int) (a1 : (List Int)) (a2 : (List (List Int))) (k : AV → List Blk → Option A) : fnK (ends_E g_new_ g_awake g_row g_next g_done g_filter g_proof n) Tryd.f3 [.pure] [.p (.int .i64) a0, .p (.sl (.int .u8)) a1, .p (.sl (.sl (.int .i64))) a2] [] k = ends_p g_new_ g_awake g_row g_next g_done g_filter g_proof n a0 a1 a2 (fun r0 => k (.p .bool r0) []) := by kernel_rfl
theorem ends_eq (n : Nat) (a0 : Int) (a1 : (List Int)) (a2 : (List (List Int))) (k : AV → List Blk → Option A) : fnK (ends_E (new__k n) (awake_k n) (row_k n) (next_k n) (done_k n) (filter_k n) (proof_k n) n) Tryd.f3 [.pure] [.p (.int .i64) a0, .p (.sl (.int .u8)) a1, .p (.sl (.sl (.int .i64))) a2] [] k = ends_k n a0 a1 a2 (fun r0 => k (.p .bool r0) []) := ends_eqg (new__k n) (awake_k n) (row_k n) (next_k n) (done_k n) (filter_k n) (proof_k n) n a0 a1 a2 k
def ends_ent (g : Int → (List Int) → (List (List Int)) → (Bool → Option A) → Option A) : Entry A := pureE fun args k => args3 args (.int .i64) (.sl (.int .u8)) (.sl (.sl (.int .i64))) fun a0 a1 a2 => g a0 a1 a2 (fun r0 => k (.p .bool r0) [])
theorem ends_lo (n : Nat) : ∀ c, Tryd.f3.body = some c → ∀ q ∈ loopsOf 0 c, ∀ L, (ends_E (A := A) (new__k n) (awake_k n) (row_k n) (next_k n) (done_k n) (filter_k n) (proof_k n) n).lps.lookup q.1 = some L → LoopOK Tryd.prog gls q.2 L :=
  lo_body (E := ends_E (new__k n) (awake_k n) (row_k n) (next_k n) (done_k n) (filter_k n) (proof_k n) n) (by kernel_rfl : Tryd.f3.body = some (bodyOf Tryd.f3)) (lo_of (E := ends_E (new__k n) (awake_k n) (row_k n) (next_k n) (done_k n) (filter_k n) (proof_k n) n) (by kernel_rfl : loopsOf 0 (bodyOf Tryd.f3) = [(0, ends_c0), (1, ends_c1)]) (lo_cons rfl (ends_lo0 n) (lo_cons rfl (ends_lo1 n) lo_nil)))
theorem ends_ok (n : Nat) : FnOK Tryd.prog gls 3 (ends_ent (A := A) (ends_k n)) :=
  FnOK.of (ends_T (new__k n) (awake_k n) (row_k n) (next_k n) (done_k n) (filter_k n) (proof_k n) n) (ends_fns n) follows ⟨Tryd.func3, by kernel_rfl⟩ (ends_lo n) (rm := [.pure]) fun args k out h => by
    obtain ⟨a0, a1, a2, e, h1⟩ := args3_sound h
    subst e; rw [ends_eq]; exact h1

end Go.Ev
end

section
/-
  THE LAW OF ScanEnds.
-/
set_option linter.all false
namespace Go.Ev
variable {A : Type}

/-- What is still owed for a block. -/
def owed (it : Nat) (m : SM) (x : BK) : Nat := match mget kA32u8 m x with
  | none => it + 1
  | some v => pc v.toNat
def owe (it : Nat) (m : SM) : List BK → Nat
  | [] => 0
  | x :: r => owed it m x + owe it m r

/-- What a scan holds. -/
def Okm (it : Nat) (m : SM) : Prop := ∀ x v, mget kA32u8 m x = some v → ∃ w : Nat, v = (w : Int) ∧ w < 2 ^ it

theorem Okm.put {it : Nat} {m : SM} (h : Okm it m) (x : BK) (w : Nat) (hw : w < 2 ^ it) : Okm it (mset kA32u8 m x (w : Int)) := fun y v hv => by
  rw [mget_mset] at hv
  split at hv
  · cases hv; exact ⟨w, rfl, hw⟩
  · exact h y v hv

theorem owed_put (it : Nat) (m : SM) (x : BK) (w : Nat) (y : BK) : owed it (mset kA32u8 m x (w : Int)) y = if @decide (x = y) (kA32u8.dec x y) then pc w else owed it m y := by
  unfold owed
  rw [mget_mset]
  by_cases h : x = y
  · rw [if_pos (by simpa using h), if_pos (by simpa using h)]; rfl
  · rw [if_neg (by simpa using h), if_neg (by simpa using h)]

/-- What falls for one block falls for all. -/
theorem owe_put (it : Nat) (m : SM) (x : BK) (w : Nat) (h : pc w < owed it m x) : ∀ l : List BK, owe it (mset kA32u8 m x (w : Int)) l ≤ owe it m l ∧ (x ∈ l → owe it (mset kA32u8 m x (w : Int)) l < owe it m l)
  | [] => ⟨Nat.le_refl _, fun h => by cases h⟩
  | y :: r => by
    obtain ⟨h1, h2⟩ := owe_put it m x w h r
    have h3 := owed_put it m x w y
    simp only [owe]
    by_cases hxy : x = y
    · subst hxy
      rw [if_pos (by simp)] at h3
      exact ⟨by omega, fun _ => by omega⟩
    · rw [if_neg (by simpa using hxy)] at h3
      refine ⟨by omega, fun hm => ?_⟩
      have := h2 ((List.mem_cons.1 hm).resolve_left hxy)
      omega

theorem owe_nil (it : Nat) : ∀ l : List BK, owe it [] l = l.length * (it + 1)
  | [] => by simp [owe]
  | x :: r => by
    simp only [owe, owe_nil it r, List.length_cons, Nat.add_mul, Nat.one_mul]
    show it + 1 + _ = _
    omega

theorem p256 {it : Nat} (h : it ≤ 8) : 2 ^ it ≤ 256 := Nat.le_trans (Nat.pow_le_pow_right (by decide) h) (by decide)

-- ------------------------------------------------------------ the next job

theorem next_l0_law (n : Nat) (it : Nat) (hit : it ≤ 8) (m : SM) (hm : Okm it m) (l : List BK) (hl : l.length < 100000) (t4 : Int × (BK × (Int × Unit))) : ∀ (d f i : Nat), i + d = l.length → d < f →
    ((∀ x ∈ l.drop i, mget kA32u8 m x = some 0) ∧ ∀ (k0 : (Int × (BK × (Int × Unit))) → Option A) (k1 : Option A), next_l0 (tz16_k n) n l (l.length : Int) (it : Int) () m t4 k0 k1 f (i : Int) = k1) ∨
    (∃ x ∈ l.drop i, mget kA32u8 m x = none ∧ ∀ (k0 : (Int × (BK × (Int × Unit))) → Option A) (k1 : Option A), next_l0 (tz16_k n) n l (l.length : Int) (it : Int) () m t4 k0 k1 f (i : Int) = k0 (3, (x, (0, ())))) ∨
    (∃ x ∈ l.drop i, ∃ w : Nat, 0 < w ∧ w < 2 ^ it ∧ mget kA32u8 m x = some (w : Int) ∧ ∀ (k0 : (Int × (BK × (Int × Unit))) → Option A) (k1 : Option A), next_l0 (tz16_k n) n l (l.length : Int) (it : Int) () m t4 k0 k1 f (i : Int) = k0 (5, (x, (((tzn w : Nat) : Int), ())))) := by
  intro d
  induction d with
  | zero =>
    intro f i hi hf
    obtain ⟨f, rfl⟩ : ∃ g, f = g + 1 := ⟨f - 1, by omega⟩
    left
    refine ⟨fun x hx => ?_, fun k0 k1 => ?_⟩
    · rw [List.drop_eq_nil_of_le (by omega)] at hx; cases hx
    · rw [next_l0, next_b0, decide_eq_false (by omega), cond_false]
  | succ d ih =>
    intro f i hi hf
    obtain ⟨f, rfl⟩ : ∃ g, f = g + 1 := ⟨f - 1, by omega⟩
    have hlt : i < l.length := by omega
    have e1 : IntKind.wrap .i64 ((i : Int) + 1) = ((i + 1 : Nat) : Int) := by rw [wrap_id (by omega) (by omega)]; omega
    have e2 : l.drop i = l[i] :: l.drop (i + 1) := List.drop_eq_getElem_cons hlt
    have step : ∀ (k0 : (Int × (BK × (Int × Unit))) → Option A) (k1 : Option A), next_l0 (tz16_k n) n l (l.length : Int) (it : Int) () m t4 k0 k1 (f + 1) (i : Int) =
        bif (!(mget kA32u8 m l[i]).isSome) then k0 (3, (l[i], (0, ()))) else bif (((mget kA32u8 m l[i]).getD 0) != 0) then tz16_k n ((mget kA32u8 m l[i]).getD 0) (fun r2 => k0 (5, (l[i], (r2, ())))) else
          next_l0 (tz16_k n) n l (l.length : Int) (it : Int) () m t4 k0 k1 f ((i + 1 : Nat) : Int) := fun k0 k1 => by
      rw [next_l0, next_b0, decide_eq_true (by omega), cond_true, if_pos (by omega), Int.toNat_natCast, List.getElem?_eq_getElem hlt, Option.bind_some, e1]
    rw [e2]
    cases hg : mget kA32u8 m l[i] with
    | none =>
      right; left
      exact ⟨l[i], List.mem_cons_self, hg, fun k0 k1 => by rw [step, hg]; rfl⟩
    | some v =>
      obtain ⟨w, rfl, hw⟩ := hm _ _ hg
      by_cases h0 : w = 0
      · subst h0
        have go : ∀ (k0 : (Int × (BK × (Int × Unit))) → Option A) (k1 : Option A), next_l0 (tz16_k n) n l (l.length : Int) (it : Int) () m t4 k0 k1 (f + 1) (i : Int) = next_l0 (tz16_k n) n l (l.length : Int) (it : Int) () m t4 k0 k1 f ((i + 1 : Nat) : Int) := fun k0 k1 => by
          rw [step, hg]; rfl
        rcases ih f (i + 1) (by omega) (by omega) with ⟨h1, h2⟩ | ⟨x, hx, h1, h2⟩ | ⟨x, hx, w, h1, h2, h3, h4⟩
        · left
          refine ⟨fun x hx => ?_, fun k0 k1 => (go k0 k1).trans (h2 k0 k1)⟩
          rcases List.mem_cons.1 hx with rfl | hx
          · exact hg
          · exact h1 x hx
        · exact .inr (.inl ⟨x, List.mem_cons_of_mem _ hx, h1, fun k0 k1 => (go k0 k1).trans (h2 k0 k1)⟩)
        · exact .inr (.inr ⟨x, List.mem_cons_of_mem _ hx, w, h1, h2, h3, fun k0 k1 => (go k0 k1).trans (h4 k0 k1)⟩)
      · right; right
        refine ⟨l[i], List.mem_cons_self, w, by omega, hw, hg, fun k0 k1 => ?_⟩
        have hne : (((w : Nat) : Int) != 0) = true := by simp; omega
        rw [step, hg]
        show (bif (((w : Nat) : Int) != 0) then tz16_k n ((w : Nat) : Int) (fun r2 => k0 (5, (l[i], (r2, ())))) else _) = _
        rw [hne, cond_true, tz16_law n w (by omega) (Nat.lt_of_lt_of_le hw (p256 hit))]

theorem imin1 (k : Nat) : imin 1 (k : Int) = ((min 1 k : Nat) : Int) := by unfold imin; split <;> omega

/-- The line behind its first block. -/
def rest (l : List BK) : List BK := l.drop (min 1 l.length)
theorem rest_len (l : List BK) : (rest l).length = l.length - min 1 l.length := List.length_drop

theorem next_law (n : Nat) (it : Nat) (hit : it ≤ 8) (m : SM) (hm : Okm it m) (l : List BK) (hl : l.length < n) (hl2 : l.length < 100000) :
    ((it = 0 ∨ ∀ x ∈ rest l, mget kA32u8 m x = some 0) ∧ ∀ k : (Int × (BK × (Int × Unit))) → Bool → Int → Unit → SM → Option A, ∃ j, next_k n l (it : Int) () m k = k j false (it : Int) () m) ∨
    (0 < it ∧ ∃ x ∈ rest l, mget kA32u8 m x = none ∧ ∀ k : (Int × (BK × (Int × Unit))) → Bool → Int → Unit → SM → Option A, next_k n l (it : Int) () m k = k (3, (x, (0, ()))) true (it : Int) () m) ∨
    (0 < it ∧ ∃ x ∈ rest l, ∃ w : Nat, 0 < w ∧ w < 2 ^ it ∧ mget kA32u8 m x = some (w : Int) ∧ ∀ k : (Int × (BK × (Int × Unit))) → Bool → Int → Unit → SM → Option A, next_k n l (it : Int) () m k = k (5, (x, (((tzn w : Nat) : Int), ()))) true (it : Int) () m) := by
  by_cases h0 : it = 0
  · left
    refine ⟨.inl h0, fun k => ⟨(0, ((List.replicate 32 (0 : Int)), (0, ()))), ?_⟩⟩
    subst h0
    unfold next_k next_p
    rfl
  · have hne : (((it : Nat) : Int) == 0) = false := by rw [beq_eq_false_iff_ne]; omega
    have e0 : (l.drop (min 1 l.length)).take (l.length - min 1 l.length) = rest l := List.take_of_length_le (by rw [List.length_drop]; omega)
    have hr := rest_len l
    have un : ∀ k : (Int × (BK × (Int × Unit))) → Bool → Int → Unit → SM → Option A, next_k n l (it : Int) () m k = next_l0 (tz16_k n) n (rest l) ((rest l).length : Int) (it : Int) () m (0, ((List.replicate 32 (0 : Int)), (0, ()))) (fun y3 => k y3 true (it : Int) () m) (k (0, ((List.replicate 32 (0 : Int)), (0, ()))) false (it : Int) () m) n 0 := fun k => by
      unfold next_k next_p
      rw [hne, cond_false, imin1, if_pos (by omega), if_pos (by omega), Int.toNat_natCast, e0]
    rcases next_l0_law (A := A) n it hit m hm (rest l) (by omega) (0, ((List.replicate 32 (0 : Int)), (0, ()))) (rest l).length n 0 (by omega) (by omega) with ⟨h1, h2⟩ | ⟨x, hx, h1, h2⟩ | ⟨x, hx, w, h1, h2, h3, h4⟩
    · exact .inl ⟨.inr h1, fun k => ⟨_, (un k).trans (h2 _ _)⟩⟩
    · exact .inr (.inl ⟨by omega, x, hx, h1, fun k => (un k).trans (h2 _ _)⟩)
    · exact .inr (.inr ⟨by omega, x, hx, w, h1, h2, h3, fun k => (un k).trans (h4 _ _)⟩)

-- ------------------------------------------------------------ a filter, a proof

theorem filter_l0_law (n : Nat) (it : Nat) (hit : it ≤ 8) (m : SM) (x : BK) (l : List Int) (hl : l.length < 100000) (k0 : Int → Option A) : ∀ (d f i : Nat) (w : Nat), i + d = l.length → d < f → w < 2 ^ it →
    ∃ w' : Nat, w' < 2 ^ it ∧ filter_l0 n l (l.length : Int) (it : Int) () m x k0 f (w : Int) (i : Int) = k0 (w' : Int) := by
  intro d
  induction d with
  | zero =>
    intro f i w hi hf hw
    obtain ⟨f, rfl⟩ : ∃ g, f = g + 1 := ⟨f - 1, by omega⟩
    exact ⟨w, hw, by rw [filter_l0, filter_b0, decide_eq_false (by omega), cond_false]⟩
  | succ d ih =>
    intro f i w hi hf hw
    obtain ⟨f, rfl⟩ : ∃ g, f = g + 1 := ⟨f - 1, by omega⟩
    have hlt : i < l.length := by omega
    have e1 : IntKind.wrap .i64 ((i : Int) + 1) = ((i + 1 : Nat) : Int) := by rw [wrap_id (by omega) (by omega)]; omega
    rw [filter_l0, filter_b0, decide_eq_true (by omega), cond_true, if_pos (by omega), Int.toNat_natCast, List.getElem?_eq_getElem hlt, Option.bind_some, e1]
    by_cases h1 : l[i] ≥ 0
    · rw [decide_eq_true h1, cond_true]
      by_cases h2 : l[i] < (it : Int)
      · obtain ⟨t, ht⟩ : ∃ t : Nat, l[i] = (t : Int) := ⟨l[i].toNat, by omega⟩
        rw [ht] at h2 ⊢
        obtain ⟨o1, o2⟩ := or_bit it hit w hw t (by omega)
        rw [decide_eq_true h2, cond_true, if_neg (by omega), o1]
        exact ih f (i + 1) _ (by omega) (by omega) o2
      · rw [decide_eq_false h2, cond_false]
        exact ih f (i + 1) w (by omega) (by omega) hw
    · rw [decide_eq_false h1, cond_false]
      exact ih f (i + 1) w (by omega) (by omega) hw

theorem filter_law (n : Nat) (it : Nat) (hit : it ≤ 8) (m : SM) (x : BK) (l : List Int) (hl : l.length < n) (hl2 : l.length < 100000) (hx : mget kA32u8 m x = none) (k : Int → Int → Unit → SM → Option A) :
    ∃ w : Nat, w < 2 ^ it ∧ filter_k n x l (it : Int) () m k = k 0 (it : Int) () (mset kA32u8 m x (w : Int)) := by
  obtain ⟨w, h1, h2⟩ := filter_l0_law n it hit m x l hl2 (fun y2 => k 0 (it : Int) () (mset kA32u8 m x y2)) l.length n 0 0 (by omega) (by omega) (Nat.two_pow_pos it)
  refine ⟨w, h1, ?_⟩
  unfold filter_k filter_p
  rw [hx]
  exact h2

theorem proof_law (n : Nat) (it : Nat) (hit : it ≤ 8) (m : SM) (x : BK) (w : Nat) (h0 : 0 < w) (hw : w < 2 ^ it) (hx : mget kA32u8 m x = some (w : Int)) (k : Int → Int → Unit → SM → Option A) :
    proof_k n x ((tzn w : Nat) : Int) (it : Int) () m k = k 0 (it : Int) () (mset kA32u8 m x ((w - 2 ^ tzn w : Nat) : Int)) := by
  have h256 := Nat.lt_of_lt_of_le hw (p256 hit)
  obtain ⟨b1, b2, _, _⟩ := bit_facts w h256 h0
  have ht := tzn_lt it hit w hw h0
  unfold proof_k proof_p
  rw [decide_eq_false (by omega), cond_false, decide_eq_false (by omega), cond_false, if_neg (by omega), hx, Option.getD_some, b1, cond_false, if_neg (by omega), mset_mset, b2]

-- ------------------------------------------------------------ the end

theorem ends_l1_law (n : Nat) (it : Nat) (m : SM) (l : List BK) (hl : l.length < 100000) (hd : it = 0 ∨ ∀ x ∈ l, mget kA32u8 m x = some 0) (k0 k1 : Option A) : ∀ (d f i : Nat), i + d = l.length → d < f →
    ends_l1 (new__k n) (awake_k n) (row_k n) (next_k n) (done_k n) (filter_k n) (proof_k n) n (it : Int) l (l.length : Int) k0 k1 f (i : Int) (it : Int) () m = k1 := by
  intro d
  induction d with
  | zero =>
    intro f i hi hf
    obtain ⟨f, rfl⟩ : ∃ g, f = g + 1 := ⟨f - 1, by omega⟩
    rw [ends_l1, ends_b1, decide_eq_false (by omega), cond_false]
  | succ d ih =>
    intro f i hi hf
    obtain ⟨f, rfl⟩ : ∃ g, f = g + 1 := ⟨f - 1, by omega⟩
    have hlt : i < l.length := by omega
    have e1 : IntKind.wrap .i64 ((i : Int) + 1) = ((i + 1 : Nat) : Int) := by rw [wrap_id (by omega) (by omega)]; omega
    rw [ends_l1, ends_b1, decide_eq_true (by omega), cond_true, if_pos (by omega), Int.toNat_natCast, List.getElem?_eq_getElem hlt, Option.bind_some, e1]
    have next := ih f (i + 1) (by omega) (by omega)
    by_cases h0 : it = 0
    · rw [decide_eq_false (by omega), cond_false]; exact next
    · have hg := hd.resolve_left h0 l[i] (List.getElem_mem hlt)
      rw [decide_eq_true (by omega), cond_true]
      unfold done_k done_p
      rw [hg]
      exact next

theorem ends_l0_law (n : Nat) (it : Nat) (hit : it ≤ 8) (l : List BK) (hl : l.length ≤ 30) (hn : 400 ≤ n) (mt : List (List Int)) (k1 : Option A) (haw : ∀ k : Bool → Option A, awake_k n k = k true) (k0 : Bool → Option A) : ∀ (d f i : Nat) (m : SM), i + d = l.length * (it + 1) → d < f → Okm it m → owe it m (rest l) + i ≤ l.length * (it + 1) →
    ends_l0 (new__k n) (awake_k n) (row_k n) (next_k n) (done_k n) (filter_k n) (proof_k n) n (it : Int) mt l k0 k1 f (i : Int) (it : Int) () m = k0 true := by
  have hrest := rest_len l
  have hbound : l.length * (it + 1) ≤ 270 := Nat.le_trans (Nat.mul_le_mul hl (show it + 1 ≤ 9 by omega)) (by decide)
  have e3 : (l.drop (min 1 l.length)).take (l.length - min 1 l.length) = rest l := List.take_of_length_le (by rw [List.length_drop]; omega)
  have e4 : IntKind.wrap .i64 ((l.length : Int) * IntKind.wrap .i64 ((it : Int) + 1)) = ((l.length * (it + 1) : Nat) : Int) := by
    rw [wrap_id (x := (it : Int) + 1) (by omega) (by omega), show (l.length : Int) * ((it : Int) + 1) = ((l.length * (it + 1) : Nat) : Int) from by simp, wrap_id (by omega) (by omega)]
  intro d
  induction d using Nat.strongRecOn with
  | _ d ih =>
    intro f i m hi hf hm how
    obtain ⟨f, rfl⟩ : ∃ g, f = g + 1 := ⟨f - 1, by omega⟩
    have e1 : IntKind.wrap .i64 ((i : Int) + 1) = ((i + 1 : Nat) : Int) := by rw [wrap_id (by omega) (by omega)]; omega
    rw [ends_l0, ends_b0, e4, decide_eq_true (by omega), cond_true]
    rcases next_law (A := A) n it hit m hm l (by omega) (by omega) with ⟨h1, h2⟩ | ⟨hp, x, hx, h1, h2⟩ | ⟨hp, x, hx, w, h1, hw, h3, h4⟩
    · obtain ⟨j, hj⟩ := h2 _
      rw [hj, Bool.not_false, cond_true, imin1, if_pos (by omega), if_pos (by omega), Int.toNat_natCast, e3]
      refine (ends_l1_law n it m (rest l) (by omega) h1 _ _ (rest l).length n 0 (by omega) (by omega)).trans ?_
      rw [haw]
    · have hpos : 0 < d := by
        rcases Nat.eq_zero_or_pos d with hd | hd
        · have : owe it m (rest l) = 0 := by omega
          have hlow : ∀ (r : List BK), x ∈ r → owed it m x ≤ owe it m r := fun r => by
            induction r with
            | nil => intro h; cases h
            | cons y r ih =>
              intro h
              simp only [owe]
              rcases List.mem_cons.1 h with rfl | h
              · omega
              · have := ih h; omega
          have := hlow _ hx
          have ho : owed it m x = it + 1 := by unfold owed; rw [h1]
          omega
        · exact hd
      have ho : owed it m x = it + 1 := by unfold owed; rw [h1]
      rw [h2, Bool.not_true, cond_false, show ((3 : Int) == 3) = true from rfl, cond_true, e1]
      have fin : ∀ items : List Int, items.length ≤ 20 → ∀ g : Int → Int → Unit → SM → Option A, (∀ w : Nat, w < 2 ^ it → g 0 (it : Int) () (mset kA32u8 m x (w : Int)) = k0 true) → filter_k n x items (it : Int) () m g = k0 true := fun items hlen g hg => by
        obtain ⟨w, hw, hw2⟩ := filter_law n it hit m x items (by omega) (by omega) h1 g
        exact hw2.trans (hg w hw)
      have go : ∀ w : Nat, w < 2 ^ it → ends_l0 (new__k n) (awake_k n) (row_k n) (next_k n) (done_k n) (filter_k n) (proof_k n) n (it : Int) mt l k0 k1 f ((i + 1 : Nat) : Int) (it : Int) () (mset kA32u8 m x (w : Int)) = k0 true := fun w hw => by
        have hlt := (owe_put it m x w (by have := pc_le it hit w hw; omega) (rest l)).2 hx
        exact ih (d - 1) (by omega) f (i + 1) _ (by omega) (by omega) (hm.put x w hw) (by omega)
      by_cases hm0 : (mt.length : Int) > 0
      · have hmod : Int.tmod (i : Int) (mt.length : Int) = ((i % mt.length : Nat) : Int) := rfl
        have hlt : i % mt.length < mt.length := Nat.mod_lt _ (by omega)
        rw [decide_eq_true hm0, cond_true, if_neg (by omega), hmod, if_pos (by omega), Int.toNat_natCast, List.getElem?_eq_getElem hlt, Option.bind_some]
        have e5 : imin ((mt[i % mt.length].length : Nat) : Int) 20 = ((min mt[i % mt.length].length 20 : Nat) : Int) := by unfold imin; split <;> omega
        rw [e5, if_pos (by omega), if_pos (by omega), Int.toNat_natCast, List.drop_zero, Nat.sub_zero]
        refine fin _ (by rw [List.length_take]; omega) _ fun w hw => ?_
        rw [show ((0 : Int) != 0) = false from rfl, cond_false]
        exact go w hw
      · rw [decide_eq_false hm0, cond_false, if_pos (by decide), if_pos (by decide)]
        refine fin _ (by decide) _ fun w hw => ?_
        rw [show ((0 : Int) != 0) = false from rfl, cond_false]
        exact go w hw
    · have h256 := Nat.lt_of_lt_of_le hw (p256 hit)
      obtain ⟨b1, b2, b3, b4⟩ := bit_facts w h256 h1
      have ho : owed it m x = pc w := by unfold owed; rw [h3]; rfl
      have hlt := (owe_put it m x (w - 2 ^ tzn w) (by omega) (rest l)).2 hx
      rw [h4, Bool.not_true, cond_false, show ((5 : Int) == 3) = false from rfl, cond_false, show ((5 : Int) == 5) = true from rfl, cond_true, proof_law n it hit m x w h1 hw h3, show ((0 : Int) != 0) = false from rfl, cond_false, e1]
      exact ih (d - 1) (by omega) f (i + 1) _ (by omega) (by omega) (hm.put x _ (Nat.lt_of_le_of_lt (Nat.sub_le _ _) hw)) (by omega)

theorem new_good (n : Nat) (a0 : Int) (h : 0 ≤ a0 ∧ a0 ≤ 8) (k0 : Int → Option A) (k1 : Int → Int → Unit → SM → Option A) : new__k n a0 k0 k1 = k1 0 a0 () [] := by
  unfold new__k new__p
  rw [decide_eq_false (by omega), cond_false, decide_eq_false (by omega), cond_false]
theorem new_bad (n : Nat) (a0 : Int) (h : ¬ (0 ≤ a0 ∧ a0 ≤ 8)) (k0 : Int → Option A) (k1 : Int → Int → Unit → SM → Option A) : new__k n a0 k0 k1 = k0 1 := by
  unfold new__k new__p
  by_cases h1 : a0 < 0
  · rw [decide_eq_true h1, cond_true]
  · rw [decide_eq_false h1, cond_false, decide_eq_true (by omega), cond_true]

theorem wf_i64 {x : Int} (h : WF (.int .i64) x) : -9223372036854775808 ≤ x ∧ x ≤ 9223372036854775807 := by
  have h1 : IntKind.i64.min ≤ x ∧ x ≤ IntKind.i64.max := h
  rwa [show IntKind.i64.min = -9223372036854775808 by decide, show IntKind.i64.max = 9223372036854775807 by decide] at h1

theorem ends_law (a0 : Int) (a1 : List Int) (a2 : List (List Int)) (f0 : WF (.int .i64) a0) (f1 : WF (.sl (.int .u8)) a1) (f2 : WF (.sl (.sl (.int .i64))) a2) : ∃ n, ends_k n a0 a1 a2 (fun r => some r) = some true := by
  refine ⟨400 + 30, ?_⟩
  have haw : ∀ k : Bool → Option Bool, awake_k (400 + 30) k = k true := awake_any 400
  have hn : 400 ≤ 400 + 30 := by decide
  generalize 400 + 30 = n at haw hn
  unfold ends_k ends_p
  by_cases h1 : 0 ≤ a0 ∧ a0 ≤ 8
  · rw [new_good n a0 h1]
    by_cases h2 : (a1.length : Int) > 30
    · rw [decide_eq_true h2, cond_true, haw]
    · rw [decide_eq_false h2, cond_false, show ((0 : Int) != 0) = false from rfl, cond_false, row_law n a1 (by omega) (by omega)]
      obtain ⟨it, rfl⟩ : ∃ it : Nat, a0 = (it : Int) := ⟨a0.toNat, by omega⟩
      have hlen : (a1.map blk).length = a1.length := List.length_map ..
      have ho := owe_nil it (rest (a1.map blk))
      have hrl := rest_len (a1.map blk)
      have hmul : (rest (a1.map blk)).length * (it + 1) ≤ (a1.map blk).length * (it + 1) := Nat.mul_le_mul_right _ (by omega)
      have h270 : (a1.map blk).length * (it + 1) ≤ 270 := Nat.le_trans (Nat.mul_le_mul (show (a1.map blk).length ≤ 30 by omega) (show it + 1 ≤ 9 by omega)) (by decide)
      exact ends_l0_law n it (by omega) (a1.map blk) (by omega) hn a2 (some false) haw (fun y30 => some y30) _ n 0 [] (Nat.zero_add _) (by omega) (fun x v hv => by cases hv) (by omega)
  · rw [new_bad n a0 h1]
    by_cases h2 : (a1.length : Int) > 30
    · rw [decide_eq_true h2, cond_true, haw]
    · rw [decide_eq_false h2, cond_false, show ((1 : Int) != 0) = true from rfl, cond_true, haw]

end Go.Ev
end

