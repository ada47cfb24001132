import Derived.Test.YtbioclollbemeaaB8
import Derived.Test.YtbioclollbemeaaB5
import Derived.Test.YtbioclollbemeaaB6
import Derived.Test.YtbioclollbemeaaB9
import Derived.Test.YtbioclollbemeaaB12
set_option linter.all false
section
/-
  FUNCTION 4: printed by a program of our own (wip/gen/st.py). 'masthead/mastheadlaw24.PeerNever', in continuation form; the evaluator gives it.
-/
set_option linter.all false
set_option maxRecDepth 100000
namespace Go.Ev
open Go.Proofs
variable {A : Type}

-- ============================================================ never (function 4)
def never_b0 (g_awake : (Bool → Option A) → Option A) (g_rright : Int → Int → (Bool → Option A) → Option A) (g_new_ : Int → Int → (Int → Option A) → (Int → Int → Int → (Int × ((List Int) × (Int × Unit))) → Int → Bool → (Int × (Int × (Int × (Bool × Unit)))) → (List ((Int × ((List Int) × (Int × Unit))) × Int)) → Option A) → Option A) (g_later : Int → Int → (Int → Option A) → Option A) (g_key : (Int × (Int × (Int × (Int × (Int × Unit))))) → ((Int × ((List Int) × (Int × Unit))) → Option A) → Option A) (g_ask : (Int × ((List Int) × (Int × Unit))) → Int → Int → Int → (Int × ((List Int) × (Int × Unit))) → Int → Bool → (Int × (Int × (Int × (Bool × Unit)))) → (List ((Int × ((List Int) × (Int × Unit))) × Int)) → (Int → Int → Int → (Int × ((List Int) × (Int × Unit))) → Int → Bool → (Int × (Int × (Int × (Bool × Unit)))) → (List ((Int × ((List Int) × (Int × Unit))) × Int)) → Option A) → Option A) (g_tick : Int → Int → Int → (Int × ((List Int) × (Int × Unit))) → Int → Bool → (Int × (Int × (Int × (Bool × Unit)))) → (List ((Int × ((List Int) × (Int × Unit))) × Int)) → ((Int × ((List Int) × (Int × Unit))) → Bool → Int → Int → (Int × ((List Int) × (Int × Unit))) → Int → Bool → (Int × (Int × (Int × (Bool × Unit)))) → (List ((Int × ((List Int) × (Int × Unit))) × Int)) → Option A) → Option A) (g_match_ : (Int × ((List Int) × (Int × Unit))) → Int → Int → (Int × ((List Int) × (Int × Unit))) → Int → Bool → (Int × (Int × (Int × (Bool × Unit)))) → (List ((Int × ((List Int) × (Int × Unit))) × Int)) → (Int → Int → Int → (Int × ((List Int) × (Int × Unit))) → Int → Bool → (Int × (Int × (Int × (Bool × Unit)))) → (List ((Int × ((List Int) × (Int × Unit))) × Int)) → Option A) → Option A) (g_score : Int → Int → (Int × ((List Int) × (Int × Unit))) → Int → Bool → (Int × (Int × (Int × (Bool × Unit)))) → (List ((Int × ((List Int) × (Int × Unit))) × Int)) → (Int → Int → Int → (Int × ((List Int) × (Int × Unit))) → Int → Bool → (Int × (Int × (Int × (Bool × Unit)))) → (List ((Int × ((List Int) × (Int × Unit))) × Int)) → Option A) → Option A) (g_banned : Int → Int → (Int × ((List Int) × (Int × Unit))) → Int → Bool → (Int × (Int × (Int × (Bool × Unit)))) → (List ((Int × ((List Int) × (Int × Unit))) × Int)) → (Bool → Int → Int → (Int × ((List Int) × (Int × Unit))) → Int → Bool → (Int × (Int × (Int × (Bool × Unit)))) → (List ((Int × ((List Int) × (Int × Unit))) × Int)) → Option A) → Option A) (n : Nat) (t36 : (List (Int × (Int × (Int × (Int × (Int × Unit))))))) (t37 : Int) (k0 : Int → Int → (Int × ((List Int) × (Int × Unit))) → Int → Bool → (Int × (Int × (Int × (Bool × Unit)))) → (List ((Int × ((List Int) × (Int × Unit))) × Int)) → Option A) (k1 : Int → Int → (Int × ((List Int) × (Int × Unit))) → Int → Bool → (Int × (Int × (Int × (Bool × Unit)))) → (List ((Int × ((List Int) × (Int × Unit))) × Int)) → Option A) (r : Int → Int → Int → Int → (Int × ((List Int) × (Int × Unit))) → Int → Bool → (Int × (Int × (Int × (Bool × Unit)))) → (List ((Int × ((List Int) × (Int × Unit))) × Int)) → (List (Int × ((List Int) × (Int × Unit)))) → Option A) (now : Int) (t38 : Int) (pa : Int) (pba : Int) (pbba : (Int × ((List Int) × (Int × Unit)))) (pbbba : Int) (pbbbba : Bool) (pbbbbbb : (Int × (Int × (Int × (Bool × Unit))))) (pbbbbba : (List ((Int × ((List Int) × (Int × Unit))) × Int))) (due : (List (Int × ((List Int) × (Int × Unit))))) : Option A :=
  bif (decide (t38 < t37)) then
    if 0 ≤ t38 then
      (t36[(Int.toNat t38)]?).bind fun y13 =>
      g_later now y13.2.2.2.2.1 fun r14 =>
      bif (y13.1 == 1) then
        g_key y13 fun r15 =>
        g_ask r15 r14 pa pba pbba pbbba pbbbba pbbbbbb pbbbbba fun r16 r17 r18 r19 r20 r21 r22 r23 =>
        bif (r16 == 0) then
          g_key y13 fun r24 =>
          if (due.length + 1) * 48 ≤ 140737488355328 then
            r r14 (IntKind.wrap .i64 (t38 + 1)) r17 r18 r19 r20 r21 r22 r23 (due ++ [r24])
          else none
        else
          r r14 (IntKind.wrap .i64 (t38 + 1)) r17 r18 r19 r20 r21 r22 r23 due
      else
        bif (y13.1 == 2) then
          g_tick r14 pa pba pbba pbbba pbbbba pbbbbbb pbbbbba fun r25 r26 r27 r28 r29 r30 r31 r32 r33 =>
          r r14 (IntKind.wrap .i64 (t38 + 1)) r27 r28 r29 r30 r31 r32 r33 due
        else
          bif (y13.1 == 3) then
            bif (decide (y13.2.2.2.1 < 0)) then
              r r14 (IntKind.wrap .i64 (t38 + 1)) pa pba pbba pbbba pbbbba pbbbbbb pbbbbba due
            else
              bif (decide (y13.2.2.2.1 ≥ (due.length : Int))) then
                r r14 (IntKind.wrap .i64 (t38 + 1)) pa pba pbba pbbba pbbbba pbbbbbb pbbbbba due
              else
                if 0 ≤ y13.2.2.2.1 then
                  if y13.2.2.2.1 < (due.length : Int) then
                    (due[(Int.toNat y13.2.2.2.1)]?).bind fun y34 =>
                    if 0 ≤ y13.2.2.2.1 then
                      if y13.2.2.2.1 ≤ (due.length : Int) then
                        if (0 + ((due.drop 0).take ((Int.toNat y13.2.2.2.1) - 0)).length) * 48 ≤ 140737488355328 then
                          if 0 ≤ (IntKind.wrap .i64 (y13.2.2.2.1 + 1)) then
                            if (IntKind.wrap .i64 (y13.2.2.2.1 + 1)) ≤ (due.length : Int) then
                              if (([] ++ ((due.drop 0).take ((Int.toNat y13.2.2.2.1) - 0))).length + ((due.drop (Int.toNat (IntKind.wrap .i64 (y13.2.2.2.1 + 1)))).take (due.length - (Int.toNat (IntKind.wrap .i64 (y13.2.2.2.1 + 1))))).length) * 48 ≤ 140737488355328 then
                                g_match_ y34 pa pba pbba pbbba pbbbba pbbbbbb pbbbbba fun r35 r36 r37 r38 r39 r40 r41 r42 =>
                                bif (r35 == 0) then
                                  k0 r36 r37 r38 r39 r40 r41 r42
                                else
                                  r r14 (IntKind.wrap .i64 (t38 + 1)) r36 r37 r38 r39 r40 r41 r42 (([] ++ ((due.drop 0).take ((Int.toNat y13.2.2.2.1) - 0))) ++ ((due.drop (Int.toNat (IntKind.wrap .i64 (y13.2.2.2.1 + 1)))).take (due.length - (Int.toNat (IntKind.wrap .i64 (y13.2.2.2.1 + 1))))))
                              else none
                            else none
                          else none
                        else none
                      else none
                    else none
                  else none
                else none
          else
            r r14 (IntKind.wrap .i64 (t38 + 1)) pa pba pbba pbbba pbbbba pbbbbbb pbbbbba due
    else none
  else
    k1 pa pba pbba pbbba pbbbba pbbbbbb pbbbbba

def never_l0 (g_awake : (Bool → Option A) → Option A) (g_rright : Int → Int → (Bool → Option A) → Option A) (g_new_ : Int → Int → (Int → Option A) → (Int → Int → Int → (Int × ((List Int) × (Int × Unit))) → Int → Bool → (Int × (Int × (Int × (Bool × Unit)))) → (List ((Int × ((List Int) × (Int × Unit))) × Int)) → Option A) → Option A) (g_later : Int → Int → (Int → Option A) → Option A) (g_key : (Int × (Int × (Int × (Int × (Int × Unit))))) → ((Int × ((List Int) × (Int × Unit))) → Option A) → Option A) (g_ask : (Int × ((List Int) × (Int × Unit))) → Int → Int → Int → (Int × ((List Int) × (Int × Unit))) → Int → Bool → (Int × (Int × (Int × (Bool × Unit)))) → (List ((Int × ((List Int) × (Int × Unit))) × Int)) → (Int → Int → Int → (Int × ((List Int) × (Int × Unit))) → Int → Bool → (Int × (Int × (Int × (Bool × Unit)))) → (List ((Int × ((List Int) × (Int × Unit))) × Int)) → Option A) → Option A) (g_tick : Int → Int → Int → (Int × ((List Int) × (Int × Unit))) → Int → Bool → (Int × (Int × (Int × (Bool × Unit)))) → (List ((Int × ((List Int) × (Int × Unit))) × Int)) → ((Int × ((List Int) × (Int × Unit))) → Bool → Int → Int → (Int × ((List Int) × (Int × Unit))) → Int → Bool → (Int × (Int × (Int × (Bool × Unit)))) → (List ((Int × ((List Int) × (Int × Unit))) × Int)) → Option A) → Option A) (g_match_ : (Int × ((List Int) × (Int × Unit))) → Int → Int → (Int × ((List Int) × (Int × Unit))) → Int → Bool → (Int × (Int × (Int × (Bool × Unit)))) → (List ((Int × ((List Int) × (Int × Unit))) × Int)) → (Int → Int → Int → (Int × ((List Int) × (Int × Unit))) → Int → Bool → (Int × (Int × (Int × (Bool × Unit)))) → (List ((Int × ((List Int) × (Int × Unit))) × Int)) → Option A) → Option A) (g_score : Int → Int → (Int × ((List Int) × (Int × Unit))) → Int → Bool → (Int × (Int × (Int × (Bool × Unit)))) → (List ((Int × ((List Int) × (Int × Unit))) × Int)) → (Int → Int → Int → (Int × ((List Int) × (Int × Unit))) → Int → Bool → (Int × (Int × (Int × (Bool × Unit)))) → (List ((Int × ((List Int) × (Int × Unit))) × Int)) → Option A) → Option A) (g_banned : Int → Int → (Int × ((List Int) × (Int × Unit))) → Int → Bool → (Int × (Int × (Int × (Bool × Unit)))) → (List ((Int × ((List Int) × (Int × Unit))) × Int)) → (Bool → Int → Int → (Int × ((List Int) × (Int × Unit))) → Int → Bool → (Int × (Int × (Int × (Bool × Unit)))) → (List ((Int × ((List Int) × (Int × Unit))) × Int)) → Option A) → Option A) (n : Nat) (t36 : (List (Int × (Int × (Int × (Int × (Int × Unit))))))) (t37 : Int) (k0 : Int → Int → (Int × ((List Int) × (Int × Unit))) → Int → Bool → (Int × (Int × (Int × (Bool × Unit)))) → (List ((Int × ((List Int) × (Int × Unit))) × Int)) → Option A) (k1 : Int → Int → (Int × ((List Int) × (Int × Unit))) → Int → Bool → (Int × (Int × (Int × (Bool × Unit)))) → (List ((Int × ((List Int) × (Int × Unit))) × Int)) → Option A) : Nat → Int → Int → Int → Int → (Int × ((List Int) × (Int × Unit))) → Int → Bool → (Int × (Int × (Int × (Bool × Unit)))) → (List ((Int × ((List Int) × (Int × Unit))) × Int)) → (List (Int × ((List Int) × (Int × Unit)))) → Option A
  | 0 => fun _ _ _ _ _ _ _ _ _ _ => none
  | f + 1 => never_b0 g_awake g_rright g_new_ g_later g_key g_ask g_tick g_match_ g_score g_banned n t36 t37 k0 k1 (never_l0 g_awake g_rright g_new_ g_later g_key g_ask g_tick g_match_ g_score g_banned n t36 t37 k0 k1 f)

def never_p (g_awake : (Bool → Option A) → Option A) (g_rright : Int → Int → (Bool → Option A) → Option A) (g_new_ : Int → Int → (Int → Option A) → (Int → Int → Int → (Int × ((List Int) × (Int × Unit))) → Int → Bool → (Int × (Int × (Int × (Bool × Unit)))) → (List ((Int × ((List Int) × (Int × Unit))) × Int)) → Option A) → Option A) (g_later : Int → Int → (Int → Option A) → Option A) (g_key : (Int × (Int × (Int × (Int × (Int × Unit))))) → ((Int × ((List Int) × (Int × Unit))) → Option A) → Option A) (g_ask : (Int × ((List Int) × (Int × Unit))) → Int → Int → Int → (Int × ((List Int) × (Int × Unit))) → Int → Bool → (Int × (Int × (Int × (Bool × Unit)))) → (List ((Int × ((List Int) × (Int × Unit))) × Int)) → (Int → Int → Int → (Int × ((List Int) × (Int × Unit))) → Int → Bool → (Int × (Int × (Int × (Bool × Unit)))) → (List ((Int × ((List Int) × (Int × Unit))) × Int)) → Option A) → Option A) (g_tick : Int → Int → Int → (Int × ((List Int) × (Int × Unit))) → Int → Bool → (Int × (Int × (Int × (Bool × Unit)))) → (List ((Int × ((List Int) × (Int × Unit))) × Int)) → ((Int × ((List Int) × (Int × Unit))) → Bool → Int → Int → (Int × ((List Int) × (Int × Unit))) → Int → Bool → (Int × (Int × (Int × (Bool × Unit)))) → (List ((Int × ((List Int) × (Int × Unit))) × Int)) → Option A) → Option A) (g_match_ : (Int × ((List Int) × (Int × Unit))) → Int → Int → (Int × ((List Int) × (Int × Unit))) → Int → Bool → (Int × (Int × (Int × (Bool × Unit)))) → (List ((Int × ((List Int) × (Int × Unit))) × Int)) → (Int → Int → Int → (Int × ((List Int) × (Int × Unit))) → Int → Bool → (Int × (Int × (Int × (Bool × Unit)))) → (List ((Int × ((List Int) × (Int × Unit))) × Int)) → Option A) → Option A) (g_score : Int → Int → (Int × ((List Int) × (Int × Unit))) → Int → Bool → (Int × (Int × (Int × (Bool × Unit)))) → (List ((Int × ((List Int) × (Int × Unit))) × Int)) → (Int → Int → Int → (Int × ((List Int) × (Int × Unit))) → Int → Bool → (Int × (Int × (Int × (Bool × Unit)))) → (List ((Int × ((List Int) × (Int × Unit))) × Int)) → Option A) → Option A) (g_banned : Int → Int → (Int × ((List Int) × (Int × Unit))) → Int → Bool → (Int × (Int × (Int × (Bool × Unit)))) → (List ((Int × ((List Int) × (Int × Unit))) × Int)) → (Bool → Int → Int → (Int × ((List Int) × (Int × Unit))) → Int → Bool → (Int × (Int × (Int × (Bool × Unit)))) → (List ((Int × ((List Int) × (Int × Unit))) × Int)) → Option A) → Option A) (n : Nat) (a0 : Int) (a1 : Int) (a2 : (List (Int × (Int × (Int × (Int × (Int × Unit))))))) (k : Bool → Option A) : Option A :=
  bif (decide ((a2.length : Int) > 80)) then
    g_awake fun r1 =>
    k r1
  else
    g_rright a0 a1 fun r2 =>
    bif (!r2) then
      g_awake fun r3 =>
      k r3
    else
      g_new_ a0 a1 (fun r4 =>
        bif (r4 != 0) then
          k false
        else
          k false) (fun r5 r6 r7 r8 r9 r10 r11 r12 =>
        bif (r5 != 0) then
          k false
        else
          never_l0 g_awake g_rright g_new_ g_later g_key g_ask g_tick g_match_ g_score g_banned n a2 (a2.length : Int) (fun y43 y44 y45 y46 y47 y48 y49 =>
            k false) (fun y50 y51 y52 y53 y54 y55 y56 =>
            g_score y50 y51 y52 y53 y54 y55 y56 fun r57 r58 r59 r60 r61 r62 r63 r64 =>
            bif (r57 == 0) then
              g_banned r58 r59 r60 r61 r62 r63 r64 fun r65 r66 r67 r68 r69 r70 r71 r72 =>
              bif (!r65) then
                g_awake fun r73 =>
                k r73
              else
                k false
            else
              k false) n 0 0 r6 r7 r8 r9 r10 r11 r12 [])

def never_k (n : Nat) (a0 : Int) (a1 : Int) (a2 : (List (Int × (Int × (Int × (Int × (Int × Unit))))))) (k : Bool → Option A) : Option A := never_p (awake_k n) (rright_k n) (new__k n) (later_k n) (key_k n) (ask_k n) (tick_k n) (match__k n) (score_k n) (banned_k n) n a0 a1 a2 k

noncomputable def never_c0 : Code := codeAt [1, 1, 1, 1, 1, 1, 0, 1, 0, 0] (bodyOf Try.f4)
def never_d0 : List Nat := [0, 1, 2, 6, 8, 12, 13, 14, 15, 16, 17, 18, 19, 20, 21, 22, 24, 25, 26, 27, 28, 29, 30, 31, 32, 33, 34, 35, 39, 40, 41, 42, 43, 44, 45, 46, 47, 48, 49, 50, 51, 52, 53, 54, 55, 56, 57, 58, 59, 60, 61, 62, 63, 64, 65, 66, 67, 68, 69, 70, 71, 72, 73, 74, 75, 76, 77, 78, 79, 80, 81, 82, 83, 84, 85, 86, 87, 88, 89, 90, 91, 92, 93, 94, 95, 96, 97, 98, 99]
def never_y0 : List Nat := [0, 1, 2, 3, 4, 5, 8, 9, 10, 11, 12, 13, 14, 15, 16, 17, 18, 19, 20, 21, 22, 23, 24, 25, 26, 27, 28, 29, 30, 31, 32, 33, 34, 35, 36, 37, 38, 39, 40, 41, 42, 43, 44, 45, 46, 47, 48, 49, 50, 51, 52, 53, 54, 55, 56, 57, 58, 59, 60, 61, 62, 63, 64, 65, 66, 67, 68, 69, 70, 71, 72, 73, 74, 75, 76, 77, 78, 79, 80, 81, 82, 83, 84, 85, 86, 87, 88, 89, 90, 91, 92, 93, 94, 95, 96, 97, 98, 99, 100, 101, 102, 103, 104, 105, 106, 107, 108, 109, 110]
def never_sh0 : Shape := ⟨[.any, .any, .any, .any, .any, .any, .any, (.ptr 0), .any, (.row 2), (.p (.int .i64)), .any, .any, .any, .any, .any, .any, .any, .any, .any, .any, .any, .any, .any, .any, .any, .any, .any, .any, .any, .any, .any, .any, .any, .any, .any, (.p (.sl kT32)), (.p (.int .i64)), (.p (.int .i64)), .any, .any, .any, .any, .any, .any, .any, .any, .any, .any, .any, .any, .any, .any, .any, .any, .any, .any, .any, .any, .any, .any, .any, .any, .any, .any, .any, .any, .any, .any, .any, .any, .any, .any, .any, .any, .any, .any, .any, .any, .any, .any, .any, .any, .any, .any, .any, .any, .any, .any, .any, .any, .any, .any, .any, .any, .any, .any, .any, .any, .any, .any, .any, .any, .any, .any, .any, .any, .any, .any, .any, .any], [(.var 63 kT62 (.pr (.p (.int .i64)) (.pr (.p (.int .i64)) (.pr (.p kT38) (.pr (.p (.int .i64)) (.pr (.p .bool) (.pr (.mp 1) (.p (.pair (.int .i64) (.pair (.int .i64) (.pair (.int .i64) (.pair .bool .unit)))))))))))), (.map kT38 (.int .i64)), (.row 39 kT38)], 0⟩
def never_x0_0 (t36 : (List (Int × (Int × (Int × (Int × (Int × Unit))))))) (t37 : Int) (z1 : Int) (z2 : Int) (z3 : (Int × ((List Int) × (Int × Unit)))) (z4 : Int) (z5 : Bool) (z6 : (Int × (Int × (Int × (Bool × Unit))))) (z7 : (List ((Int × ((List Int) × (Int × Unit))) × Int))) : St := ⟨[.any, .any, .any, .any, .any, .any, .p .bool false, .ptr 0 [], .any, .any, .any, .any, .any, .any, .any, .any, .any, .any, .any, .any, .any, .any, .any, .any, .any, .any, .any, .any, .any, .any, .any, .any, .any, .any, .any, .any, .any, .any, .any, .any, .any, .any, .any, .any, .any, .any, .any, .any, .any, .any, .any, .any, .any, .any, .any, .any, .any, .any, .any, .any, .any, .any, .any, .any, .any, .any, .any, .any, .any, .any, .any, .any, .any, .any, .any, .any, .any, .any, .any, .any, .any, .any, .any, .any, .any, .any, .any, .any, .any, .any, .any, .any, .any, .any, .any, .any, .any, .any, .any, .any, .any, .any, .any, .any, .any, .any, .any, .any, .any, .any, .any], [.var 63 kT62 (.pr (.p (.int .i64) z1) (.pr (.p (.int .i64) z2) (.pr (.p kT38 z3) (.pr (.p (.int .i64) z4) (.pr (.p .bool z5) (.pr (.mp 1) (.p (.pair (.int .i64) (.pair (.int .i64) (.pair (.int .i64) (.pair .bool .unit)))) z6))))))), .map kT38 (.int .i64) z7], 0⟩
def never_x0_1 (t36 : (List (Int × (Int × (Int × (Int × (Int × Unit))))))) (t37 : Int) (z0 : Int) (z1 : Int) (z2 : (Int × ((List Int) × (Int × Unit)))) (z3 : Int) (z4 : Bool) (z5 : (Int × (Int × (Int × (Bool × Unit))))) (z6 : (List ((Int × ((List Int) × (Int × Unit))) × Int))) : St := ⟨[.any, .any, .any, .any, .any, .any, .any, .ptr 0 [], .any, .any, .any, .any, .any, .any, .any, .any, .any, .any, .any, .any, .any, .any, .any, .any, .any, .any, .any, .any, .any, .any, .any, .any, .any, .any, .any, .any, .any, .any, .any, .any, .any, .any, .any, .any, .any, .any, .any, .any, .any, .any, .any, .any, .any, .any, .any, .any, .any, .any, .any, .any, .any, .any, .any, .any, .any, .any, .any, .any, .any, .any, .any, .any, .any, .any, .any, .any, .any, .any, .any, .any, .any, .any, .any, .any, .any, .any, .any, .any, .any, .any, .any, .any, .any, .any, .any, .any, .any, .any, .any, .any, .any, .any, .any, .any, .any, .any, .any, .any, .any, .any, .any], [.var 63 kT62 (.pr (.p (.int .i64) z0) (.pr (.p (.int .i64) z1) (.pr (.p kT38 z2) (.pr (.p (.int .i64) z3) (.pr (.p .bool z4) (.pr (.mp 1) (.p (.pair (.int .i64) (.pair (.int .i64) (.pair (.int .i64) (.pair .bool .unit)))) z5))))))), .map kT38 (.int .i64) z6], 0⟩
def never_g0 (g_awake : (Bool → Option A) → Option A) (g_rright : Int → Int → (Bool → Option A) → Option A) (g_new_ : Int → Int → (Int → Option A) → (Int → Int → Int → (Int × ((List Int) × (Int × Unit))) → Int → Bool → (Int × (Int × (Int × (Bool × Unit)))) → (List ((Int × ((List Int) × (Int × Unit))) × Int)) → Option A) → Option A) (g_later : Int → Int → (Int → Option A) → Option A) (g_key : (Int × (Int × (Int × (Int × (Int × Unit))))) → ((Int × ((List Int) × (Int × Unit))) → Option A) → Option A) (g_ask : (Int × ((List Int) × (Int × Unit))) → Int → Int → Int → (Int × ((List Int) × (Int × Unit))) → Int → Bool → (Int × (Int × (Int × (Bool × Unit)))) → (List ((Int × ((List Int) × (Int × Unit))) × Int)) → (Int → Int → Int → (Int × ((List Int) × (Int × Unit))) → Int → Bool → (Int × (Int × (Int × (Bool × Unit)))) → (List ((Int × ((List Int) × (Int × Unit))) × Int)) → Option A) → Option A) (g_tick : Int → Int → Int → (Int × ((List Int) × (Int × Unit))) → Int → Bool → (Int × (Int × (Int × (Bool × Unit)))) → (List ((Int × ((List Int) × (Int × Unit))) × Int)) → ((Int × ((List Int) × (Int × Unit))) → Bool → Int → Int → (Int × ((List Int) × (Int × Unit))) → Int → Bool → (Int × (Int × (Int × (Bool × Unit)))) → (List ((Int × ((List Int) × (Int × Unit))) × Int)) → Option A) → Option A) (g_match_ : (Int × ((List Int) × (Int × Unit))) → Int → Int → (Int × ((List Int) × (Int × Unit))) → Int → Bool → (Int × (Int × (Int × (Bool × Unit)))) → (List ((Int × ((List Int) × (Int × Unit))) × Int)) → (Int → Int → Int → (Int × ((List Int) × (Int × Unit))) → Int → Bool → (Int × (Int × (Int × (Bool × Unit)))) → (List ((Int × ((List Int) × (Int × Unit))) × Int)) → Option A) → Option A) (g_score : Int → Int → (Int × ((List Int) × (Int × Unit))) → Int → Bool → (Int × (Int × (Int × (Bool × Unit)))) → (List ((Int × ((List Int) × (Int × Unit))) × Int)) → (Int → Int → Int → (Int × ((List Int) × (Int × Unit))) → Int → Bool → (Int × (Int × (Int × (Bool × Unit)))) → (List ((Int × ((List Int) × (Int × Unit))) × Int)) → Option A) → Option A) (g_banned : Int → Int → (Int × ((List Int) × (Int × Unit))) → Int → Bool → (Int × (Int × (Int × (Bool × Unit)))) → (List ((Int × ((List Int) × (Int × Unit))) × Int)) → (Bool → Int → Int → (Int × ((List Int) × (Int × Unit))) → Int → Bool → (Int × (Int × (Int × (Bool × Unit)))) → (List ((Int × ((List Int) × (Int × Unit))) × Int)) → Option A) → Option A) (n : Nat) (d : never_sh0.den) (k : Ex → St → Option A) : Option A :=
  never_l0 g_awake g_rright g_new_ g_later g_key g_ask g_tick g_match_ g_score g_banned n d.1.2.2.2.2.2.2.2.2.2.2.2.2.2.2.2.2.2.2.2.2.2.2.2.2.2.2.2.2.2.2.2.2.2.2.2.2.1 d.1.2.2.2.2.2.2.2.2.2.2.2.2.2.2.2.2.2.2.2.2.2.2.2.2.2.2.2.2.2.2.2.2.2.2.2.2.2.1 (fun z1 z2 z3 z4 z5 z6 z7 => k .ret (never_x0_0 d.1.2.2.2.2.2.2.2.2.2.2.2.2.2.2.2.2.2.2.2.2.2.2.2.2.2.2.2.2.2.2.2.2.2.2.2.2.1 d.1.2.2.2.2.2.2.2.2.2.2.2.2.2.2.2.2.2.2.2.2.2.2.2.2.2.2.2.2.2.2.2.2.2.2.2.2.2.1 z1 z2 z3 z4 z5 z6 z7)) (fun z0 z1 z2 z3 z4 z5 z6 => k (.exit 0) (never_x0_1 d.1.2.2.2.2.2.2.2.2.2.2.2.2.2.2.2.2.2.2.2.2.2.2.2.2.2.2.2.2.2.2.2.2.2.2.2.2.1 d.1.2.2.2.2.2.2.2.2.2.2.2.2.2.2.2.2.2.2.2.2.2.2.2.2.2.2.2.2.2.2.2.2.2.2.2.2.2.1 z0 z1 z2 z3 z4 z5 z6)) n d.1.2.2.2.2.2.2.2.2.2.2.1 d.1.2.2.2.2.2.2.2.2.2.2.2.2.2.2.2.2.2.2.2.2.2.2.2.2.2.2.2.2.2.2.2.2.2.2.2.2.2.2.1 d.2.1.1 d.2.1.2.1 d.2.1.2.2.1 d.2.1.2.2.2.1 d.2.1.2.2.2.2.1 d.2.1.2.2.2.2.2.2 d.2.2.1 d.2.2.2.1
noncomputable def never_E (g_awake : (Bool → Option A) → Option A) (g_rright : Int → Int → (Bool → Option A) → Option A) (g_new_ : Int → Int → (Int → Option A) → (Int → Int → Int → (Int × ((List Int) × (Int × Unit))) → Int → Bool → (Int × (Int × (Int × (Bool × Unit)))) → (List ((Int × ((List Int) × (Int × Unit))) × Int)) → Option A) → Option A) (g_later : Int → Int → (Int → Option A) → Option A) (g_key : (Int × (Int × (Int × (Int × (Int × Unit))))) → ((Int × ((List Int) × (Int × Unit))) → Option A) → Option A) (g_ask : (Int × ((List Int) × (Int × Unit))) → Int → Int → Int → (Int × ((List Int) × (Int × Unit))) → Int → Bool → (Int × (Int × (Int × (Bool × Unit)))) → (List ((Int × ((List Int) × (Int × Unit))) × Int)) → (Int → Int → Int → (Int × ((List Int) × (Int × Unit))) → Int → Bool → (Int × (Int × (Int × (Bool × Unit)))) → (List ((Int × ((List Int) × (Int × Unit))) × Int)) → Option A) → Option A) (g_tick : Int → Int → Int → (Int × ((List Int) × (Int × Unit))) → Int → Bool → (Int × (Int × (Int × (Bool × Unit)))) → (List ((Int × ((List Int) × (Int × Unit))) × Int)) → ((Int × ((List Int) × (Int × Unit))) → Bool → Int → Int → (Int × ((List Int) × (Int × Unit))) → Int → Bool → (Int × (Int × (Int × (Bool × Unit)))) → (List ((Int × ((List Int) × (Int × Unit))) × Int)) → Option A) → Option A) (g_match_ : (Int × ((List Int) × (Int × Unit))) → Int → Int → (Int × ((List Int) × (Int × Unit))) → Int → Bool → (Int × (Int × (Int × (Bool × Unit)))) → (List ((Int × ((List Int) × (Int × Unit))) × Int)) → (Int → Int → Int → (Int × ((List Int) × (Int × Unit))) → Int → Bool → (Int × (Int × (Int × (Bool × Unit)))) → (List ((Int × ((List Int) × (Int × Unit))) × Int)) → Option A) → Option A) (g_score : Int → Int → (Int × ((List Int) × (Int × Unit))) → Int → Bool → (Int × (Int × (Int × (Bool × Unit)))) → (List ((Int × ((List Int) × (Int × Unit))) × Int)) → (Int → Int → Int → (Int × ((List Int) × (Int × Unit))) → Int → Bool → (Int × (Int × (Int × (Bool × Unit)))) → (List ((Int × ((List Int) × (Int × Unit))) × Int)) → Option A) → Option A) (g_banned : Int → Int → (Int × ((List Int) × (Int × Unit))) → Int → Bool → (Int × (Int × (Int × (Bool × Unit)))) → (List ((Int × ((List Int) × (Int × Unit))) × Int)) → (Bool → Int → Int → (Int × ((List Int) × (Int × Unit))) → Int → Bool → (Int × (Int × (Int × (Bool × Unit)))) → (List ((Int × ((List Int) × (Int × Unit))) × Int)) → Option A) → Option A) (n : Nat) : Env A := ⟨tys, gls, [(11, awake_ent g_awake), (10, rright_ent g_rright), (12, new__ent g_new_), (13, later_ent g_later), (15, key_ent g_key), (14, ask_ent g_ask), (16, tick_ent g_tick), (17, match__ent g_match_), (18, score_ent g_score), (19, banned_ent g_banned)], [(0, loopE never_d0 never_sh0 (never_g0 g_awake g_rright g_new_ g_later g_key g_ask g_tick g_match_ g_score g_banned n))], []⟩
theorem never_T (g_awake : (Bool → Option A) → Option A) (g_rright : Int → Int → (Bool → Option A) → Option A) (g_new_ : Int → Int → (Int → Option A) → (Int → Int → Int → (Int × ((List Int) × (Int × Unit))) → Int → Bool → (Int × (Int × (Int × (Bool × Unit)))) → (List ((Int × ((List Int) × (Int × Unit))) × Int)) → Option A) → Option A) (g_later : Int → Int → (Int → Option A) → Option A) (g_key : (Int × (Int × (Int × (Int × (Int × Unit))))) → ((Int × ((List Int) × (Int × Unit))) → Option A) → Option A) (g_ask : (Int × ((List Int) × (Int × Unit))) → Int → Int → Int → (Int × ((List Int) × (Int × Unit))) → Int → Bool → (Int × (Int × (Int × (Bool × Unit)))) → (List ((Int × ((List Int) × (Int × Unit))) × Int)) → (Int → Int → Int → (Int × ((List Int) × (Int × Unit))) → Int → Bool → (Int × (Int × (Int × (Bool × Unit)))) → (List ((Int × ((List Int) × (Int × Unit))) × Int)) → Option A) → Option A) (g_tick : Int → Int → Int → (Int × ((List Int) × (Int × Unit))) → Int → Bool → (Int × (Int × (Int × (Bool × Unit)))) → (List ((Int × ((List Int) × (Int × Unit))) × Int)) → ((Int × ((List Int) × (Int × Unit))) → Bool → Int → Int → (Int × ((List Int) × (Int × Unit))) → Int → Bool → (Int × (Int × (Int × (Bool × Unit)))) → (List ((Int × ((List Int) × (Int × Unit))) × Int)) → Option A) → Option A) (g_match_ : (Int × ((List Int) × (Int × Unit))) → Int → Int → (Int × ((List Int) × (Int × Unit))) → Int → Bool → (Int × (Int × (Int × (Bool × Unit)))) → (List ((Int × ((List Int) × (Int × Unit))) × Int)) → (Int → Int → Int → (Int × ((List Int) × (Int × Unit))) → Int → Bool → (Int × (Int × (Int × (Bool × Unit)))) → (List ((Int × ((List Int) × (Int × Unit))) × Int)) → Option A) → Option A) (g_score : Int → Int → (Int × ((List Int) × (Int × Unit))) → Int → Bool → (Int × (Int × (Int × (Bool × Unit)))) → (List ((Int × ((List Int) × (Int × Unit))) × Int)) → (Int → Int → Int → (Int × ((List Int) × (Int × Unit))) → Int → Bool → (Int × (Int × (Int × (Bool × Unit)))) → (List ((Int × ((List Int) × (Int × Unit))) × Int)) → Option A) → Option A) (g_banned : Int → Int → (Int × ((List Int) × (Int × Unit))) → Int → Bool → (Int × (Int × (Int × (Bool × Unit)))) → (List ((Int × ((List Int) × (Int × Unit))) × Int)) → (Bool → Int → Int → (Int × ((List Int) × (Int × Unit))) → Int → Bool → (Int × (Int × (Int × (Bool × Unit)))) → (List ((Int × ((List Int) × (Int × Unit))) × Int)) → Option A) → Option A) (n : Nat) : TyOK Try.prog (never_E g_awake g_rright g_new_ g_later g_key g_ask g_tick g_match_ g_score g_banned n) := tyOK_of rfl tysB
theorem never_fns (n : Nat) : FnsOK Try.prog (never_E (A := A) (awake_k n) (rright_k n) (new__k n) (later_k n) (key_k n) (ask_k n) (tick_k n) (match__k n) (score_k n) (banned_k n) n) := AllOK.env rfl rfl (AllOK.cons (awake_ok n) (AllOK.cons (rright_ok n) (AllOK.cons (new__ok n) (AllOK.cons (later_ok n) (AllOK.cons (key_ok n) (AllOK.cons (ask_ok n) (AllOK.cons (tick_ok n) (AllOK.cons (match__ok n) (AllOK.cons (score_ok n) (AllOK.cons (banned_ok n) AllOK.nil))))))))))
noncomputable def never_LK0 (g_awake : (Bool → Option A) → Option A) (g_rright : Int → Int → (Bool → Option A) → Option A) (g_new_ : Int → Int → (Int → Option A) → (Int → Int → Int → (Int × ((List Int) × (Int × Unit))) → Int → Bool → (Int × (Int × (Int × (Bool × Unit)))) → (List ((Int × ((List Int) × (Int × Unit))) × Int)) → Option A) → Option A) (g_later : Int → Int → (Int → Option A) → Option A) (g_key : (Int × (Int × (Int × (Int × (Int × Unit))))) → ((Int × ((List Int) × (Int × Unit))) → Option A) → Option A) (g_ask : (Int × ((List Int) × (Int × Unit))) → Int → Int → Int → (Int × ((List Int) × (Int × Unit))) → Int → Bool → (Int × (Int × (Int × (Bool × Unit)))) → (List ((Int × ((List Int) × (Int × Unit))) × Int)) → (Int → Int → Int → (Int × ((List Int) × (Int × Unit))) → Int → Bool → (Int × (Int × (Int × (Bool × Unit)))) → (List ((Int × ((List Int) × (Int × Unit))) × Int)) → Option A) → Option A) (g_tick : Int → Int → Int → (Int × ((List Int) × (Int × Unit))) → Int → Bool → (Int × (Int × (Int × (Bool × Unit)))) → (List ((Int × ((List Int) × (Int × Unit))) × Int)) → ((Int × ((List Int) × (Int × Unit))) → Bool → Int → Int → (Int × ((List Int) × (Int × Unit))) → Int → Bool → (Int × (Int × (Int × (Bool × Unit)))) → (List ((Int × ((List Int) × (Int × Unit))) × Int)) → Option A) → Option A) (g_match_ : (Int × ((List Int) × (Int × Unit))) → Int → Int → (Int × ((List Int) × (Int × Unit))) → Int → Bool → (Int × (Int × (Int × (Bool × Unit)))) → (List ((Int × ((List Int) × (Int × Unit))) × Int)) → (Int → Int → Int → (Int × ((List Int) × (Int × Unit))) → Int → Bool → (Int × (Int × (Int × (Bool × Unit)))) → (List ((Int × ((List Int) × (Int × Unit))) × Int)) → Option A) → Option A) (g_score : Int → Int → (Int × ((List Int) × (Int × Unit))) → Int → Bool → (Int × (Int × (Int × (Bool × Unit)))) → (List ((Int × ((List Int) × (Int × Unit))) × Int)) → (Int → Int → Int → (Int × ((List Int) × (Int × Unit))) → Int → Bool → (Int × (Int × (Int × (Bool × Unit)))) → (List ((Int × ((List Int) × (Int × Unit))) × Int)) → Option A) → Option A) (g_banned : Int → Int → (Int × ((List Int) × (Int × Unit))) → Int → Bool → (Int × (Int × (Int × (Bool × Unit)))) → (List ((Int × ((List Int) × (Int × Unit))) × Int)) → (Bool → Int → Int → (Int × ((List Int) × (Int × Unit))) → Int → Bool → (Int × (Int × (Int × (Bool × Unit)))) → (List ((Int × ((List Int) × (Int × Unit))) × Int)) → Option A) → Option A) (n : Nat) (t36 : (List (Int × (Int × (Int × (Int × (Int × Unit))))))) (t37 : Int) (k : Ex → St → Option A) (f : Nat) (now : Int) (t38 : Int) (pa : Int) (pba : Int) (pbba : (Int × ((List Int) × (Int × Unit)))) (pbbba : Int) (pbbbba : Bool) (pbbbbbb : (Int × (Int × (Int × (Bool × Unit))))) (pbbbbba : (List ((Int × ((List Int) × (Int × Unit))) × Int))) (due : (List (Int × ((List Int) × (Int × Unit))))) : Option A := loopK (codeK (never_E g_awake g_rright g_new_ g_later g_key g_ask g_tick g_match_ g_score g_banned n) 1 never_c0) never_d0 never_y0 f (⟨[.any, .any, .any, .any, .any, .any, .any, .ptr 0 [], .any, .row 2, .p (.int .i64) now, .any, .any, .any, .any, .any, .any, .any, .any, .any, .any, .any, .any, .any, .any, .any, .any, .any, .any, .any, .any, .any, .any, .any, .any, .any, .p (.sl kT32) t36, .p (.int .i64) t37, .p (.int .i64) t38, .any, .any, .any, .any, .any, .any, .any, .any, .any, .any, .any, .any, .any, .any, .any, .any, .any, .any, .any, .any, .any, .any, .any, .any, .any, .any, .any, .any, .any, .any, .any, .any, .any, .any, .any, .any, .any, .any, .any, .any, .any, .any, .any, .any, .any, .any, .any, .any, .any, .any, .any, .any, .any, .any, .any, .any, .any, .any, .any, .any, .any, .any, .any, .any, .any, .any, .any, .any, .any, .any, .any, .any], [.var 63 kT62 (.pr (.p (.int .i64) pa) (.pr (.p (.int .i64) pba) (.pr (.p kT38 pbba) (.pr (.p (.int .i64) pbbba) (.pr (.p .bool pbbbba) (.pr (.mp 1) (.p (.pair (.int .i64) (.pair (.int .i64) (.pair (.int .i64) (.pair .bool .unit)))) pbbbbbb))))))), .map kT38 (.int .i64) pbbbbba, .row 39 kT38 due], 0⟩) k
theorem never_st0 (g_awake : (Bool → Option A) → Option A) (g_rright : Int → Int → (Bool → Option A) → Option A) (g_new_ : Int → Int → (Int → Option A) → (Int → Int → Int → (Int × ((List Int) × (Int × Unit))) → Int → Bool → (Int × (Int × (Int × (Bool × Unit)))) → (List ((Int × ((List Int) × (Int × Unit))) × Int)) → Option A) → Option A) (g_later : Int → Int → (Int → Option A) → Option A) (g_key : (Int × (Int × (Int × (Int × (Int × Unit))))) → ((Int × ((List Int) × (Int × Unit))) → Option A) → Option A) (g_ask : (Int × ((List Int) × (Int × Unit))) → Int → Int → Int → (Int × ((List Int) × (Int × Unit))) → Int → Bool → (Int × (Int × (Int × (Bool × Unit)))) → (List ((Int × ((List Int) × (Int × Unit))) × Int)) → (Int → Int → Int → (Int × ((List Int) × (Int × Unit))) → Int → Bool → (Int × (Int × (Int × (Bool × Unit)))) → (List ((Int × ((List Int) × (Int × Unit))) × Int)) → Option A) → Option A) (g_tick : Int → Int → Int → (Int × ((List Int) × (Int × Unit))) → Int → Bool → (Int × (Int × (Int × (Bool × Unit)))) → (List ((Int × ((List Int) × (Int × Unit))) × Int)) → ((Int × ((List Int) × (Int × Unit))) → Bool → Int → Int → (Int × ((List Int) × (Int × Unit))) → Int → Bool → (Int × (Int × (Int × (Bool × Unit)))) → (List ((Int × ((List Int) × (Int × Unit))) × Int)) → Option A) → Option A) (g_match_ : (Int × ((List Int) × (Int × Unit))) → Int → Int → (Int × ((List Int) × (Int × Unit))) → Int → Bool → (Int × (Int × (Int × (Bool × Unit)))) → (List ((Int × ((List Int) × (Int × Unit))) × Int)) → (Int → Int → Int → (Int × ((List Int) × (Int × Unit))) → Int → Bool → (Int × (Int × (Int × (Bool × Unit)))) → (List ((Int × ((List Int) × (Int × Unit))) × Int)) → Option A) → Option A) (g_score : Int → Int → (Int × ((List Int) × (Int × Unit))) → Int → Bool → (Int × (Int × (Int × (Bool × Unit)))) → (List ((Int × ((List Int) × (Int × Unit))) × Int)) → (Int → Int → Int → (Int × ((List Int) × (Int × Unit))) → Int → Bool → (Int × (Int × (Int × (Bool × Unit)))) → (List ((Int × ((List Int) × (Int × Unit))) × Int)) → Option A) → Option A) (g_banned : Int → Int → (Int × ((List Int) × (Int × Unit))) → Int → Bool → (Int × (Int × (Int × (Bool × Unit)))) → (List ((Int × ((List Int) × (Int × Unit))) × Int)) → (Bool → Int → Int → (Int × ((List Int) × (Int × Unit))) → Int → Bool → (Int × (Int × (Int × (Bool × Unit)))) → (List ((Int × ((List Int) × (Int × Unit))) × Int)) → Option A) → Option A) (n f : Nat) (t36 : (List (Int × (Int × (Int × (Int × (Int × Unit))))))) (t37 : Int) (k : Ex → St → Option A) (now : Int) (t38 : Int) (pa : Int) (pba : Int) (pbba : (Int × ((List Int) × (Int × Unit)))) (pbbba : Int) (pbbbba : Bool) (pbbbbbb : (Int × (Int × (Int × (Bool × Unit))))) (pbbbbba : (List ((Int × ((List Int) × (Int × Unit))) × Int))) (due : (List (Int × ((List Int) × (Int × Unit))))) : never_LK0 g_awake g_rright g_new_ g_later g_key g_ask g_tick g_match_ g_score g_banned n t36 t37 k (f + 1) now t38 pa pba pbba pbbba pbbbba pbbbbbb pbbbbba due = never_b0 g_awake g_rright g_new_ g_later g_key g_ask g_tick g_match_ g_score g_banned n t36 t37 (fun z1 z2 z3 z4 z5 z6 z7 => k .ret (never_x0_0 t36 t37 z1 z2 z3 z4 z5 z6 z7)) (fun z0 z1 z2 z3 z4 z5 z6 => k (.exit 0) (never_x0_1 t36 t37 z0 z1 z2 z3 z4 z5 z6)) (never_LK0 g_awake g_rright g_new_ g_later g_key g_ask g_tick g_match_ g_score g_banned n t36 t37 k f) now t38 pa pba pbba pbbba pbbbba pbbbbbb pbbbbba due := by kernel_rfl
theorem never_le0 (g_awake : (Bool → Option A) → Option A) (g_rright : Int → Int → (Bool → Option A) → Option A) (g_new_ : Int → Int → (Int → Option A) → (Int → Int → Int → (Int × ((List Int) × (Int × Unit))) → Int → Bool → (Int × (Int × (Int × (Bool × Unit)))) → (List ((Int × ((List Int) × (Int × Unit))) × Int)) → Option A) → Option A) (g_later : Int → Int → (Int → Option A) → Option A) (g_key : (Int × (Int × (Int × (Int × (Int × Unit))))) → ((Int × ((List Int) × (Int × Unit))) → Option A) → Option A) (g_ask : (Int × ((List Int) × (Int × Unit))) → Int → Int → Int → (Int × ((List Int) × (Int × Unit))) → Int → Bool → (Int × (Int × (Int × (Bool × Unit)))) → (List ((Int × ((List Int) × (Int × Unit))) × Int)) → (Int → Int → Int → (Int × ((List Int) × (Int × Unit))) → Int → Bool → (Int × (Int × (Int × (Bool × Unit)))) → (List ((Int × ((List Int) × (Int × Unit))) × Int)) → Option A) → Option A) (g_tick : Int → Int → Int → (Int × ((List Int) × (Int × Unit))) → Int → Bool → (Int × (Int × (Int × (Bool × Unit)))) → (List ((Int × ((List Int) × (Int × Unit))) × Int)) → ((Int × ((List Int) × (Int × Unit))) → Bool → Int → Int → (Int × ((List Int) × (Int × Unit))) → Int → Bool → (Int × (Int × (Int × (Bool × Unit)))) → (List ((Int × ((List Int) × (Int × Unit))) × Int)) → Option A) → Option A) (g_match_ : (Int × ((List Int) × (Int × Unit))) → Int → Int → (Int × ((List Int) × (Int × Unit))) → Int → Bool → (Int × (Int × (Int × (Bool × Unit)))) → (List ((Int × ((List Int) × (Int × Unit))) × Int)) → (Int → Int → Int → (Int × ((List Int) × (Int × Unit))) → Int → Bool → (Int × (Int × (Int × (Bool × Unit)))) → (List ((Int × ((List Int) × (Int × Unit))) × Int)) → Option A) → Option A) (g_score : Int → Int → (Int × ((List Int) × (Int × Unit))) → Int → Bool → (Int × (Int × (Int × (Bool × Unit)))) → (List ((Int × ((List Int) × (Int × Unit))) × Int)) → (Int → Int → Int → (Int × ((List Int) × (Int × Unit))) → Int → Bool → (Int × (Int × (Int × (Bool × Unit)))) → (List ((Int × ((List Int) × (Int × Unit))) × Int)) → Option A) → Option A) (g_banned : Int → Int → (Int × ((List Int) × (Int × Unit))) → Int → Bool → (Int × (Int × (Int × (Bool × Unit)))) → (List ((Int × ((List Int) × (Int × Unit))) × Int)) → (Bool → Int → Int → (Int × ((List Int) × (Int × Unit))) → Int → Bool → (Int × (Int × (Int × (Bool × Unit)))) → (List ((Int × ((List Int) × (Int × Unit))) × Int)) → Option A) → Option A) (n : Nat) (t36 : (List (Int × (Int × (Int × (Int × (Int × Unit))))))) (t37 : Int) (k : Ex → St → Option A) : ∀ (f : Nat) (now : Int) (t38 : Int) (pa : Int) (pba : Int) (pbba : (Int × ((List Int) × (Int × Unit)))) (pbbba : Int) (pbbbba : Bool) (pbbbbbb : (Int × (Int × (Int × (Bool × Unit))))) (pbbbbba : (List ((Int × ((List Int) × (Int × Unit))) × Int))) (due : (List (Int × ((List Int) × (Int × Unit))))), never_LK0 g_awake g_rright g_new_ g_later g_key g_ask g_tick g_match_ g_score g_banned n t36 t37 k f now t38 pa pba pbba pbbba pbbbba pbbbbbb pbbbbba due = never_l0 g_awake g_rright g_new_ g_later g_key g_ask g_tick g_match_ g_score g_banned n t36 t37 (fun z1 z2 z3 z4 z5 z6 z7 => k .ret (never_x0_0 t36 t37 z1 z2 z3 z4 z5 z6 z7)) (fun z0 z1 z2 z3 z4 z5 z6 => k (.exit 0) (never_x0_1 t36 t37 z0 z1 z2 z3 z4 z5 z6)) f now t38 pa pba pbba pbbba pbbbba pbbbbbb pbbbbba due := by
  intro f
  induction f with
  | zero => intros; kernel_rfl
  | succ f ih => intro now t38 pa pba pbba pbbba pbbbba pbbbbbb pbbbbba due; exact (never_st0 g_awake g_rright g_new_ g_later g_key g_ask g_tick g_match_ g_score g_banned n f t36 t37 k now t38 pa pba pbba pbbba pbbbba pbbbbbb pbbbbba due).trans ((congrArg (fun r => never_b0 g_awake g_rright g_new_ g_later g_key g_ask g_tick g_match_ g_score g_banned n t36 t37 (fun z1 z2 z3 z4 z5 z6 z7 => k .ret (never_x0_0 t36 t37 z1 z2 z3 z4 z5 z6 z7)) (fun z0 z1 z2 z3 z4 z5 z6 => k (.exit 0) (never_x0_1 t36 t37 z0 z1 z2 z3 z4 z5 z6)) r now t38 pa pba pbba pbbba pbbbba pbbbbbb pbbbbba due) (funext fun now => funext fun t38 => funext fun pa => funext fun pba => funext fun pbba => funext fun pbbba => funext fun pbbbba => funext fun pbbbbbb => funext fun pbbbbba => funext fun due => ih now t38 pa pba pbba pbbba pbbbba pbbbbbb pbbbbba due)).trans (by kernel_rfl))
theorem never_lo0 (n : Nat) : LoopOK Try.prog gls never_c0 (loopE never_d0 never_sh0 (never_g0 (A := A) (awake_k n) (rright_k n) (new__k n) (later_k n) (key_k n) (ask_k n) (tick_k n) (match__k n) (score_k n) (banned_k n) n)) :=
  LoopOK.of (never_T (awake_k n) (rright_k n) (new__k n) (later_k n) (key_k n) (ask_k n) (tick_k n) (match__k n) (score_k n) (banned_k n) n) (never_fns n) follows (j := 1) (n := n) (xdead := never_y0) (lo_of (by kernel_rfl : loopsOf 1 never_c0 = []) lo_nil) fun d k => Eq.trans (by kernel_rfl) (never_le0 (awake_k n) (rright_k n) (new__k n) (later_k n) (key_k n) (ask_k n) (tick_k n) (match__k n) (score_k n) (banned_k n) n d.1.2.2.2.2.2.2.2.2.2.2.2.2.2.2.2.2.2.2.2.2.2.2.2.2.2.2.2.2.2.2.2.2.2.2.2.2.1 d.1.2.2.2.2.2.2.2.2.2.2.2.2.2.2.2.2.2.2.2.2.2.2.2.2.2.2.2.2.2.2.2.2.2.2.2.2.2.1 k n d.1.2.2.2.2.2.2.2.2.2.2.1 d.1.2.2.2.2.2.2.2.2.2.2.2.2.2.2.2.2.2.2.2.2.2.2.2.2.2.2.2.2.2.2.2.2.2.2.2.2.2.2.1 d.2.1.1 d.2.1.2.1 d.2.1.2.2.1 d.2.1.2.2.2.1 d.2.1.2.2.2.2.1 d.2.1.2.2.2.2.2.2 d.2.2.1 d.2.2.2.1)
theorem never_eqg (g_awake : (Bool → Option A) → Option A) (g_rright : Int → Int → (Bool → Option A) → Option A) (g_new_ : Int → Int → (Int → Option A) → (Int → Int → Int → (Int × ((List Int) × (Int × Unit))) → Int → Bool → (Int × (Int × (Int × (Bool × Unit)))) → (List ((Int × ((List Int) × (Int × Unit))) × Int)) → Option A) → Option A) (g_later : Int → Int → (Int → Option A) → Option A) (g_key : (Int × (Int × (Int × (Int × (Int × Unit))))) → ((Int × ((List Int) × (Int × Unit))) → Option A) → Option A) (g_ask : (Int × ((List Int) × (Int × Unit))) → Int → Int → Int → (Int × ((List Int) × (Int × Unit))) → Int → Bool → (Int × (Int × (Int × (Bool × Unit)))) → (List ((Int × ((List Int) × (Int × Unit))) × Int)) → (Int → Int → Int → (Int × ((List Int) × (Int × Unit))) → Int → Bool → (Int × (Int × (Int × (Bool × Unit)))) → (List ((Int × ((List Int) × (Int × Unit))) × Int)) → Option A) → Option A) (g_tick : Int → Int → Int → (Int × ((List Int) × (Int × Unit))) → Int → Bool → (Int × (Int × (Int × (Bool × Unit)))) → (List ((Int × ((List Int) × (Int × Unit))) × Int)) → ((Int × ((List Int) × (Int × Unit))) → Bool → Int → Int → (Int × ((List Int) × (Int × Unit))) → Int → Bool → (Int × (Int × (Int × (Bool × Unit)))) → (List ((Int × ((List Int) × (Int × Unit))) × Int)) → Option A) → Option A) (g_match_ : (Int × ((List Int) × (Int × Unit))) → Int → Int → (Int × ((List Int) × (Int × Unit))) → Int → Bool → (Int × (Int × (Int × (Bool × Unit)))) → (List ((Int × ((List Int) × (Int × Unit))) × Int)) → (Int → Int → Int → (Int × ((List Int) × (Int × Unit))) → Int → Bool → (Int × (Int × (Int × (Bool × Unit)))) → (List ((Int × ((List Int) × (Int × Unit))) × Int)) → Option A) → Option A) (g_score : Int → Int → (Int × ((List Int) × (Int × Unit))) → Int → Bool → (Int × (Int × (Int × (Bool × Unit)))) → (List ((Int × ((List Int) × (Int × Unit))) × Int)) → (Int → Int → Int → (Int × ((List Int) × (Int × Unit))) → Int → Bool → (Int × (Int × (Int × (Bool × Unit)))) → (List ((Int × ((List Int) × (Int × Unit))) × Int)) → Option A) → Option A) (g_banned : Int → Int → (Int × ((List Int) × (Int × Unit))) → Int → Bool → (Int × (Int × (Int × (Bool × Unit)))) → (List ((Int × ((List Int) × (Int × Unit))) × Int)) → (Bool → Int → Int → (Int × ((List Int) × (Int × Unit))) → Int → Bool → (Int × (Int × (Int × (Bool × Unit)))) → (List ((Int × ((List Int) × (Int × Unit))) × Int)) → Option A) → Option A) (n : Nat) (a0 : Int) (a1 : Int) (a2 : (List (Int × (Int × (Int × (Int × (Int × Unit))))))) (k : AV → List Blk → Option A) : fnK (never_E g_awake g_rright g_new_ g_later g_key g_ask g_tick g_match_ g_score g_banned n) Try.f4 [.pure] [.p (.int .i64) a0, .p (.int .i64) a1, .p (.sl kT32) a2] [] k = never_p g_awake g_rright g_new_ g_later g_key g_ask g_tick g_match_ g_score g_banned n a0 a1 a2 (fun r0 => k (.p .bool r0) []) := by kernel_rfl
theorem never_eq (n : Nat) (a0 : Int) (a1 : Int) (a2 : (List (Int × (Int × (Int × (Int × (Int × Unit))))))) (k : AV → List Blk → Option A) : fnK (never_E (awake_k n) (rright_k n) (new__k n) (later_k n) (key_k n) (ask_k n) (tick_k n) (match__k n) (score_k n) (banned_k n) n) Try.f4 [.pure] [.p (.int .i64) a0, .p (.int .i64) a1, .p (.sl kT32) a2] [] k = never_k n a0 a1 a2 (fun r0 => k (.p .bool r0) []) := never_eqg (awake_k n) (rright_k n) (new__k n) (later_k n) (key_k n) (ask_k n) (tick_k n) (match__k n) (score_k n) (banned_k n) n a0 a1 a2 k
def never_ent (g : Int → Int → (List (Int × (Int × (Int × (Int × (Int × Unit)))))) → (Bool → Option A) → Option A) : Entry A := pureE fun args k => args3 args (.int .i64) (.int .i64) (.sl kT32) fun a0 a1 a2 => g a0 a1 a2 (fun r0 => k (.p .bool r0) [])
theorem never_lo (n : Nat) : ∀ c, Try.f4.body = some c → ∀ q ∈ loopsOf 0 c, ∀ L, (never_E (A := A) (awake_k n) (rright_k n) (new__k n) (later_k n) (key_k n) (ask_k n) (tick_k n) (match__k n) (score_k n) (banned_k n) n).lps.lookup q.1 = some L → LoopOK Try.prog gls q.2 L :=
  lo_body (E := never_E (awake_k n) (rright_k n) (new__k n) (later_k n) (key_k n) (ask_k n) (tick_k n) (match__k n) (score_k n) (banned_k n) n) (by kernel_rfl : Try.f4.body = some (bodyOf Try.f4)) (lo_of (E := never_E (awake_k n) (rright_k n) (new__k n) (later_k n) (key_k n) (ask_k n) (tick_k n) (match__k n) (score_k n) (banned_k n) n) (by kernel_rfl : loopsOf 0 (bodyOf Try.f4) = [(0, never_c0)]) (lo_cons rfl (never_lo0 n) lo_nil))
theorem never_ok (n : Nat) : FnOK Try.prog gls 4 (never_ent (A := A) (never_k n)) :=
  FnOK.of (never_T (awake_k n) (rright_k n) (new__k n) (later_k n) (key_k n) (ask_k n) (tick_k n) (match__k n) (score_k n) (banned_k n) n) (never_fns n) follows ⟨Try.func4, by kernel_rfl⟩ (never_lo n) (rm := [.pure]) fun args k out h => by
    obtain ⟨a0, a1, a2, e, h1⟩ := args3_sound h
    subst e; rw [never_eq]; exact h1

end Go.Ev
end

section
/-
  THE LAWS OF PeerLate, PeerNever.
-/
set_option linter.all false
namespace Go.Ev
variable {A : Type}

theorem late_law (n : Nat) (kk : PK) (b m : Int) (key : PK) (dl : Int) (wt : Bool) (r : R4) (mp : PM) (g : Int → Int → Int → PK → Int → Bool → R4 → PM → Option A) : late_k n kk b m key dl wt r mp g = g (cnt kT38 mp kk) b m key dl wt r mp := rfl
theorem wake_law (n : Nat) (b m : Int) (key : PK) (dl : Int) (wt : Bool) (r : R4) (mp : PM) (g : Int → Int → Int → PK → Int → Bool → R4 → PM → Option A) : wake_k n b m key dl wt r mp g = g r.2.1 b m key dl wt r mp := rfl
theorem score_law (n : Nat) (b m : Int) (key : PK) (dl : Int) (wt : Bool) (r : R4) (mp : PM) (g : Int → Int → Int → PK → Int → Bool → R4 → PM → Option A) : score_k n b m key dl wt r mp g = g r.2.2.1 b m key dl wt r mp := rfl
theorem banned_law (n : Nat) (b m : Int) (key : PK) (dl : Int) (wt : Bool) (r : R4) (mp : PM) (g : Bool → Int → Int → PK → Int → Bool → R4 → PM → Option A) : banned_k n b m key dl wt r mp g = g r.2.2.2.1 b m key dl wt r mp := rfl

theorem latel_at (b m now : Int) (o : OP) : ∃ n, latel_k n (b, (m, (now, (o, ())))) (fun r => some r) = some true := by
  refine ⟨1000, ?_⟩
  have haw : ∀ k : Bool → Option Bool, awake_k 1000 k = k true := awake_1000
  have hn : 1000 ≤ 1000 := Nat.le_refl _
  generalize hN : 1000 = n at haw
  rw [hN] at hn
  have hn : 1000 ≤ n := by omega
  unfold latel_k latel_p
  dsimp only
  rw [rright_law]
  by_cases hR : Rt b m
  · have hR' := hR
    obtain ⟨q1, q2, q3, q4⟩ := hR'
    rw [decide_eq_true hR, Bool.not_true, cond_false]
    by_cases h1 : (now : Int) < 0
    · rw [decide_eq_true h1, cond_true, haw]
    · rw [decide_eq_false h1, cond_false]
      by_cases h2 : (now : Int) > 549755813888
      · rw [decide_eq_true h2, cond_true, haw]
      · rw [decide_eq_false h2, cond_false, new_law n b m hR, show ((0 : Int) != 0) = false from rfl, cond_false, key_law]
        obtain ⟨e, key', dl', wt', _, a2, _, a4, _, a6⟩ := ask_both (A := Bool) n now b m (kof o) zk 0 false r0 [] []
        have hge : decide (now ≥ r0.2.1) = true := decide_eq_true (show now ≥ 0 by omega)
        have he := a6 (by omega) (by omega) (by rw [hge]; rfl)
        obtain ⟨_, e1, e2, e3⟩ := a4 he
        subst he; subst e1; subst e3
        have w1 : IntKind.wrap .i64 ((now : Int) + b) = now + b := wrap_id (by omega) (by omega)
        have w2 : IntKind.wrap .i64 ((now : Int) + b - 1) = now + b - 1 := wrap_id (by omega) (by omega)
        have w3 : IntKind.wrap .i64 ((now : Int) + b + b) = now + b + b := wrap_id (by omega) (by omega)
        rw [w1] at e2
        subst e2
        rw [a2, show ((0 : Int) != 0) = false from rfl, cond_false, w1, w2, w3]
        obtain ⟨kq, ok, key', dl', wt', r', mp', L', _, b2, b3, b4, b5, b6, b7⟩ := tick_both (A := Bool) n (by omega) (now + b - 1) b m hR (kof o) (now + b) true r0 [] [] .nil (by simp)
        obtain ⟨c1, c2, c3, c4, c5, c6, _⟩ := b7.resolve_right fun h => h.2.2.1 (by omega)
        subst c1; subst c2; subst c3; subst c4; subst c5; subst c6
        rw [b2, cond_false]
        obtain ⟨kq2, ok2, key2, dl2, wt2, r2, mp2, L2, _, d2, d3, d4, d5, d6, d7⟩ := tick_both (A := Bool) n (by omega) (now + b) b m hR (kof o) (now + b) true r0 mp' [] b3 (by simp)
        obtain ⟨c1, _, _, c4, c5, c6, c7⟩ := d7.resolve_left fun h => by
          rcases h.2.2.2.2.2.2 with h | h
          · cases h
          · omega
        subst c1; subst c4; subst c5; subst c6
        have hD : DD b m (IntKind.wrap .i64 (r0.1 + 1)) = b := by
          rw [show IntKind.wrap .i64 (r0.1 + 1) = 1 from by decide]
          unfold DD imin
          rw [if_neg (by decide), show ((1 : Int) - 1).toNat = 0 from rfl, dbl, if_neg (by omega)]
        rw [hD, w3] at c7
        rw [d2, cond_true, key_law, deq_self, cond_true, late_law, d3.c, List.nil_append, lc_one_self, show (((1 : Nat) : Int) == 1) = true from rfl, cond_true, wake_law, c7, beq_self_eq_true, cond_true, ready_law, c7,
          decide_eq_false (show ¬ (now : Int) + b ≥ now + b + b by omega), Bool.and_false, Bool.and_false, Bool.not_false, cond_true]
        obtain ⟨e, key3, dl3, wt3, r3, mp3, L3, _, f2, f3, f4, f5, f6, f7⟩ := match_both (A := Bool) n hn b m (kof o) key2 dl2 false r2 mp2 ([] ++ [kof o]) d3 (by simp)
        obtain ⟨c1, _, _, _, q, hq, c5⟩ := (f7.resolve_left fun h => by cases h.2.1).resolve_right fun h => by
          have h := h.2.2.2.2.1
          rw [List.nil_append, lc_one_self] at h; omega
        subst c1
        have hq0 : q = 0 := by
          have := (List.getElem?_eq_some_iff.1 hq).1
          simp at this; exact this
        subst hq0
        have c5 : L3 = [] := c5
        subst c5
        have hw3 := f6 rfl
        subst hw3
        rw [f2, show ((2 : Int) == 2) = true from rfl, cond_true]
        obtain ⟨e, key4, dl4, wt4, r4, mp4, L4, _, g2, g3, g4, g5, g6, g7⟩ := match_both (A := Bool) n hn b m (kof o) key3 dl3 false r3 mp3 [] f3 (by simp)
        rcases g7 with ⟨_, h, _⟩ | ⟨_, _, _, _, q, hq, _⟩ | ⟨c1, _⟩
        · cases h
        · simp at hq
        subst c1
        rw [g2, show ((0 : Int) == 0) = true from rfl, cond_true, haw]
  · rw [decide_eq_false hR, Bool.not_false, cond_true, haw]

theorem latel_law (a0 : kT46.den) (f0 : WF kT46 a0) : ∃ n, latel_k n a0 (fun r => some r) = some true := by
  obtain ⟨b, m, now, o, u⟩ := a0
  exact latel_at b m now o

/-- What is waited for. -/
def pend (wt : Bool) (key : PK) : List PK := bif wt then [key] else []

theorem never_l0_law (n : Nat) (hn : 1000 ≤ n) (b m : Int) (hR : Rt b m) (l : List OP) (hl : l.length ≤ 80) (k0 : Int → Int → PK → Int → Bool → R4 → PM → Option A) (k1 : Int → Int → PK → Int → Bool → R4 → PM → Option A) (out : Option A)
    (hk1 : ∀ (key : PK) (dl : Int) (wt : Bool) (r : R4) (mp : PM), r.2.2.1 = 0 → r.2.2.2.1 = false → k1 b m key dl wt r mp = out) :
    ∀ (d f i : Nat) (now : Int) (key : PK) (dl : Int) (wt : Bool) (r : R4) (mp : PM) (L D : List PK), i + d = l.length → d < f → Sim mp L → r.2.2.1 = 0 → r.2.2.2.1 = false → L.length ≤ i → D.length ≤ i → (∀ k, lc D k ≤ lc L k + lc (pend wt key) k) →
    never_l0 (awake_k n) (rright_k n) (new__k n) (later_k n) (key_k n) (ask_k n) (tick_k n) (match__k n) (score_k n) (banned_k n) n l (l.length : Int) k0 k1 f now (i : Int) b m key dl wt r mp D = out := by
  intro d
  induction d with
  | zero =>
    intro f i now key dl wt r mp L D hi hf hs hr1 hr2 hL hD hinv
    obtain ⟨f, rfl⟩ : ∃ g, f = g + 1 := ⟨f - 1, by omega⟩
    rw [never_l0, never_b0, decide_eq_false (by omega), cond_false]
    exact hk1 key dl wt r mp hr1 hr2
  | succ d ih =>
    intro f i now key dl wt r mp L D hi hf hs hr1 hr2 hL hD hinv
    obtain ⟨f, rfl⟩ : ∃ g, f = g + 1 := ⟨f - 1, by omega⟩
    have hlt : i < l.length := by omega
    have e1 : IntKind.wrap .i64 ((i : Int) + 1) = ((i + 1 : Nat) : Int) := by rw [wrap_id (by omega) (by omega)]; omega
    rw [never_l0, never_b0, decide_eq_true (by omega), cond_true, if_pos (by omega), Int.toNat_natCast, List.getElem?_eq_getElem hlt, Option.bind_some, later_law]
    generalize hnow : IntKind.wrap .i64 (now + imin (imax l[i].2.2.2.2.1 0) 1048576) = now'
    rw [e1]
    by_cases h1 : l[i].1 = 1
    · rw [show (l[i].1 == 1) = true from by rw [h1]; rfl, cond_true, key_law]
      obtain ⟨e, key', dl', wt', _, a2, _, a4, a5, _⟩ := ask_both (A := A) n now' b m (kof l[i]) key dl wt r mp L
      rw [a2]
      by_cases he : e = 0
      · obtain ⟨c1, c2, c3, c4⟩ := a4 he
        subst c1; subst c2; subst c4; subst he
        rw [show ((0 : Int) == 0) = true from rfl, cond_true, key_law, if_pos (by omega)]
        refine ih f (i + 1) now' _ dl' true r mp L (D ++ [kof l[i]]) (by omega) (by omega) hs hr1 hr2 (by omega) (by rw [List.length_append, List.length_singleton]; omega) fun k => ?_
        have := hinv k
        rw [lc_append]
        have e2 : lc (pend false key) k = 0 := rfl
        have e3 : lc (pend true (kof l[i])) k = lc [kof l[i]] k := rfl
        omega
      · obtain ⟨c1, c2, c3⟩ := a5 he
        subst c1; subst c2; subst c3
        rw [beq_eq_false_iff_ne.2 he, cond_false]
        exact ih f (i + 1) now' key' dl' wt' r mp L D (by omega) (by omega) hs hr1 hr2 (by omega) (by omega) hinv
    · rw [beq_eq_false_iff_ne.2 h1, cond_false]
      by_cases h2 : l[i].1 = 2
      · rw [show (l[i].1 == 2) = true from by rw [h2]; rfl, cond_true]
        obtain ⟨kq, ok, key', dl', wt', r', mp', L', _, b2, b3, b4, b5, b6, b7⟩ := tick_both (A := A) n (by omega) now' b m hR key dl wt r mp L hs (by omega)
        rw [b2]
        refine ih f (i + 1) now' key' dl' wt' r' mp' L' D (by omega) (by omega) b3 (by rw [b5]; exact hr1) (by rw [b5]; exact hr2) (by omega) (by omega) fun k => ?_
        have := hinv k
        rcases b7 with ⟨_, c2, c3, c4, _⟩ | ⟨_, c2, _, c4, c5, _⟩
        · rw [c2, c3, c4]; exact this
        · rw [c4, c5, lc_append]
          rw [c2] at this
          have e2 : lc (pend false key') k = 0 := rfl
          have e3 : lc (pend true key) k = lc [key] k := rfl
          omega
      · rw [beq_eq_false_iff_ne.2 h2, cond_false]
        by_cases h3 : l[i].1 = 3
        · rw [show (l[i].1 == 3) = true from by rw [h3]; rfl, cond_true]
          obtain ⟨N, hN0⟩ : ∃ N : Int, l[i].2.2.2.1 = N := ⟨_, rfl⟩
          rw [hN0]
          have same := ih f (i + 1) now' key dl wt r mp L D (by omega) (by omega) hs hr1 hr2 (by omega) (by omega) hinv
          by_cases hN : (N : Int) < 0
          · rw [decide_eq_true hN, cond_true]; exact same
          · rw [decide_eq_false hN, cond_false]
            by_cases hN2 : (N : Int) ≥ (D.length : Int)
            · rw [decide_eq_true hN2, cond_true]; exact same
            · rw [decide_eq_false hN2, cond_false]
              obtain ⟨q, rfl⟩ : ∃ q : Nat, N = (q : Int) := ⟨Int.toNat N, by omega⟩
              have hq : q < D.length := by omega
              have e2 : IntKind.wrap .i64 ((q : Int) + 1) = ((q + 1 : Nat) : Int) := by rw [wrap_id (by omega) (by omega)]; omega
              have e3 : (D.drop (q + 1)).take (D.length - (q + 1)) = D.drop (q + 1) := List.take_of_length_le (by rw [List.length_drop]; omega)
              have hDq : D[q]? = some D[q] := List.getElem?_eq_getElem hq
              rw [if_pos (by omega), if_pos (by omega), Int.toNat_natCast, hDq, Option.bind_some, if_pos (by omega), if_pos (by omega), List.drop_zero, Nat.sub_zero, e2, Int.toNat_natCast, List.nil_append, e3, if_pos (by rw [List.length_take]; omega), if_pos (by omega), if_pos (by omega), if_pos (by rw [List.length_take, List.length_drop]; omega)]
              obtain ⟨e, key', dl', wt', r', mp', L', _, b2, b3, b4, b5, b6, b7⟩ := match_both (A := A) n hn b m D[q] key dl wt r mp L hs (by omega)
              have hcut := lc_cut hDq
              have hself := hcut D[q]
              rw [lc_one_self] at hself
              have hne : e ≠ 0 := fun he => by
                rcases b7 with ⟨c1, _⟩ | ⟨c1, _⟩ | ⟨_, c2, _, _, c5, _⟩
                · omega
                · omega
                · have := hinv D[q]
                  have e5 : lc (pend wt key) D[q] = 0 := by
                    cases wt with
                    | false => rfl
                    | true => exact lc_one_ne (c2 rfl)
                  omega
              rw [b2, beq_eq_false_iff_ne.2 hne, cond_false]
              refine ih f (i + 1) now' key' dl' wt' r' mp' L' (D.take q ++ D.drop (q + 1)) (by omega) (by omega) b3 (by rw [b5]; exact hr1) (by rw [b5]; exact hr2) (by omega) (by rw [List.length_append, List.length_take, List.length_drop]; omega) fun k => ?_
              have hk := hinv k
              have hc := hcut k
              rcases b7 with ⟨_, c2, c3, c4, c5⟩ | ⟨_, c2, c3, c4, q', hq', c5⟩ | ⟨c1, _⟩
              · rw [c4, c5]
                rw [c2, c3] at hk
                have e5 : lc (pend true D[q]) k = lc [D[q]] k := rfl
                have e6 : lc (pend false key') k = 0 := rfl
                omega
              · have hc2 := lc_cut hq' k
                rw [c3, c4, c5]
                omega
              · exact absurd c1 hne
        · rw [beq_eq_false_iff_ne.2 h3, cond_false]
          exact ih f (i + 1) now' key dl wt r mp L D (by omega) (by omega) hs hr1 hr2 (by omega) (by omega) hinv

theorem never_law (a0 a1 : Int) (a2 : List OP) (f0 : WF (.int .i64) a0) (f1 : WF (.int .i64) a1) (f2 : WF (.sl kT32) a2) : ∃ n, never_k n a0 a1 a2 (fun r => some r) = some true := by
  refine ⟨1000, ?_⟩
  have haw : ∀ k : Bool → Option Bool, awake_k 1000 k = k true := awake_1000
  have hn : 1000 ≤ 1000 := Nat.le_refl _
  generalize hN : 1000 = n at haw
  rw [hN] at hn
  unfold never_k never_p
  by_cases h : (a2.length : Int) > 80
  · rw [decide_eq_true h, cond_true, haw]
  · rw [decide_eq_false h, cond_false, rright_law]
    by_cases hR : Rt a0 a1
    · rw [decide_eq_true hR, Bool.not_true, cond_false, new_law n a0 a1 hR, show ((0 : Int) != 0) = false from rfl, cond_false]
      refine never_l0_law n (by omega) a0 a1 hR a2 (by omega) _ _ (some true) (fun key dl wt r mp h1 h2 => ?_) a2.length n 0 0 zk 0 false r0 [] [] [] (by omega) (by omega) .nil rfl rfl (by simp) (by simp) (fun k => by simp [lc_nil])
      rw [score_law, h1, show ((0 : Int) == 0) = true from rfl, cond_true, banned_law, h2, Bool.not_false, cond_true, haw]
    · rw [decide_eq_false hR, Bool.not_false, cond_true, haw]

end Go.Ev
end

