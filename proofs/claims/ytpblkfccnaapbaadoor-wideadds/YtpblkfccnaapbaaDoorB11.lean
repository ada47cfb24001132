import Derived.Test.YtpblkfccnaapbaaDoorB5
import Derived.Test.YtpblkfccnaapbaaDoorB10
set_option linter.all false
section
/-
  FUNCTION 54: printed by a program of our own (wip/gen/st.py). 'internal/strconv.formatBase10', in continuation form; the evaluator gives it.
-/
set_option linter.all false
set_option maxRecDepth 100000
namespace Go.Ev
open Go.Proofs
variable {A : Type}

-- ============================================================ fmt10 (function 54)
def fmt10_b0 (n : Nat) (alo : Nat) (alen : Nat) (k0 : Int → Int → (List Int) → Option A) (r : Int → Int → (List Int) → Option A) (u : Int) (nd : Int) (a : (List Int)) : Option A :=
  bif (decide (nd ≥ 8)) then
    if 0 ≤ (IntKind.wrap .u32 ((IntKind.wrap .u32 ((Int.tmod (Int.tmod (IntKind.wrap .u32 (Int.tmod u 100000000)) 10000) 100) * 2)) + 1)) then
      ((strBytes str3)[(Int.toNat (IntKind.wrap .u32 ((IntKind.wrap .u32 ((Int.tmod (Int.tmod (IntKind.wrap .u32 (Int.tmod u 100000000)) 10000) 100) * 2)) + 1)))]?).bind fun y1 =>
      if 0 ≤ (IntKind.wrap .u32 ((Int.tmod (Int.tmod (IntKind.wrap .u32 (Int.tmod u 100000000)) 10000) 100) * 2)) then
        ((strBytes str3)[(Int.toNat (IntKind.wrap .u32 ((Int.tmod (Int.tmod (IntKind.wrap .u32 (Int.tmod u 100000000)) 10000) 100) * 2)))]?).bind fun y2 =>
        if 0 ≤ (IntKind.wrap .i64 (nd - 1)) then
          if (IntKind.wrap .i64 (nd - 1)) < (alen : Int) then
            if (alo + (Int.toNat (IntKind.wrap .i64 (nd - 1)))) < 24 then
              if 0 ≤ (IntKind.wrap .i64 (nd - 2)) then
                if (IntKind.wrap .i64 (nd - 2)) < (alen : Int) then
                  if (alo + (Int.toNat (IntKind.wrap .i64 (nd - 2)))) < 24 then
                    if 0 ≤ (IntKind.wrap .u32 ((IntKind.wrap .u32 ((IntKind.wrap .u32 (Int.tdiv (Int.tmod (IntKind.wrap .u32 (Int.tmod u 100000000)) 10000) 100)) * 2)) + 1)) then
                      ((strBytes str3)[(Int.toNat (IntKind.wrap .u32 ((IntKind.wrap .u32 ((IntKind.wrap .u32 (Int.tdiv (Int.tmod (IntKind.wrap .u32 (Int.tmod u 100000000)) 10000) 100)) * 2)) + 1)))]?).bind fun y3 =>
                      if 0 ≤ (IntKind.wrap .u32 ((IntKind.wrap .u32 (Int.tdiv (Int.tmod (IntKind.wrap .u32 (Int.tmod u 100000000)) 10000) 100)) * 2)) then
                        ((strBytes str3)[(Int.toNat (IntKind.wrap .u32 ((IntKind.wrap .u32 (Int.tdiv (Int.tmod (IntKind.wrap .u32 (Int.tmod u 100000000)) 10000) 100)) * 2)))]?).bind fun y4 =>
                        if 0 ≤ (IntKind.wrap .i64 (nd - 3)) then
                          if (IntKind.wrap .i64 (nd - 3)) < (alen : Int) then
                            if (alo + (Int.toNat (IntKind.wrap .i64 (nd - 3)))) < 24 then
                              if 0 ≤ (IntKind.wrap .i64 (nd - 4)) then
                                if (IntKind.wrap .i64 (nd - 4)) < (alen : Int) then
                                  if (alo + (Int.toNat (IntKind.wrap .i64 (nd - 4)))) < 24 then
                                    if 0 ≤ (IntKind.wrap .u32 ((IntKind.wrap .u32 ((Int.tmod (IntKind.wrap .u32 (Int.tdiv (IntKind.wrap .u32 (Int.tmod u 100000000)) 10000)) 100) * 2)) + 1)) then
                                      ((strBytes str3)[(Int.toNat (IntKind.wrap .u32 ((IntKind.wrap .u32 ((Int.tmod (IntKind.wrap .u32 (Int.tdiv (IntKind.wrap .u32 (Int.tmod u 100000000)) 10000)) 100) * 2)) + 1)))]?).bind fun y5 =>
                                      if 0 ≤ (IntKind.wrap .u32 ((Int.tmod (IntKind.wrap .u32 (Int.tdiv (IntKind.wrap .u32 (Int.tmod u 100000000)) 10000)) 100) * 2)) then
                                        ((strBytes str3)[(Int.toNat (IntKind.wrap .u32 ((Int.tmod (IntKind.wrap .u32 (Int.tdiv (IntKind.wrap .u32 (Int.tmod u 100000000)) 10000)) 100) * 2)))]?).bind fun y6 =>
                                        if 0 ≤ (IntKind.wrap .i64 (nd - 5)) then
                                          if (IntKind.wrap .i64 (nd - 5)) < (alen : Int) then
                                            if (alo + (Int.toNat (IntKind.wrap .i64 (nd - 5)))) < 24 then
                                              if 0 ≤ (IntKind.wrap .i64 (nd - 6)) then
                                                if (IntKind.wrap .i64 (nd - 6)) < (alen : Int) then
                                                  if (alo + (Int.toNat (IntKind.wrap .i64 (nd - 6)))) < 24 then
                                                    if 0 ≤ (IntKind.wrap .u32 ((IntKind.wrap .u32 ((IntKind.wrap .u32 (Int.tdiv (IntKind.wrap .u32 (Int.tdiv (IntKind.wrap .u32 (Int.tmod u 100000000)) 10000)) 100)) * 2)) + 1)) then
                                                      ((strBytes str3)[(Int.toNat (IntKind.wrap .u32 ((IntKind.wrap .u32 ((IntKind.wrap .u32 (Int.tdiv (IntKind.wrap .u32 (Int.tdiv (IntKind.wrap .u32 (Int.tmod u 100000000)) 10000)) 100)) * 2)) + 1)))]?).bind fun y7 =>
                                                      if 0 ≤ (IntKind.wrap .u32 ((IntKind.wrap .u32 (Int.tdiv (IntKind.wrap .u32 (Int.tdiv (IntKind.wrap .u32 (Int.tmod u 100000000)) 10000)) 100)) * 2)) then
                                                        ((strBytes str3)[(Int.toNat (IntKind.wrap .u32 ((IntKind.wrap .u32 (Int.tdiv (IntKind.wrap .u32 (Int.tdiv (IntKind.wrap .u32 (Int.tmod u 100000000)) 10000)) 100)) * 2)))]?).bind fun y8 =>
                                                        if 0 ≤ (IntKind.wrap .i64 (nd - 7)) then
                                                          if (IntKind.wrap .i64 (nd - 7)) < (alen : Int) then
                                                            if (alo + (Int.toNat (IntKind.wrap .i64 (nd - 7)))) < 24 then
                                                              if 0 ≤ (IntKind.wrap .i64 (nd - 8)) then
                                                                if (IntKind.wrap .i64 (nd - 8)) < (alen : Int) then
                                                                  if (alo + (Int.toNat (IntKind.wrap .i64 (nd - 8)))) < 24 then
                                                                    r (IntKind.wrap .u64 (Int.tdiv u 100000000)) (IntKind.wrap .i64 (nd - 8)) ((((((((a.set (alo + (Int.toNat (IntKind.wrap .i64 (nd - 1)))) y1).set (alo + (Int.toNat (IntKind.wrap .i64 (nd - 2)))) y2).set (alo + (Int.toNat (IntKind.wrap .i64 (nd - 3)))) y3).set (alo + (Int.toNat (IntKind.wrap .i64 (nd - 4)))) y4).set (alo + (Int.toNat (IntKind.wrap .i64 (nd - 5)))) y5).set (alo + (Int.toNat (IntKind.wrap .i64 (nd - 6)))) y6).set (alo + (Int.toNat (IntKind.wrap .i64 (nd - 7)))) y7).set (alo + (Int.toNat (IntKind.wrap .i64 (nd - 8)))) y8)
                                                                  else none
                                                                else none
                                                              else none
                                                            else none
                                                          else none
                                                        else none
                                                      else none
                                                    else none
                                                  else none
                                                else none
                                              else none
                                            else none
                                          else none
                                        else none
                                      else none
                                    else none
                                  else none
                                else none
                              else none
                            else none
                          else none
                        else none
                      else none
                    else none
                  else none
                else none
              else none
            else none
          else none
        else none
      else none
    else none
  else
    k0 u nd a

def fmt10_l0 (n : Nat) (alo : Nat) (alen : Nat) (k0 : Int → Int → (List Int) → Option A) : Nat → Int → Int → (List Int) → Option A
  | 0 => fun _ _ _ => none
  | f + 1 => fmt10_b0 n alo alen k0 (fmt10_l0 n alo alen k0 f)

def fmt10_p (n : Nat) (alo : Nat) (alen : Nat) (u : Int) (a : (List Int)) (k : (List Int) → Option A) : Option A :=
  fmt10_l0 n alo alen (fun y9 y10 y11 =>
    bif (decide (y10 ≥ 4)) then
      if 0 ≤ (IntKind.wrap .u32 ((IntKind.wrap .u32 ((Int.tmod (Int.tmod (IntKind.wrap .u32 y9) 10000) 100) * 2)) + 1)) then
        ((strBytes str3)[(Int.toNat (IntKind.wrap .u32 ((IntKind.wrap .u32 ((Int.tmod (Int.tmod (IntKind.wrap .u32 y9) 10000) 100) * 2)) + 1)))]?).bind fun y12 =>
        if 0 ≤ (IntKind.wrap .u32 ((Int.tmod (Int.tmod (IntKind.wrap .u32 y9) 10000) 100) * 2)) then
          ((strBytes str3)[(Int.toNat (IntKind.wrap .u32 ((Int.tmod (Int.tmod (IntKind.wrap .u32 y9) 10000) 100) * 2)))]?).bind fun y13 =>
          if 0 ≤ (IntKind.wrap .i64 (y10 - 1)) then
            if (IntKind.wrap .i64 (y10 - 1)) < (alen : Int) then
              if (alo + (Int.toNat (IntKind.wrap .i64 (y10 - 1)))) < 24 then
                if 0 ≤ (IntKind.wrap .i64 (y10 - 2)) then
                  if (IntKind.wrap .i64 (y10 - 2)) < (alen : Int) then
                    if (alo + (Int.toNat (IntKind.wrap .i64 (y10 - 2)))) < 24 then
                      if 0 ≤ (IntKind.wrap .u32 ((IntKind.wrap .u32 ((IntKind.wrap .u32 (Int.tdiv (Int.tmod (IntKind.wrap .u32 y9) 10000) 100)) * 2)) + 1)) then
                        ((strBytes str3)[(Int.toNat (IntKind.wrap .u32 ((IntKind.wrap .u32 ((IntKind.wrap .u32 (Int.tdiv (Int.tmod (IntKind.wrap .u32 y9) 10000) 100)) * 2)) + 1)))]?).bind fun y14 =>
                        if 0 ≤ (IntKind.wrap .u32 ((IntKind.wrap .u32 (Int.tdiv (Int.tmod (IntKind.wrap .u32 y9) 10000) 100)) * 2)) then
                          ((strBytes str3)[(Int.toNat (IntKind.wrap .u32 ((IntKind.wrap .u32 (Int.tdiv (Int.tmod (IntKind.wrap .u32 y9) 10000) 100)) * 2)))]?).bind fun y15 =>
                          if 0 ≤ (IntKind.wrap .i64 (y10 - 3)) then
                            if (IntKind.wrap .i64 (y10 - 3)) < (alen : Int) then
                              if (alo + (Int.toNat (IntKind.wrap .i64 (y10 - 3)))) < 24 then
                                if 0 ≤ (IntKind.wrap .i64 (y10 - 4)) then
                                  if (IntKind.wrap .i64 (y10 - 4)) < (alen : Int) then
                                    if (alo + (Int.toNat (IntKind.wrap .i64 (y10 - 4)))) < 24 then
                                      bif (decide ((IntKind.wrap .i64 (y10 - 4)) ≥ 2)) then
                                        if 0 ≤ (IntKind.wrap .u32 ((IntKind.wrap .u32 ((Int.tmod (IntKind.wrap .u32 (Int.tdiv (IntKind.wrap .u32 y9) 10000)) 100) * 2)) + 1)) then
                                          ((strBytes str3)[(Int.toNat (IntKind.wrap .u32 ((IntKind.wrap .u32 ((Int.tmod (IntKind.wrap .u32 (Int.tdiv (IntKind.wrap .u32 y9) 10000)) 100) * 2)) + 1)))]?).bind fun y16 =>
                                          if 0 ≤ (IntKind.wrap .u32 ((Int.tmod (IntKind.wrap .u32 (Int.tdiv (IntKind.wrap .u32 y9) 10000)) 100) * 2)) then
                                            ((strBytes str3)[(Int.toNat (IntKind.wrap .u32 ((Int.tmod (IntKind.wrap .u32 (Int.tdiv (IntKind.wrap .u32 y9) 10000)) 100) * 2)))]?).bind fun y17 =>
                                            if 0 ≤ (IntKind.wrap .i64 ((IntKind.wrap .i64 (y10 - 4)) - 1)) then
                                              if (IntKind.wrap .i64 ((IntKind.wrap .i64 (y10 - 4)) - 1)) < (alen : Int) then
                                                if (alo + (Int.toNat (IntKind.wrap .i64 ((IntKind.wrap .i64 (y10 - 4)) - 1)))) < 24 then
                                                  if 0 ≤ (IntKind.wrap .i64 ((IntKind.wrap .i64 (y10 - 4)) - 2)) then
                                                    if (IntKind.wrap .i64 ((IntKind.wrap .i64 (y10 - 4)) - 2)) < (alen : Int) then
                                                      if (alo + (Int.toNat (IntKind.wrap .i64 ((IntKind.wrap .i64 (y10 - 4)) - 2)))) < 24 then
                                                        bif (decide ((IntKind.wrap .i64 ((IntKind.wrap .i64 (y10 - 4)) - 2)) > 0)) then
                                                          if 0 < (alen : Int) then
                                                            if (alo + 0) < 24 then
                                                              k (((((((y11.set (alo + (Int.toNat (IntKind.wrap .i64 (y10 - 1)))) y12).set (alo + (Int.toNat (IntKind.wrap .i64 (y10 - 2)))) y13).set (alo + (Int.toNat (IntKind.wrap .i64 (y10 - 3)))) y14).set (alo + (Int.toNat (IntKind.wrap .i64 (y10 - 4)))) y15).set (alo + (Int.toNat (IntKind.wrap .i64 ((IntKind.wrap .i64 (y10 - 4)) - 1)))) y16).set (alo + (Int.toNat (IntKind.wrap .i64 ((IntKind.wrap .i64 (y10 - 4)) - 2)))) y17).set (alo + 0) (IntKind.wrap .u8 (IntKind.wrap .u32 (48 + (IntKind.wrap .u32 (Int.tdiv (IntKind.wrap .u32 (Int.tdiv (IntKind.wrap .u32 y9) 10000)) 100))))))
                                                            else none
                                                          else none
                                                        else
                                                          k ((((((y11.set (alo + (Int.toNat (IntKind.wrap .i64 (y10 - 1)))) y12).set (alo + (Int.toNat (IntKind.wrap .i64 (y10 - 2)))) y13).set (alo + (Int.toNat (IntKind.wrap .i64 (y10 - 3)))) y14).set (alo + (Int.toNat (IntKind.wrap .i64 (y10 - 4)))) y15).set (alo + (Int.toNat (IntKind.wrap .i64 ((IntKind.wrap .i64 (y10 - 4)) - 1)))) y16).set (alo + (Int.toNat (IntKind.wrap .i64 ((IntKind.wrap .i64 (y10 - 4)) - 2)))) y17)
                                                      else none
                                                    else none
                                                  else none
                                                else none
                                              else none
                                            else none
                                          else none
                                        else none
                                      else
                                        bif (decide ((IntKind.wrap .i64 (y10 - 4)) > 0)) then
                                          if 0 < (alen : Int) then
                                            if (alo + 0) < 24 then
                                              k (((((y11.set (alo + (Int.toNat (IntKind.wrap .i64 (y10 - 1)))) y12).set (alo + (Int.toNat (IntKind.wrap .i64 (y10 - 2)))) y13).set (alo + (Int.toNat (IntKind.wrap .i64 (y10 - 3)))) y14).set (alo + (Int.toNat (IntKind.wrap .i64 (y10 - 4)))) y15).set (alo + 0) (IntKind.wrap .u8 (IntKind.wrap .u32 (48 + (IntKind.wrap .u32 (Int.tdiv (IntKind.wrap .u32 y9) 10000))))))
                                            else none
                                          else none
                                        else
                                          k ((((y11.set (alo + (Int.toNat (IntKind.wrap .i64 (y10 - 1)))) y12).set (alo + (Int.toNat (IntKind.wrap .i64 (y10 - 2)))) y13).set (alo + (Int.toNat (IntKind.wrap .i64 (y10 - 3)))) y14).set (alo + (Int.toNat (IntKind.wrap .i64 (y10 - 4)))) y15)
                                    else none
                                  else none
                                else none
                              else none
                            else none
                          else none
                        else none
                      else none
                    else none
                  else none
                else none
              else none
            else none
          else none
        else none
      else none
    else
      bif (decide (y10 ≥ 2)) then
        if 0 ≤ (IntKind.wrap .u32 ((IntKind.wrap .u32 ((Int.tmod (IntKind.wrap .u32 y9) 100) * 2)) + 1)) then
          ((strBytes str3)[(Int.toNat (IntKind.wrap .u32 ((IntKind.wrap .u32 ((Int.tmod (IntKind.wrap .u32 y9) 100) * 2)) + 1)))]?).bind fun y18 =>
          if 0 ≤ (IntKind.wrap .u32 ((Int.tmod (IntKind.wrap .u32 y9) 100) * 2)) then
            ((strBytes str3)[(Int.toNat (IntKind.wrap .u32 ((Int.tmod (IntKind.wrap .u32 y9) 100) * 2)))]?).bind fun y19 =>
            if 0 ≤ (IntKind.wrap .i64 (y10 - 1)) then
              if (IntKind.wrap .i64 (y10 - 1)) < (alen : Int) then
                if (alo + (Int.toNat (IntKind.wrap .i64 (y10 - 1)))) < 24 then
                  if 0 ≤ (IntKind.wrap .i64 (y10 - 2)) then
                    if (IntKind.wrap .i64 (y10 - 2)) < (alen : Int) then
                      if (alo + (Int.toNat (IntKind.wrap .i64 (y10 - 2)))) < 24 then
                        bif (decide ((IntKind.wrap .i64 (y10 - 2)) > 0)) then
                          if 0 < (alen : Int) then
                            if (alo + 0) < 24 then
                              k (((y11.set (alo + (Int.toNat (IntKind.wrap .i64 (y10 - 1)))) y18).set (alo + (Int.toNat (IntKind.wrap .i64 (y10 - 2)))) y19).set (alo + 0) (IntKind.wrap .u8 (IntKind.wrap .u32 (48 + (IntKind.wrap .u32 (Int.tdiv (IntKind.wrap .u32 y9) 100))))))
                            else none
                          else none
                        else
                          k ((y11.set (alo + (Int.toNat (IntKind.wrap .i64 (y10 - 1)))) y18).set (alo + (Int.toNat (IntKind.wrap .i64 (y10 - 2)))) y19)
                      else none
                    else none
                  else none
                else none
              else none
            else none
          else none
        else none
      else
        bif (decide (y10 > 0)) then
          if 0 < (alen : Int) then
            if (alo + 0) < 24 then
              k (y11.set (alo + 0) (IntKind.wrap .u8 (IntKind.wrap .u32 (48 + (IntKind.wrap .u32 y9)))))
            else none
          else none
        else
          k y11) n u (alen : Int) a

def fmt10_k (n : Nat) (alo : Nat) (alen : Nat) (u : Int) (a : (List Int)) (k : (List Int) → Option A) : Option A := fmt10_p n alo alen u a k

noncomputable def fmt10_c0 : Code := codeAt [1, 0, 0, 0] (bodyOf Tryd.f54)
def fmt10_d0 : List Nat := [5, 6, 7, 8, 9, 10, 11, 17, 18, 19, 20, 21, 22, 23, 24, 25, 26, 27, 28, 29, 30, 31, 32, 33, 34, 35, 36, 37, 38, 39, 40, 41, 42, 43, 44, 45, 46, 47, 48, 49, 50, 51, 52, 53, 54, 55, 56, 57, 58, 59, 60, 61, 62, 63, 64, 65, 66, 67, 68, 69, 70, 71, 72, 73, 74, 75, 76, 77, 78, 79, 80, 81, 82, 83, 84, 85, 86, 87, 88, 89, 90, 91, 92, 93, 94, 95]
def fmt10_y0 : List Nat := [2, 3, 5, 6, 7, 8, 9, 10, 11, 12, 13, 14, 15, 16, 17, 18, 19, 20, 21, 22, 23, 24, 25, 26, 27, 28, 29, 30, 31, 32, 33, 34, 35, 36, 37, 38, 39, 40, 41, 42, 43, 44, 45, 46, 47, 48, 49, 50, 51, 52, 53, 54, 55, 56, 57, 58, 59, 60, 61, 62, 63, 64, 65, 66, 67, 68, 69, 70, 71, 72, 73, 74, 75, 76, 77, 78, 79, 80, 81, 82, 83, 84, 85, 86, 87, 88, 89, 90, 91, 92, 93, 94, 95, 96, 97, 98, 99, 100, 101, 102, 103, 104, 105, 106, 107, 108, 109, 110, 111, 112, 113, 114, 115, 116, 117, 118, 119, 120, 121, 122, 123, 124, 125, 126, 127, 128, 129, 130, 131, 132, 133, 134, 135, 136, 137, 138, 139, 140, 141, 142, 143, 144, 145, 146, 147, 148, 149, 150, 151, 152, 153, 154, 155, 156, 157, 158, 159, 160, 161, 162, 163, 164, 165, 166]
def fmt10_sh0 : Shape := ⟨[(.slc 0), (.p (.int .u64)), .any, .any, (.p (.int .i64)), .any, .any, .any, .any, .any, .any, .any, .any, .any, .any, .any, .any, .any, .any, .any, .any, .any, .any, .any, .any, .any, .any, .any, .any, .any, .any, .any, .any, .any, .any, .any, .any, .any, .any, .any, .any, .any, .any, .any, .any, .any, .any, .any, .any, .any, .any, .any, .any, .any, .any, .any, .any, .any, .any, .any, .any, .any, .any, .any, .any, .any, .any, .any, .any, .any, .any, .any, .any, .any, .any, .any, .any, .any, .any, .any, .any, .any, .any, .any, .any, .any, .any, .any, .any, .any, .any, .any, .any, .any, .any, .any, .any, .any, .any, .any, .any, .any, .any, .any, .any, .any, .any, .any, .any, .any, .any, .any, .any, .any, .any, .any, .any, .any, .any, .any, .any, .any, .any, .any, .any, .any, .any, .any, .any, .any, .any, .any, .any, .any, .any, .any, .any, .any, .any, .any, .any, .any, .any, .any, .any, .any, .any, .any, .any, .any, .any, .any, .any, .any, .any, .any, .any, .any, .any, .any, .any, .any, .any, .any, .any, .any, .any], [(.var 76 kA24u8 (.p kA24u8))], 1⟩
def fmt10_t0 (alo : Nat) (alen : Nat) (u : Int) (nd : Int) (a : (List Int)) : fmt10_sh0.den := (((alo, alen), u, (), (), nd, (), (), (), (), (), (), (), (), (), (), (), (), (), (), (), (), (), (), (), (), (), (), (), (), (), (), (), (), (), (), (), (), (), (), (), (), (), (), (), (), (), (), (), (), (), (), (), (), (), (), (), (), (), (), (), (), (), (), (), (), (), (), (), (), (), (), (), (), (), (), (), (), (), (), (), (), (), (), (), (), (), (), (), (), (), (), (), (), (), (), (), (), (), (), (), (), (), (), (), (), (), (), (), (), (), (), (), (), (), (), (), (), (), (), (), (), (), (), (), (), (), (), (), (), (), (), (), (), (), (), (), (), (), (), (), (), (), (), (), (), (), (), (), (), (), (), (), (), (), (), (), (), (), (), (), (), (), (), (), (), (), (), ()), (a, ()))
def fmt10_x0_0 (alo : Nat) (alen : Nat) (z2 : Int) (z3 : Int) (z4 : (List Int)) : St := ⟨[.slc 0 [] alo alen, .p (.int .u64) z2, .any, .any, .p (.int .i64) z3, .any, .any, .any, .any, .any, .any, .any, .any, .any, .any, .any, .any, .any, .any, .any, .any, .any, .any, .any, .any, .any, .any, .any, .any, .any, .any, .any, .any, .any, .any, .any, .any, .any, .any, .any, .any, .any, .any, .any, .any, .any, .any, .any, .any, .any, .any, .any, .any, .any, .any, .any, .any, .any, .any, .any, .any, .any, .any, .any, .any, .any, .any, .any, .any, .any, .any, .any, .any, .any, .any, .any, .any, .any, .any, .any, .any, .any, .any, .any, .any, .any, .any, .any, .any, .any, .any, .any, .any, .any, .any, .any, .any, .any, .any, .any, .any, .any, .any, .any, .any, .any, .any, .any, .any, .any, .any, .any, .any, .any, .any, .any, .any, .any, .any, .any, .any, .any, .any, .any, .any, .any, .any, .any, .any, .any, .any, .any, .any, .any, .any, .any, .any, .any, .any, .any, .any, .any, .any, .any, .any, .any, .any, .any, .any, .any, .any, .any, .any, .any, .any, .any, .any, .any, .any, .any, .any, .any, .any, .any, .any, .any, .any], [.var 76 kA24u8 (.p kA24u8 z4)], 1⟩
def fmt10_g0 (n : Nat) (d : fmt10_sh0.den) (k : Ex → St → Option A) : Option A :=
  fmt10_l0 n d.1.1.1 d.1.1.2 (fun z2 z3 z4 => k (.exit 0) (fmt10_x0_0 d.1.1.1 d.1.1.2 z2 z3 z4)) n d.1.2.1 d.1.2.2.2.2.1 d.2.1
noncomputable def fmt10_E (n : Nat) : Env A := ⟨tys, gls, [], [(0, loopE fmt10_d0 fmt10_sh0 (fmt10_g0 n))], []⟩
theorem fmt10_T {A : Type} (n : Nat) : TyOK Tryd.prog (fmt10_E (A := A) n) := tyOK_of rfl tysB
theorem fmt10_fns (n : Nat) : FnsOK Tryd.prog (fmt10_E (A := A) n) := AllOK.env rfl rfl AllOK.nil
noncomputable def fmt10_LK0 (n : Nat) (alo : Nat) (alen : Nat) (k : Ex → St → Option A) (f : Nat) (u : Int) (nd : Int) (a : (List Int)) : Option A := loopK (codeK (fmt10_E n) 1 fmt10_c0) fmt10_d0 fmt10_y0 f (fmt10_sh0.fill (fmt10_t0 alo alen u nd a)) k
theorem fmt10_st0 (n f : Nat) (alo : Nat) (alen : Nat) (k : Ex → St → Option A) (u : Int) (nd : Int) (a : (List Int)) : fmt10_LK0 n alo alen k (f + 1) u nd a = fmt10_b0 n alo alen (fun z2 z3 z4 => k (.exit 0) (fmt10_x0_0 alo alen z2 z3 z4)) (fmt10_LK0 n alo alen k f) u nd a := by kernel_rfl
theorem fmt10_le0 (n : Nat) (alo : Nat) (alen : Nat) (k : Ex → St → Option A) : ∀ (f : Nat) (u : Int) (nd : Int) (a : (List Int)), fmt10_LK0 n alo alen k f u nd a = fmt10_l0 n alo alen (fun z2 z3 z4 => k (.exit 0) (fmt10_x0_0 alo alen z2 z3 z4)) f u nd a := by
  intro f
  induction f with
  | zero => intros; kernel_rfl
  | succ f ih => intro u nd a; exact (fmt10_st0 n f alo alen k u nd a).trans ((congrArg (fun r => fmt10_b0 n alo alen (fun z2 z3 z4 => k (.exit 0) (fmt10_x0_0 alo alen z2 z3 z4)) r u nd a) (funext fun u => funext fun nd => funext fun a => ih u nd a)).trans (by kernel_rfl))
theorem fmt10_lo0 (n : Nat) : LoopOK Tryd.prog gls fmt10_c0 (loopE fmt10_d0 fmt10_sh0 (fmt10_g0 (A := A) n)) :=
  LoopOK.of (fmt10_T n) (fmt10_fns n) follows (j := 1) (n := n) (xdead := fmt10_y0) (lo_of (by kernel_rfl : loopsOf 1 fmt10_c0 = []) lo_nil) fun d k => Eq.trans (by kernel_rfl) (fmt10_le0 n d.1.1.1 d.1.1.2 k n d.1.2.1 d.1.2.2.2.2.1 d.2.1)
theorem fmt10_eqg (n : Nat) (alo : Nat) (alen : Nat) (u : Int) (a : (List Int)) (k : AV → List Blk → Option A) : fnK (fmt10_E n) Tryd.f54 [] [.slc 0 [] alo alen, .p (.int .u64) u] [.var 76 kA24u8 (.p kA24u8 a)] k = fmt10_p n alo alen u a (fun r0 => k (.tup []) [.var 76 kA24u8 (.p kA24u8 r0)]) := by kernel_rfl
theorem fmt10_eq (n : Nat) (alo : Nat) (alen : Nat) (u : Int) (a : (List Int)) (k : AV → List Blk → Option A) : fnK (fmt10_E n) Tryd.f54 [] [.slc 0 [] alo alen, .p (.int .u64) u] [.var 76 kA24u8 (.p kA24u8 a)] k = fmt10_k n alo alen u a (fun r0 => k (.tup []) [.var 76 kA24u8 (.p kA24u8 r0)]) := fmt10_eqg n alo alen u a k
def fmt10_sh : Shape := ⟨[(.slc 0), (.p (.int .u64))], [(.var 76 kA24u8 (.p kA24u8))], 1⟩
def fmt10_ent (g : Nat → Nat → Int → (List Int) → ((List Int) → Option A) → Option A) : Entry A := ownE [true, false] fmt10_sh fun d k => g d.1.1.1 d.1.1.2 d.1.2.1 d.2.1 (fun r0 => k (.tup []) [.var 76 kA24u8 (.p kA24u8 r0)])
theorem fmt10_lo (n : Nat) : ∀ c, Tryd.f54.body = some c → ∀ q ∈ loopsOf 0 c, ∀ L, (fmt10_E (A := A) n).lps.lookup q.1 = some L → LoopOK Tryd.prog gls q.2 L :=
  lo_body (E := fmt10_E n) (by kernel_rfl : Tryd.f54.body = some (bodyOf Tryd.f54)) (lo_of (E := fmt10_E n) (by kernel_rfl : loopsOf 0 (bodyOf Tryd.f54) = [(0, fmt10_c0)]) (lo_cons rfl (fmt10_lo0 n) lo_nil))
theorem fmt10_ok (n : Nat) : FnOK Tryd.prog gls 54 (fmt10_ent (A := A) (fmt10_k n)) :=
  FnOK.ofOwn (fmt10_T n) (fmt10_fns n) follows ⟨Tryd.func54, by kernel_rfl⟩ (fmt10_lo n) (rm := []) (S := fmt10_sh) fun d k => Eq.trans (by kernel_rfl) (fmt10_eq n d.1.1.1 d.1.1.2 d.1.2.1 d.2.1 k)

end Go.Ev
end

section
/-
  FUNCTION 51: printed by a program of our own (wip/gen/st.py). 'internal/strconv.FormatUint', in continuation form; the evaluator gives it.
-/
set_option linter.all false
set_option maxRecDepth 100000
namespace Go.Ev
open Go.Proofs
variable {A : Type}

-- ============================================================ ifmt (function 51)
def ifmt_p (g_small : Int → (ByteArray → Option A) → Option A) (g_numdig : Int → (Int → Option A) → Option A) (g_fmt10 : Nat → Nat → Int → (List Int) → ((List Int) → Option A) → Option A) (n : Nat) (a0 : Int) (a1 : Int) (k : ByteArray → Option A) : Option A :=
  bif (a1 == 10) then
    bif (decide (a0 < 100)) then
      g_small (IntKind.wrap .i64 a0) fun r1 =>
      k r1
    else
      g_numdig a0 fun r2 =>
      if 0 ≤ r2 then
        if r2 ≤ 24 then
          g_fmt10 0 ((Int.toNat r2) - 0) a0 (List.replicate 24 (0 : Int)) fun r3 =>
          if 0 ≤ r2 then
            if r2 ≤ 24 then
              k (mkStr ((r3.drop 0).take ((Int.toNat r2) - 0)))
            else none
          else none
        else none
      else none
  else
    none

def ifmt_k (n : Nat) (a0 : Int) (a1 : Int) (k : ByteArray → Option A) : Option A := ifmt_p (small_k n) (numdig_k n) (fmt10_k n) n a0 a1 k

noncomputable def ifmt_E (g_small : Int → (ByteArray → Option A) → Option A) (g_numdig : Int → (Int → Option A) → Option A) (g_fmt10 : Nat → Nat → Int → (List Int) → ((List Int) → Option A) → Option A) (n : Nat) : Env A := ⟨tys, gls, [(52, small_ent g_small), (53, numdig_ent g_numdig), (54, fmt10_ent g_fmt10)], [], []⟩
theorem ifmt_T (g_small : Int → (ByteArray → Option A) → Option A) (g_numdig : Int → (Int → Option A) → Option A) (g_fmt10 : Nat → Nat → Int → (List Int) → ((List Int) → Option A) → Option A) (n : Nat) : TyOK Tryd.prog (ifmt_E g_small g_numdig g_fmt10 n) := tyOK_of rfl tysB
theorem ifmt_fns (n : Nat) : FnsOK Tryd.prog (ifmt_E (A := A) (small_k n) (numdig_k n) (fmt10_k n) n) := AllOK.env rfl rfl (AllOK.cons (small_ok n) (AllOK.cons (numdig_ok n) (AllOK.cons (fmt10_ok n) AllOK.nil)))
theorem ifmt_eqg (g_small : Int → (ByteArray → Option A) → Option A) (g_numdig : Int → (Int → Option A) → Option A) (g_fmt10 : Nat → Nat → Int → (List Int) → ((List Int) → Option A) → Option A) (n : Nat) (a0 : Int) (a1 : Int) (k : AV → List Blk → Option A) : fnK (ifmt_E g_small g_numdig g_fmt10 n) Tryd.f51 [.pure] [.p (.int .u64) a0, .p (.int .i64) a1] [] k = ifmt_p g_small g_numdig g_fmt10 n a0 a1 (fun r0 => k (.p .str r0) []) := by kernel_rfl
theorem ifmt_eq (n : Nat) (a0 : Int) (a1 : Int) (k : AV → List Blk → Option A) : fnK (ifmt_E (small_k n) (numdig_k n) (fmt10_k n) n) Tryd.f51 [.pure] [.p (.int .u64) a0, .p (.int .i64) a1] [] k = ifmt_k n a0 a1 (fun r0 => k (.p .str r0) []) := ifmt_eqg (small_k n) (numdig_k n) (fmt10_k n) n a0 a1 k
def ifmt_ent (g : Int → Int → (ByteArray → Option A) → Option A) : Entry A := pureE fun args k => args2 args (.int .u64) (.int .i64) fun a0 a1 => g a0 a1 (fun r0 => k (.p .str r0) [])
theorem ifmt_lo (n : Nat) : ∀ c, Tryd.f51.body = some c → ∀ q ∈ loopsOf 0 c, ∀ L, (ifmt_E (A := A) (small_k n) (numdig_k n) (fmt10_k n) n).lps.lookup q.1 = some L → LoopOK Tryd.prog gls q.2 L :=
  lo_body (E := ifmt_E (small_k n) (numdig_k n) (fmt10_k n) n) (by kernel_rfl : Tryd.f51.body = some (bodyOf Tryd.f51)) (lo_of (E := ifmt_E (small_k n) (numdig_k n) (fmt10_k n) n) (by kernel_rfl : loopsOf 0 (bodyOf Tryd.f51) = []) lo_nil)
theorem ifmt_ok (n : Nat) : FnOK Tryd.prog gls 51 (ifmt_ent (A := A) (ifmt_k n)) :=
  FnOK.of (ifmt_T (small_k n) (numdig_k n) (fmt10_k n) n) (ifmt_fns n) follows ⟨Tryd.func51, by kernel_rfl⟩ (ifmt_lo n) (rm := [.pure]) fun args k out h => by
    obtain ⟨a0, a1, e, h1⟩ := args2_sound h
    subst e; rw [ifmt_eq]; exact h1

end Go.Ev
end

section
/-
  FUNCTION 42: printed by a program of our own (wip/gen/st.py). 'strconv.FormatUint', in continuation form; the evaluator gives it.
-/
set_option linter.all false
set_option maxRecDepth 100000
namespace Go.Ev
open Go.Proofs
variable {A : Type}

-- ============================================================ fmt (function 42)
def fmt_p (g_ifmt : Int → Int → (ByteArray → Option A) → Option A) (n : Nat) (a0 : Int) (a1 : Int) (k : ByteArray → Option A) : Option A :=
  g_ifmt a0 a1 fun r1 =>
  k r1

def fmt_k (n : Nat) (a0 : Int) (a1 : Int) (k : ByteArray → Option A) : Option A := fmt_p (ifmt_k n) n a0 a1 k

noncomputable def fmt_E (g_ifmt : Int → Int → (ByteArray → Option A) → Option A) (n : Nat) : Env A := ⟨tys, gls, [(51, ifmt_ent g_ifmt)], [], []⟩
theorem fmt_T (g_ifmt : Int → Int → (ByteArray → Option A) → Option A) (n : Nat) : TyOK Tryd.prog (fmt_E g_ifmt n) := tyOK_of rfl tysB
theorem fmt_fns (n : Nat) : FnsOK Tryd.prog (fmt_E (A := A) (ifmt_k n) n) := AllOK.env rfl rfl (AllOK.cons (ifmt_ok n) AllOK.nil)
theorem fmt_eqg (g_ifmt : Int → Int → (ByteArray → Option A) → Option A) (n : Nat) (a0 : Int) (a1 : Int) (k : AV → List Blk → Option A) : fnK (fmt_E g_ifmt n) Tryd.f42 [.pure] [.p (.int .u64) a0, .p (.int .i64) a1] [] k = fmt_p g_ifmt n a0 a1 (fun r0 => k (.p .str r0) []) := by kernel_rfl
theorem fmt_eq (n : Nat) (a0 : Int) (a1 : Int) (k : AV → List Blk → Option A) : fnK (fmt_E (ifmt_k n) n) Tryd.f42 [.pure] [.p (.int .u64) a0, .p (.int .i64) a1] [] k = fmt_k n a0 a1 (fun r0 => k (.p .str r0) []) := fmt_eqg (ifmt_k n) n a0 a1 k
def fmt_ent (g : Int → Int → (ByteArray → Option A) → Option A) : Entry A := pureE fun args k => args2 args (.int .u64) (.int .i64) fun a0 a1 => g a0 a1 (fun r0 => k (.p .str r0) [])
theorem fmt_lo (n : Nat) : ∀ c, Tryd.f42.body = some c → ∀ q ∈ loopsOf 0 c, ∀ L, (fmt_E (A := A) (ifmt_k n) n).lps.lookup q.1 = some L → LoopOK Tryd.prog gls q.2 L :=
  lo_body (E := fmt_E (ifmt_k n) n) (by kernel_rfl : Tryd.f42.body = some (bodyOf Tryd.f42)) (lo_of (E := fmt_E (ifmt_k n) n) (by kernel_rfl : loopsOf 0 (bodyOf Tryd.f42) = []) lo_nil)
theorem fmt_ok (n : Nat) : FnOK Tryd.prog gls 42 (fmt_ent (A := A) (fmt_k n)) :=
  FnOK.of (fmt_T (ifmt_k n) n) (fmt_fns n) follows ⟨Tryd.func42, by kernel_rfl⟩ (fmt_lo n) (rm := [.pure]) fun args k out h => by
    obtain ⟨a0, a1, e, h1⟩ := args2_sound h
    subst e; rw [fmt_eq]; exact h1

end Go.Ev
end

section
/-
  FUNCTION 43: printed by a program of our own (wip/gen/st.py). 'slices.Reverse[[]string,string]', in continuation form; the evaluator gives it.
-/
set_option linter.all false
set_option maxRecDepth 100000
namespace Go.Ev
open Go.Proofs
variable {A : Type}

-- ============================================================ reverse (function 43)
def reverse_b0 (n : Nat) (k0 : (List ByteArray) → Option A) (r : Int → Int → (List ByteArray) → Option A) (i : Int) (j : Int) (s : (List ByteArray)) : Option A :=
  bif (decide (i < j)) then
    if 0 ≤ j then
      if j < (s.length : Int) then
        (s[(Int.toNat j)]?).bind fun y1 =>
        if 0 ≤ i then
          if i < (s.length : Int) then
            (s[(Int.toNat i)]?).bind fun y2 =>
            if 0 ≤ i then
              if i < (s.length : Int) then
                if (Int.toNat i) < s.length then
                  if 0 ≤ j then
                    if j < ((s.set (Int.toNat i) y1).length : Int) then
                      if (Int.toNat j) < (s.set (Int.toNat i) y1).length then
                        r (IntKind.wrap .i64 (i + 1)) (IntKind.wrap .i64 (j - 1)) ((s.set (Int.toNat i) y1).set (Int.toNat j) y2)
                      else none
                    else none
                  else none
                else none
              else none
            else none
          else none
        else none
      else none
    else none
  else
    k0 s

def reverse_l0 (n : Nat) (k0 : (List ByteArray) → Option A) : Nat → Int → Int → (List ByteArray) → Option A
  | 0 => fun _ _ _ => none
  | f + 1 => reverse_b0 n k0 (reverse_l0 n k0 f)

def reverse_p (n : Nat) (s : (List ByteArray)) (k : (List ByteArray) → Option A) : Option A :=
  reverse_l0 n (fun y3 =>
    k y3) n 0 (IntKind.wrap .i64 ((s.length : Int) - 1)) s

def reverse_k (n : Nat) (s : (List ByteArray)) (k : (List ByteArray) → Option A) : Option A := reverse_p n s k

noncomputable def reverse_c0 : Code := codeAt [1, 0, 0] (bodyOf Tryd.f43)
def reverse_d0 : List Nat := [4, 5, 6, 7, 8, 9, 10, 11, 12, 13, 14, 15, 16, 17, 18, 19, 20, 21, 22, 23, 24, 25, 26, 27]
def reverse_y0 : List Nat := [0, 1, 2, 3, 4, 5, 6, 7, 8, 9, 10, 11, 12, 13, 14, 15, 16, 17, 18, 19, 20, 21, 22, 23, 24, 25, 26, 27]
def reverse_sh0 : Shape := ⟨[(.row 0), .any, (.p (.int .i64)), (.p (.int .i64)), .any, .any, .any, .any, .any, .any, .any, .any, .any, .any, .any, .any, .any, .any, .any, .any, .any, .any, .any, .any, .any, .any, .any, .any], [(.row 9 .str)], 1⟩
def reverse_t0 (i : Int) (j : Int) (s : (List ByteArray)) : reverse_sh0.den := (((), (), i, j, (), (), (), (), (), (), (), (), (), (), (), (), (), (), (), (), (), (), (), (), (), (), (), (), ()), (s, ()))
def reverse_x0_0 (z0 : (List ByteArray)) : St := ⟨[.any, .any, .any, .any, .any, .any, .any, .any, .any, .any, .any, .any, .any, .any, .any, .any, .any, .any, .any, .any, .any, .any, .any, .any, .any, .any, .any, .any], [.row 9 .str z0], 1⟩
def reverse_g0 (n : Nat) (d : reverse_sh0.den) (k : Ex → St → Option A) : Option A :=
  reverse_l0 n (fun z0 => k (.exit 0) (reverse_x0_0 z0)) n d.1.2.2.1 d.1.2.2.2.1 d.2.1
noncomputable def reverse_E (n : Nat) : Env A := ⟨tys, gls, [], [(0, loopE reverse_d0 reverse_sh0 (reverse_g0 n))], []⟩
theorem reverse_T {A : Type} (n : Nat) : TyOK Tryd.prog (reverse_E (A := A) n) := tyOK_of rfl tysB
theorem reverse_fns (n : Nat) : FnsOK Tryd.prog (reverse_E (A := A) n) := AllOK.env rfl rfl AllOK.nil
noncomputable def reverse_LK0 (n : Nat) (k : Ex → St → Option A) (f : Nat) (i : Int) (j : Int) (s : (List ByteArray)) : Option A := loopK (codeK (reverse_E n) 1 reverse_c0) reverse_d0 reverse_y0 f (reverse_sh0.fill (reverse_t0 i j s)) k
theorem reverse_st0 (n f : Nat) (k : Ex → St → Option A) (i : Int) (j : Int) (s : (List ByteArray)) : reverse_LK0 n k (f + 1) i j s = reverse_b0 n (fun z0 => k (.exit 0) (reverse_x0_0 z0)) (reverse_LK0 n k f) i j s := by kernel_rfl
theorem reverse_le0 (n : Nat) (k : Ex → St → Option A) : ∀ (f : Nat) (i : Int) (j : Int) (s : (List ByteArray)), reverse_LK0 n k f i j s = reverse_l0 n (fun z0 => k (.exit 0) (reverse_x0_0 z0)) f i j s := by
  intro f
  induction f with
  | zero => intros; kernel_rfl
  | succ f ih => intro i j s; exact (reverse_st0 n f k i j s).trans ((congrArg (fun r => reverse_b0 n (fun z0 => k (.exit 0) (reverse_x0_0 z0)) r i j s) (funext fun i => funext fun j => funext fun s => ih i j s)).trans (by kernel_rfl))
theorem reverse_lo0 (n : Nat) : LoopOK Tryd.prog gls reverse_c0 (loopE reverse_d0 reverse_sh0 (reverse_g0 (A := A) n)) :=
  LoopOK.of (reverse_T n) (reverse_fns n) follows (j := 1) (n := n) (xdead := reverse_y0) (lo_of (by kernel_rfl : loopsOf 1 reverse_c0 = []) lo_nil) fun d k => Eq.trans (by kernel_rfl) (reverse_le0 n k n d.1.2.2.1 d.1.2.2.2.1 d.2.1)
theorem reverse_eqg (n : Nat) (s : (List ByteArray)) (k : AV → List Blk → Option A) : fnK (reverse_E n) Tryd.f43 [] [.row 0] [.row 9 .str s] k = reverse_p n s (fun r0 => k (.tup []) [.row 9 .str r0]) := by kernel_rfl
theorem reverse_eq (n : Nat) (s : (List ByteArray)) (k : AV → List Blk → Option A) : fnK (reverse_E n) Tryd.f43 [] [.row 0] [.row 9 .str s] k = reverse_k n s (fun r0 => k (.tup []) [.row 9 .str r0]) := reverse_eqg n s k
def reverse_sh : Shape := ⟨[(.row 0)], [(.row 9 .str)], 1⟩
def reverse_ent (g : (List ByteArray) → ((List ByteArray) → Option A) → Option A) : Entry A := ownE [true] reverse_sh fun d k => g d.2.1 (fun r0 => k (.tup []) [.row 9 .str r0])
theorem reverse_lo (n : Nat) : ∀ c, Tryd.f43.body = some c → ∀ q ∈ loopsOf 0 c, ∀ L, (reverse_E (A := A) n).lps.lookup q.1 = some L → LoopOK Tryd.prog gls q.2 L :=
  lo_body (E := reverse_E n) (by kernel_rfl : Tryd.f43.body = some (bodyOf Tryd.f43)) (lo_of (E := reverse_E n) (by kernel_rfl : loopsOf 0 (bodyOf Tryd.f43) = [(0, reverse_c0)]) (lo_cons rfl (reverse_lo0 n) lo_nil))
theorem reverse_ok (n : Nat) : FnOK Tryd.prog gls 43 (reverse_ent (A := A) (reverse_k n)) :=
  FnOK.ofOwn (reverse_T n) (reverse_fns n) follows ⟨Tryd.func43, by kernel_rfl⟩ (reverse_lo n) (rm := []) (S := reverse_sh) fun d k => Eq.trans (by kernel_rfl) (reverse_eq n d.2.1 k)

end Go.Ev
end

section
/-
  FUNCTION 17: printed by a program of our own (wip/gen/st.py). '(masthead/wide.U).Text', in continuation form; the evaluator gives it.
-/
set_option linter.all false
set_option maxRecDepth 100000
namespace Go.Ev
open Go.Proofs
variable {A : Type}

-- ============================================================ utext (function 17)
def utext_b2 (g_udiv : (List Int) → Int → ((List Int) → Int → Option A) → Option A) (g_fmt : Int → Int → (ByteArray → Option A) → Option A) (g_reverse : (List ByteArray) → ((List ByteArray) → Option A) → Option A) (n : Nat) (t41 : Int) (t40 : (List ByteArray)) (k0 : ByteArray → Option A) (r : ByteArray → Int → Option A) (out : ByteArray) (t42 : Int) : Option A :=
  bif (decide (t42 < t41)) then
    if 0 ≤ t42 then
      if t42 < (t40.length : Int) then
        (t40[(Int.toNat t42)]?).bind fun y7 =>
        if out.size + y7.size ≤ 9223372036854775807 then
          r (out ++ y7) (IntKind.wrap .i64 (t42 + 1))
        else none
      else none
    else none
  else
    k0 out

def utext_l2 (g_udiv : (List Int) → Int → ((List Int) → Int → Option A) → Option A) (g_fmt : Int → Int → (ByteArray → Option A) → Option A) (g_reverse : (List ByteArray) → ((List ByteArray) → Option A) → Option A) (n : Nat) (t41 : Int) (t40 : (List ByteArray)) (k0 : ByteArray → Option A) : Nat → ByteArray → Int → Option A
  | 0 => fun _ _ => none
  | f + 1 => utext_b2 g_udiv g_fmt g_reverse n t41 t40 k0 (utext_l2 g_udiv g_fmt g_reverse n t41 t40 k0 f)

def utext_b1 (g_udiv : (List Int) → Int → ((List Int) → Int → Option A) → Option A) (g_fmt : Int → Int → (ByteArray → Option A) → Option A) (g_reverse : (List ByteArray) → ((List ByteArray) → Option A) → Option A) (n : Nat) (a : (List Int)) (parts : (List ByteArray)) (rest_ : (List Int)) (k0 : ByteArray → Option A) (r : ByteArray → Option A) (s : ByteArray) : Option A :=
  bif (!(deq kA4u64 rest_ [0, 0, 0, 0])) then
    bif (decide ((s.size : Int) < 19)) then
      if str1.size + s.size ≤ 9223372036854775807 then
        r (str1 ++ s)
      else none
    else
      k0 s
  else
    k0 s

def utext_l1 (g_udiv : (List Int) → Int → ((List Int) → Int → Option A) → Option A) (g_fmt : Int → Int → (ByteArray → Option A) → Option A) (g_reverse : (List ByteArray) → ((List ByteArray) → Option A) → Option A) (n : Nat) (a : (List Int)) (parts : (List ByteArray)) (rest_ : (List Int)) (k0 : ByteArray → Option A) : Nat → ByteArray → Option A
  | 0 => fun _ => none
  | f + 1 => utext_b1 g_udiv g_fmt g_reverse n a parts rest_ k0 (utext_l1 g_udiv g_fmt g_reverse n a parts rest_ k0 f)

def utext_b0 (g_udiv : (List Int) → Int → ((List Int) → Int → Option A) → Option A) (g_fmt : Int → Int → (ByteArray → Option A) → Option A) (g_reverse : (List ByteArray) → ((List ByteArray) → Option A) → Option A) (n : Nat) (k0 : (List ByteArray) → Option A) (r : (List Int) → (List ByteArray) → Option A) (a : (List Int)) (parts : (List ByteArray)) : Option A :=
  bif (!(deq kA4u64 a [0, 0, 0, 0])) then
    g_udiv a 10000000000000000000 fun r1 r2 =>
    g_fmt r2 10 fun r3 =>
    utext_l1 g_udiv g_fmt g_reverse n a parts r1 (fun y4 =>
      if (parts.length + 1) * 16 ≤ 140737488355328 then
        r r1 (parts ++ [y4])
      else none) n r3
  else
    k0 parts

def utext_l0 (g_udiv : (List Int) → Int → ((List Int) → Int → Option A) → Option A) (g_fmt : Int → Int → (ByteArray → Option A) → Option A) (g_reverse : (List ByteArray) → ((List ByteArray) → Option A) → Option A) (n : Nat) (k0 : (List ByteArray) → Option A) : Nat → (List Int) → (List ByteArray) → Option A
  | 0 => fun _ _ => none
  | f + 1 => utext_b0 g_udiv g_fmt g_reverse n k0 (utext_l0 g_udiv g_fmt g_reverse n k0 f)

def utext_p (g_udiv : (List Int) → Int → ((List Int) → Int → Option A) → Option A) (g_fmt : Int → Int → (ByteArray → Option A) → Option A) (g_reverse : (List ByteArray) → ((List ByteArray) → Option A) → Option A) (n : Nat) (a0 : (List Int)) (k : ByteArray → Option A) : Option A :=
  utext_l0 g_udiv g_fmt g_reverse n (fun y5 =>
    bif ((y5.length : Int) == 0) then
      k str1
    else
      g_reverse y5 fun r6 =>
      utext_l2 g_udiv g_fmt g_reverse n (r6.length : Int) r6 (fun y8 =>
        k y8) n ByteArray.empty 0) n a0 []

def utext_k (n : Nat) (a0 : (List Int)) (k : ByteArray → Option A) : Option A := utext_p (udiv_k n) (fmt_k n) (reverse_k n) n a0 k

noncomputable def utext_c0 : Code := codeAt [1, 1, 0, 0, 0] (bodyOf Tryd.f17)
def utext_d0 : List Nat := [0, 2, 4, 5, 6, 10, 11, 12, 13, 14, 15, 16, 17, 18, 19, 20, 21, 22, 23, 24, 25, 26, 27, 28, 29, 30, 31, 32, 33, 34]
def utext_y0 : List Nat := [0, 1, 2, 4, 5, 6, 7, 8, 9, 10, 11, 12, 13, 14, 15, 16, 17, 18, 19, 20, 21, 22, 23, 24, 25, 26, 27, 28, 29, 30, 31, 32, 33, 34, 35, 36, 37, 38, 39, 40, 41, 42, 43, 44, 45, 46, 47, 48, 49, 50]
def utext_sh0 : Shape := ⟨[.any, (.ptr 0), .any, (.row 1), .any, .any, .any, .any, .any, .any, .any, .any, .any, .any, .any, .any, .any, .any, .any, .any, .any, .any, .any, .any, .any, .any, .any, .any, .any, .any, .any, .any, .any, .any, .any, .any, .any, .any, .any, .any, .any, .any, .any, .any, .any, .any, .any, .any, .any, .any, .any], [(.var 24 kA4u64 (.p kA4u64)), (.row 9 .str)], 0⟩
def utext_t0 (a : (List Int)) (parts : (List ByteArray)) : utext_sh0.den := (((), (), (), (), (), (), (), (), (), (), (), (), (), (), (), (), (), (), (), (), (), (), (), (), (), (), (), (), (), (), (), (), (), (), (), (), (), (), (), (), (), (), (), (), (), (), (), (), (), (), (), ()), (a, parts, ()))
def utext_x0_0 (z0 : (List ByteArray)) : St := ⟨[.any, .any, .any, .row 0, .any, .any, .any, .any, .any, .any, .any, .any, .any, .any, .any, .any, .any, .any, .any, .any, .any, .any, .any, .any, .any, .any, .any, .any, .any, .any, .any, .any, .any, .any, .any, .any, .any, .any, .any, .any, .any, .any, .any, .any, .any, .any, .any, .any, .any, .any, .any], [.row 9 .str z0], 0⟩
def utext_g0 (g_udiv : (List Int) → Int → ((List Int) → Int → Option A) → Option A) (g_fmt : Int → Int → (ByteArray → Option A) → Option A) (g_reverse : (List ByteArray) → ((List ByteArray) → Option A) → Option A) (n : Nat) (d : utext_sh0.den) (k : Ex → St → Option A) : Option A :=
  utext_l0 g_udiv g_fmt g_reverse n (fun z0 => k (.exit 0) (utext_x0_0 z0)) n d.2.1 d.2.2.1
noncomputable def utext_c1 : Code := codeAt [1, 1, 0, 0, 0, 1, 0, 1, 1, 0, 0, 0] (bodyOf Tryd.f17)
def utext_d1 : List Nat := [5, 10, 11, 12, 13, 14, 15, 16, 17, 18, 19, 20, 21, 22, 23, 24, 25, 26, 27, 28, 29]
def utext_y1 : List Nat := [0, 2, 5, 7, 8, 9, 10, 11, 12, 13, 14, 15, 16, 17, 18, 19, 20, 21, 22, 23, 24, 25, 26, 27, 28, 29, 30, 31, 32, 33, 34, 35, 36, 37, 38, 39, 40, 41, 42, 43, 44, 45, 46, 47, 48, 49, 50]
def utext_sh1 : Shape := ⟨[.any, (.ptr 0), .any, (.row 1), (.ptr 2), .any, (.p .str), .any, .any, .any, .any, .any, .any, .any, .any, .any, .any, .any, .any, .any, .any, .any, .any, .any, .any, .any, .any, .any, .any, .any, .any, .any, .any, .any, .any, .any, .any, .any, .any, .any, .any, .any, .any, .any, .any, .any, .any, .any, .any, .any, .any], [(.var 24 kA4u64 (.p kA4u64)), (.row 9 .str), (.var 24 kA4u64 (.p kA4u64))], 0⟩
def utext_t1 (a : (List Int)) (parts : (List ByteArray)) (rest_ : (List Int)) (s : ByteArray) : utext_sh1.den := (((), (), (), (), (), (), s, (), (), (), (), (), (), (), (), (), (), (), (), (), (), (), (), (), (), (), (), (), (), (), (), (), (), (), (), (), (), (), (), (), (), (), (), (), (), (), (), (), (), (), (), ()), (a, parts, rest_, ()))
def utext_x1_0 (a : (List Int)) (parts : (List ByteArray)) (rest_ : (List Int)) (z0 : ByteArray) : St := ⟨[.any, .ptr 0 [], .any, .row 1, .ptr 2 [], .any, .p .str z0, .any, .any, .any, .any, .any, .any, .any, .any, .any, .any, .any, .any, .any, .any, .any, .any, .any, .any, .any, .any, .any, .any, .any, .any, .any, .any, .any, .any, .any, .any, .any, .any, .any, .any, .any, .any, .any, .any, .any, .any, .any, .any, .any, .any], [.var 24 kA4u64 (.p kA4u64 a), .row 9 .str parts, .var 24 kA4u64 (.p kA4u64 rest_)], 0⟩
def utext_g1 (g_udiv : (List Int) → Int → ((List Int) → Int → Option A) → Option A) (g_fmt : Int → Int → (ByteArray → Option A) → Option A) (g_reverse : (List ByteArray) → ((List ByteArray) → Option A) → Option A) (n : Nat) (d : utext_sh1.den) (k : Ex → St → Option A) : Option A :=
  utext_l1 g_udiv g_fmt g_reverse n d.2.1 d.2.2.1 d.2.2.2.1 (fun z0 => k (.exit 2) (utext_x1_0 d.2.1 d.2.2.1 d.2.2.2.1 z0)) n d.1.2.2.2.2.2.2.1
noncomputable def utext_c2 : Code := codeAt [1, 1, 1, 1, 1, 1, 0, 1, 0, 0] (bodyOf Tryd.f17)
def utext_d2 : List Nat := [3, 9, 35, 36, 37, 38, 39, 43, 44, 45, 46, 47, 48, 49]
def utext_y2 : List Nat := [0, 1, 2, 3, 4, 5, 6, 8, 9, 10, 11, 12, 13, 14, 15, 16, 17, 18, 19, 20, 21, 22, 23, 24, 25, 26, 27, 28, 29, 30, 31, 32, 33, 34, 35, 36, 37, 38, 39, 40, 41, 42, 43, 44, 45, 46, 47, 48, 49, 50]
def utext_sh2 : Shape := ⟨[.any, .any, .any, .any, .any, .any, .any, (.p .str), .any, .any, .any, .any, .any, .any, .any, .any, .any, .any, .any, .any, .any, .any, .any, .any, .any, .any, .any, .any, .any, .any, .any, .any, .any, .any, .any, .any, .any, .any, .any, .any, (.row 0), (.p (.int .i64)), (.p (.int .i64)), .any, .any, .any, .any, .any, .any, .any, .any], [(.row 9 .str)], 0⟩
def utext_t2 (t41 : Int) (t40 : (List ByteArray)) (out : ByteArray) (t42 : Int) : utext_sh2.den := (((), (), (), (), (), (), (), out, (), (), (), (), (), (), (), (), (), (), (), (), (), (), (), (), (), (), (), (), (), (), (), (), (), (), (), (), (), (), (), (), (), t41, t42, (), (), (), (), (), (), (), (), ()), (t40, ()))
def utext_x2_0 (t41 : Int) (t40 : (List ByteArray)) (z0 : ByteArray) : St := ⟨[.any, .any, .any, .any, .any, .any, .any, .p .str z0, .any, .any, .any, .any, .any, .any, .any, .any, .any, .any, .any, .any, .any, .any, .any, .any, .any, .any, .any, .any, .any, .any, .any, .any, .any, .any, .any, .any, .any, .any, .any, .any, .any, .any, .any, .any, .any, .any, .any, .any, .any, .any, .any], [], 0⟩
def utext_g2 (g_udiv : (List Int) → Int → ((List Int) → Int → Option A) → Option A) (g_fmt : Int → Int → (ByteArray → Option A) → Option A) (g_reverse : (List ByteArray) → ((List ByteArray) → Option A) → Option A) (n : Nat) (d : utext_sh2.den) (k : Ex → St → Option A) : Option A :=
  utext_l2 g_udiv g_fmt g_reverse n d.1.2.2.2.2.2.2.2.2.2.2.2.2.2.2.2.2.2.2.2.2.2.2.2.2.2.2.2.2.2.2.2.2.2.2.2.2.2.2.2.2.2.1 d.2.1 (fun z0 => k (.exit 4) (utext_x2_0 d.1.2.2.2.2.2.2.2.2.2.2.2.2.2.2.2.2.2.2.2.2.2.2.2.2.2.2.2.2.2.2.2.2.2.2.2.2.2.2.2.2.2.1 d.2.1 z0)) n d.1.2.2.2.2.2.2.2.1 d.1.2.2.2.2.2.2.2.2.2.2.2.2.2.2.2.2.2.2.2.2.2.2.2.2.2.2.2.2.2.2.2.2.2.2.2.2.2.2.2.2.2.2.1
noncomputable def utext_E (g_udiv : (List Int) → Int → ((List Int) → Int → Option A) → Option A) (g_fmt : Int → Int → (ByteArray → Option A) → Option A) (g_reverse : (List ByteArray) → ((List ByteArray) → Option A) → Option A) (n : Nat) : Env A := ⟨tys, gls, [(12, udiv_ent g_udiv), (42, fmt_ent g_fmt), (43, reverse_ent g_reverse)], [(0, loopE utext_d0 utext_sh0 (utext_g0 g_udiv g_fmt g_reverse n)), (1, loopE utext_d1 utext_sh1 (utext_g1 g_udiv g_fmt g_reverse n)), (2, loopE utext_d2 utext_sh2 (utext_g2 g_udiv g_fmt g_reverse n))], []⟩
theorem utext_T (g_udiv : (List Int) → Int → ((List Int) → Int → Option A) → Option A) (g_fmt : Int → Int → (ByteArray → Option A) → Option A) (g_reverse : (List ByteArray) → ((List ByteArray) → Option A) → Option A) (n : Nat) : TyOK Tryd.prog (utext_E g_udiv g_fmt g_reverse n) := tyOK_of rfl tysB
theorem utext_fns (n : Nat) : FnsOK Tryd.prog (utext_E (A := A) (udiv_k n) (fmt_k n) (reverse_k n) n) := AllOK.env rfl rfl (AllOK.cons (udiv_ok n) (AllOK.cons (fmt_ok n) (AllOK.cons (reverse_ok n) AllOK.nil)))
noncomputable def utext_LK2 (g_udiv : (List Int) → Int → ((List Int) → Int → Option A) → Option A) (g_fmt : Int → Int → (ByteArray → Option A) → Option A) (g_reverse : (List ByteArray) → ((List ByteArray) → Option A) → Option A) (n : Nat) (t41 : Int) (t40 : (List ByteArray)) (k : Ex → St → Option A) (f : Nat) (out : ByteArray) (t42 : Int) : Option A := loopK (codeK (utext_E g_udiv g_fmt g_reverse n) 3 utext_c2) utext_d2 utext_y2 f (utext_sh2.fill (utext_t2 t41 t40 out t42)) k
theorem utext_st2 (g_udiv : (List Int) → Int → ((List Int) → Int → Option A) → Option A) (g_fmt : Int → Int → (ByteArray → Option A) → Option A) (g_reverse : (List ByteArray) → ((List ByteArray) → Option A) → Option A) (n f : Nat) (t41 : Int) (t40 : (List ByteArray)) (k : Ex → St → Option A) (out : ByteArray) (t42 : Int) : utext_LK2 g_udiv g_fmt g_reverse n t41 t40 k (f + 1) out t42 = utext_b2 g_udiv g_fmt g_reverse n t41 t40 (fun z0 => k (.exit 4) (utext_x2_0 t41 t40 z0)) (utext_LK2 g_udiv g_fmt g_reverse n t41 t40 k f) out t42 := by kernel_rfl
theorem utext_le2 (g_udiv : (List Int) → Int → ((List Int) → Int → Option A) → Option A) (g_fmt : Int → Int → (ByteArray → Option A) → Option A) (g_reverse : (List ByteArray) → ((List ByteArray) → Option A) → Option A) (n : Nat) (t41 : Int) (t40 : (List ByteArray)) (k : Ex → St → Option A) : ∀ (f : Nat) (out : ByteArray) (t42 : Int), utext_LK2 g_udiv g_fmt g_reverse n t41 t40 k f out t42 = utext_l2 g_udiv g_fmt g_reverse n t41 t40 (fun z0 => k (.exit 4) (utext_x2_0 t41 t40 z0)) f out t42 := by
  intro f
  induction f with
  | zero => intros; kernel_rfl
  | succ f ih => intro out t42; exact (utext_st2 g_udiv g_fmt g_reverse n f t41 t40 k out t42).trans ((congrArg (fun r => utext_b2 g_udiv g_fmt g_reverse n t41 t40 (fun z0 => k (.exit 4) (utext_x2_0 t41 t40 z0)) r out t42) (funext fun out => funext fun t42 => ih out t42)).trans (by kernel_rfl))
theorem utext_lo2 (n : Nat) : LoopOK Tryd.prog gls utext_c2 (loopE utext_d2 utext_sh2 (utext_g2 (A := A) (udiv_k n) (fmt_k n) (reverse_k n) n)) :=
  LoopOK.of (utext_T (udiv_k n) (fmt_k n) (reverse_k n) n) (utext_fns n) follows (j := 3) (n := n) (xdead := utext_y2) (lo_of (by kernel_rfl : loopsOf 3 utext_c2 = []) lo_nil) fun d k => Eq.trans (by kernel_rfl) (utext_le2 (udiv_k n) (fmt_k n) (reverse_k n) n d.1.2.2.2.2.2.2.2.2.2.2.2.2.2.2.2.2.2.2.2.2.2.2.2.2.2.2.2.2.2.2.2.2.2.2.2.2.2.2.2.2.2.1 d.2.1 k n d.1.2.2.2.2.2.2.2.1 d.1.2.2.2.2.2.2.2.2.2.2.2.2.2.2.2.2.2.2.2.2.2.2.2.2.2.2.2.2.2.2.2.2.2.2.2.2.2.2.2.2.2.2.1)
noncomputable def utext_LK1 (g_udiv : (List Int) → Int → ((List Int) → Int → Option A) → Option A) (g_fmt : Int → Int → (ByteArray → Option A) → Option A) (g_reverse : (List ByteArray) → ((List ByteArray) → Option A) → Option A) (n : Nat) (a : (List Int)) (parts : (List ByteArray)) (rest_ : (List Int)) (k : Ex → St → Option A) (f : Nat) (s : ByteArray) : Option A := loopK (codeK (utext_E g_udiv g_fmt g_reverse n) 2 utext_c1) utext_d1 utext_y1 f (utext_sh1.fill (utext_t1 a parts rest_ s)) k
theorem utext_st1 (g_udiv : (List Int) → Int → ((List Int) → Int → Option A) → Option A) (g_fmt : Int → Int → (ByteArray → Option A) → Option A) (g_reverse : (List ByteArray) → ((List ByteArray) → Option A) → Option A) (n f : Nat) (a : (List Int)) (parts : (List ByteArray)) (rest_ : (List Int)) (k : Ex → St → Option A) (s : ByteArray) : utext_LK1 g_udiv g_fmt g_reverse n a parts rest_ k (f + 1) s = utext_b1 g_udiv g_fmt g_reverse n a parts rest_ (fun z0 => k (.exit 2) (utext_x1_0 a parts rest_ z0)) (utext_LK1 g_udiv g_fmt g_reverse n a parts rest_ k f) s := by kernel_rfl
theorem utext_le1 (g_udiv : (List Int) → Int → ((List Int) → Int → Option A) → Option A) (g_fmt : Int → Int → (ByteArray → Option A) → Option A) (g_reverse : (List ByteArray) → ((List ByteArray) → Option A) → Option A) (n : Nat) (a : (List Int)) (parts : (List ByteArray)) (rest_ : (List Int)) (k : Ex → St → Option A) : ∀ (f : Nat) (s : ByteArray), utext_LK1 g_udiv g_fmt g_reverse n a parts rest_ k f s = utext_l1 g_udiv g_fmt g_reverse n a parts rest_ (fun z0 => k (.exit 2) (utext_x1_0 a parts rest_ z0)) f s := by
  intro f
  induction f with
  | zero => intros; kernel_rfl
  | succ f ih => intro s; exact (utext_st1 g_udiv g_fmt g_reverse n f a parts rest_ k s).trans ((congrArg (fun r => utext_b1 g_udiv g_fmt g_reverse n a parts rest_ (fun z0 => k (.exit 2) (utext_x1_0 a parts rest_ z0)) r s) (funext fun s => ih s)).trans (by kernel_rfl))
theorem utext_lo1 (n : Nat) : LoopOK Tryd.prog gls utext_c1 (loopE utext_d1 utext_sh1 (utext_g1 (A := A) (udiv_k n) (fmt_k n) (reverse_k n) n)) :=
  LoopOK.of (utext_T (udiv_k n) (fmt_k n) (reverse_k n) n) (utext_fns n) follows (j := 2) (n := n) (xdead := utext_y1) (lo_of (by kernel_rfl : loopsOf 2 utext_c1 = []) lo_nil) fun d k => Eq.trans (by kernel_rfl) (utext_le1 (udiv_k n) (fmt_k n) (reverse_k n) n d.2.1 d.2.2.1 d.2.2.2.1 k n d.1.2.2.2.2.2.2.1)
noncomputable def utext_LK0 (g_udiv : (List Int) → Int → ((List Int) → Int → Option A) → Option A) (g_fmt : Int → Int → (ByteArray → Option A) → Option A) (g_reverse : (List ByteArray) → ((List ByteArray) → Option A) → Option A) (n : Nat) (k : Ex → St → Option A) (f : Nat) (a : (List Int)) (parts : (List ByteArray)) : Option A := loopK (codeK (utext_E g_udiv g_fmt g_reverse n) 1 utext_c0) utext_d0 utext_y0 f (utext_sh0.fill (utext_t0 a parts)) k
theorem utext_st0 (g_udiv : (List Int) → Int → ((List Int) → Int → Option A) → Option A) (g_fmt : Int → Int → (ByteArray → Option A) → Option A) (g_reverse : (List ByteArray) → ((List ByteArray) → Option A) → Option A) (n f : Nat) (k : Ex → St → Option A) (a : (List Int)) (parts : (List ByteArray)) : utext_LK0 g_udiv g_fmt g_reverse n k (f + 1) a parts = utext_b0 g_udiv g_fmt g_reverse n (fun z0 => k (.exit 0) (utext_x0_0 z0)) (utext_LK0 g_udiv g_fmt g_reverse n k f) a parts := by kernel_rfl
theorem utext_le0 (g_udiv : (List Int) → Int → ((List Int) → Int → Option A) → Option A) (g_fmt : Int → Int → (ByteArray → Option A) → Option A) (g_reverse : (List ByteArray) → ((List ByteArray) → Option A) → Option A) (n : Nat) (k : Ex → St → Option A) : ∀ (f : Nat) (a : (List Int)) (parts : (List ByteArray)), utext_LK0 g_udiv g_fmt g_reverse n k f a parts = utext_l0 g_udiv g_fmt g_reverse n (fun z0 => k (.exit 0) (utext_x0_0 z0)) f a parts := by
  intro f
  induction f with
  | zero => intros; kernel_rfl
  | succ f ih => intro a parts; exact (utext_st0 g_udiv g_fmt g_reverse n f k a parts).trans ((congrArg (fun r => utext_b0 g_udiv g_fmt g_reverse n (fun z0 => k (.exit 0) (utext_x0_0 z0)) r a parts) (funext fun a => funext fun parts => ih a parts)).trans (by kernel_rfl))
theorem utext_lo0 (n : Nat) : LoopOK Tryd.prog gls utext_c0 (loopE utext_d0 utext_sh0 (utext_g0 (A := A) (udiv_k n) (fmt_k n) (reverse_k n) n)) :=
  LoopOK.of (utext_T (udiv_k n) (fmt_k n) (reverse_k n) n) (utext_fns n) follows (j := 1) (n := n) (xdead := utext_y0) (lo_of (by kernel_rfl : loopsOf 1 utext_c0 = [(1, utext_c1)]) (lo_cons rfl (utext_lo1 n) lo_nil)) fun d k => Eq.trans (by kernel_rfl) (utext_le0 (udiv_k n) (fmt_k n) (reverse_k n) n k n d.2.1 d.2.2.1)
theorem utext_eqg (g_udiv : (List Int) → Int → ((List Int) → Int → Option A) → Option A) (g_fmt : Int → Int → (ByteArray → Option A) → Option A) (g_reverse : (List ByteArray) → ((List ByteArray) → Option A) → Option A) (n : Nat) (a0 : (List Int)) (k : AV → List Blk → Option A) : fnK (utext_E g_udiv g_fmt g_reverse n) Tryd.f17 [.pure] [.p kA4u64 a0] [] k = utext_p g_udiv g_fmt g_reverse n a0 (fun r0 => k (.p .str r0) []) := by kernel_rfl
theorem utext_eq (n : Nat) (a0 : (List Int)) (k : AV → List Blk → Option A) : fnK (utext_E (udiv_k n) (fmt_k n) (reverse_k n) n) Tryd.f17 [.pure] [.p kA4u64 a0] [] k = utext_k n a0 (fun r0 => k (.p .str r0) []) := utext_eqg (udiv_k n) (fmt_k n) (reverse_k n) n a0 k
def utext_ent (g : (List Int) → (ByteArray → Option A) → Option A) : Entry A := pureE fun args k => args1 args kA4u64 fun a0 => g a0 (fun r0 => k (.p .str r0) [])
theorem utext_lo (n : Nat) : ∀ c, Tryd.f17.body = some c → ∀ q ∈ loopsOf 0 c, ∀ L, (utext_E (A := A) (udiv_k n) (fmt_k n) (reverse_k n) n).lps.lookup q.1 = some L → LoopOK Tryd.prog gls q.2 L :=
  lo_body (E := utext_E (udiv_k n) (fmt_k n) (reverse_k n) n) (by kernel_rfl : Tryd.f17.body = some (bodyOf Tryd.f17)) (lo_of (E := utext_E (udiv_k n) (fmt_k n) (reverse_k n) n) (by kernel_rfl : loopsOf 0 (bodyOf Tryd.f17) = [(0, utext_c0), (1, utext_c1), (2, utext_c2)]) (lo_cons rfl (utext_lo0 n) (lo_cons rfl (utext_lo1 n) (lo_cons rfl (utext_lo2 n) lo_nil))))
theorem utext_ok (n : Nat) : FnOK Tryd.prog gls 17 (utext_ent (A := A) (utext_k n)) :=
  FnOK.of (utext_T (udiv_k n) (fmt_k n) (reverse_k n) n) (utext_fns n) follows ⟨Tryd.func17, by kernel_rfl⟩ (utext_lo n) (rm := [.pure]) fun args k out h => by
    obtain ⟨a0, e, h1⟩ := args1_sound h
    subst e; rw [utext_eq]; exact h1

end Go.Ev
end

