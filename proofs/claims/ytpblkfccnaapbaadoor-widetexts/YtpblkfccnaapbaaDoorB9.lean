import Derived.Test.YtpblkfccnaapbaaDoorB5
import Derived.Test.YtpblkfccnaapbaaDoorB8
import Derived.Test.YtpblkfccnaapbaaDoorB6
set_option linter.all false
section
/-
  FUNCTION 54: printed by a program of our own (wip/gen/st.py). 'internal/strconv.formatBase10', in continuation form; the evaluator gives it.
-/
set_option linter.all false
set_option maxRecDepth 100000
namespace Go.Ev
open Go.Proofs
variable {A : Type}

-- ============================================================ fmt10 (function 54)
def fmt10_b0 (n : Nat) (alo : Nat) (alen : Nat) (k0 : Int → Int → (List Int) → Option A) (r : Int → Int → (List Int) → Option A) (u : Int) (nd : Int) (a : (List Int)) : Option A :=
  bif (decide (nd ≥ 8)) then
    if 0 ≤ (IntKind.wrap .u32 ((IntKind.wrap .u32 ((Int.tmod (Int.tmod (IntKind.wrap .u32 (Int.tmod u 100000000)) 10000) 100) * 2)) + 1)) then
      ((strBytes str3)[(Int.toNat (IntKind.wrap .u32 ((IntKind.wrap .u32 ((Int.tmod (Int.tmod (IntKind.wrap .u32 (Int.tmod u 100000000)) 10000) 100) * 2)) + 1)))]?).bind fun y1 =>
      if 0 ≤ (IntKind.wrap .u32 ((Int.tmod (Int.tmod (IntKind.wrap .u32 (Int.tmod u 100000000)) 10000) 100) * 2)) then
        ((strBytes str3)[(Int.toNat (IntKind.wrap .u32 ((Int.tmod (Int.tmod (IntKind.wrap .u32 (Int.tmod u 100000000)) 10000) 100) * 2)))]?).bind fun y2 =>
        if 0 ≤ (IntKind.wrap .i64 (nd - 1)) then
          if (IntKind.wrap .i64 (nd - 1)) < (alen : Int) then
            if (alo + (Int.toNat (IntKind.wrap .i64 (nd - 1)))) < 24 then
              if 0 ≤ (IntKind.wrap .i64 (nd - 2)) then
                if (IntKind.wrap .i64 (nd - 2)) < (alen : Int) then
                  if (alo + (Int.toNat (IntKind.wrap .i64 (nd - 2)))) < 24 then
                    if 0 ≤ (IntKind.wrap .u32 ((IntKind.wrap .u32 ((IntKind.wrap .u32 (Int.tdiv (Int.tmod (IntKind.wrap .u32 (Int.tmod u 100000000)) 10000) 100)) * 2)) + 1)) then
                      ((strBytes str3)[(Int.toNat (IntKind.wrap .u32 ((IntKind.wrap .u32 ((IntKind.wrap .u32 (Int.tdiv (Int.tmod (IntKind.wrap .u32 (Int.tmod u 100000000)) 10000) 100)) * 2)) + 1)))]?).bind fun y3 =>
                      if 0 ≤ (IntKind.wrap .u32 ((IntKind.wrap .u32 (Int.tdiv (Int.tmod (IntKind.wrap .u32 (Int.tmod u 100000000)) 10000) 100)) * 2)) then
                        ((strBytes str3)[(Int.toNat (IntKind.wrap .u32 ((IntKind.wrap .u32 (Int.tdiv (Int.tmod (IntKind.wrap .u32 (Int.tmod u 100000000)) 10000) 100)) * 2)))]?).bind fun y4 =>
                        if 0 ≤ (IntKind.wrap .i64 (nd - 3)) then
                          if (IntKind.wrap .i64 (nd - 3)) < (alen : Int) then
                            if (alo + (Int.toNat (IntKind.wrap .i64 (nd - 3)))) < 24 then
                              if 0 ≤ (IntKind.wrap .i64 (nd - 4)) then
                                if (IntKind.wrap .i64 (nd - 4)) < (alen : Int) then
                                  if (alo + (Int.toNat (IntKind.wrap .i64 (nd - 4)))) < 24 then
                                    if 0 ≤ (IntKind.wrap .u32 ((IntKind.wrap .u32 ((Int.tmod (IntKind.wrap .u32 (Int.tdiv (IntKind.wrap .u32 (Int.tmod u 100000000)) 10000)) 100) * 2)) + 1)) then
                                      ((strBytes str3)[(Int.toNat (IntKind.wrap .u32 ((IntKind.wrap .u32 ((Int.tmod (IntKind.wrap .u32 (Int.tdiv (IntKind.wrap .u32 (Int.tmod u 100000000)) 10000)) 100) * 2)) + 1)))]?).bind fun y5 =>
                                      if 0 ≤ (IntKind.wrap .u32 ((Int.tmod (IntKind.wrap .u32 (Int.tdiv (IntKind.wrap .u32 (Int.tmod u 100000000)) 10000)) 100) * 2)) then
                                        ((strBytes str3)[(Int.toNat (IntKind.wrap .u32 ((Int.tmod (IntKind.wrap .u32 (Int.tdiv (IntKind.wrap .u32 (Int.tmod u 100000000)) 10000)) 100) * 2)))]?).bind fun y6 =>
                                        if 0 ≤ (IntKind.wrap .i64 (nd - 5)) then
                                          if (IntKind.wrap .i64 (nd - 5)) < (alen : Int) then
                                            if (alo + (Int.toNat (IntKind.wrap .i64 (nd - 5)))) < 24 then
                                              if 0 ≤ (IntKind.wrap .i64 (nd - 6)) then
                                                if (IntKind.wrap .i64 (nd - 6)) < (alen : Int) then
                                                  if (alo + (Int.toNat (IntKind.wrap .i64 (nd - 6)))) < 24 then
                                                    if 0 ≤ (IntKind.wrap .u32 ((IntKind.wrap .u32 ((IntKind.wrap .u32 (Int.tdiv (IntKind.wrap .u32 (Int.tdiv (IntKind.wrap .u32 (Int.tmod u 100000000)) 10000)) 100)) * 2)) + 1)) then
                                                      ((strBytes str3)[(Int.toNat (IntKind.wrap .u32 ((IntKind.wrap .u32 ((IntKind.wrap .u32 (Int.tdiv (IntKind.wrap .u32 (Int.tdiv (IntKind.wrap .u32 (Int.tmod u 100000000)) 10000)) 100)) * 2)) + 1)))]?).bind fun y7 =>
                                                      if 0 ≤ (IntKind.wrap .u32 ((IntKind.wrap .u32 (Int.tdiv (IntKind.wrap .u32 (Int.tdiv (IntKind.wrap .u32 (Int.tmod u 100000000)) 10000)) 100)) * 2)) then
                                                        ((strBytes str3)[(Int.toNat (IntKind.wrap .u32 ((IntKind.wrap .u32 (Int.tdiv (IntKind.wrap .u32 (Int.tdiv (IntKind.wrap .u32 (Int.tmod u 100000000)) 10000)) 100)) * 2)))]?).bind fun y8 =>
                                                        if 0 ≤ (IntKind.wrap .i64 (nd - 7)) then
                                                          if (IntKind.wrap .i64 (nd - 7)) < (alen : Int) then
                                                            if (alo + (Int.toNat (IntKind.wrap .i64 (nd - 7)))) < 24 then
                                                              if 0 ≤ (IntKind.wrap .i64 (nd - 8)) then
                                                                if (IntKind.wrap .i64 (nd - 8)) < (alen : Int) then
                                                                  if (alo + (Int.toNat (IntKind.wrap .i64 (nd - 8)))) < 24 then
                                                                    r (IntKind.wrap .u64 (Int.tdiv u 100000000)) (IntKind.wrap .i64 (nd - 8)) ((((((((a.set (alo + (Int.toNat (IntKind.wrap .i64 (nd - 1)))) y1).set (alo + (Int.toNat (IntKind.wrap .i64 (nd - 2)))) y2).set (alo + (Int.toNat (IntKind.wrap .i64 (nd - 3)))) y3).set (alo + (Int.toNat (IntKind.wrap .i64 (nd - 4)))) y4).set (alo + (Int.toNat (IntKind.wrap .i64 (nd - 5)))) y5).set (alo + (Int.toNat (IntKind.wrap .i64 (nd - 6)))) y6).set (alo + (Int.toNat (IntKind.wrap .i64 (nd - 7)))) y7).set (alo + (Int.toNat (IntKind.wrap .i64 (nd - 8)))) y8)
                                                                  else none
                                                                else none
                                                              else none
                                                            else none
                                                          else none
                                                        else none
                                                      else none
                                                    else none
                                                  else none
                                                else none
                                              else none
                                            else none
                                          else none
                                        else none
                                      else none
                                    else none
                                  else none
                                else none
                              else none
                            else none
                          else none
                        else none
                      else none
                    else none
                  else none
                else none
              else none
            else none
          else none
        else none
      else none
    else none
  else
    k0 u nd a

def fmt10_l0 (n : Nat) (alo : Nat) (alen : Nat) (k0 : Int → Int → (List Int) → Option A) : Nat → Int → Int → (List Int) → Option A
  | 0 => fun _ _ _ => none
  | f + 1 => fmt10_b0 n alo alen k0 (fmt10_l0 n alo alen k0 f)

def fmt10_p (n : Nat) (alo : Nat) (alen : Nat) (u : Int) (a : (List Int)) (k : (List Int) → Option A) : Option A :=
  fmt10_l0 n alo alen (fun y9 y10 y11 =>
    bif (decide (y10 ≥ 4)) then
      if 0 ≤ (IntKind.wrap .u32 ((IntKind.wrap .u32 ((Int.tmod (Int.tmod (IntKind.wrap .u32 y9) 10000) 100) * 2)) + 1)) then
        ((strBytes str3)[(Int.toNat (IntKind.wrap .u32 ((IntKind.wrap .u32 ((Int.tmod (Int.tmod (IntKind.wrap .u32 y9) 10000) 100) * 2)) + 1)))]?).bind fun y12 =>
        if 0 ≤ (IntKind.wrap .u32 ((Int.tmod (Int.tmod (IntKind.wrap .u32 y9) 10000) 100) * 2)) then
          ((strBytes str3)[(Int.toNat (IntKind.wrap .u32 ((Int.tmod (Int.tmod (IntKind.wrap .u32 y9) 10000) 100) * 2)))]?).bind fun y13 =>
          if 0 ≤ (IntKind.wrap .i64 (y10 - 1)) then
            if (IntKind.wrap .i64 (y10 - 1)) < (alen : Int) then
              if (alo + (Int.toNat (IntKind.wrap .i64 (y10 - 1)))) < 24 then
                if 0 ≤ (IntKind.wrap .i64 (y10 - 2)) then
                  if (IntKind.wrap .i64 (y10 - 2)) < (alen : Int) then
                    if (alo + (Int.toNat (IntKind.wrap .i64 (y10 - 2)))) < 24 then
                      if 0 ≤ (IntKind.wrap .u32 ((IntKind.wrap .u32 ((IntKind.wrap .u32 (Int.tdiv (Int.tmod (IntKind.wrap .u32 y9) 10000) 100)) * 2)) + 1)) then
                        ((strBytes str3)[(Int.toNat (IntKind.wrap .u32 ((IntKind.wrap .u32 ((IntKind.wrap .u32 (Int.tdiv (Int.tmod (IntKind.wrap .u32 y9) 10000) 100)) * 2)) + 1)))]?).bind fun y14 =>
                        if 0 ≤ (IntKind.wrap .u32 ((IntKind.wrap .u32 (Int.tdiv (Int.tmod (IntKind.wrap .u32 y9) 10000) 100)) * 2)) then
                          ((strBytes str3)[(Int.toNat (IntKind.wrap .u32 ((IntKind.wrap .u32 (Int.tdiv (Int.tmod (IntKind.wrap .u32 y9) 10000) 100)) * 2)))]?).bind fun y15 =>
                          if 0 ≤ (IntKind.wrap .i64 (y10 - 3)) then
                            if (IntKind.wrap .i64 (y10 - 3)) < (alen : Int) then
                              if (alo + (Int.toNat (IntKind.wrap .i64 (y10 - 3)))) < 24 then
                                if 0 ≤ (IntKind.wrap .i64 (y10 - 4)) then
                                  if (IntKind.wrap .i64 (y10 - 4)) < (alen : Int) then
                                    if (alo + (Int.toNat (IntKind.wrap .i64 (y10 - 4)))) < 24 then
                                      bif (decide ((IntKind.wrap .i64 (y10 - 4)) ≥ 2)) then
                                        if 0 ≤ (IntKind.wrap .u32 ((IntKind.wrap .u32 ((Int.tmod (IntKind.wrap .u32 (Int.tdiv (IntKind.wrap .u32 y9) 10000)) 100) * 2)) + 1)) then
                                          ((strBytes str3)[(Int.toNat (IntKind.wrap .u32 ((IntKind.wrap .u32 ((Int.tmod (IntKind.wrap .u32 (Int.tdiv (IntKind.wrap .u32 y9) 10000)) 100) * 2)) + 1)))]?).bind fun y16 =>
                                          if 0 ≤ (IntKind.wrap .u32 ((Int.tmod (IntKind.wrap .u32 (Int.tdiv (IntKind.wrap .u32 y9) 10000)) 100) * 2)) then
                                            ((strBytes str3)[(Int.toNat (IntKind.wrap .u32 ((Int.tmod (IntKind.wrap .u32 (Int.tdiv (IntKind.wrap .u32 y9) 10000)) 100) * 2)))]?).bind fun y17 =>
                                            if 0 ≤ (IntKind.wrap .i64 ((IntKind.wrap .i64 (y10 - 4)) - 1)) then
                                              if (IntKind.wrap .i64 ((IntKind.wrap .i64 (y10 - 4)) - 1)) < (alen : Int) then
                                                if (alo + (Int.toNat (IntKind.wrap .i64 ((IntKind.wrap .i64 (y10 - 4)) - 1)))) < 24 then
                                                  if 0 ≤ (IntKind.wrap .i64 ((IntKind.wrap .i64 (y10 - 4)) - 2)) then
                                                    if (IntKind.wrap .i64 ((IntKind.wrap .i64 (y10 - 4)) - 2)) < (alen : Int) then
                                                      if (alo + (Int.toNat (IntKind.wrap .i64 ((IntKind.wrap .i64 (y10 - 4)) - 2)))) < 24 then
                                                        bif (decide ((IntKind.wrap .i64 ((IntKind.wrap .i64 (y10 - 4)) - 2)) > 0)) then
                                                          if 0 < (alen : Int) then
                                                            if (alo + 0) < 24 then
                                                              k (((((((y11.set (alo + (Int.toNat (IntKind.wrap .i64 (y10 - 1)))) y12).set (alo + (Int.toNat (IntKind.wrap .i64 (y10 - 2)))) y13).set (alo + (Int.toNat (IntKind.wrap .i64 (y10 - 3)))) y14).set (alo + (Int.toNat (IntKind.wrap .i64 (y10 - 4)))) y15).set (alo + (Int.toNat (IntKind.wrap .i64 ((IntKind.wrap .i64 (y10 - 4)) - 1)))) y16).set (alo + (Int.toNat (IntKind.wrap .i64 ((IntKind.wrap .i64 (y10 - 4)) - 2)))) y17).set (alo + 0) (IntKind.wrap .u8 (IntKind.wrap .u32 (48 + (IntKind.wrap .u32 (Int.tdiv (IntKind.wrap .u32 (Int.tdiv (IntKind.wrap .u32 y9) 10000)) 100))))))
                                                            else none
                                                          else none
                                                        else
                                                          k ((((((y11.set (alo + (Int.toNat (IntKind.wrap .i64 (y10 - 1)))) y12).set (alo + (Int.toNat (IntKind.wrap .i64 (y10 - 2)))) y13).set (alo + (Int.toNat (IntKind.wrap .i64 (y10 - 3)))) y14).set (alo + (Int.toNat (IntKind.wrap .i64 (y10 - 4)))) y15).set (alo + (Int.toNat (IntKind.wrap .i64 ((IntKind.wrap .i64 (y10 - 4)) - 1)))) y16).set (alo + (Int.toNat (IntKind.wrap .i64 ((IntKind.wrap .i64 (y10 - 4)) - 2)))) y17)
                                                      else none
                                                    else none
                                                  else none
                                                else none
                                              else none
                                            else none
                                          else none
                                        else none
                                      else
                                        bif (decide ((IntKind.wrap .i64 (y10 - 4)) > 0)) then
                                          if 0 < (alen : Int) then
                                            if (alo + 0) < 24 then
                                              k (((((y11.set (alo + (Int.toNat (IntKind.wrap .i64 (y10 - 1)))) y12).set (alo + (Int.toNat (IntKind.wrap .i64 (y10 - 2)))) y13).set (alo + (Int.toNat (IntKind.wrap .i64 (y10 - 3)))) y14).set (alo + (Int.toNat (IntKind.wrap .i64 (y10 - 4)))) y15).set (alo + 0) (IntKind.wrap .u8 (IntKind.wrap .u32 (48 + (IntKind.wrap .u32 (Int.tdiv (IntKind.wrap .u32 y9) 10000))))))
                                            else none
                                          else none
                                        else
                                          k ((((y11.set (alo + (Int.toNat (IntKind.wrap .i64 (y10 - 1)))) y12).set (alo + (Int.toNat (IntKind.wrap .i64 (y10 - 2)))) y13).set (alo + (Int.toNat (IntKind.wrap .i64 (y10 - 3)))) y14).set (alo + (Int.toNat (IntKind.wrap .i64 (y10 - 4)))) y15)
                                    else none
                                  else none
                                else none
                              else none
                            else none
                          else none
                        else none
                      else none
                    else none
                  else none
                else none
              else none
            else none
          else none
        else none
      else none
    else
      bif (decide (y10 ≥ 2)) then
        if 0 ≤ (IntKind.wrap .u32 ((IntKind.wrap .u32 ((Int.tmod (IntKind.wrap .u32 y9) 100) * 2)) + 1)) then
          ((strBytes str3)[(Int.toNat (IntKind.wrap .u32 ((IntKind.wrap .u32 ((Int.tmod (IntKind.wrap .u32 y9) 100) * 2)) + 1)))]?).bind fun y18 =>
          if 0 ≤ (IntKind.wrap .u32 ((Int.tmod (IntKind.wrap .u32 y9) 100) * 2)) then
            ((strBytes str3)[(Int.toNat (IntKind.wrap .u32 ((Int.tmod (IntKind.wrap .u32 y9) 100) * 2)))]?).bind fun y19 =>
            if 0 ≤ (IntKind.wrap .i64 (y10 - 1)) then
              if (IntKind.wrap .i64 (y10 - 1)) < (alen : Int) then
                if (alo + (Int.toNat (IntKind.wrap .i64 (y10 - 1)))) < 24 then
                  if 0 ≤ (IntKind.wrap .i64 (y10 - 2)) then
                    if (IntKind.wrap .i64 (y10 - 2)) < (alen : Int) then
                      if (alo + (Int.toNat (IntKind.wrap .i64 (y10 - 2)))) < 24 then
                        bif (decide ((IntKind.wrap .i64 (y10 - 2)) > 0)) then
                          if 0 < (alen : Int) then
                            if (alo + 0) < 24 then
                              k (((y11.set (alo + (Int.toNat (IntKind.wrap .i64 (y10 - 1)))) y18).set (alo + (Int.toNat (IntKind.wrap .i64 (y10 - 2)))) y19).set (alo + 0) (IntKind.wrap .u8 (IntKind.wrap .u32 (48 + (IntKind.wrap .u32 (Int.tdiv (IntKind.wrap .u32 y9) 100))))))
                            else none
                          else none
                        else
                          k ((y11.set (alo + (Int.toNat (IntKind.wrap .i64 (y10 - 1)))) y18).set (alo + (Int.toNat (IntKind.wrap .i64 (y10 - 2)))) y19)
                      else none
                    else none
                  else none
                else none
              else none
            else none
          else none
        else none
      else
        bif (decide (y10 > 0)) then
          if 0 < (alen : Int) then
            if (alo + 0) < 24 then
              k (y11.set (alo + 0) (IntKind.wrap .u8 (IntKind.wrap .u32 (48 + (IntKind.wrap .u32 y9)))))
            else none
          else none
        else
          k y11) n u (alen : Int) a

def fmt10_k (n : Nat) (alo : Nat) (alen : Nat) (u : Int) (a : (List Int)) (k : (List Int) → Option A) : Option A := fmt10_p n alo alen u a k

noncomputable def fmt10_c0 : Code := codeAt [1, 0, 0, 0] (bodyOf Tryd.f54)
def fmt10_d0 : List Nat := [5, 6, 7, 8, 9, 10, 11, 17, 18, 19, 20, 21, 22, 23, 24, 25, 26, 27, 28, 29, 30, 31, 32, 33, 34, 35, 36, 37, 38, 39, 40, 41, 42, 43, 44, 45, 46, 47, 48, 49, 50, 51, 52, 53, 54, 55, 56, 57, 58, 59, 60, 61, 62, 63, 64, 65, 66, 67, 68, 69, 70, 71, 72, 73, 74, 75, 76, 77, 78, 79, 80, 81, 82, 83, 84, 85, 86, 87, 88, 89, 90, 91, 92, 93, 94, 95]
def fmt10_y0 : List Nat := [2, 3, 5, 6, 7, 8, 9, 10, 11, 12, 13, 14, 15, 16, 17, 18, 19, 20, 21, 22, 23, 24, 25, 26, 27, 28, 29, 30, 31, 32, 33, 34, 35, 36, 37, 38, 39, 40, 41, 42, 43, 44, 45, 46, 47, 48, 49, 50, 51, 52, 53, 54, 55, 56, 57, 58, 59, 60, 61, 62, 63, 64, 65, 66, 67, 68, 69, 70, 71, 72, 73, 74, 75, 76, 77, 78, 79, 80, 81, 82, 83, 84, 85, 86, 87, 88, 89, 90, 91, 92, 93, 94, 95, 96, 97, 98, 99, 100, 101, 102, 103, 104, 105, 106, 107, 108, 109, 110, 111, 112, 113, 114, 115, 116, 117, 118, 119, 120, 121, 122, 123, 124, 125, 126, 127, 128, 129, 130, 131, 132, 133, 134, 135, 136, 137, 138, 139, 140, 141, 142, 143, 144, 145, 146, 147, 148, 149, 150, 151, 152, 153, 154, 155, 156, 157, 158, 159, 160, 161, 162, 163, 164, 165, 166]
def fmt10_sh0 : Shape := ⟨[(.slc 0), (.p (.int .u64)), .any, .any, (.p (.int .i64)), .any, .any, .any, .any, .any, .any, .any, .any, .any, .any, .any, .any, .any, .any, .any, .any, .any, .any, .any, .any, .any, .any, .any, .any, .any, .any, .any, .any, .any, .any, .any, .any, .any, .any, .any, .any, .any, .any, .any, .any, .any, .any, .any, .any, .any, .any, .any, .any, .any, .any, .any, .any, .any, .any, .any, .any, .any, .any, .any, .any, .any, .any, .any, .any, .any, .any, .any, .any, .any, .any, .any, .any, .any, .any, .any, .any, .any, .any, .any, .any, .any, .any, .any, .any, .any, .any, .any, .any, .any, .any, .any, .any, .any, .any, .any, .any, .any, .any, .any, .any, .any, .any, .any, .any, .any, .any, .any, .any, .any, .any, .any, .any, .any, .any, .any, .any, .any, .any, .any, .any, .any, .any, .any, .any, .any, .any, .any, .any, .any, .any, .any, .any, .any, .any, .any, .any, .any, .any, .any, .any, .any, .any, .any, .any, .any, .any, .any, .any, .any, .any, .any, .any, .any, .any, .any, .any, .any, .any, .any, .any, .any, .any], [(.var 76 kA24u8 (.p kA24u8))], 1⟩
def fmt10_t0 (alo : Nat) (alen : Nat) (u : Int) (nd : Int) (a : (List Int)) : fmt10_sh0.den := (((alo, alen), u, (), (), nd, (), (), (), (), (), (), (), (), (), (), (), (), (), (), (), (), (), (), (), (), (), (), (), (), (), (), (), (), (), (), (), (), (), (), (), (), (), (), (), (), (), (), (), (), (), (), (), (), (), (), (), (), (), (), (), (), (), (), (), (), (), (), (), (), (), (), (), (), (), (), (), (), (), (), (), (), (), (), (), (), (), (), (), (), (), (), (), (), (), (), (), (), (), (), (), (), (), (), (), (), (), (), (), (), (), (), (), (), (), (), (), (), (), (), (), (), (), (), (), (), (), (), (), (), (), (), (), (), (), (), (), (), (), (), (), (), (), (), (), (), (), (), (), (), (), (), (), (), (), (), (), (), (), (), (), (), (), (), (), (), (), (), ()), (a, ()))
def fmt10_x0_0 (alo : Nat) (alen : Nat) (z2 : Int) (z3 : Int) (z4 : (List Int)) : St := ⟨[.slc 0 [] alo alen, .p (.int .u64) z2, .any, .any, .p (.int .i64) z3, .any, .any, .any, .any, .any, .any, .any, .any, .any, .any, .any, .any, .any, .any, .any, .any, .any, .any, .any, .any, .any, .any, .any, .any, .any, .any, .any, .any, .any, .any, .any, .any, .any, .any, .any, .any, .any, .any, .any, .any, .any, .any, .any, .any, .any, .any, .any, .any, .any, .any, .any, .any, .any, .any, .any, .any, .any, .any, .any, .any, .any, .any, .any, .any, .any, .any, .any, .any, .any, .any, .any, .any, .any, .any, .any, .any, .any, .any, .any, .any, .any, .any, .any, .any, .any, .any, .any, .any, .any, .any, .any, .any, .any, .any, .any, .any, .any, .any, .any, .any, .any, .any, .any, .any, .any, .any, .any, .any, .any, .any, .any, .any, .any, .any, .any, .any, .any, .any, .any, .any, .any, .any, .any, .any, .any, .any, .any, .any, .any, .any, .any, .any, .any, .any, .any, .any, .any, .any, .any, .any, .any, .any, .any, .any, .any, .any, .any, .any, .any, .any, .any, .any, .any, .any, .any, .any, .any, .any, .any, .any, .any, .any], [.var 76 kA24u8 (.p kA24u8 z4)], 1⟩
def fmt10_g0 (n : Nat) (d : fmt10_sh0.den) (k : Ex → St → Option A) : Option A :=
  fmt10_l0 n d.1.1.1 d.1.1.2 (fun z2 z3 z4 => k (.exit 0) (fmt10_x0_0 d.1.1.1 d.1.1.2 z2 z3 z4)) n d.1.2.1 d.1.2.2.2.2.1 d.2.1
noncomputable def fmt10_E (n : Nat) : Env A := ⟨tys, gls, [], [(0, loopE fmt10_d0 fmt10_sh0 (fmt10_g0 n))], []⟩
theorem fmt10_T {A : Type} (n : Nat) : TyOK Tryd.prog (fmt10_E (A := A) n) := tyOK_of rfl tysB
theorem fmt10_fns (n : Nat) : FnsOK Tryd.prog (fmt10_E (A := A) n) := AllOK.env rfl rfl AllOK.nil
noncomputable def fmt10_LK0 (n : Nat) (alo : Nat) (alen : Nat) (k : Ex → St → Option A) (f : Nat) (u : Int) (nd : Int) (a : (List Int)) : Option A := loopK (codeK (fmt10_E n) 1 fmt10_c0) fmt10_d0 fmt10_y0 f (fmt10_sh0.fill (fmt10_t0 alo alen u nd a)) k
theorem fmt10_st0 (n f : Nat) (alo : Nat) (alen : Nat) (k : Ex → St → Option A) (u : Int) (nd : Int) (a : (List Int)) : fmt10_LK0 n alo alen k (f + 1) u nd a = fmt10_b0 n alo alen (fun z2 z3 z4 => k (.exit 0) (fmt10_x0_0 alo alen z2 z3 z4)) (fmt10_LK0 n alo alen k f) u nd a := by kernel_rfl
theorem fmt10_le0 (n : Nat) (alo : Nat) (alen : Nat) (k : Ex → St → Option A) : ∀ (f : Nat) (u : Int) (nd : Int) (a : (List Int)), fmt10_LK0 n alo alen k f u nd a = fmt10_l0 n alo alen (fun z2 z3 z4 => k (.exit 0) (fmt10_x0_0 alo alen z2 z3 z4)) f u nd a := by
  intro f
  induction f with
  | zero => intros; kernel_rfl
  | succ f ih => intro u nd a; exact (fmt10_st0 n f alo alen k u nd a).trans ((congrArg (fun r => fmt10_b0 n alo alen (fun z2 z3 z4 => k (.exit 0) (fmt10_x0_0 alo alen z2 z3 z4)) r u nd a) (funext fun u => funext fun nd => funext fun a => ih u nd a)).trans (by kernel_rfl))
theorem fmt10_lo0 (n : Nat) : LoopOK Tryd.prog gls fmt10_c0 (loopE fmt10_d0 fmt10_sh0 (fmt10_g0 (A := A) n)) :=
  LoopOK.of (fmt10_T n) (fmt10_fns n) follows (j := 1) (n := n) (xdead := fmt10_y0) (lo_of (by kernel_rfl : loopsOf 1 fmt10_c0 = []) lo_nil) fun d k => Eq.trans (by kernel_rfl) (fmt10_le0 n d.1.1.1 d.1.1.2 k n d.1.2.1 d.1.2.2.2.2.1 d.2.1)
theorem fmt10_eqg (n : Nat) (alo : Nat) (alen : Nat) (u : Int) (a : (List Int)) (k : AV → List Blk → Option A) : fnK (fmt10_E n) Tryd.f54 [] [.slc 0 [] alo alen, .p (.int .u64) u] [.var 76 kA24u8 (.p kA24u8 a)] k = fmt10_p n alo alen u a (fun r0 => k (.tup []) [.var 76 kA24u8 (.p kA24u8 r0)]) := by kernel_rfl
theorem fmt10_eq (n : Nat) (alo : Nat) (alen : Nat) (u : Int) (a : (List Int)) (k : AV → List Blk → Option A) : fnK (fmt10_E n) Tryd.f54 [] [.slc 0 [] alo alen, .p (.int .u64) u] [.var 76 kA24u8 (.p kA24u8 a)] k = fmt10_k n alo alen u a (fun r0 => k (.tup []) [.var 76 kA24u8 (.p kA24u8 r0)]) := fmt10_eqg n alo alen u a k
def fmt10_sh : Shape := ⟨[(.slc 0), (.p (.int .u64))], [(.var 76 kA24u8 (.p kA24u8))], 1⟩
def fmt10_ent (g : Nat → Nat → Int → (List Int) → ((List Int) → Option A) → Option A) : Entry A := ownE [true, false] fmt10_sh fun d k => g d.1.1.1 d.1.1.2 d.1.2.1 d.2.1 (fun r0 => k (.tup []) [.var 76 kA24u8 (.p kA24u8 r0)])
theorem fmt10_lo (n : Nat) : ∀ c, Tryd.f54.body = some c → ∀ q ∈ loopsOf 0 c, ∀ L, (fmt10_E (A := A) n).lps.lookup q.1 = some L → LoopOK Tryd.prog gls q.2 L :=
  lo_body (E := fmt10_E n) (by kernel_rfl : Tryd.f54.body = some (bodyOf Tryd.f54)) (lo_of (E := fmt10_E n) (by kernel_rfl : loopsOf 0 (bodyOf Tryd.f54) = [(0, fmt10_c0)]) (lo_cons rfl (fmt10_lo0 n) lo_nil))
theorem fmt10_ok (n : Nat) : FnOK Tryd.prog gls 54 (fmt10_ent (A := A) (fmt10_k n)) :=
  FnOK.ofOwn (fmt10_T n) (fmt10_fns n) follows ⟨Tryd.func54, by kernel_rfl⟩ (fmt10_lo n) (rm := []) (S := fmt10_sh) fun d k => Eq.trans (by kernel_rfl) (fmt10_eq n d.1.1.1 d.1.1.2 d.1.2.1 d.2.1 k)

end Go.Ev
end

section
/-
  FUNCTION 51: printed by a program of our own (wip/gen/st.py). 'internal/strconv.FormatUint', in continuation form; the evaluator gives it.
-/
set_option linter.all false
set_option maxRecDepth 100000
namespace Go.Ev
open Go.Proofs
variable {A : Type}

-- ============================================================ ifmt (function 51)
def ifmt_p (g_small : Int → (ByteArray → Option A) → Option A) (g_numdig : Int → (Int → Option A) → Option A) (g_fmt10 : Nat → Nat → Int → (List Int) → ((List Int) → Option A) → Option A) (n : Nat) (a0 : Int) (a1 : Int) (k : ByteArray → Option A) : Option A :=
  bif (a1 == 10) then
    bif (decide (a0 < 100)) then
      g_small (IntKind.wrap .i64 a0) fun r1 =>
      k r1
    else
      g_numdig a0 fun r2 =>
      if 0 ≤ r2 then
        if r2 ≤ 24 then
          g_fmt10 0 ((Int.toNat r2) - 0) a0 (List.replicate 24 (0 : Int)) fun r3 =>
          if 0 ≤ r2 then
            if r2 ≤ 24 then
              k (mkStr ((r3.drop 0).take ((Int.toNat r2) - 0)))
            else none
          else none
        else none
      else none
  else
    none

def ifmt_k (n : Nat) (a0 : Int) (a1 : Int) (k : ByteArray → Option A) : Option A := ifmt_p (small_k n) (numdig_k n) (fmt10_k n) n a0 a1 k

noncomputable def ifmt_E (g_small : Int → (ByteArray → Option A) → Option A) (g_numdig : Int → (Int → Option A) → Option A) (g_fmt10 : Nat → Nat → Int → (List Int) → ((List Int) → Option A) → Option A) (n : Nat) : Env A := ⟨tys, gls, [(52, small_ent g_small), (53, numdig_ent g_numdig), (54, fmt10_ent g_fmt10)], [], []⟩
theorem ifmt_T (g_small : Int → (ByteArray → Option A) → Option A) (g_numdig : Int → (Int → Option A) → Option A) (g_fmt10 : Nat → Nat → Int → (List Int) → ((List Int) → Option A) → Option A) (n : Nat) : TyOK Tryd.prog (ifmt_E g_small g_numdig g_fmt10 n) := tyOK_of rfl tysB
theorem ifmt_fns (n : Nat) : FnsOK Tryd.prog (ifmt_E (A := A) (small_k n) (numdig_k n) (fmt10_k n) n) := AllOK.env rfl rfl (AllOK.cons (small_ok n) (AllOK.cons (numdig_ok n) (AllOK.cons (fmt10_ok n) AllOK.nil)))
theorem ifmt_eqg (g_small : Int → (ByteArray → Option A) → Option A) (g_numdig : Int → (Int → Option A) → Option A) (g_fmt10 : Nat → Nat → Int → (List Int) → ((List Int) → Option A) → Option A) (n : Nat) (a0 : Int) (a1 : Int) (k : AV → List Blk → Option A) : fnK (ifmt_E g_small g_numdig g_fmt10 n) Tryd.f51 [.pure] [.p (.int .u64) a0, .p (.int .i64) a1] [] k = ifmt_p g_small g_numdig g_fmt10 n a0 a1 (fun r0 => k (.p .str r0) []) := by kernel_rfl
theorem ifmt_eq (n : Nat) (a0 : Int) (a1 : Int) (k : AV → List Blk → Option A) : fnK (ifmt_E (small_k n) (numdig_k n) (fmt10_k n) n) Tryd.f51 [.pure] [.p (.int .u64) a0, .p (.int .i64) a1] [] k = ifmt_k n a0 a1 (fun r0 => k (.p .str r0) []) := ifmt_eqg (small_k n) (numdig_k n) (fmt10_k n) n a0 a1 k
def ifmt_ent (g : Int → Int → (ByteArray → Option A) → Option A) : Entry A := pureE fun args k => args2 args (.int .u64) (.int .i64) fun a0 a1 => g a0 a1 (fun r0 => k (.p .str r0) [])
theorem ifmt_lo (n : Nat) : ∀ c, Tryd.f51.body = some c → ∀ q ∈ loopsOf 0 c, ∀ L, (ifmt_E (A := A) (small_k n) (numdig_k n) (fmt10_k n) n).lps.lookup q.1 = some L → LoopOK Tryd.prog gls q.2 L :=
  lo_body (E := ifmt_E (small_k n) (numdig_k n) (fmt10_k n) n) (by kernel_rfl : Tryd.f51.body = some (bodyOf Tryd.f51)) (lo_of (E := ifmt_E (small_k n) (numdig_k n) (fmt10_k n) n) (by kernel_rfl : loopsOf 0 (bodyOf Tryd.f51) = []) lo_nil)
theorem ifmt_ok (n : Nat) : FnOK Tryd.prog gls 51 (ifmt_ent (A := A) (ifmt_k n)) :=
  FnOK.of (ifmt_T (small_k n) (numdig_k n) (fmt10_k n) n) (ifmt_fns n) follows ⟨Tryd.func51, by kernel_rfl⟩ (ifmt_lo n) (rm := [.pure]) fun args k out h => by
    obtain ⟨a0, a1, e, h1⟩ := args2_sound h
    subst e; rw [ifmt_eq]; exact h1

end Go.Ev
end

section
/-
  FUNCTION 42: printed by a program of our own (wip/gen/st.py). 'strconv.FormatUint', in continuation form; the evaluator gives it.
-/
set_option linter.all false
set_option maxRecDepth 100000
namespace Go.Ev
open Go.Proofs
variable {A : Type}

-- ============================================================ fmt (function 42)
def fmt_p (g_ifmt : Int → Int → (ByteArray → Option A) → Option A) (n : Nat) (a0 : Int) (a1 : Int) (k : ByteArray → Option A) : Option A :=
  g_ifmt a0 a1 fun r1 =>
  k r1

def fmt_k (n : Nat) (a0 : Int) (a1 : Int) (k : ByteArray → Option A) : Option A := fmt_p (ifmt_k n) n a0 a1 k

noncomputable def fmt_E (g_ifmt : Int → Int → (ByteArray → Option A) → Option A) (n : Nat) : Env A := ⟨tys, gls, [(51, ifmt_ent g_ifmt)], [], []⟩
theorem fmt_T (g_ifmt : Int → Int → (ByteArray → Option A) → Option A) (n : Nat) : TyOK Tryd.prog (fmt_E g_ifmt n) := tyOK_of rfl tysB
theorem fmt_fns (n : Nat) : FnsOK Tryd.prog (fmt_E (A := A) (ifmt_k n) n) := AllOK.env rfl rfl (AllOK.cons (ifmt_ok n) AllOK.nil)
theorem fmt_eqg (g_ifmt : Int → Int → (ByteArray → Option A) → Option A) (n : Nat) (a0 : Int) (a1 : Int) (k : AV → List Blk → Option A) : fnK (fmt_E g_ifmt n) Tryd.f42 [.pure] [.p (.int .u64) a0, .p (.int .i64) a1] [] k = fmt_p g_ifmt n a0 a1 (fun r0 => k (.p .str r0) []) := by kernel_rfl
theorem fmt_eq (n : Nat) (a0 : Int) (a1 : Int) (k : AV → List Blk → Option A) : fnK (fmt_E (ifmt_k n) n) Tryd.f42 [.pure] [.p (.int .u64) a0, .p (.int .i64) a1] [] k = fmt_k n a0 a1 (fun r0 => k (.p .str r0) []) := fmt_eqg (ifmt_k n) n a0 a1 k
def fmt_ent (g : Int → Int → (ByteArray → Option A) → Option A) : Entry A := pureE fun args k => args2 args (.int .u64) (.int .i64) fun a0 a1 => g a0 a1 (fun r0 => k (.p .str r0) [])
theorem fmt_lo (n : Nat) : ∀ c, Tryd.f42.body = some c → ∀ q ∈ loopsOf 0 c, ∀ L, (fmt_E (A := A) (ifmt_k n) n).lps.lookup q.1 = some L → LoopOK Tryd.prog gls q.2 L :=
  lo_body (E := fmt_E (ifmt_k n) n) (by kernel_rfl : Tryd.f42.body = some (bodyOf Tryd.f42)) (lo_of (E := fmt_E (ifmt_k n) n) (by kernel_rfl : loopsOf 0 (bodyOf Tryd.f42) = []) lo_nil)
theorem fmt_ok (n : Nat) : FnOK Tryd.prog gls 42 (fmt_ent (A := A) (fmt_k n)) :=
  FnOK.of (fmt_T (ifmt_k n) n) (fmt_fns n) follows ⟨Tryd.func42, by kernel_rfl⟩ (fmt_lo n) (rm := [.pure]) fun args k out h => by
    obtain ⟨a0, a1, e, h1⟩ := args2_sound h
    subst e; rw [fmt_eq]; exact h1

end Go.Ev
end

section
/-
  THE LIBRARY'S DECIMAL TEXT of a word.
-/
set_option linter.all false
namespace Go.Ev
variable {A : Type}

theorem small1 : ∀ x, x < 10 → str2.extract x (x + 1) = tb (fd 1 x) := by decide +kernel
theorem small2 : ∀ x, x < 100 → str3.extract (x * 2) (x * 2 + 2) = tb (fd 2 x) := by decide +kernel
theorem str2_size : str2.size = 36 := by decide +kernel
theorem str3_size : str3.size = 200 := by decide +kernel
theorem pair_at : ∀ p, p < 100 → (strBytes str3)[2 * p]? = some (((48 + p / 10 : Nat)) : Int) ∧ (strBytes str3)[2 * p + 1]? = some (((48 + p % 10 : Nat)) : Int) := by decide +kernel

theorem small_law (n x : Nat) (hx : x < 100) (g : ByteArray → Option A) : small_k n (x : Int) g = g (tb (dec x)) := by
  unfold small_k small_p
  have e1 : IntKind.wrap .i64 ((x : Int) + 1) = ((x + 1 : Nat) : Int) := by rw [wrap_id (by omega) (by omega)]; omega
  have e2 : IntKind.wrap .i64 ((x : Int) * 2) = ((x * 2 : Nat) : Int) := by rw [wrap_id (by omega) (by omega)]; omega
  have e3 : IntKind.wrap .i64 (((x * 2 : Nat) : Int) + 2) = ((x * 2 + 2 : Nat) : Int) := by rw [wrap_id (by omega) (by omega)]; omega
  by_cases h : x < 10
  · rw [decide_eq_true (by omega), cond_true, e1, str2_size, if_pos (by omega), if_pos (by omega), if_pos (by omega), Int.toNat_natCast, Int.toNat_natCast, if_pos (by omega), small1 x h, dec_fd 1 x (by omega) (by omega) (.inl rfl)]
  · rw [decide_eq_false (by omega), cond_false, e2, e3, str3_size, if_pos (by omega), if_pos (by omega), if_pos (by omega), Int.toNat_natCast, Int.toNat_natCast, if_pos (by omega), small2 x hx, dec_fd 2 x (by omega) (by omega) (.inr (by omega))]

theorem log10_facts : ∀ l : Nat, l ≤ 64 → 0 < l → l * 78913 / 262144 < 20 ∧ gl2[l * 78913 / 262144]? = some ((10 ^ (l * 78913 / 262144) : Nat) : Int) ∧ 2 ^ l ≤ 10 ^ (l * 78913 / 262144 + 1) ∧ (l * 78913 / 262144 = 0 ∨ 10 ^ (l * 78913 / 262144 - 1) ≤ 2 ^ (l - 1)) ∧ (l = 64 → l * 78913 / 262144 = 19) ∧ l * 78913 / 262144 ≤ 19 := by decide +kernel

theorem shr_i64_18 (m : Nat) : shr .i64 (m : Int) 18 = ((m / 262144 : Nat) : Int) := by
  unfold shr
  rw [show min (Int.toNat 18) IntKind.i64.bits = 18 from rfl, Int.fdiv_eq_ediv_of_nonneg _ (by decide)]
  rw [show (2 : Int) ^ 18 = ((262144 : Nat) : Int) from rfl, ← Int.natCast_ediv]

theorem numdig_law (n x : Nat) (hx : x < 18446744073709551616) (h0 : 100 ≤ x) (g : Int → Option A) : ∃ k : Nat, 0 < k ∧ k ≤ 20 ∧ x < 10 ^ k ∧ 10 ^ (k - 1) ≤ x ∧ numdig_k n (x : Int) g = g (k : Int) := by
  have hl64 : bl x ≤ 64 := (bl_le x 64).2 (by rw [show (2 : Nat) ^ 64 = 18446744073709551616 from by decide]; exact hx)
  have hpos : 0 < bl x := by
    rcases Nat.eq_zero_or_pos (bl x) with h | h
    · have := lt_bl x; rw [h] at this; omega
    · exact h
  have hlow : 2 ^ (bl x - 1) ≤ x := le_of_bl (by omega)
  have hup := lt_bl x
  generalize hl : bl x = l at *
  obtain ⟨f1, f2, f3, f4, f5, f6⟩ := log10_facts l hl64 hpos
  generalize hi : l * 78913 / 262144 = i at *
  have hp := pow10_pos i
  have e1 : IntKind.wrap .i64 ((l : Int) * 78913) = ((l * 78913 : Nat) : Int) := by rw [wrap_id (by omega) (by omega)]; omega
  have hk : ∀ b : Bool, b = decide ((x : Int) ≥ ((10 ^ i : Nat) : Int)) → numdig_k n (x : Int) g = bool2_k n b fun r4 => g (IntKind.wrap .i64 ((i : Int) + r4)) := by
    intro b hb
    unfold numdig_k numdig_p
    rw [len64_law n x hx, hl]
    unfold log10p_k log10p_p
    rw [e1, shr_i64_18, hi]
    show (if (0 : Int) ≤ (i : Int) then if (i : Int) < 20 then (gl2[(i : Int).toNat]?).bind _ else none else none) = _
    rw [if_pos (by omega), if_pos (by omega), Int.toNat_natCast, f2, Option.bind_some, ← hb]
  by_cases hc : 10 ^ i ≤ x
  · refine ⟨i + 1, by omega, by omega, Nat.lt_of_lt_of_le hup f3, by rw [Nat.add_sub_cancel]; exact hc, ?_⟩
    rw [hk true (by rw [decide_eq_true]; omega)]
    unfold bool2_k bool2_p
    rw [cond_true]
    show g (IntKind.wrap .i64 ((i : Int) + 1)) = _
    rw [wrap_id (by omega) (by omega)]; rfl
  · have hi0 : i ≠ 0 := fun e => by subst e; simp at hc; omega
    refine ⟨i, by omega, by omega, by omega, Nat.le_trans (by rcases f4 with f4 | f4; omega; exact f4) hlow, ?_⟩
    rw [hk false (by rw [decide_eq_false]; omega)]
    unfold bool2_k bool2_p
    rw [cond_false]
    show g (IntKind.wrap .i64 ((i : Int) + 0)) = _
    rw [wrap_id (by omega) (by omega)]; congr 1

-- ------------------------------------------------------------ two digits at once

theorem ix0 (p : Nat) (h : p < 100) : IntKind.wrap .u32 ((p : Int) * 2) = ((2 * p : Nat) : Int) := by rw [wrap_u32]; omega
theorem ix1 (p : Nat) (h : p < 100) : IntKind.wrap .u32 (((2 * p : Nat) : Int) + 1) = ((2 * p + 1 : Nat) : Int) := by rw [wrap_u32]; omega
theorem tm (x m : Nat) : Int.tmod (x : Int) ((m : Nat) : Int) = ((x % m : Nat) : Int) := rfl
theorem td32 (x m : Nat) (h : x < 4294967296) : IntKind.wrap .u32 (Int.tdiv (x : Int) ((m : Nat) : Int)) = ((x / m : Nat) : Int) := by
  rw [tdiv_nat, wrap_u32]
  have := Nat.div_le_self x m
  generalize x / m = y at *
  omega

/-- What is told so far: the digits from nd on. -/
def Told (X N nd : Nat) (a : List Nat) : Prop := a.length = 24 ∧ ∀ j, nd ≤ j → j < N → a[j]? = some (48 + X / 10 ^ (N - 1 - j) % 10)

theorem Told.put {X N nd : Nat} {a : List Nat} (h : Told X N (nd + 1) a) (hN : nd < N) (h24 : N ≤ 24) (v : Nat) (hv : v = 48 + X / 10 ^ (N - 1 - nd) % 10) : Told X N nd (a.set nd v) := by
  refine ⟨by rw [List.length_set]; exact h.1, fun j h1 h2 => ?_⟩
  by_cases hj : nd = j
  · subst hj; rw [List.getElem?_set_self (by rw [h.1]; omega), hv]
  · rw [List.getElem?_set_ne hj]; exact h.2 j (by omega) h2

theorem at_up (X N nd t : Nat) (h : t < nd) (h2 : nd ≤ N) : X / 10 ^ (N - 1 - (nd - 1 - t)) % 10 = X / 10 ^ (N - nd) / 10 ^ t % 10 := by
  rw [Nat.div_div_eq_div_mul, ← Nat.pow_add]
  congr 3; omega

theorem fmt10_l0_law (n N X : Nat) (hN : N ≤ 20) (k0 : Int → Int → List Int → Option A) : ∀ (m f nd : Nat) (a : List Nat), nd ≤ N → nd < 8 * (m + 1) → m < f → Told X N nd a → X / 10 ^ (N - nd) < 18446744073709551616 →
    ∃ nd' a', nd' ≤ N ∧ nd' < 8 ∧ Told X N nd' a' ∧ fmt10_l0 n 0 N k0 f ((X / 10 ^ (N - nd) : Nat) : Int) (nd : Int) (ints a) = k0 ((X / 10 ^ (N - nd') : Nat) : Int) (nd' : Int) (ints a') := by
  intro m
  induction m with
  | zero =>
    intro f nd a h1 h2 hf ht hu
    obtain ⟨f, rfl⟩ : ∃ g, f = g + 1 := ⟨f - 1, by omega⟩
    refine ⟨nd, a, h1, by omega, ht, ?_⟩
    rw [fmt10_l0, fmt10_b0, decide_eq_false (by omega), cond_false]
  | succ m ih =>
    intro f nd a h1 h2 hf ht hu
    obtain ⟨f, rfl⟩ : ∃ g, f = g + 1 := ⟨f - 1, by omega⟩
    by_cases h8 : nd < 8
    · refine ⟨nd, a, h1, by omega, ht, ?_⟩
      rw [fmt10_l0, fmt10_b0, decide_eq_false (by omega), cond_false]
    · have hat := at_up X N nd
      have hq : X / 10 ^ (N - nd) / 100000000 = X / 10 ^ (N - (nd - 8)) := by
        rw [Nat.div_div_eq_div_mul, show (100000000 : Nat) = 10 ^ 8 from by decide, ← Nat.pow_add]
        congr 2; omega
      generalize hU : X / 10 ^ (N - nd) = u at *
      have eL : IntKind.wrap .u32 (Int.tmod (u : Int) 100000000) = ((u % 100000000 : Nat) : Int) := by
        rw [show (100000000 : Int) = ((100000000 : Nat) : Int) from rfl, tmod_nat, wrap_u32]; omega
      have eQ : IntKind.wrap .u64 (Int.tdiv (u : Int) 100000000) = ((X / 10 ^ (N - (nd - 8)) : Nat) : Int) := by
        rw [show (100000000 : Int) = ((100000000 : Nat) : Int) from rfl, tdiv_nat, hq, wrap_u64_nat _ (by omega)]
      generalize hLL : u % 100000000 = L at *
      have hL : L < 100000000 := by omega
      have eA : Int.tmod (L : Int) 10000 = ((L % 10000 : Nat) : Int) := tm L 10000
      have eB : IntKind.wrap .u32 (Int.tdiv (L : Int) 10000) = ((L / 10000 : Nat) : Int) := td32 L 10000 (by omega)
      have eC : Int.tmod ((L % 10000 : Nat) : Int) 100 = ((L % 10000 % 100 : Nat) : Int) := tm _ 100
      have eD : IntKind.wrap .u32 (Int.tdiv ((L % 10000 : Nat) : Int) 100) = ((L % 10000 / 100 : Nat) : Int) := td32 _ 100 (by omega)
      have eE : Int.tmod ((L / 10000 : Nat) : Int) 100 = ((L / 10000 % 100 : Nat) : Int) := tm _ 100
      have eF : IntKind.wrap .u32 (Int.tdiv ((L / 10000 : Nat) : Int) 100) = ((L / 10000 / 100 : Nat) : Int) := td32 _ 100 (by omega)
      have g1 : L % 10000 % 100 < 100 := by omega
      have g2 : L % 10000 / 100 < 100 := by omega
      have g3 : L / 10000 % 100 < 100 := by omega
      have g4 : L / 10000 / 100 < 100 := by omega
      have w : ∀ t, t ≤ 8 → IntKind.wrap .i64 ((nd : Int) - (t : Nat)) = ((nd - t : Nat) : Int) := fun t ht => by rw [wrap_id (by omega) (by omega)]; omega
      have w1 : IntKind.wrap .i64 ((nd : Int) - 1) = ((nd - 1 : Nat) : Int) := w 1 (by omega)
      have w2 : IntKind.wrap .i64 ((nd : Int) - 2) = ((nd - 2 : Nat) : Int) := w 2 (by omega)
      have w3 : IntKind.wrap .i64 ((nd : Int) - 3) = ((nd - 3 : Nat) : Int) := w 3 (by omega)
      have w4 : IntKind.wrap .i64 ((nd : Int) - 4) = ((nd - 4 : Nat) : Int) := w 4 (by omega)
      have w5 : IntKind.wrap .i64 ((nd : Int) - 5) = ((nd - 5 : Nat) : Int) := w 5 (by omega)
      have w6 : IntKind.wrap .i64 ((nd : Int) - 6) = ((nd - 6 : Nat) : Int) := w 6 (by omega)
      have w7 : IntKind.wrap .i64 ((nd : Int) - 7) = ((nd - 7 : Nat) : Int) := w 7 (by omega)
      have w8 : IntKind.wrap .i64 ((nd : Int) - 8) = ((nd - 8 : Nat) : Int) := w 8 (by omega)
      rw [fmt10_l0, fmt10_b0, decide_eq_true (by omega), cond_true, eL, eQ, eA, eB, eC, eD, eE, eF, ix0 _ g1, ix0 _ g2, ix0 _ g3, ix0 _ g4, ix1 _ g1, ix1 _ g2, ix1 _ g3, ix1 _ g4, w1, w2, w3, w4, w5, w6, w7, w8]
      simp only [Int.toNat_natCast]
      rw [(pair_at _ g1).1, (pair_at _ g1).2, (pair_at _ g2).1, (pair_at _ g2).2, (pair_at _ g3).1, (pair_at _ g3).2, (pair_at _ g4).1, (pair_at _ g4).2]
      simp only [Option.bind_some, Nat.zero_add]
      repeat rw [if_pos (by omega)]
      simp only [ints_set]
      have put : ∀ (t : Nat) (b : List Nat) (v : Nat), t < 8 → Told X N (nd - t) b → v = 48 + u / 10 ^ t % 10 → Told X N (nd - (t + 1)) (b.set (nd - (t + 1)) v) := by
        intro t b v h3 h4 h5
        have e : nd - t = nd - (t + 1) + 1 := by omega
        rw [e] at h4
        refine h4.put (by omega) (by omega) v ?_
        have e2 : nd - 1 - t = nd - (t + 1) := by omega
        rw [h5, ← hat t (by omega) h1, e2]
      have p1 := put 0 a (48 + L % 10000 % 100 % 10) (by omega) ht (by rw [Nat.pow_zero, Nat.div_one]; omega)
      have p2 := put 1 _ (48 + L % 10000 % 100 / 10) (by omega) p1 (by omega)
      have p3 := put 2 _ (48 + L % 10000 / 100 % 10) (by omega) p2 (by omega)
      have p4 := put 3 _ (48 + L % 10000 / 100 / 10) (by omega) p3 (by omega)
      have p5 := put 4 _ (48 + L / 10000 % 100 % 10) (by omega) p4 (by omega)
      have p6 := put 5 _ (48 + L / 10000 % 100 / 10) (by omega) p5 (by omega)
      have p7 := put 6 _ (48 + L / 10000 / 100 % 10) (by omega) p6 (by omega)
      have p8 := put 7 _ (48 + L / 10000 / 100 / 10) (by omega) p7 (by omega)
      refine ih f (nd - 8) _ (by omega) (by omega) (by omega) p8 ?_
      rw [← hq]; omega

end Go.Ev
end

section
/-
  FUNCTION 43: printed by a program of our own (wip/gen/st.py). 'slices.Reverse[[]string,string]', in continuation form; the evaluator gives it.
-/
set_option linter.all false
set_option maxRecDepth 100000
namespace Go.Ev
open Go.Proofs
variable {A : Type}

-- ============================================================ reverse (function 43)
def reverse_b0 (n : Nat) (k0 : (List ByteArray) → Option A) (r : Int → Int → (List ByteArray) → Option A) (i : Int) (j : Int) (s : (List ByteArray)) : Option A :=
  bif (decide (i < j)) then
    if 0 ≤ j then
      if j < (s.length : Int) then
        (s[(Int.toNat j)]?).bind fun y1 =>
        if 0 ≤ i then
          if i < (s.length : Int) then
            (s[(Int.toNat i)]?).bind fun y2 =>
            if 0 ≤ i then
              if i < (s.length : Int) then
                if (Int.toNat i) < s.length then
                  if 0 ≤ j then
                    if j < ((s.set (Int.toNat i) y1).length : Int) then
                      if (Int.toNat j) < (s.set (Int.toNat i) y1).length then
                        r (IntKind.wrap .i64 (i + 1)) (IntKind.wrap .i64 (j - 1)) ((s.set (Int.toNat i) y1).set (Int.toNat j) y2)
                      else none
                    else none
                  else none
                else none
              else none
            else none
          else none
        else none
      else none
    else none
  else
    k0 s

def reverse_l0 (n : Nat) (k0 : (List ByteArray) → Option A) : Nat → Int → Int → (List ByteArray) → Option A
  | 0 => fun _ _ _ => none
  | f + 1 => reverse_b0 n k0 (reverse_l0 n k0 f)

def reverse_p (n : Nat) (s : (List ByteArray)) (k : (List ByteArray) → Option A) : Option A :=
  reverse_l0 n (fun y3 =>
    k y3) n 0 (IntKind.wrap .i64 ((s.length : Int) - 1)) s

def reverse_k (n : Nat) (s : (List ByteArray)) (k : (List ByteArray) → Option A) : Option A := reverse_p n s k

noncomputable def reverse_c0 : Code := codeAt [1, 0, 0] (bodyOf Tryd.f43)
def reverse_d0 : List Nat := [4, 5, 6, 7, 8, 9, 10, 11, 12, 13, 14, 15, 16, 17, 18, 19, 20, 21, 22, 23, 24, 25, 26, 27]
def reverse_y0 : List Nat := [0, 1, 2, 3, 4, 5, 6, 7, 8, 9, 10, 11, 12, 13, 14, 15, 16, 17, 18, 19, 20, 21, 22, 23, 24, 25, 26, 27]
def reverse_sh0 : Shape := ⟨[(.row 0), .any, (.p (.int .i64)), (.p (.int .i64)), .any, .any, .any, .any, .any, .any, .any, .any, .any, .any, .any, .any, .any, .any, .any, .any, .any, .any, .any, .any, .any, .any, .any, .any], [(.row 9 .str)], 1⟩
def reverse_t0 (i : Int) (j : Int) (s : (List ByteArray)) : reverse_sh0.den := (((), (), i, j, (), (), (), (), (), (), (), (), (), (), (), (), (), (), (), (), (), (), (), (), (), (), (), (), ()), (s, ()))
def reverse_x0_0 (z0 : (List ByteArray)) : St := ⟨[.any, .any, .any, .any, .any, .any, .any, .any, .any, .any, .any, .any, .any, .any, .any, .any, .any, .any, .any, .any, .any, .any, .any, .any, .any, .any, .any, .any], [.row 9 .str z0], 1⟩
def reverse_g0 (n : Nat) (d : reverse_sh0.den) (k : Ex → St → Option A) : Option A :=
  reverse_l0 n (fun z0 => k (.exit 0) (reverse_x0_0 z0)) n d.1.2.2.1 d.1.2.2.2.1 d.2.1
noncomputable def reverse_E (n : Nat) : Env A := ⟨tys, gls, [], [(0, loopE reverse_d0 reverse_sh0 (reverse_g0 n))], []⟩
theorem reverse_T {A : Type} (n : Nat) : TyOK Tryd.prog (reverse_E (A := A) n) := tyOK_of rfl tysB
theorem reverse_fns (n : Nat) : FnsOK Tryd.prog (reverse_E (A := A) n) := AllOK.env rfl rfl AllOK.nil
noncomputable def reverse_LK0 (n : Nat) (k : Ex → St → Option A) (f : Nat) (i : Int) (j : Int) (s : (List ByteArray)) : Option A := loopK (codeK (reverse_E n) 1 reverse_c0) reverse_d0 reverse_y0 f (reverse_sh0.fill (reverse_t0 i j s)) k
theorem reverse_st0 (n f : Nat) (k : Ex → St → Option A) (i : Int) (j : Int) (s : (List ByteArray)) : reverse_LK0 n k (f + 1) i j s = reverse_b0 n (fun z0 => k (.exit 0) (reverse_x0_0 z0)) (reverse_LK0 n k f) i j s := by kernel_rfl
theorem reverse_le0 (n : Nat) (k : Ex → St → Option A) : ∀ (f : Nat) (i : Int) (j : Int) (s : (List ByteArray)), reverse_LK0 n k f i j s = reverse_l0 n (fun z0 => k (.exit 0) (reverse_x0_0 z0)) f i j s := by
  intro f
  induction f with
  | zero => intros; kernel_rfl
  | succ f ih => intro i j s; exact (reverse_st0 n f k i j s).trans ((congrArg (fun r => reverse_b0 n (fun z0 => k (.exit 0) (reverse_x0_0 z0)) r i j s) (funext fun i => funext fun j => funext fun s => ih i j s)).trans (by kernel_rfl))
theorem reverse_lo0 (n : Nat) : LoopOK Tryd.prog gls reverse_c0 (loopE reverse_d0 reverse_sh0 (reverse_g0 (A := A) n)) :=
  LoopOK.of (reverse_T n) (reverse_fns n) follows (j := 1) (n := n) (xdead := reverse_y0) (lo_of (by kernel_rfl : loopsOf 1 reverse_c0 = []) lo_nil) fun d k => Eq.trans (by kernel_rfl) (reverse_le0 n k n d.1.2.2.1 d.1.2.2.2.1 d.2.1)
theorem reverse_eqg (n : Nat) (s : (List ByteArray)) (k : AV → List Blk → Option A) : fnK (reverse_E n) Tryd.f43 [] [.row 0] [.row 9 .str s] k = reverse_p n s (fun r0 => k (.tup []) [.row 9 .str r0]) := by kernel_rfl
theorem reverse_eq (n : Nat) (s : (List ByteArray)) (k : AV → List Blk → Option A) : fnK (reverse_E n) Tryd.f43 [] [.row 0] [.row 9 .str s] k = reverse_k n s (fun r0 => k (.tup []) [.row 9 .str r0]) := reverse_eqg n s k
def reverse_sh : Shape := ⟨[(.row 0)], [(.row 9 .str)], 1⟩
def reverse_ent (g : (List ByteArray) → ((List ByteArray) → Option A) → Option A) : Entry A := ownE [true] reverse_sh fun d k => g d.2.1 (fun r0 => k (.tup []) [.row 9 .str r0])
theorem reverse_lo (n : Nat) : ∀ c, Tryd.f43.body = some c → ∀ q ∈ loopsOf 0 c, ∀ L, (reverse_E (A := A) n).lps.lookup q.1 = some L → LoopOK Tryd.prog gls q.2 L :=
  lo_body (E := reverse_E n) (by kernel_rfl : Tryd.f43.body = some (bodyOf Tryd.f43)) (lo_of (E := reverse_E n) (by kernel_rfl : loopsOf 0 (bodyOf Tryd.f43) = [(0, reverse_c0)]) (lo_cons rfl (reverse_lo0 n) lo_nil))
theorem reverse_ok (n : Nat) : FnOK Tryd.prog gls 43 (reverse_ent (A := A) (reverse_k n)) :=
  FnOK.ofOwn (reverse_T n) (reverse_fns n) follows ⟨Tryd.func43, by kernel_rfl⟩ (reverse_lo n) (rm := []) (S := reverse_sh) fun d k => Eq.trans (by kernel_rfl) (reverse_eq n d.2.1 k)

end Go.Ev
end

section
/-
  THE LIBRARY'S DECIMAL TEXT of a word, on.
-/
set_option linter.all false
namespace Go.Ev
variable {A : Type}

theorem told_start (X N : Nat) : Told X N N (List.replicate 24 0) := ⟨by simp, fun j h1 h2 => by omega⟩

theorem fmt10_law (n N X : Nat) (hn : 10 < n) (h0 : 0 < N) (hN : N ≤ 20) (hX : X < 10 ^ N) (hX64 : X < 18446744073709551616) (g : List Int → Option A) :
    ∃ a, Told X N 0 a ∧ fmt10_k n 0 N (X : Int) (List.replicate 24 (0 : Int)) g = g (ints a) := by
  unfold fmt10_k fmt10_p
  have hz : List.replicate 24 (0 : Int) = ints (List.replicate 24 0) := by simp [ints]
  rw [hz]
  have step := fun k0 => fmt10_l0_law (A := A) n N X hN k0 2 n N (List.replicate 24 0) (Nat.le_refl _) (by omega) (by omega) (told_start X N) (by rw [Nat.sub_self, Nat.pow_zero, Nat.div_one]; exact hX64)
  rw [Nat.sub_self, Nat.pow_zero, Nat.div_one] at step
  obtain ⟨nd, a, h1, h2, h3, h4⟩ := step _
  rw [h4]
  clear h4 step
  have hat := at_up X N nd
  have hu : X / 10 ^ (N - nd) < 10 ^ nd := by
    rw [Nat.div_lt_iff_lt_mul (pow10_pos _), ← Nat.pow_add]
    rw [show nd + (N - nd) = N from by omega]; exact hX
  generalize hU : X / 10 ^ (N - nd) = u at *
  have hu7 : u < 10000000 := Nat.lt_of_lt_of_le hu (Nat.le_trans (Nat.pow_le_pow_right (by decide) (show nd ≤ 7 by omega)) (by decide))
  have eL : IntKind.wrap .u32 (u : Int) = (u : Int) := by rw [wrap_u32]; omega
  have eA : Int.tmod (u : Int) 10000 = ((u % 10000 : Nat) : Int) := tm u 10000
  have eB : IntKind.wrap .u32 (Int.tdiv (u : Int) 10000) = ((u / 10000 : Nat) : Int) := td32 u 10000 (by omega)
  have eC : Int.tmod ((u % 10000 : Nat) : Int) 100 = ((u % 10000 % 100 : Nat) : Int) := tm _ 100
  have eD : IntKind.wrap .u32 (Int.tdiv ((u % 10000 : Nat) : Int) 100) = ((u % 10000 / 100 : Nat) : Int) := td32 _ 100 (by omega)
  have eE : Int.tmod ((u / 10000 : Nat) : Int) 100 = ((u / 10000 % 100 : Nat) : Int) := tm _ 100
  have eF : IntKind.wrap .u32 (Int.tdiv ((u / 10000 : Nat) : Int) 100) = ((u / 10000 / 100 : Nat) : Int) := td32 _ 100 (by omega)
  have eG : Int.tmod (u : Int) 100 = ((u % 100 : Nat) : Int) := tm u 100
  have eH : IntKind.wrap .u32 (Int.tdiv (u : Int) 100) = ((u / 100 : Nat) : Int) := td32 u 100 (by omega)
  have g1 : u % 10000 % 100 < 100 := by omega
  have g2 : u % 10000 / 100 < 100 := by omega
  have g3 : u / 10000 % 100 < 100 := by omega
  have g5 : u % 100 < 100 := by omega
  have w : ∀ t, t ≤ nd → IntKind.wrap .i64 ((nd : Int) - (t : Nat)) = ((nd - t : Nat) : Int) := fun t ht => by rw [wrap_id (by omega) (by omega)]; omega
  have one : ∀ d : Nat, d < 10 → IntKind.wrap .u8 (IntKind.wrap .u32 (48 + (d : Int))) = ((48 + d : Nat) : Int) := fun d hd => by rw [wrap_u32, wrap_u8]; omega
  have put : ∀ (t : Nat) (b : List Nat) (v : Nat), t < nd → Told X N (nd - t) b → v = 48 + u / 10 ^ t % 10 → Told X N (nd - (t + 1)) (b.set (nd - (t + 1)) v) := by
    intro t b v h3 h4 h5
    have e : nd - t = nd - (t + 1) + 1 := by omega
    rw [e] at h4
    refine h4.put (by omega) (by omega) v ?_
    have e2 : nd - 1 - t = nd - (t + 1) := by omega
    rw [h5, ← hat t (by omega) h1, e2]
  by_cases c4 : 4 ≤ nd
  · have w1 : IntKind.wrap .i64 ((nd : Int) - 1) = ((nd - 1 : Nat) : Int) := w 1 (by omega)
    have w2 : IntKind.wrap .i64 ((nd : Int) - 2) = ((nd - 2 : Nat) : Int) := w 2 (by omega)
    have w3 : IntKind.wrap .i64 ((nd : Int) - 3) = ((nd - 3 : Nat) : Int) := w 3 (by omega)
    have w4 : IntKind.wrap .i64 ((nd : Int) - 4) = ((nd - 4 : Nat) : Int) := w 4 (by omega)
    have p1 := put 0 a (48 + u % 10000 % 100 % 10) (by omega) h3 (by rw [Nat.pow_zero, Nat.div_one]; omega)
    have p2 := put 1 _ (48 + u % 10000 % 100 / 10) (by omega) p1 (by omega)
    have p3 := put 2 _ (48 + u % 10000 / 100 % 10) (by omega) p2 (by omega)
    have p4 := put 3 _ (48 + u % 10000 / 100 / 10) (by omega) p3 (by omega)
    simp only [eL, eA, eB, eC, eD, eE, eF, w1, w2, w3, w4]
    rw [decide_eq_true (by omega), cond_true, ix0 _ g1, ix0 _ g2, ix1 _ g1, ix1 _ g2]
    simp only [Int.toNat_natCast]
    rw [(pair_at _ g1).1, (pair_at _ g1).2, (pair_at _ g2).1, (pair_at _ g2).2]
    simp only [Option.bind_some, Nat.zero_add]
    repeat rw [if_pos (by omega)]
    by_cases c6 : 6 ≤ nd
    · have w5 : IntKind.wrap .i64 (((nd - 4 : Nat) : Int) - 1) = ((nd - 5 : Nat) : Int) := by rw [wrap_id (by omega) (by omega)]; omega
      have w6 : IntKind.wrap .i64 (((nd - 4 : Nat) : Int) - 2) = ((nd - 6 : Nat) : Int) := by rw [wrap_id (by omega) (by omega)]; omega
      have p5 := put 4 _ (48 + u / 10000 % 100 % 10) (by omega) p4 (by omega)
      have p6 := put 5 _ (48 + u / 10000 % 100 / 10) (by omega) p5 (by omega)
      simp only [w5, w6]
      rw [decide_eq_true (by omega), cond_true, ix0 _ g3, ix1 _ g3]
      simp only [Int.toNat_natCast]
      rw [(pair_at _ g3).1, (pair_at _ g3).2]
      simp only [Option.bind_some]
      repeat rw [if_pos (by omega)]
      by_cases c7 : 7 ≤ nd
      · have p7 := put 6 _ (48 + u / 10000 / 100) (by omega) p6 (by omega)
        rw [decide_eq_true (by omega), cond_true]
        repeat rw [if_pos (by omega)]
        rw [one _ (by omega)]
        simp only [ints_set]
        have e7 : nd - (6 + 1) = 0 := by omega
        rw [e7] at p7
        exact ⟨_, p7, rfl⟩
      · rw [decide_eq_false (by omega), cond_false]
        simp only [ints_set]
        have e6 : nd - (5 + 1) = 0 := by omega
        exact ⟨_, e6 ▸ p6, rfl⟩
    · rw [decide_eq_false (by omega), cond_false]
      by_cases c5 : 5 ≤ nd
      · have hu5 : u / 10000 < 10 := by
          have : 10 ^ nd ≤ 10 ^ 5 := Nat.pow_le_pow_right (by decide) (by omega)
          omega
        have p5 := put 4 _ (48 + u / 10000) (by omega) p4 (by omega)
        rw [decide_eq_true (by omega), cond_true]
        repeat rw [if_pos (by omega)]
        rw [one _ hu5]
        simp only [ints_set]
        have e7 : nd - (4 + 1) = 0 := by omega
        rw [e7] at p5
        exact ⟨_, p5, rfl⟩
      · rw [decide_eq_false (by omega), cond_false]
        simp only [ints_set]
        have e6 : nd - (3 + 1) = 0 := by omega
        exact ⟨_, e6 ▸ p4, rfl⟩
  · have hu3 : u < 1000 := Nat.lt_of_lt_of_le hu (Nat.le_trans (Nat.pow_le_pow_right (by decide) (show nd ≤ 3 by omega)) (by decide))
    simp only [eL, eG, eH]
    rw [decide_eq_false (by omega), cond_false]
    by_cases c2 : 2 ≤ nd
    · have w1 : IntKind.wrap .i64 ((nd : Int) - 1) = ((nd - 1 : Nat) : Int) := w 1 (by omega)
      have w2 : IntKind.wrap .i64 ((nd : Int) - 2) = ((nd - 2 : Nat) : Int) := w 2 (by omega)
      have p1 := put 0 a (48 + u % 100 % 10) (by omega) h3 (by rw [Nat.pow_zero, Nat.div_one]; omega)
      have p2 := put 1 _ (48 + u % 100 / 10) (by omega) p1 (by omega)
      simp only [w1, w2]
      rw [decide_eq_true (by omega), cond_true, ix0 _ g5, ix1 _ g5]
      simp only [Int.toNat_natCast]
      rw [(pair_at _ g5).1, (pair_at _ g5).2]
      simp only [Option.bind_some, Nat.zero_add]
      repeat rw [if_pos (by omega)]
      by_cases c3 : 3 ≤ nd
      · have p3 := put 2 _ (48 + u / 100) (by omega) p2 (by omega)
        rw [decide_eq_true (by omega), cond_true]
        repeat rw [if_pos (by omega)]
        rw [one _ (by omega)]
        simp only [ints_set]
        have e7 : nd - (2 + 1) = 0 := by omega
        rw [e7] at p3
        exact ⟨_, p3, rfl⟩
      · rw [decide_eq_false (by omega), cond_false]
        simp only [ints_set]
        have e6 : nd - (1 + 1) = 0 := by omega
        exact ⟨_, e6 ▸ p2, rfl⟩
    · rw [decide_eq_false (by omega), cond_false]
      by_cases c1 : 1 ≤ nd
      · have hu1 : u < 10 := by
          have : 10 ^ nd ≤ 10 ^ 1 := Nat.pow_le_pow_right (by decide) (by omega)
          omega
        have p1 := put 0 a (48 + u) (by omega) h3 (by rw [Nat.pow_zero, Nat.div_one]; omega)
        rw [decide_eq_true (by omega), cond_true]
        repeat rw [if_pos (by omega)]
        rw [one _ hu1]
        simp only [ints_set, Nat.zero_add]
        have e7 : nd - (0 + 1) = 0 := by omega
        rw [e7] at p1
        exact ⟨_, p1, rfl⟩
      · rw [decide_eq_false (by omega), cond_false]
        have e : nd = 0 := by omega
        subst e
        exact ⟨_, h3, rfl⟩

theorem told_fd {X N : Nat} {a : List Nat} (h : Told X N 0 a) (hN : N ≤ 24) : a.take N = fd N X := by
  apply List.ext_getElem?
  intro j
  by_cases hj : j < N
  · rw [List.getElem?_take, if_pos hj, h.2 j (by omega) hj, fd_get N X j hj]
  · rw [List.getElem?_eq_none (by rw [List.length_take, h.1]; omega), List.getElem?_eq_none (by rw [fd_length]; omega)]

theorem fmt_law (n X : Nat) (hn : 10 < n) (hX : X < 18446744073709551616) (g : ByteArray → Option A) : fmt_k n (X : Int) 10 g = g (tb (dec X)) := by
  unfold fmt_k fmt_p ifmt_k ifmt_p
  rw [show ((10 : Int) == 10) = true from rfl, cond_true]
  by_cases h : X < 100
  · rw [decide_eq_true (by omega), cond_true, wrap_id (by omega) (by omega), small_law n X h]
  · obtain ⟨k, h1, h2, h3, h4, h5⟩ := numdig_law n X hX (by omega) (fun r2 =>
      if 0 ≤ r2 then
        if r2 ≤ 24 then
          fmt10_k n 0 ((Int.toNat r2) - 0) (X : Int) (List.replicate 24 (0 : Int)) fun r3 =>
          if 0 ≤ r2 then
            if r2 ≤ 24 then
              g (mkStr ((r3.drop 0).take ((Int.toNat r2) - 0)))
            else none
          else none
        else none
      else none)
    rw [decide_eq_false (by omega), cond_false]
    refine h5.trans ?_
    rw [if_pos (by omega), if_pos (by omega), Int.toNat_natCast, Nat.sub_zero]
    obtain ⟨a, g1, g2⟩ := fmt10_law n k X hn h1 h2 h3 hX (fun r3 =>
          if 0 ≤ (k : Int) then
            if (k : Int) ≤ 24 then
              g (mkStr ((r3.drop 0).take k))
            else none
          else none)
    refine g2.trans ?_
    rw [if_pos (by omega), if_pos (by omega), List.drop_zero, ints_take, told_fd g1 (by omega), dec_fd k X h1 h3 (by
      by_cases hk : k = 1
      · exact .inl hk
      · exact .inr h4)]
    rfl

-- ------------------------------------------------------------ parts, from the last one on

theorem reverse_law (n : Nat) (hn : 10 < n) (l : List ByteArray) (hl : l.length ≤ 5) (g : List ByteArray → Option A) : reverse_k n l g = g l.reverse := by
  obtain ⟨m, rfl⟩ : ∃ m, n = m + 11 := ⟨n - 11, by omega⟩
  match l, hl with
  | [], _ => rfl
  | [a], _ => rfl
  | [a, b], _ => rfl
  | [a, b, c], _ => rfl
  | [a, b, c, d], _ => rfl
  | [a, b, c, d, e], _ => rfl
  | _ :: _ :: _ :: _ :: _ :: _ :: _, h => simp at h

end Go.Ev
end

