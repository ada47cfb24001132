import Derived.Test.YtpblkfccnaapbaaDoorProg
import Derived.Test.YtpblkfccnaapbaaDoorB4
import Derived.KernelRfl
import Derived.Test.YtpblkfccnaapbaaDoorB0
set_option linter.all false
section
/-
  TYPES: printed by a program of our own (wip/gen/st.py). The types that the functions' code names, as kinds.
-/
set_option linter.all false
namespace Go.Ev
open Go.Proofs

abbrev kA4u64 : Kind := (.arr 4 (.int .u64))
abbrev kA32u8 : Kind := (.arr 32 (.int .u8))
abbrev kA24u8 : Kind := (.arr 24 (.int .u8))
abbrev kA20u64 : Kind := (.arr 20 (.int .u64))
def str0 : ByteArray := ⟨List.toArray (((([0, 1, 2, 2, 3, 3, 3, 3, 4, 4, 4, 4, 4, 4, 4, 4, 5, 5, 5, 5, 5, 5, 5, 5, 5, 5, 5, 5, 5, 5, 5, 5, 6, 6, 6, 6, 6, 6, 6, 6, 6, 6, 6, 6, 6, 6, 6, 6, 6, 6, 6, 6, 6, 6, 6, 6, 6, 6, 6, 6, 6, 6, 6, 6] : List UInt8) ++ ([7, 7, 7, 7, 7, 7, 7, 7, 7, 7, 7, 7, 7, 7, 7, 7, 7, 7, 7, 7, 7, 7, 7, 7, 7, 7, 7, 7, 7, 7, 7, 7, 7, 7, 7, 7, 7, 7, 7, 7, 7, 7, 7, 7, 7, 7, 7, 7, 7, 7, 7, 7, 7, 7, 7, 7, 7, 7, 7, 7, 7, 7, 7, 7] : List UInt8)) ++ (([8, 8, 8, 8, 8, 8, 8, 8, 8, 8, 8, 8, 8, 8, 8, 8, 8, 8, 8, 8, 8, 8, 8, 8, 8, 8, 8, 8, 8, 8, 8, 8, 8, 8, 8, 8, 8, 8, 8, 8, 8, 8, 8, 8, 8, 8, 8, 8, 8, 8, 8, 8, 8, 8, 8, 8, 8, 8, 8, 8, 8, 8, 8, 8] : List UInt8) ++ ([8, 8, 8, 8, 8, 8, 8, 8, 8, 8, 8, 8, 8, 8, 8, 8, 8, 8, 8, 8, 8, 8, 8, 8, 8, 8, 8, 8, 8, 8, 8, 8, 8, 8, 8, 8, 8, 8, 8, 8, 8, 8, 8, 8, 8, 8, 8, 8, 8, 8, 8, 8, 8, 8, 8, 8, 8, 8, 8, 8, 8, 8, 8, 8] : List UInt8))) : List UInt8)⟩
def str1 : ByteArray := ⟨#[48]⟩
def str2 : ByteArray := ⟨#[48, 49, 50, 51, 52, 53, 54, 55, 56, 57, 97, 98, 99, 100, 101, 102, 103, 104, 105, 106, 107, 108, 109, 110, 111, 112, 113, 114, 115, 116, 117, 118, 119, 120, 121, 122]⟩
def str3 : ByteArray := ⟨List.toArray (((([48, 48, 48, 49, 48, 50, 48, 51, 48, 52, 48, 53, 48, 54, 48, 55, 48, 56, 48, 57, 49, 48, 49, 49, 49, 50, 49, 51, 49, 52, 49, 53, 49, 54, 49, 55, 49, 56, 49, 57, 50, 48, 50, 49, 50, 50, 50, 51, 50, 52] : List UInt8) ++ ([50, 53, 50, 54, 50, 55, 50, 56, 50, 57, 51, 48, 51, 49, 51, 50, 51, 51, 51, 52, 51, 53, 51, 54, 51, 55, 51, 56, 51, 57, 52, 48, 52, 49, 52, 50, 52, 51, 52, 52, 52, 53, 52, 54, 52, 55, 52, 56, 52, 57] : List UInt8)) ++ (([53, 48, 53, 49, 53, 50, 53, 51, 53, 52, 53, 53, 53, 54, 53, 55, 53, 56, 53, 57, 54, 48, 54, 49, 54, 50, 54, 51, 54, 52, 54, 53, 54, 54, 54, 55, 54, 56, 54, 57, 55, 48, 55, 49, 55, 50, 55, 51, 55, 52] : List UInt8) ++ ([55, 53, 55, 54, 55, 55, 55, 56, 55, 57, 56, 48, 56, 49, 56, 50, 56, 51, 56, 52, 56, 53, 56, 54, 56, 55, 56, 56, 56, 57, 57, 48, 57, 49, 57, 50, 57, 51, 57, 52, 57, 53, 57, 54, 57, 55, 57, 56, 57, 57] : List UInt8))) : List UInt8)⟩
def gl2 : (List Int) := [1, 10, 100, 1000, 10000, 100000, 1000000, 10000000, 100000000, 1000000000, 10000000000, 100000000000, 1000000000000, 10000000000000, 100000000000000, 1000000000000000, 10000000000000000, 100000000000000000, 1000000000000000000, 10000000000000000000]
def gls : GL := [(2, ⟨kA20u64, gl2⟩)]
def tys : List (TypeId × TI) := [(3, ⟨(.int .i64), .prim, 8, true⟩), (4, ⟨.bool, .prim, 1, true⟩), (5, ⟨(.int .u8), .prim, 1, true⟩), (9, ⟨.str, .prim, 16, true⟩), (22, ⟨(.int .u64), .prim, 8, true⟩), (23, ⟨kA4u64, (.array 4 22), 32, true⟩), (24, ⟨kA4u64, (.array 4 22), 32, true⟩), (30, ⟨(.sl (.int .i64)), (.slice 3), 24, false⟩), (51, ⟨kA32u8, (.array 32 5), 32, true⟩), (58, ⟨(.int .u64), .prim, 8, true⟩), (64, ⟨(.sl (.int .u64)), (.slice 22), 24, false⟩), (65, ⟨(.sl .str), (.slice 9), 24, false⟩), (68, ⟨(.sl (.int .u8)), (.slice 5), 24, false⟩), (76, ⟨kA24u8, (.array 24 5), 24, true⟩), (82, ⟨kA20u64, (.array 20 22), 160, true⟩), (83, ⟨(.int .u32), .prim, 4, true⟩)]
theorem tysB : tys.all (tyB Tryd.prog tys) = true := by kernel_rfl
theorem follows : Tryd.prog.follows .mixedOrders = true := by kernel_rfl
end Go.Ev
end

section
/-
  FUNCTION 21: printed by a program of our own (wip/gen/st.py). '(masthead/wide.U).Shl', in continuation form; the evaluator gives it.
-/
set_option linter.all false
set_option maxRecDepth 100000
namespace Go.Ev
open Go.Proofs
variable {A : Type}

-- ============================================================ ushl (function 21)
def ushl_b0 (n : Nat) (n_ : Int) (s : Int) (a : (List Int)) (t4 : (List Int)) (k0 : (List Int) → Option A) (r : Int → (List Int) → Option A) (i : Int) (out : (List Int)) : Option A :=
  bif (decide (i ≥ n_)) then
    if 0 ≤ (IntKind.wrap .i64 (i - n_)) then
      if (IntKind.wrap .i64 (i - n_)) < 4 then
        (a[(Int.toNat (IntKind.wrap .i64 (i - n_)))]?).bind fun y1 =>
        if s < 0 then none else
        if 0 ≤ i then
          if i < 4 then
            if (Int.toNat i) < 4 then
              bif (decide (i > n_)) then
                bif (decide (s > 0)) then
                  if 0 ≤ i then
                    if i < 4 then
                      ((out.set (Int.toNat i) (shl .u64 y1 s))[(Int.toNat i)]?).bind fun y2 =>
                      if 0 ≤ (IntKind.wrap .i64 ((IntKind.wrap .i64 (i - n_)) - 1)) then
                        if (IntKind.wrap .i64 ((IntKind.wrap .i64 (i - n_)) - 1)) < 4 then
                          (a[(Int.toNat (IntKind.wrap .i64 ((IntKind.wrap .i64 (i - n_)) - 1)))]?).bind fun y3 =>
                          if (IntKind.wrap .i64 (64 - s)) < 0 then none else
                          if 0 ≤ i then
                            if i < 4 then
                              if (Int.toNat i) < 4 then
                                r (IntKind.wrap .i64 (i - 1)) ((out.set (Int.toNat i) (shl .u64 y1 s)).set (Int.toNat i) (ior .u64 y2 (shr .u64 y3 (IntKind.wrap .i64 (64 - s)))))
                              else none
                            else none
                          else none
                        else none
                      else none
                    else none
                  else none
                else
                  r (IntKind.wrap .i64 (i - 1)) (out.set (Int.toNat i) (shl .u64 y1 s))
              else
                r (IntKind.wrap .i64 (i - 1)) (out.set (Int.toNat i) (shl .u64 y1 s))
            else none
          else none
        else none
      else none
    else none
  else
    k0 out

def ushl_l0 (n : Nat) (n_ : Int) (s : Int) (a : (List Int)) (t4 : (List Int)) (k0 : (List Int) → Option A) : Nat → Int → (List Int) → Option A
  | 0 => fun _ _ => none
  | f + 1 => ushl_b0 n n_ s a t4 k0 (ushl_l0 n n_ s a t4 k0 f)

def ushl_p (n : Nat) (a0 : (List Int)) (a1 : Int) (k : (List Int) → Option A) : Option A :=
  bif (decide ((imax a1 0) ≥ 256)) then
    k [0, 0, 0, 0]
  else
    ushl_l0 n (IntKind.wrap .i64 (Int.tdiv (imax a1 0) 64)) (Int.tmod (imax a1 0) 64) a0 [0, 0, 0, 0] (fun y4 =>
      k y4) n 3 [0, 0, 0, 0]

def ushl_k (n : Nat) (a0 : (List Int)) (a1 : Int) (k : (List Int) → Option A) : Option A := ushl_p n a0 a1 k

noncomputable def ushl_c0 : Code := codeAt [1, 1, 1, 1, 0, 1, 0, 0] (bodyOf Tryd.f21)
def ushl_d0 : List Nat := [0, 1, 9, 10, 11, 12, 14, 15, 16, 17, 18, 19, 20, 21, 22, 23, 24, 25, 26, 27, 28, 29, 30, 31, 32, 33, 34, 35, 36, 37, 38, 39, 40, 41, 42, 43, 44, 45, 46, 47, 48, 49, 50, 51, 52]
def ushl_y0 : List Nat := [0, 1, 2, 3, 6, 7, 8, 9, 10, 11, 12, 13, 14, 15, 16, 17, 18, 19, 20, 21, 22, 23, 24, 25, 26, 27, 28, 29, 30, 31, 32, 33, 34, 35, 36, 37, 38, 39, 40, 41, 42, 43, 44, 45, 46, 47, 48, 49, 50, 51, 52, 53]
def ushl_sh0 : Shape := ⟨[.any, .any, (.ptr 0), .any, (.ptr 1), (.ptr 2), (.p (.int .i64)), (.p (.int .i64)), (.p (.int .i64)), .any, .any, .any, .any, .any, .any, .any, .any, .any, .any, .any, .any, .any, .any, .any, .any, .any, .any, .any, .any, .any, .any, .any, .any, .any, .any, .any, .any, .any, .any, .any, .any, .any, .any, .any, .any, .any, .any, .any, .any, .any, .any, .any, .any, .any], [(.var 24 kA4u64 (.p kA4u64)), (.var 24 kA4u64 (.p kA4u64)), (.var 24 kA4u64 (.p kA4u64))], 0⟩
def ushl_t0 (n_ : Int) (s : Int) (a : (List Int)) (t4 : (List Int)) (i : Int) (out : (List Int)) : ushl_sh0.den := (((), (), (), (), (), (), n_, s, i, (), (), (), (), (), (), (), (), (), (), (), (), (), (), (), (), (), (), (), (), (), (), (), (), (), (), (), (), (), (), (), (), (), (), (), (), (), (), (), (), (), (), (), (), (), ()), (a, t4, out, ()))
def ushl_x0_0 (n_ : Int) (s : Int) (a : (List Int)) (t4 : (List Int)) (z1 : (List Int)) : St := ⟨[.any, .any, .any, .any, .ptr 0 [], .ptr 1 [], .any, .any, .any, .any, .any, .any, .any, .any, .any, .any, .any, .any, .any, .any, .any, .any, .any, .any, .any, .any, .any, .any, .any, .any, .any, .any, .any, .any, .any, .any, .any, .any, .any, .any, .any, .any, .any, .any, .any, .any, .any, .any, .any, .any, .any, .any, .any, .any], [.var 24 kA4u64 (.p kA4u64 t4), .var 24 kA4u64 (.p kA4u64 z1)], 0⟩
def ushl_g0 (n : Nat) (d : ushl_sh0.den) (k : Ex → St → Option A) : Option A :=
  ushl_l0 n d.1.2.2.2.2.2.2.1 d.1.2.2.2.2.2.2.2.1 d.2.1 d.2.2.1 (fun z1 => k (.exit 0) (ushl_x0_0 d.1.2.2.2.2.2.2.1 d.1.2.2.2.2.2.2.2.1 d.2.1 d.2.2.1 z1)) n d.1.2.2.2.2.2.2.2.2.1 d.2.2.2.1
noncomputable def ushl_E (n : Nat) : Env A := ⟨tys, gls, [], [(0, loopE ushl_d0 ushl_sh0 (ushl_g0 n))], []⟩
theorem ushl_T {A : Type} (n : Nat) : TyOK Tryd.prog (ushl_E (A := A) n) := tyOK_of rfl tysB
theorem ushl_fns (n : Nat) : FnsOK Tryd.prog (ushl_E (A := A) n) := AllOK.env rfl rfl AllOK.nil
noncomputable def ushl_LK0 (n : Nat) (n_ : Int) (s : Int) (a : (List Int)) (t4 : (List Int)) (k : Ex → St → Option A) (f : Nat) (i : Int) (out : (List Int)) : Option A := loopK (codeK (ushl_E n) 1 ushl_c0) ushl_d0 ushl_y0 f (ushl_sh0.fill (ushl_t0 n_ s a t4 i out)) k
theorem ushl_st0 (n f : Nat) (n_ : Int) (s : Int) (a : (List Int)) (t4 : (List Int)) (k : Ex → St → Option A) (i : Int) (out : (List Int)) : ushl_LK0 n n_ s a t4 k (f + 1) i out = ushl_b0 n n_ s a t4 (fun z1 => k (.exit 0) (ushl_x0_0 n_ s a t4 z1)) (ushl_LK0 n n_ s a t4 k f) i out := by kernel_rfl
theorem ushl_le0 (n : Nat) (n_ : Int) (s : Int) (a : (List Int)) (t4 : (List Int)) (k : Ex → St → Option A) : ∀ (f : Nat) (i : Int) (out : (List Int)), ushl_LK0 n n_ s a t4 k f i out = ushl_l0 n n_ s a t4 (fun z1 => k (.exit 0) (ushl_x0_0 n_ s a t4 z1)) f i out := by
  intro f
  induction f with
  | zero => intros; kernel_rfl
  | succ f ih => intro i out; exact (ushl_st0 n f n_ s a t4 k i out).trans ((congrArg (fun r => ushl_b0 n n_ s a t4 (fun z1 => k (.exit 0) (ushl_x0_0 n_ s a t4 z1)) r i out) (funext fun i => funext fun out => ih i out)).trans (by kernel_rfl))
theorem ushl_lo0 (n : Nat) : LoopOK Tryd.prog gls ushl_c0 (loopE ushl_d0 ushl_sh0 (ushl_g0 (A := A) n)) :=
  LoopOK.of (ushl_T n) (ushl_fns n) follows (j := 1) (n := n) (xdead := ushl_y0) (lo_of (by kernel_rfl : loopsOf 1 ushl_c0 = []) lo_nil) fun d k => Eq.trans (by kernel_rfl) (ushl_le0 n d.1.2.2.2.2.2.2.1 d.1.2.2.2.2.2.2.2.1 d.2.1 d.2.2.1 k n d.1.2.2.2.2.2.2.2.2.1 d.2.2.2.1)
theorem ushl_eqg (n : Nat) (a0 : (List Int)) (a1 : Int) (k : AV → List Blk → Option A) : fnK (ushl_E n) Tryd.f21 [.pure] [.p kA4u64 a0, .p (.int .i64) a1] [] k = ushl_p n a0 a1 (fun r0 => k (.p kA4u64 r0) []) := by kernel_rfl
theorem ushl_eq (n : Nat) (a0 : (List Int)) (a1 : Int) (k : AV → List Blk → Option A) : fnK (ushl_E n) Tryd.f21 [.pure] [.p kA4u64 a0, .p (.int .i64) a1] [] k = ushl_k n a0 a1 (fun r0 => k (.p kA4u64 r0) []) := ushl_eqg n a0 a1 k
def ushl_ent (g : (List Int) → Int → ((List Int) → Option A) → Option A) : Entry A := pureE fun args k => args2 args kA4u64 (.int .i64) fun a0 a1 => g a0 a1 (fun r0 => k (.p kA4u64 r0) [])
theorem ushl_lo (n : Nat) : ∀ c, Tryd.f21.body = some c → ∀ q ∈ loopsOf 0 c, ∀ L, (ushl_E (A := A) n).lps.lookup q.1 = some L → LoopOK Tryd.prog gls q.2 L :=
  lo_body (E := ushl_E n) (by kernel_rfl : Tryd.f21.body = some (bodyOf Tryd.f21)) (lo_of (E := ushl_E n) (by kernel_rfl : loopsOf 0 (bodyOf Tryd.f21) = [(0, ushl_c0)]) (lo_cons rfl (ushl_lo0 n) lo_nil))
theorem ushl_ok (n : Nat) : FnOK Tryd.prog gls 21 (ushl_ent (A := A) (ushl_k n)) :=
  FnOK.of (ushl_T n) (ushl_fns n) follows ⟨Tryd.func21, by kernel_rfl⟩ (ushl_lo n) (rm := [.pure]) fun args k out h => by
    obtain ⟨a0, a1, e, h1⟩ := args2_sound h
    subst e; rw [ushl_eq]; exact h1

end Go.Ev
end

section
/-
  FUNCTION 24: printed by a program of our own (wip/gen/st.py). '(masthead/wide.U).Shr', in continuation form; the evaluator gives it.
-/
set_option linter.all false
set_option maxRecDepth 100000
namespace Go.Ev
open Go.Proofs
variable {A : Type}

-- ============================================================ ushr (function 24)
def ushr_b0 (n : Nat) (n_ : Int) (s : Int) (a : (List Int)) (t4 : (List Int)) (k0 : (List Int) → Option A) (r : Int → (List Int) → Option A) (i : Int) (out : (List Int)) : Option A :=
  bif (decide ((IntKind.wrap .i64 (i + n_)) < 4)) then
    if 0 ≤ (IntKind.wrap .i64 (i + n_)) then
      if (IntKind.wrap .i64 (i + n_)) < 4 then
        (a[(Int.toNat (IntKind.wrap .i64 (i + n_)))]?).bind fun y1 =>
        if s < 0 then none else
        if 0 ≤ i then
          if i < 4 then
            if (Int.toNat i) < 4 then
              bif (decide ((IntKind.wrap .i64 ((IntKind.wrap .i64 (i + n_)) + 1)) < 4)) then
                bif (decide (s > 0)) then
                  if 0 ≤ i then
                    if i < 4 then
                      ((out.set (Int.toNat i) (shr .u64 y1 s))[(Int.toNat i)]?).bind fun y2 =>
                      if 0 ≤ (IntKind.wrap .i64 ((IntKind.wrap .i64 (i + n_)) + 1)) then
                        if (IntKind.wrap .i64 ((IntKind.wrap .i64 (i + n_)) + 1)) < 4 then
                          (a[(Int.toNat (IntKind.wrap .i64 ((IntKind.wrap .i64 (i + n_)) + 1)))]?).bind fun y3 =>
                          if (IntKind.wrap .i64 (64 - s)) < 0 then none else
                          if 0 ≤ i then
                            if i < 4 then
                              if (Int.toNat i) < 4 then
                                r (IntKind.wrap .i64 (i + 1)) ((out.set (Int.toNat i) (shr .u64 y1 s)).set (Int.toNat i) (ior .u64 y2 (shl .u64 y3 (IntKind.wrap .i64 (64 - s)))))
                              else none
                            else none
                          else none
                        else none
                      else none
                    else none
                  else none
                else
                  r (IntKind.wrap .i64 (i + 1)) (out.set (Int.toNat i) (shr .u64 y1 s))
              else
                r (IntKind.wrap .i64 (i + 1)) (out.set (Int.toNat i) (shr .u64 y1 s))
            else none
          else none
        else none
      else none
    else none
  else
    k0 out

def ushr_l0 (n : Nat) (n_ : Int) (s : Int) (a : (List Int)) (t4 : (List Int)) (k0 : (List Int) → Option A) : Nat → Int → (List Int) → Option A
  | 0 => fun _ _ => none
  | f + 1 => ushr_b0 n n_ s a t4 k0 (ushr_l0 n n_ s a t4 k0 f)

def ushr_p (n : Nat) (a0 : (List Int)) (a1 : Int) (k : (List Int) → Option A) : Option A :=
  bif (decide ((imax a1 0) ≥ 256)) then
    k [0, 0, 0, 0]
  else
    ushr_l0 n (IntKind.wrap .i64 (Int.tdiv (imax a1 0) 64)) (Int.tmod (imax a1 0) 64) a0 [0, 0, 0, 0] (fun y4 =>
      k y4) n 0 [0, 0, 0, 0]

def ushr_k (n : Nat) (a0 : (List Int)) (a1 : Int) (k : (List Int) → Option A) : Option A := ushr_p n a0 a1 k

noncomputable def ushr_c0 : Code := codeAt [1, 1, 1, 1, 0, 1, 0, 0] (bodyOf Tryd.f24)
def ushr_d0 : List Nat := [0, 1, 9, 10, 11, 12, 14, 15, 16, 17, 18, 19, 20, 21, 22, 23, 24, 25, 26, 27, 28, 29, 30, 31, 32, 33, 34, 35, 36, 37, 38, 39, 40, 41, 42, 43, 44, 45, 46, 47, 48, 49, 50, 51, 52, 53, 54, 55]
def ushr_y0 : List Nat := [0, 1, 2, 3, 6, 7, 8, 9, 10, 11, 12, 13, 14, 15, 16, 17, 18, 19, 20, 21, 22, 23, 24, 25, 26, 27, 28, 29, 30, 31, 32, 33, 34, 35, 36, 37, 38, 39, 40, 41, 42, 43, 44, 45, 46, 47, 48, 49, 50, 51, 52, 53, 54, 55, 56]
def ushr_sh0 : Shape := ⟨[.any, .any, (.ptr 0), .any, (.ptr 1), (.ptr 2), (.p (.int .i64)), (.p (.int .i64)), (.p (.int .i64)), .any, .any, .any, .any, .any, .any, .any, .any, .any, .any, .any, .any, .any, .any, .any, .any, .any, .any, .any, .any, .any, .any, .any, .any, .any, .any, .any, .any, .any, .any, .any, .any, .any, .any, .any, .any, .any, .any, .any, .any, .any, .any, .any, .any, .any, .any, .any, .any], [(.var 24 kA4u64 (.p kA4u64)), (.var 24 kA4u64 (.p kA4u64)), (.var 24 kA4u64 (.p kA4u64))], 0⟩
def ushr_t0 (n_ : Int) (s : Int) (a : (List Int)) (t4 : (List Int)) (i : Int) (out : (List Int)) : ushr_sh0.den := (((), (), (), (), (), (), n_, s, i, (), (), (), (), (), (), (), (), (), (), (), (), (), (), (), (), (), (), (), (), (), (), (), (), (), (), (), (), (), (), (), (), (), (), (), (), (), (), (), (), (), (), (), (), (), (), (), (), ()), (a, t4, out, ()))
def ushr_x0_0 (n_ : Int) (s : Int) (a : (List Int)) (t4 : (List Int)) (z1 : (List Int)) : St := ⟨[.any, .any, .any, .any, .ptr 0 [], .ptr 1 [], .any, .any, .any, .any, .any, .any, .any, .any, .any, .any, .any, .any, .any, .any, .any, .any, .any, .any, .any, .any, .any, .any, .any, .any, .any, .any, .any, .any, .any, .any, .any, .any, .any, .any, .any, .any, .any, .any, .any, .any, .any, .any, .any, .any, .any, .any, .any, .any, .any, .any, .any], [.var 24 kA4u64 (.p kA4u64 t4), .var 24 kA4u64 (.p kA4u64 z1)], 0⟩
def ushr_g0 (n : Nat) (d : ushr_sh0.den) (k : Ex → St → Option A) : Option A :=
  ushr_l0 n d.1.2.2.2.2.2.2.1 d.1.2.2.2.2.2.2.2.1 d.2.1 d.2.2.1 (fun z1 => k (.exit 0) (ushr_x0_0 d.1.2.2.2.2.2.2.1 d.1.2.2.2.2.2.2.2.1 d.2.1 d.2.2.1 z1)) n d.1.2.2.2.2.2.2.2.2.1 d.2.2.2.1
noncomputable def ushr_E (n : Nat) : Env A := ⟨tys, gls, [], [(0, loopE ushr_d0 ushr_sh0 (ushr_g0 n))], []⟩
theorem ushr_T {A : Type} (n : Nat) : TyOK Tryd.prog (ushr_E (A := A) n) := tyOK_of rfl tysB
theorem ushr_fns (n : Nat) : FnsOK Tryd.prog (ushr_E (A := A) n) := AllOK.env rfl rfl AllOK.nil
noncomputable def ushr_LK0 (n : Nat) (n_ : Int) (s : Int) (a : (List Int)) (t4 : (List Int)) (k : Ex → St → Option A) (f : Nat) (i : Int) (out : (List Int)) : Option A := loopK (codeK (ushr_E n) 1 ushr_c0) ushr_d0 ushr_y0 f (ushr_sh0.fill (ushr_t0 n_ s a t4 i out)) k
theorem ushr_st0 (n f : Nat) (n_ : Int) (s : Int) (a : (List Int)) (t4 : (List Int)) (k : Ex → St → Option A) (i : Int) (out : (List Int)) : ushr_LK0 n n_ s a t4 k (f + 1) i out = ushr_b0 n n_ s a t4 (fun z1 => k (.exit 0) (ushr_x0_0 n_ s a t4 z1)) (ushr_LK0 n n_ s a t4 k f) i out := by kernel_rfl
theorem ushr_le0 (n : Nat) (n_ : Int) (s : Int) (a : (List Int)) (t4 : (List Int)) (k : Ex → St → Option A) : ∀ (f : Nat) (i : Int) (out : (List Int)), ushr_LK0 n n_ s a t4 k f i out = ushr_l0 n n_ s a t4 (fun z1 => k (.exit 0) (ushr_x0_0 n_ s a t4 z1)) f i out := by
  intro f
  induction f with
  | zero => intros; kernel_rfl
  | succ f ih => intro i out; exact (ushr_st0 n f n_ s a t4 k i out).trans ((congrArg (fun r => ushr_b0 n n_ s a t4 (fun z1 => k (.exit 0) (ushr_x0_0 n_ s a t4 z1)) r i out) (funext fun i => funext fun out => ih i out)).trans (by kernel_rfl))
theorem ushr_lo0 (n : Nat) : LoopOK Tryd.prog gls ushr_c0 (loopE ushr_d0 ushr_sh0 (ushr_g0 (A := A) n)) :=
  LoopOK.of (ushr_T n) (ushr_fns n) follows (j := 1) (n := n) (xdead := ushr_y0) (lo_of (by kernel_rfl : loopsOf 1 ushr_c0 = []) lo_nil) fun d k => Eq.trans (by kernel_rfl) (ushr_le0 n d.1.2.2.2.2.2.2.1 d.1.2.2.2.2.2.2.2.1 d.2.1 d.2.2.1 k n d.1.2.2.2.2.2.2.2.2.1 d.2.2.2.1)
theorem ushr_eqg (n : Nat) (a0 : (List Int)) (a1 : Int) (k : AV → List Blk → Option A) : fnK (ushr_E n) Tryd.f24 [.pure] [.p kA4u64 a0, .p (.int .i64) a1] [] k = ushr_p n a0 a1 (fun r0 => k (.p kA4u64 r0) []) := by kernel_rfl
theorem ushr_eq (n : Nat) (a0 : (List Int)) (a1 : Int) (k : AV → List Blk → Option A) : fnK (ushr_E n) Tryd.f24 [.pure] [.p kA4u64 a0, .p (.int .i64) a1] [] k = ushr_k n a0 a1 (fun r0 => k (.p kA4u64 r0) []) := ushr_eqg n a0 a1 k
def ushr_ent (g : (List Int) → Int → ((List Int) → Option A) → Option A) : Entry A := pureE fun args k => args2 args kA4u64 (.int .i64) fun a0 a1 => g a0 a1 (fun r0 => k (.p kA4u64 r0) [])
theorem ushr_lo (n : Nat) : ∀ c, Tryd.f24.body = some c → ∀ q ∈ loopsOf 0 c, ∀ L, (ushr_E (A := A) n).lps.lookup q.1 = some L → LoopOK Tryd.prog gls q.2 L :=
  lo_body (E := ushr_E n) (by kernel_rfl : Tryd.f24.body = some (bodyOf Tryd.f24)) (lo_of (E := ushr_E n) (by kernel_rfl : loopsOf 0 (bodyOf Tryd.f24) = [(0, ushr_c0)]) (lo_cons rfl (ushr_lo0 n) lo_nil))
theorem ushr_ok (n : Nat) : FnOK Tryd.prog gls 24 (ushr_ent (A := A) (ushr_k n)) :=
  FnOK.of (ushr_T n) (ushr_fns n) follows ⟨Tryd.func24, by kernel_rfl⟩ (ushr_lo n) (rm := [.pure]) fun args k out h => by
    obtain ⟨a0, a1, e, h1⟩ := args2_sound h
    subst e; rw [ushr_eq]; exact h1

end Go.Ev
end

section
/-
  FUNCTION 36: printed by a program of our own (wip/gen/st.py). '(masthead/wide.U).Cmp', in continuation form; the evaluator gives it.
-/
set_option linter.all false
set_option maxRecDepth 100000
namespace Go.Ev
open Go.Proofs
variable {A : Type}

-- ============================================================ ucmp (function 36)
def ucmp_b0 (n : Nat) (a : (List Int)) (b : (List Int)) (k0 : Int → Option A) (k1 : Option A) (r : Int → Option A) (i : Int) : Option A :=
  bif (decide (i ≥ 0)) then
    if 0 ≤ i then
      if i < 4 then
        (a[(Int.toNat i)]?).bind fun y1 =>
        if 0 ≤ i then
          if i < 4 then
            (b[(Int.toNat i)]?).bind fun y2 =>
            bif (decide (y1 < y2)) then
              k0 (-1)
            else
              if 0 ≤ i then
                if i < 4 then
                  (a[(Int.toNat i)]?).bind fun y3 =>
                  if 0 ≤ i then
                    if i < 4 then
                      (b[(Int.toNat i)]?).bind fun y4 =>
                      bif (decide (y3 > y4)) then
                        k0 1
                      else
                        r (IntKind.wrap .i64 (i - 1))
                    else none
                  else none
                else none
              else none
          else none
        else none
      else none
    else none
  else
    k1

def ucmp_l0 (n : Nat) (a : (List Int)) (b : (List Int)) (k0 : Int → Option A) (k1 : Option A) : Nat → Int → Option A
  | 0 => fun _ => none
  | f + 1 => ucmp_b0 n a b k0 k1 (ucmp_l0 n a b k0 k1 f)

def ucmp_p (n : Nat) (a0 : (List Int)) (a1 : (List Int)) (k : Int → Option A) : Option A :=
  ucmp_l0 n a0 a1 (fun y5 =>
    k y5) (
    k 0) n 3

def ucmp_k (n : Nat) (a0 : (List Int)) (a1 : (List Int)) (k : Int → Option A) : Option A := ucmp_p n a0 a1 k

noncomputable def ucmp_c0 : Code := codeAt [1, 0, 1, 0, 0] (bodyOf Tryd.f36)
def ucmp_d0 : List Nat := [0, 1, 4, 6, 7, 8, 9, 10, 11, 12, 13, 14, 15, 16, 17, 18, 19, 20, 21, 22, 23]
def ucmp_y0 : List Nat := [0, 1, 2, 3, 5, 6, 7, 8, 9, 10, 11, 12, 13, 14, 15, 16, 17, 18, 19, 20, 21, 22, 23]
def ucmp_sh0 : Shape := ⟨[.any, .any, (.ptr 0), (.ptr 1), .any, (.p (.int .i64)), .any, .any, .any, .any, .any, .any, .any, .any, .any, .any, .any, .any, .any, .any, .any, .any, .any, .any], [(.var 24 kA4u64 (.p kA4u64)), (.var 24 kA4u64 (.p kA4u64))], 0⟩
def ucmp_t0 (a : (List Int)) (b : (List Int)) (i : Int) : ucmp_sh0.den := (((), (), (), (), (), i, (), (), (), (), (), (), (), (), (), (), (), (), (), (), (), (), (), (), ()), (a, b, ()))
def ucmp_x0_0 (a : (List Int)) (b : (List Int)) (z0 : Int) : St := ⟨[.any, .any, .any, .any, .p (.int .i64) z0, .any, .any, .any, .any, .any, .any, .any, .any, .any, .any, .any, .any, .any, .any, .any, .any, .any, .any, .any], [], 0⟩
def ucmp_x0_1 (a : (List Int)) (b : (List Int)) : St := ⟨[.any, .any, .any, .any, .any, .any, .any, .any, .any, .any, .any, .any, .any, .any, .any, .any, .any, .any, .any, .any, .any, .any, .any, .any], [], 0⟩
def ucmp_g0 (n : Nat) (d : ucmp_sh0.den) (k : Ex → St → Option A) : Option A :=
  ucmp_l0 n d.2.1 d.2.2.1 (fun z0 => k .ret (ucmp_x0_0 d.2.1 d.2.2.1 z0)) (k (.exit 0) (ucmp_x0_1 d.2.1 d.2.2.1)) n d.1.2.2.2.2.2.1
noncomputable def ucmp_E (n : Nat) : Env A := ⟨tys, gls, [], [(0, loopE ucmp_d0 ucmp_sh0 (ucmp_g0 n))], []⟩
theorem ucmp_T {A : Type} (n : Nat) : TyOK Tryd.prog (ucmp_E (A := A) n) := tyOK_of rfl tysB
theorem ucmp_fns (n : Nat) : FnsOK Tryd.prog (ucmp_E (A := A) n) := AllOK.env rfl rfl AllOK.nil
noncomputable def ucmp_LK0 (n : Nat) (a : (List Int)) (b : (List Int)) (k : Ex → St → Option A) (f : Nat) (i : Int) : Option A := loopK (codeK (ucmp_E n) 1 ucmp_c0) ucmp_d0 ucmp_y0 f (ucmp_sh0.fill (ucmp_t0 a b i)) k
theorem ucmp_st0 (n f : Nat) (a : (List Int)) (b : (List Int)) (k : Ex → St → Option A) (i : Int) : ucmp_LK0 n a b k (f + 1) i = ucmp_b0 n a b (fun z0 => k .ret (ucmp_x0_0 a b z0)) (k (.exit 0) (ucmp_x0_1 a b)) (ucmp_LK0 n a b k f) i := by kernel_rfl
theorem ucmp_le0 (n : Nat) (a : (List Int)) (b : (List Int)) (k : Ex → St → Option A) : ∀ (f : Nat) (i : Int), ucmp_LK0 n a b k f i = ucmp_l0 n a b (fun z0 => k .ret (ucmp_x0_0 a b z0)) (k (.exit 0) (ucmp_x0_1 a b)) f i := by
  intro f
  induction f with
  | zero => intros; kernel_rfl
  | succ f ih => intro i; exact (ucmp_st0 n f a b k i).trans ((congrArg (fun r => ucmp_b0 n a b (fun z0 => k .ret (ucmp_x0_0 a b z0)) (k (.exit 0) (ucmp_x0_1 a b)) r i) (funext fun i => ih i)).trans (by kernel_rfl))
theorem ucmp_lo0 (n : Nat) : LoopOK Tryd.prog gls ucmp_c0 (loopE ucmp_d0 ucmp_sh0 (ucmp_g0 (A := A) n)) :=
  LoopOK.of (ucmp_T n) (ucmp_fns n) follows (j := 1) (n := n) (xdead := ucmp_y0) (lo_of (by kernel_rfl : loopsOf 1 ucmp_c0 = []) lo_nil) fun d k => Eq.trans (by kernel_rfl) (ucmp_le0 n d.2.1 d.2.2.1 k n d.1.2.2.2.2.2.1)
theorem ucmp_eqg (n : Nat) (a0 : (List Int)) (a1 : (List Int)) (k : AV → List Blk → Option A) : fnK (ucmp_E n) Tryd.f36 [.pure] [.p kA4u64 a0, .p kA4u64 a1] [] k = ucmp_p n a0 a1 (fun r0 => k (.p (.int .i64) r0) []) := by kernel_rfl
theorem ucmp_eq (n : Nat) (a0 : (List Int)) (a1 : (List Int)) (k : AV → List Blk → Option A) : fnK (ucmp_E n) Tryd.f36 [.pure] [.p kA4u64 a0, .p kA4u64 a1] [] k = ucmp_k n a0 a1 (fun r0 => k (.p (.int .i64) r0) []) := ucmp_eqg n a0 a1 k
def ucmp_ent (g : (List Int) → (List Int) → (Int → Option A) → Option A) : Entry A := pureE fun args k => args2 args kA4u64 kA4u64 fun a0 a1 => g a0 a1 (fun r0 => k (.p (.int .i64) r0) [])
theorem ucmp_lo (n : Nat) : ∀ c, Tryd.f36.body = some c → ∀ q ∈ loopsOf 0 c, ∀ L, (ucmp_E (A := A) n).lps.lookup q.1 = some L → LoopOK Tryd.prog gls q.2 L :=
  lo_body (E := ucmp_E n) (by kernel_rfl : Tryd.f36.body = some (bodyOf Tryd.f36)) (lo_of (E := ucmp_E n) (by kernel_rfl : loopsOf 0 (bodyOf Tryd.f36) = [(0, ucmp_c0)]) (lo_cons rfl (ucmp_lo0 n) lo_nil))
theorem ucmp_ok (n : Nat) : FnOK Tryd.prog gls 36 (ucmp_ent (A := A) (ucmp_k n)) :=
  FnOK.of (ucmp_T n) (ucmp_fns n) follows ⟨Tryd.func36, by kernel_rfl⟩ (ucmp_lo n) (rm := [.pure]) fun args k out h => by
    obtain ⟨a0, a1, e, h1⟩ := args2_sound h
    subst e; rw [ucmp_eq]; exact h1

end Go.Ev
end

section
/-
  FOUR WORDS: plain laws of the printed functions of 256-bit numbers: shifts, order, lengths.
-/
set_option linter.all false
namespace Go.Ev
variable {A : Type}

def P256 : Nat := 115792089237316195423570985008687907853269984665640564039457584007913129639936
def P64 : Nat := 18446744073709551616

/-- The word i of x. -/
def wd (x i : Nat) : Nat := x / 2 ^ (64 * i) % 18446744073709551616

theorem wd_lt (x i : Nat) : wd x i < 18446744073709551616 := Nat.mod_lt _ (by decide)
theorem uw_wd (x : Nat) : uw x = [wd x 0, wd x 1, wd x 2, wd x 3] := by
  unfold uw wd
  simp only [Nat.mul_zero, Nat.pow_zero, Nat.div_one, show 2 ^ (64 * 1) = 18446744073709551616 from by decide, show 2 ^ (64 * 2) = 340282366920938463463374607431768211456 from by decide, show 2 ^ (64 * 3) = 6277101735386680763835789423207666416102355444464034512896 from by decide]
theorem uw_length (x : Nat) : (uw x).length = 4 := rfl
theorem uw_at (x i : Nat) (h : i < 4) : (uw x)[i]? = some (wd x i) := by
  rw [uw_wd]
  rcases i with _ | _ | _ | _ | i
  · rfl
  · rfl
  · rfl
  · rfl
  · omega
theorem iuw_at (x i : Nat) (h : i < 4) : (ints (uw x))[i]? = some ((wd x i : Nat) : Int) := by rw [ints_get, uw_at x i h]; rfl
theorem uw_ext (x : Nat) (l : List Nat) (hl : l.length = 4) (h : ∀ i, i < 4 → l[i]? = some (wd x i)) : l = uw x := by
  apply List.ext_getElem?
  intro i
  by_cases hi : i < 4
  · rw [h i hi, uw_at x i hi]
  · rw [List.getElem?_eq_none (by omega), List.getElem?_eq_none (by rw [uw_length]; omega)]

theorem tb_div (x n i : Nat) : (x / 2 ^ n).testBit i = x.testBit (n + i) := by rw [Nat.testBit_div_two_pow, Nat.add_comm]

theorem wd_testBit (x i t : Nat) : (wd x i).testBit t = (decide (t < 64) && x.testBit (64 * i + t)) := by
  unfold wd
  rw [show (18446744073709551616 : Nat) = 2 ^ 64 from by decide, Nat.testBit_mod_two_pow, tb_div]

theorem wd_shl (x i n s : Nat) (hs : s < 64) (hi : i < 4) (hn : n ≤ i) :
    wd (x * 2 ^ (64 * n + s) % 2 ^ 256) i = (wd x (i - n) * 2 ^ s % 18446744073709551616) ||| (if n < i then wd x (i - n - 1) / 2 ^ (64 - s) else 0) := by
  apply Nat.eq_of_testBit_eq
  intro t
  rw [wd_testBit, Nat.testBit_mod_two_pow, Nat.testBit_mul_two_pow, Nat.testBit_or, show (18446744073709551616 : Nat) = 2 ^ 64 from by decide, Nat.testBit_mod_two_pow, Nat.testBit_mul_two_pow, wd_testBit]
  have e : (if n < i then wd x (i - n - 1) / 2 ^ (64 - s) else 0).testBit t = (decide (n < i) && (decide (64 - s + t < 64) && x.testBit (64 * (i - n - 1) + (64 - s + t)))) := by
    by_cases h : n < i
    · rw [if_pos h, tb_div, wd_testBit]; simp [h]
    · rw [if_neg h]; simp [h]
  rw [e]
  by_cases ht : t < 64
  · by_cases hts : s ≤ t
    · have h1 : 64 * i + t - (64 * n + s) = 64 * (i - n) + (t - s) := by omega
      have h2 : ¬ (64 - s + t < 64) := by omega
      have h3 : 64 * n + s ≤ 64 * i + t := by omega
      have h4 : 64 * i + t < 256 := by omega
      have h5 : t - s < 64 := by omega
      simp [ht, hts, h1, h2, h3, h4, h5]
    · by_cases hni : n < i
      · have h1 : 64 * i + t - (64 * n + s) = 64 * (i - n - 1) + (64 - s + t) := by omega
        have h2 : 64 - s + t < 64 := by omega
        have h3 : 64 * n + s ≤ 64 * i + t := by omega
        have h4 : 64 * i + t < 256 := by omega
        simp [ht, hts, h1, h2, h3, h4, hni]
      · have h3 : ¬ (64 * n + s ≤ 64 * i + t) := by omega
        simp [ht, hts, h3, hni]
  · have h2 : ¬ (64 - s + t < 64) := by omega
    simp [ht, h2]

theorem wd_shl0 (x i n s : Nat) (hn : i < n) : wd (x * 2 ^ (64 * n + s) % 2 ^ 256) i = 0 := by
  apply Nat.eq_of_testBit_eq
  intro t
  rw [wd_testBit, Nat.testBit_mod_two_pow, Nat.testBit_mul_two_pow, Nat.zero_testBit]
  by_cases ht : t < 64
  · have h3 : ¬ (64 * n + s ≤ 64 * i + t) := by omega
    simp [ht, h3]
  · simp [ht]

theorem wd_shr (x i n s : Nat) (hx : x < 2 ^ 256) (hs : s < 64) :
    wd (x / 2 ^ (64 * n + s)) i = (wd x (i + n) / 2 ^ s) ||| (if i + n + 1 < 4 then wd x (i + n + 1) * 2 ^ (64 - s) % 18446744073709551616 else 0) := by
  apply Nat.eq_of_testBit_eq
  intro t
  have hbig : ∀ j, 256 ≤ j → x.testBit j = false := fun j hj => Nat.testBit_lt_two_pow (Nat.lt_of_lt_of_le hx (Nat.pow_le_pow_right (by decide) hj))
  rw [wd_testBit, tb_div, Nat.testBit_or, tb_div, wd_testBit]
  have e : (if i + n + 1 < 4 then wd x (i + n + 1) * 2 ^ (64 - s) % 18446744073709551616 else 0).testBit t = (decide (i + n + 1 < 4) && (decide (t < 64) && (decide (64 - s ≤ t) && (decide (t - (64 - s) < 64) && x.testBit (64 * (i + n + 1) + (t - (64 - s))))))) := by
    by_cases h : i + n + 1 < 4
    · rw [if_pos h, show (18446744073709551616 : Nat) = 2 ^ 64 from by decide, Nat.testBit_mod_two_pow, Nat.testBit_mul_two_pow, wd_testBit]; simp [h]
    · rw [if_neg h]; simp [h]
  rw [e]
  by_cases ht : t < 64
  · by_cases hts : 64 - s ≤ t
    · have h1 : 64 * n + s + (64 * i + t) = 64 * (i + n + 1) + (t - (64 - s)) := by omega
      have h2 : ¬ (s + t < 64) := by omega
      have h5 : t - (64 - s) < 64 := by omega
      by_cases h : i + n + 1 < 4
      · simp [ht, hts, h1, h2, h5, h]
      · rw [h1, hbig _ (by omega)]; simp [h2]
    · have h1 : 64 * n + s + (64 * i + t) = 64 * (i + n) + (s + t) := by omega
      have h2 : s + t < 64 := by omega
      simp [ht, hts, h1, h2]
  · have h2 : ¬ (s + t < 64) := by omega
    simp [ht, h2]

theorem lt_P (h : Nat) (x : Nat) : (h = 0) → x < 18446744073709551616 → x < 18446744073709551616 := fun _ h => h

-- ------------------------------------------------------------ to the left

theorem ushl_step (n f : Nat) (t4 : List Int) (k0 : List Int → Option A) (x m s i : Nat) (hs : s < 64) (hi : i < 4) (hn : m ≤ i) (out : List Nat) (ho : out.length = 4) :
    ushl_l0 n (m : Int) (s : Int) (ints (uw x)) t4 k0 (f + 1) (i : Int) (ints out) = ushl_l0 n (m : Int) (s : Int) (ints (uw x)) t4 k0 f ((i : Int) - 1) (ints (out.set i (wd (x * 2 ^ (64 * m + s) % 2 ^ 256) i))) := by
  rw [ushl_l0, ushl_b0, wd_shl x i m s hs hi hn]
  have e : decide ((i : Int) ≥ (m : Int)) = true := decide_eq_true (by omega)
  have e1 : IntKind.wrap .i64 ((i : Int) - (m : Int)) = ((i - m : Nat) : Int) := by rw [wrap_id (by omega) (by omega)]; omega
  have e2 : IntKind.wrap .i64 ((i : Int) - 1) = (i : Int) - 1 := wrap_id (by omega) (by omega)
  have e3 : shl .u64 ((wd x (i - m) : Nat) : Int) (s : Int) = ((wd x (i - m) * 2 ^ s % 18446744073709551616 : Nat) : Int) := shl_u64 _ _ (by omega)
  rw [e, cond_true, e1, if_pos (by omega), if_pos (by omega), Int.toNat_natCast, iuw_at _ _ (by omega), Option.bind_some, if_neg (by omega), if_pos (by omega), if_pos (by omega), Int.toNat_natCast, if_pos (by omega), e3, e2]
  by_cases hmi : m < i
  · have d1 : decide ((i : Int) > (m : Int)) = true := decide_eq_true (by omega)
    rw [d1, cond_true, if_pos hmi]
    by_cases hs0 : 0 < s
    · have d2 : decide ((s : Int) > 0) = true := decide_eq_true (by omega)
      have e4 : IntKind.wrap .i64 (((i - m : Nat) : Int) - 1) = ((i - m - 1 : Nat) : Int) := by rw [wrap_id (by omega) (by omega)]; omega
      have e5 : IntKind.wrap .i64 (64 - (s : Int)) = ((64 - s : Nat) : Int) := by rw [wrap_id (by omega) (by omega)]; omega
      have e6 : shr .u64 ((wd x (i - m - 1) : Nat) : Int) ((64 - s : Nat) : Int) = ((wd x (i - m - 1) / 2 ^ (64 - s) : Nat) : Int) := shr_u64 _ _ (by omega)
      have e7 : ior .u64 ((wd x (i - m) * 2 ^ s % 18446744073709551616 : Nat) : Int) ((wd x (i - m - 1) / 2 ^ (64 - s) : Nat) : Int) = ((wd x (i - m) * 2 ^ s % 18446744073709551616 ||| wd x (i - m - 1) / 2 ^ (64 - s) : Nat) : Int) :=
        ior_u64 _ _ (Nat.mod_lt _ (by decide)) (Nat.lt_of_le_of_lt (Nat.div_le_self _ _) (wd_lt x _))
      rw [d2, cond_true, if_pos (by omega), if_pos (by omega), ints_set, ints_at _ _ (by rw [List.length_set]; omega), Option.bind_some, e4, if_pos (by omega), if_pos (by omega), Int.toNat_natCast, iuw_at _ _ (by omega), Option.bind_some, e5, if_neg (by omega), if_pos (by omega), if_pos (by omega), if_pos (by omega), e6, List.getElem_set_self, e7, ints_set, List.set_set]
    · have d2 : decide ((s : Int) > 0) = false := decide_eq_false (by omega)
      have hs1 : s = 0 := by omega
      subst hs1
      have e8 : wd x (i - m - 1) / 2 ^ (64 - 0) = 0 := Nat.div_eq_of_lt (wd_lt x _)
      rw [d2, cond_false, e8, Nat.or_zero, ints_set]
  · have d1 : decide ((i : Int) > (m : Int)) = false := decide_eq_false (by omega)
    rw [d1, cond_false, if_neg hmi, Nat.or_zero, ints_set]

theorem ushl_l0_law (n : Nat) (t4 : List Int) (k0 : List Int → Option A) (x m s : Nat) (hs : s < 64) (hm : m ≤ 4) : ∀ (d f : Nat) (out : List Nat), out.length = 4 → m + d ≤ 4 → d < f →
    (∀ j, j < m → out[j]? = some 0) → (∀ j, m + d ≤ j → j < 4 → out[j]? = some (wd (x * 2 ^ (64 * m + s) % 2 ^ 256) j)) →
    ushl_l0 n (m : Int) (s : Int) (ints (uw x)) t4 k0 f (((m + d : Nat) : Int) - 1) (ints out) = k0 (ints (uw (x * 2 ^ (64 * m + s) % 2 ^ 256)))
  | _, 0, _, _, _, h, _, _ => by omega
  | 0, f + 1, out, ho, _, _, h1, h2 => by
    rw [ushl_l0, ushl_b0]
    have e : decide (((m + 0 : Nat) : Int) - 1 ≥ (m : Int)) = false := decide_eq_false (by omega)
    rw [e, cond_false, uw_ext (x * 2 ^ (64 * m + s) % 2 ^ 256) out ho fun i hi => ?_]
    by_cases him : i < m
    · rw [h1 i him, wd_shl0 x i m s him]
    · exact h2 i (by omega) hi
  | d + 1, f + 1, out, ho, hd, hf, h1, h2 => by
    have e : ((m + (d + 1) : Nat) : Int) - 1 = ((m + d : Nat) : Int) := by omega
    rw [e, ushl_step n f t4 k0 x m s (m + d) hs (by omega) (by omega) out ho]
    refine ushl_l0_law n t4 k0 x m s hs hm d f _ (by rw [List.length_set]; exact ho) (by omega) (by omega) (fun j hj => ?_) (fun j hj hj4 => ?_)
    · rw [List.getElem?_set_ne (by omega)]; exact h1 j hj
    · by_cases hjm : m + d = j
      · subst hjm; rw [List.getElem?_set_self (by omega)]
      · rw [List.getElem?_set_ne hjm]; exact h2 j (by omega) hj4

theorem zero_uw : ([0, 0, 0, 0] : List Int) = ints (uw 0) := by simp [ints, uw]

theorem ushl_law (n : Nat) (hn : 10 < n) (x m : Nat) (g : List Int → Option A) : ushl_k n (ints (uw x)) (m : Int) g = g (ints (uw (x * 2 ^ m % 2 ^ 256))) := by
  unfold ushl_k ushl_p
  have e0 : imax (m : Int) 0 = (m : Int) := by unfold imax; split <;> omega
  rw [e0]
  by_cases h : 256 ≤ m
  · have e : decide ((m : Int) ≥ 256) = true := decide_eq_true (by omega)
    have e2 : x * 2 ^ m % 2 ^ 256 = 0 := by
      rw [show m = (m - 256) + 256 from by omega, Nat.pow_add, ← Nat.mul_assoc, Nat.mul_mod_left]
    rw [e, cond_true, e2, zero_uw]
  · have e : decide ((m : Int) ≥ 256) = false := decide_eq_false (by omega)
    have e1 : IntKind.wrap .i64 (Int.tdiv (m : Int) 64) = ((m / 64 : Nat) : Int) := by
      rw [show (64 : Int) = ((64 : Nat) : Int) from rfl, tdiv_nat]; exact wrap_id (by omega) (by omega)
    have e2 : Int.tmod (m : Int) 64 = ((m % 64 : Nat) : Int) := by rw [show (64 : Int) = ((64 : Nat) : Int) from rfl, tmod_nat]
    rw [e, cond_false, e1, e2]
    have h0 := ushl_l0_law n [0, 0, 0, 0] (fun y4 => g y4) x (m / 64) (m % 64) (by omega) (by omega) (4 - m / 64) n [0, 0, 0, 0] rfl (by omega) (by omega)
      (fun j hj => by
        have : j = 0 ∨ j = 1 ∨ j = 2 ∨ j = 3 := by omega
        rcases this with rfl | rfl | rfl | rfl <;> rfl) (fun j hj hj2 => by omega)
    rw [show ((m / 64 + (4 - m / 64) : Nat) : Int) - 1 = 3 from by omega, show 64 * (m / 64) + m % 64 = m from by omega] at h0
    exact h0

-- ------------------------------------------------------------ to the right

theorem ushr_step (n f : Nat) (t4 : List Int) (k0 : List Int → Option A) (x m s i : Nat) (hx : x < 2 ^ 256) (hs : s < 64) (hi : i + m < 4) (out : List Nat) (ho : out.length = 4) :
    ushr_l0 n (m : Int) (s : Int) (ints (uw x)) t4 k0 (f + 1) (i : Int) (ints out) = ushr_l0 n (m : Int) (s : Int) (ints (uw x)) t4 k0 f ((i + 1 : Nat) : Int) (ints (out.set i (wd (x / 2 ^ (64 * m + s)) i))) := by
  rw [ushr_l0, ushr_b0, wd_shr x i m s hx hs]
  have e1 : IntKind.wrap .i64 ((i : Int) + (m : Int)) = ((i + m : Nat) : Int) := by rw [wrap_id (by omega) (by omega)]; omega
  have e : decide (((i + m : Nat) : Int) < 4) = true := decide_eq_true (by omega)
  have e2 : IntKind.wrap .i64 ((i : Int) + 1) = ((i + 1 : Nat) : Int) := by rw [wrap_id (by omega) (by omega)]; omega
  have e3 : shr .u64 ((wd x (i + m) : Nat) : Int) (s : Int) = ((wd x (i + m) / 2 ^ s : Nat) : Int) := shr_u64 _ _ (by omega)
  have e4 : IntKind.wrap .i64 (((i + m : Nat) : Int) + 1) = ((i + m + 1 : Nat) : Int) := by rw [wrap_id (by omega) (by omega)]; omega
  rw [e1, e, cond_true, if_pos (by omega), if_pos (by omega), Int.toNat_natCast, iuw_at _ _ (by omega), Option.bind_some, if_neg (by omega), if_pos (by omega), if_pos (by omega), Int.toNat_natCast, if_pos (by omega), e3, e2, e4]
  by_cases hmi : i + m + 1 < 4
  · have d1 : decide (((i + m + 1 : Nat) : Int) < 4) = true := decide_eq_true (by omega)
    rw [d1, cond_true, if_pos hmi]
    by_cases hs0 : 0 < s
    · have d2 : decide ((s : Int) > 0) = true := decide_eq_true (by omega)
      have e5 : IntKind.wrap .i64 (64 - (s : Int)) = ((64 - s : Nat) : Int) := by rw [wrap_id (by omega) (by omega)]; omega
      have e6 : shl .u64 ((wd x (i + m + 1) : Nat) : Int) ((64 - s : Nat) : Int) = ((wd x (i + m + 1) * 2 ^ (64 - s) % 18446744073709551616 : Nat) : Int) := shl_u64 _ _ (by omega)
      have e7 : ior .u64 ((wd x (i + m) / 2 ^ s : Nat) : Int) ((wd x (i + m + 1) * 2 ^ (64 - s) % 18446744073709551616 : Nat) : Int) = ((wd x (i + m) / 2 ^ s ||| wd x (i + m + 1) * 2 ^ (64 - s) % 18446744073709551616 : Nat) : Int) :=
        ior_u64 _ _ (Nat.lt_of_le_of_lt (Nat.div_le_self _ _) (wd_lt x _)) (Nat.mod_lt _ (by decide))
      rw [d2, cond_true, if_pos (by omega), if_pos (by omega), ints_set, ints_at _ _ (by rw [List.length_set]; omega), Option.bind_some, if_pos (by omega), if_pos (by omega), Int.toNat_natCast, iuw_at _ _ (by omega), Option.bind_some, e5, if_neg (by omega), if_pos (by omega), if_pos (by omega), if_pos (by omega), e6, List.getElem_set_self, e7, ints_set, List.set_set]
    · have d2 : decide ((s : Int) > 0) = false := decide_eq_false (by omega)
      have hs1 : s = 0 := by omega
      subst hs1
      have e8 : wd x (i + m + 1) * 2 ^ (64 - 0) % 18446744073709551616 = 0 := by
        rw [show 2 ^ (64 - 0) = 18446744073709551616 from by decide, Nat.mul_mod_left]
      rw [d2, cond_false, e8, Nat.or_zero, ints_set]
  · have d1 : decide (((i + m + 1 : Nat) : Int) < 4) = false := decide_eq_false (by omega)
    rw [d1, cond_false, if_neg hmi, Nat.or_zero, ints_set]

theorem wd_shr0 (x i n s : Nat) (hx : x < 2 ^ 256) (hn : 4 ≤ i + n) : wd (x / 2 ^ (64 * n + s)) i = 0 := by
  apply Nat.eq_of_testBit_eq
  intro t
  rw [wd_testBit, tb_div, Nat.zero_testBit]
  rw [Nat.testBit_lt_two_pow (Nat.lt_of_lt_of_le hx (Nat.pow_le_pow_right (by decide) (show 256 ≤ 64 * n + s + (64 * i + t) by omega)))]
  simp

theorem ushr_l0_law (n : Nat) (t4 : List Int) (k0 : List Int → Option A) (x m s : Nat) (hx : x < 2 ^ 256) (hs : s < 64) : ∀ (d f i : Nat) (out : List Nat), out.length = 4 → i + m + d = 4 → d < f →
    (∀ j, j < 4 → out[j]? = some (if j < i then wd (x / 2 ^ (64 * m + s)) j else 0)) →
    ushr_l0 n (m : Int) (s : Int) (ints (uw x)) t4 k0 f (i : Int) (ints out) = k0 (ints (uw (x / 2 ^ (64 * m + s))))
  | _, 0, _, _, _, _, h, _ => by omega
  | 0, f + 1, i, out, ho, hd, _, h1 => by
    rw [ushr_l0, ushr_b0]
    have e1 : IntKind.wrap .i64 ((i : Int) + (m : Int)) = ((i + m : Nat) : Int) := by rw [wrap_id (by omega) (by omega)]; omega
    have e : decide (((i + m : Nat) : Int) < 4) = false := decide_eq_false (by omega)
    rw [e1, e, cond_false, uw_ext (x / 2 ^ (64 * m + s)) out ho fun j hj => ?_]
    rw [h1 j hj]
    split
    · rfl
    · rw [wd_shr0 x j m s hx (by omega)]
  | d + 1, f + 1, i, out, ho, hd, hf, h1 => by
    rw [ushr_step n f t4 k0 x m s i hx hs (by omega) out ho]
    refine ushr_l0_law n t4 k0 x m s hx hs d f (i + 1) _ (by rw [List.length_set]; exact ho) (by omega) (by omega) (fun j hj => ?_)
    by_cases hjm : i = j
    · subst hjm; rw [List.getElem?_set_self (by omega), if_pos (by omega)]
    · rw [List.getElem?_set_ne hjm, h1 j hj]
      by_cases hji : j < i
      · rw [if_pos hji, if_pos (by omega)]
      · rw [if_neg hji, if_neg (by omega)]

theorem ushr_law (n : Nat) (hn : 10 < n) (x m : Nat) (hx : x < 2 ^ 256) (g : List Int → Option A) : ushr_k n (ints (uw x)) (m : Int) g = g (ints (uw (x / 2 ^ m))) := by
  unfold ushr_k ushr_p
  have e0 : imax (m : Int) 0 = (m : Int) := by unfold imax; split <;> omega
  rw [e0]
  by_cases h : 256 ≤ m
  · have e : decide ((m : Int) ≥ 256) = true := decide_eq_true (by omega)
    have e2 : x / 2 ^ m = 0 := Nat.div_eq_of_lt (Nat.lt_of_lt_of_le hx (Nat.pow_le_pow_right (by decide) h))
    rw [e, cond_true, e2, zero_uw]
  · have e : decide ((m : Int) ≥ 256) = false := decide_eq_false (by omega)
    have e1 : IntKind.wrap .i64 (Int.tdiv (m : Int) 64) = ((m / 64 : Nat) : Int) := by
      rw [show (64 : Int) = ((64 : Nat) : Int) from rfl, tdiv_nat]; exact wrap_id (by omega) (by omega)
    have e2 : Int.tmod (m : Int) 64 = ((m % 64 : Nat) : Int) := by rw [show (64 : Int) = ((64 : Nat) : Int) from rfl, tmod_nat]
    rw [e, cond_false, e1, e2]
    have h0 := ushr_l0_law n [0, 0, 0, 0] (fun y4 => g y4) x (m / 64) (m % 64) hx (by omega) (4 - m / 64) n 0 [0, 0, 0, 0] rfl (by omega) (by omega)
      (fun j hj => by
        have : j = 0 ∨ j = 1 ∨ j = 2 ∨ j = 3 := by omega
        rcases this with rfl | rfl | rfl | rfl <;> rfl)
    rw [show 64 * (m / 64) + m % 64 = m from by omega] at h0
    exact h0

-- ------------------------------------------------------------ order

theorem wd_split (x i : Nat) : x / 2 ^ (64 * i) = wd x i + 18446744073709551616 * (x / 2 ^ (64 * (i + 1))) := by
  unfold wd
  rw [show 64 * (i + 1) = 64 * i + 64 from by omega, Nat.pow_add, ← Nat.div_div_eq_div_mul, show (2 : Nat) ^ 64 = 18446744073709551616 from by decide]
  omega

def ucmpN (x y : Nat) : Int := if x < y then -1 else if y < x then 1 else 0

theorem ucmp_l0_law (n : Nat) (x y : Nat) (g : Int → Option A) : ∀ (f i : Nat), i ≤ 4 → i < f → x / 2 ^ (64 * i) = y / 2 ^ (64 * i) →
    ucmp_l0 n (ints (uw x)) (ints (uw y)) g (g 0) f ((i : Int) - 1) = g (ucmpN x y) := by
  intro f
  induction f with
  | zero => intro i _ h; omega
  | succ f ih =>
  intro i hi hf he
  rcases i with _ | i
  · rw [ucmp_l0, ucmp_b0]
    have e : decide (((0 : Nat) : Int) - 1 ≥ 0) = false := by decide
    rw [Nat.mul_zero, Nat.pow_zero, Nat.div_one, Nat.div_one] at he
    rw [e, cond_false, he]
    unfold ucmpN
    rw [if_neg (by omega), if_neg (by omega)]
  · rw [ucmp_l0, ucmp_b0]
    have e0 : ((i + 1 : Nat) : Int) - 1 = (i : Int) := by omega
    have e : decide ((i : Int) ≥ 0) = true := decide_eq_true (by omega)
    have e2 : IntKind.wrap .i64 ((i : Int) - 1) = (i : Int) - 1 := wrap_id (by omega) (by omega)
    rw [e0, e, cond_true, if_pos (by omega), if_pos (by omega), Int.toNat_natCast, iuw_at _ _ (by omega), Option.bind_some, if_pos (by omega), if_pos (by omega), iuw_at _ _ (by omega), Option.bind_some]
    have hx := wd_split x i
    have hy := wd_split y i
    by_cases h1 : wd x i < wd y i
    · have d : decide (((wd x i : Nat) : Int) < ((wd y i : Nat) : Int)) = true := decide_eq_true (by omega)
      rw [d, cond_true]
      unfold ucmpN
      have : x < y := by
        rcases Nat.lt_or_ge x y with h | h
        · exact h
        · have := Nat.div_le_div_right (c := 2 ^ (64 * i)) h; omega
      rw [if_pos this]
    · have d : decide (((wd x i : Nat) : Int) < ((wd y i : Nat) : Int)) = false := decide_eq_false (by omega)
      rw [d, cond_false, if_pos (by omega), if_pos (by omega), Option.bind_some, if_pos (by omega), if_pos (by omega), Option.bind_some]
      by_cases h2 : wd y i < wd x i
      · have d : decide (((wd x i : Nat) : Int) > ((wd y i : Nat) : Int)) = true := decide_eq_true (by omega)
        rw [d, cond_true]
        unfold ucmpN
        have : y < x := by
          rcases Nat.lt_or_ge y x with h | h
          · exact h
          · have := Nat.div_le_div_right (c := 2 ^ (64 * i)) h; omega
        rw [if_neg (by omega), if_pos this]
      · have d : decide (((wd x i : Nat) : Int) > ((wd y i : Nat) : Int)) = false := decide_eq_false (by omega)
        rw [d, cond_false, e2]
        exact ih i (by omega) (by omega) (by omega)

theorem ucmp_law (n : Nat) (hn : 10 < n) (x y : Nat) (hx : x < 2 ^ 256) (hy : y < 2 ^ 256) (g : Int → Option A) : ucmp_k n (ints (uw x)) (ints (uw y)) g = g (ucmpN x y) := by
  unfold ucmp_k ucmp_p
  exact ucmp_l0_law n x y (fun y5 => g y5) n 4 (by omega) (by omega) (by
    rw [show (2 : Nat) ^ (64 * 4) = 2 ^ 256 from by decide, Nat.div_eq_of_lt hx, Nat.div_eq_of_lt hy])

end Go.Ev
end

section
/-
  FUNCTION 46: printed by a program of our own (wip/gen/st.py). 'masthead/octet.Num', in continuation form; the evaluator gives it.
-/
set_option linter.all false
set_option maxRecDepth 100000
namespace Go.Ev
open Go.Proofs
variable {A : Type}

-- ============================================================ num (function 46)
def num_b0 (n : Nat) (b : (List Int)) (t7 : Int) (k0 : Int → Option A) (r : Int → Int → Option A) (n_ : Int) (t8 : Int) : Option A :=
  bif (decide (t8 < t7)) then
    if 0 ≤ t8 then
      (b[(Int.toNat t8)]?).bind fun y1 =>
      if (IntKind.wrap .i64 (8 * t8)) < 0 then none else
      r (ior .u64 n_ (shl .u64 (IntKind.wrap .u64 y1) (IntKind.wrap .i64 (8 * t8)))) (IntKind.wrap .i64 (t8 + 1))
    else none
  else
    k0 n_

def num_l0 (n : Nat) (b : (List Int)) (t7 : Int) (k0 : Int → Option A) : Nat → Int → Int → Option A
  | 0 => fun _ _ => none
  | f + 1 => num_b0 n b t7 k0 (num_l0 n b t7 k0 f)

def num_p (n : Nat) (a0 : (List Int)) (k : Int → Option A) : Option A :=
  num_l0 n a0 (imin (a0.length : Int) 8) (fun y2 =>
    k y2) n 0 0

def num_k (n : Nat) (a0 : (List Int)) (k : Int → Option A) : Option A := num_p n a0 k

noncomputable def num_c0 : Code := codeAt [1, 1, 0, 1, 0, 0] (bodyOf Tryd.f46)
def num_d0 : List Nat := [2, 4, 5, 6, 9, 10, 11, 12, 13, 14, 15, 16, 17, 18, 19, 20, 21]
def num_y0 : List Nat := [0, 1, 2, 4, 5, 6, 7, 8, 9, 10, 11, 12, 13, 14, 15, 16, 17, 18, 19, 20, 21, 22]
def num_sh0 : Shape := ⟨[(.p (.sl (.int .u8))), .any, .any, (.p (.int .u64)), .any, .any, .any, (.p (.int .i64)), (.p (.int .i64)), .any, .any, .any, .any, .any, .any, .any, .any, .any, .any, .any, .any, .any, .any], [], 0⟩
def num_t0 (b : (List Int)) (t7 : Int) (n_ : Int) (t8 : Int) : num_sh0.den := ((b, (), (), n_, (), (), (), t7, t8, (), (), (), (), (), (), (), (), (), (), (), (), (), (), ()), ())
def num_x0_0 (b : (List Int)) (t7 : Int) (z0 : Int) : St := ⟨[.any, .any, .any, .p (.int .u64) z0, .any, .any, .any, .any, .any, .any, .any, .any, .any, .any, .any, .any, .any, .any, .any, .any, .any, .any, .any], [], 0⟩
def num_g0 (n : Nat) (d : num_sh0.den) (k : Ex → St → Option A) : Option A :=
  num_l0 n d.1.1 d.1.2.2.2.2.2.2.2.1 (fun z0 => k (.exit 0) (num_x0_0 d.1.1 d.1.2.2.2.2.2.2.2.1 z0)) n d.1.2.2.2.1 d.1.2.2.2.2.2.2.2.2.1
noncomputable def num_E (n : Nat) : Env A := ⟨tys, gls, [], [(0, loopE num_d0 num_sh0 (num_g0 n))], []⟩
theorem num_T {A : Type} (n : Nat) : TyOK Tryd.prog (num_E (A := A) n) := tyOK_of rfl tysB
theorem num_fns (n : Nat) : FnsOK Tryd.prog (num_E (A := A) n) := AllOK.env rfl rfl AllOK.nil
noncomputable def num_LK0 (n : Nat) (b : (List Int)) (t7 : Int) (k : Ex → St → Option A) (f : Nat) (n_ : Int) (t8 : Int) : Option A := loopK (codeK (num_E n) 1 num_c0) num_d0 num_y0 f (num_sh0.fill (num_t0 b t7 n_ t8)) k
theorem num_st0 (n f : Nat) (b : (List Int)) (t7 : Int) (k : Ex → St → Option A) (n_ : Int) (t8 : Int) : num_LK0 n b t7 k (f + 1) n_ t8 = num_b0 n b t7 (fun z0 => k (.exit 0) (num_x0_0 b t7 z0)) (num_LK0 n b t7 k f) n_ t8 := by kernel_rfl
theorem num_le0 (n : Nat) (b : (List Int)) (t7 : Int) (k : Ex → St → Option A) : ∀ (f : Nat) (n_ : Int) (t8 : Int), num_LK0 n b t7 k f n_ t8 = num_l0 n b t7 (fun z0 => k (.exit 0) (num_x0_0 b t7 z0)) f n_ t8 := by
  intro f
  induction f with
  | zero => intros; kernel_rfl
  | succ f ih => intro n_ t8; exact (num_st0 n f b t7 k n_ t8).trans ((congrArg (fun r => num_b0 n b t7 (fun z0 => k (.exit 0) (num_x0_0 b t7 z0)) r n_ t8) (funext fun n_ => funext fun t8 => ih n_ t8)).trans (by kernel_rfl))
theorem num_lo0 (n : Nat) : LoopOK Tryd.prog gls num_c0 (loopE num_d0 num_sh0 (num_g0 (A := A) n)) :=
  LoopOK.of (num_T n) (num_fns n) follows (j := 1) (n := n) (xdead := num_y0) (lo_of (by kernel_rfl : loopsOf 1 num_c0 = []) lo_nil) fun d k => Eq.trans (by kernel_rfl) (num_le0 n d.1.1 d.1.2.2.2.2.2.2.2.1 k n d.1.2.2.2.1 d.1.2.2.2.2.2.2.2.2.1)
theorem num_eqg (n : Nat) (a0 : (List Int)) (k : AV → List Blk → Option A) : fnK (num_E n) Tryd.f46 [.pure] [.p (.sl (.int .u8)) a0] [] k = num_p n a0 (fun r0 => k (.p (.int .u64) r0) []) := by kernel_rfl
theorem num_eq (n : Nat) (a0 : (List Int)) (k : AV → List Blk → Option A) : fnK (num_E n) Tryd.f46 [.pure] [.p (.sl (.int .u8)) a0] [] k = num_k n a0 (fun r0 => k (.p (.int .u64) r0) []) := num_eqg n a0 k
def num_ent (g : (List Int) → (Int → Option A) → Option A) : Entry A := pureE fun args k => args1 args (.sl (.int .u8)) fun a0 => g a0 (fun r0 => k (.p (.int .u64) r0) [])
theorem num_lo (n : Nat) : ∀ c, Tryd.f46.body = some c → ∀ q ∈ loopsOf 0 c, ∀ L, (num_E (A := A) n).lps.lookup q.1 = some L → LoopOK Tryd.prog gls q.2 L :=
  lo_body (E := num_E n) (by kernel_rfl : Tryd.f46.body = some (bodyOf Tryd.f46)) (lo_of (E := num_E n) (by kernel_rfl : loopsOf 0 (bodyOf Tryd.f46) = [(0, num_c0)]) (lo_cons rfl (num_lo0 n) lo_nil))
theorem num_ok (n : Nat) : FnOK Tryd.prog gls 46 (num_ent (A := A) (num_k n)) :=
  FnOK.of (num_T n) (num_fns n) follows ⟨Tryd.func46, by kernel_rfl⟩ (num_lo n) (rm := [.pure]) fun args k out h => by
    obtain ⟨a0, e, h1⟩ := args1_sound h
    subst e; rw [num_eq]; exact h1

end Go.Ev
end

section
/-
  FUNCTION 47: printed by a program of our own (wip/gen/st.py). 'masthead/octet.Little', in continuation form; the evaluator gives it.
-/
set_option linter.all false
set_option maxRecDepth 100000
namespace Go.Ev
open Go.Proofs
variable {A : Type}

-- ============================================================ little (function 47)
def little_b0 (n : Nat) (n_ : Int) (t12 : Int) (k0 : (List Int) → Option A) (r : Int → (List Int) → Option A) (t13 : Int) (out : (List Int)) : Option A :=
  bif (decide (t13 < t12)) then
    if (IntKind.wrap .i64 (8 * t13)) < 0 then none else
    if 0 ≤ t13 then
      if t13 < (out.length : Int) then
        if (Int.toNat t13) < out.length then
          r (IntKind.wrap .i64 (t13 + 1)) (out.set (Int.toNat t13) (IntKind.wrap .u8 (shr .u64 n_ (IntKind.wrap .i64 (8 * t13)))))
        else none
      else none
    else none
  else
    k0 out

def little_l0 (n : Nat) (n_ : Int) (t12 : Int) (k0 : (List Int) → Option A) : Nat → Int → (List Int) → Option A
  | 0 => fun _ _ => none
  | f + 1 => little_b0 n n_ t12 k0 (little_l0 n n_ t12 k0 f)

def little_p (n : Nat) (a0 : Int) (a1 : Int) (k : (List Int) → Option A) : Option A :=
  if 0 ≤ (imin (imax a1 0) 8) then
    if (imin (imax a1 0) 8) ≤ (imin (imax a1 0) 8) then
      if (imin (imax a1 0) 8) * 1 ≤ 140737488355328 then
        little_l0 n a0 ((List.replicate (Int.toNat (imin (imax a1 0) 8)) (0 : Int)).length : Int) (fun y1 =>
          k y1) n 0 (List.replicate (Int.toNat (imin (imax a1 0) 8)) (0 : Int))
      else none
    else none
  else none

def little_k (n : Nat) (a0 : Int) (a1 : Int) (k : (List Int) → Option A) : Option A := little_p n a0 a1 k

noncomputable def little_c0 : Code := codeAt [1, 1, 0, 1, 0, 0] (bodyOf Tryd.f47)
def little_d0 : List Nat := [1, 4, 6, 7, 8, 9, 10, 11, 14, 15, 16, 17, 18, 19, 20, 21, 22, 23, 24]
def little_y0 : List Nat := [0, 1, 2, 3, 4, 6, 7, 8, 9, 10, 11, 12, 13, 14, 15, 16, 17, 18, 19, 20, 21, 22, 23, 24, 25]
def little_sh0 : Shape := ⟨[(.p (.int .u64)), .any, .any, .any, .any, (.row 0), .any, .any, .any, .any, .any, .any, (.p (.int .i64)), (.p (.int .i64)), .any, .any, .any, .any, .any, .any, .any, .any, .any, .any, .any, .any], [(.row 5 (.int .u8))], 0⟩
def little_t0 (n_ : Int) (t12 : Int) (t13 : Int) (out : (List Int)) : little_sh0.den := ((n_, (), (), (), (), (), (), (), (), (), (), (), t12, t13, (), (), (), (), (), (), (), (), (), (), (), (), ()), (out, ()))
def little_x0_0 (n_ : Int) (t12 : Int) (z0 : (List Int)) : St := ⟨[.any, .any, .any, .any, .any, .row 0, .any, .any, .any, .any, .any, .any, .any, .any, .any, .any, .any, .any, .any, .any, .any, .any, .any, .any, .any, .any], [.row 5 (.int .u8) z0], 0⟩
def little_g0 (n : Nat) (d : little_sh0.den) (k : Ex → St → Option A) : Option A :=
  little_l0 n d.1.1 d.1.2.2.2.2.2.2.2.2.2.2.2.2.1 (fun z0 => k (.exit 0) (little_x0_0 d.1.1 d.1.2.2.2.2.2.2.2.2.2.2.2.2.1 z0)) n d.1.2.2.2.2.2.2.2.2.2.2.2.2.2.1 d.2.1
noncomputable def little_E (n : Nat) : Env A := ⟨tys, gls, [], [(0, loopE little_d0 little_sh0 (little_g0 n))], []⟩
theorem little_T {A : Type} (n : Nat) : TyOK Tryd.prog (little_E (A := A) n) := tyOK_of rfl tysB
theorem little_fns (n : Nat) : FnsOK Tryd.prog (little_E (A := A) n) := AllOK.env rfl rfl AllOK.nil
noncomputable def little_LK0 (n : Nat) (n_ : Int) (t12 : Int) (k : Ex → St → Option A) (f : Nat) (t13 : Int) (out : (List Int)) : Option A := loopK (codeK (little_E n) 1 little_c0) little_d0 little_y0 f (little_sh0.fill (little_t0 n_ t12 t13 out)) k
theorem little_st0 (n f : Nat) (n_ : Int) (t12 : Int) (k : Ex → St → Option A) (t13 : Int) (out : (List Int)) : little_LK0 n n_ t12 k (f + 1) t13 out = little_b0 n n_ t12 (fun z0 => k (.exit 0) (little_x0_0 n_ t12 z0)) (little_LK0 n n_ t12 k f) t13 out := by kernel_rfl
theorem little_le0 (n : Nat) (n_ : Int) (t12 : Int) (k : Ex → St → Option A) : ∀ (f : Nat) (t13 : Int) (out : (List Int)), little_LK0 n n_ t12 k f t13 out = little_l0 n n_ t12 (fun z0 => k (.exit 0) (little_x0_0 n_ t12 z0)) f t13 out := by
  intro f
  induction f with
  | zero => intros; kernel_rfl
  | succ f ih => intro t13 out; exact (little_st0 n f n_ t12 k t13 out).trans ((congrArg (fun r => little_b0 n n_ t12 (fun z0 => k (.exit 0) (little_x0_0 n_ t12 z0)) r t13 out) (funext fun t13 => funext fun out => ih t13 out)).trans (by kernel_rfl))
theorem little_lo0 (n : Nat) : LoopOK Tryd.prog gls little_c0 (loopE little_d0 little_sh0 (little_g0 (A := A) n)) :=
  LoopOK.of (little_T n) (little_fns n) follows (j := 1) (n := n) (xdead := little_y0) (lo_of (by kernel_rfl : loopsOf 1 little_c0 = []) lo_nil) fun d k => Eq.trans (by kernel_rfl) (little_le0 n d.1.1 d.1.2.2.2.2.2.2.2.2.2.2.2.2.1 k n d.1.2.2.2.2.2.2.2.2.2.2.2.2.2.1 d.2.1)
theorem little_eqg (n : Nat) (a0 : Int) (a1 : Int) (k : AV → List Blk → Option A) : fnK (little_E n) Tryd.f47 [.own] [.p (.int .u64) a0, .p (.int .i64) a1] [] k = little_p n a0 a1 (fun r0 => k (.row 0) [.row 5 (.int .u8) r0]) := by kernel_rfl
theorem little_eq (n : Nat) (a0 : Int) (a1 : Int) (k : AV → List Blk → Option A) : fnK (little_E n) Tryd.f47 [.own] [.p (.int .u64) a0, .p (.int .i64) a1] [] k = little_k n a0 a1 (fun r0 => k (.row 0) [.row 5 (.int .u8) r0]) := little_eqg n a0 a1 k
def little_ent (g : Int → Int → ((List Int) → Option A) → Option A) : Entry A := pureE fun args k => args2 args (.int .u64) (.int .i64) fun a0 a1 => g a0 a1 (fun r0 => k (.row 0) [.row 5 (.int .u8) r0])
theorem little_lo (n : Nat) : ∀ c, Tryd.f47.body = some c → ∀ q ∈ loopsOf 0 c, ∀ L, (little_E (A := A) n).lps.lookup q.1 = some L → LoopOK Tryd.prog gls q.2 L :=
  lo_body (E := little_E n) (by kernel_rfl : Tryd.f47.body = some (bodyOf Tryd.f47)) (lo_of (E := little_E n) (by kernel_rfl : loopsOf 0 (bodyOf Tryd.f47) = [(0, little_c0)]) (lo_cons rfl (little_lo0 n) lo_nil))
theorem little_ok (n : Nat) : FnOK Tryd.prog gls 47 (little_ent (A := A) (little_k n)) :=
  FnOK.of (little_T n) (little_fns n) follows ⟨Tryd.func47, by kernel_rfl⟩ (little_lo n) (rm := [.own]) fun args k out h => by
    obtain ⟨a0, a1, e, h1⟩ := args2_sound h
    subst e; rw [little_eq]; exact h1

end Go.Ev
end

