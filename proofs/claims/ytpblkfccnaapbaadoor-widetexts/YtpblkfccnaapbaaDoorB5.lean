import Derived.Test.YtpblkfccnaapbaaDoorProg
import Derived.Test.YtpblkfccnaapbaaDoorB4
import Derived.KernelRfl
set_option linter.all false
section
/-
  TYPES: printed by a program of our own (wip/gen/st.py). The types that the functions' code names, as kinds.
-/
set_option linter.all false
namespace Go.Ev
open Go.Proofs

abbrev kA4u64 : Kind := (.arr 4 (.int .u64))
abbrev kA32u8 : Kind := (.arr 32 (.int .u8))
abbrev kA24u8 : Kind := (.arr 24 (.int .u8))
abbrev kA20u64 : Kind := (.arr 20 (.int .u64))
def str0 : ByteArray := ⟨List.toArray (((([0, 1, 2, 2, 3, 3, 3, 3, 4, 4, 4, 4, 4, 4, 4, 4, 5, 5, 5, 5, 5, 5, 5, 5, 5, 5, 5, 5, 5, 5, 5, 5, 6, 6, 6, 6, 6, 6, 6, 6, 6, 6, 6, 6, 6, 6, 6, 6, 6, 6, 6, 6, 6, 6, 6, 6, 6, 6, 6, 6, 6, 6, 6, 6] : List UInt8) ++ ([7, 7, 7, 7, 7, 7, 7, 7, 7, 7, 7, 7, 7, 7, 7, 7, 7, 7, 7, 7, 7, 7, 7, 7, 7, 7, 7, 7, 7, 7, 7, 7, 7, 7, 7, 7, 7, 7, 7, 7, 7, 7, 7, 7, 7, 7, 7, 7, 7, 7, 7, 7, 7, 7, 7, 7, 7, 7, 7, 7, 7, 7, 7, 7] : List UInt8)) ++ (([8, 8, 8, 8, 8, 8, 8, 8, 8, 8, 8, 8, 8, 8, 8, 8, 8, 8, 8, 8, 8, 8, 8, 8, 8, 8, 8, 8, 8, 8, 8, 8, 8, 8, 8, 8, 8, 8, 8, 8, 8, 8, 8, 8, 8, 8, 8, 8, 8, 8, 8, 8, 8, 8, 8, 8, 8, 8, 8, 8, 8, 8, 8, 8] : List UInt8) ++ ([8, 8, 8, 8, 8, 8, 8, 8, 8, 8, 8, 8, 8, 8, 8, 8, 8, 8, 8, 8, 8, 8, 8, 8, 8, 8, 8, 8, 8, 8, 8, 8, 8, 8, 8, 8, 8, 8, 8, 8, 8, 8, 8, 8, 8, 8, 8, 8, 8, 8, 8, 8, 8, 8, 8, 8, 8, 8, 8, 8, 8, 8, 8, 8] : List UInt8))) : List UInt8)⟩
def str1 : ByteArray := ⟨#[48]⟩
def str2 : ByteArray := ⟨#[48, 49, 50, 51, 52, 53, 54, 55, 56, 57, 97, 98, 99, 100, 101, 102, 103, 104, 105, 106, 107, 108, 109, 110, 111, 112, 113, 114, 115, 116, 117, 118, 119, 120, 121, 122]⟩
def str3 : ByteArray := ⟨List.toArray (((([48, 48, 48, 49, 48, 50, 48, 51, 48, 52, 48, 53, 48, 54, 48, 55, 48, 56, 48, 57, 49, 48, 49, 49, 49, 50, 49, 51, 49, 52, 49, 53, 49, 54, 49, 55, 49, 56, 49, 57, 50, 48, 50, 49, 50, 50, 50, 51, 50, 52] : List UInt8) ++ ([50, 53, 50, 54, 50, 55, 50, 56, 50, 57, 51, 48, 51, 49, 51, 50, 51, 51, 51, 52, 51, 53, 51, 54, 51, 55, 51, 56, 51, 57, 52, 48, 52, 49, 52, 50, 52, 51, 52, 52, 52, 53, 52, 54, 52, 55, 52, 56, 52, 57] : List UInt8)) ++ (([53, 48, 53, 49, 53, 50, 53, 51, 53, 52, 53, 53, 53, 54, 53, 55, 53, 56, 53, 57, 54, 48, 54, 49, 54, 50, 54, 51, 54, 52, 54, 53, 54, 54, 54, 55, 54, 56, 54, 57, 55, 48, 55, 49, 55, 50, 55, 51, 55, 52] : List UInt8) ++ ([55, 53, 55, 54, 55, 55, 55, 56, 55, 57, 56, 48, 56, 49, 56, 50, 56, 51, 56, 52, 56, 53, 56, 54, 56, 55, 56, 56, 56, 57, 57, 48, 57, 49, 57, 50, 57, 51, 57, 52, 57, 53, 57, 54, 57, 55, 57, 56, 57, 57] : List UInt8))) : List UInt8)⟩
def gl2 : (List Int) := [1, 10, 100, 1000, 10000, 100000, 1000000, 10000000, 100000000, 1000000000, 10000000000, 100000000000, 1000000000000, 10000000000000, 100000000000000, 1000000000000000, 10000000000000000, 100000000000000000, 1000000000000000000, 10000000000000000000]
def gls : GL := [(2, ⟨kA20u64, gl2⟩)]
def tys : List (TypeId × TI) := [(3, ⟨(.int .i64), .prim, 8, true⟩), (4, ⟨.bool, .prim, 1, true⟩), (5, ⟨(.int .u8), .prim, 1, true⟩), (9, ⟨.str, .prim, 16, true⟩), (22, ⟨(.int .u64), .prim, 8, true⟩), (23, ⟨kA4u64, (.array 4 22), 32, true⟩), (24, ⟨kA4u64, (.array 4 22), 32, true⟩), (30, ⟨(.sl (.int .i64)), (.slice 3), 24, false⟩), (51, ⟨kA32u8, (.array 32 5), 32, true⟩), (58, ⟨(.int .u64), .prim, 8, true⟩), (64, ⟨(.sl (.int .u64)), (.slice 22), 24, false⟩), (65, ⟨(.sl .str), (.slice 9), 24, false⟩), (68, ⟨(.sl (.int .u8)), (.slice 5), 24, false⟩), (76, ⟨kA24u8, (.array 24 5), 24, true⟩), (82, ⟨kA20u64, (.array 20 22), 160, true⟩), (83, ⟨(.int .u32), .prim, 4, true⟩)]
theorem tysB : tys.all (tyB Tryd.prog tys) = true := by kernel_rfl
theorem follows : Tryd.prog.follows .mixedOrders = true := by kernel_rfl
end Go.Ev
end

section
/-
  FUNCTION 41: printed by a program of our own (wip/gen/st.py). 'masthead/mastheadref04.trim', in continuation form; the evaluator gives it.
-/
set_option linter.all false
set_option maxRecDepth 100000
namespace Go.Ev
open Go.Proofs
variable {A : Type}

-- ============================================================ trim (function 41)
def trim_b0 (n : Nat) (a : (List Int)) (k0 : Int → Option A) (r : Int → Option A) (n_ : Int) : Option A :=
  bif (decide (n_ > 0)) then
    if 0 ≤ (IntKind.wrap .i64 (n_ - 1)) then
      (a[(Int.toNat (IntKind.wrap .i64 (n_ - 1)))]?).bind fun y1 =>
      bif (y1 == 0) then
        r (IntKind.wrap .i64 (n_ - 1))
      else
        k0 n_
    else none
  else
    k0 n_

def trim_l0 (n : Nat) (a : (List Int)) (k0 : Int → Option A) : Nat → Int → Option A
  | 0 => fun _ => none
  | f + 1 => trim_b0 n a k0 (trim_l0 n a k0 f)

def trim_p (n : Nat) (a0 : (List Int)) (k : (List Int) → Option A) : Option A :=
  trim_l0 n a0 (fun y2 =>
    if 0 ≤ y2 then
      if y2 ≤ (a0.length : Int) then
        k ((a0.drop 0).take ((Int.toNat y2) - 0))
      else none
    else none) n (a0.length : Int)

def trim_k (n : Nat) (a0 : (List Int)) (k : (List Int) → Option A) : Option A := trim_p n a0 k

noncomputable def trim_c0 : Code := codeAt [1, 1, 0, 0, 0] (bodyOf Tryd.f41)
def trim_d0 : List Nat := [2, 4, 5, 6, 7, 8, 9, 10, 11, 12, 13, 14, 15, 16, 17]
def trim_y0 : List Nat := [1, 2, 4, 5, 6, 7, 8, 9, 10, 11, 12, 13, 14, 15, 16, 17, 18, 19, 20]
def trim_sh0 : Shape := ⟨[(.p (.sl (.int .i64))), .any, .any, (.p (.int .i64)), .any, .any, .any, .any, .any, .any, .any, .any, .any, .any, .any, .any, .any, .any, .any, .any, .any], [], 0⟩
def trim_t0 (a : (List Int)) (n_ : Int) : trim_sh0.den := ((a, (), (), n_, (), (), (), (), (), (), (), (), (), (), (), (), (), (), (), (), (), ()), ())
def trim_x0_0 (a : (List Int)) (z1 : Int) : St := ⟨[.p (.sl (.int .i64)) a, .any, .any, .p (.int .i64) z1, .any, .any, .any, .any, .any, .any, .any, .any, .any, .any, .any, .any, .any, .any, .any, .any, .any], [], 0⟩
def trim_g0 (n : Nat) (d : trim_sh0.den) (k : Ex → St → Option A) : Option A :=
  trim_l0 n d.1.1 (fun z1 => k (.exit 0) (trim_x0_0 d.1.1 z1)) n d.1.2.2.2.1
noncomputable def trim_E (n : Nat) : Env A := ⟨tys, gls, [], [(0, loopE trim_d0 trim_sh0 (trim_g0 n))], []⟩
theorem trim_T {A : Type} (n : Nat) : TyOK Tryd.prog (trim_E (A := A) n) := tyOK_of rfl tysB
theorem trim_fns (n : Nat) : FnsOK Tryd.prog (trim_E (A := A) n) := AllOK.env rfl rfl AllOK.nil
noncomputable def trim_LK0 (n : Nat) (a : (List Int)) (k : Ex → St → Option A) (f : Nat) (n_ : Int) : Option A := loopK (codeK (trim_E n) 1 trim_c0) trim_d0 trim_y0 f (trim_sh0.fill (trim_t0 a n_)) k
theorem trim_st0 (n f : Nat) (a : (List Int)) (k : Ex → St → Option A) (n_ : Int) : trim_LK0 n a k (f + 1) n_ = trim_b0 n a (fun z1 => k (.exit 0) (trim_x0_0 a z1)) (trim_LK0 n a k f) n_ := by kernel_rfl
theorem trim_le0 (n : Nat) (a : (List Int)) (k : Ex → St → Option A) : ∀ (f : Nat) (n_ : Int), trim_LK0 n a k f n_ = trim_l0 n a (fun z1 => k (.exit 0) (trim_x0_0 a z1)) f n_ := by
  intro f
  induction f with
  | zero => intros; kernel_rfl
  | succ f ih => intro n_; exact (trim_st0 n f a k n_).trans ((congrArg (fun r => trim_b0 n a (fun z1 => k (.exit 0) (trim_x0_0 a z1)) r n_) (funext fun n_ => ih n_)).trans (by kernel_rfl))
theorem trim_lo0 (n : Nat) : LoopOK Tryd.prog gls trim_c0 (loopE trim_d0 trim_sh0 (trim_g0 (A := A) n)) :=
  LoopOK.of (trim_T n) (trim_fns n) follows (j := 1) (n := n) (xdead := trim_y0) (lo_of (by kernel_rfl : loopsOf 1 trim_c0 = []) lo_nil) fun d k => Eq.trans (by kernel_rfl) (trim_le0 n d.1.1 k n d.1.2.2.2.1)
theorem trim_eqg (n : Nat) (a0 : (List Int)) (k : AV → List Blk → Option A) : fnK (trim_E n) Tryd.f41 [.pure] [.p (.sl (.int .i64)) a0] [] k = trim_p n a0 (fun r0 => k (.p (.sl (.int .i64)) r0) []) := by kernel_rfl
theorem trim_eq (n : Nat) (a0 : (List Int)) (k : AV → List Blk → Option A) : fnK (trim_E n) Tryd.f41 [.pure] [.p (.sl (.int .i64)) a0] [] k = trim_k n a0 (fun r0 => k (.p (.sl (.int .i64)) r0) []) := trim_eqg n a0 k
def trim_ent (g : (List Int) → ((List Int) → Option A) → Option A) : Entry A := pureE fun args k => args1 args (.sl (.int .i64)) fun a0 => g a0 (fun r0 => k (.p (.sl (.int .i64)) r0) [])
theorem trim_lo (n : Nat) : ∀ c, Tryd.f41.body = some c → ∀ q ∈ loopsOf 0 c, ∀ L, (trim_E (A := A) n).lps.lookup q.1 = some L → LoopOK Tryd.prog gls q.2 L :=
  lo_body (E := trim_E n) (by kernel_rfl : Tryd.f41.body = some (bodyOf Tryd.f41)) (lo_of (E := trim_E n) (by kernel_rfl : loopsOf 0 (bodyOf Tryd.f41) = [(0, trim_c0)]) (lo_cons rfl (trim_lo0 n) lo_nil))
theorem trim_ok (n : Nat) : FnOK Tryd.prog gls 41 (trim_ent (A := A) (trim_k n)) :=
  FnOK.of (trim_T n) (trim_fns n) follows ⟨Tryd.func41, by kernel_rfl⟩ (trim_lo n) (rm := [.pure]) fun args k out h => by
    obtain ⟨a0, e, h1⟩ := args1_sound h
    subst e; rw [trim_eq]; exact h1

end Go.Ev
end

section
/-
  FUNCTION 16: printed by a program of our own (wip/gen/st.py). 'masthead/mastheadref04.Of', in continuation form; the evaluator gives it.
-/
set_option linter.all false
set_option maxRecDepth 100000
namespace Go.Ev
open Go.Proofs
variable {A : Type}

-- ============================================================ of (function 16)
def of_b1 (g_trim : (List Int) → ((List Int) → Option A) → Option A) (n : Nat) (t7 : (List Int)) (t8 : Int) (t9 : Int) (k0 : (List Int) → Option A) (r : Int → Int → (List Int) → Option A) (w : Int) (i : Int) (out : (List Int)) : Option A :=
  bif (decide (i < 4)) then
    if (out.length + 1) * 8 ≤ 140737488355328 then
      r (IntKind.wrap .u64 (Int.tdiv w 65536)) (IntKind.wrap .i64 (i + 1)) (out ++ [(IntKind.wrap .i64 (Int.tmod w 65536))])
    else none
  else
    k0 out

def of_l1 (g_trim : (List Int) → ((List Int) → Option A) → Option A) (n : Nat) (t7 : (List Int)) (t8 : Int) (t9 : Int) (k0 : (List Int) → Option A) : Nat → Int → Int → (List Int) → Option A
  | 0 => fun _ _ _ => none
  | f + 1 => of_b1 g_trim n t7 t8 t9 k0 (of_l1 g_trim n t7 t8 t9 k0 f)

def of_b0 (g_trim : (List Int) → ((List Int) → Option A) → Option A) (n : Nat) (t7 : (List Int)) (t8 : Int) (k0 : (List Int) → Option A) (r : Int → (List Int) → Option A) (t9 : Int) (out : (List Int)) : Option A :=
  bif (decide (t9 < t8)) then
    if 0 ≤ t9 then
      (t7[(Int.toNat t9)]?).bind fun y1 =>
      of_l1 g_trim n t7 t8 t9 (fun y2 =>
        r (IntKind.wrap .i64 (t9 + 1)) y2) n y1 0 out
    else none
  else
    k0 out

def of_l0 (g_trim : (List Int) → ((List Int) → Option A) → Option A) (n : Nat) (t7 : (List Int)) (t8 : Int) (k0 : (List Int) → Option A) : Nat → Int → (List Int) → Option A
  | 0 => fun _ _ => none
  | f + 1 => of_b0 g_trim n t7 t8 k0 (of_l0 g_trim n t7 t8 k0 f)

def of_p (g_trim : (List Int) → ((List Int) → Option A) → Option A) (n : Nat) (a0 : (List Int)) (k : (List Int) → Option A) : Option A :=
  of_l0 g_trim n a0 (a0.length : Int) (fun y3 =>
    g_trim y3 fun r4 =>
    k r4) n 0 []

def of_k (n : Nat) (a0 : (List Int)) (k : (List Int) → Option A) : Option A := of_p (trim_k n) n a0 k

noncomputable def of_c0 : Code := codeAt [1, 1, 0, 1, 0, 0] (bodyOf Tryd.f16)
def of_d0 : List Nat := [0, 2, 5, 6, 10, 11, 12, 13, 14, 15, 16, 17, 18, 19, 20, 21, 22, 23, 24, 25]
def of_y0 : List Nat := [0, 1, 2, 4, 5, 6, 7, 8, 9, 10, 11, 12, 13, 14, 15, 16, 17, 18, 19, 20, 21, 22, 23, 24, 25, 26, 27]
def of_sh0 : Shape := ⟨[.any, .any, .any, (.row 0), .any, .any, .any, (.p (.sl (.int .u64))), (.p (.int .i64)), (.p (.int .i64)), .any, .any, .any, .any, .any, .any, .any, .any, .any, .any, .any, .any, .any, .any, .any, .any, .any, .any], [(.row 3 (.int .i64))], 0⟩
def of_t0 (t7 : (List Int)) (t8 : Int) (t9 : Int) (out : (List Int)) : of_sh0.den := (((), (), (), (), (), (), (), t7, t8, t9, (), (), (), (), (), (), (), (), (), (), (), (), (), (), (), (), (), (), ()), (out, ()))
def of_x0_0 (t7 : (List Int)) (t8 : Int) (z0 : (List Int)) : St := ⟨[.any, .any, .any, .row 0, .any, .any, .any, .any, .any, .any, .any, .any, .any, .any, .any, .any, .any, .any, .any, .any, .any, .any, .any, .any, .any, .any, .any, .any], [.row 3 (.int .i64) z0], 0⟩
def of_g0 (g_trim : (List Int) → ((List Int) → Option A) → Option A) (n : Nat) (d : of_sh0.den) (k : Ex → St → Option A) : Option A :=
  of_l0 g_trim n d.1.2.2.2.2.2.2.2.1 d.1.2.2.2.2.2.2.2.2.1 (fun z0 => k (.exit 0) (of_x0_0 d.1.2.2.2.2.2.2.2.1 d.1.2.2.2.2.2.2.2.2.1 z0)) n d.1.2.2.2.2.2.2.2.2.2.1 d.2.1
noncomputable def of_c1 : Code := codeAt [1, 1, 0, 1, 0, 0, 1, 1, 0, 0, 1, 1, 0, 0] (bodyOf Tryd.f16)
def of_d1 : List Nat := [10, 11, 12, 13, 14, 15, 16, 17, 18, 19, 20, 21, 22, 23, 24]
def of_y1 : List Nat := [0, 1, 2, 4, 5, 6, 10, 11, 12, 13, 14, 15, 16, 17, 18, 19, 20, 21, 22, 23, 24, 25, 26, 27]
def of_sh1 : Shape := ⟨[.any, .any, .any, (.row 0), .any, (.p (.int .u64)), (.p (.int .i64)), (.p (.sl (.int .u64))), (.p (.int .i64)), (.p (.int .i64)), .any, .any, .any, .any, .any, .any, .any, .any, .any, .any, .any, .any, .any, .any, .any, .any, .any, .any], [(.row 3 (.int .i64))], 0⟩
def of_t1 (t7 : (List Int)) (t8 : Int) (t9 : Int) (w : Int) (i : Int) (out : (List Int)) : of_sh1.den := (((), (), (), (), (), w, i, t7, t8, t9, (), (), (), (), (), (), (), (), (), (), (), (), (), (), (), (), (), (), ()), (out, ()))
def of_x1_0 (t7 : (List Int)) (t8 : Int) (t9 : Int) (z3 : (List Int)) : St := ⟨[.any, .any, .any, .row 0, .any, .any, .any, .p (.sl (.int .u64)) t7, .p (.int .i64) t8, .p (.int .i64) t9, .any, .any, .any, .any, .any, .any, .any, .any, .any, .any, .any, .any, .any, .any, .any, .any, .any, .any], [.row 3 (.int .i64) z3], 0⟩
def of_g1 (g_trim : (List Int) → ((List Int) → Option A) → Option A) (n : Nat) (d : of_sh1.den) (k : Ex → St → Option A) : Option A :=
  of_l1 g_trim n d.1.2.2.2.2.2.2.2.1 d.1.2.2.2.2.2.2.2.2.1 d.1.2.2.2.2.2.2.2.2.2.1 (fun z3 => k (.exit 2) (of_x1_0 d.1.2.2.2.2.2.2.2.1 d.1.2.2.2.2.2.2.2.2.1 d.1.2.2.2.2.2.2.2.2.2.1 z3)) n d.1.2.2.2.2.2.1 d.1.2.2.2.2.2.2.1 d.2.1
noncomputable def of_E (g_trim : (List Int) → ((List Int) → Option A) → Option A) (n : Nat) : Env A := ⟨tys, gls, [(41, trim_ent g_trim)], [(0, loopE of_d0 of_sh0 (of_g0 g_trim n)), (1, loopE of_d1 of_sh1 (of_g1 g_trim n))], []⟩
theorem of_T (g_trim : (List Int) → ((List Int) → Option A) → Option A) (n : Nat) : TyOK Tryd.prog (of_E g_trim n) := tyOK_of rfl tysB
theorem of_fns (n : Nat) : FnsOK Tryd.prog (of_E (A := A) (trim_k n) n) := AllOK.env rfl rfl (AllOK.cons (trim_ok n) AllOK.nil)
noncomputable def of_LK1 (g_trim : (List Int) → ((List Int) → Option A) → Option A) (n : Nat) (t7 : (List Int)) (t8 : Int) (t9 : Int) (k : Ex → St → Option A) (f : Nat) (w : Int) (i : Int) (out : (List Int)) : Option A := loopK (codeK (of_E g_trim n) 2 of_c1) of_d1 of_y1 f (of_sh1.fill (of_t1 t7 t8 t9 w i out)) k
theorem of_st1 (g_trim : (List Int) → ((List Int) → Option A) → Option A) (n f : Nat) (t7 : (List Int)) (t8 : Int) (t9 : Int) (k : Ex → St → Option A) (w : Int) (i : Int) (out : (List Int)) : of_LK1 g_trim n t7 t8 t9 k (f + 1) w i out = of_b1 g_trim n t7 t8 t9 (fun z3 => k (.exit 2) (of_x1_0 t7 t8 t9 z3)) (of_LK1 g_trim n t7 t8 t9 k f) w i out := by kernel_rfl
theorem of_le1 (g_trim : (List Int) → ((List Int) → Option A) → Option A) (n : Nat) (t7 : (List Int)) (t8 : Int) (t9 : Int) (k : Ex → St → Option A) : ∀ (f : Nat) (w : Int) (i : Int) (out : (List Int)), of_LK1 g_trim n t7 t8 t9 k f w i out = of_l1 g_trim n t7 t8 t9 (fun z3 => k (.exit 2) (of_x1_0 t7 t8 t9 z3)) f w i out := by
  intro f
  induction f with
  | zero => intros; kernel_rfl
  | succ f ih => intro w i out; exact (of_st1 g_trim n f t7 t8 t9 k w i out).trans ((congrArg (fun r => of_b1 g_trim n t7 t8 t9 (fun z3 => k (.exit 2) (of_x1_0 t7 t8 t9 z3)) r w i out) (funext fun w => funext fun i => funext fun out => ih w i out)).trans (by kernel_rfl))
theorem of_lo1 (n : Nat) : LoopOK Tryd.prog gls of_c1 (loopE of_d1 of_sh1 (of_g1 (A := A) (trim_k n) n)) :=
  LoopOK.of (of_T (trim_k n) n) (of_fns n) follows (j := 2) (n := n) (xdead := of_y1) (lo_of (by kernel_rfl : loopsOf 2 of_c1 = []) lo_nil) fun d k => Eq.trans (by kernel_rfl) (of_le1 (trim_k n) n d.1.2.2.2.2.2.2.2.1 d.1.2.2.2.2.2.2.2.2.1 d.1.2.2.2.2.2.2.2.2.2.1 k n d.1.2.2.2.2.2.1 d.1.2.2.2.2.2.2.1 d.2.1)
noncomputable def of_LK0 (g_trim : (List Int) → ((List Int) → Option A) → Option A) (n : Nat) (t7 : (List Int)) (t8 : Int) (k : Ex → St → Option A) (f : Nat) (t9 : Int) (out : (List Int)) : Option A := loopK (codeK (of_E g_trim n) 1 of_c0) of_d0 of_y0 f (of_sh0.fill (of_t0 t7 t8 t9 out)) k
theorem of_st0 (g_trim : (List Int) → ((List Int) → Option A) → Option A) (n f : Nat) (t7 : (List Int)) (t8 : Int) (k : Ex → St → Option A) (t9 : Int) (out : (List Int)) : of_LK0 g_trim n t7 t8 k (f + 1) t9 out = of_b0 g_trim n t7 t8 (fun z0 => k (.exit 0) (of_x0_0 t7 t8 z0)) (of_LK0 g_trim n t7 t8 k f) t9 out := by kernel_rfl
theorem of_le0 (g_trim : (List Int) → ((List Int) → Option A) → Option A) (n : Nat) (t7 : (List Int)) (t8 : Int) (k : Ex → St → Option A) : ∀ (f : Nat) (t9 : Int) (out : (List Int)), of_LK0 g_trim n t7 t8 k f t9 out = of_l0 g_trim n t7 t8 (fun z0 => k (.exit 0) (of_x0_0 t7 t8 z0)) f t9 out := by
  intro f
  induction f with
  | zero => intros; kernel_rfl
  | succ f ih => intro t9 out; exact (of_st0 g_trim n f t7 t8 k t9 out).trans ((congrArg (fun r => of_b0 g_trim n t7 t8 (fun z0 => k (.exit 0) (of_x0_0 t7 t8 z0)) r t9 out) (funext fun t9 => funext fun out => ih t9 out)).trans (by kernel_rfl))
theorem of_lo0 (n : Nat) : LoopOK Tryd.prog gls of_c0 (loopE of_d0 of_sh0 (of_g0 (A := A) (trim_k n) n)) :=
  LoopOK.of (of_T (trim_k n) n) (of_fns n) follows (j := 1) (n := n) (xdead := of_y0) (lo_of (by kernel_rfl : loopsOf 1 of_c0 = [(1, of_c1)]) (lo_cons rfl (of_lo1 n) lo_nil)) fun d k => Eq.trans (by kernel_rfl) (of_le0 (trim_k n) n d.1.2.2.2.2.2.2.2.1 d.1.2.2.2.2.2.2.2.2.1 k n d.1.2.2.2.2.2.2.2.2.2.1 d.2.1)
theorem of_eqg (g_trim : (List Int) → ((List Int) → Option A) → Option A) (n : Nat) (a0 : (List Int)) (k : AV → List Blk → Option A) : fnK (of_E g_trim n) Tryd.f16 [.pure] [.p (.sl (.int .u64)) a0] [] k = of_p g_trim n a0 (fun r0 => k (.p (.sl (.int .i64)) r0) []) := by kernel_rfl
theorem of_eq (n : Nat) (a0 : (List Int)) (k : AV → List Blk → Option A) : fnK (of_E (trim_k n) n) Tryd.f16 [.pure] [.p (.sl (.int .u64)) a0] [] k = of_k n a0 (fun r0 => k (.p (.sl (.int .i64)) r0) []) := of_eqg (trim_k n) n a0 k
def of_ent (g : (List Int) → ((List Int) → Option A) → Option A) : Entry A := pureE fun args k => args1 args (.sl (.int .u64)) fun a0 => g a0 (fun r0 => k (.p (.sl (.int .i64)) r0) [])
theorem of_lo (n : Nat) : ∀ c, Tryd.f16.body = some c → ∀ q ∈ loopsOf 0 c, ∀ L, (of_E (A := A) (trim_k n) n).lps.lookup q.1 = some L → LoopOK Tryd.prog gls q.2 L :=
  lo_body (E := of_E (trim_k n) n) (by kernel_rfl : Tryd.f16.body = some (bodyOf Tryd.f16)) (lo_of (E := of_E (trim_k n) n) (by kernel_rfl : loopsOf 0 (bodyOf Tryd.f16) = [(0, of_c0), (1, of_c1)]) (lo_cons rfl (of_lo0 n) (lo_cons rfl (of_lo1 n) lo_nil)))
theorem of_ok (n : Nat) : FnOK Tryd.prog gls 16 (of_ent (A := A) (of_k n)) :=
  FnOK.of (of_T (trim_k n) n) (of_fns n) follows ⟨Tryd.func16, by kernel_rfl⟩ (of_lo n) (rm := [.pure]) fun args k out h => by
    obtain ⟨a0, e, h1⟩ := args1_sound h
    subst e; rw [of_eq]; exact h1

end Go.Ev
end

section
/-
  FUNCTION 34: printed by a program of our own (wip/gen/st.py). 'masthead/mastheadref04.Words', in continuation form; the evaluator gives it.
-/
set_option linter.all false
set_option maxRecDepth 100000
namespace Go.Ev
open Go.Proofs
variable {A : Type}

-- ============================================================ words (function 34)
def words_b0 (n : Nat) (a : (List Int)) (t2 : (List Int)) (k0 : (List Int) → Option A) (r : Int → (List Int) → Option A) (i : Int) (out : (List Int)) : Option A :=
  bif (decide (i ≥ 0)) then
    bif (decide (i < 16)) then
      if 0 ≤ (IntKind.wrap .i64 (Int.tdiv i 4)) then
        if (IntKind.wrap .i64 (Int.tdiv i 4)) < 4 then
          (out[(Int.toNat (IntKind.wrap .i64 (Int.tdiv i 4)))]?).bind fun y1 =>
          if 0 ≤ i then
            (a[(Int.toNat i)]?).bind fun y2 =>
            if 0 ≤ (IntKind.wrap .i64 (Int.tdiv i 4)) then
              if (IntKind.wrap .i64 (Int.tdiv i 4)) < 4 then
                if (Int.toNat (IntKind.wrap .i64 (Int.tdiv i 4))) < 4 then
                  r (IntKind.wrap .i64 (i - 1)) (out.set (Int.toNat (IntKind.wrap .i64 (Int.tdiv i 4))) (IntKind.wrap .u64 ((IntKind.wrap .u64 (y1 * 65536)) + (IntKind.wrap .u64 y2))))
                else none
              else none
            else none
          else none
        else none
      else none
    else
      r (IntKind.wrap .i64 (i - 1)) out
  else
    k0 out

def words_l0 (n : Nat) (a : (List Int)) (t2 : (List Int)) (k0 : (List Int) → Option A) : Nat → Int → (List Int) → Option A
  | 0 => fun _ _ => none
  | f + 1 => words_b0 n a t2 k0 (words_l0 n a t2 k0 f)

def words_p (n : Nat) (a0 : (List Int)) (k : (List Int) → Option A) : Option A :=
  words_l0 n a0 [0, 0, 0, 0] (fun y3 =>
    k y3) n (IntKind.wrap .i64 ((a0.length : Int) - 1)) [0, 0, 0, 0]

def words_k (n : Nat) (a0 : (List Int)) (k : (List Int) → Option A) : Option A := words_p n a0 k

noncomputable def words_c0 : Code := codeAt [1, 1, 0, 1, 0, 0] (bodyOf Tryd.f34)
def words_d0 : List Nat := [5, 6, 7, 8, 9, 10, 11, 12, 13, 14, 15, 16, 17, 18, 19, 20, 21, 22, 23, 24, 25, 26, 27]
def words_y0 : List Nat := [0, 1, 4, 5, 6, 7, 8, 9, 10, 11, 12, 13, 14, 15, 16, 17, 18, 19, 20, 21, 22, 23, 24, 25, 26, 27, 28]
def words_sh0 : Shape := ⟨[(.p (.sl (.int .i64))), .any, (.ptr 0), (.ptr 1), (.p (.int .i64)), .any, .any, .any, .any, .any, .any, .any, .any, .any, .any, .any, .any, .any, .any, .any, .any, .any, .any, .any, .any, .any, .any, .any, .any], [(.var 23 kA4u64 (.p kA4u64)), (.var 23 kA4u64 (.p kA4u64))], 0⟩
def words_t0 (a : (List Int)) (t2 : (List Int)) (i : Int) (out : (List Int)) : words_sh0.den := ((a, (), (), (), i, (), (), (), (), (), (), (), (), (), (), (), (), (), (), (), (), (), (), (), (), (), (), (), (), ()), (t2, out, ()))
def words_x0_0 (a : (List Int)) (t2 : (List Int)) (z1 : (List Int)) : St := ⟨[.any, .any, .ptr 0 [], .ptr 1 [], .any, .any, .any, .any, .any, .any, .any, .any, .any, .any, .any, .any, .any, .any, .any, .any, .any, .any, .any, .any, .any, .any, .any, .any, .any], [.var 23 kA4u64 (.p kA4u64 t2), .var 23 kA4u64 (.p kA4u64 z1)], 0⟩
def words_g0 (n : Nat) (d : words_sh0.den) (k : Ex → St → Option A) : Option A :=
  words_l0 n d.1.1 d.2.1 (fun z1 => k (.exit 0) (words_x0_0 d.1.1 d.2.1 z1)) n d.1.2.2.2.2.1 d.2.2.1
noncomputable def words_E (n : Nat) : Env A := ⟨tys, gls, [], [(0, loopE words_d0 words_sh0 (words_g0 n))], []⟩
theorem words_T {A : Type} (n : Nat) : TyOK Tryd.prog (words_E (A := A) n) := tyOK_of rfl tysB
theorem words_fns (n : Nat) : FnsOK Tryd.prog (words_E (A := A) n) := AllOK.env rfl rfl AllOK.nil
noncomputable def words_LK0 (n : Nat) (a : (List Int)) (t2 : (List Int)) (k : Ex → St → Option A) (f : Nat) (i : Int) (out : (List Int)) : Option A := loopK (codeK (words_E n) 1 words_c0) words_d0 words_y0 f (words_sh0.fill (words_t0 a t2 i out)) k
theorem words_st0 (n f : Nat) (a : (List Int)) (t2 : (List Int)) (k : Ex → St → Option A) (i : Int) (out : (List Int)) : words_LK0 n a t2 k (f + 1) i out = words_b0 n a t2 (fun z1 => k (.exit 0) (words_x0_0 a t2 z1)) (words_LK0 n a t2 k f) i out := by kernel_rfl
theorem words_le0 (n : Nat) (a : (List Int)) (t2 : (List Int)) (k : Ex → St → Option A) : ∀ (f : Nat) (i : Int) (out : (List Int)), words_LK0 n a t2 k f i out = words_l0 n a t2 (fun z1 => k (.exit 0) (words_x0_0 a t2 z1)) f i out := by
  intro f
  induction f with
  | zero => intros; kernel_rfl
  | succ f ih => intro i out; exact (words_st0 n f a t2 k i out).trans ((congrArg (fun r => words_b0 n a t2 (fun z1 => k (.exit 0) (words_x0_0 a t2 z1)) r i out) (funext fun i => funext fun out => ih i out)).trans (by kernel_rfl))
theorem words_lo0 (n : Nat) : LoopOK Tryd.prog gls words_c0 (loopE words_d0 words_sh0 (words_g0 (A := A) n)) :=
  LoopOK.of (words_T n) (words_fns n) follows (j := 1) (n := n) (xdead := words_y0) (lo_of (by kernel_rfl : loopsOf 1 words_c0 = []) lo_nil) fun d k => Eq.trans (by kernel_rfl) (words_le0 n d.1.1 d.2.1 k n d.1.2.2.2.2.1 d.2.2.1)
theorem words_eqg (n : Nat) (a0 : (List Int)) (k : AV → List Blk → Option A) : fnK (words_E n) Tryd.f34 [.pure] [.p (.sl (.int .i64)) a0] [] k = words_p n a0 (fun r0 => k (.p kA4u64 r0) []) := by kernel_rfl
theorem words_eq (n : Nat) (a0 : (List Int)) (k : AV → List Blk → Option A) : fnK (words_E n) Tryd.f34 [.pure] [.p (.sl (.int .i64)) a0] [] k = words_k n a0 (fun r0 => k (.p kA4u64 r0) []) := words_eqg n a0 k
def words_ent (g : (List Int) → ((List Int) → Option A) → Option A) : Entry A := pureE fun args k => args1 args (.sl (.int .i64)) fun a0 => g a0 (fun r0 => k (.p kA4u64 r0) [])
theorem words_lo (n : Nat) : ∀ c, Tryd.f34.body = some c → ∀ q ∈ loopsOf 0 c, ∀ L, (words_E (A := A) n).lps.lookup q.1 = some L → LoopOK Tryd.prog gls q.2 L :=
  lo_body (E := words_E n) (by kernel_rfl : Tryd.f34.body = some (bodyOf Tryd.f34)) (lo_of (E := words_E n) (by kernel_rfl : loopsOf 0 (bodyOf Tryd.f34) = [(0, words_c0)]) (lo_cons rfl (words_lo0 n) lo_nil))
theorem words_ok (n : Nat) : FnOK Tryd.prog gls 34 (words_ent (A := A) (words_k n)) :=
  FnOK.of (words_T n) (words_fns n) follows ⟨Tryd.func34, by kernel_rfl⟩ (words_lo n) (rm := [.pure]) fun args k out h => by
    obtain ⟨a0, e, h1⟩ := args1_sound h
    subst e; rw [words_eq]; exact h1

end Go.Ev
end

section
/-
  FUNCTION 25: printed by a program of our own (wip/gen/st.py). 'masthead/mastheadref04.Less', in continuation form; the evaluator gives it.
-/
set_option linter.all false
set_option maxRecDepth 100000
namespace Go.Ev
open Go.Proofs
variable {A : Type}

-- ============================================================ less (function 25)
def less_b0 (n : Nat) (a : (List Int)) (b : (List Int)) (k0 : Bool → Option A) (k1 : Option A) (r : Int → Option A) (i : Int) : Option A :=
  bif (decide (i ≥ 0)) then
    if 0 ≤ i then
      (a[(Int.toNat i)]?).bind fun y1 =>
      if 0 ≤ i then
        (b[(Int.toNat i)]?).bind fun y2 =>
        bif (y1 != y2) then
          if 0 ≤ i then
            (a[(Int.toNat i)]?).bind fun y3 =>
            if 0 ≤ i then
              (b[(Int.toNat i)]?).bind fun y4 =>
              k0 (decide (y3 < y4))
            else none
          else none
        else
          r (IntKind.wrap .i64 (i - 1))
      else none
    else none
  else
    k1

def less_l0 (n : Nat) (a : (List Int)) (b : (List Int)) (k0 : Bool → Option A) (k1 : Option A) : Nat → Int → Option A
  | 0 => fun _ => none
  | f + 1 => less_b0 n a b k0 k1 (less_l0 n a b k0 k1 f)

def less_p (n : Nat) (a0 : (List Int)) (a1 : (List Int)) (k : Bool → Option A) : Option A :=
  bif ((a0.length : Int) != (a1.length : Int)) then
    k (decide ((a0.length : Int) < (a1.length : Int)))
  else
    less_l0 n a0 a1 (fun y5 =>
      k y5) (
      k false) n (IntKind.wrap .i64 ((a0.length : Int) - 1))

def less_k (n : Nat) (a0 : (List Int)) (a1 : (List Int)) (k : Bool → Option A) : Option A := less_p n a0 a1 k

noncomputable def less_c0 : Code := codeAt [1, 1, 0, 1, 0, 0] (bodyOf Tryd.f25)
def less_d0 : List Nat := [4, 6, 7, 8, 9, 10, 16, 17, 18, 19, 20, 21, 22, 23, 24, 25, 26, 27, 28, 29, 30, 31, 32, 33, 34, 35, 36, 37, 38, 39, 40]
def less_y0 : List Nat := [0, 1, 2, 3, 5, 6, 7, 8, 9, 10, 11, 12, 13, 14, 15, 16, 17, 18, 19, 20, 21, 22, 23, 24, 25, 26, 27, 28, 29, 30, 31, 32, 33, 34, 35, 36, 37, 38, 39, 40]
def less_sh0 : Shape := ⟨[(.p (.sl (.int .i64))), (.p (.sl (.int .i64))), .any, .any, .any, (.p (.int .i64)), .any, .any, .any, .any, .any, .any, .any, .any, .any, .any, .any, .any, .any, .any, .any, .any, .any, .any, .any, .any, .any, .any, .any, .any, .any, .any, .any, .any, .any, .any, .any, .any, .any, .any, .any], [], 0⟩
def less_t0 (a : (List Int)) (b : (List Int)) (i : Int) : less_sh0.den := ((a, b, (), (), (), i, (), (), (), (), (), (), (), (), (), (), (), (), (), (), (), (), (), (), (), (), (), (), (), (), (), (), (), (), (), (), (), (), (), (), (), ()), ())
def less_x0_0 (a : (List Int)) (b : (List Int)) (z0 : Bool) : St := ⟨[.any, .any, .any, .any, .p .bool z0, .any, .any, .any, .any, .any, .any, .any, .any, .any, .any, .any, .any, .any, .any, .any, .any, .any, .any, .any, .any, .any, .any, .any, .any, .any, .any, .any, .any, .any, .any, .any, .any, .any, .any, .any, .any], [], 0⟩
def less_x0_1 (a : (List Int)) (b : (List Int)) : St := ⟨[.any, .any, .any, .any, .any, .any, .any, .any, .any, .any, .any, .any, .any, .any, .any, .any, .any, .any, .any, .any, .any, .any, .any, .any, .any, .any, .any, .any, .any, .any, .any, .any, .any, .any, .any, .any, .any, .any, .any, .any, .any], [], 0⟩
def less_g0 (n : Nat) (d : less_sh0.den) (k : Ex → St → Option A) : Option A :=
  less_l0 n d.1.1 d.1.2.1 (fun z0 => k .ret (less_x0_0 d.1.1 d.1.2.1 z0)) (k (.exit 0) (less_x0_1 d.1.1 d.1.2.1)) n d.1.2.2.2.2.2.1
noncomputable def less_E (n : Nat) : Env A := ⟨tys, gls, [], [(0, loopE less_d0 less_sh0 (less_g0 n))], []⟩
theorem less_T {A : Type} (n : Nat) : TyOK Tryd.prog (less_E (A := A) n) := tyOK_of rfl tysB
theorem less_fns (n : Nat) : FnsOK Tryd.prog (less_E (A := A) n) := AllOK.env rfl rfl AllOK.nil
noncomputable def less_LK0 (n : Nat) (a : (List Int)) (b : (List Int)) (k : Ex → St → Option A) (f : Nat) (i : Int) : Option A := loopK (codeK (less_E n) 1 less_c0) less_d0 less_y0 f (less_sh0.fill (less_t0 a b i)) k
theorem less_st0 (n f : Nat) (a : (List Int)) (b : (List Int)) (k : Ex → St → Option A) (i : Int) : less_LK0 n a b k (f + 1) i = less_b0 n a b (fun z0 => k .ret (less_x0_0 a b z0)) (k (.exit 0) (less_x0_1 a b)) (less_LK0 n a b k f) i := by kernel_rfl
theorem less_le0 (n : Nat) (a : (List Int)) (b : (List Int)) (k : Ex → St → Option A) : ∀ (f : Nat) (i : Int), less_LK0 n a b k f i = less_l0 n a b (fun z0 => k .ret (less_x0_0 a b z0)) (k (.exit 0) (less_x0_1 a b)) f i := by
  intro f
  induction f with
  | zero => intros; kernel_rfl
  | succ f ih => intro i; exact (less_st0 n f a b k i).trans ((congrArg (fun r => less_b0 n a b (fun z0 => k .ret (less_x0_0 a b z0)) (k (.exit 0) (less_x0_1 a b)) r i) (funext fun i => ih i)).trans (by kernel_rfl))
theorem less_lo0 (n : Nat) : LoopOK Tryd.prog gls less_c0 (loopE less_d0 less_sh0 (less_g0 (A := A) n)) :=
  LoopOK.of (less_T n) (less_fns n) follows (j := 1) (n := n) (xdead := less_y0) (lo_of (by kernel_rfl : loopsOf 1 less_c0 = []) lo_nil) fun d k => Eq.trans (by kernel_rfl) (less_le0 n d.1.1 d.1.2.1 k n d.1.2.2.2.2.2.1)
theorem less_eqg (n : Nat) (a0 : (List Int)) (a1 : (List Int)) (k : AV → List Blk → Option A) : fnK (less_E n) Tryd.f25 [.pure] [.p (.sl (.int .i64)) a0, .p (.sl (.int .i64)) a1] [] k = less_p n a0 a1 (fun r0 => k (.p .bool r0) []) := by kernel_rfl
theorem less_eq (n : Nat) (a0 : (List Int)) (a1 : (List Int)) (k : AV → List Blk → Option A) : fnK (less_E n) Tryd.f25 [.pure] [.p (.sl (.int .i64)) a0, .p (.sl (.int .i64)) a1] [] k = less_k n a0 a1 (fun r0 => k (.p .bool r0) []) := less_eqg n a0 a1 k
def less_ent (g : (List Int) → (List Int) → (Bool → Option A) → Option A) : Entry A := pureE fun args k => args2 args (.sl (.int .i64)) (.sl (.int .i64)) fun a0 a1 => g a0 a1 (fun r0 => k (.p .bool r0) [])
theorem less_lo (n : Nat) : ∀ c, Tryd.f25.body = some c → ∀ q ∈ loopsOf 0 c, ∀ L, (less_E (A := A) n).lps.lookup q.1 = some L → LoopOK Tryd.prog gls q.2 L :=
  lo_body (E := less_E n) (by kernel_rfl : Tryd.f25.body = some (bodyOf Tryd.f25)) (lo_of (E := less_E n) (by kernel_rfl : loopsOf 0 (bodyOf Tryd.f25) = [(0, less_c0)]) (lo_cons rfl (less_lo0 n) lo_nil))
theorem less_ok (n : Nat) : FnOK Tryd.prog gls 25 (less_ent (A := A) (less_k n)) :=
  FnOK.of (less_T n) (less_fns n) follows ⟨Tryd.func25, by kernel_rfl⟩ (less_lo n) (rm := [.pure]) fun args k out h => by
    obtain ⟨a0, a1, e, h1⟩ := args2_sound h
    subst e; rw [less_eq]; exact h1

end Go.Ev
end

section
/-
  FUNCTION 19: printed by a program of our own (wip/gen/st.py). 'masthead/mastheadref04.Pow', in continuation form; the evaluator gives it.
-/
set_option linter.all false
set_option maxRecDepth 100000
namespace Go.Ev
open Go.Proofs
variable {A : Type}

-- ============================================================ pow_ (function 19)
def pow__b0 (n : Nat) (k_ : Int) (k0 : (List Int) → Option A) (r : Int → (List Int) → Option A) (i : Int) (out : (List Int)) : Option A :=
  bif (decide (i < (Int.tmod k_ 16))) then
    if 0 ≤ (IntKind.wrap .i64 (Int.tdiv k_ 16)) then
      if (IntKind.wrap .i64 (Int.tdiv k_ 16)) < (out.length : Int) then
        (out[(Int.toNat (IntKind.wrap .i64 (Int.tdiv k_ 16)))]?).bind fun y1 =>
        if 0 ≤ (IntKind.wrap .i64 (Int.tdiv k_ 16)) then
          if (IntKind.wrap .i64 (Int.tdiv k_ 16)) < (out.length : Int) then
            if (Int.toNat (IntKind.wrap .i64 (Int.tdiv k_ 16))) < out.length then
              r (IntKind.wrap .i64 (i + 1)) (out.set (Int.toNat (IntKind.wrap .i64 (Int.tdiv k_ 16))) (IntKind.wrap .i64 (y1 * 2)))
            else none
          else none
        else none
      else none
    else none
  else
    k0 out

def pow__l0 (n : Nat) (k_ : Int) (k0 : (List Int) → Option A) : Nat → Int → (List Int) → Option A
  | 0 => fun _ _ => none
  | f + 1 => pow__b0 n k_ k0 (pow__l0 n k_ k0 f)

def pow__p (n : Nat) (a0 : Int) (k : (List Int) → Option A) : Option A :=
  if 0 ≤ (IntKind.wrap .i64 ((IntKind.wrap .i64 (Int.tdiv a0 16)) + 1)) then
    if (IntKind.wrap .i64 ((IntKind.wrap .i64 (Int.tdiv a0 16)) + 1)) ≤ (IntKind.wrap .i64 ((IntKind.wrap .i64 (Int.tdiv a0 16)) + 1)) then
      if (IntKind.wrap .i64 ((IntKind.wrap .i64 (Int.tdiv a0 16)) + 1)) * 8 ≤ 140737488355328 then
        if 0 ≤ (IntKind.wrap .i64 (Int.tdiv a0 16)) then
          if (IntKind.wrap .i64 (Int.tdiv a0 16)) < ((List.replicate (Int.toNat (IntKind.wrap .i64 ((IntKind.wrap .i64 (Int.tdiv a0 16)) + 1))) (0 : Int)).length : Int) then
            if (Int.toNat (IntKind.wrap .i64 (Int.tdiv a0 16))) < (List.replicate (Int.toNat (IntKind.wrap .i64 ((IntKind.wrap .i64 (Int.tdiv a0 16)) + 1))) (0 : Int)).length then
              pow__l0 n a0 (fun y2 =>
                k y2) n 0 ((List.replicate (Int.toNat (IntKind.wrap .i64 ((IntKind.wrap .i64 (Int.tdiv a0 16)) + 1))) (0 : Int)).set (Int.toNat (IntKind.wrap .i64 (Int.tdiv a0 16))) 1)
            else none
          else none
        else none
      else none
    else none
  else none

def pow__k (n : Nat) (a0 : Int) (k : (List Int) → Option A) : Option A := pow__p n a0 k

noncomputable def pow__c0 : Code := codeAt [1, 1, 1, 0, 1, 0, 0] (bodyOf Tryd.f19)
def pow__d0 : List Nat := [2, 5, 6, 7, 8, 9, 10, 11, 12, 13, 14, 15, 16, 17, 18, 19, 20, 21, 22, 23, 24, 25]
def pow__y0 : List Nat := [0, 1, 2, 4, 5, 6, 7, 8, 9, 10, 11, 12, 13, 14, 15, 16, 17, 18, 19, 20, 21, 22, 23, 24, 25, 26]
def pow__sh0 : Shape := ⟨[(.p (.int .i64)), .any, .any, (.row 0), (.p (.int .i64)), .any, .any, .any, .any, .any, .any, .any, .any, .any, .any, .any, .any, .any, .any, .any, .any, .any, .any, .any, .any, .any, .any], [(.row 3 (.int .i64))], 0⟩
def pow__t0 (k_ : Int) (i : Int) (out : (List Int)) : pow__sh0.den := ((k_, (), (), (), i, (), (), (), (), (), (), (), (), (), (), (), (), (), (), (), (), (), (), (), (), (), (), ()), (out, ()))
def pow__x0_0 (k_ : Int) (z0 : (List Int)) : St := ⟨[.any, .any, .any, .row 0, .any, .any, .any, .any, .any, .any, .any, .any, .any, .any, .any, .any, .any, .any, .any, .any, .any, .any, .any, .any, .any, .any, .any], [.row 3 (.int .i64) z0], 0⟩
def pow__g0 (n : Nat) (d : pow__sh0.den) (k : Ex → St → Option A) : Option A :=
  pow__l0 n d.1.1 (fun z0 => k (.exit 0) (pow__x0_0 d.1.1 z0)) n d.1.2.2.2.2.1 d.2.1
noncomputable def pow__E (n : Nat) : Env A := ⟨tys, gls, [], [(0, loopE pow__d0 pow__sh0 (pow__g0 n))], []⟩
theorem pow__T {A : Type} (n : Nat) : TyOK Tryd.prog (pow__E (A := A) n) := tyOK_of rfl tysB
theorem pow__fns (n : Nat) : FnsOK Tryd.prog (pow__E (A := A) n) := AllOK.env rfl rfl AllOK.nil
noncomputable def pow__LK0 (n : Nat) (k_ : Int) (k : Ex → St → Option A) (f : Nat) (i : Int) (out : (List Int)) : Option A := loopK (codeK (pow__E n) 1 pow__c0) pow__d0 pow__y0 f (pow__sh0.fill (pow__t0 k_ i out)) k
theorem pow__st0 (n f : Nat) (k_ : Int) (k : Ex → St → Option A) (i : Int) (out : (List Int)) : pow__LK0 n k_ k (f + 1) i out = pow__b0 n k_ (fun z0 => k (.exit 0) (pow__x0_0 k_ z0)) (pow__LK0 n k_ k f) i out := by kernel_rfl
theorem pow__le0 (n : Nat) (k_ : Int) (k : Ex → St → Option A) : ∀ (f : Nat) (i : Int) (out : (List Int)), pow__LK0 n k_ k f i out = pow__l0 n k_ (fun z0 => k (.exit 0) (pow__x0_0 k_ z0)) f i out := by
  intro f
  induction f with
  | zero => intros; kernel_rfl
  | succ f ih => intro i out; exact (pow__st0 n f k_ k i out).trans ((congrArg (fun r => pow__b0 n k_ (fun z0 => k (.exit 0) (pow__x0_0 k_ z0)) r i out) (funext fun i => funext fun out => ih i out)).trans (by kernel_rfl))
theorem pow__lo0 (n : Nat) : LoopOK Tryd.prog gls pow__c0 (loopE pow__d0 pow__sh0 (pow__g0 (A := A) n)) :=
  LoopOK.of (pow__T n) (pow__fns n) follows (j := 1) (n := n) (xdead := pow__y0) (lo_of (by kernel_rfl : loopsOf 1 pow__c0 = []) lo_nil) fun d k => Eq.trans (by kernel_rfl) (pow__le0 n d.1.1 k n d.1.2.2.2.2.1 d.2.1)
theorem pow__eqg (n : Nat) (a0 : Int) (k : AV → List Blk → Option A) : fnK (pow__E n) Tryd.f19 [.pure] [.p (.int .i64) a0] [] k = pow__p n a0 (fun r0 => k (.p (.sl (.int .i64)) r0) []) := by kernel_rfl
theorem pow__eq (n : Nat) (a0 : Int) (k : AV → List Blk → Option A) : fnK (pow__E n) Tryd.f19 [.pure] [.p (.int .i64) a0] [] k = pow__k n a0 (fun r0 => k (.p (.sl (.int .i64)) r0) []) := pow__eqg n a0 k
def pow__ent (g : Int → ((List Int) → Option A) → Option A) : Entry A := pureE fun args k => args1 args (.int .i64) fun a0 => g a0 (fun r0 => k (.p (.sl (.int .i64)) r0) [])
theorem pow__lo (n : Nat) : ∀ c, Tryd.f19.body = some c → ∀ q ∈ loopsOf 0 c, ∀ L, (pow__E (A := A) n).lps.lookup q.1 = some L → LoopOK Tryd.prog gls q.2 L :=
  lo_body (E := pow__E n) (by kernel_rfl : Tryd.f19.body = some (bodyOf Tryd.f19)) (lo_of (E := pow__E n) (by kernel_rfl : loopsOf 0 (bodyOf Tryd.f19) = [(0, pow__c0)]) (lo_cons rfl (pow__lo0 n) lo_nil))
theorem pow__ok (n : Nat) : FnOK Tryd.prog gls 19 (pow__ent (A := A) (pow__k n)) :=
  FnOK.of (pow__T n) (pow__fns n) follows ⟨Tryd.func19, by kernel_rfl⟩ (pow__lo n) (rm := [.pure]) fun args k out h => by
    obtain ⟨a0, e, h1⟩ := args1_sound h
    subst e; rw [pow__eq]; exact h1

end Go.Ev
end

section
/-
  FUNCTION 23: printed by a program of our own (wip/gen/st.py). 'masthead/mastheadref04.Mul', in continuation form; the evaluator gives it.
-/
set_option linter.all false
set_option maxRecDepth 100000
namespace Go.Ev
open Go.Proofs
variable {A : Type}

-- ============================================================ mul (function 23)
def mul_b1 (g_trim : (List Int) → ((List Int) → Option A) → Option A) (n : Nat) (a : (List Int)) (b : (List Int)) (i : Int) (k0 : (List Int) → Option A) (r : Int → Int → (List Int) → Option A) (c : Int) (j : Int) (out : (List Int)) : Option A :=
  bif (decide (j < (b.length : Int))) then
    if 0 ≤ (IntKind.wrap .i64 (i + j)) then
      if (IntKind.wrap .i64 (i + j)) < (out.length : Int) then
        (out[(Int.toNat (IntKind.wrap .i64 (i + j)))]?).bind fun y1 =>
        bif (decide (j < (b.length : Int))) then
          if 0 ≤ i then
            (a[(Int.toNat i)]?).bind fun y2 =>
            if 0 ≤ j then
              (b[(Int.toNat j)]?).bind fun y3 =>
              if 0 ≤ (IntKind.wrap .i64 (i + j)) then
                if (IntKind.wrap .i64 (i + j)) < (out.length : Int) then
                  if (Int.toNat (IntKind.wrap .i64 (i + j))) < out.length then
                    r (IntKind.wrap .i64 (Int.tdiv (IntKind.wrap .i64 ((IntKind.wrap .i64 (y1 + c)) + (IntKind.wrap .i64 (y2 * y3)))) 65536)) (IntKind.wrap .i64 (j + 1)) (out.set (Int.toNat (IntKind.wrap .i64 (i + j))) (Int.tmod (IntKind.wrap .i64 ((IntKind.wrap .i64 (y1 + c)) + (IntKind.wrap .i64 (y2 * y3)))) 65536))
                  else none
                else none
              else none
            else none
          else none
        else
          if 0 ≤ (IntKind.wrap .i64 (i + j)) then
            if (IntKind.wrap .i64 (i + j)) < (out.length : Int) then
              if (Int.toNat (IntKind.wrap .i64 (i + j))) < out.length then
                r (IntKind.wrap .i64 (Int.tdiv (IntKind.wrap .i64 (y1 + c)) 65536)) (IntKind.wrap .i64 (j + 1)) (out.set (Int.toNat (IntKind.wrap .i64 (i + j))) (Int.tmod (IntKind.wrap .i64 (y1 + c)) 65536))
              else none
            else none
          else none
      else none
    else none
  else
    bif (decide (c > 0)) then
      if 0 ≤ (IntKind.wrap .i64 (i + j)) then
        if (IntKind.wrap .i64 (i + j)) < (out.length : Int) then
          (out[(Int.toNat (IntKind.wrap .i64 (i + j)))]?).bind fun y4 =>
          bif (decide (j < (b.length : Int))) then
            if 0 ≤ i then
              (a[(Int.toNat i)]?).bind fun y5 =>
              if 0 ≤ j then
                (b[(Int.toNat j)]?).bind fun y6 =>
                if 0 ≤ (IntKind.wrap .i64 (i + j)) then
                  if (IntKind.wrap .i64 (i + j)) < (out.length : Int) then
                    if (Int.toNat (IntKind.wrap .i64 (i + j))) < out.length then
                      r (IntKind.wrap .i64 (Int.tdiv (IntKind.wrap .i64 ((IntKind.wrap .i64 (y4 + c)) + (IntKind.wrap .i64 (y5 * y6)))) 65536)) (IntKind.wrap .i64 (j + 1)) (out.set (Int.toNat (IntKind.wrap .i64 (i + j))) (Int.tmod (IntKind.wrap .i64 ((IntKind.wrap .i64 (y4 + c)) + (IntKind.wrap .i64 (y5 * y6)))) 65536))
                    else none
                  else none
                else none
              else none
            else none
          else
            if 0 ≤ (IntKind.wrap .i64 (i + j)) then
              if (IntKind.wrap .i64 (i + j)) < (out.length : Int) then
                if (Int.toNat (IntKind.wrap .i64 (i + j))) < out.length then
                  r (IntKind.wrap .i64 (Int.tdiv (IntKind.wrap .i64 (y4 + c)) 65536)) (IntKind.wrap .i64 (j + 1)) (out.set (Int.toNat (IntKind.wrap .i64 (i + j))) (Int.tmod (IntKind.wrap .i64 (y4 + c)) 65536))
                else none
              else none
            else none
        else none
      else none
    else
      k0 out

def mul_l1 (g_trim : (List Int) → ((List Int) → Option A) → Option A) (n : Nat) (a : (List Int)) (b : (List Int)) (i : Int) (k0 : (List Int) → Option A) : Nat → Int → Int → (List Int) → Option A
  | 0 => fun _ _ _ => none
  | f + 1 => mul_b1 g_trim n a b i k0 (mul_l1 g_trim n a b i k0 f)

def mul_b0 (g_trim : (List Int) → ((List Int) → Option A) → Option A) (n : Nat) (a : (List Int)) (b : (List Int)) (k0 : (List Int) → Option A) (r : Int → (List Int) → Option A) (i : Int) (out : (List Int)) : Option A :=
  bif (decide (i < (a.length : Int))) then
    mul_l1 g_trim n a b i (fun y1 =>
      r (IntKind.wrap .i64 (i + 1)) y1) n 0 0 out
  else
    k0 out

def mul_l0 (g_trim : (List Int) → ((List Int) → Option A) → Option A) (n : Nat) (a : (List Int)) (b : (List Int)) (k0 : (List Int) → Option A) : Nat → Int → (List Int) → Option A
  | 0 => fun _ _ => none
  | f + 1 => mul_b0 g_trim n a b k0 (mul_l0 g_trim n a b k0 f)

def mul_p (g_trim : (List Int) → ((List Int) → Option A) → Option A) (n : Nat) (a0 : (List Int)) (a1 : (List Int)) (k : (List Int) → Option A) : Option A :=
  if 0 ≤ (IntKind.wrap .i64 ((IntKind.wrap .i64 ((a0.length : Int) + (a1.length : Int))) + 1)) then
    if (IntKind.wrap .i64 ((IntKind.wrap .i64 ((a0.length : Int) + (a1.length : Int))) + 1)) ≤ (IntKind.wrap .i64 ((IntKind.wrap .i64 ((a0.length : Int) + (a1.length : Int))) + 1)) then
      if (IntKind.wrap .i64 ((IntKind.wrap .i64 ((a0.length : Int) + (a1.length : Int))) + 1)) * 8 ≤ 140737488355328 then
        mul_l0 g_trim n a0 a1 (fun y2 =>
          g_trim y2 fun r3 =>
          k r3) n 0 (List.replicate (Int.toNat (IntKind.wrap .i64 ((IntKind.wrap .i64 ((a0.length : Int) + (a1.length : Int))) + 1))) (0 : Int))
      else none
    else none
  else none

def mul_k (n : Nat) (a0 : (List Int)) (a1 : (List Int)) (k : (List Int) → Option A) : Option A := mul_p (trim_k n) n a0 a1 k

noncomputable def mul_c0 : Code := codeAt [1, 1, 0, 1, 0, 0] (bodyOf Tryd.f23)
def mul_d0 : List Nat := [4, 7, 8, 9, 10, 11, 12, 13, 14, 15, 16, 17, 18, 19, 20, 21, 22, 23, 24, 25, 26, 27, 28, 29, 30, 31, 32, 33, 34, 35, 36, 37, 38, 39, 40, 41, 42, 43, 44, 45, 46, 47, 48, 49, 50, 51, 52, 53, 54, 55, 56, 57, 58, 59, 60, 61, 62, 63, 64]
def mul_y0 : List Nat := [0, 1, 2, 3, 4, 6, 7, 8, 9, 10, 11, 12, 13, 14, 15, 16, 17, 18, 19, 20, 21, 22, 23, 24, 25, 26, 27, 28, 29, 30, 31, 32, 33, 34, 35, 36, 37, 38, 39, 40, 41, 42, 43, 44, 45, 46, 47, 48, 49, 50, 51, 52, 53, 54, 55, 56, 57, 58, 59, 60, 61, 62, 63, 64, 65, 66]
def mul_sh0 : Shape := ⟨[(.p (.sl (.int .i64))), (.p (.sl (.int .i64))), .any, .any, .any, (.row 0), (.p (.int .i64)), .any, .any, .any, .any, .any, .any, .any, .any, .any, .any, .any, .any, .any, .any, .any, .any, .any, .any, .any, .any, .any, .any, .any, .any, .any, .any, .any, .any, .any, .any, .any, .any, .any, .any, .any, .any, .any, .any, .any, .any, .any, .any, .any, .any, .any, .any, .any, .any, .any, .any, .any, .any, .any, .any, .any, .any, .any, .any, .any, .any], [(.row 3 (.int .i64))], 0⟩
def mul_t0 (a : (List Int)) (b : (List Int)) (i : Int) (out : (List Int)) : mul_sh0.den := ((a, b, (), (), (), (), i, (), (), (), (), (), (), (), (), (), (), (), (), (), (), (), (), (), (), (), (), (), (), (), (), (), (), (), (), (), (), (), (), (), (), (), (), (), (), (), (), (), (), (), (), (), (), (), (), (), (), (), (), (), (), (), (), (), (), (), (), ()), (out, ()))
def mul_x0_0 (a : (List Int)) (b : (List Int)) (z0 : (List Int)) : St := ⟨[.any, .any, .any, .any, .any, .row 0, .any, .any, .any, .any, .any, .any, .any, .any, .any, .any, .any, .any, .any, .any, .any, .any, .any, .any, .any, .any, .any, .any, .any, .any, .any, .any, .any, .any, .any, .any, .any, .any, .any, .any, .any, .any, .any, .any, .any, .any, .any, .any, .any, .any, .any, .any, .any, .any, .any, .any, .any, .any, .any, .any, .any, .any, .any, .any, .any, .any, .any], [.row 3 (.int .i64) z0], 0⟩
def mul_g0 (g_trim : (List Int) → ((List Int) → Option A) → Option A) (n : Nat) (d : mul_sh0.den) (k : Ex → St → Option A) : Option A :=
  mul_l0 g_trim n d.1.1 d.1.2.1 (fun z0 => k (.exit 0) (mul_x0_0 d.1.1 d.1.2.1 z0)) n d.1.2.2.2.2.2.2.1 d.2.1
noncomputable def mul_c1 : Code := codeAt [1, 1, 0, 1, 0, 0, 1, 0, 0, 1, 1, 0, 0] (bodyOf Tryd.f23)
def mul_d1 : List Nat := [9, 17, 18, 19, 20, 23, 24, 25, 26, 27, 28, 29, 30, 31, 32, 33, 34, 35, 36, 37, 38, 39, 40, 41, 42, 43, 44, 45, 46, 47, 48, 49, 50, 51, 52, 53, 54, 55, 56, 57, 58, 59, 60, 61, 62, 63, 64]
def mul_y1 : List Nat := [2, 3, 4, 7, 8, 9, 10, 11, 12, 13, 14, 15, 16, 17, 18, 19, 20, 21, 22, 23, 24, 25, 26, 27, 28, 29, 30, 31, 32, 33, 34, 35, 36, 37, 38, 39, 40, 41, 42, 43, 44, 45, 46, 47, 48, 49, 50, 51, 52, 53, 54, 55, 56, 57, 58, 59, 60, 61, 62, 63, 64, 65, 66]
def mul_sh1 : Shape := ⟨[(.p (.sl (.int .i64))), (.p (.sl (.int .i64))), .any, .any, .any, (.row 0), (.p (.int .i64)), (.p (.int .i64)), (.p (.int .i64)), .any, .any, .any, .any, .any, .any, .any, .any, .any, .any, .any, .any, .any, .any, .any, .any, .any, .any, .any, .any, .any, .any, .any, .any, .any, .any, .any, .any, .any, .any, .any, .any, .any, .any, .any, .any, .any, .any, .any, .any, .any, .any, .any, .any, .any, .any, .any, .any, .any, .any, .any, .any, .any, .any, .any, .any, .any, .any], [(.row 3 (.int .i64))], 0⟩
def mul_t1 (a : (List Int)) (b : (List Int)) (i : Int) (c : Int) (j : Int) (out : (List Int)) : mul_sh1.den := ((a, b, (), (), (), (), i, c, j, (), (), (), (), (), (), (), (), (), (), (), (), (), (), (), (), (), (), (), (), (), (), (), (), (), (), (), (), (), (), (), (), (), (), (), (), (), (), (), (), (), (), (), (), (), (), (), (), (), (), (), (), (), (), (), (), (), (), ()), (out, ()))
def mul_x1_0 (a : (List Int)) (b : (List Int)) (i : Int) (z3 : (List Int)) : St := ⟨[.p (.sl (.int .i64)) a, .p (.sl (.int .i64)) b, .any, .any, .any, .row 0, .p (.int .i64) i, .any, .any, .any, .any, .any, .any, .any, .any, .any, .any, .any, .any, .any, .any, .any, .any, .any, .any, .any, .any, .any, .any, .any, .any, .any, .any, .any, .any, .any, .any, .any, .any, .any, .any, .any, .any, .any, .any, .any, .any, .any, .any, .any, .any, .any, .any, .any, .any, .any, .any, .any, .any, .any, .any, .any, .any, .any, .any, .any, .any], [.row 3 (.int .i64) z3], 0⟩
def mul_g1 (g_trim : (List Int) → ((List Int) → Option A) → Option A) (n : Nat) (d : mul_sh1.den) (k : Ex → St → Option A) : Option A :=
  mul_l1 g_trim n d.1.1 d.1.2.1 d.1.2.2.2.2.2.2.1 (fun z3 => k (.exit 2) (mul_x1_0 d.1.1 d.1.2.1 d.1.2.2.2.2.2.2.1 z3)) n d.1.2.2.2.2.2.2.2.1 d.1.2.2.2.2.2.2.2.2.1 d.2.1
noncomputable def mul_E (g_trim : (List Int) → ((List Int) → Option A) → Option A) (n : Nat) : Env A := ⟨tys, gls, [(41, trim_ent g_trim)], [(0, loopE mul_d0 mul_sh0 (mul_g0 g_trim n)), (1, loopE mul_d1 mul_sh1 (mul_g1 g_trim n))], []⟩
theorem mul_T (g_trim : (List Int) → ((List Int) → Option A) → Option A) (n : Nat) : TyOK Tryd.prog (mul_E g_trim n) := tyOK_of rfl tysB
theorem mul_fns (n : Nat) : FnsOK Tryd.prog (mul_E (A := A) (trim_k n) n) := AllOK.env rfl rfl (AllOK.cons (trim_ok n) AllOK.nil)
noncomputable def mul_LK1 (g_trim : (List Int) → ((List Int) → Option A) → Option A) (n : Nat) (a : (List Int)) (b : (List Int)) (i : Int) (k : Ex → St → Option A) (f : Nat) (c : Int) (j : Int) (out : (List Int)) : Option A := loopK (codeK (mul_E g_trim n) 2 mul_c1) mul_d1 mul_y1 f (mul_sh1.fill (mul_t1 a b i c j out)) k
theorem mul_st1 (g_trim : (List Int) → ((List Int) → Option A) → Option A) (n f : Nat) (a : (List Int)) (b : (List Int)) (i : Int) (k : Ex → St → Option A) (c : Int) (j : Int) (out : (List Int)) : mul_LK1 g_trim n a b i k (f + 1) c j out = mul_b1 g_trim n a b i (fun z3 => k (.exit 2) (mul_x1_0 a b i z3)) (mul_LK1 g_trim n a b i k f) c j out := by kernel_rfl
theorem mul_le1 (g_trim : (List Int) → ((List Int) → Option A) → Option A) (n : Nat) (a : (List Int)) (b : (List Int)) (i : Int) (k : Ex → St → Option A) : ∀ (f : Nat) (c : Int) (j : Int) (out : (List Int)), mul_LK1 g_trim n a b i k f c j out = mul_l1 g_trim n a b i (fun z3 => k (.exit 2) (mul_x1_0 a b i z3)) f c j out := by
  intro f
  induction f with
  | zero => intros; kernel_rfl
  | succ f ih => intro c j out; exact (mul_st1 g_trim n f a b i k c j out).trans ((congrArg (fun r => mul_b1 g_trim n a b i (fun z3 => k (.exit 2) (mul_x1_0 a b i z3)) r c j out) (funext fun c => funext fun j => funext fun out => ih c j out)).trans (by kernel_rfl))
theorem mul_lo1 (n : Nat) : LoopOK Tryd.prog gls mul_c1 (loopE mul_d1 mul_sh1 (mul_g1 (A := A) (trim_k n) n)) :=
  LoopOK.of (mul_T (trim_k n) n) (mul_fns n) follows (j := 2) (n := n) (xdead := mul_y1) (lo_of (by kernel_rfl : loopsOf 2 mul_c1 = []) lo_nil) fun d k => Eq.trans (by kernel_rfl) (mul_le1 (trim_k n) n d.1.1 d.1.2.1 d.1.2.2.2.2.2.2.1 k n d.1.2.2.2.2.2.2.2.1 d.1.2.2.2.2.2.2.2.2.1 d.2.1)
noncomputable def mul_LK0 (g_trim : (List Int) → ((List Int) → Option A) → Option A) (n : Nat) (a : (List Int)) (b : (List Int)) (k : Ex → St → Option A) (f : Nat) (i : Int) (out : (List Int)) : Option A := loopK (codeK (mul_E g_trim n) 1 mul_c0) mul_d0 mul_y0 f (mul_sh0.fill (mul_t0 a b i out)) k
theorem mul_st0 (g_trim : (List Int) → ((List Int) → Option A) → Option A) (n f : Nat) (a : (List Int)) (b : (List Int)) (k : Ex → St → Option A) (i : Int) (out : (List Int)) : mul_LK0 g_trim n a b k (f + 1) i out = mul_b0 g_trim n a b (fun z0 => k (.exit 0) (mul_x0_0 a b z0)) (mul_LK0 g_trim n a b k f) i out := by kernel_rfl
theorem mul_le0 (g_trim : (List Int) → ((List Int) → Option A) → Option A) (n : Nat) (a : (List Int)) (b : (List Int)) (k : Ex → St → Option A) : ∀ (f : Nat) (i : Int) (out : (List Int)), mul_LK0 g_trim n a b k f i out = mul_l0 g_trim n a b (fun z0 => k (.exit 0) (mul_x0_0 a b z0)) f i out := by
  intro f
  induction f with
  | zero => intros; kernel_rfl
  | succ f ih => intro i out; exact (mul_st0 g_trim n f a b k i out).trans ((congrArg (fun r => mul_b0 g_trim n a b (fun z0 => k (.exit 0) (mul_x0_0 a b z0)) r i out) (funext fun i => funext fun out => ih i out)).trans (by kernel_rfl))
theorem mul_lo0 (n : Nat) : LoopOK Tryd.prog gls mul_c0 (loopE mul_d0 mul_sh0 (mul_g0 (A := A) (trim_k n) n)) :=
  LoopOK.of (mul_T (trim_k n) n) (mul_fns n) follows (j := 1) (n := n) (xdead := mul_y0) (lo_of (by kernel_rfl : loopsOf 1 mul_c0 = [(1, mul_c1)]) (lo_cons rfl (mul_lo1 n) lo_nil)) fun d k => Eq.trans (by kernel_rfl) (mul_le0 (trim_k n) n d.1.1 d.1.2.1 k n d.1.2.2.2.2.2.2.1 d.2.1)
theorem mul_eqg (g_trim : (List Int) → ((List Int) → Option A) → Option A) (n : Nat) (a0 : (List Int)) (a1 : (List Int)) (k : AV → List Blk → Option A) : fnK (mul_E g_trim n) Tryd.f23 [.pure] [.p (.sl (.int .i64)) a0, .p (.sl (.int .i64)) a1] [] k = mul_p g_trim n a0 a1 (fun r0 => k (.p (.sl (.int .i64)) r0) []) := by kernel_rfl
theorem mul_eq (n : Nat) (a0 : (List Int)) (a1 : (List Int)) (k : AV → List Blk → Option A) : fnK (mul_E (trim_k n) n) Tryd.f23 [.pure] [.p (.sl (.int .i64)) a0, .p (.sl (.int .i64)) a1] [] k = mul_k n a0 a1 (fun r0 => k (.p (.sl (.int .i64)) r0) []) := mul_eqg (trim_k n) n a0 a1 k
def mul_ent (g : (List Int) → (List Int) → ((List Int) → Option A) → Option A) : Entry A := pureE fun args k => args2 args (.sl (.int .i64)) (.sl (.int .i64)) fun a0 a1 => g a0 a1 (fun r0 => k (.p (.sl (.int .i64)) r0) [])
theorem mul_lo (n : Nat) : ∀ c, Tryd.f23.body = some c → ∀ q ∈ loopsOf 0 c, ∀ L, (mul_E (A := A) (trim_k n) n).lps.lookup q.1 = some L → LoopOK Tryd.prog gls q.2 L :=
  lo_body (E := mul_E (trim_k n) n) (by kernel_rfl : Tryd.f23.body = some (bodyOf Tryd.f23)) (lo_of (E := mul_E (trim_k n) n) (by kernel_rfl : loopsOf 0 (bodyOf Tryd.f23) = [(0, mul_c0), (1, mul_c1)]) (lo_cons rfl (mul_lo0 n) (lo_cons rfl (mul_lo1 n) lo_nil)))
theorem mul_ok (n : Nat) : FnOK Tryd.prog gls 23 (mul_ent (A := A) (mul_k n)) :=
  FnOK.of (mul_T (trim_k n) n) (mul_fns n) follows ⟨Tryd.func23, by kernel_rfl⟩ (mul_lo n) (rm := [.pure]) fun args k out h => by
    obtain ⟨a0, a1, e, h1⟩ := args2_sound h
    subst e; rw [mul_eq]; exact h1

end Go.Ev
end

