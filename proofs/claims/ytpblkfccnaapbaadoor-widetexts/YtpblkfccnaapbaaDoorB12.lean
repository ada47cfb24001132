import Derived.Test.YtpblkfccnaapbaaDoorB5
import Derived.Test.YtpblkfccnaapbaaDoorB6
import Derived.Test.YtpblkfccnaapbaaDoorB11
import Derived.Test.YtpblkfccnaapbaaDoorB10
import Derived.Test.YtpblkfccnaapbaaDoorB9
import Derived.Test.YtpblkfccnaapbaaDoorB8
import Derived.Test.YtpblkfccnaapbaaDoorB7
set_option linter.all false
section
/-
  FUNCTION 35: printed by a program of our own (wip/gen/st.py). 'masthead/mastheadref04.High', in continuation form; the evaluator gives it.
-/
set_option linter.all false
set_option maxRecDepth 100000
namespace Go.Ev
open Go.Proofs
variable {A : Type}

-- ============================================================ high (function 35)
def high_p (g_trim : (List Int) → ((List Int) → Option A) → Option A) (n : Nat) (a0 : (List Int)) (k : (List Int) → Option A) : Option A :=
  bif (decide ((a0.length : Int) ≤ 16)) then
    k []
  else
    if 16 ≤ (a0.length : Int) then
      if (0 + ((a0.drop 16).take (a0.length - 16)).length) * 8 ≤ 140737488355328 then
        g_trim ([] ++ ((a0.drop 16).take (a0.length - 16))) fun r1 =>
        k r1
      else none
    else none

def high_k (n : Nat) (a0 : (List Int)) (k : (List Int) → Option A) : Option A := high_p (trim_k n) n a0 k

noncomputable def high_E (g_trim : (List Int) → ((List Int) → Option A) → Option A) (n : Nat) : Env A := ⟨tys, gls, [(41, trim_ent g_trim)], [], []⟩
theorem high_T (g_trim : (List Int) → ((List Int) → Option A) → Option A) (n : Nat) : TyOK Tryd.prog (high_E g_trim n) := tyOK_of rfl tysB
theorem high_fns (n : Nat) : FnsOK Tryd.prog (high_E (A := A) (trim_k n) n) := AllOK.env rfl rfl (AllOK.cons (trim_ok n) AllOK.nil)
theorem high_eqg (g_trim : (List Int) → ((List Int) → Option A) → Option A) (n : Nat) (a0 : (List Int)) (k : AV → List Blk → Option A) : fnK (high_E g_trim n) Tryd.f35 [.pure] [.p (.sl (.int .i64)) a0] [] k = high_p g_trim n a0 (fun r0 => k (.p (.sl (.int .i64)) r0) []) := by kernel_rfl
theorem high_eq (n : Nat) (a0 : (List Int)) (k : AV → List Blk → Option A) : fnK (high_E (trim_k n) n) Tryd.f35 [.pure] [.p (.sl (.int .i64)) a0] [] k = high_k n a0 (fun r0 => k (.p (.sl (.int .i64)) r0) []) := high_eqg (trim_k n) n a0 k
def high_ent (g : (List Int) → ((List Int) → Option A) → Option A) : Entry A := pureE fun args k => args1 args (.sl (.int .i64)) fun a0 => g a0 (fun r0 => k (.p (.sl (.int .i64)) r0) [])
theorem high_lo (n : Nat) : ∀ c, Tryd.f35.body = some c → ∀ q ∈ loopsOf 0 c, ∀ L, (high_E (A := A) (trim_k n) n).lps.lookup q.1 = some L → LoopOK Tryd.prog gls q.2 L :=
  lo_body (E := high_E (trim_k n) n) (by kernel_rfl : Tryd.f35.body = some (bodyOf Tryd.f35)) (lo_of (E := high_E (trim_k n) n) (by kernel_rfl : loopsOf 0 (bodyOf Tryd.f35) = []) lo_nil)
theorem high_ok (n : Nat) : FnOK Tryd.prog gls 35 (high_ent (A := A) (high_k n)) :=
  FnOK.of (high_T (trim_k n) n) (high_fns n) follows ⟨Tryd.func35, by kernel_rfl⟩ (high_lo n) (rm := [.pure]) fun args k out h => by
    obtain ⟨a0, e, h1⟩ := args1_sound h
    subst e; rw [high_eq]; exact h1

end Go.Ev
end

section
/-
  FUNCTION 14: printed by a program of our own (wip/gen/st.py). 'masthead/mastheadref04.Is', in continuation form; the evaluator gives it.
-/
set_option linter.all false
set_option maxRecDepth 100000
namespace Go.Ev
open Go.Proofs
variable {A : Type}

-- ============================================================ is_ (function 14)
def is__p (g_mul : (List Int) → (List Int) → ((List Int) → Option A) → Option A) (g_add : (List Int) → (List Int) → ((List Int) → Option A) → Option A) (g_less : (List Int) → (List Int) → (Bool → Option A) → Option A) (n : Nat) (a0 : (List Int)) (a1 : (List Int)) (a2 : (List Int)) (a3 : (List Int)) (k : Bool → Option A) : Option A :=
  g_mul a0 a3 fun r1 =>
  g_add r1 a1 fun r2 =>
  g_less a1 a3 fun r3 =>
  bif r3 then
    g_less r2 a2 fun r4 =>
    bif (!r4) then
      g_less a2 r2 fun r5 =>
      k (!r5)
    else
      k false
  else
    k false

def is__k (n : Nat) (a0 : (List Int)) (a1 : (List Int)) (a2 : (List Int)) (a3 : (List Int)) (k : Bool → Option A) : Option A := is__p (mul_k n) (add_k n) (less_k n) n a0 a1 a2 a3 k

noncomputable def is__E (g_mul : (List Int) → (List Int) → ((List Int) → Option A) → Option A) (g_add : (List Int) → (List Int) → ((List Int) → Option A) → Option A) (g_less : (List Int) → (List Int) → (Bool → Option A) → Option A) (n : Nat) : Env A := ⟨tys, gls, [(23, mul_ent g_mul), (26, add_ent g_add), (25, less_ent g_less)], [], []⟩
theorem is__T (g_mul : (List Int) → (List Int) → ((List Int) → Option A) → Option A) (g_add : (List Int) → (List Int) → ((List Int) → Option A) → Option A) (g_less : (List Int) → (List Int) → (Bool → Option A) → Option A) (n : Nat) : TyOK Tryd.prog (is__E g_mul g_add g_less n) := tyOK_of rfl tysB
theorem is__fns (n : Nat) : FnsOK Tryd.prog (is__E (A := A) (mul_k n) (add_k n) (less_k n) n) := AllOK.env rfl rfl (AllOK.cons (mul_ok n) (AllOK.cons (add_ok n) (AllOK.cons (less_ok n) AllOK.nil)))
theorem is__eqg (g_mul : (List Int) → (List Int) → ((List Int) → Option A) → Option A) (g_add : (List Int) → (List Int) → ((List Int) → Option A) → Option A) (g_less : (List Int) → (List Int) → (Bool → Option A) → Option A) (n : Nat) (a0 : (List Int)) (a1 : (List Int)) (a2 : (List Int)) (a3 : (List Int)) (k : AV → List Blk → Option A) : fnK (is__E g_mul g_add g_less n) Tryd.f14 [.pure] [.p (.sl (.int .i64)) a0, .p (.sl (.int .i64)) a1, .p (.sl (.int .i64)) a2, .p (.sl (.int .i64)) a3] [] k = is__p g_mul g_add g_less n a0 a1 a2 a3 (fun r0 => k (.p .bool r0) []) := by kernel_rfl
theorem is__eq (n : Nat) (a0 : (List Int)) (a1 : (List Int)) (a2 : (List Int)) (a3 : (List Int)) (k : AV → List Blk → Option A) : fnK (is__E (mul_k n) (add_k n) (less_k n) n) Tryd.f14 [.pure] [.p (.sl (.int .i64)) a0, .p (.sl (.int .i64)) a1, .p (.sl (.int .i64)) a2, .p (.sl (.int .i64)) a3] [] k = is__k n a0 a1 a2 a3 (fun r0 => k (.p .bool r0) []) := is__eqg (mul_k n) (add_k n) (less_k n) n a0 a1 a2 a3 k
def is__ent (g : (List Int) → (List Int) → (List Int) → (List Int) → (Bool → Option A) → Option A) : Entry A := pureE fun args k => args4 args (.sl (.int .i64)) (.sl (.int .i64)) (.sl (.int .i64)) (.sl (.int .i64)) fun a0 a1 a2 a3 => g a0 a1 a2 a3 (fun r0 => k (.p .bool r0) [])
theorem is__lo (n : Nat) : ∀ c, Tryd.f14.body = some c → ∀ q ∈ loopsOf 0 c, ∀ L, (is__E (A := A) (mul_k n) (add_k n) (less_k n) n).lps.lookup q.1 = some L → LoopOK Tryd.prog gls q.2 L :=
  lo_body (E := is__E (mul_k n) (add_k n) (less_k n) n) (by kernel_rfl : Tryd.f14.body = some (bodyOf Tryd.f14)) (lo_of (E := is__E (mul_k n) (add_k n) (less_k n) n) (by kernel_rfl : loopsOf 0 (bodyOf Tryd.f14) = []) lo_nil)
theorem is__ok (n : Nat) : FnOK Tryd.prog gls 14 (is__ent (A := A) (is__k n)) :=
  FnOK.of (is__T (mul_k n) (add_k n) (less_k n) n) (is__fns n) follows ⟨Tryd.func14, by kernel_rfl⟩ (is__lo n) (rm := [.pure]) fun args k out h => by
    obtain ⟨a0, a1, a2, a3, e, h1⟩ := args4_sound h
    subst e; rw [is__eq]; exact h1

end Go.Ev
end

section
/-
  FUNCTION 20: printed by a program of our own (wip/gen/st.py). 'masthead/mastheadlaw04.is', in continuation form; the evaluator gives it.
-/
set_option linter.all false
set_option maxRecDepth 100000
namespace Go.Ev
open Go.Proofs
variable {A : Type}

-- ============================================================ uis (function 20)
def uis_p (g_words : (List Int) → ((List Int) → Option A) → Option A) (n : Nat) (a0 : (List Int)) (a1 : (List Int)) (k : Bool → Option A) : Option A :=
  g_words a1 fun r1 =>
  bif (deq kA4u64 a0 r1) then
    k (decide ((a1.length : Int) ≤ 16))
  else
    k false

def uis_k (n : Nat) (a0 : (List Int)) (a1 : (List Int)) (k : Bool → Option A) : Option A := uis_p (words_k n) n a0 a1 k

noncomputable def uis_E (g_words : (List Int) → ((List Int) → Option A) → Option A) (n : Nat) : Env A := ⟨tys, gls, [(34, words_ent g_words)], [], []⟩
theorem uis_T (g_words : (List Int) → ((List Int) → Option A) → Option A) (n : Nat) : TyOK Tryd.prog (uis_E g_words n) := tyOK_of rfl tysB
theorem uis_fns (n : Nat) : FnsOK Tryd.prog (uis_E (A := A) (words_k n) n) := AllOK.env rfl rfl (AllOK.cons (words_ok n) AllOK.nil)
theorem uis_eqg (g_words : (List Int) → ((List Int) → Option A) → Option A) (n : Nat) (a0 : (List Int)) (a1 : (List Int)) (k : AV → List Blk → Option A) : fnK (uis_E g_words n) Tryd.f20 [.pure] [.p kA4u64 a0, .p (.sl (.int .i64)) a1] [] k = uis_p g_words n a0 a1 (fun r0 => k (.p .bool r0) []) := by kernel_rfl
theorem uis_eq (n : Nat) (a0 : (List Int)) (a1 : (List Int)) (k : AV → List Blk → Option A) : fnK (uis_E (words_k n) n) Tryd.f20 [.pure] [.p kA4u64 a0, .p (.sl (.int .i64)) a1] [] k = uis_k n a0 a1 (fun r0 => k (.p .bool r0) []) := uis_eqg (words_k n) n a0 a1 k
def uis_ent (g : (List Int) → (List Int) → (Bool → Option A) → Option A) : Entry A := pureE fun args k => args2 args kA4u64 (.sl (.int .i64)) fun a0 a1 => g a0 a1 (fun r0 => k (.p .bool r0) [])
theorem uis_lo (n : Nat) : ∀ c, Tryd.f20.body = some c → ∀ q ∈ loopsOf 0 c, ∀ L, (uis_E (A := A) (words_k n) n).lps.lookup q.1 = some L → LoopOK Tryd.prog gls q.2 L :=
  lo_body (E := uis_E (words_k n) n) (by kernel_rfl : Tryd.f20.body = some (bodyOf Tryd.f20)) (lo_of (E := uis_E (words_k n) n) (by kernel_rfl : loopsOf 0 (bodyOf Tryd.f20) = []) lo_nil)
theorem uis_ok (n : Nat) : FnOK Tryd.prog gls 20 (uis_ent (A := A) (uis_k n)) :=
  FnOK.of (uis_T (words_k n) n) (uis_fns n) follows ⟨Tryd.func20, by kernel_rfl⟩ (uis_lo n) (rm := [.pure]) fun args k out h => by
    obtain ⟨a0, a1, e, h1⟩ := args2_sound h
    subst e; rw [uis_eq]; exact h1

end Go.Ev
end

section
/-
  FUNCTION 30: printed by a program of our own (wip/gen/st.py). 'masthead/mastheadlaw04.mastheadless', in continuation form; the evaluator gives it.
-/
set_option linter.all false
set_option maxRecDepth 100000
namespace Go.Ev
open Go.Proofs
variable {A : Type}

-- ============================================================ mless (function 30)
def mless_p (g_big : (List Int) → ((List Int) → Option A) → Option A) (g_add : (List Int) → (List Int) → ((List Int) → Option A) → Option A) (g_low : (List Int) → ((List Int) → Option A) → Option A) (g_words : (List Int) → ((List Int) → Option A) → Option A) (n : Nat) (a0 : (List Int)) (a1 : (List Int)) (k : (List Int) → Option A) : Option A :=
  g_big a0 fun r1 =>
  g_big a1 fun r2 =>
  g_add r1 r2 fun r3 =>
  g_low r3 fun r4 =>
  g_words r4 fun r5 =>
  k r5

def mless_k (n : Nat) (a0 : (List Int)) (a1 : (List Int)) (k : (List Int) → Option A) : Option A := mless_p (big_k n) (add_k n) (low_k n) (words_k n) n a0 a1 k

noncomputable def mless_E (g_big : (List Int) → ((List Int) → Option A) → Option A) (g_add : (List Int) → (List Int) → ((List Int) → Option A) → Option A) (g_low : (List Int) → ((List Int) → Option A) → Option A) (g_words : (List Int) → ((List Int) → Option A) → Option A) (n : Nat) : Env A := ⟨tys, gls, [(15, big_ent g_big), (26, add_ent g_add), (22, low_ent g_low), (34, words_ent g_words)], [], []⟩
theorem mless_T (g_big : (List Int) → ((List Int) → Option A) → Option A) (g_add : (List Int) → (List Int) → ((List Int) → Option A) → Option A) (g_low : (List Int) → ((List Int) → Option A) → Option A) (g_words : (List Int) → ((List Int) → Option A) → Option A) (n : Nat) : TyOK Tryd.prog (mless_E g_big g_add g_low g_words n) := tyOK_of rfl tysB
theorem mless_fns (n : Nat) : FnsOK Tryd.prog (mless_E (A := A) (big_k n) (add_k n) (low_k n) (words_k n) n) := AllOK.env rfl rfl (AllOK.cons (big_ok n) (AllOK.cons (add_ok n) (AllOK.cons (low_ok n) (AllOK.cons (words_ok n) AllOK.nil))))
theorem mless_eqg (g_big : (List Int) → ((List Int) → Option A) → Option A) (g_add : (List Int) → (List Int) → ((List Int) → Option A) → Option A) (g_low : (List Int) → ((List Int) → Option A) → Option A) (g_words : (List Int) → ((List Int) → Option A) → Option A) (n : Nat) (a0 : (List Int)) (a1 : (List Int)) (k : AV → List Blk → Option A) : fnK (mless_E g_big g_add g_low g_words n) Tryd.f30 [.pure] [.p kA4u64 a0, .p kA4u64 a1] [] k = mless_p g_big g_add g_low g_words n a0 a1 (fun r0 => k (.p kA4u64 r0) []) := by kernel_rfl
theorem mless_eq (n : Nat) (a0 : (List Int)) (a1 : (List Int)) (k : AV → List Blk → Option A) : fnK (mless_E (big_k n) (add_k n) (low_k n) (words_k n) n) Tryd.f30 [.pure] [.p kA4u64 a0, .p kA4u64 a1] [] k = mless_k n a0 a1 (fun r0 => k (.p kA4u64 r0) []) := mless_eqg (big_k n) (add_k n) (low_k n) (words_k n) n a0 a1 k
def mless_ent (g : (List Int) → (List Int) → ((List Int) → Option A) → Option A) : Entry A := pureE fun args k => args2 args kA4u64 kA4u64 fun a0 a1 => g a0 a1 (fun r0 => k (.p kA4u64 r0) [])
theorem mless_lo (n : Nat) : ∀ c, Tryd.f30.body = some c → ∀ q ∈ loopsOf 0 c, ∀ L, (mless_E (A := A) (big_k n) (add_k n) (low_k n) (words_k n) n).lps.lookup q.1 = some L → LoopOK Tryd.prog gls q.2 L :=
  lo_body (E := mless_E (big_k n) (add_k n) (low_k n) (words_k n) n) (by kernel_rfl : Tryd.f30.body = some (bodyOf Tryd.f30)) (lo_of (E := mless_E (big_k n) (add_k n) (low_k n) (words_k n) n) (by kernel_rfl : loopsOf 0 (bodyOf Tryd.f30) = []) lo_nil)
theorem mless_ok (n : Nat) : FnOK Tryd.prog gls 30 (mless_ent (A := A) (mless_k n)) :=
  FnOK.of (mless_T (big_k n) (add_k n) (low_k n) (words_k n) n) (mless_fns n) follows ⟨Tryd.func30, by kernel_rfl⟩ (mless_lo n) (rm := [.pure]) fun args k out h => by
    obtain ⟨a0, a1, e, h1⟩ := args2_sound h
    subst e; rw [mless_eq]; exact h1

end Go.Ev
end

section
/-
  FUNCTION 12: printed by a program of our own (wip/gen/st.py). '(masthead/wide.U).Div', in continuation form; the evaluator gives it.
-/
set_option linter.all false
set_option maxRecDepth 100000
namespace Go.Ev
open Go.Proofs
variable {A : Type}

-- ============================================================ udiv (function 12)
def udiv_b0 (g_div64 : Int → Int → Int → (Int → Int → Option A) → Option A) (n : Nat) (n_ : Int) (t4 : (List Int)) (k0 : Int → (List Int) → Option A) (r : Int → Int → (List Int) → Option A) (left : Int) (i : Int) (a : (List Int)) : Option A :=
  bif (decide (i ≥ 0)) then
    if 0 ≤ i then
      if i < 4 then
        (a[(Int.toNat i)]?).bind fun y1 =>
        g_div64 left y1 n_ fun r2 r3 =>
        if 0 ≤ i then
          if i < 4 then
            if (Int.toNat i) < 4 then
              r r3 (IntKind.wrap .i64 (i - 1)) (a.set (Int.toNat i) r2)
            else none
          else none
        else none
      else none
    else none
  else
    k0 left a

def udiv_l0 (g_div64 : Int → Int → Int → (Int → Int → Option A) → Option A) (n : Nat) (n_ : Int) (t4 : (List Int)) (k0 : Int → (List Int) → Option A) : Nat → Int → Int → (List Int) → Option A
  | 0 => fun _ _ _ => none
  | f + 1 => udiv_b0 g_div64 n n_ t4 k0 (udiv_l0 g_div64 n n_ t4 k0 f)

def udiv_p (g_div64 : Int → Int → Int → (Int → Int → Option A) → Option A) (n : Nat) (a0 : (List Int)) (a1 : Int) (k : (List Int) → Int → Option A) : Option A :=
  bif (a1 == 0) then
    k [0, 0, 0, 0] 0
  else
    udiv_l0 g_div64 n a1 [0, 0, 0, 0] (fun y4 y5 =>
      k y5 y4) n 0 3 a0

def udiv_k (n : Nat) (a0 : (List Int)) (a1 : Int) (k : (List Int) → Int → Option A) : Option A := udiv_p (div64_k n) n a0 a1 k

noncomputable def udiv_c0 : Code := codeAt [1, 1, 1, 0, 1, 0, 0] (bodyOf Tryd.f12)
def udiv_d0 : List Nat := [0, 5, 8, 9, 11, 12, 13, 14, 15, 16, 17, 18, 19, 20, 21, 22, 23, 24, 25]
def udiv_y0 : List Nat := [0, 1, 3, 5, 7, 8, 9, 10, 11, 12, 13, 14, 15, 16, 17, 18, 19, 20, 21, 22, 23, 24, 25, 26, 27]
def udiv_sh0 : Shape := ⟨[.any, (.p (.int .u64)), (.ptr 0), .any, (.ptr 1), .any, (.p (.int .u64)), (.p (.int .i64)), .any, .any, .any, .any, .any, .any, .any, .any, .any, .any, .any, .any, .any, .any, .any, .any, .any, .any, .any, .any], [(.var 24 kA4u64 (.p kA4u64)), (.var 24 kA4u64 (.p kA4u64))], 0⟩
def udiv_t0 (n_ : Int) (t4 : (List Int)) (left : Int) (i : Int) (a : (List Int)) : udiv_sh0.den := (((), n_, (), (), (), (), left, i, (), (), (), (), (), (), (), (), (), (), (), (), (), (), (), (), (), (), (), (), ()), (a, t4, ()))
def udiv_x0_0 (n_ : Int) (t4 : (List Int)) (z0 : Int) (z1 : (List Int)) : St := ⟨[.any, .any, .ptr 0 [], .any, .ptr 1 [], .any, .p (.int .u64) z0, .any, .any, .any, .any, .any, .any, .any, .any, .any, .any, .any, .any, .any, .any, .any, .any, .any, .any, .any, .any, .any], [.var 24 kA4u64 (.p kA4u64 z1), .var 24 kA4u64 (.p kA4u64 t4)], 0⟩
def udiv_g0 (g_div64 : Int → Int → Int → (Int → Int → Option A) → Option A) (n : Nat) (d : udiv_sh0.den) (k : Ex → St → Option A) : Option A :=
  udiv_l0 g_div64 n d.1.2.1 d.2.2.1 (fun z0 z1 => k (.exit 0) (udiv_x0_0 d.1.2.1 d.2.2.1 z0 z1)) n d.1.2.2.2.2.2.2.1 d.1.2.2.2.2.2.2.2.1 d.2.1
noncomputable def udiv_E (g_div64 : Int → Int → Int → (Int → Int → Option A) → Option A) (n : Nat) : Env A := ⟨tys, gls, [(38, div64_ent g_div64)], [(0, loopE udiv_d0 udiv_sh0 (udiv_g0 g_div64 n))], []⟩
theorem udiv_T (g_div64 : Int → Int → Int → (Int → Int → Option A) → Option A) (n : Nat) : TyOK Tryd.prog (udiv_E g_div64 n) := tyOK_of rfl tysB
theorem udiv_fns (n : Nat) : FnsOK Tryd.prog (udiv_E (A := A) (div64_k n) n) := AllOK.env rfl rfl (AllOK.cons (div64_ok n) AllOK.nil)
noncomputable def udiv_LK0 (g_div64 : Int → Int → Int → (Int → Int → Option A) → Option A) (n : Nat) (n_ : Int) (t4 : (List Int)) (k : Ex → St → Option A) (f : Nat) (left : Int) (i : Int) (a : (List Int)) : Option A := loopK (codeK (udiv_E g_div64 n) 1 udiv_c0) udiv_d0 udiv_y0 f (udiv_sh0.fill (udiv_t0 n_ t4 left i a)) k
theorem udiv_st0 (g_div64 : Int → Int → Int → (Int → Int → Option A) → Option A) (n f : Nat) (n_ : Int) (t4 : (List Int)) (k : Ex → St → Option A) (left : Int) (i : Int) (a : (List Int)) : udiv_LK0 g_div64 n n_ t4 k (f + 1) left i a = udiv_b0 g_div64 n n_ t4 (fun z0 z1 => k (.exit 0) (udiv_x0_0 n_ t4 z0 z1)) (udiv_LK0 g_div64 n n_ t4 k f) left i a := by kernel_rfl
theorem udiv_le0 (g_div64 : Int → Int → Int → (Int → Int → Option A) → Option A) (n : Nat) (n_ : Int) (t4 : (List Int)) (k : Ex → St → Option A) : ∀ (f : Nat) (left : Int) (i : Int) (a : (List Int)), udiv_LK0 g_div64 n n_ t4 k f left i a = udiv_l0 g_div64 n n_ t4 (fun z0 z1 => k (.exit 0) (udiv_x0_0 n_ t4 z0 z1)) f left i a := by
  intro f
  induction f with
  | zero => intros; kernel_rfl
  | succ f ih => intro left i a; exact (udiv_st0 g_div64 n f n_ t4 k left i a).trans ((congrArg (fun r => udiv_b0 g_div64 n n_ t4 (fun z0 z1 => k (.exit 0) (udiv_x0_0 n_ t4 z0 z1)) r left i a) (funext fun left => funext fun i => funext fun a => ih left i a)).trans (by kernel_rfl))
theorem udiv_lo0 (n : Nat) : LoopOK Tryd.prog gls udiv_c0 (loopE udiv_d0 udiv_sh0 (udiv_g0 (A := A) (div64_k n) n)) :=
  LoopOK.of (udiv_T (div64_k n) n) (udiv_fns n) follows (j := 1) (n := n) (xdead := udiv_y0) (lo_of (by kernel_rfl : loopsOf 1 udiv_c0 = []) lo_nil) fun d k => Eq.trans (by kernel_rfl) (udiv_le0 (div64_k n) n d.1.2.1 d.2.2.1 k n d.1.2.2.2.2.2.2.1 d.1.2.2.2.2.2.2.2.1 d.2.1)
theorem udiv_eqg (g_div64 : Int → Int → Int → (Int → Int → Option A) → Option A) (n : Nat) (a0 : (List Int)) (a1 : Int) (k : AV → List Blk → Option A) : fnK (udiv_E g_div64 n) Tryd.f12 [.pure, .pure] [.p kA4u64 a0, .p (.int .u64) a1] [] k = udiv_p g_div64 n a0 a1 (fun r0 r1 => k (.tup [.p kA4u64 r0, .p (.int .u64) r1]) []) := by kernel_rfl
theorem udiv_eq (n : Nat) (a0 : (List Int)) (a1 : Int) (k : AV → List Blk → Option A) : fnK (udiv_E (div64_k n) n) Tryd.f12 [.pure, .pure] [.p kA4u64 a0, .p (.int .u64) a1] [] k = udiv_k n a0 a1 (fun r0 r1 => k (.tup [.p kA4u64 r0, .p (.int .u64) r1]) []) := udiv_eqg (div64_k n) n a0 a1 k
def udiv_ent (g : (List Int) → Int → ((List Int) → Int → Option A) → Option A) : Entry A := pureE fun args k => args2 args kA4u64 (.int .u64) fun a0 a1 => g a0 a1 (fun r0 r1 => k (.tup [.p kA4u64 r0, .p (.int .u64) r1]) [])
theorem udiv_lo (n : Nat) : ∀ c, Tryd.f12.body = some c → ∀ q ∈ loopsOf 0 c, ∀ L, (udiv_E (A := A) (div64_k n) n).lps.lookup q.1 = some L → LoopOK Tryd.prog gls q.2 L :=
  lo_body (E := udiv_E (div64_k n) n) (by kernel_rfl : Tryd.f12.body = some (bodyOf Tryd.f12)) (lo_of (E := udiv_E (div64_k n) n) (by kernel_rfl : loopsOf 0 (bodyOf Tryd.f12) = [(0, udiv_c0)]) (lo_cons rfl (udiv_lo0 n) lo_nil))
theorem udiv_ok (n : Nat) : FnOK Tryd.prog gls 12 (udiv_ent (A := A) (udiv_k n)) :=
  FnOK.of (udiv_T (div64_k n) n) (udiv_fns n) follows ⟨Tryd.func12, by kernel_rfl⟩ (udiv_lo n) (rm := [.pure, .pure]) fun args k out h => by
    obtain ⟨a0, a1, e, h1⟩ := args2_sound h
    subst e; rw [udiv_eq]; exact h1

end Go.Ev
end

section
/-
  WIDE: plain laws of what the reference and the program compute.
-/
set_option linter.all false
namespace Go.Ev
variable {A : Type}

theorem p256 : (65536 : Nat) ^ 16 = 2 ^ 256 := by decide

theorem take16 (x : Nat) (h : 16 ≤ (dig x).length) : bval ((dig x).take 16) = x % 2 ^ 256 ∧ bval ((dig x).drop 16) = x / 2 ^ 256 := by
  have h1 := bval_split (dig x) 16 h
  have h2 := bval_lt ((dig x).take 16) ((dig_Dig x).take 16)
  rw [List.length_take, Nat.min_eq_left h, p256] at h2
  rw [bval_dig, p256] at h1
  generalize bval ((dig x).take 16) = a at *
  generalize bval ((dig x).drop 16) = b at *
  constructor
  · rw [h1, Nat.add_mul_mod_self_left, Nat.mod_eq_of_lt h2]
  · rw [h1, Nat.add_mul_div_left _ _ (Nat.two_pow_pos 256), Nat.div_eq_of_lt h2, Nat.zero_add]

theorem small_of_len {x : Nat} (h : (dig x).length ≤ 16) : x < 2 ^ 256 := Nat.lt_of_lt_of_le (dig_bound x) (Nat.pow_le_pow_right (by decide) (by omega))
theorem len16 (x : Nat) : ((dig x).length > 16) ↔ 2 ^ 256 ≤ x := by
  constructor
  · intro h
    rcases Nat.lt_or_ge x (2 ^ 256) with h2 | h2
    · have := dig_len256 x h2; omega
    · exact h2
  · intro h
    rcases Nat.lt_or_ge 16 (dig x).length with h2 | h2
    · exact h2
    · have := small_of_len h2; omega

theorem low_law (n x : Nat) (hl : (dig x).length < 1000) (hn : 1000 ≤ n) (g : List Int → Option A) : low_k n (ints (dig x)) g = g (ints (dig (x % 2 ^ 256))) := by
  unfold low_k low_p
  rw [ints_length]
  by_cases h : (dig x).length > 16
  · have hlen : ((dig x).take 16).length = 16 := by rw [List.length_take]; omega
    rw [decide_eq_true (by omega), cond_true, if_pos (by omega), List.drop_zero, ints_take, ints_length, if_pos (by omega), List.nil_append, trim_law n _ ((dig_Dig x).take 16) (by omega) (by omega), (take16 x (by omega)).1]
  · rw [decide_eq_false (by omega), cond_false, if_pos (by omega), List.nil_append, trim_law n _ (dig_Dig x) (by omega) (by omega), bval_dig, Nat.mod_eq_of_lt (small_of_len (by omega))]
theorem high_law (n x : Nat) (hl : (dig x).length < 1000) (hn : 1000 ≤ n) (g : List Int → Option A) : high_k n (ints (dig x)) g = g (ints (dig (x / 2 ^ 256))) := by
  unfold high_k high_p
  rw [ints_length]
  by_cases h : (dig x).length > 16
  · have hlen : ((dig x).drop 16).length = (dig x).length - 16 := List.length_drop
    rw [decide_eq_false (by omega), cond_false, if_pos (by omega), ints_drop, List.take_of_length_le (by rw [ints_length]; omega), ints_length, if_pos (by omega), List.nil_append, trim_law n _ ((dig_Dig x).drop 16) (by omega) (by omega), (take16 x (by omega)).2]
  · rw [decide_eq_true (by omega), cond_true, Nat.div_eq_of_lt (small_of_len (by omega)), dig_zero]; rfl

theorem is_law (n q r N d : Nat) (hn : 1000 ≤ n) (hq : (dig q).length ≤ 100) (hr : (dig r).length ≤ 100) (hd : (dig d).length ≤ 100) (hqd : (dig (q * d)).length ≤ 100) (hN : (dig N).length ≤ 100) (h1 : r < d) (h2 : q * d + r = N) (g : Bool → Option A) :
    is__k n (ints (dig q)) (ints (dig r)) (ints (dig N)) (ints (dig d)) g = g true := by
  unfold is__k is__p
  rw [mul_law n q d (by omega) (by omega), add_law n _ r (by omega) (by omega), h2, less_law n r d (by omega) (by omega), decide_eq_true h1, cond_true, less_law n N N (by omega) (by omega), decide_eq_false (Nat.lt_irrefl N), Bool.not_false, cond_true, less_law n N N (by omega) (by omega), decide_eq_false (Nat.lt_irrefl N), Bool.not_false]

theorem uis_true (n x : Nat) (hx : x < 2 ^ 256) (hn : 1000 ≤ n) (g : Bool → Option A) : uis_k n (ints (uw x)) (ints (dig x)) g = g true := by
  unfold uis_k uis_p
  have := dig_len256 x hx
  rw [words_law n x (by omega) (by omega), deq_self, cond_true, ints_length, decide_eq_true (by omega)]

theorem dig_len_add (x y a m : Nat) (ha : a + 1 < 16 * m) (hx : x ≤ 2 ^ a) (hy : y ≤ 2 ^ a) : (dig (x + y)).length ≤ m :=
  dig_len_gen (x + y) (a + 1) m ha (by rw [Nat.pow_succ]; omega)
theorem len_sum {x y : Nat} (hx : x < 2 ^ 256) (hy : y < 2 ^ 256) : (dig (x + y)).length ≤ 17 := dig_len_add x y 256 17 (by decide) (by omega) (by omega)

theorem mless_law (n x y : Nat) (hx : x < 2 ^ 256) (hy : y < 2 ^ 256) (hn : 1000 ≤ n) (g : List Int → Option A) : mless_k n (ints (uw x)) (ints (uw y)) g = g (ints (uw ((x + y) % 2 ^ 256))) := by
  unfold mless_k mless_p
  have l1 := dig_len256 x hx
  have l2 := dig_len256 y hy
  have l3 := len_sum hx hy
  have l4 := dig_len256 ((x + y) % 2 ^ 256) (Nat.mod_lt _ (Nat.two_pow_pos _))
  rw [big_law n (by omega) x hx, big_law n (by omega) y hy, add_law n x y (by omega) (by omega), low_law n _ (by omega) hn, words_law n _ (by omega) (by omega)]

end Go.Ev
end

section
/-
  FUNCTION 17: printed by a program of our own (wip/gen/st.py). '(masthead/wide.U).Text', in continuation form; the evaluator gives it.
-/
set_option linter.all false
set_option maxRecDepth 100000
namespace Go.Ev
open Go.Proofs
variable {A : Type}

-- ============================================================ utext (function 17)
def utext_b2 (g_udiv : (List Int) → Int → ((List Int) → Int → Option A) → Option A) (g_fmt : Int → Int → (ByteArray → Option A) → Option A) (g_reverse : (List ByteArray) → ((List ByteArray) → Option A) → Option A) (n : Nat) (t41 : Int) (t40 : (List ByteArray)) (k0 : ByteArray → Option A) (r : ByteArray → Int → Option A) (out : ByteArray) (t42 : Int) : Option A :=
  bif (decide (t42 < t41)) then
    if 0 ≤ t42 then
      if t42 < (t40.length : Int) then
        (t40[(Int.toNat t42)]?).bind fun y7 =>
        if out.size + y7.size ≤ 9223372036854775807 then
          r (out ++ y7) (IntKind.wrap .i64 (t42 + 1))
        else none
      else none
    else none
  else
    k0 out

def utext_l2 (g_udiv : (List Int) → Int → ((List Int) → Int → Option A) → Option A) (g_fmt : Int → Int → (ByteArray → Option A) → Option A) (g_reverse : (List ByteArray) → ((List ByteArray) → Option A) → Option A) (n : Nat) (t41 : Int) (t40 : (List ByteArray)) (k0 : ByteArray → Option A) : Nat → ByteArray → Int → Option A
  | 0 => fun _ _ => none
  | f + 1 => utext_b2 g_udiv g_fmt g_reverse n t41 t40 k0 (utext_l2 g_udiv g_fmt g_reverse n t41 t40 k0 f)

def utext_b1 (g_udiv : (List Int) → Int → ((List Int) → Int → Option A) → Option A) (g_fmt : Int → Int → (ByteArray → Option A) → Option A) (g_reverse : (List ByteArray) → ((List ByteArray) → Option A) → Option A) (n : Nat) (a : (List Int)) (parts : (List ByteArray)) (rest_ : (List Int)) (k0 : ByteArray → Option A) (r : ByteArray → Option A) (s : ByteArray) : Option A :=
  bif (!(deq kA4u64 rest_ [0, 0, 0, 0])) then
    bif (decide ((s.size : Int) < 19)) then
      if str1.size + s.size ≤ 9223372036854775807 then
        r (str1 ++ s)
      else none
    else
      k0 s
  else
    k0 s

def utext_l1 (g_udiv : (List Int) → Int → ((List Int) → Int → Option A) → Option A) (g_fmt : Int → Int → (ByteArray → Option A) → Option A) (g_reverse : (List ByteArray) → ((List ByteArray) → Option A) → Option A) (n : Nat) (a : (List Int)) (parts : (List ByteArray)) (rest_ : (List Int)) (k0 : ByteArray → Option A) : Nat → ByteArray → Option A
  | 0 => fun _ => none
  | f + 1 => utext_b1 g_udiv g_fmt g_reverse n a parts rest_ k0 (utext_l1 g_udiv g_fmt g_reverse n a parts rest_ k0 f)

def utext_b0 (g_udiv : (List Int) → Int → ((List Int) → Int → Option A) → Option A) (g_fmt : Int → Int → (ByteArray → Option A) → Option A) (g_reverse : (List ByteArray) → ((List ByteArray) → Option A) → Option A) (n : Nat) (k0 : (List ByteArray) → Option A) (r : (List Int) → (List ByteArray) → Option A) (a : (List Int)) (parts : (List ByteArray)) : Option A :=
  bif (!(deq kA4u64 a [0, 0, 0, 0])) then
    g_udiv a 10000000000000000000 fun r1 r2 =>
    g_fmt r2 10 fun r3 =>
    utext_l1 g_udiv g_fmt g_reverse n a parts r1 (fun y4 =>
      if (parts.length + 1) * 16 ≤ 140737488355328 then
        r r1 (parts ++ [y4])
      else none) n r3
  else
    k0 parts

def utext_l0 (g_udiv : (List Int) → Int → ((List Int) → Int → Option A) → Option A) (g_fmt : Int → Int → (ByteArray → Option A) → Option A) (g_reverse : (List ByteArray) → ((List ByteArray) → Option A) → Option A) (n : Nat) (k0 : (List ByteArray) → Option A) : Nat → (List Int) → (List ByteArray) → Option A
  | 0 => fun _ _ => none
  | f + 1 => utext_b0 g_udiv g_fmt g_reverse n k0 (utext_l0 g_udiv g_fmt g_reverse n k0 f)

def utext_p (g_udiv : (List Int) → Int → ((List Int) → Int → Option A) → Option A) (g_fmt : Int → Int → (ByteArray → Option A) → Option A) (g_reverse : (List ByteArray) → ((List ByteArray) → Option A) → Option A) (n : Nat) (a0 : (List Int)) (k : ByteArray → Option A) : Option A :=
  utext_l0 g_udiv g_fmt g_reverse n (fun y5 =>
    bif ((y5.length : Int) == 0) then
      k str1
    else
      g_reverse y5 fun r6 =>
      utext_l2 g_udiv g_fmt g_reverse n (r6.length : Int) r6 (fun y8 =>
        k y8) n ByteArray.empty 0) n a0 []

def utext_k (n : Nat) (a0 : (List Int)) (k : ByteArray → Option A) : Option A := utext_p (udiv_k n) (fmt_k n) (reverse_k n) n a0 k

noncomputable def utext_c0 : Code := codeAt [1, 1, 0, 0, 0] (bodyOf Tryd.f17)
def utext_d0 : List Nat := [0, 2, 4, 5, 6, 10, 11, 12, 13, 14, 15, 16, 17, 18, 19, 20, 21, 22, 23, 24, 25, 26, 27, 28, 29, 30, 31, 32, 33, 34]
def utext_y0 : List Nat := [0, 1, 2, 4, 5, 6, 7, 8, 9, 10, 11, 12, 13, 14, 15, 16, 17, 18, 19, 20, 21, 22, 23, 24, 25, 26, 27, 28, 29, 30, 31, 32, 33, 34, 35, 36, 37, 38, 39, 40, 41, 42, 43, 44, 45, 46, 47, 48, 49, 50]
def utext_sh0 : Shape := ⟨[.any, (.ptr 0), .any, (.row 1), .any, .any, .any, .any, .any, .any, .any, .any, .any, .any, .any, .any, .any, .any, .any, .any, .any, .any, .any, .any, .any, .any, .any, .any, .any, .any, .any, .any, .any, .any, .any, .any, .any, .any, .any, .any, .any, .any, .any, .any, .any, .any, .any, .any, .any, .any, .any], [(.var 24 kA4u64 (.p kA4u64)), (.row 9 .str)], 0⟩
def utext_t0 (a : (List Int)) (parts : (List ByteArray)) : utext_sh0.den := (((), (), (), (), (), (), (), (), (), (), (), (), (), (), (), (), (), (), (), (), (), (), (), (), (), (), (), (), (), (), (), (), (), (), (), (), (), (), (), (), (), (), (), (), (), (), (), (), (), (), (), ()), (a, parts, ()))
def utext_x0_0 (z0 : (List ByteArray)) : St := ⟨[.any, .any, .any, .row 0, .any, .any, .any, .any, .any, .any, .any, .any, .any, .any, .any, .any, .any, .any, .any, .any, .any, .any, .any, .any, .any, .any, .any, .any, .any, .any, .any, .any, .any, .any, .any, .any, .any, .any, .any, .any, .any, .any, .any, .any, .any, .any, .any, .any, .any, .any, .any], [.row 9 .str z0], 0⟩
def utext_g0 (g_udiv : (List Int) → Int → ((List Int) → Int → Option A) → Option A) (g_fmt : Int → Int → (ByteArray → Option A) → Option A) (g_reverse : (List ByteArray) → ((List ByteArray) → Option A) → Option A) (n : Nat) (d : utext_sh0.den) (k : Ex → St → Option A) : Option A :=
  utext_l0 g_udiv g_fmt g_reverse n (fun z0 => k (.exit 0) (utext_x0_0 z0)) n d.2.1 d.2.2.1
noncomputable def utext_c1 : Code := codeAt [1, 1, 0, 0, 0, 1, 0, 1, 1, 0, 0, 0] (bodyOf Tryd.f17)
def utext_d1 : List Nat := [5, 10, 11, 12, 13, 14, 15, 16, 17, 18, 19, 20, 21, 22, 23, 24, 25, 26, 27, 28, 29]
def utext_y1 : List Nat := [0, 2, 5, 7, 8, 9, 10, 11, 12, 13, 14, 15, 16, 17, 18, 19, 20, 21, 22, 23, 24, 25, 26, 27, 28, 29, 30, 31, 32, 33, 34, 35, 36, 37, 38, 39, 40, 41, 42, 43, 44, 45, 46, 47, 48, 49, 50]
def utext_sh1 : Shape := ⟨[.any, (.ptr 0), .any, (.row 1), (.ptr 2), .any, (.p .str), .any, .any, .any, .any, .any, .any, .any, .any, .any, .any, .any, .any, .any, .any, .any, .any, .any, .any, .any, .any, .any, .any, .any, .any, .any, .any, .any, .any, .any, .any, .any, .any, .any, .any, .any, .any, .any, .any, .any, .any, .any, .any, .any, .any], [(.var 24 kA4u64 (.p kA4u64)), (.row 9 .str), (.var 24 kA4u64 (.p kA4u64))], 0⟩
def utext_t1 (a : (List Int)) (parts : (List ByteArray)) (rest_ : (List Int)) (s : ByteArray) : utext_sh1.den := (((), (), (), (), (), (), s, (), (), (), (), (), (), (), (), (), (), (), (), (), (), (), (), (), (), (), (), (), (), (), (), (), (), (), (), (), (), (), (), (), (), (), (), (), (), (), (), (), (), (), (), ()), (a, parts, rest_, ()))
def utext_x1_0 (a : (List Int)) (parts : (List ByteArray)) (rest_ : (List Int)) (z0 : ByteArray) : St := ⟨[.any, .ptr 0 [], .any, .row 1, .ptr 2 [], .any, .p .str z0, .any, .any, .any, .any, .any, .any, .any, .any, .any, .any, .any, .any, .any, .any, .any, .any, .any, .any, .any, .any, .any, .any, .any, .any, .any, .any, .any, .any, .any, .any, .any, .any, .any, .any, .any, .any, .any, .any, .any, .any, .any, .any, .any, .any], [.var 24 kA4u64 (.p kA4u64 a), .row 9 .str parts, .var 24 kA4u64 (.p kA4u64 rest_)], 0⟩
def utext_g1 (g_udiv : (List Int) → Int → ((List Int) → Int → Option A) → Option A) (g_fmt : Int → Int → (ByteArray → Option A) → Option A) (g_reverse : (List ByteArray) → ((List ByteArray) → Option A) → Option A) (n : Nat) (d : utext_sh1.den) (k : Ex → St → Option A) : Option A :=
  utext_l1 g_udiv g_fmt g_reverse n d.2.1 d.2.2.1 d.2.2.2.1 (fun z0 => k (.exit 2) (utext_x1_0 d.2.1 d.2.2.1 d.2.2.2.1 z0)) n d.1.2.2.2.2.2.2.1
noncomputable def utext_c2 : Code := codeAt [1, 1, 1, 1, 1, 1, 0, 1, 0, 0] (bodyOf Tryd.f17)
def utext_d2 : List Nat := [3, 9, 35, 36, 37, 38, 39, 43, 44, 45, 46, 47, 48, 49]
def utext_y2 : List Nat := [0, 1, 2, 3, 4, 5, 6, 8, 9, 10, 11, 12, 13, 14, 15, 16, 17, 18, 19, 20, 21, 22, 23, 24, 25, 26, 27, 28, 29, 30, 31, 32, 33, 34, 35, 36, 37, 38, 39, 40, 41, 42, 43, 44, 45, 46, 47, 48, 49, 50]
def utext_sh2 : Shape := ⟨[.any, .any, .any, .any, .any, .any, .any, (.p .str), .any, .any, .any, .any, .any, .any, .any, .any, .any, .any, .any, .any, .any, .any, .any, .any, .any, .any, .any, .any, .any, .any, .any, .any, .any, .any, .any, .any, .any, .any, .any, .any, (.row 0), (.p (.int .i64)), (.p (.int .i64)), .any, .any, .any, .any, .any, .any, .any, .any], [(.row 9 .str)], 0⟩
def utext_t2 (t41 : Int) (t40 : (List ByteArray)) (out : ByteArray) (t42 : Int) : utext_sh2.den := (((), (), (), (), (), (), (), out, (), (), (), (), (), (), (), (), (), (), (), (), (), (), (), (), (), (), (), (), (), (), (), (), (), (), (), (), (), (), (), (), (), t41, t42, (), (), (), (), (), (), (), (), ()), (t40, ()))
def utext_x2_0 (t41 : Int) (t40 : (List ByteArray)) (z0 : ByteArray) : St := ⟨[.any, .any, .any, .any, .any, .any, .any, .p .str z0, .any, .any, .any, .any, .any, .any, .any, .any, .any, .any, .any, .any, .any, .any, .any, .any, .any, .any, .any, .any, .any, .any, .any, .any, .any, .any, .any, .any, .any, .any, .any, .any, .any, .any, .any, .any, .any, .any, .any, .any, .any, .any, .any], [], 0⟩
def utext_g2 (g_udiv : (List Int) → Int → ((List Int) → Int → Option A) → Option A) (g_fmt : Int → Int → (ByteArray → Option A) → Option A) (g_reverse : (List ByteArray) → ((List ByteArray) → Option A) → Option A) (n : Nat) (d : utext_sh2.den) (k : Ex → St → Option A) : Option A :=
  utext_l2 g_udiv g_fmt g_reverse n d.1.2.2.2.2.2.2.2.2.2.2.2.2.2.2.2.2.2.2.2.2.2.2.2.2.2.2.2.2.2.2.2.2.2.2.2.2.2.2.2.2.2.1 d.2.1 (fun z0 => k (.exit 4) (utext_x2_0 d.1.2.2.2.2.2.2.2.2.2.2.2.2.2.2.2.2.2.2.2.2.2.2.2.2.2.2.2.2.2.2.2.2.2.2.2.2.2.2.2.2.2.1 d.2.1 z0)) n d.1.2.2.2.2.2.2.2.1 d.1.2.2.2.2.2.2.2.2.2.2.2.2.2.2.2.2.2.2.2.2.2.2.2.2.2.2.2.2.2.2.2.2.2.2.2.2.2.2.2.2.2.2.1
noncomputable def utext_E (g_udiv : (List Int) → Int → ((List Int) → Int → Option A) → Option A) (g_fmt : Int → Int → (ByteArray → Option A) → Option A) (g_reverse : (List ByteArray) → ((List ByteArray) → Option A) → Option A) (n : Nat) : Env A := ⟨tys, gls, [(12, udiv_ent g_udiv), (42, fmt_ent g_fmt), (43, reverse_ent g_reverse)], [(0, loopE utext_d0 utext_sh0 (utext_g0 g_udiv g_fmt g_reverse n)), (1, loopE utext_d1 utext_sh1 (utext_g1 g_udiv g_fmt g_reverse n)), (2, loopE utext_d2 utext_sh2 (utext_g2 g_udiv g_fmt g_reverse n))], []⟩
theorem utext_T (g_udiv : (List Int) → Int → ((List Int) → Int → Option A) → Option A) (g_fmt : Int → Int → (ByteArray → Option A) → Option A) (g_reverse : (List ByteArray) → ((List ByteArray) → Option A) → Option A) (n : Nat) : TyOK Tryd.prog (utext_E g_udiv g_fmt g_reverse n) := tyOK_of rfl tysB
theorem utext_fns (n : Nat) : FnsOK Tryd.prog (utext_E (A := A) (udiv_k n) (fmt_k n) (reverse_k n) n) := AllOK.env rfl rfl (AllOK.cons (udiv_ok n) (AllOK.cons (fmt_ok n) (AllOK.cons (reverse_ok n) AllOK.nil)))
noncomputable def utext_LK2 (g_udiv : (List Int) → Int → ((List Int) → Int → Option A) → Option A) (g_fmt : Int → Int → (ByteArray → Option A) → Option A) (g_reverse : (List ByteArray) → ((List ByteArray) → Option A) → Option A) (n : Nat) (t41 : Int) (t40 : (List ByteArray)) (k : Ex → St → Option A) (f : Nat) (out : ByteArray) (t42 : Int) : Option A := loopK (codeK (utext_E g_udiv g_fmt g_reverse n) 3 utext_c2) utext_d2 utext_y2 f (utext_sh2.fill (utext_t2 t41 t40 out t42)) k
theorem utext_st2 (g_udiv : (List Int) → Int → ((List Int) → Int → Option A) → Option A) (g_fmt : Int → Int → (ByteArray → Option A) → Option A) (g_reverse : (List ByteArray) → ((List ByteArray) → Option A) → Option A) (n f : Nat) (t41 : Int) (t40 : (List ByteArray)) (k : Ex → St → Option A) (out : ByteArray) (t42 : Int) : utext_LK2 g_udiv g_fmt g_reverse n t41 t40 k (f + 1) out t42 = utext_b2 g_udiv g_fmt g_reverse n t41 t40 (fun z0 => k (.exit 4) (utext_x2_0 t41 t40 z0)) (utext_LK2 g_udiv g_fmt g_reverse n t41 t40 k f) out t42 := by kernel_rfl
theorem utext_le2 (g_udiv : (List Int) → Int → ((List Int) → Int → Option A) → Option A) (g_fmt : Int → Int → (ByteArray → Option A) → Option A) (g_reverse : (List ByteArray) → ((List ByteArray) → Option A) → Option A) (n : Nat) (t41 : Int) (t40 : (List ByteArray)) (k : Ex → St → Option A) : ∀ (f : Nat) (out : ByteArray) (t42 : Int), utext_LK2 g_udiv g_fmt g_reverse n t41 t40 k f out t42 = utext_l2 g_udiv g_fmt g_reverse n t41 t40 (fun z0 => k (.exit 4) (utext_x2_0 t41 t40 z0)) f out t42 := by
  intro f
  induction f with
  | zero => intros; kernel_rfl
  | succ f ih => intro out t42; exact (utext_st2 g_udiv g_fmt g_reverse n f t41 t40 k out t42).trans ((congrArg (fun r => utext_b2 g_udiv g_fmt g_reverse n t41 t40 (fun z0 => k (.exit 4) (utext_x2_0 t41 t40 z0)) r out t42) (funext fun out => funext fun t42 => ih out t42)).trans (by kernel_rfl))
theorem utext_lo2 (n : Nat) : LoopOK Tryd.prog gls utext_c2 (loopE utext_d2 utext_sh2 (utext_g2 (A := A) (udiv_k n) (fmt_k n) (reverse_k n) n)) :=
  LoopOK.of (utext_T (udiv_k n) (fmt_k n) (reverse_k n) n) (utext_fns n) follows (j := 3) (n := n) (xdead := utext_y2) (lo_of (by kernel_rfl : loopsOf 3 utext_c2 = []) lo_nil) fun d k => Eq.trans (by kernel_rfl) (utext_le2 (udiv_k n) (fmt_k n) (reverse_k n) n d.1.2.2.2.2.2.2.2.2.2.2.2.2.2.2.2.2.2.2.2.2.2.2.2.2.2.2.2.2.2.2.2.2.2.2.2.2.2.2.2.2.2.1 d.2.1 k n d.1.2.2.2.2.2.2.2.1 d.1.2.2.2.2.2.2.2.2.2.2.2.2.2.2.2.2.2.2.2.2.2.2.2.2.2.2.2.2.2.2.2.2.2.2.2.2.2.2.2.2.2.2.1)
noncomputable def utext_LK1 (g_udiv : (List Int) → Int → ((List Int) → Int → Option A) → Option A) (g_fmt : Int → Int → (ByteArray → Option A) → Option A) (g_reverse : (List ByteArray) → ((List ByteArray) → Option A) → Option A) (n : Nat) (a : (List Int)) (parts : (List ByteArray)) (rest_ : (List Int)) (k : Ex → St → Option A) (f : Nat) (s : ByteArray) : Option A := loopK (codeK (utext_E g_udiv g_fmt g_reverse n) 2 utext_c1) utext_d1 utext_y1 f (utext_sh1.fill (utext_t1 a parts rest_ s)) k
theorem utext_st1 (g_udiv : (List Int) → Int → ((List Int) → Int → Option A) → Option A) (g_fmt : Int → Int → (ByteArray → Option A) → Option A) (g_reverse : (List ByteArray) → ((List ByteArray) → Option A) → Option A) (n f : Nat) (a : (List Int)) (parts : (List ByteArray)) (rest_ : (List Int)) (k : Ex → St → Option A) (s : ByteArray) : utext_LK1 g_udiv g_fmt g_reverse n a parts rest_ k (f + 1) s = utext_b1 g_udiv g_fmt g_reverse n a parts rest_ (fun z0 => k (.exit 2) (utext_x1_0 a parts rest_ z0)) (utext_LK1 g_udiv g_fmt g_reverse n a parts rest_ k f) s := by kernel_rfl
theorem utext_le1 (g_udiv : (List Int) → Int → ((List Int) → Int → Option A) → Option A) (g_fmt : Int → Int → (ByteArray → Option A) → Option A) (g_reverse : (List ByteArray) → ((List ByteArray) → Option A) → Option A) (n : Nat) (a : (List Int)) (parts : (List ByteArray)) (rest_ : (List Int)) (k : Ex → St → Option A) : ∀ (f : Nat) (s : ByteArray), utext_LK1 g_udiv g_fmt g_reverse n a parts rest_ k f s = utext_l1 g_udiv g_fmt g_reverse n a parts rest_ (fun z0 => k (.exit 2) (utext_x1_0 a parts rest_ z0)) f s := by
  intro f
  induction f with
  | zero => intros; kernel_rfl
  | succ f ih => intro s; exact (utext_st1 g_udiv g_fmt g_reverse n f a parts rest_ k s).trans ((congrArg (fun r => utext_b1 g_udiv g_fmt g_reverse n a parts rest_ (fun z0 => k (.exit 2) (utext_x1_0 a parts rest_ z0)) r s) (funext fun s => ih s)).trans (by kernel_rfl))
theorem utext_lo1 (n : Nat) : LoopOK Tryd.prog gls utext_c1 (loopE utext_d1 utext_sh1 (utext_g1 (A := A) (udiv_k n) (fmt_k n) (reverse_k n) n)) :=
  LoopOK.of (utext_T (udiv_k n) (fmt_k n) (reverse_k n) n) (utext_fns n) follows (j := 2) (n := n) (xdead := utext_y1) (lo_of (by kernel_rfl : loopsOf 2 utext_c1 = []) lo_nil) fun d k => Eq.trans (by kernel_rfl) (utext_le1 (udiv_k n) (fmt_k n) (reverse_k n) n d.2.1 d.2.2.1 d.2.2.2.1 k n d.1.2.2.2.2.2.2.1)
noncomputable def utext_LK0 (g_udiv : (List Int) → Int → ((List Int) → Int → Option A) → Option A) (g_fmt : Int → Int → (ByteArray → Option A) → Option A) (g_reverse : (List ByteArray) → ((List ByteArray) → Option A) → Option A) (n : Nat) (k : Ex → St → Option A) (f : Nat) (a : (List Int)) (parts : (List ByteArray)) : Option A := loopK (codeK (utext_E g_udiv g_fmt g_reverse n) 1 utext_c0) utext_d0 utext_y0 f (utext_sh0.fill (utext_t0 a parts)) k
theorem utext_st0 (g_udiv : (List Int) → Int → ((List Int) → Int → Option A) → Option A) (g_fmt : Int → Int → (ByteArray → Option A) → Option A) (g_reverse : (List ByteArray) → ((List ByteArray) → Option A) → Option A) (n f : Nat) (k : Ex → St → Option A) (a : (List Int)) (parts : (List ByteArray)) : utext_LK0 g_udiv g_fmt g_reverse n k (f + 1) a parts = utext_b0 g_udiv g_fmt g_reverse n (fun z0 => k (.exit 0) (utext_x0_0 z0)) (utext_LK0 g_udiv g_fmt g_reverse n k f) a parts := by kernel_rfl
theorem utext_le0 (g_udiv : (List Int) → Int → ((List Int) → Int → Option A) → Option A) (g_fmt : Int → Int → (ByteArray → Option A) → Option A) (g_reverse : (List ByteArray) → ((List ByteArray) → Option A) → Option A) (n : Nat) (k : Ex → St → Option A) : ∀ (f : Nat) (a : (List Int)) (parts : (List ByteArray)), utext_LK0 g_udiv g_fmt g_reverse n k f a parts = utext_l0 g_udiv g_fmt g_reverse n (fun z0 => k (.exit 0) (utext_x0_0 z0)) f a parts := by
  intro f
  induction f with
  | zero => intros; kernel_rfl
  | succ f ih => intro a parts; exact (utext_st0 g_udiv g_fmt g_reverse n f k a parts).trans ((congrArg (fun r => utext_b0 g_udiv g_fmt g_reverse n (fun z0 => k (.exit 0) (utext_x0_0 z0)) r a parts) (funext fun a => funext fun parts => ih a parts)).trans (by kernel_rfl))
theorem utext_lo0 (n : Nat) : LoopOK Tryd.prog gls utext_c0 (loopE utext_d0 utext_sh0 (utext_g0 (A := A) (udiv_k n) (fmt_k n) (reverse_k n) n)) :=
  LoopOK.of (utext_T (udiv_k n) (fmt_k n) (reverse_k n) n) (utext_fns n) follows (j := 1) (n := n) (xdead := utext_y0) (lo_of (by kernel_rfl : loopsOf 1 utext_c0 = [(1, utext_c1)]) (lo_cons rfl (utext_lo1 n) lo_nil)) fun d k => Eq.trans (by kernel_rfl) (utext_le0 (udiv_k n) (fmt_k n) (reverse_k n) n k n d.2.1 d.2.2.1)
theorem utext_eqg (g_udiv : (List Int) → Int → ((List Int) → Int → Option A) → Option A) (g_fmt : Int → Int → (ByteArray → Option A) → Option A) (g_reverse : (List ByteArray) → ((List ByteArray) → Option A) → Option A) (n : Nat) (a0 : (List Int)) (k : AV → List Blk → Option A) : fnK (utext_E g_udiv g_fmt g_reverse n) Tryd.f17 [.pure] [.p kA4u64 a0] [] k = utext_p g_udiv g_fmt g_reverse n a0 (fun r0 => k (.p .str r0) []) := by kernel_rfl
theorem utext_eq (n : Nat) (a0 : (List Int)) (k : AV → List Blk → Option A) : fnK (utext_E (udiv_k n) (fmt_k n) (reverse_k n) n) Tryd.f17 [.pure] [.p kA4u64 a0] [] k = utext_k n a0 (fun r0 => k (.p .str r0) []) := utext_eqg (udiv_k n) (fmt_k n) (reverse_k n) n a0 k
def utext_ent (g : (List Int) → (ByteArray → Option A) → Option A) : Entry A := pureE fun args k => args1 args kA4u64 fun a0 => g a0 (fun r0 => k (.p .str r0) [])
theorem utext_lo (n : Nat) : ∀ c, Tryd.f17.body = some c → ∀ q ∈ loopsOf 0 c, ∀ L, (utext_E (A := A) (udiv_k n) (fmt_k n) (reverse_k n) n).lps.lookup q.1 = some L → LoopOK Tryd.prog gls q.2 L :=
  lo_body (E := utext_E (udiv_k n) (fmt_k n) (reverse_k n) n) (by kernel_rfl : Tryd.f17.body = some (bodyOf Tryd.f17)) (lo_of (E := utext_E (udiv_k n) (fmt_k n) (reverse_k n) n) (by kernel_rfl : loopsOf 0 (bodyOf Tryd.f17) = [(0, utext_c0), (1, utext_c1), (2, utext_c2)]) (lo_cons rfl (utext_lo0 n) (lo_cons rfl (utext_lo1 n) (lo_cons rfl (utext_lo2 n) lo_nil))))
theorem utext_ok (n : Nat) : FnOK Tryd.prog gls 17 (utext_ent (A := A) (utext_k n)) :=
  FnOK.of (utext_T (udiv_k n) (fmt_k n) (reverse_k n) n) (utext_fns n) follows ⟨Tryd.func17, by kernel_rfl⟩ (utext_lo n) (rm := [.pure]) fun args k out h => by
    obtain ⟨a0, e, h1⟩ := args1_sound h
    subst e; rw [utext_eq]; exact h1

end Go.Ev
end

section
/-
  FUNCTION 13: printed by a program of our own (wip/gen/st.py). 'masthead/mastheadlaw04.awake', in continuation form; the evaluator gives it.
-/
set_option linter.all false
set_option maxRecDepth 100000
namespace Go.Ev
open Go.Proofs
variable {A : Type}

-- ============================================================ awake (function 13)
def awake_p (g_uof : Int → ((List Int) → Option A) → Option A) (g_ushl : (List Int) → Int → ((List Int) → Option A) → Option A) (g_ulen : (List Int) → (Int → Option A) → Option A) (g_umax : ((List Int) → Option A) → Option A) (g_utext : (List Int) → (ByteArray → Option A) → Option A) (n : Nat) (k : Bool → Option A) : Option A :=
  g_uof 1 fun r1 =>
  g_ushl r1 255 fun r2 =>
  g_ulen r2 fun r3 =>
  bif (r3 == 256) then
    g_umax fun r4 =>
    g_utext r4 fun r5 =>
    k ((r5.size : Int) == 78)
  else
    k false

def awake_k (n : Nat) (k : Bool → Option A) : Option A := awake_p (uof_k n) (ushl_k n) (ulen_k n) (umax_k n) (utext_k n) n k

noncomputable def awake_E (g_uof : Int → ((List Int) → Option A) → Option A) (g_ushl : (List Int) → Int → ((List Int) → Option A) → Option A) (g_ulen : (List Int) → (Int → Option A) → Option A) (g_umax : ((List Int) → Option A) → Option A) (g_utext : (List Int) → (ByteArray → Option A) → Option A) (n : Nat) : Env A := ⟨tys, gls, [(39, uof_ent g_uof), (21, ushl_ent g_ushl), (37, ulen_ent g_ulen), (40, umax_ent g_umax), (17, utext_ent g_utext)], [], []⟩
theorem awake_T (g_uof : Int → ((List Int) → Option A) → Option A) (g_ushl : (List Int) → Int → ((List Int) → Option A) → Option A) (g_ulen : (List Int) → (Int → Option A) → Option A) (g_umax : ((List Int) → Option A) → Option A) (g_utext : (List Int) → (ByteArray → Option A) → Option A) (n : Nat) : TyOK Tryd.prog (awake_E g_uof g_ushl g_ulen g_umax g_utext n) := tyOK_of rfl tysB
theorem awake_fns (n : Nat) : FnsOK Tryd.prog (awake_E (A := A) (uof_k n) (ushl_k n) (ulen_k n) (umax_k n) (utext_k n) n) := AllOK.env rfl rfl (AllOK.cons (uof_ok n) (AllOK.cons (ushl_ok n) (AllOK.cons (ulen_ok n) (AllOK.cons (umax_ok n) (AllOK.cons (utext_ok n) AllOK.nil)))))
theorem awake_eqg (g_uof : Int → ((List Int) → Option A) → Option A) (g_ushl : (List Int) → Int → ((List Int) → Option A) → Option A) (g_ulen : (List Int) → (Int → Option A) → Option A) (g_umax : ((List Int) → Option A) → Option A) (g_utext : (List Int) → (ByteArray → Option A) → Option A) (n : Nat) (k : AV → List Blk → Option A) : fnK (awake_E g_uof g_ushl g_ulen g_umax g_utext n) Tryd.f13 [.pure] [] [] k = awake_p g_uof g_ushl g_ulen g_umax g_utext n (fun r0 => k (.p .bool r0) []) := by kernel_rfl
theorem awake_eq (n : Nat) (k : AV → List Blk → Option A) : fnK (awake_E (uof_k n) (ushl_k n) (ulen_k n) (umax_k n) (utext_k n) n) Tryd.f13 [.pure] [] [] k = awake_k n (fun r0 => k (.p .bool r0) []) := awake_eqg (uof_k n) (ushl_k n) (ulen_k n) (umax_k n) (utext_k n) n k
def awake_ent (g : (Bool → Option A) → Option A) : Entry A := pureE fun args k => args0 args (g (fun r0 => k (.p .bool r0) []))
theorem awake_lo (n : Nat) : ∀ c, Tryd.f13.body = some c → ∀ q ∈ loopsOf 0 c, ∀ L, (awake_E (A := A) (uof_k n) (ushl_k n) (ulen_k n) (umax_k n) (utext_k n) n).lps.lookup q.1 = some L → LoopOK Tryd.prog gls q.2 L :=
  lo_body (E := awake_E (uof_k n) (ushl_k n) (ulen_k n) (umax_k n) (utext_k n) n) (by kernel_rfl : Tryd.f13.body = some (bodyOf Tryd.f13)) (lo_of (E := awake_E (uof_k n) (ushl_k n) (ulen_k n) (umax_k n) (utext_k n) n) (by kernel_rfl : loopsOf 0 (bodyOf Tryd.f13) = []) lo_nil)
theorem awake_ok (n : Nat) : FnOK Tryd.prog gls 13 (awake_ent (A := A) (awake_k n)) :=
  FnOK.of (awake_T (uof_k n) (ushl_k n) (ulen_k n) (umax_k n) (utext_k n) n) (awake_fns n) follows ⟨Tryd.func13, by kernel_rfl⟩ (awake_lo n) (rm := [.pure]) fun args k out h => by
    obtain ⟨e, h1⟩ := args0_sound h
    subst e; rw [awake_eq]; exact h1

end Go.Ev
end

section
/-
  THE PROGRAM IS AWAKE (wide numbers), and what lies in an argument.
-/
set_option linter.all false
namespace Go.Ev
variable {A : Type}

theorem awake_1000 (k : Bool → Option A) : awake_k 1000 k = k true := by kernel_rfl

theorem wf_int64 {x : Int} (h : WF (.int .u64) x) : ∃ n : Nat, x = (n : Int) ∧ n < 18446744073709551616 := by
  have h1 : IntKind.u64.min ≤ x ∧ x ≤ IntKind.u64.max := h
  rw [show IntKind.u64.min = 0 by decide, show IntKind.u64.max = 18446744073709551615 by decide] at h1
  exact ⟨x.toNat, by omega, by omega⟩
theorem wf_four {v : List Int} (h : WF kA4u64 v) : ∃ x : Nat, v = ints (uw x) ∧ x < 2 ^ 256 := by
  obtain ⟨hl, hu⟩ := h
  match v, hl with
  | [x, y, z, w], _ =>
    obtain ⟨a, rfl, ha⟩ := wf_int64 (hu x (by simp))
    obtain ⟨b, rfl, hb⟩ := wf_int64 (hu y (by simp))
    obtain ⟨c, rfl, hc⟩ := wf_int64 (hu z (by simp))
    obtain ⟨d, rfl, hd⟩ := wf_int64 (hu w (by simp))
    refine ⟨a + 18446744073709551616 * (b + 18446744073709551616 * (c + 18446744073709551616 * d)), ?_, by rw [show (2 : Nat) ^ 256 = 115792089237316195423570985008687907853269984665640564039457584007913129639936 from by decide]; omega⟩
    have e : uw (a + 18446744073709551616 * (b + 18446744073709551616 * (c + 18446744073709551616 * d))) = [a, b, c, d] := by
      unfold uw
      rw [show (a + 18446744073709551616 * (b + 18446744073709551616 * (c + 18446744073709551616 * d))) % 18446744073709551616 = a from by omega,
        show (a + 18446744073709551616 * (b + 18446744073709551616 * (c + 18446744073709551616 * d))) / 18446744073709551616 % 18446744073709551616 = b from by omega,
        show (a + 18446744073709551616 * (b + 18446744073709551616 * (c + 18446744073709551616 * d))) / 340282366920938463463374607431768211456 % 18446744073709551616 = c from by omega,
        show (a + 18446744073709551616 * (b + 18446744073709551616 * (c + 18446744073709551616 * d))) / 6277101735386680763835789423207666416102355444464034512896 % 18446744073709551616 = d from by omega]
    rw [e]; rfl

end Go.Ev
end

section
/-
  FUNCTION 6: printed by a program of our own (wip/gen/st.py). 'masthead/mastheadlaw04.WideQuos', in continuation form; the evaluator gives it.
-/
set_option linter.all false
set_option maxRecDepth 100000
namespace Go.Ev
open Go.Proofs
variable {A : Type}

-- ============================================================ quos (function 6)
def quos_p (g_uquo : (List Int) → (List Int) → ((List Int) → (List Int) → Option A) → Option A) (g_awake : (Bool → Option A) → Option A) (g_big : (List Int) → ((List Int) → Option A) → Option A) (g_is_ : (List Int) → (List Int) → (List Int) → (List Int) → (Bool → Option A) → Option A) (n : Nat) (a0 : (List Int)) (a1 : (List Int)) (k : Bool → Option A) : Option A :=
  g_uquo a0 a1 fun r1 r2 =>
  bif (deq kA4u64 a1 [0, 0, 0, 0]) then
    bif (deq kA4u64 r1 [0, 0, 0, 0]) then
      bif (deq kA4u64 r2 a0) then
        g_awake fun r3 =>
        k r3
      else
        k false
    else
      k false
  else
    g_big r1 fun r4 =>
    g_big r2 fun r5 =>
    g_big a0 fun r6 =>
    g_big a1 fun r7 =>
    g_is_ r4 r5 r6 r7 fun r8 =>
    bif r8 then
      g_awake fun r9 =>
      k r9
    else
      k false

def quos_k (n : Nat) (a0 : (List Int)) (a1 : (List Int)) (k : Bool → Option A) : Option A := quos_p (uquo_k n) (awake_k n) (big_k n) (is__k n) n a0 a1 k

noncomputable def quos_E (g_uquo : (List Int) → (List Int) → ((List Int) → (List Int) → Option A) → Option A) (g_awake : (Bool → Option A) → Option A) (g_big : (List Int) → ((List Int) → Option A) → Option A) (g_is_ : (List Int) → (List Int) → (List Int) → (List Int) → (Bool → Option A) → Option A) (n : Nat) : Env A := ⟨tys, gls, [(27, uquo_ent g_uquo), (13, awake_ent g_awake), (15, big_ent g_big), (14, is__ent g_is_)], [], []⟩
theorem quos_T (g_uquo : (List Int) → (List Int) → ((List Int) → (List Int) → Option A) → Option A) (g_awake : (Bool → Option A) → Option A) (g_big : (List Int) → ((List Int) → Option A) → Option A) (g_is_ : (List Int) → (List Int) → (List Int) → (List Int) → (Bool → Option A) → Option A) (n : Nat) : TyOK Tryd.prog (quos_E g_uquo g_awake g_big g_is_ n) := tyOK_of rfl tysB
theorem quos_fns (n : Nat) : FnsOK Tryd.prog (quos_E (A := A) (uquo_k n) (awake_k n) (big_k n) (is__k n) n) := AllOK.env rfl rfl (AllOK.cons (uquo_ok n) (AllOK.cons (awake_ok n) (AllOK.cons (big_ok n) (AllOK.cons (is__ok n) AllOK.nil))))
theorem quos_eqg (g_uquo : (List Int) → (List Int) → ((List Int) → (List Int) → Option A) → Option A) (g_awake : (Bool → Option A) → Option A) (g_big : (List Int) → ((List Int) → Option A) → Option A) (g_is_ : (List Int) → (List Int) → (List Int) → (List Int) → (Bool → Option A) → Option A) (n : Nat) (a0 : (List Int)) (a1 : (List Int)) (k : AV → List Blk → Option A) : fnK (quos_E g_uquo g_awake g_big g_is_ n) Tryd.f6 [.pure] [.p kA4u64 a0, .p kA4u64 a1] [] k = quos_p g_uquo g_awake g_big g_is_ n a0 a1 (fun r0 => k (.p .bool r0) []) := by kernel_rfl
theorem quos_eq (n : Nat) (a0 : (List Int)) (a1 : (List Int)) (k : AV → List Blk → Option A) : fnK (quos_E (uquo_k n) (awake_k n) (big_k n) (is__k n) n) Tryd.f6 [.pure] [.p kA4u64 a0, .p kA4u64 a1] [] k = quos_k n a0 a1 (fun r0 => k (.p .bool r0) []) := quos_eqg (uquo_k n) (awake_k n) (big_k n) (is__k n) n a0 a1 k
def quos_ent (g : (List Int) → (List Int) → (Bool → Option A) → Option A) : Entry A := pureE fun args k => args2 args kA4u64 kA4u64 fun a0 a1 => g a0 a1 (fun r0 => k (.p .bool r0) [])
theorem quos_lo (n : Nat) : ∀ c, Tryd.f6.body = some c → ∀ q ∈ loopsOf 0 c, ∀ L, (quos_E (A := A) (uquo_k n) (awake_k n) (big_k n) (is__k n) n).lps.lookup q.1 = some L → LoopOK Tryd.prog gls q.2 L :=
  lo_body (E := quos_E (uquo_k n) (awake_k n) (big_k n) (is__k n) n) (by kernel_rfl : Tryd.f6.body = some (bodyOf Tryd.f6)) (lo_of (E := quos_E (uquo_k n) (awake_k n) (big_k n) (is__k n) n) (by kernel_rfl : loopsOf 0 (bodyOf Tryd.f6) = []) lo_nil)
theorem quos_ok (n : Nat) : FnOK Tryd.prog gls 6 (quos_ent (A := A) (quos_k n)) :=
  FnOK.of (quos_T (uquo_k n) (awake_k n) (big_k n) (is__k n) n) (quos_fns n) follows ⟨Tryd.func6, by kernel_rfl⟩ (quos_lo n) (rm := [.pure]) fun args k out h => by
    obtain ⟨a0, a1, e, h1⟩ := args2_sound h
    subst e; rw [quos_eq]; exact h1

end Go.Ev
end

