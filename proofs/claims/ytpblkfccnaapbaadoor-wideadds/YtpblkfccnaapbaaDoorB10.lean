import Derived.Test.YtpblkfccnaapbaaDoorB5
import Derived.Test.YtpblkfccnaapbaaDoorB6
import Derived.Test.YtpblkfccnaapbaaDoorB9
import Derived.Test.YtpblkfccnaapbaaDoorB7
set_option linter.all false
section
/-
  FUNCTION 35: printed by a program of our own (wip/gen/st.py). 'masthead/mastheadref04.High', in continuation form; the evaluator gives it.
-/
set_option linter.all false
set_option maxRecDepth 100000
namespace Go.Ev
open Go.Proofs
variable {A : Type}

-- ============================================================ high (function 35)
def high_p (g_trim : (List Int) → ((List Int) → Option A) → Option A) (n : Nat) (a0 : (List Int)) (k : (List Int) → Option A) : Option A :=
  bif (decide ((a0.length : Int) ≤ 16)) then
    k []
  else
    if 16 ≤ (a0.length : Int) then
      if (0 + ((a0.drop 16).take (a0.length - 16)).length) * 8 ≤ 140737488355328 then
        g_trim ([] ++ ((a0.drop 16).take (a0.length - 16))) fun r1 =>
        k r1
      else none
    else none

def high_k (n : Nat) (a0 : (List Int)) (k : (List Int) → Option A) : Option A := high_p (trim_k n) n a0 k

noncomputable def high_E (g_trim : (List Int) → ((List Int) → Option A) → Option A) (n : Nat) : Env A := ⟨tys, gls, [(41, trim_ent g_trim)], [], []⟩
theorem high_T (g_trim : (List Int) → ((List Int) → Option A) → Option A) (n : Nat) : TyOK Tryd.prog (high_E g_trim n) := tyOK_of rfl tysB
theorem high_fns (n : Nat) : FnsOK Tryd.prog (high_E (A := A) (trim_k n) n) := AllOK.env rfl rfl (AllOK.cons (trim_ok n) AllOK.nil)
theorem high_eqg (g_trim : (List Int) → ((List Int) → Option A) → Option A) (n : Nat) (a0 : (List Int)) (k : AV → List Blk → Option A) : fnK (high_E g_trim n) Tryd.f35 [.pure] [.p (.sl (.int .i64)) a0] [] k = high_p g_trim n a0 (fun r0 => k (.p (.sl (.int .i64)) r0) []) := by kernel_rfl
theorem high_eq (n : Nat) (a0 : (List Int)) (k : AV → List Blk → Option A) : fnK (high_E (trim_k n) n) Tryd.f35 [.pure] [.p (.sl (.int .i64)) a0] [] k = high_k n a0 (fun r0 => k (.p (.sl (.int .i64)) r0) []) := high_eqg (trim_k n) n a0 k
def high_ent (g : (List Int) → ((List Int) → Option A) → Option A) : Entry A := pureE fun args k => args1 args (.sl (.int .i64)) fun a0 => g a0 (fun r0 => k (.p (.sl (.int .i64)) r0) [])
theorem high_lo (n : Nat) : ∀ c, Tryd.f35.body = some c → ∀ q ∈ loopsOf 0 c, ∀ L, (high_E (A := A) (trim_k n) n).lps.lookup q.1 = some L → LoopOK Tryd.prog gls q.2 L :=
  lo_body (E := high_E (trim_k n) n) (by kernel_rfl : Tryd.f35.body = some (bodyOf Tryd.f35)) (lo_of (E := high_E (trim_k n) n) (by kernel_rfl : loopsOf 0 (bodyOf Tryd.f35) = []) lo_nil)
theorem high_ok (n : Nat) : FnOK Tryd.prog gls 35 (high_ent (A := A) (high_k n)) :=
  FnOK.of (high_T (trim_k n) n) (high_fns n) follows ⟨Tryd.func35, by kernel_rfl⟩ (high_lo n) (rm := [.pure]) fun args k out h => by
    obtain ⟨a0, e, h1⟩ := args1_sound h
    subst e; rw [high_eq]; exact h1

end Go.Ev
end

section
/-
  FUNCTION 14: printed by a program of our own (wip/gen/st.py). 'masthead/mastheadref04.Is', in continuation form; the evaluator gives it.
-/
set_option linter.all false
set_option maxRecDepth 100000
namespace Go.Ev
open Go.Proofs
variable {A : Type}

-- ============================================================ is_ (function 14)
def is__p (g_mul : (List Int) → (List Int) → ((List Int) → Option A) → Option A) (g_add : (List Int) → (List Int) → ((List Int) → Option A) → Option A) (g_less : (List Int) → (List Int) → (Bool → Option A) → Option A) (n : Nat) (a0 : (List Int)) (a1 : (List Int)) (a2 : (List Int)) (a3 : (List Int)) (k : Bool → Option A) : Option A :=
  g_mul a0 a3 fun r1 =>
  g_add r1 a1 fun r2 =>
  g_less a1 a3 fun r3 =>
  bif r3 then
    g_less r2 a2 fun r4 =>
    bif (!r4) then
      g_less a2 r2 fun r5 =>
      k (!r5)
    else
      k false
  else
    k false

def is__k (n : Nat) (a0 : (List Int)) (a1 : (List Int)) (a2 : (List Int)) (a3 : (List Int)) (k : Bool → Option A) : Option A := is__p (mul_k n) (add_k n) (less_k n) n a0 a1 a2 a3 k

noncomputable def is__E (g_mul : (List Int) → (List Int) → ((List Int) → Option A) → Option A) (g_add : (List Int) → (List Int) → ((List Int) → Option A) → Option A) (g_less : (List Int) → (List Int) → (Bool → Option A) → Option A) (n : Nat) : Env A := ⟨tys, gls, [(23, mul_ent g_mul), (26, add_ent g_add), (25, less_ent g_less)], [], []⟩
theorem is__T (g_mul : (List Int) → (List Int) → ((List Int) → Option A) → Option A) (g_add : (List Int) → (List Int) → ((List Int) → Option A) → Option A) (g_less : (List Int) → (List Int) → (Bool → Option A) → Option A) (n : Nat) : TyOK Tryd.prog (is__E g_mul g_add g_less n) := tyOK_of rfl tysB
theorem is__fns (n : Nat) : FnsOK Tryd.prog (is__E (A := A) (mul_k n) (add_k n) (less_k n) n) := AllOK.env rfl rfl (AllOK.cons (mul_ok n) (AllOK.cons (add_ok n) (AllOK.cons (less_ok n) AllOK.nil)))
theorem is__eqg (g_mul : (List Int) → (List Int) → ((List Int) → Option A) → Option A) (g_add : (List Int) → (List Int) → ((List Int) → Option A) → Option A) (g_less : (List Int) → (List Int) → (Bool → Option A) → Option A) (n : Nat) (a0 : (List Int)) (a1 : (List Int)) (a2 : (List Int)) (a3 : (List Int)) (k : AV → List Blk → Option A) : fnK (is__E g_mul g_add g_less n) Tryd.f14 [.pure] [.p (.sl (.int .i64)) a0, .p (.sl (.int .i64)) a1, .p (.sl (.int .i64)) a2, .p (.sl (.int .i64)) a3] [] k = is__p g_mul g_add g_less n a0 a1 a2 a3 (fun r0 => k (.p .bool r0) []) := by kernel_rfl
theorem is__eq (n : Nat) (a0 : (List Int)) (a1 : (List Int)) (a2 : (List Int)) (a3 : (List Int)) (k : AV → List Blk → Option A) : fnK (is__E (mul_k n) (add_k n) (less_k n) n) Tryd.f14 [.pure] [.p (.sl (.int .i64)) a0, .p (.sl (.int .i64)) a1, .p (.sl (.int .i64)) a2, .p (.sl (.int .i64)) a3] [] k = is__k n a0 a1 a2 a3 (fun r0 => k (.p .bool r0) []) := is__eqg (mul_k n) (add_k n) (less_k n) n a0 a1 a2 a3 k
def is__ent (g : (List Int) → (List Int) → (List Int) → (List Int) → (Bool → Option A) → Option A) : Entry A := pureE fun args k => args4 args (.sl (.int .i64)) (.sl (.int .i64)) (.sl (.int .i64)) (.sl (.int .i64)) fun a0 a1 a2 a3 => g a0 a1 a2 a3 (fun r0 => k (.p .bool r0) [])
theorem is__lo (n : Nat) : ∀ c, Tryd.f14.body = some c → ∀ q ∈ loopsOf 0 c, ∀ L, (is__E (A := A) (mul_k n) (add_k n) (less_k n) n).lps.lookup q.1 = some L → LoopOK Tryd.prog gls q.2 L :=
  lo_body (E := is__E (mul_k n) (add_k n) (less_k n) n) (by kernel_rfl : Tryd.f14.body = some (bodyOf Tryd.f14)) (lo_of (E := is__E (mul_k n) (add_k n) (less_k n) n) (by kernel_rfl : loopsOf 0 (bodyOf Tryd.f14) = []) lo_nil)
theorem is__ok (n : Nat) : FnOK Tryd.prog gls 14 (is__ent (A := A) (is__k n)) :=
  FnOK.of (is__T (mul_k n) (add_k n) (less_k n) n) (is__fns n) follows ⟨Tryd.func14, by kernel_rfl⟩ (is__lo n) (rm := [.pure]) fun args k out h => by
    obtain ⟨a0, a1, a2, a3, e, h1⟩ := args4_sound h
    subst e; rw [is__eq]; exact h1

end Go.Ev
end

section
/-
  FUNCTION 20: printed by a program of our own (wip/gen/st.py). 'masthead/mastheadlaw04.is', in continuation form; the evaluator gives it.
-/
set_option linter.all false
set_option maxRecDepth 100000
namespace Go.Ev
open Go.Proofs
variable {A : Type}

-- ============================================================ uis (function 20)
def uis_p (g_words : (List Int) → ((List Int) → Option A) → Option A) (n : Nat) (a0 : (List Int)) (a1 : (List Int)) (k : Bool → Option A) : Option A :=
  g_words a1 fun r1 =>
  bif (deq kA4u64 a0 r1) then
    k (decide ((a1.length : Int) ≤ 16))
  else
    k false

def uis_k (n : Nat) (a0 : (List Int)) (a1 : (List Int)) (k : Bool → Option A) : Option A := uis_p (words_k n) n a0 a1 k

noncomputable def uis_E (g_words : (List Int) → ((List Int) → Option A) → Option A) (n : Nat) : Env A := ⟨tys, gls, [(34, words_ent g_words)], [], []⟩
theorem uis_T (g_words : (List Int) → ((List Int) → Option A) → Option A) (n : Nat) : TyOK Tryd.prog (uis_E g_words n) := tyOK_of rfl tysB
theorem uis_fns (n : Nat) : FnsOK Tryd.prog (uis_E (A := A) (words_k n) n) := AllOK.env rfl rfl (AllOK.cons (words_ok n) AllOK.nil)
theorem uis_eqg (g_words : (List Int) → ((List Int) → Option A) → Option A) (n : Nat) (a0 : (List Int)) (a1 : (List Int)) (k : AV → List Blk → Option A) : fnK (uis_E g_words n) Tryd.f20 [.pure] [.p kA4u64 a0, .p (.sl (.int .i64)) a1] [] k = uis_p g_words n a0 a1 (fun r0 => k (.p .bool r0) []) := by kernel_rfl
theorem uis_eq (n : Nat) (a0 : (List Int)) (a1 : (List Int)) (k : AV → List Blk → Option A) : fnK (uis_E (words_k n) n) Tryd.f20 [.pure] [.p kA4u64 a0, .p (.sl (.int .i64)) a1] [] k = uis_k n a0 a1 (fun r0 => k (.p .bool r0) []) := uis_eqg (words_k n) n a0 a1 k
def uis_ent (g : (List Int) → (List Int) → (Bool → Option A) → Option A) : Entry A := pureE fun args k => args2 args kA4u64 (.sl (.int .i64)) fun a0 a1 => g a0 a1 (fun r0 => k (.p .bool r0) [])
theorem uis_lo (n : Nat) : ∀ c, Tryd.f20.body = some c → ∀ q ∈ loopsOf 0 c, ∀ L, (uis_E (A := A) (words_k n) n).lps.lookup q.1 = some L → LoopOK Tryd.prog gls q.2 L :=
  lo_body (E := uis_E (words_k n) n) (by kernel_rfl : Tryd.f20.body = some (bodyOf Tryd.f20)) (lo_of (E := uis_E (words_k n) n) (by kernel_rfl : loopsOf 0 (bodyOf Tryd.f20) = []) lo_nil)
theorem uis_ok (n : Nat) : FnOK Tryd.prog gls 20 (uis_ent (A := A) (uis_k n)) :=
  FnOK.of (uis_T (words_k n) n) (uis_fns n) follows ⟨Tryd.func20, by kernel_rfl⟩ (uis_lo n) (rm := [.pure]) fun args k out h => by
    obtain ⟨a0, a1, e, h1⟩ := args2_sound h
    subst e; rw [uis_eq]; exact h1

end Go.Ev
end

section
/-
  FUNCTION 30: printed by a program of our own (wip/gen/st.py). 'masthead/mastheadlaw04.mastheadless', in continuation form; the evaluator gives it.
-/
set_option linter.all false
set_option maxRecDepth 100000
namespace Go.Ev
open Go.Proofs
variable {A : Type}

-- ============================================================ mless (function 30)
def mless_p (g_big : (List Int) → ((List Int) → Option A) → Option A) (g_add : (List Int) → (List Int) → ((List Int) → Option A) → Option A) (g_low : (List Int) → ((List Int) → Option A) → Option A) (g_words : (List Int) → ((List Int) → Option A) → Option A) (n : Nat) (a0 : (List Int)) (a1 : (List Int)) (k : (List Int) → Option A) : Option A :=
  g_big a0 fun r1 =>
  g_big a1 fun r2 =>
  g_add r1 r2 fun r3 =>
  g_low r3 fun r4 =>
  g_words r4 fun r5 =>
  k r5

def mless_k (n : Nat) (a0 : (List Int)) (a1 : (List Int)) (k : (List Int) → Option A) : Option A := mless_p (big_k n) (add_k n) (low_k n) (words_k n) n a0 a1 k

noncomputable def mless_E (g_big : (List Int) → ((List Int) → Option A) → Option A) (g_add : (List Int) → (List Int) → ((List Int) → Option A) → Option A) (g_low : (List Int) → ((List Int) → Option A) → Option A) (g_words : (List Int) → ((List Int) → Option A) → Option A) (n : Nat) : Env A := ⟨tys, gls, [(15, big_ent g_big), (26, add_ent g_add), (22, low_ent g_low), (34, words_ent g_words)], [], []⟩
theorem mless_T (g_big : (List Int) → ((List Int) → Option A) → Option A) (g_add : (List Int) → (List Int) → ((List Int) → Option A) → Option A) (g_low : (List Int) → ((List Int) → Option A) → Option A) (g_words : (List Int) → ((List Int) → Option A) → Option A) (n : Nat) : TyOK Tryd.prog (mless_E g_big g_add g_low g_words n) := tyOK_of rfl tysB
theorem mless_fns (n : Nat) : FnsOK Tryd.prog (mless_E (A := A) (big_k n) (add_k n) (low_k n) (words_k n) n) := AllOK.env rfl rfl (AllOK.cons (big_ok n) (AllOK.cons (add_ok n) (AllOK.cons (low_ok n) (AllOK.cons (words_ok n) AllOK.nil))))
theorem mless_eqg (g_big : (List Int) → ((List Int) → Option A) → Option A) (g_add : (List Int) → (List Int) → ((List Int) → Option A) → Option A) (g_low : (List Int) → ((List Int) → Option A) → Option A) (g_words : (List Int) → ((List Int) → Option A) → Option A) (n : Nat) (a0 : (List Int)) (a1 : (List Int)) (k : AV → List Blk → Option A) : fnK (mless_E g_big g_add g_low g_words n) Tryd.f30 [.pure] [.p kA4u64 a0, .p kA4u64 a1] [] k = mless_p g_big g_add g_low g_words n a0 a1 (fun r0 => k (.p kA4u64 r0) []) := by kernel_rfl
theorem mless_eq (n : Nat) (a0 : (List Int)) (a1 : (List Int)) (k : AV → List Blk → Option A) : fnK (mless_E (big_k n) (add_k n) (low_k n) (words_k n) n) Tryd.f30 [.pure] [.p kA4u64 a0, .p kA4u64 a1] [] k = mless_k n a0 a1 (fun r0 => k (.p kA4u64 r0) []) := mless_eqg (big_k n) (add_k n) (low_k n) (words_k n) n a0 a1 k
def mless_ent (g : (List Int) → (List Int) → ((List Int) → Option A) → Option A) : Entry A := pureE fun args k => args2 args kA4u64 kA4u64 fun a0 a1 => g a0 a1 (fun r0 => k (.p kA4u64 r0) [])
theorem mless_lo (n : Nat) : ∀ c, Tryd.f30.body = some c → ∀ q ∈ loopsOf 0 c, ∀ L, (mless_E (A := A) (big_k n) (add_k n) (low_k n) (words_k n) n).lps.lookup q.1 = some L → LoopOK Tryd.prog gls q.2 L :=
  lo_body (E := mless_E (big_k n) (add_k n) (low_k n) (words_k n) n) (by kernel_rfl : Tryd.f30.body = some (bodyOf Tryd.f30)) (lo_of (E := mless_E (big_k n) (add_k n) (low_k n) (words_k n) n) (by kernel_rfl : loopsOf 0 (bodyOf Tryd.f30) = []) lo_nil)
theorem mless_ok (n : Nat) : FnOK Tryd.prog gls 30 (mless_ent (A := A) (mless_k n)) :=
  FnOK.of (mless_T (big_k n) (add_k n) (low_k n) (words_k n) n) (mless_fns n) follows ⟨Tryd.func30, by kernel_rfl⟩ (mless_lo n) (rm := [.pure]) fun args k out h => by
    obtain ⟨a0, a1, e, h1⟩ := args2_sound h
    subst e; rw [mless_eq]; exact h1

end Go.Ev
end

section
/-
  FUNCTION 12: printed by a program of our own (wip/gen/st.py). '(masthead/wide.U).Div', in continuation form; the evaluator gives it.
-/
set_option linter.all false
set_option maxRecDepth 100000
namespace Go.Ev
open Go.Proofs
variable {A : Type}

-- ============================================================ udiv (function 12)
def udiv_b0 (g_div64 : Int → Int → Int → (Int → Int → Option A) → Option A) (n : Nat) (n_ : Int) (t4 : (List Int)) (k0 : Int → (List Int) → Option A) (r : Int → Int → (List Int) → Option A) (left : Int) (i : Int) (a : (List Int)) : Option A :=
  bif (decide (i ≥ 0)) then
    if 0 ≤ i then
      if i < 4 then
        (a[(Int.toNat i)]?).bind fun y1 =>
        g_div64 left y1 n_ fun r2 r3 =>
        if 0 ≤ i then
          if i < 4 then
            if (Int.toNat i) < 4 then
              r r3 (IntKind.wrap .i64 (i - 1)) (a.set (Int.toNat i) r2)
            else none
          else none
        else none
      else none
    else none
  else
    k0 left a

def udiv_l0 (g_div64 : Int → Int → Int → (Int → Int → Option A) → Option A) (n : Nat) (n_ : Int) (t4 : (List Int)) (k0 : Int → (List Int) → Option A) : Nat → Int → Int → (List Int) → Option A
  | 0 => fun _ _ _ => none
  | f + 1 => udiv_b0 g_div64 n n_ t4 k0 (udiv_l0 g_div64 n n_ t4 k0 f)

def udiv_p (g_div64 : Int → Int → Int → (Int → Int → Option A) → Option A) (n : Nat) (a0 : (List Int)) (a1 : Int) (k : (List Int) → Int → Option A) : Option A :=
  bif (a1 == 0) then
    k [0, 0, 0, 0] 0
  else
    udiv_l0 g_div64 n a1 [0, 0, 0, 0] (fun y4 y5 =>
      k y5 y4) n 0 3 a0

def udiv_k (n : Nat) (a0 : (List Int)) (a1 : Int) (k : (List Int) → Int → Option A) : Option A := udiv_p (div64_k n) n a0 a1 k

noncomputable def udiv_c0 : Code := codeAt [1, 1, 1, 0, 1, 0, 0] (bodyOf Tryd.f12)
def udiv_d0 : List Nat := [0, 5, 8, 9, 11, 12, 13, 14, 15, 16, 17, 18, 19, 20, 21, 22, 23, 24, 25]
def udiv_y0 : List Nat := [0, 1, 3, 5, 7, 8, 9, 10, 11, 12, 13, 14, 15, 16, 17, 18, 19, 20, 21, 22, 23, 24, 25, 26, 27]
def udiv_sh0 : Shape := ⟨[.any, (.p (.int .u64)), (.ptr 0), .any, (.ptr 1), .any, (.p (.int .u64)), (.p (.int .i64)), .any, .any, .any, .any, .any, .any, .any, .any, .any, .any, .any, .any, .any, .any, .any, .any, .any, .any, .any, .any], [(.var 24 kA4u64 (.p kA4u64)), (.var 24 kA4u64 (.p kA4u64))], 0⟩
def udiv_t0 (n_ : Int) (t4 : (List Int)) (left : Int) (i : Int) (a : (List Int)) : udiv_sh0.den := (((), n_, (), (), (), (), left, i, (), (), (), (), (), (), (), (), (), (), (), (), (), (), (), (), (), (), (), (), ()), (a, t4, ()))
def udiv_x0_0 (n_ : Int) (t4 : (List Int)) (z0 : Int) (z1 : (List Int)) : St := ⟨[.any, .any, .ptr 0 [], .any, .ptr 1 [], .any, .p (.int .u64) z0, .any, .any, .any, .any, .any, .any, .any, .any, .any, .any, .any, .any, .any, .any, .any, .any, .any, .any, .any, .any, .any], [.var 24 kA4u64 (.p kA4u64 z1), .var 24 kA4u64 (.p kA4u64 t4)], 0⟩
def udiv_g0 (g_div64 : Int → Int → Int → (Int → Int → Option A) → Option A) (n : Nat) (d : udiv_sh0.den) (k : Ex → St → Option A) : Option A :=
  udiv_l0 g_div64 n d.1.2.1 d.2.2.1 (fun z0 z1 => k (.exit 0) (udiv_x0_0 d.1.2.1 d.2.2.1 z0 z1)) n d.1.2.2.2.2.2.2.1 d.1.2.2.2.2.2.2.2.1 d.2.1
noncomputable def udiv_E (g_div64 : Int → Int → Int → (Int → Int → Option A) → Option A) (n : Nat) : Env A := ⟨tys, gls, [(38, div64_ent g_div64)], [(0, loopE udiv_d0 udiv_sh0 (udiv_g0 g_div64 n))], []⟩
theorem udiv_T (g_div64 : Int → Int → Int → (Int → Int → Option A) → Option A) (n : Nat) : TyOK Tryd.prog (udiv_E g_div64 n) := tyOK_of rfl tysB
theorem udiv_fns (n : Nat) : FnsOK Tryd.prog (udiv_E (A := A) (div64_k n) n) := AllOK.env rfl rfl (AllOK.cons (div64_ok n) AllOK.nil)
noncomputable def udiv_LK0 (g_div64 : Int → Int → Int → (Int → Int → Option A) → Option A) (n : Nat) (n_ : Int) (t4 : (List Int)) (k : Ex → St → Option A) (f : Nat) (left : Int) (i : Int) (a : (List Int)) : Option A := loopK (codeK (udiv_E g_div64 n) 1 udiv_c0) udiv_d0 udiv_y0 f (udiv_sh0.fill (udiv_t0 n_ t4 left i a)) k
theorem udiv_st0 (g_div64 : Int → Int → Int → (Int → Int → Option A) → Option A) (n f : Nat) (n_ : Int) (t4 : (List Int)) (k : Ex → St → Option A) (left : Int) (i : Int) (a : (List Int)) : udiv_LK0 g_div64 n n_ t4 k (f + 1) left i a = udiv_b0 g_div64 n n_ t4 (fun z0 z1 => k (.exit 0) (udiv_x0_0 n_ t4 z0 z1)) (udiv_LK0 g_div64 n n_ t4 k f) left i a := by kernel_rfl
theorem udiv_le0 (g_div64 : Int → Int → Int → (Int → Int → Option A) → Option A) (n : Nat) (n_ : Int) (t4 : (List Int)) (k : Ex → St → Option A) : ∀ (f : Nat) (left : Int) (i : Int) (a : (List Int)), udiv_LK0 g_div64 n n_ t4 k f left i a = udiv_l0 g_div64 n n_ t4 (fun z0 z1 => k (.exit 0) (udiv_x0_0 n_ t4 z0 z1)) f left i a := by
  intro f
  induction f with
  | zero => intros; kernel_rfl
  | succ f ih => intro left i a; exact (udiv_st0 g_div64 n f n_ t4 k left i a).trans ((congrArg (fun r => udiv_b0 g_div64 n n_ t4 (fun z0 z1 => k (.exit 0) (udiv_x0_0 n_ t4 z0 z1)) r left i a) (funext fun left => funext fun i => funext fun a => ih left i a)).trans (by kernel_rfl))
theorem udiv_lo0 (n : Nat) : LoopOK Tryd.prog gls udiv_c0 (loopE udiv_d0 udiv_sh0 (udiv_g0 (A := A) (div64_k n) n)) :=
  LoopOK.of (udiv_T (div64_k n) n) (udiv_fns n) follows (j := 1) (n := n) (xdead := udiv_y0) (lo_of (by kernel_rfl : loopsOf 1 udiv_c0 = []) lo_nil) fun d k => Eq.trans (by kernel_rfl) (udiv_le0 (div64_k n) n d.1.2.1 d.2.2.1 k n d.1.2.2.2.2.2.2.1 d.1.2.2.2.2.2.2.2.1 d.2.1)
theorem udiv_eqg (g_div64 : Int → Int → Int → (Int → Int → Option A) → Option A) (n : Nat) (a0 : (List Int)) (a1 : Int) (k : AV → List Blk → Option A) : fnK (udiv_E g_div64 n) Tryd.f12 [.pure, .pure] [.p kA4u64 a0, .p (.int .u64) a1] [] k = udiv_p g_div64 n a0 a1 (fun r0 r1 => k (.tup [.p kA4u64 r0, .p (.int .u64) r1]) []) := by kernel_rfl
theorem udiv_eq (n : Nat) (a0 : (List Int)) (a1 : Int) (k : AV → List Blk → Option A) : fnK (udiv_E (div64_k n) n) Tryd.f12 [.pure, .pure] [.p kA4u64 a0, .p (.int .u64) a1] [] k = udiv_k n a0 a1 (fun r0 r1 => k (.tup [.p kA4u64 r0, .p (.int .u64) r1]) []) := udiv_eqg (div64_k n) n a0 a1 k
def udiv_ent (g : (List Int) → Int → ((List Int) → Int → Option A) → Option A) : Entry A := pureE fun args k => args2 args kA4u64 (.int .u64) fun a0 a1 => g a0 a1 (fun r0 r1 => k (.tup [.p kA4u64 r0, .p (.int .u64) r1]) [])
theorem udiv_lo (n : Nat) : ∀ c, Tryd.f12.body = some c → ∀ q ∈ loopsOf 0 c, ∀ L, (udiv_E (A := A) (div64_k n) n).lps.lookup q.1 = some L → LoopOK Tryd.prog gls q.2 L :=
  lo_body (E := udiv_E (div64_k n) n) (by kernel_rfl : Tryd.f12.body = some (bodyOf Tryd.f12)) (lo_of (E := udiv_E (div64_k n) n) (by kernel_rfl : loopsOf 0 (bodyOf Tryd.f12) = [(0, udiv_c0)]) (lo_cons rfl (udiv_lo0 n) lo_nil))
theorem udiv_ok (n : Nat) : FnOK Tryd.prog gls 12 (udiv_ent (A := A) (udiv_k n)) :=
  FnOK.of (udiv_T (div64_k n) n) (udiv_fns n) follows ⟨Tryd.func12, by kernel_rfl⟩ (udiv_lo n) (rm := [.pure, .pure]) fun args k out h => by
    obtain ⟨a0, a1, e, h1⟩ := args2_sound h
    subst e; rw [udiv_eq]; exact h1

end Go.Ev
end

section
/-
  WIDE: plain laws of what the reference and the program compute.
-/
set_option linter.all false
namespace Go.Ev
variable {A : Type}

theorem p256 : (65536 : Nat) ^ 16 = 2 ^ 256 := by decide

theorem take16 (x : Nat) (h : 16 ≤ (dig x).length) : bval ((dig x).take 16) = x % 2 ^ 256 ∧ bval ((dig x).drop 16) = x / 2 ^ 256 := by
  have h1 := bval_split (dig x) 16 h
  have h2 := bval_lt ((dig x).take 16) ((dig_Dig x).take 16)
  rw [List.length_take, Nat.min_eq_left h, p256] at h2
  rw [bval_dig, p256] at h1
  generalize bval ((dig x).take 16) = a at *
  generalize bval ((dig x).drop 16) = b at *
  constructor
  · rw [h1, Nat.add_mul_mod_self_left, Nat.mod_eq_of_lt h2]
  · rw [h1, Nat.add_mul_div_left _ _ (Nat.two_pow_pos 256), Nat.div_eq_of_lt h2, Nat.zero_add]

theorem small_of_len {x : Nat} (h : (dig x).length ≤ 16) : x < 2 ^ 256 := Nat.lt_of_lt_of_le (dig_bound x) (Nat.pow_le_pow_right (by decide) (by omega))
theorem len16 (x : Nat) : ((dig x).length > 16) ↔ 2 ^ 256 ≤ x := by
  constructor
  · intro h
    rcases Nat.lt_or_ge x (2 ^ 256) with h2 | h2
    · have := dig_len256 x h2; omega
    · exact h2
  · intro h
    rcases Nat.lt_or_ge 16 (dig x).length with h2 | h2
    · exact h2
    · have := small_of_len h2; omega

theorem low_law (n x : Nat) (hl : (dig x).length < 1000) (hn : 1000 ≤ n) (g : List Int → Option A) : low_k n (ints (dig x)) g = g (ints (dig (x % 2 ^ 256))) := by
  unfold low_k low_p
  rw [ints_length]
  by_cases h : (dig x).length > 16
  · have hlen : ((dig x).take 16).length = 16 := by rw [List.length_take]; omega
    rw [decide_eq_true (by omega), cond_true, if_pos (by omega), List.drop_zero, ints_take, ints_length, if_pos (by omega), List.nil_append, trim_law n _ ((dig_Dig x).take 16) (by omega) (by omega), (take16 x (by omega)).1]
  · rw [decide_eq_false (by omega), cond_false, if_pos (by omega), List.nil_append, trim_law n _ (dig_Dig x) (by omega) (by omega), bval_dig, Nat.mod_eq_of_lt (small_of_len (by omega))]
theorem high_law (n x : Nat) (hl : (dig x).length < 1000) (hn : 1000 ≤ n) (g : List Int → Option A) : high_k n (ints (dig x)) g = g (ints (dig (x / 2 ^ 256))) := by
  unfold high_k high_p
  rw [ints_length]
  by_cases h : (dig x).length > 16
  · have hlen : ((dig x).drop 16).length = (dig x).length - 16 := List.length_drop
    rw [decide_eq_false (by omega), cond_false, if_pos (by omega), ints_drop, List.take_of_length_le (by rw [ints_length]; omega), ints_length, if_pos (by omega), List.nil_append, trim_law n _ ((dig_Dig x).drop 16) (by omega) (by omega), (take16 x (by omega)).2]
  · rw [decide_eq_true (by omega), cond_true, Nat.div_eq_of_lt (small_of_len (by omega)), dig_zero]; rfl

theorem is_law (n q r N d : Nat) (hn : 1000 ≤ n) (hq : (dig q).length ≤ 100) (hr : (dig r).length ≤ 100) (hd : (dig d).length ≤ 100) (hqd : (dig (q * d)).length ≤ 100) (hN : (dig N).length ≤ 100) (h1 : r < d) (h2 : q * d + r = N) (g : Bool → Option A) :
    is__k n (ints (dig q)) (ints (dig r)) (ints (dig N)) (ints (dig d)) g = g true := by
  unfold is__k is__p
  rw [mul_law n q d (by omega) (by omega), add_law n _ r (by omega) (by omega), h2, less_law n r d (by omega) (by omega), decide_eq_true h1, cond_true, less_law n N N (by omega) (by omega), decide_eq_false (Nat.lt_irrefl N), Bool.not_false, cond_true, less_law n N N (by omega) (by omega), decide_eq_false (Nat.lt_irrefl N), Bool.not_false]

theorem uis_true (n x : Nat) (hx : x < 2 ^ 256) (hn : 1000 ≤ n) (g : Bool → Option A) : uis_k n (ints (uw x)) (ints (dig x)) g = g true := by
  unfold uis_k uis_p
  have := dig_len256 x hx
  rw [words_law n x (by omega) (by omega), deq_self, cond_true, ints_length, decide_eq_true (by omega)]

theorem dig_len_add (x y a m : Nat) (ha : a + 1 < 16 * m) (hx : x ≤ 2 ^ a) (hy : y ≤ 2 ^ a) : (dig (x + y)).length ≤ m :=
  dig_len_gen (x + y) (a + 1) m ha (by rw [Nat.pow_succ]; omega)
theorem len_sum {x y : Nat} (hx : x < 2 ^ 256) (hy : y < 2 ^ 256) : (dig (x + y)).length ≤ 17 := dig_len_add x y 256 17 (by decide) (by omega) (by omega)

theorem mless_law (n x y : Nat) (hx : x < 2 ^ 256) (hy : y < 2 ^ 256) (hn : 1000 ≤ n) (g : List Int → Option A) : mless_k n (ints (uw x)) (ints (uw y)) g = g (ints (uw ((x + y) % 2 ^ 256))) := by
  unfold mless_k mless_p
  have l1 := dig_len256 x hx
  have l2 := dig_len256 y hy
  have l3 := len_sum hx hy
  have l4 := dig_len256 ((x + y) % 2 ^ 256) (Nat.mod_lt _ (Nat.two_pow_pos _))
  rw [big_law n (by omega) x hx, big_law n (by omega) y hy, add_law n x y (by omega) (by omega), low_law n _ (by omega) hn, words_law n _ (by omega) (by omega)]

end Go.Ev
end

section
/-
  FUNCTION 52: printed by a program of our own (wip/gen/st.py). 'internal/strconv.small', in continuation form; the evaluator gives it.
-/
set_option linter.all false
set_option maxRecDepth 100000
namespace Go.Ev
open Go.Proofs
variable {A : Type}

-- ============================================================ small (function 52)
def small_p (n : Nat) (a0 : Int) (k : ByteArray → Option A) : Option A :=
  bif (decide (a0 < 10)) then
    if 0 ≤ (IntKind.wrap .i64 (a0 + 1)) then
      if (IntKind.wrap .i64 (a0 + 1)) ≤ (str2.size : Int) then
        if 0 ≤ a0 then
          if a0 ≤ ((Int.toNat (IntKind.wrap .i64 (a0 + 1))) : Int) then
            k (str2.extract (Int.toNat a0) (Int.toNat (IntKind.wrap .i64 (a0 + 1))))
          else none
        else none
      else none
    else none
  else
    if 0 ≤ (IntKind.wrap .i64 ((IntKind.wrap .i64 (a0 * 2)) + 2)) then
      if (IntKind.wrap .i64 ((IntKind.wrap .i64 (a0 * 2)) + 2)) ≤ (str3.size : Int) then
        if 0 ≤ (IntKind.wrap .i64 (a0 * 2)) then
          if (IntKind.wrap .i64 (a0 * 2)) ≤ ((Int.toNat (IntKind.wrap .i64 ((IntKind.wrap .i64 (a0 * 2)) + 2))) : Int) then
            k (str3.extract (Int.toNat (IntKind.wrap .i64 (a0 * 2))) (Int.toNat (IntKind.wrap .i64 ((IntKind.wrap .i64 (a0 * 2)) + 2))))
          else none
        else none
      else none
    else none

def small_k (n : Nat) (a0 : Int) (k : ByteArray → Option A) : Option A := small_p n a0 k

noncomputable def small_E (n : Nat) : Env A := ⟨tys, gls, [], [], []⟩
theorem small_T {A : Type} (n : Nat) : TyOK Tryd.prog (small_E (A := A) n) := tyOK_of rfl tysB
theorem small_fns (n : Nat) : FnsOK Tryd.prog (small_E (A := A) n) := AllOK.env rfl rfl AllOK.nil
theorem small_eqg (n : Nat) (a0 : Int) (k : AV → List Blk → Option A) : fnK (small_E n) Tryd.f52 [.pure] [.p (.int .i64) a0] [] k = small_p n a0 (fun r0 => k (.p .str r0) []) := by kernel_rfl
theorem small_eq (n : Nat) (a0 : Int) (k : AV → List Blk → Option A) : fnK (small_E n) Tryd.f52 [.pure] [.p (.int .i64) a0] [] k = small_k n a0 (fun r0 => k (.p .str r0) []) := small_eqg n a0 k
def small_ent (g : Int → (ByteArray → Option A) → Option A) : Entry A := pureE fun args k => args1 args (.int .i64) fun a0 => g a0 (fun r0 => k (.p .str r0) [])
theorem small_lo (n : Nat) : ∀ c, Tryd.f52.body = some c → ∀ q ∈ loopsOf 0 c, ∀ L, (small_E (A := A) n).lps.lookup q.1 = some L → LoopOK Tryd.prog gls q.2 L :=
  lo_body (E := small_E n) (by kernel_rfl : Tryd.f52.body = some (bodyOf Tryd.f52)) (lo_of (E := small_E n) (by kernel_rfl : loopsOf 0 (bodyOf Tryd.f52) = []) lo_nil)
theorem small_ok (n : Nat) : FnOK Tryd.prog gls 52 (small_ent (A := A) (small_k n)) :=
  FnOK.of (small_T n) (small_fns n) follows ⟨Tryd.func52, by kernel_rfl⟩ (small_lo n) (rm := [.pure]) fun args k out h => by
    obtain ⟨a0, e, h1⟩ := args1_sound h
    subst e; rw [small_eq]; exact h1

end Go.Ev
end

section
/-
  FUNCTION 56: printed by a program of our own (wip/gen/st.py). 'internal/strconv.log10Pow2', in continuation form; the evaluator gives it.
-/
set_option linter.all false
set_option maxRecDepth 100000
namespace Go.Ev
open Go.Proofs
variable {A : Type}

-- ============================================================ log10p (function 56)
def log10p_p (n : Nat) (a0 : Int) (k : Int → Option A) : Option A :=
  k (shr .i64 (IntKind.wrap .i64 (a0 * 78913)) 18)

def log10p_k (n : Nat) (a0 : Int) (k : Int → Option A) : Option A := log10p_p n a0 k

noncomputable def log10p_E (n : Nat) : Env A := ⟨tys, gls, [], [], []⟩
theorem log10p_T {A : Type} (n : Nat) : TyOK Tryd.prog (log10p_E (A := A) n) := tyOK_of rfl tysB
theorem log10p_fns (n : Nat) : FnsOK Tryd.prog (log10p_E (A := A) n) := AllOK.env rfl rfl AllOK.nil
theorem log10p_eqg (n : Nat) (a0 : Int) (k : AV → List Blk → Option A) : fnK (log10p_E n) Tryd.f56 [.pure] [.p (.int .i64) a0] [] k = log10p_p n a0 (fun r0 => k (.p (.int .i64) r0) []) := by kernel_rfl
theorem log10p_eq (n : Nat) (a0 : Int) (k : AV → List Blk → Option A) : fnK (log10p_E n) Tryd.f56 [.pure] [.p (.int .i64) a0] [] k = log10p_k n a0 (fun r0 => k (.p (.int .i64) r0) []) := log10p_eqg n a0 k
def log10p_ent (g : Int → (Int → Option A) → Option A) : Entry A := pureE fun args k => args1 args (.int .i64) fun a0 => g a0 (fun r0 => k (.p (.int .i64) r0) [])
theorem log10p_lo (n : Nat) : ∀ c, Tryd.f56.body = some c → ∀ q ∈ loopsOf 0 c, ∀ L, (log10p_E (A := A) n).lps.lookup q.1 = some L → LoopOK Tryd.prog gls q.2 L :=
  lo_body (E := log10p_E n) (by kernel_rfl : Tryd.f56.body = some (bodyOf Tryd.f56)) (lo_of (E := log10p_E n) (by kernel_rfl : loopsOf 0 (bodyOf Tryd.f56) = []) lo_nil)
theorem log10p_ok (n : Nat) : FnOK Tryd.prog gls 56 (log10p_ent (A := A) (log10p_k n)) :=
  FnOK.of (log10p_T n) (log10p_fns n) follows ⟨Tryd.func56, by kernel_rfl⟩ (log10p_lo n) (rm := [.pure]) fun args k out h => by
    obtain ⟨a0, e, h1⟩ := args1_sound h
    subst e; rw [log10p_eq]; exact h1

end Go.Ev
end

section
/-
  FUNCTION 57: printed by a program of our own (wip/gen/st.py). 'internal/strconv.bool2[int]', in continuation form; the evaluator gives it.
-/
set_option linter.all false
set_option maxRecDepth 100000
namespace Go.Ev
open Go.Proofs
variable {A : Type}

-- ============================================================ bool2 (function 57)
def bool2_p (n : Nat) (a0 : Bool) (k : Int → Option A) : Option A :=
  bif a0 then
    k 1
  else
    k 0

def bool2_k (n : Nat) (a0 : Bool) (k : Int → Option A) : Option A := bool2_p n a0 k

noncomputable def bool2_E (n : Nat) : Env A := ⟨tys, gls, [], [], []⟩
theorem bool2_T {A : Type} (n : Nat) : TyOK Tryd.prog (bool2_E (A := A) n) := tyOK_of rfl tysB
theorem bool2_fns (n : Nat) : FnsOK Tryd.prog (bool2_E (A := A) n) := AllOK.env rfl rfl AllOK.nil
theorem bool2_eqg (n : Nat) (a0 : Bool) (k : AV → List Blk → Option A) : fnK (bool2_E n) Tryd.f57 [.pure] [.p .bool a0] [] k = bool2_p n a0 (fun r0 => k (.p (.int .i64) r0) []) := by kernel_rfl
theorem bool2_eq (n : Nat) (a0 : Bool) (k : AV → List Blk → Option A) : fnK (bool2_E n) Tryd.f57 [.pure] [.p .bool a0] [] k = bool2_k n a0 (fun r0 => k (.p (.int .i64) r0) []) := bool2_eqg n a0 k
def bool2_ent (g : Bool → (Int → Option A) → Option A) : Entry A := pureE fun args k => args1 args .bool fun a0 => g a0 (fun r0 => k (.p (.int .i64) r0) [])
theorem bool2_lo (n : Nat) : ∀ c, Tryd.f57.body = some c → ∀ q ∈ loopsOf 0 c, ∀ L, (bool2_E (A := A) n).lps.lookup q.1 = some L → LoopOK Tryd.prog gls q.2 L :=
  lo_body (E := bool2_E n) (by kernel_rfl : Tryd.f57.body = some (bodyOf Tryd.f57)) (lo_of (E := bool2_E n) (by kernel_rfl : loopsOf 0 (bodyOf Tryd.f57) = []) lo_nil)
theorem bool2_ok (n : Nat) : FnOK Tryd.prog gls 57 (bool2_ent (A := A) (bool2_k n)) :=
  FnOK.of (bool2_T n) (bool2_fns n) follows ⟨Tryd.func57, by kernel_rfl⟩ (bool2_lo n) (rm := [.pure]) fun args k out h => by
    obtain ⟨a0, e, h1⟩ := args1_sound h
    subst e; rw [bool2_eq]; exact h1

end Go.Ev
end

section
/-
  FUNCTION 53: printed by a program of our own (wip/gen/st.py). 'internal/strconv.numDigits', in continuation form; the evaluator gives it.
-/
set_option linter.all false
set_option maxRecDepth 100000
namespace Go.Ev
open Go.Proofs
variable {A : Type}

-- ============================================================ numdig (function 53)
def numdig_p (g_len64 : Int → (Int → Option A) → Option A) (g_log10p : Int → (Int → Option A) → Option A) (g_bool2 : Bool → (Int → Option A) → Option A) (n : Nat) (a0 : Int) (k : Int → Option A) : Option A :=
  g_len64 a0 fun r1 =>
  g_log10p r1 fun r2 =>
  if 0 ≤ r2 then
    if r2 < 20 then
      (gl2[(Int.toNat r2)]?).bind fun y3 =>
      g_bool2 (decide (a0 ≥ y3)) fun r4 =>
      k (IntKind.wrap .i64 (r2 + r4))
    else none
  else none

def numdig_k (n : Nat) (a0 : Int) (k : Int → Option A) : Option A := numdig_p (len64_k n) (log10p_k n) (bool2_k n) n a0 k

noncomputable def numdig_E (g_len64 : Int → (Int → Option A) → Option A) (g_log10p : Int → (Int → Option A) → Option A) (g_bool2 : Bool → (Int → Option A) → Option A) (n : Nat) : Env A := ⟨tys, gls, [(49, len64_ent g_len64), (56, log10p_ent g_log10p), (57, bool2_ent g_bool2)], [], []⟩
theorem numdig_T (g_len64 : Int → (Int → Option A) → Option A) (g_log10p : Int → (Int → Option A) → Option A) (g_bool2 : Bool → (Int → Option A) → Option A) (n : Nat) : TyOK Tryd.prog (numdig_E g_len64 g_log10p g_bool2 n) := tyOK_of rfl tysB
theorem numdig_fns (n : Nat) : FnsOK Tryd.prog (numdig_E (A := A) (len64_k n) (log10p_k n) (bool2_k n) n) := AllOK.env rfl rfl (AllOK.cons (len64_ok n) (AllOK.cons (log10p_ok n) (AllOK.cons (bool2_ok n) AllOK.nil)))
theorem numdig_eqg (g_len64 : Int → (Int → Option A) → Option A) (g_log10p : Int → (Int → Option A) → Option A) (g_bool2 : Bool → (Int → Option A) → Option A) (n : Nat) (a0 : Int) (k : AV → List Blk → Option A) : fnK (numdig_E g_len64 g_log10p g_bool2 n) Tryd.f53 [.pure] [.p (.int .u64) a0] [] k = numdig_p g_len64 g_log10p g_bool2 n a0 (fun r0 => k (.p (.int .i64) r0) []) := by kernel_rfl
theorem numdig_eq (n : Nat) (a0 : Int) (k : AV → List Blk → Option A) : fnK (numdig_E (len64_k n) (log10p_k n) (bool2_k n) n) Tryd.f53 [.pure] [.p (.int .u64) a0] [] k = numdig_k n a0 (fun r0 => k (.p (.int .i64) r0) []) := numdig_eqg (len64_k n) (log10p_k n) (bool2_k n) n a0 k
def numdig_ent (g : Int → (Int → Option A) → Option A) : Entry A := pureE fun args k => args1 args (.int .u64) fun a0 => g a0 (fun r0 => k (.p (.int .i64) r0) [])
theorem numdig_lo (n : Nat) : ∀ c, Tryd.f53.body = some c → ∀ q ∈ loopsOf 0 c, ∀ L, (numdig_E (A := A) (len64_k n) (log10p_k n) (bool2_k n) n).lps.lookup q.1 = some L → LoopOK Tryd.prog gls q.2 L :=
  lo_body (E := numdig_E (len64_k n) (log10p_k n) (bool2_k n) n) (by kernel_rfl : Tryd.f53.body = some (bodyOf Tryd.f53)) (lo_of (E := numdig_E (len64_k n) (log10p_k n) (bool2_k n) n) (by kernel_rfl : loopsOf 0 (bodyOf Tryd.f53) = []) lo_nil)
theorem numdig_ok (n : Nat) : FnOK Tryd.prog gls 53 (numdig_ent (A := A) (numdig_k n)) :=
  FnOK.of (numdig_T (len64_k n) (log10p_k n) (bool2_k n) n) (numdig_fns n) follows ⟨Tryd.func53, by kernel_rfl⟩ (numdig_lo n) (rm := [.pure]) fun args k out h => by
    obtain ⟨a0, e, h1⟩ := args1_sound h
    subst e; rw [numdig_eq]; exact h1

end Go.Ev
end

