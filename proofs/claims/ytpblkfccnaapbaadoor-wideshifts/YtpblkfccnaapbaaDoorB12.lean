import Derived.Test.YtpblkfccnaapbaaDoorB7
import Derived.Test.YtpblkfccnaapbaaDoorB6
import Derived.Test.YtpblkfccnaapbaaDoorB11
import Derived.Test.YtpblkfccnaapbaaDoorB8
import Derived.Test.YtpblkfccnaapbaaDoorB10
import Derived.Test.YtpblkfccnaapbaaDoorB9
import Derived.Test.YtpblkfccnaapbaaDoorB5
set_option linter.all false
section
/-
  FUNCTION 13: printed by a program of our own (wip/gen/st.py). 'masthead/mastheadlaw04.awake', in continuation form; the evaluator gives it.
-/
set_option linter.all false
set_option maxRecDepth 100000
namespace Go.Ev
open Go.Proofs
variable {A : Type}

-- ============================================================ awake (function 13)
def awake_p (g_uof : Int → ((List Int) → Option A) → Option A) (g_ushl : (List Int) → Int → ((List Int) → Option A) → Option A) (g_ulen : (List Int) → (Int → Option A) → Option A) (g_umax : ((List Int) → Option A) → Option A) (g_utext : (List Int) → (ByteArray → Option A) → Option A) (n : Nat) (k : Bool → Option A) : Option A :=
  g_uof 1 fun r1 =>
  g_ushl r1 255 fun r2 =>
  g_ulen r2 fun r3 =>
  bif (r3 == 256) then
    g_umax fun r4 =>
    g_utext r4 fun r5 =>
    k ((r5.size : Int) == 78)
  else
    k false

def awake_k (n : Nat) (k : Bool → Option A) : Option A := awake_p (uof_k n) (ushl_k n) (ulen_k n) (umax_k n) (utext_k n) n k

noncomputable def awake_E (g_uof : Int → ((List Int) → Option A) → Option A) (g_ushl : (List Int) → Int → ((List Int) → Option A) → Option A) (g_ulen : (List Int) → (Int → Option A) → Option A) (g_umax : ((List Int) → Option A) → Option A) (g_utext : (List Int) → (ByteArray → Option A) → Option A) (n : Nat) : Env A := ⟨tys, gls, [(39, uof_ent g_uof), (21, ushl_ent g_ushl), (37, ulen_ent g_ulen), (40, umax_ent g_umax), (17, utext_ent g_utext)], [], []⟩
theorem awake_T (g_uof : Int → ((List Int) → Option A) → Option A) (g_ushl : (List Int) → Int → ((List Int) → Option A) → Option A) (g_ulen : (List Int) → (Int → Option A) → Option A) (g_umax : ((List Int) → Option A) → Option A) (g_utext : (List Int) → (ByteArray → Option A) → Option A) (n : Nat) : TyOK Tryd.prog (awake_E g_uof g_ushl g_ulen g_umax g_utext n) := tyOK_of rfl tysB
theorem awake_fns (n : Nat) : FnsOK Tryd.prog (awake_E (A := A) (uof_k n) (ushl_k n) (ulen_k n) (umax_k n) (utext_k n) n) := AllOK.env rfl rfl (AllOK.cons (uof_ok n) (AllOK.cons (ushl_ok n) (AllOK.cons (ulen_ok n) (AllOK.cons (umax_ok n) (AllOK.cons (utext_ok n) AllOK.nil)))))
theorem awake_eqg (g_uof : Int → ((List Int) → Option A) → Option A) (g_ushl : (List Int) → Int → ((List Int) → Option A) → Option A) (g_ulen : (List Int) → (Int → Option A) → Option A) (g_umax : ((List Int) → Option A) → Option A) (g_utext : (List Int) → (ByteArray → Option A) → Option A) (n : Nat) (k : AV → List Blk → Option A) : fnK (awake_E g_uof g_ushl g_ulen g_umax g_utext n) Tryd.f13 [.pure] [] [] k = awake_p g_uof g_ushl g_ulen g_umax g_utext n (fun r0 => k (.p .bool r0) []) := by kernel_rfl
theorem awake_eq (n : Nat) (k : AV → List Blk → Option A) : fnK (awake_E (uof_k n) (ushl_k n) (ulen_k n) (umax_k n) (utext_k n) n) Tryd.f13 [.pure] [] [] k = awake_k n (fun r0 => k (.p .bool r0) []) := awake_eqg (uof_k n) (ushl_k n) (ulen_k n) (umax_k n) (utext_k n) n k
def awake_ent (g : (Bool → Option A) → Option A) : Entry A := pureE fun args k => args0 args (g (fun r0 => k (.p .bool r0) []))
theorem awake_lo (n : Nat) : ∀ c, Tryd.f13.body = some c → ∀ q ∈ loopsOf 0 c, ∀ L, (awake_E (A := A) (uof_k n) (ushl_k n) (ulen_k n) (umax_k n) (utext_k n) n).lps.lookup q.1 = some L → LoopOK Tryd.prog gls q.2 L :=
  lo_body (E := awake_E (uof_k n) (ushl_k n) (ulen_k n) (umax_k n) (utext_k n) n) (by kernel_rfl : Tryd.f13.body = some (bodyOf Tryd.f13)) (lo_of (E := awake_E (uof_k n) (ushl_k n) (ulen_k n) (umax_k n) (utext_k n) n) (by kernel_rfl : loopsOf 0 (bodyOf Tryd.f13) = []) lo_nil)
theorem awake_ok (n : Nat) : FnOK Tryd.prog gls 13 (awake_ent (A := A) (awake_k n)) :=
  FnOK.of (awake_T (uof_k n) (ushl_k n) (ulen_k n) (umax_k n) (utext_k n) n) (awake_fns n) follows ⟨Tryd.func13, by kernel_rfl⟩ (awake_lo n) (rm := [.pure]) fun args k out h => by
    obtain ⟨e, h1⟩ := args0_sound h
    subst e; rw [awake_eq]; exact h1

end Go.Ev
end

section
/-
  THE PROGRAM IS AWAKE (wide numbers), and what lies in an argument.
-/
set_option linter.all false
namespace Go.Ev
variable {A : Type}

theorem awake_1000 (k : Bool → Option A) : awake_k 1000 k = k true := by kernel_rfl

theorem wf_int64 {x : Int} (h : WF (.int .u64) x) : ∃ n : Nat, x = (n : Int) ∧ n < 18446744073709551616 := by
  have h1 : IntKind.u64.min ≤ x ∧ x ≤ IntKind.u64.max := h
  rw [show IntKind.u64.min = 0 by decide, show IntKind.u64.max = 18446744073709551615 by decide] at h1
  exact ⟨x.toNat, by omega, by omega⟩
theorem wf_four {v : List Int} (h : WF kA4u64 v) : ∃ x : Nat, v = ints (uw x) ∧ x < 2 ^ 256 := by
  obtain ⟨hl, hu⟩ := h
  match v, hl with
  | [x, y, z, w], _ =>
    obtain ⟨a, rfl, ha⟩ := wf_int64 (hu x (by simp))
    obtain ⟨b, rfl, hb⟩ := wf_int64 (hu y (by simp))
    obtain ⟨c, rfl, hc⟩ := wf_int64 (hu z (by simp))
    obtain ⟨d, rfl, hd⟩ := wf_int64 (hu w (by simp))
    refine ⟨a + 18446744073709551616 * (b + 18446744073709551616 * (c + 18446744073709551616 * d)), ?_, by rw [show (2 : Nat) ^ 256 = 115792089237316195423570985008687907853269984665640564039457584007913129639936 from by decide]; omega⟩
    have e : uw (a + 18446744073709551616 * (b + 18446744073709551616 * (c + 18446744073709551616 * d))) = [a, b, c, d] := by
      unfold uw
      rw [show (a + 18446744073709551616 * (b + 18446744073709551616 * (c + 18446744073709551616 * d))) % 18446744073709551616 = a from by omega,
        show (a + 18446744073709551616 * (b + 18446744073709551616 * (c + 18446744073709551616 * d))) / 18446744073709551616 % 18446744073709551616 = b from by omega,
        show (a + 18446744073709551616 * (b + 18446744073709551616 * (c + 18446744073709551616 * d))) / 340282366920938463463374607431768211456 % 18446744073709551616 = c from by omega,
        show (a + 18446744073709551616 * (b + 18446744073709551616 * (c + 18446744073709551616 * d))) / 6277101735386680763835789423207666416102355444464034512896 % 18446744073709551616 = d from by omega]
    rw [e]; rfl

end Go.Ev
end

section
/-
  FUNCTION 6: printed by a program of our own (wip/gen/st.py). 'masthead/mastheadlaw04.WideQuos', in continuation form; the evaluator gives it.
-/
set_option linter.all false
set_option maxRecDepth 100000
namespace Go.Ev
open Go.Proofs
variable {A : Type}

-- ============================================================ quos (function 6)
def quos_p (g_uquo : (List Int) → (List Int) → ((List Int) → (List Int) → Option A) → Option A) (g_awake : (Bool → Option A) → Option A) (g_big : (List Int) → ((List Int) → Option A) → Option A) (g_is_ : (List Int) → (List Int) → (List Int) → (List Int) → (Bool → Option A) → Option A) (n : Nat) (a0 : (List Int)) (a1 : (List Int)) (k : Bool → Option A) : Option A :=
  g_uquo a0 a1 fun r1 r2 =>
  bif (deq kA4u64 a1 [0, 0, 0, 0]) then
    bif (deq kA4u64 r1 [0, 0, 0, 0]) then
      bif (deq kA4u64 r2 a0) then
        g_awake fun r3 =>
        k r3
      else
        k false
    else
      k false
  else
    g_big r1 fun r4 =>
    g_big r2 fun r5 =>
    g_big a0 fun r6 =>
    g_big a1 fun r7 =>
    g_is_ r4 r5 r6 r7 fun r8 =>
    bif r8 then
      g_awake fun r9 =>
      k r9
    else
      k false

def quos_k (n : Nat) (a0 : (List Int)) (a1 : (List Int)) (k : Bool → Option A) : Option A := quos_p (uquo_k n) (awake_k n) (big_k n) (is__k n) n a0 a1 k

noncomputable def quos_E (g_uquo : (List Int) → (List Int) → ((List Int) → (List Int) → Option A) → Option A) (g_awake : (Bool → Option A) → Option A) (g_big : (List Int) → ((List Int) → Option A) → Option A) (g_is_ : (List Int) → (List Int) → (List Int) → (List Int) → (Bool → Option A) → Option A) (n : Nat) : Env A := ⟨tys, gls, [(27, uquo_ent g_uquo), (13, awake_ent g_awake), (15, big_ent g_big), (14, is__ent g_is_)], [], []⟩
theorem quos_T (g_uquo : (List Int) → (List Int) → ((List Int) → (List Int) → Option A) → Option A) (g_awake : (Bool → Option A) → Option A) (g_big : (List Int) → ((List Int) → Option A) → Option A) (g_is_ : (List Int) → (List Int) → (List Int) → (List Int) → (Bool → Option A) → Option A) (n : Nat) : TyOK Tryd.prog (quos_E g_uquo g_awake g_big g_is_ n) := tyOK_of rfl tysB
theorem quos_fns (n : Nat) : FnsOK Tryd.prog (quos_E (A := A) (uquo_k n) (awake_k n) (big_k n) (is__k n) n) := AllOK.env rfl rfl (AllOK.cons (uquo_ok n) (AllOK.cons (awake_ok n) (AllOK.cons (big_ok n) (AllOK.cons (is__ok n) AllOK.nil))))
theorem quos_eqg (g_uquo : (List Int) → (List Int) → ((List Int) → (List Int) → Option A) → Option A) (g_awake : (Bool → Option A) → Option A) (g_big : (List Int) → ((List Int) → Option A) → Option A) (g_is_ : (List Int) → (List Int) → (List Int) → (List Int) → (Bool → Option A) → Option A) (n : Nat) (a0 : (List Int)) (a1 : (List Int)) (k : AV → List Blk → Option A) : fnK (quos_E g_uquo g_awake g_big g_is_ n) Tryd.f6 [.pure] [.p kA4u64 a0, .p kA4u64 a1] [] k = quos_p g_uquo g_awake g_big g_is_ n a0 a1 (fun r0 => k (.p .bool r0) []) := by kernel_rfl
theorem quos_eq (n : Nat) (a0 : (List Int)) (a1 : (List Int)) (k : AV → List Blk → Option A) : fnK (quos_E (uquo_k n) (awake_k n) (big_k n) (is__k n) n) Tryd.f6 [.pure] [.p kA4u64 a0, .p kA4u64 a1] [] k = quos_k n a0 a1 (fun r0 => k (.p .bool r0) []) := quos_eqg (uquo_k n) (awake_k n) (big_k n) (is__k n) n a0 a1 k
def quos_ent (g : (List Int) → (List Int) → (Bool → Option A) → Option A) : Entry A := pureE fun args k => args2 args kA4u64 kA4u64 fun a0 a1 => g a0 a1 (fun r0 => k (.p .bool r0) [])
theorem quos_lo (n : Nat) : ∀ c, Tryd.f6.body = some c → ∀ q ∈ loopsOf 0 c, ∀ L, (quos_E (A := A) (uquo_k n) (awake_k n) (big_k n) (is__k n) n).lps.lookup q.1 = some L → LoopOK Tryd.prog gls q.2 L :=
  lo_body (E := quos_E (uquo_k n) (awake_k n) (big_k n) (is__k n) n) (by kernel_rfl : Tryd.f6.body = some (bodyOf Tryd.f6)) (lo_of (E := quos_E (uquo_k n) (awake_k n) (big_k n) (is__k n) n) (by kernel_rfl : loopsOf 0 (bodyOf Tryd.f6) = []) lo_nil)
theorem quos_ok (n : Nat) : FnOK Tryd.prog gls 6 (quos_ent (A := A) (quos_k n)) :=
  FnOK.of (quos_T (uquo_k n) (awake_k n) (big_k n) (is__k n) n) (quos_fns n) follows ⟨Tryd.func6, by kernel_rfl⟩ (quos_lo n) (rm := [.pure]) fun args k out h => by
    obtain ⟨a0, a1, e, h1⟩ := args2_sound h
    subst e; rw [quos_eq]; exact h1

end Go.Ev
end

section
/-
  FUNCTION 9: printed by a program of our own (wip/gen/st.py). 'masthead/mastheadlaw04.WideMuls', in continuation form; the evaluator gives it.
-/
set_option linter.all false
set_option maxRecDepth 100000
namespace Go.Ev
open Go.Proofs
variable {A : Type}

-- ============================================================ muls (function 9)
def muls_p (g_umul : (List Int) → Int → ((List Int) → Int → Option A) → Option A) (g_big : (List Int) → ((List Int) → Option A) → Option A) (g_of : (List Int) → ((List Int) → Option A) → Option A) (g_mul : (List Int) → (List Int) → ((List Int) → Option A) → Option A) (g_low : (List Int) → ((List Int) → Option A) → Option A) (g_uis : (List Int) → (List Int) → (Bool → Option A) → Option A) (g_high : (List Int) → ((List Int) → Option A) → Option A) (g_words : (List Int) → ((List Int) → Option A) → Option A) (g_awake : (Bool → Option A) → Option A) (n : Nat) (a0 : (List Int)) (a1 : Int) (k : Bool → Option A) : Option A :=
  g_umul a0 a1 fun r1 r2 =>
  g_big a0 fun r3 =>
  g_of [a1] fun r4 =>
  g_mul r3 r4 fun r5 =>
  g_low r5 fun r6 =>
  g_uis r1 r6 fun r7 =>
  bif r7 then
    g_high r5 fun r8 =>
    g_words r8 fun r9 =>
    (r9[0]?).bind fun y10 =>
    bif (r2 == y10) then
      g_awake fun r11 =>
      k r11
    else
      k false
  else
    k false

def muls_k (n : Nat) (a0 : (List Int)) (a1 : Int) (k : Bool → Option A) : Option A := muls_p (umul_k n) (big_k n) (of_k n) (mul_k n) (low_k n) (uis_k n) (high_k n) (words_k n) (awake_k n) n a0 a1 k

noncomputable def muls_E (g_umul : (List Int) → Int → ((List Int) → Int → Option A) → Option A) (g_big : (List Int) → ((List Int) → Option A) → Option A) (g_of : (List Int) → ((List Int) → Option A) → Option A) (g_mul : (List Int) → (List Int) → ((List Int) → Option A) → Option A) (g_low : (List Int) → ((List Int) → Option A) → Option A) (g_uis : (List Int) → (List Int) → (Bool → Option A) → Option A) (g_high : (List Int) → ((List Int) → Option A) → Option A) (g_words : (List Int) → ((List Int) → Option A) → Option A) (g_awake : (Bool → Option A) → Option A) (n : Nat) : Env A := ⟨tys, gls, [(33, umul_ent g_umul), (15, big_ent g_big), (16, of_ent g_of), (23, mul_ent g_mul), (22, low_ent g_low), (20, uis_ent g_uis), (35, high_ent g_high), (34, words_ent g_words), (13, awake_ent g_awake)], [], []⟩
theorem muls_T (g_umul : (List Int) → Int → ((List Int) → Int → Option A) → Option A) (g_big : (List Int) → ((List Int) → Option A) → Option A) (g_of : (List Int) → ((List Int) → Option A) → Option A) (g_mul : (List Int) → (List Int) → ((List Int) → Option A) → Option A) (g_low : (List Int) → ((List Int) → Option A) → Option A) (g_uis : (List Int) → (List Int) → (Bool → Option A) → Option A) (g_high : (List Int) → ((List Int) → Option A) → Option A) (g_words : (List Int) → ((List Int) → Option A) → Option A) (g_awake : (Bool → Option A) → Option A) (n : Nat) : TyOK Tryd.prog (muls_E g_umul g_big g_of g_mul g_low g_uis g_high g_words g_awake n) := tyOK_of rfl tysB
theorem muls_fns (n : Nat) : FnsOK Tryd.prog (muls_E (A := A) (umul_k n) (big_k n) (of_k n) (mul_k n) (low_k n) (uis_k n) (high_k n) (words_k n) (awake_k n) n) := AllOK.env rfl rfl (AllOK.cons (umul_ok n) (AllOK.cons (big_ok n) (AllOK.cons (of_ok n) (AllOK.cons (mul_ok n) (AllOK.cons (low_ok n) (AllOK.cons (uis_ok n) (AllOK.cons (high_ok n) (AllOK.cons (words_ok n) (AllOK.cons (awake_ok n) AllOK.nil)))))))))
theorem muls_eqg (g_umul : (List Int) → Int → ((List Int) → Int → Option A) → Option A) (g_big : (List Int) → ((List Int) → Option A) → Option A) (g_of : (List Int) → ((List Int) → Option A) → Option A) (g_mul : (List Int) → (List Int) → ((List Int) → Option A) → Option A) (g_low : (List Int) → ((List Int) → Option A) → Option A) (g_uis : (List Int) → (List Int) → (Bool → Option A) → Option A) (g_high : (List Int) → ((List Int) → Option A) → Option A) (g_words : (List Int) → ((List Int) → Option A) → Option A) (g_awake : (Bool → Option A) → Option A) (n : Nat) (a0 : (List Int)) (a1 : Int) (k : AV → List Blk → Option A) : fnK (muls_E g_umul g_big g_of g_mul g_low g_uis g_high g_words g_awake n) Tryd.f9 [.pure] [.p kA4u64 a0, .p (.int .u64) a1] [] k = muls_p g_umul g_big g_of g_mul g_low g_uis g_high g_words g_awake n a0 a1 (fun r0 => k (.p .bool r0) []) := by kernel_rfl
theorem muls_eq (n : Nat) (a0 : (List Int)) (a1 : Int) (k : AV → List Blk → Option A) : fnK (muls_E (umul_k n) (big_k n) (of_k n) (mul_k n) (low_k n) (uis_k n) (high_k n) (words_k n) (awake_k n) n) Tryd.f9 [.pure] [.p kA4u64 a0, .p (.int .u64) a1] [] k = muls_k n a0 a1 (fun r0 => k (.p .bool r0) []) := muls_eqg (umul_k n) (big_k n) (of_k n) (mul_k n) (low_k n) (uis_k n) (high_k n) (words_k n) (awake_k n) n a0 a1 k
def muls_ent (g : (List Int) → Int → (Bool → Option A) → Option A) : Entry A := pureE fun args k => args2 args kA4u64 (.int .u64) fun a0 a1 => g a0 a1 (fun r0 => k (.p .bool r0) [])
theorem muls_lo (n : Nat) : ∀ c, Tryd.f9.body = some c → ∀ q ∈ loopsOf 0 c, ∀ L, (muls_E (A := A) (umul_k n) (big_k n) (of_k n) (mul_k n) (low_k n) (uis_k n) (high_k n) (words_k n) (awake_k n) n).lps.lookup q.1 = some L → LoopOK Tryd.prog gls q.2 L :=
  lo_body (E := muls_E (umul_k n) (big_k n) (of_k n) (mul_k n) (low_k n) (uis_k n) (high_k n) (words_k n) (awake_k n) n) (by kernel_rfl : Tryd.f9.body = some (bodyOf Tryd.f9)) (lo_of (E := muls_E (umul_k n) (big_k n) (of_k n) (mul_k n) (low_k n) (uis_k n) (high_k n) (words_k n) (awake_k n) n) (by kernel_rfl : loopsOf 0 (bodyOf Tryd.f9) = []) lo_nil)
theorem muls_ok (n : Nat) : FnOK Tryd.prog gls 9 (muls_ent (A := A) (muls_k n)) :=
  FnOK.of (muls_T (umul_k n) (big_k n) (of_k n) (mul_k n) (low_k n) (uis_k n) (high_k n) (words_k n) (awake_k n) n) (muls_fns n) follows ⟨Tryd.func9, by kernel_rfl⟩ (muls_lo n) (rm := [.pure]) fun args k out h => by
    obtain ⟨a0, a1, e, h1⟩ := args2_sound h
    subst e; rw [muls_eq]; exact h1

end Go.Ev
end

section
/-
  FUNCTION 5: printed by a program of our own (wip/gen/st.py). 'masthead/mastheadlaw04.WideShifts', in continuation form; the evaluator gives it.
-/
set_option linter.all false
set_option maxRecDepth 100000
namespace Go.Ev
open Go.Proofs
variable {A : Type}

-- ============================================================ shifts (function 5)
def shifts_p (g_pow_ : Int → ((List Int) → Option A) → Option A) (g_ushl : (List Int) → Int → ((List Int) → Option A) → Option A) (g_big : (List Int) → ((List Int) → Option A) → Option A) (g_mul : (List Int) → (List Int) → ((List Int) → Option A) → Option A) (g_low : (List Int) → ((List Int) → Option A) → Option A) (g_uis : (List Int) → (List Int) → (Bool → Option A) → Option A) (g_ushr : (List Int) → Int → ((List Int) → Option A) → Option A) (g_less : (List Int) → (List Int) → (Bool → Option A) → Option A) (g_add : (List Int) → (List Int) → ((List Int) → Option A) → Option A) (g_awake : (Bool → Option A) → Option A) (n : Nat) (a0 : (List Int)) (a1 : Int) (k : Bool → Option A) : Option A :=
  g_pow_ (imin (imax a1 0) 256) fun r1 =>
  g_ushl a0 a1 fun r2 =>
  g_big a0 fun r3 =>
  g_mul r3 r1 fun r4 =>
  g_low r4 fun r5 =>
  g_uis r2 r5 fun r6 =>
  bif (!r6) then
    k false
  else
    g_ushr a0 a1 fun r7 =>
    g_big r7 fun r8 =>
    g_mul r8 r1 fun r9 =>
    g_big a0 fun r10 =>
    g_less r10 r9 fun r11 =>
    bif (!r11) then
      g_big a0 fun r12 =>
      g_add r9 r1 fun r13 =>
      g_less r12 r13 fun r14 =>
      bif r14 then
        g_awake fun r15 =>
        k r15
      else
        k false
    else
      k false

def shifts_k (n : Nat) (a0 : (List Int)) (a1 : Int) (k : Bool → Option A) : Option A := shifts_p (pow__k n) (ushl_k n) (big_k n) (mul_k n) (low_k n) (uis_k n) (ushr_k n) (less_k n) (add_k n) (awake_k n) n a0 a1 k

noncomputable def shifts_E (g_pow_ : Int → ((List Int) → Option A) → Option A) (g_ushl : (List Int) → Int → ((List Int) → Option A) → Option A) (g_big : (List Int) → ((List Int) → Option A) → Option A) (g_mul : (List Int) → (List Int) → ((List Int) → Option A) → Option A) (g_low : (List Int) → ((List Int) → Option A) → Option A) (g_uis : (List Int) → (List Int) → (Bool → Option A) → Option A) (g_ushr : (List Int) → Int → ((List Int) → Option A) → Option A) (g_less : (List Int) → (List Int) → (Bool → Option A) → Option A) (g_add : (List Int) → (List Int) → ((List Int) → Option A) → Option A) (g_awake : (Bool → Option A) → Option A) (n : Nat) : Env A := ⟨tys, gls, [(19, pow__ent g_pow_), (21, ushl_ent g_ushl), (15, big_ent g_big), (23, mul_ent g_mul), (22, low_ent g_low), (20, uis_ent g_uis), (24, ushr_ent g_ushr), (25, less_ent g_less), (26, add_ent g_add), (13, awake_ent g_awake)], [], []⟩
theorem shifts_T (g_pow_ : Int → ((List Int) → Option A) → Option A) (g_ushl : (List Int) → Int → ((List Int) → Option A) → Option A) (g_big : (List Int) → ((List Int) → Option A) → Option A) (g_mul : (List Int) → (List Int) → ((List Int) → Option A) → Option A) (g_low : (List Int) → ((List Int) → Option A) → Option A) (g_uis : (List Int) → (List Int) → (Bool → Option A) → Option A) (g_ushr : (List Int) → Int → ((List Int) → Option A) → Option A) (g_less : (List Int) → (List Int) → (Bool → Option A) → Option A) (g_add : (List Int) → (List Int) → ((List Int) → Option A) → Option A) (g_awake : (Bool → Option A) → Option A) (n : Nat) : TyOK Tryd.prog (shifts_E g_pow_ g_ushl g_big g_mul g_low g_uis g_ushr g_less g_add g_awake n) := tyOK_of rfl tysB
theorem shifts_fns (n : Nat) : FnsOK Tryd.prog (shifts_E (A := A) (pow__k n) (ushl_k n) (big_k n) (mul_k n) (low_k n) (uis_k n) (ushr_k n) (less_k n) (add_k n) (awake_k n) n) := AllOK.env rfl rfl (AllOK.cons (pow__ok n) (AllOK.cons (ushl_ok n) (AllOK.cons (big_ok n) (AllOK.cons (mul_ok n) (AllOK.cons (low_ok n) (AllOK.cons (uis_ok n) (AllOK.cons (ushr_ok n) (AllOK.cons (less_ok n) (AllOK.cons (add_ok n) (AllOK.cons (awake_ok n) AllOK.nil))))))))))
theorem shifts_eqg (g_pow_ : Int → ((List Int) → Option A) → Option A) (g_ushl : (List Int) → Int → ((List Int) → Option A) → Option A) (g_big : (List Int) → ((List Int) → Option A) → Option A) (g_mul : (List Int) → (List Int) → ((List Int) → Option A) → Option A) (g_low : (List Int) → ((List Int) → Option A) → Option A) (g_uis : (List Int) → (List Int) → (Bool → Option A) → Option A) (g_ushr : (List Int) → Int → ((List Int) → Option A) → Option A) (g_less : (List Int) → (List Int) → (Bool → Option A) → Option A) (g_add : (List Int) → (List Int) → ((List Int) → Option A) → Option A) (g_awake : (Bool → Option A) → Option A) (n : Nat) (a0 : (List Int)) (a1 : Int) (k : AV → List Blk → Option A) : fnK (shifts_E g_pow_ g_ushl g_big g_mul g_low g_uis g_ushr g_less g_add g_awake n) Tryd.f5 [.pure] [.p kA4u64 a0, .p (.int .i64) a1] [] k = shifts_p g_pow_ g_ushl g_big g_mul g_low g_uis g_ushr g_less g_add g_awake n a0 a1 (fun r0 => k (.p .bool r0) []) := by kernel_rfl
theorem shifts_eq (n : Nat) (a0 : (List Int)) (a1 : Int) (k : AV → List Blk → Option A) : fnK (shifts_E (pow__k n) (ushl_k n) (big_k n) (mul_k n) (low_k n) (uis_k n) (ushr_k n) (less_k n) (add_k n) (awake_k n) n) Tryd.f5 [.pure] [.p kA4u64 a0, .p (.int .i64) a1] [] k = shifts_k n a0 a1 (fun r0 => k (.p .bool r0) []) := shifts_eqg (pow__k n) (ushl_k n) (big_k n) (mul_k n) (low_k n) (uis_k n) (ushr_k n) (less_k n) (add_k n) (awake_k n) n a0 a1 k
def shifts_ent (g : (List Int) → Int → (Bool → Option A) → Option A) : Entry A := pureE fun args k => args2 args kA4u64 (.int .i64) fun a0 a1 => g a0 a1 (fun r0 => k (.p .bool r0) [])
theorem shifts_lo (n : Nat) : ∀ c, Tryd.f5.body = some c → ∀ q ∈ loopsOf 0 c, ∀ L, (shifts_E (A := A) (pow__k n) (ushl_k n) (big_k n) (mul_k n) (low_k n) (uis_k n) (ushr_k n) (less_k n) (add_k n) (awake_k n) n).lps.lookup q.1 = some L → LoopOK Tryd.prog gls q.2 L :=
  lo_body (E := shifts_E (pow__k n) (ushl_k n) (big_k n) (mul_k n) (low_k n) (uis_k n) (ushr_k n) (less_k n) (add_k n) (awake_k n) n) (by kernel_rfl : Tryd.f5.body = some (bodyOf Tryd.f5)) (lo_of (E := shifts_E (pow__k n) (ushl_k n) (big_k n) (mul_k n) (low_k n) (uis_k n) (ushr_k n) (less_k n) (add_k n) (awake_k n) n) (by kernel_rfl : loopsOf 0 (bodyOf Tryd.f5) = []) lo_nil)
theorem shifts_ok (n : Nat) : FnOK Tryd.prog gls 5 (shifts_ent (A := A) (shifts_k n)) :=
  FnOK.of (shifts_T (pow__k n) (ushl_k n) (big_k n) (mul_k n) (low_k n) (uis_k n) (ushr_k n) (less_k n) (add_k n) (awake_k n) n) (shifts_fns n) follows ⟨Tryd.func5, by kernel_rfl⟩ (shifts_lo n) (rm := [.pure]) fun args k out h => by
    obtain ⟨a0, a1, e, h1⟩ := args2_sound h
    subst e; rw [shifts_eq]; exact h1

end Go.Ev
end

section
/-
  THE LAWS OF WideQuos, WideMuls, WideShifts.
-/
set_option linter.all false
namespace Go.Ev

theorem uw_zero (x : Nat) (hx : x < 2 ^ 256) : deq kA4u64 (ints (uw x)) ([0, 0, 0, 0] : List Int) = decide (x = 0) := by
  by_cases h : x = 0
  · subst h; rw [zero_uw, deq_self]; rfl
  · rw [decide_eq_false h]
    cases hd : deq kA4u64 (ints (uw x)) ([0, 0, 0, 0] : List Int) with
    | false => rfl
    | true =>
      have h1 := (deq_iff kA4u64 _ _).1 hd
      rw [zero_uw] at h1
      have h2 := congrArg (fun l => wval (List.map Int.toNat l)) h1
      simp only [ints, List.map_map, Function.comp_def, Int.toNat_natCast, List.map_id'] at h2
      rw [wval_uw x hx, wval_uw 0 (by decide)] at h2
      exact absurd h2 h

theorem quos_law (a0 a1 : List Int) (f0 : WF kA4u64 a0) (f1 : WF kA4u64 a1) : ∃ n, quos_k n a0 a1 (fun r => some r) = some true := by
  refine ⟨1000, ?_⟩
  have haw : ∀ k : Bool → Option Bool, awake_k 1000 k = k true := awake_1000
  obtain ⟨n, hn⟩ : ∃ n, n = 1000 := ⟨1000, rfl⟩
  rw [← hn] at haw ⊢
  obtain ⟨x, rfl, hx⟩ := wf_four f0
  obtain ⟨y, rfl, hy⟩ := wf_four f1
  unfold quos_k quos_p
  by_cases h0 : y = 0
  · have e : ∀ g : List Int → List Int → Option Bool, uquo_k n (ints (uw x)) (ints (uw y)) g = g [0, 0, 0, 0] (ints (uw x)) := fun g => by
      unfold uquo_k uquo_p
      rw [uw_zero y hy, decide_eq_true h0, cond_true]
    rw [e, uw_zero y hy, decide_eq_true h0, cond_true, deq_self kA4u64, cond_true, deq_self, cond_true, haw]
  · have hq : x / y < 2 ^ 256 := Nat.lt_of_le_of_lt (Nat.div_le_self _ _) hx
    have hr : x % y < 2 ^ 256 := Nat.lt_of_le_of_lt (Nat.mod_le _ _) hx
    have l1 := dig_len256 x hx
    have l2 := dig_len256 y hy
    have l3 := dig_len256 _ hq
    have l4 := dig_len256 _ hr
    have hle := Nat.div_mul_le_self x y
    have l5 := dig_len256 (x / y * y) (Nat.lt_of_le_of_lt hle hx)
    rw [uquo_law n (by omega) x y hx hy h0, uw_zero y hy, decide_eq_false h0, cond_false, big_law n (by omega) _ hq, big_law n (by omega) _ hr, big_law n (by omega) x hx, big_law n (by omega) y hy,
      is_law n _ _ x y (by omega) (by omega) (by omega) (by omega) (by omega) (by omega) (Nat.mod_lt _ (by omega)) (Nat.div_add_mod' x y), cond_true, haw]

theorem of_one {A : Type} (n : Nat) (hn : 401 < n) (m : Nat) (hm : m < 18446744073709551616) (g : List Int → Option A) : of_k n [(m : Int)] g = g (ints (dig m)) := by
  have ho := of_law (A := A) n [m] (fun x hx => by rw [List.mem_singleton.1 hx]; omega) (show 1 < 100 by decide) hn g
  rw [show wval [m] = m from by simp [wval]] at ho
  exact ho
theorem word0 (x : Nat) (h : x < 18446744073709551616) : (ints (uw x))[0]? = some ((x : Nat) : Int) := by
  have w0 : wd x 0 = x := by unfold wd; rw [Nat.mul_zero, Nat.pow_zero, Nat.div_one]; omega
  rw [iuw_at _ 0 (by decide), w0]

theorem muls_law (a0 : List Int) (a1 : Int) (f0 : WF kA4u64 a0) (f1 : WF (.int .u64) a1) : ∃ n, muls_k n a0 a1 (fun r => some r) = some true := by
  refine ⟨1000, ?_⟩
  have haw : ∀ k : Bool → Option Bool, awake_k 1000 k = k true := awake_1000
  obtain ⟨n, hn⟩ : ∃ n, n = 1000 := ⟨1000, rfl⟩
  rw [← hn] at haw ⊢
  obtain ⟨x, rfl, hx⟩ := wf_four f0
  obtain ⟨c, rfl, hc⟩ := wf_int64 f1
  have l1 := dig_len256 x hx
  have l2 : (dig c).length ≤ 4 := dig_len c 4 (by omega)
  have l3 : (dig (x * c)).length ≤ 21 := dig_len_mul x c 256 64 21 (by decide) (by omega) (by omega)
  have m1 : x * c % 2 ^ 256 < 2 ^ 256 := Nat.mod_lt _ (Nat.two_pow_pos _)
  have hh : x * c / 2 ^ 256 < 18446744073709551616 := by
    rw [Nat.div_lt_iff_lt_mul (Nat.two_pow_pos _), Nat.mul_comm 18446744073709551616]
    exact Nat.mul_lt_mul_of_lt_of_le hx (by omega) (by decide)
  have l4 : (dig (x * c / 2 ^ 256)).length ≤ 4 := dig_len _ 4 (by omega)
  unfold muls_k muls_p
  rw [umul_law n (by omega) x c hx hc, big_law n (by omega) x hx, of_one n (by omega) c hc, mul_law n x c (by omega) (by omega), low_law n _ (by omega) (by omega), uis_true n _ m1 (by omega), cond_true, high_law n _ (by omega) (by omega), words_law n _ (by omega) (by omega), word0 _ hh, Option.bind_some,
    show (((x * c / 2 ^ 256 : Nat) : Int) == ((x * c / 2 ^ 256 : Nat) : Int)) = true from by simp, cond_true, haw]

theorem shl_big (x a : Nat) (h : 256 ≤ a) : x * 2 ^ a % 2 ^ 256 = 0 := by
  rw [show a = (a - 256) + 256 from by omega, Nat.pow_add, ← Nat.mul_assoc, Nat.mul_mod_left]

theorem shifts_law (a0 : List Int) (a1 : Int) (f0 : WF kA4u64 a0) (f1 : WF (.int .i64) a1) : ∃ n, shifts_k n a0 a1 (fun r => some r) = some true := by
  refine ⟨1000, ?_⟩
  have haw : ∀ k : Bool → Option Bool, awake_k 1000 k = k true := awake_1000
  obtain ⟨n, hn⟩ : ∃ n, n = 1000 := ⟨1000, rfl⟩
  rw [← hn] at haw ⊢
  obtain ⟨x, rfl, hx⟩ := wf_four f0
  have hm : imin (imax a1 0) 256 = ((min a1.toNat 256 : Nat) : Int) := by unfold imin imax; repeat' split <;> omega
  generalize ha : a1.toNat = a at hm
  have e1 : x * 2 ^ a % 2 ^ 256 = x * 2 ^ (min a 256) % 2 ^ 256 := by
    rcases Nat.lt_or_ge a 256 with h | h
    · rw [show min a 256 = a from by omega]
    · rw [shl_big x a h, shl_big x _ (by omega)]
  have hx2 : x < 2 ^ 256 := hx
  have hq : x / 2 ^ a * 2 ^ (min a 256) ≤ x ∧ x < x / 2 ^ a * 2 ^ (min a 256) + 2 ^ (min a 256) := by
    rcases Nat.lt_or_ge a 256 with h | h
    · rw [show min a 256 = a from by omega]
      exact ⟨Nat.div_mul_le_self _ _, Nat.lt_div_mul_add (Nat.two_pow_pos a)⟩
    · have e : x / 2 ^ a = 0 := Nat.div_eq_of_lt (Nat.lt_of_lt_of_le hx (Nat.pow_le_pow_right (by decide) h))
      rw [e, show min a 256 = 256 from by omega, Nat.zero_mul, Nat.zero_add]
      exact ⟨Nat.zero_le _, hx⟩
  have hqlt : x / 2 ^ a < 2 ^ 256 := Nat.lt_of_le_of_lt (Nat.div_le_self _ _) hx
  have l1 := dig_len256 x hx
  have l2 : (dig (2 ^ min a 256)).length ≤ 17 := dig_len_gen _ 256 17 (by decide) (Nat.pow_le_pow_right (by decide) (by omega))
  have l3 : (dig (x * 2 ^ min a 256)).length ≤ 33 := dig_len_mul _ _ 256 256 33 (by decide) (by omega) (Nat.pow_le_pow_right (by decide) (by omega))
  have l4 := dig_len256 _ hqlt
  have l5 := dig_len256 (x / 2 ^ a * 2 ^ (min a 256)) (by omega)
  have m1 : x * 2 ^ (min a 256) % 2 ^ 256 < 2 ^ 256 := Nat.mod_lt _ (Nat.two_pow_pos _)
  unfold shifts_k shifts_p
  rw [hm, pow_law n _ (by omega) (by omega), ushl_lawI n (by omega), ha, e1, big_law n (by omega) x hx, mul_law n x _ (by omega) (by omega), low_law n _ (by omega) (by omega), uis_true n _ m1 (by omega), Bool.not_true, cond_false,
    ushr_lawI n (by omega) x hx, ha, big_law n (by omega) _ hqlt, mul_law n _ _ (by omega) (by omega), big_law n (by omega) x hx, less_law n _ _ (by omega) (by omega), decide_eq_false (by omega), Bool.not_false, cond_true, big_law n (by omega) x hx, add_law n _ _ (by omega) (by omega), less_law n _ _ (by omega) (by omega), decide_eq_true hq.2, cond_true, haw]

end Go.Ev
end

