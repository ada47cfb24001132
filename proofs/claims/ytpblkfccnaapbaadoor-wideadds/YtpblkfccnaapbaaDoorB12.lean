import Derived.Test.YtpblkfccnaapbaaDoorB7
import Derived.Test.YtpblkfccnaapbaaDoorB6
import Derived.Test.YtpblkfccnaapbaaDoorB11
import Derived.Test.YtpblkfccnaapbaaDoorB8
import Derived.Test.YtpblkfccnaapbaaDoorB9
import Derived.Test.YtpblkfccnaapbaaDoorB10
import Derived.Test.YtpblkfccnaapbaaDoorB5
set_option linter.all false
section
/-
  FUNCTION 13: printed by a program of our own (wip/gen/st.py). 'masthead/mastheadlaw04.awake', in continuation form; the evaluator gives it.
-/
set_option linter.all false
set_option maxRecDepth 100000
namespace Go.Ev
open Go.Proofs
variable {A : Type}

-- ============================================================ awake (function 13)
def awake_p (g_uof : Int → ((List Int) → Option A) → Option A) (g_ushl : (List Int) → Int → ((List Int) → Option A) → Option A) (g_ulen : (List Int) → (Int → Option A) → Option A) (g_umax : ((List Int) → Option A) → Option A) (g_utext : (List Int) → (ByteArray → Option A) → Option A) (n : Nat) (k : Bool → Option A) : Option A :=
  g_uof 1 fun r1 =>
  g_ushl r1 255 fun r2 =>
  g_ulen r2 fun r3 =>
  bif (r3 == 256) then
    g_umax fun r4 =>
    g_utext r4 fun r5 =>
    k ((r5.size : Int) == 78)
  else
    k false

def awake_k (n : Nat) (k : Bool → Option A) : Option A := awake_p (uof_k n) (ushl_k n) (ulen_k n) (umax_k n) (utext_k n) n k

noncomputable def awake_E (g_uof : Int → ((List Int) → Option A) → Option A) (g_ushl : (List Int) → Int → ((List Int) → Option A) → Option A) (g_ulen : (List Int) → (Int → Option A) → Option A) (g_umax : ((List Int) → Option A) → Option A) (g_utext : (List Int) → (ByteArray → Option A) → Option A) (n : Nat) : Env A := ⟨tys, gls, [(39, uof_ent g_uof), (21, ushl_ent g_ushl), (37, ulen_ent g_ulen), (40, umax_ent g_umax), (17, utext_ent g_utext)], [], []⟩
theorem awake_T (g_uof : Int → ((List Int) → Option A) → Option A) (g_ushl : (List Int) → Int → ((List Int) → Option A) → Option A) (g_ulen : (List Int) → (Int → Option A) → Option A) (g_umax : ((List Int) → Option A) → Option A) (g_utext : (List Int) → (ByteArray → Option A) → Option A) (n : Nat) : TyOK Tryd.prog (awake_E g_uof g_ushl g_ulen g_umax g_utext n) := tyOK_of rfl tysB
theorem awake_fns (n : Nat) : FnsOK Tryd.prog (awake_E (A := A) (uof_k n) (ushl_k n) (ulen_k n) (umax_k n) (utext_k n) n) := AllOK.env rfl rfl (AllOK.cons (uof_ok n) (AllOK.cons (ushl_ok n) (AllOK.cons (ulen_ok n) (AllOK.cons (umax_ok n) (AllOK.cons (utext_ok n) AllOK.nil)))))
theorem awake_eqg (g_uof : Int → ((List Int) → Option A) → Option A) (g_ushl : (List Int) → Int → ((List Int) → Option A) → Option A) (g_ulen : (List Int) → (Int → Option A) → Option A) (g_umax : ((List Int) → Option A) → Option A) (g_utext : (List Int) → (ByteArray → Option A) → Option A) (n : Nat) (k : AV → List Blk → Option A) : fnK (awake_E g_uof g_ushl g_ulen g_umax g_utext n) Tryd.f13 [.pure] [] [] k = awake_p g_uof g_ushl g_ulen g_umax g_utext n (fun r0 => k (.p .bool r0) []) := by kernel_rfl
theorem awake_eq (n : Nat) (k : AV → List Blk → Option A) : fnK (awake_E (uof_k n) (ushl_k n) (ulen_k n) (umax_k n) (utext_k n) n) Tryd.f13 [.pure] [] [] k = awake_k n (fun r0 => k (.p .bool r0) []) := awake_eqg (uof_k n) (ushl_k n) (ulen_k n) (umax_k n) (utext_k n) n k
def awake_ent (g : (Bool → Option A) → Option A) : Entry A := pureE fun args k => args0 args (g (fun r0 => k (.p .bool r0) []))
theorem awake_lo (n : Nat) : ∀ c, Tryd.f13.body = some c → ∀ q ∈ loopsOf 0 c, ∀ L, (awake_E (A := A) (uof_k n) (ushl_k n) (ulen_k n) (umax_k n) (utext_k n) n).lps.lookup q.1 = some L → LoopOK Tryd.prog gls q.2 L :=
  lo_body (E := awake_E (uof_k n) (ushl_k n) (ulen_k n) (umax_k n) (utext_k n) n) (by kernel_rfl : Tryd.f13.body = some (bodyOf Tryd.f13)) (lo_of (E := awake_E (uof_k n) (ushl_k n) (ulen_k n) (umax_k n) (utext_k n) n) (by kernel_rfl : loopsOf 0 (bodyOf Tryd.f13) = []) lo_nil)
theorem awake_ok (n : Nat) : FnOK Tryd.prog gls 13 (awake_ent (A := A) (awake_k n)) :=
  FnOK.of (awake_T (uof_k n) (ushl_k n) (ulen_k n) (umax_k n) (utext_k n) n) (awake_fns n) follows ⟨Tryd.func13, by kernel_rfl⟩ (awake_lo n) (rm := [.pure]) fun args k out h => by
    obtain ⟨e, h1⟩ := args0_sound h
    subst e; rw [awake_eq]; exact h1

end Go.Ev
end

section
/-
  THE PROGRAM IS AWAKE (wide numbers), and what lies in an argument.
-/
set_option linter.all false
namespace Go.Ev
variable {A : Type}

theorem awake_1000 (k : Bool → Option A) : awake_k 1000 k = k true := by kernel_rfl

theorem wf_int64 {x : Int} (h : WF (.int .u64) x) : ∃ n : Nat, x = (n : Int) ∧ n < 18446744073709551616 := by
  have h1 : IntKind.u64.min ≤ x ∧ x ≤ IntKind.u64.max := h
  rw [show IntKind.u64.min = 0 by decide, show IntKind.u64.max = 18446744073709551615 by decide] at h1
  exact ⟨x.toNat, by omega, by omega⟩
theorem wf_four {v : List Int} (h : WF kA4u64 v) : ∃ x : Nat, v = ints (uw x) ∧ x < 2 ^ 256 := by
  obtain ⟨hl, hu⟩ := h
  match v, hl with
  | [x, y, z, w], _ =>
    obtain ⟨a, rfl, ha⟩ := wf_int64 (hu x (by simp))
    obtain ⟨b, rfl, hb⟩ := wf_int64 (hu y (by simp))
    obtain ⟨c, rfl, hc⟩ := wf_int64 (hu z (by simp))
    obtain ⟨d, rfl, hd⟩ := wf_int64 (hu w (by simp))
    refine ⟨a + 18446744073709551616 * (b + 18446744073709551616 * (c + 18446744073709551616 * d)), ?_, by rw [show (2 : Nat) ^ 256 = 115792089237316195423570985008687907853269984665640564039457584007913129639936 from by decide]; omega⟩
    have e : uw (a + 18446744073709551616 * (b + 18446744073709551616 * (c + 18446744073709551616 * d))) = [a, b, c, d] := by
      unfold uw
      rw [show (a + 18446744073709551616 * (b + 18446744073709551616 * (c + 18446744073709551616 * d))) % 18446744073709551616 = a from by omega,
        show (a + 18446744073709551616 * (b + 18446744073709551616 * (c + 18446744073709551616 * d))) / 18446744073709551616 % 18446744073709551616 = b from by omega,
        show (a + 18446744073709551616 * (b + 18446744073709551616 * (c + 18446744073709551616 * d))) / 340282366920938463463374607431768211456 % 18446744073709551616 = c from by omega,
        show (a + 18446744073709551616 * (b + 18446744073709551616 * (c + 18446744073709551616 * d))) / 6277101735386680763835789423207666416102355444464034512896 % 18446744073709551616 = d from by omega]
    rw [e]; rfl

end Go.Ev
end

section
/-
  FUNCTION 7: printed by a program of our own (wip/gen/st.py). 'masthead/mastheadlaw04.WideAdds', in continuation form; the evaluator gives it.
-/
set_option linter.all false
set_option maxRecDepth 100000
namespace Go.Ev
open Go.Proofs
variable {A : Type}

-- ============================================================ adds (function 7)
def adds_p (g_big : (List Int) → ((List Int) → Option A) → Option A) (g_add : (List Int) → (List Int) → ((List Int) → Option A) → Option A) (g_uadd : (List Int) → (List Int) → ((List Int) → Bool → Option A) → Option A) (g_low : (List Int) → ((List Int) → Option A) → Option A) (g_uis : (List Int) → (List Int) → (Bool → Option A) → Option A) (g_usub : (List Int) → (List Int) → ((List Int) → Bool → Option A) → Option A) (g_less : (List Int) → (List Int) → (Bool → Option A) → Option A) (g_mless : (List Int) → (List Int) → ((List Int) → Option A) → Option A) (g_awake : (Bool → Option A) → Option A) (n : Nat) (a0 : (List Int)) (a1 : (List Int)) (k : Bool → Option A) : Option A :=
  g_big a0 fun r1 =>
  g_big a1 fun r2 =>
  g_add r1 r2 fun r3 =>
  g_uadd a0 a1 fun r4 r5 =>
  g_low r3 fun r6 =>
  g_uis r4 r6 fun r7 =>
  bif (!r7) then
    k false
  else
    bif (!(deq .bool r5 (decide ((r3.length : Int) > 16)))) then
      k false
    else
      g_usub a0 a1 fun r8 r9 =>
      g_less r1 r2 fun r10 =>
      bif (!(deq .bool r9 r10)) then
        k false
      else
        g_mless r8 a1 fun r11 =>
        g_uis r11 r1 fun r12 =>
        bif (!r12) then
          k false
        else
          g_usub r4 a1 fun r13 r14 =>
          bif (deq kA4u64 r13 a0) then
            g_awake fun r15 =>
            k r15
          else
            k false

def adds_k (n : Nat) (a0 : (List Int)) (a1 : (List Int)) (k : Bool → Option A) : Option A := adds_p (big_k n) (add_k n) (uadd_k n) (low_k n) (uis_k n) (usub_k n) (less_k n) (mless_k n) (awake_k n) n a0 a1 k

noncomputable def adds_E (g_big : (List Int) → ((List Int) → Option A) → Option A) (g_add : (List Int) → (List Int) → ((List Int) → Option A) → Option A) (g_uadd : (List Int) → (List Int) → ((List Int) → Bool → Option A) → Option A) (g_low : (List Int) → ((List Int) → Option A) → Option A) (g_uis : (List Int) → (List Int) → (Bool → Option A) → Option A) (g_usub : (List Int) → (List Int) → ((List Int) → Bool → Option A) → Option A) (g_less : (List Int) → (List Int) → (Bool → Option A) → Option A) (g_mless : (List Int) → (List Int) → ((List Int) → Option A) → Option A) (g_awake : (Bool → Option A) → Option A) (n : Nat) : Env A := ⟨tys, gls, [(15, big_ent g_big), (26, add_ent g_add), (28, uadd_ent g_uadd), (22, low_ent g_low), (20, uis_ent g_uis), (29, usub_ent g_usub), (25, less_ent g_less), (30, mless_ent g_mless), (13, awake_ent g_awake)], [], []⟩
theorem adds_T (g_big : (List Int) → ((List Int) → Option A) → Option A) (g_add : (List Int) → (List Int) → ((List Int) → Option A) → Option A) (g_uadd : (List Int) → (List Int) → ((List Int) → Bool → Option A) → Option A) (g_low : (List Int) → ((List Int) → Option A) → Option A) (g_uis : (List Int) → (List Int) → (Bool → Option A) → Option A) (g_usub : (List Int) → (List Int) → ((List Int) → Bool → Option A) → Option A) (g_less : (List Int) → (List Int) → (Bool → Option A) → Option A) (g_mless : (List Int) → (List Int) → ((List Int) → Option A) → Option A) (g_awake : (Bool → Option A) → Option A) (n : Nat) : TyOK Tryd.prog (adds_E g_big g_add g_uadd g_low g_uis g_usub g_less g_mless g_awake n) := tyOK_of rfl tysB
theorem adds_fns (n : Nat) : FnsOK Tryd.prog (adds_E (A := A) (big_k n) (add_k n) (uadd_k n) (low_k n) (uis_k n) (usub_k n) (less_k n) (mless_k n) (awake_k n) n) := AllOK.env rfl rfl (AllOK.cons (big_ok n) (AllOK.cons (add_ok n) (AllOK.cons (uadd_ok n) (AllOK.cons (low_ok n) (AllOK.cons (uis_ok n) (AllOK.cons (usub_ok n) (AllOK.cons (less_ok n) (AllOK.cons (mless_ok n) (AllOK.cons (awake_ok n) AllOK.nil)))))))))
theorem adds_eqg (g_big : (List Int) → ((List Int) → Option A) → Option A) (g_add : (List Int) → (List Int) → ((List Int) → Option A) → Option A) (g_uadd : (List Int) → (List Int) → ((List Int) → Bool → Option A) → Option A) (g_low : (List Int) → ((List Int) → Option A) → Option A) (g_uis : (List Int) → (List Int) → (Bool → Option A) → Option A) (g_usub : (List Int) → (List Int) → ((List Int) → Bool → Option A) → Option A) (g_less : (List Int) → (List Int) → (Bool → Option A) → Option A) (g_mless : (List Int) → (List Int) → ((List Int) → Option A) → Option A) (g_awake : (Bool → Option A) → Option A) (n : Nat) (a0 : (List Int)) (a1 : (List Int)) (k : AV → List Blk → Option A) : fnK (adds_E g_big g_add g_uadd g_low g_uis g_usub g_less g_mless g_awake n) Tryd.f7 [.pure] [.p kA4u64 a0, .p kA4u64 a1] [] k = adds_p g_big g_add g_uadd g_low g_uis g_usub g_less g_mless g_awake n a0 a1 (fun r0 => k (.p .bool r0) []) := by kernel_rfl
theorem adds_eq (n : Nat) (a0 : (List Int)) (a1 : (List Int)) (k : AV → List Blk → Option A) : fnK (adds_E (big_k n) (add_k n) (uadd_k n) (low_k n) (uis_k n) (usub_k n) (less_k n) (mless_k n) (awake_k n) n) Tryd.f7 [.pure] [.p kA4u64 a0, .p kA4u64 a1] [] k = adds_k n a0 a1 (fun r0 => k (.p .bool r0) []) := adds_eqg (big_k n) (add_k n) (uadd_k n) (low_k n) (uis_k n) (usub_k n) (less_k n) (mless_k n) (awake_k n) n a0 a1 k
def adds_ent (g : (List Int) → (List Int) → (Bool → Option A) → Option A) : Entry A := pureE fun args k => args2 args kA4u64 kA4u64 fun a0 a1 => g a0 a1 (fun r0 => k (.p .bool r0) [])
theorem adds_lo (n : Nat) : ∀ c, Tryd.f7.body = some c → ∀ q ∈ loopsOf 0 c, ∀ L, (adds_E (A := A) (big_k n) (add_k n) (uadd_k n) (low_k n) (uis_k n) (usub_k n) (less_k n) (mless_k n) (awake_k n) n).lps.lookup q.1 = some L → LoopOK Tryd.prog gls q.2 L :=
  lo_body (E := adds_E (big_k n) (add_k n) (uadd_k n) (low_k n) (uis_k n) (usub_k n) (less_k n) (mless_k n) (awake_k n) n) (by kernel_rfl : Tryd.f7.body = some (bodyOf Tryd.f7)) (lo_of (E := adds_E (big_k n) (add_k n) (uadd_k n) (low_k n) (uis_k n) (usub_k n) (less_k n) (mless_k n) (awake_k n) n) (by kernel_rfl : loopsOf 0 (bodyOf Tryd.f7) = []) lo_nil)
theorem adds_ok (n : Nat) : FnOK Tryd.prog gls 7 (adds_ent (A := A) (adds_k n)) :=
  FnOK.of (adds_T (big_k n) (add_k n) (uadd_k n) (low_k n) (uis_k n) (usub_k n) (less_k n) (mless_k n) (awake_k n) n) (adds_fns n) follows ⟨Tryd.func7, by kernel_rfl⟩ (adds_lo n) (rm := [.pure]) fun args k out h => by
    obtain ⟨a0, a1, e, h1⟩ := args2_sound h
    subst e; rw [adds_eq]; exact h1

end Go.Ev
end

section
/-
  THE LAW OF WideAdds.
-/
set_option linter.all false
namespace Go.Ev

theorem adds_law (a0 a1 : List Int) (f0 : WF kA4u64 a0) (f1 : WF kA4u64 a1) : ∃ n, adds_k n a0 a1 (fun r => some r) = some true := by
  refine ⟨1000, ?_⟩
  have haw : ∀ k : Bool → Option Bool, awake_k 1000 k = k true := awake_1000
  obtain ⟨n, hn⟩ : ∃ n, n = 1000 := ⟨1000, rfl⟩
  rw [← hn] at haw ⊢
  obtain ⟨x, rfl, hx⟩ := wf_four f0
  obtain ⟨y, rfl, hy⟩ := wf_four f1
  have hP : 0 < 2 ^ 256 := Nat.two_pow_pos _
  have l1 := dig_len256 x hx
  have l2 := dig_len256 y hy
  have l3 := len_sum hx hy
  have m1 : (x + y) % 2 ^ 256 < 2 ^ 256 := Nat.mod_lt _ hP
  have m2 : (x + 2 ^ 256 - y) % 2 ^ 256 < 2 ^ 256 := Nat.mod_lt _ hP
  unfold adds_k adds_p
  rw [big_law n (by omega) x hx, big_law n (by omega) y hy, add_law n x y (by omega) (by omega), uadd_law n (by omega) x y hx hy, low_law n _ (by omega) (by omega), uis_true n _ m1 (by omega), Bool.not_true, cond_false, ints_length]
  have e1 : deq .bool (decide (2 ^ 256 ≤ x + y)) (decide (((dig (x + y)).length : Int) > 16)) = true := by
    rw [deq_iff]
    apply decide_eq_decide.2
    rw [← len16]; omega
  rw [e1, Bool.not_true, cond_false, usub_law n (by omega) x y hx hy, less_law n x y (by omega) (by omega), deq_self .bool, Bool.not_true, cond_false, mless_law n _ y m2 hy (by omega)]
  have e2 : ((x + 2 ^ 256 - y) % 2 ^ 256 + y) % 2 ^ 256 = x := by
    rw [Nat.mod_add_mod, show x + 2 ^ 256 - y + y = x + 2 ^ 256 from by omega, Nat.add_mod_right, Nat.mod_eq_of_lt hx]
  rw [e2, uis_true n _ hx (by omega), Bool.not_true, cond_false, usub_law n (by omega) _ y m1 hy]
  have e3 : ((x + y) % 2 ^ 256 + 2 ^ 256 - y) % 2 ^ 256 = x := by
    rw [show (x + y) % 2 ^ 256 + 2 ^ 256 - y = (x + y) % 2 ^ 256 + (2 ^ 256 - y) from by omega, Nat.mod_add_mod, show x + y + (2 ^ 256 - y) = x + 2 ^ 256 from by omega, Nat.add_mod_right, Nat.mod_eq_of_lt hx]
  rw [e3, deq_self, cond_true, haw]

end Go.Ev
end

