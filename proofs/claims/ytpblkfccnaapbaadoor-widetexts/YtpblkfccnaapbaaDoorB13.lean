import Derived.Test.YtpblkfccnaapbaaDoorB11
import Derived.Test.YtpblkfccnaapbaaDoorB6
import Derived.Test.YtpblkfccnaapbaaDoorB5
import Derived.Test.YtpblkfccnaapbaaDoorB12
import Derived.Test.YtpblkfccnaapbaaDoorB7
import Derived.Test.YtpblkfccnaapbaaDoorB10
import Derived.Test.YtpblkfccnaapbaaDoorB8
import Derived.Test.YtpblkfccnaapbaaDoorB9
set_option linter.all false
section
/-
  FUNCTION 9: printed by a program of our own (wip/gen/st.py). 'masthead/mastheadlaw04.WideMuls', in continuation form; the evaluator gives it.
-/
set_option linter.all false
set_option maxRecDepth 100000
namespace Go.Ev
open Go.Proofs
variable {A : Type}

-- ============================================================ muls (function 9)
def muls_p (g_umul : (List Int) → Int → ((List Int) → Int → Option A) → Option A) (g_big : (List Int) → ((List Int) → Option A) → Option A) (g_of : (List Int) → ((List Int) → Option A) → Option A) (g_mul : (List Int) → (List Int) → ((List Int) → Option A) → Option A) (g_low : (List Int) → ((List Int) → Option A) → Option A) (g_uis : (List Int) → (List Int) → (Bool → Option A) → Option A) (g_high : (List Int) → ((List Int) → Option A) → Option A) (g_words : (List Int) → ((List Int) → Option A) → Option A) (g_awake : (Bool → Option A) → Option A) (n : Nat) (a0 : (List Int)) (a1 : Int) (k : Bool → Option A) : Option A :=
  g_umul a0 a1 fun r1 r2 =>
  g_big a0 fun r3 =>
  g_of [a1] fun r4 =>
  g_mul r3 r4 fun r5 =>
  g_low r5 fun r6 =>
  g_uis r1 r6 fun r7 =>
  bif r7 then
    g_high r5 fun r8 =>
    g_words r8 fun r9 =>
    (r9[0]?).bind fun y10 =>
    bif (r2 == y10) then
      g_awake fun r11 =>
      k r11
    else
      k false
  else
    k false

def muls_k (n : Nat) (a0 : (List Int)) (a1 : Int) (k : Bool → Option A) : Option A := muls_p (umul_k n) (big_k n) (of_k n) (mul_k n) (low_k n) (uis_k n) (high_k n) (words_k n) (awake_k n) n a0 a1 k

noncomputable def muls_E (g_umul : (List Int) → Int → ((List Int) → Int → Option A) → Option A) (g_big : (List Int) → ((List Int) → Option A) → Option A) (g_of : (List Int) → ((List Int) → Option A) → Option A) (g_mul : (List Int) → (List Int) → ((List Int) → Option A) → Option A) (g_low : (List Int) → ((List Int) → Option A) → Option A) (g_uis : (List Int) → (List Int) → (Bool → Option A) → Option A) (g_high : (List Int) → ((List Int) → Option A) → Option A) (g_words : (List Int) → ((List Int) → Option A) → Option A) (g_awake : (Bool → Option A) → Option A) (n : Nat) : Env A := ⟨tys, gls, [(33, umul_ent g_umul), (15, big_ent g_big), (16, of_ent g_of), (23, mul_ent g_mul), (22, low_ent g_low), (20, uis_ent g_uis), (35, high_ent g_high), (34, words_ent g_words), (13, awake_ent g_awake)], [], []⟩
theorem muls_T (g_umul : (List Int) → Int → ((List Int) → Int → Option A) → Option A) (g_big : (List Int) → ((List Int) → Option A) → Option A) (g_of : (List Int) → ((List Int) → Option A) → Option A) (g_mul : (List Int) → (List Int) → ((List Int) → Option A) → Option A) (g_low : (List Int) → ((List Int) → Option A) → Option A) (g_uis : (List Int) → (List Int) → (Bool → Option A) → Option A) (g_high : (List Int) → ((List Int) → Option A) → Option A) (g_words : (List Int) → ((List Int) → Option A) → Option A) (g_awake : (Bool → Option A) → Option A) (n : Nat) : TyOK Tryd.prog (muls_E g_umul g_big g_of g_mul g_low g_uis g_high g_words g_awake n) := tyOK_of rfl tysB
theorem muls_fns (n : Nat) : FnsOK Tryd.prog (muls_E (A := A) (umul_k n) (big_k n) (of_k n) (mul_k n) (low_k n) (uis_k n) (high_k n) (words_k n) (awake_k n) n) := AllOK.env rfl rfl (AllOK.cons (umul_ok n) (AllOK.cons (big_ok n) (AllOK.cons (of_ok n) (AllOK.cons (mul_ok n) (AllOK.cons (low_ok n) (AllOK.cons (uis_ok n) (AllOK.cons (high_ok n) (AllOK.cons (words_ok n) (AllOK.cons (awake_ok n) AllOK.nil)))))))))
theorem muls_eqg (g_umul : (List Int) → Int → ((List Int) → Int → Option A) → Option A) (g_big : (List Int) → ((List Int) → Option A) → Option A) (g_of : (List Int) → ((List Int) → Option A) → Option A) (g_mul : (List Int) → (List Int) → ((List Int) → Option A) → Option A) (g_low : (List Int) → ((List Int) → Option A) → Option A) (g_uis : (List Int) → (List Int) → (Bool → Option A) → Option A) (g_high : (List Int) → ((List Int) → Option A) → Option A) (g_words : (List Int) → ((List Int) → Option A) → Option A) (g_awake : (Bool → Option A) → Option A) (n : Nat) (a0 : (List Int)) (a1 : Int) (k : AV → List Blk → Option A) : fnK (muls_E g_umul g_big g_of g_mul g_low g_uis g_high g_words g_awake n) Tryd.f9 [.pure] [.p kA4u64 a0, .p (.int .u64) a1] [] k = muls_p g_umul g_big g_of g_mul g_low g_uis g_high g_words g_awake n a0 a1 (fun r0 => k (.p .bool r0) []) := by kernel_rfl
theorem muls_eq (n : Nat) (a0 : (List Int)) (a1 : Int) (k : AV → List Blk → Option A) : fnK (muls_E (umul_k n) (big_k n) (of_k n) (mul_k n) (low_k n) (uis_k n) (high_k n) (words_k n) (awake_k n) n) Tryd.f9 [.pure] [.p kA4u64 a0, .p (.int .u64) a1] [] k = muls_k n a0 a1 (fun r0 => k (.p .bool r0) []) := muls_eqg (umul_k n) (big_k n) (of_k n) (mul_k n) (low_k n) (uis_k n) (high_k n) (words_k n) (awake_k n) n a0 a1 k
def muls_ent (g : (List Int) → Int → (Bool → Option A) → Option A) : Entry A := pureE fun args k => args2 args kA4u64 (.int .u64) fun a0 a1 => g a0 a1 (fun r0 => k (.p .bool r0) [])
theorem muls_lo (n : Nat) : ∀ c, Tryd.f9.body = some c → ∀ q ∈ loopsOf 0 c, ∀ L, (muls_E (A := A) (umul_k n) (big_k n) (of_k n) (mul_k n) (low_k n) (uis_k n) (high_k n) (words_k n) (awake_k n) n).lps.lookup q.1 = some L → LoopOK Tryd.prog gls q.2 L :=
  lo_body (E := muls_E (umul_k n) (big_k n) (of_k n) (mul_k n) (low_k n) (uis_k n) (high_k n) (words_k n) (awake_k n) n) (by kernel_rfl : Tryd.f9.body = some (bodyOf Tryd.f9)) (lo_of (E := muls_E (umul_k n) (big_k n) (of_k n) (mul_k n) (low_k n) (uis_k n) (high_k n) (words_k n) (awake_k n) n) (by kernel_rfl : loopsOf 0 (bodyOf Tryd.f9) = []) lo_nil)
theorem muls_ok (n : Nat) : FnOK Tryd.prog gls 9 (muls_ent (A := A) (muls_k n)) :=
  FnOK.of (muls_T (umul_k n) (big_k n) (of_k n) (mul_k n) (low_k n) (uis_k n) (high_k n) (words_k n) (awake_k n) n) (muls_fns n) follows ⟨Tryd.func9, by kernel_rfl⟩ (muls_lo n) (rm := [.pure]) fun args k out h => by
    obtain ⟨a0, a1, e, h1⟩ := args2_sound h
    subst e; rw [muls_eq]; exact h1

end Go.Ev
end

section
/-
  FUNCTION 5: printed by a program of our own (wip/gen/st.py). 'masthead/mastheadlaw04.WideShifts', in continuation form; the evaluator gives it.
-/
set_option linter.all false
set_option maxRecDepth 100000
namespace Go.Ev
open Go.Proofs
variable {A : Type}

-- ============================================================ shifts (function 5)
def shifts_p (g_pow_ : Int → ((List Int) → Option A) → Option A) (g_ushl : (List Int) → Int → ((List Int) → Option A) → Option A) (g_big : (List Int) → ((List Int) → Option A) → Option A) (g_mul : (List Int) → (List Int) → ((List Int) → Option A) → Option A) (g_low : (List Int) → ((List Int) → Option A) → Option A) (g_uis : (List Int) → (List Int) → (Bool → Option A) → Option A) (g_ushr : (List Int) → Int → ((List Int) → Option A) → Option A) (g_less : (List Int) → (List Int) → (Bool → Option A) → Option A) (g_add : (List Int) → (List Int) → ((List Int) → Option A) → Option A) (g_awake : (Bool → Option A) → Option A) (n : Nat) (a0 : (List Int)) (a1 : Int) (k : Bool → Option A) : Option A :=
  g_pow_ (imin (imax a1 0) 256) fun r1 =>
  g_ushl a0 a1 fun r2 =>
  g_big a0 fun r3 =>
  g_mul r3 r1 fun r4 =>
  g_low r4 fun r5 =>
  g_uis r2 r5 fun r6 =>
  bif (!r6) then
    k false
  else
    g_ushr a0 a1 fun r7 =>
    g_big r7 fun r8 =>
    g_mul r8 r1 fun r9 =>
    g_big a0 fun r10 =>
    g_less r10 r9 fun r11 =>
    bif (!r11) then
      g_big a0 fun r12 =>
      g_add r9 r1 fun r13 =>
      g_less r12 r13 fun r14 =>
      bif r14 then
        g_awake fun r15 =>
        k r15
      else
        k false
    else
      k false

def shifts_k (n : Nat) (a0 : (List Int)) (a1 : Int) (k : Bool → Option A) : Option A := shifts_p (pow__k n) (ushl_k n) (big_k n) (mul_k n) (low_k n) (uis_k n) (ushr_k n) (less_k n) (add_k n) (awake_k n) n a0 a1 k

noncomputable def shifts_E (g_pow_ : Int → ((List Int) → Option A) → Option A) (g_ushl : (List Int) → Int → ((List Int) → Option A) → Option A) (g_big : (List Int) → ((List Int) → Option A) → Option A) (g_mul : (List Int) → (List Int) → ((List Int) → Option A) → Option A) (g_low : (List Int) → ((List Int) → Option A) → Option A) (g_uis : (List Int) → (List Int) → (Bool → Option A) → Option A) (g_ushr : (List Int) → Int → ((List Int) → Option A) → Option A) (g_less : (List Int) → (List Int) → (Bool → Option A) → Option A) (g_add : (List Int) → (List Int) → ((List Int) → Option A) → Option A) (g_awake : (Bool → Option A) → Option A) (n : Nat) : Env A := ⟨tys, gls, [(19, pow__ent g_pow_), (21, ushl_ent g_ushl), (15, big_ent g_big), (23, mul_ent g_mul), (22, low_ent g_low), (20, uis_ent g_uis), (24, ushr_ent g_ushr), (25, less_ent g_less), (26, add_ent g_add), (13, awake_ent g_awake)], [], []⟩
theorem shifts_T (g_pow_ : Int → ((List Int) → Option A) → Option A) (g_ushl : (List Int) → Int → ((List Int) → Option A) → Option A) (g_big : (List Int) → ((List Int) → Option A) → Option A) (g_mul : (List Int) → (List Int) → ((List Int) → Option A) → Option A) (g_low : (List Int) → ((List Int) → Option A) → Option A) (g_uis : (List Int) → (List Int) → (Bool → Option A) → Option A) (g_ushr : (List Int) → Int → ((List Int) → Option A) → Option A) (g_less : (List Int) → (List Int) → (Bool → Option A) → Option A) (g_add : (List Int) → (List Int) → ((List Int) → Option A) → Option A) (g_awake : (Bool → Option A) → Option A) (n : Nat) : TyOK Tryd.prog (shifts_E g_pow_ g_ushl g_big g_mul g_low g_uis g_ushr g_less g_add g_awake n) := tyOK_of rfl tysB
theorem shifts_fns (n : Nat) : FnsOK Tryd.prog (shifts_E (A := A) (pow__k n) (ushl_k n) (big_k n) (mul_k n) (low_k n) (uis_k n) (ushr_k n) (less_k n) (add_k n) (awake_k n) n) := AllOK.env rfl rfl (AllOK.cons (pow__ok n) (AllOK.cons (ushl_ok n) (AllOK.cons (big_ok n) (AllOK.cons (mul_ok n) (AllOK.cons (low_ok n) (AllOK.cons (uis_ok n) (AllOK.cons (ushr_ok n) (AllOK.cons (less_ok n) (AllOK.cons (add_ok n) (AllOK.cons (awake_ok n) AllOK.nil))))))))))
theorem shifts_eqg (g_pow_ : Int → ((List Int) → Option A) → Option A) (g_ushl : (List Int) → Int → ((List Int) → Option A) → Option A) (g_big : (List Int) → ((List Int) → Option A) → Option A) (g_mul : (List Int) → (List Int) → ((List Int) → Option A) → Option A) (g_low : (List Int) → ((List Int) → Option A) → Option A) (g_uis : (List Int) → (List Int) → (Bool → Option A) → Option A) (g_ushr : (List Int) → Int → ((List Int) → Option A) → Option A) (g_less : (List Int) → (List Int) → (Bool → Option A) → Option A) (g_add : (List Int) → (List Int) → ((List Int) → Option A) → Option A) (g_awake : (Bool → Option A) → Option A) (n : Nat) (a0 : (List Int)) (a1 : Int) (k : AV → List Blk → Option A) : fnK (shifts_E g_pow_ g_ushl g_big g_mul g_low g_uis g_ushr g_less g_add g_awake n) Tryd.f5 [.pure] [.p kA4u64 a0, .p (.int .i64) a1] [] k = shifts_p g_pow_ g_ushl g_big g_mul g_low g_uis g_ushr g_less g_add g_awake n a0 a1 (fun r0 => k (.p .bool r0) []) := by kernel_rfl
theorem shifts_eq (n : Nat) (a0 : (List Int)) (a1 : Int) (k : AV → List Blk → Option A) : fnK (shifts_E (pow__k n) (ushl_k n) (big_k n) (mul_k n) (low_k n) (uis_k n) (ushr_k n) (less_k n) (add_k n) (awake_k n) n) Tryd.f5 [.pure] [.p kA4u64 a0, .p (.int .i64) a1] [] k = shifts_k n a0 a1 (fun r0 => k (.p .bool r0) []) := shifts_eqg (pow__k n) (ushl_k n) (big_k n) (mul_k n) (low_k n) (uis_k n) (ushr_k n) (less_k n) (add_k n) (awake_k n) n a0 a1 k
def shifts_ent (g : (List Int) → Int → (Bool → Option A) → Option A) : Entry A := pureE fun args k => args2 args kA4u64 (.int .i64) fun a0 a1 => g a0 a1 (fun r0 => k (.p .bool r0) [])
theorem shifts_lo (n : Nat) : ∀ c, Tryd.f5.body = some c → ∀ q ∈ loopsOf 0 c, ∀ L, (shifts_E (A := A) (pow__k n) (ushl_k n) (big_k n) (mul_k n) (low_k n) (uis_k n) (ushr_k n) (less_k n) (add_k n) (awake_k n) n).lps.lookup q.1 = some L → LoopOK Tryd.prog gls q.2 L :=
  lo_body (E := shifts_E (pow__k n) (ushl_k n) (big_k n) (mul_k n) (low_k n) (uis_k n) (ushr_k n) (less_k n) (add_k n) (awake_k n) n) (by kernel_rfl : Tryd.f5.body = some (bodyOf Tryd.f5)) (lo_of (E := shifts_E (pow__k n) (ushl_k n) (big_k n) (mul_k n) (low_k n) (uis_k n) (ushr_k n) (less_k n) (add_k n) (awake_k n) n) (by kernel_rfl : loopsOf 0 (bodyOf Tryd.f5) = []) lo_nil)
theorem shifts_ok (n : Nat) : FnOK Tryd.prog gls 5 (shifts_ent (A := A) (shifts_k n)) :=
  FnOK.of (shifts_T (pow__k n) (ushl_k n) (big_k n) (mul_k n) (low_k n) (uis_k n) (ushr_k n) (less_k n) (add_k n) (awake_k n) n) (shifts_fns n) follows ⟨Tryd.func5, by kernel_rfl⟩ (shifts_lo n) (rm := [.pure]) fun args k out h => by
    obtain ⟨a0, a1, e, h1⟩ := args2_sound h
    subst e; rw [shifts_eq]; exact h1

end Go.Ev
end

section
/-
  THE LAWS OF WideQuos, WideMuls, WideShifts.
-/
set_option linter.all false
namespace Go.Ev

theorem uw_zero (x : Nat) (hx : x < 2 ^ 256) : deq kA4u64 (ints (uw x)) ([0, 0, 0, 0] : List Int) = decide (x = 0) := by
  by_cases h : x = 0
  · subst h; rw [zero_uw, deq_self]; rfl
  · rw [decide_eq_false h]
    cases hd : deq kA4u64 (ints (uw x)) ([0, 0, 0, 0] : List Int) with
    | false => rfl
    | true =>
      have h1 := (deq_iff kA4u64 _ _).1 hd
      rw [zero_uw] at h1
      have h2 := congrArg (fun l => wval (List.map Int.toNat l)) h1
      simp only [ints, List.map_map, Function.comp_def, Int.toNat_natCast, List.map_id'] at h2
      rw [wval_uw x hx, wval_uw 0 (by decide)] at h2
      exact absurd h2 h

theorem quos_law (a0 a1 : List Int) (f0 : WF kA4u64 a0) (f1 : WF kA4u64 a1) : ∃ n, quos_k n a0 a1 (fun r => some r) = some true := by
  refine ⟨1000, ?_⟩
  have haw : ∀ k : Bool → Option Bool, awake_k 1000 k = k true := awake_1000
  obtain ⟨n, hn⟩ : ∃ n, n = 1000 := ⟨1000, rfl⟩
  rw [← hn] at haw ⊢
  obtain ⟨x, rfl, hx⟩ := wf_four f0
  obtain ⟨y, rfl, hy⟩ := wf_four f1
  unfold quos_k quos_p
  by_cases h0 : y = 0
  · have e : ∀ g : List Int → List Int → Option Bool, uquo_k n (ints (uw x)) (ints (uw y)) g = g [0, 0, 0, 0] (ints (uw x)) := fun g => by
      unfold uquo_k uquo_p
      rw [uw_zero y hy, decide_eq_true h0, cond_true]
    rw [e, uw_zero y hy, decide_eq_true h0, cond_true, deq_self kA4u64, cond_true, deq_self, cond_true, haw]
  · have hq : x / y < 2 ^ 256 := Nat.lt_of_le_of_lt (Nat.div_le_self _ _) hx
    have hr : x % y < 2 ^ 256 := Nat.lt_of_le_of_lt (Nat.mod_le _ _) hx
    have l1 := dig_len256 x hx
    have l2 := dig_len256 y hy
    have l3 := dig_len256 _ hq
    have l4 := dig_len256 _ hr
    have hle := Nat.div_mul_le_self x y
    have l5 := dig_len256 (x / y * y) (Nat.lt_of_le_of_lt hle hx)
    rw [uquo_law n (by omega) x y hx hy h0, uw_zero y hy, decide_eq_false h0, cond_false, big_law n (by omega) _ hq, big_law n (by omega) _ hr, big_law n (by omega) x hx, big_law n (by omega) y hy,
      is_law n _ _ x y (by omega) (by omega) (by omega) (by omega) (by omega) (by omega) (Nat.mod_lt _ (by omega)) (Nat.div_add_mod' x y), cond_true, haw]

theorem of_one {A : Type} (n : Nat) (hn : 401 < n) (m : Nat) (hm : m < 18446744073709551616) (g : List Int → Option A) : of_k n [(m : Int)] g = g (ints (dig m)) := by
  have ho := of_law (A := A) n [m] (fun x hx => by rw [List.mem_singleton.1 hx]; omega) (show 1 < 100 by decide) hn g
  rw [show wval [m] = m from by simp [wval]] at ho
  exact ho
theorem word0 (x : Nat) (h : x < 18446744073709551616) : (ints (uw x))[0]? = some ((x : Nat) : Int) := by
  have w0 : wd x 0 = x := by unfold wd; rw [Nat.mul_zero, Nat.pow_zero, Nat.div_one]; omega
  rw [iuw_at _ 0 (by decide), w0]

theorem muls_law (a0 : List Int) (a1 : Int) (f0 : WF kA4u64 a0) (f1 : WF (.int .u64) a1) : ∃ n, muls_k n a0 a1 (fun r => some r) = some true := by
  refine ⟨1000, ?_⟩
  have haw : ∀ k : Bool → Option Bool, awake_k 1000 k = k true := awake_1000
  obtain ⟨n, hn⟩ : ∃ n, n = 1000 := ⟨1000, rfl⟩
  rw [← hn] at haw ⊢
  obtain ⟨x, rfl, hx⟩ := wf_four f0
  obtain ⟨c, rfl, hc⟩ := wf_int64 f1
  have l1 := dig_len256 x hx
  have l2 : (dig c).length ≤ 4 := dig_len c 4 (by omega)
  have l3 : (dig (x * c)).length ≤ 21 := dig_len_mul x c 256 64 21 (by decide) (by omega) (by omega)
  have m1 : x * c % 2 ^ 256 < 2 ^ 256 := Nat.mod_lt _ (Nat.two_pow_pos _)
  have hh : x * c / 2 ^ 256 < 18446744073709551616 := by
    rw [Nat.div_lt_iff_lt_mul (Nat.two_pow_pos _), Nat.mul_comm 18446744073709551616]
    exact Nat.mul_lt_mul_of_lt_of_le hx (by omega) (by decide)
  have l4 : (dig (x * c / 2 ^ 256)).length ≤ 4 := dig_len _ 4 (by omega)
  unfold muls_k muls_p
  rw [umul_law n (by omega) x c hx hc, big_law n (by omega) x hx, of_one n (by omega) c hc, mul_law n x c (by omega) (by omega), low_law n _ (by omega) (by omega), uis_true n _ m1 (by omega), cond_true, high_law n _ (by omega) (by omega), words_law n _ (by omega) (by omega), word0 _ hh, Option.bind_some,
    show (((x * c / 2 ^ 256 : Nat) : Int) == ((x * c / 2 ^ 256 : Nat) : Int)) = true from by simp, cond_true, haw]

theorem shl_big (x a : Nat) (h : 256 ≤ a) : x * 2 ^ a % 2 ^ 256 = 0 := by
  rw [show a = (a - 256) + 256 from by omega, Nat.pow_add, ← Nat.mul_assoc, Nat.mul_mod_left]

theorem shifts_law (a0 : List Int) (a1 : Int) (f0 : WF kA4u64 a0) (f1 : WF (.int .i64) a1) : ∃ n, shifts_k n a0 a1 (fun r => some r) = some true := by
  refine ⟨1000, ?_⟩
  have haw : ∀ k : Bool → Option Bool, awake_k 1000 k = k true := awake_1000
  obtain ⟨n, hn⟩ : ∃ n, n = 1000 := ⟨1000, rfl⟩
  rw [← hn] at haw ⊢
  obtain ⟨x, rfl, hx⟩ := wf_four f0
  have hm : imin (imax a1 0) 256 = ((min a1.toNat 256 : Nat) : Int) := by unfold imin imax; repeat' split <;> omega
  generalize ha : a1.toNat = a at hm
  have e1 : x * 2 ^ a % 2 ^ 256 = x * 2 ^ (min a 256) % 2 ^ 256 := by
    rcases Nat.lt_or_ge a 256 with h | h
    · rw [show min a 256 = a from by omega]
    · rw [shl_big x a h, shl_big x _ (by omega)]
  have hx2 : x < 2 ^ 256 := hx
  have hq : x / 2 ^ a * 2 ^ (min a 256) ≤ x ∧ x < x / 2 ^ a * 2 ^ (min a 256) + 2 ^ (min a 256) := by
    rcases Nat.lt_or_ge a 256 with h | h
    · rw [show min a 256 = a from by omega]
      exact ⟨Nat.div_mul_le_self _ _, Nat.lt_div_mul_add (Nat.two_pow_pos a)⟩
    · have e : x / 2 ^ a = 0 := Nat.div_eq_of_lt (Nat.lt_of_lt_of_le hx (Nat.pow_le_pow_right (by decide) h))
      rw [e, show min a 256 = 256 from by omega, Nat.zero_mul, Nat.zero_add]
      exact ⟨Nat.zero_le _, hx⟩
  have hqlt : x / 2 ^ a < 2 ^ 256 := Nat.lt_of_le_of_lt (Nat.div_le_self _ _) hx
  have l1 := dig_len256 x hx
  have l2 : (dig (2 ^ min a 256)).length ≤ 17 := dig_len_gen _ 256 17 (by decide) (Nat.pow_le_pow_right (by decide) (by omega))
  have l3 : (dig (x * 2 ^ min a 256)).length ≤ 33 := dig_len_mul _ _ 256 256 33 (by decide) (by omega) (Nat.pow_le_pow_right (by decide) (by omega))
  have l4 := dig_len256 _ hqlt
  have l5 := dig_len256 (x / 2 ^ a * 2 ^ (min a 256)) (by omega)
  have m1 : x * 2 ^ (min a 256) % 2 ^ 256 < 2 ^ 256 := Nat.mod_lt _ (Nat.two_pow_pos _)
  unfold shifts_k shifts_p
  rw [hm, pow_law n _ (by omega) (by omega), ushl_lawI n (by omega), ha, e1, big_law n (by omega) x hx, mul_law n x _ (by omega) (by omega), low_law n _ (by omega) (by omega), uis_true n _ m1 (by omega), Bool.not_true, cond_false,
    ushr_lawI n (by omega) x hx, ha, big_law n (by omega) _ hqlt, mul_law n _ _ (by omega) (by omega), big_law n (by omega) x hx, less_law n _ _ (by omega) (by omega), decide_eq_false (by omega), Bool.not_false, cond_true, big_law n (by omega) x hx, add_law n _ _ (by omega) (by omega), less_law n _ _ (by omega) (by omega), decide_eq_true hq.2, cond_true, haw]

end Go.Ev
end

section
/-
  FUNCTION 3: printed by a program of our own (wip/gen/st.py). 'masthead/mastheadlaw04.WideDivs', in continuation form; the evaluator gives it.
-/
set_option linter.all false
set_option maxRecDepth 100000
namespace Go.Ev
open Go.Proofs
variable {A : Type}

-- ============================================================ divs (function 3)
def divs_p (g_udiv : (List Int) → Int → ((List Int) → Int → Option A) → Option A) (g_awake : (Bool → Option A) → Option A) (g_big : (List Int) → ((List Int) → Option A) → Option A) (g_of : (List Int) → ((List Int) → Option A) → Option A) (g_is_ : (List Int) → (List Int) → (List Int) → (List Int) → (Bool → Option A) → Option A) (n : Nat) (a0 : (List Int)) (a1 : Int) (k : Bool → Option A) : Option A :=
  g_udiv a0 a1 fun r1 r2 =>
  bif (a1 == 0) then
    bif (deq kA4u64 r1 [0, 0, 0, 0]) then
      bif (r2 == 0) then
        g_awake fun r3 =>
        k r3
      else
        k false
    else
      k false
  else
    g_big r1 fun r4 =>
    g_of [r2] fun r5 =>
    g_big a0 fun r6 =>
    g_of [a1] fun r7 =>
    g_is_ r4 r5 r6 r7 fun r8 =>
    bif r8 then
      g_awake fun r9 =>
      k r9
    else
      k false

def divs_k (n : Nat) (a0 : (List Int)) (a1 : Int) (k : Bool → Option A) : Option A := divs_p (udiv_k n) (awake_k n) (big_k n) (of_k n) (is__k n) n a0 a1 k

noncomputable def divs_E (g_udiv : (List Int) → Int → ((List Int) → Int → Option A) → Option A) (g_awake : (Bool → Option A) → Option A) (g_big : (List Int) → ((List Int) → Option A) → Option A) (g_of : (List Int) → ((List Int) → Option A) → Option A) (g_is_ : (List Int) → (List Int) → (List Int) → (List Int) → (Bool → Option A) → Option A) (n : Nat) : Env A := ⟨tys, gls, [(12, udiv_ent g_udiv), (13, awake_ent g_awake), (15, big_ent g_big), (16, of_ent g_of), (14, is__ent g_is_)], [], []⟩
theorem divs_T (g_udiv : (List Int) → Int → ((List Int) → Int → Option A) → Option A) (g_awake : (Bool → Option A) → Option A) (g_big : (List Int) → ((List Int) → Option A) → Option A) (g_of : (List Int) → ((List Int) → Option A) → Option A) (g_is_ : (List Int) → (List Int) → (List Int) → (List Int) → (Bool → Option A) → Option A) (n : Nat) : TyOK Tryd.prog (divs_E g_udiv g_awake g_big g_of g_is_ n) := tyOK_of rfl tysB
theorem divs_fns (n : Nat) : FnsOK Tryd.prog (divs_E (A := A) (udiv_k n) (awake_k n) (big_k n) (of_k n) (is__k n) n) := AllOK.env rfl rfl (AllOK.cons (udiv_ok n) (AllOK.cons (awake_ok n) (AllOK.cons (big_ok n) (AllOK.cons (of_ok n) (AllOK.cons (is__ok n) AllOK.nil)))))
theorem divs_eqg (g_udiv : (List Int) → Int → ((List Int) → Int → Option A) → Option A) (g_awake : (Bool → Option A) → Option A) (g_big : (List Int) → ((List Int) → Option A) → Option A) (g_of : (List Int) → ((List Int) → Option A) → Option A) (g_is_ : (List Int) → (List Int) → (List Int) → (List Int) → (Bool → Option A) → Option A) (n : Nat) (a0 : (List Int)) (a1 : Int) (k : AV → List Blk → Option A) : fnK (divs_E g_udiv g_awake g_big g_of g_is_ n) Tryd.f3 [.pure] [.p kA4u64 a0, .p (.int .u64) a1] [] k = divs_p g_udiv g_awake g_big g_of g_is_ n a0 a1 (fun r0 => k (.p .bool r0) []) := by kernel_rfl
theorem divs_eq (n : Nat) (a0 : (List Int)) (a1 : Int) (k : AV → List Blk → Option A) : fnK (divs_E (udiv_k n) (awake_k n) (big_k n) (of_k n) (is__k n) n) Tryd.f3 [.pure] [.p kA4u64 a0, .p (.int .u64) a1] [] k = divs_k n a0 a1 (fun r0 => k (.p .bool r0) []) := divs_eqg (udiv_k n) (awake_k n) (big_k n) (of_k n) (is__k n) n a0 a1 k
def divs_ent (g : (List Int) → Int → (Bool → Option A) → Option A) : Entry A := pureE fun args k => args2 args kA4u64 (.int .u64) fun a0 a1 => g a0 a1 (fun r0 => k (.p .bool r0) [])
theorem divs_lo (n : Nat) : ∀ c, Tryd.f3.body = some c → ∀ q ∈ loopsOf 0 c, ∀ L, (divs_E (A := A) (udiv_k n) (awake_k n) (big_k n) (of_k n) (is__k n) n).lps.lookup q.1 = some L → LoopOK Tryd.prog gls q.2 L :=
  lo_body (E := divs_E (udiv_k n) (awake_k n) (big_k n) (of_k n) (is__k n) n) (by kernel_rfl : Tryd.f3.body = some (bodyOf Tryd.f3)) (lo_of (E := divs_E (udiv_k n) (awake_k n) (big_k n) (of_k n) (is__k n) n) (by kernel_rfl : loopsOf 0 (bodyOf Tryd.f3) = []) lo_nil)
theorem divs_ok (n : Nat) : FnOK Tryd.prog gls 3 (divs_ent (A := A) (divs_k n)) :=
  FnOK.of (divs_T (udiv_k n) (awake_k n) (big_k n) (of_k n) (is__k n) n) (divs_fns n) follows ⟨Tryd.func3, by kernel_rfl⟩ (divs_lo n) (rm := [.pure]) fun args k out h => by
    obtain ⟨a0, a1, e, h1⟩ := args2_sound h
    subst e; rw [divs_eq]; exact h1

end Go.Ev
end

section
/-
  FUNCTION 11: printed by a program of our own (wip/gen/st.py). 'masthead/mastheadlaw04.WideLaws', in continuation form; the evaluator gives it.
-/
set_option linter.all false
set_option maxRecDepth 100000
namespace Go.Ev
open Go.Proofs
variable {A : Type}

-- ============================================================ lawsl (function 11)
def lawsl_p (g_uadd : (List Int) → (List Int) → ((List Int) → Bool → Option A) → Option A) (g_umul : (List Int) → Int → ((List Int) → Int → Option A) → Option A) (g_ushl : (List Int) → Int → ((List Int) → Option A) → Option A) (g_ulen : (List Int) → (Int → Option A) → Option A) (g_ushr : (List Int) → Int → ((List Int) → Option A) → Option A) (g_ucmp : (List Int) → (List Int) → (Int → Option A) → Option A) (g_awake : (Bool → Option A) → Option A) (n : Nat) (a0 : (List Int)) (a1 : (List Int)) (a2 : Int) (k : Bool → Option A) : Option A :=
  g_uadd a0 a1 fun r1 r2 =>
  g_uadd a1 a0 fun r3 r4 =>
  bif (!(deq kA4u64 r1 r3)) then
    k false
  else
    bif (!(deq .bool r2 r4)) then
      k false
    else
      g_umul r1 a2 fun r5 r6 =>
      g_umul a0 a2 fun r7 r8 =>
      g_umul a1 a2 fun r9 r10 =>
      g_uadd r7 r9 fun r11 r12 =>
      g_uadd a0 a0 fun r13 r14 =>
      bif (deq kA4u64 r5 r11) then
        g_ushl a0 1 fun r15 =>
        bif (deq kA4u64 r15 r13) then
          g_ulen a0 fun r16 =>
          bif (deq .bool r14 (r16 == 256)) then
            g_ushl a0 1 fun r17 =>
            g_ushr r17 1 fun r18 =>
            (a0[0]?).bind fun y19 =>
            (a0[1]?).bind fun y20 =>
            (a0[2]?).bind fun y21 =>
            (a0[3]?).bind fun y22 =>
            bif (deq kA4u64 r18 [y19, y20, y21, (shr .u64 (shl .u64 y22 1) 1)]) then
              g_ucmp a0 a1 fun r23 =>
              g_ucmp a1 a0 fun r24 =>
              bif (r23 == (IntKind.wrap .i64 (0 - r24))) then
                g_awake fun r25 =>
                k r25
              else
                k false
            else
              k false
          else
            k false
        else
          k false
      else
        k false

def lawsl_k (n : Nat) (a0 : (List Int)) (a1 : (List Int)) (a2 : Int) (k : Bool → Option A) : Option A := lawsl_p (uadd_k n) (umul_k n) (ushl_k n) (ulen_k n) (ushr_k n) (ucmp_k n) (awake_k n) n a0 a1 a2 k

noncomputable def lawsl_E (g_uadd : (List Int) → (List Int) → ((List Int) → Bool → Option A) → Option A) (g_umul : (List Int) → Int → ((List Int) → Int → Option A) → Option A) (g_ushl : (List Int) → Int → ((List Int) → Option A) → Option A) (g_ulen : (List Int) → (Int → Option A) → Option A) (g_ushr : (List Int) → Int → ((List Int) → Option A) → Option A) (g_ucmp : (List Int) → (List Int) → (Int → Option A) → Option A) (g_awake : (Bool → Option A) → Option A) (n : Nat) : Env A := ⟨tys, gls, [(28, uadd_ent g_uadd), (33, umul_ent g_umul), (21, ushl_ent g_ushl), (37, ulen_ent g_ulen), (24, ushr_ent g_ushr), (36, ucmp_ent g_ucmp), (13, awake_ent g_awake)], [], []⟩
theorem lawsl_T (g_uadd : (List Int) → (List Int) → ((List Int) → Bool → Option A) → Option A) (g_umul : (List Int) → Int → ((List Int) → Int → Option A) → Option A) (g_ushl : (List Int) → Int → ((List Int) → Option A) → Option A) (g_ulen : (List Int) → (Int → Option A) → Option A) (g_ushr : (List Int) → Int → ((List Int) → Option A) → Option A) (g_ucmp : (List Int) → (List Int) → (Int → Option A) → Option A) (g_awake : (Bool → Option A) → Option A) (n : Nat) : TyOK Tryd.prog (lawsl_E g_uadd g_umul g_ushl g_ulen g_ushr g_ucmp g_awake n) := tyOK_of rfl tysB
theorem lawsl_fns (n : Nat) : FnsOK Tryd.prog (lawsl_E (A := A) (uadd_k n) (umul_k n) (ushl_k n) (ulen_k n) (ushr_k n) (ucmp_k n) (awake_k n) n) := AllOK.env rfl rfl (AllOK.cons (uadd_ok n) (AllOK.cons (umul_ok n) (AllOK.cons (ushl_ok n) (AllOK.cons (ulen_ok n) (AllOK.cons (ushr_ok n) (AllOK.cons (ucmp_ok n) (AllOK.cons (awake_ok n) AllOK.nil)))))))
theorem lawsl_eqg (g_uadd : (List Int) → (List Int) → ((List Int) → Bool → Option A) → Option A) (g_umul : (List Int) → Int → ((List Int) → Int → Option A) → Option A) (g_ushl : (List Int) → Int → ((List Int) → Option A) → Option A) (g_ulen : (List Int) → (Int → Option A) → Option A) (g_ushr : (List Int) → Int → ((List Int) → Option A) → Option A) (g_ucmp : (List Int) → (List Int) → (Int → Option A) → Option A) (g_awake : (Bool → Option A) → Option A) (n : Nat) (a0 : (List Int)) (a1 : (List Int)) (a2 : Int) (k : AV → List Blk → Option A) : fnK (lawsl_E g_uadd g_umul g_ushl g_ulen g_ushr g_ucmp g_awake n) Tryd.f11 [.pure] [.p kA4u64 a0, .p kA4u64 a1, .p (.int .u64) a2] [] k = lawsl_p g_uadd g_umul g_ushl g_ulen g_ushr g_ucmp g_awake n a0 a1 a2 (fun r0 => k (.p .bool r0) []) := by kernel_rfl
theorem lawsl_eq (n : Nat) (a0 : (List Int)) (a1 : (List Int)) (a2 : Int) (k : AV → List Blk → Option A) : fnK (lawsl_E (uadd_k n) (umul_k n) (ushl_k n) (ulen_k n) (ushr_k n) (ucmp_k n) (awake_k n) n) Tryd.f11 [.pure] [.p kA4u64 a0, .p kA4u64 a1, .p (.int .u64) a2] [] k = lawsl_k n a0 a1 a2 (fun r0 => k (.p .bool r0) []) := lawsl_eqg (uadd_k n) (umul_k n) (ushl_k n) (ulen_k n) (ushr_k n) (ucmp_k n) (awake_k n) n a0 a1 a2 k
def lawsl_ent (g : (List Int) → (List Int) → Int → (Bool → Option A) → Option A) : Entry A := pureE fun args k => args3 args kA4u64 kA4u64 (.int .u64) fun a0 a1 a2 => g a0 a1 a2 (fun r0 => k (.p .bool r0) [])
theorem lawsl_lo (n : Nat) : ∀ c, Tryd.f11.body = some c → ∀ q ∈ loopsOf 0 c, ∀ L, (lawsl_E (A := A) (uadd_k n) (umul_k n) (ushl_k n) (ulen_k n) (ushr_k n) (ucmp_k n) (awake_k n) n).lps.lookup q.1 = some L → LoopOK Tryd.prog gls q.2 L :=
  lo_body (E := lawsl_E (uadd_k n) (umul_k n) (ushl_k n) (ulen_k n) (ushr_k n) (ucmp_k n) (awake_k n) n) (by kernel_rfl : Tryd.f11.body = some (bodyOf Tryd.f11)) (lo_of (E := lawsl_E (uadd_k n) (umul_k n) (ushl_k n) (ulen_k n) (ushr_k n) (ucmp_k n) (awake_k n) n) (by kernel_rfl : loopsOf 0 (bodyOf Tryd.f11) = []) lo_nil)
theorem lawsl_ok (n : Nat) : FnOK Tryd.prog gls 11 (lawsl_ent (A := A) (lawsl_k n)) :=
  FnOK.of (lawsl_T (uadd_k n) (umul_k n) (ushl_k n) (ulen_k n) (ushr_k n) (ucmp_k n) (awake_k n) n) (lawsl_fns n) follows ⟨Tryd.func11, by kernel_rfl⟩ (lawsl_lo n) (rm := [.pure]) fun args k out h => by
    obtain ⟨a0, a1, a2, e, h1⟩ := args3_sound h
    subst e; rw [lawsl_eq]; exact h1

end Go.Ev
end

section
/-
  THE LAWS OF WideDivs, WideLaws.
-/
set_option linter.all false
namespace Go.Ev
variable {A : Type}

def MixD (z x i : Nat) (l : List Nat) : Prop := l.length = 4 ∧ ∀ j, j < 4 → l[j]? = some (if i ≤ j then wd z j else wd x j)
theorem MixD.start (z x : Nat) : MixD z x 4 (uw x) := ⟨rfl, fun j hj => by rw [uw_at x j hj, if_neg (by omega)]⟩
theorem MixD.step {z x i : Nat} {l : List Nat} (h : MixD z x (i + 1) l) (hi : i < 4) : MixD z x i (l.set i (wd z i)) := by
  refine ⟨by rw [List.length_set]; exact h.1, fun j hj => ?_⟩
  by_cases hji : i = j
  · subst hji; rw [List.getElem?_set_self (by rw [h.1]; exact hi), if_pos (by omega)]
  · rw [List.getElem?_set_ne hji, h.2 j hj]
    by_cases h2 : i + 1 ≤ j
    · rw [if_pos h2, if_pos (by omega)]
    · rw [if_neg h2, if_neg (by omega)]
theorem MixD.done {z x : Nat} {l : List Nat} (h : MixD z x 0 l) : l = uw z := uw_ext z l h.1 fun i hi => by rw [h.2 i hi, if_pos (by omega)]
theorem MixD.at {z x i : Nat} {l : List Nat} (h : MixD z x (i + 1) l) (hi : i < 4) : (ints l)[i]? = some ((wd x i : Nat) : Int) := by
  rw [ints_get, h.2 i hi, if_neg (by omega)]; rfl

theorem digit_step (M I w : Nat) (hI : 0 < I) (hI2 : I < 18446744073709551616) (hw : w < 18446744073709551616) :
    (M % I * 18446744073709551616 + w) / I = (M * 18446744073709551616 + w) / I % 18446744073709551616 ∧ (M % I * 18446744073709551616 + w) % I = (M * 18446744073709551616 + w) % I := by
  have h1 : M * 18446744073709551616 + w = M % I * 18446744073709551616 + w + I * (M / I * 18446744073709551616) := by
    have h := Nat.div_add_mod M I
    calc M * 18446744073709551616 + w = (I * (M / I) + M % I) * 18446744073709551616 + w := by rw [h]
      _ = I * (M / I) * 18446744073709551616 + M % I * 18446744073709551616 + w := by rw [Nat.add_mul]
      _ = M % I * 18446744073709551616 + w + I * (M / I * 18446744073709551616) := by rw [Nat.mul_assoc]; omega
  have hm : M % I < I := Nat.mod_lt _ hI
  have hlt : (M % I * 18446744073709551616 + w) / I < 18446744073709551616 := by
    rw [Nat.div_lt_iff_lt_mul hI]
    omega
  constructor
  · rw [h1, Nat.add_mul_div_left _ _ hI, Nat.add_mul_mod_self_right, Nat.mod_eq_of_lt hlt]
  · rw [h1, Nat.add_mul_mod_self_left]

theorem udiv_l0_law (n : Nat) (hn : 10 < n) (N I : Nat) (hI : 0 < I) (hI2 : I < 18446744073709551616) (t6 : List Int) (k0 : Int → List Int → Option A) : ∀ (i f : Nat) (l : List Nat), i ≤ 4 → i < f → MixD (N / I) N i l →
    udiv_l0 (div64_k n) n (I : Int) t6 k0 f ((N / 2 ^ (64 * i) % I : Nat) : Int) ((i : Int) - 1) (ints l) = k0 ((N % I : Nat) : Int) (ints (uw (N / I))) := by
  intro i
  induction i with
  | zero =>
    intro f l _ hf hm
    obtain ⟨f, rfl⟩ : ∃ g, f = g + 1 := ⟨f - 1, by omega⟩
    rw [udiv_l0, udiv_b0, decide_eq_false (show ¬ ((0 : Nat) : Int) - 1 ≥ 0 by omega), cond_false, hm.done, Nat.mul_zero, Nat.pow_zero, Nat.div_one]
  | succ i ih =>
    intro f l hi hf hm
    obtain ⟨f, rfl⟩ : ∃ g, f = g + 1 := ⟨f - 1, by omega⟩
    have e0 : ((i + 1 : Nat) : Int) - 1 = (i : Int) := by omega
    have e1 : IntKind.wrap .i64 ((i : Int) - 1) = (i : Int) - 1 := wrap_id (by omega) (by omega)
    have hs := wd_split N i
    have hb := wd_lt N i
    obtain ⟨d1, d2⟩ := digit_step (N / 2 ^ (64 * (i + 1))) I (wd N i) hI hI2 hb
    have e2 : N / 2 ^ (64 * (i + 1)) * 18446744073709551616 + wd N i = N / 2 ^ (64 * i) := by rw [hs, Nat.add_comm, Nat.mul_comm]
    rw [e2] at d1 d2
    have e3 : N / 2 ^ (64 * i) / I % 18446744073709551616 = wd (N / I) i := by unfold wd; rw [Nat.div_div_eq_div_mul, Nat.mul_comm, ← Nat.div_div_eq_div_mul]
    rw [udiv_l0, udiv_b0, e0, decide_eq_true (show (i : Int) ≥ 0 by omega), cond_true, if_pos (by omega), if_pos (by omega), Int.toNat_natCast, hm.at (by omega), Option.bind_some,
      div64_law n hn _ _ I hI2 (Nat.mod_lt _ hI) hb, if_pos (by omega), if_pos (by omega), if_pos (by omega), d1, d2, e1, e3, ints_set]
    exact ih f _ (by omega) (by omega) (hm.step (by omega))

theorem udiv_law (n : Nat) (hn : 10 < n) (x I : Nat) (hx : x < 2 ^ 256) (hI : 0 < I) (hI2 : I < 18446744073709551616) (g : List Int → Int → Option A) : udiv_k n (ints (uw x)) (I : Int) g = g (ints (uw (x / I))) ((x % I : Nat) : Int) := by
  unfold udiv_k udiv_p
  rw [show ((I : Int) == 0) = false from by rw [beq_eq_false_iff_ne]; omega, cond_false]
  have h := udiv_l0_law n hn x I hI hI2 [0, 0, 0, 0] (fun y4 y5 => g y5 y4) 4 n (uw x) (by omega) (by omega) (.start _ _)
  rw [show 2 ^ (64 * 4) = 2 ^ 256 from by decide, Nat.div_eq_of_lt hx, Nat.zero_mod] at h
  exact h

theorem divs_law (a0 : List Int) (a1 : Int) (f0 : WF kA4u64 a0) (f1 : WF (.int .u64) a1) : ∃ n, divs_k n a0 a1 (fun r => some r) = some true := by
  refine ⟨1000, ?_⟩
  have haw : ∀ k : Bool → Option Bool, awake_k 1000 k = k true := awake_1000
  obtain ⟨n, hn⟩ : ∃ n, n = 1000 := ⟨1000, rfl⟩
  rw [← hn] at haw ⊢
  obtain ⟨x, rfl, hx⟩ := wf_four f0
  obtain ⟨c, rfl, hc⟩ := wf_int64 f1
  unfold divs_k divs_p
  by_cases h0 : c = 0
  · subst h0
    have e : ∀ g : List Int → Int → Option Bool, udiv_k n (ints (uw x)) ((0 : Nat) : Int) g = g [0, 0, 0, 0] 0 := fun g => rfl
    rw [e, show (((0 : Nat) : Int) == 0) = true from rfl, cond_true, deq_self kA4u64, cond_true, show ((0 : Int) == 0) = true from rfl, cond_true, haw]
  · have hq : x / c < 2 ^ 256 := Nat.lt_of_le_of_lt (Nat.div_le_self _ _) hx
    have hr : x % c < c := Nat.mod_lt _ (by omega)
    have l1 := dig_len256 x hx
    have l2 : (dig c).length ≤ 4 := dig_len c 4 (by omega)
    have l3 := dig_len256 _ hq
    have l4 : (dig (x % c)).length ≤ 4 := dig_len _ 4 (by omega)
    have hle := Nat.div_mul_le_self x c
    have l5 := dig_len256 (x / c * c) (Nat.lt_of_le_of_lt hle hx)
    rw [udiv_law n (by omega) x c hx (by omega) hc, show ((c : Int) == 0) = false from by rw [beq_eq_false_iff_ne]; omega, cond_false, big_law n (by omega) _ hq, of_one n (by omega) _ (by omega), big_law n (by omega) x hx, of_one n (by omega) c hc,
      is_law n _ _ x c (by omega) (by omega) (by omega) (by omega) (by omega) (by omega) hr (Nat.div_add_mod' x c), cond_true, haw]

theorem ucmp_neg (x y : Nat) : (ucmpN x y == IntKind.wrap .i64 (0 - ucmpN y x)) = true := by
  have h : IntKind.wrap .i64 (0 - ucmpN y x) = ucmpN x y := by
    rcases Nat.lt_trichotomy x y with h | h | h
    · have a : ucmpN x y = -1 := by unfold ucmpN; rw [if_pos h]
      have b : ucmpN y x = 1 := by unfold ucmpN; rw [if_neg (by omega), if_pos h]
      rw [a, b]; decide
    · subst h
      have a : ucmpN x x = 0 := by unfold ucmpN; rw [if_neg (by omega), if_neg (by omega)]
      rw [a]; decide
    · have a : ucmpN y x = -1 := by unfold ucmpN; rw [if_pos h]
      have b : ucmpN x y = 1 := by unfold ucmpN; rw [if_neg (by omega), if_pos h]
      rw [a, b]; decide
  rw [h]; simp

theorem laws_num (x : Nat) (hx : x < 2 ^ 256) : ints (uw (x * 2 ^ 1 % 2 ^ 256 / 2 ^ 1)) = [((wd x 0 : Nat) : Int), ((wd x 1 : Nat) : Int), ((wd x 2 : Nat) : Int), shr .u64 (shl .u64 ((wd x 3 : Nat) : Int) 1) 1] := by
  have e1 : shr .u64 (shl .u64 ((wd x 3 : Nat) : Int) 1) 1 = ((wd x 3 % 9223372036854775808 : Nat) : Int) := by
    rw [show (1 : Int) = ((1 : Nat) : Int) from rfl, shl_u64 _ 1 (by decide), shr_u64 _ 1 (by decide)]
    have := wd_lt x 3
    congr 1; omega
  have e2 : x * 2 ^ 1 % 2 ^ 256 / 2 ^ 1 = x % 2 ^ 255 := by
    rw [show (2 : Nat) ^ 256 = 2 ^ 255 * 2 ^ 1 from by decide, Nat.mul_mod_mul_right, Nat.mul_div_cancel _ (by decide)]
  have e3 : uw (x % 2 ^ 255) = [wd x 0, wd x 1, wd x 2, wd x 3 % 9223372036854775808] := by
    have key : ∀ i, wd (x % 2 ^ 255) i = (wd x i) % 2 ^ (255 - 64 * i) := fun i => by
      apply Nat.eq_of_testBit_eq
      intro t
      rw [wd_testBit, Nat.testBit_mod_two_pow, Nat.testBit_mod_two_pow, wd_testBit]
      by_cases h : 64 * i + t < 255
      · have : t < 255 - 64 * i := by omega
        simp [h, this]
      · have : ¬ t < 255 - 64 * i := by omega
        simp [h, this]
    rw [uw_wd, key 0, key 1, key 2, key 3]
    have b : ∀ i k, 64 ≤ k → wd x i % 2 ^ k = wd x i := fun i k h => Nat.mod_eq_of_lt (Nat.lt_of_lt_of_le (wd_lt x i) (by rw [show (18446744073709551616 : Nat) = 2 ^ 64 from by decide]; exact Nat.pow_le_pow_right (by decide) h))
    rw [b 0 _ (by omega), b 1 _ (by omega), b 2 _ (by omega)]
  rw [e1, e2, e3]; rfl

theorem lawsl_law (a0 a1 : List Int) (a2 : Int) (f0 : WF kA4u64 a0) (f1 : WF kA4u64 a1) (f2 : WF (.int .u64) a2) : ∃ n, lawsl_k n a0 a1 a2 (fun r => some r) = some true := by
  refine ⟨1000, ?_⟩
  have haw : ∀ k : Bool → Option Bool, awake_k 1000 k = k true := awake_1000
  obtain ⟨n, hn⟩ : ∃ n, n = 1000 := ⟨1000, rfl⟩
  rw [← hn] at haw ⊢
  obtain ⟨x, rfl, hx⟩ := wf_four f0
  obtain ⟨y, rfl, hy⟩ := wf_four f1
  obtain ⟨c, rfl, hc⟩ := wf_int64 f2
  have hP : 0 < 2 ^ 256 := Nat.two_pow_pos _
  unfold lawsl_k lawsl_p
  rw [uadd_law n (by omega) x y hx hy, uadd_law n (by omega) y x hy hx, Nat.add_comm y x, deq_self kA4u64, Bool.not_true, cond_false, deq_self .bool, Bool.not_true, cond_false, umul_law n (by omega) _ c (Nat.mod_lt _ hP) hc, umul_law n (by omega) x c hx hc, umul_law n (by omega) y c hy hc, uadd_law n (by omega) _ _ (Nat.mod_lt _ hP) (Nat.mod_lt _ hP), uadd_law n (by omega) x x hx hx]
  have e1 : (x + y) % 2 ^ 256 * c % 2 ^ 256 = (x * c % 2 ^ 256 + y * c % 2 ^ 256) % 2 ^ 256 := by
    rw [Nat.mod_mul_mod, Nat.add_mul, ← Nat.add_mod]
  have s1 := ushl_law (A := Bool) n (by omega) x 1
  have e2 : x * 2 ^ 1 % 2 ^ 256 = (x + x) % 2 ^ 256 := by rw [Nat.pow_one, Nat.mul_two]
  have e3 : deq .bool (decide (2 ^ 256 ≤ x + x)) (((bl x : Nat) : Int) == 256) = true := by
    rw [deq_iff]
    have hb : bl x ≤ 256 := (bl_le x 256).2 hx
    have hb2 := bl_le x 255
    have h255 : (2 : Nat) ^ 256 = 2 ^ 255 + 2 ^ 255 := by decide
    by_cases h : 2 ^ 256 ≤ x + x
    · have : ¬ bl x ≤ 255 := fun h2 => by have := hb2.1 h2; omega
      show decide _ = _
      rw [decide_eq_true h, show bl x = 256 from by omega]; rfl
    · have : bl x ≤ 255 := hb2.2 (by omega)
      show decide _ = _
      rw [decide_eq_false h]; symm; rw [beq_eq_false_iff_ne]; omega
  have sh : ∀ z, z < 2 ^ 256 → ∀ g : List Int → Option Bool, ushr_k n (ints (uw z)) 1 g = g (ints (uw (z / 2 ^ 1))) := fun z hz g => ushr_law n (by omega) z 1 hz g
  rw [e1, deq_self kA4u64, cond_true, show (1 : Int) = ((1 : Nat) : Int) from rfl, s1, e2, deq_self kA4u64, cond_true, ulen_law n (by omega) x hx, e3, cond_true, s1]
  rw [show ((1 : Nat) : Int) = (1 : Int) from rfl, sh _ (Nat.mod_lt _ hP), iuw_at x 0 (by decide), Option.bind_some, iuw_at x 1 (by decide), Option.bind_some, iuw_at x 2 (by decide), Option.bind_some, iuw_at x 3 (by decide), Option.bind_some, laws_num x hx, deq_self, cond_true, ucmp_law n (by omega) x y hx hy, ucmp_law n (by omega) y x hy hx, ucmp_neg, cond_true, haw]

end Go.Ev
end

section
/-
  FUNCTION 4: printed by a program of our own (wip/gen/st.py). 'masthead/mastheadlaw04.WideTexts', in continuation form; the evaluator gives it.
-/
set_option linter.all false
set_option maxRecDepth 100000
namespace Go.Ev
open Go.Proofs
variable {A : Type}

-- ============================================================ texts (function 4)
def texts_p (g_utext : (List Int) → (ByteArray → Option A) → Option A) (g_big : (List Int) → ((List Int) → Option A) → Option A) (g_rtext : (List Int) → (ByteArray → Option A) → Option A) (g_awake : (Bool → Option A) → Option A) (n : Nat) (a0 : (List Int)) (k : Bool → Option A) : Option A :=
  g_utext a0 fun r1 =>
  g_big a0 fun r2 =>
  g_rtext r2 fun r3 =>
  bif (r1.toList == r3.toList) then
    g_awake fun r4 =>
    k r4
  else
    k false

def texts_k (n : Nat) (a0 : (List Int)) (k : Bool → Option A) : Option A := texts_p (utext_k n) (big_k n) (rtext_k n) (awake_k n) n a0 k

noncomputable def texts_E (g_utext : (List Int) → (ByteArray → Option A) → Option A) (g_big : (List Int) → ((List Int) → Option A) → Option A) (g_rtext : (List Int) → (ByteArray → Option A) → Option A) (g_awake : (Bool → Option A) → Option A) (n : Nat) : Env A := ⟨tys, gls, [(17, utext_ent g_utext), (15, big_ent g_big), (18, rtext_ent g_rtext), (13, awake_ent g_awake)], [], []⟩
theorem texts_T (g_utext : (List Int) → (ByteArray → Option A) → Option A) (g_big : (List Int) → ((List Int) → Option A) → Option A) (g_rtext : (List Int) → (ByteArray → Option A) → Option A) (g_awake : (Bool → Option A) → Option A) (n : Nat) : TyOK Tryd.prog (texts_E g_utext g_big g_rtext g_awake n) := tyOK_of rfl tysB
theorem texts_fns (n : Nat) : FnsOK Tryd.prog (texts_E (A := A) (utext_k n) (big_k n) (rtext_k n) (awake_k n) n) := AllOK.env rfl rfl (AllOK.cons (utext_ok n) (AllOK.cons (big_ok n) (AllOK.cons (rtext_ok n) (AllOK.cons (awake_ok n) AllOK.nil))))
theorem texts_eqg (g_utext : (List Int) → (ByteArray → Option A) → Option A) (g_big : (List Int) → ((List Int) → Option A) → Option A) (g_rtext : (List Int) → (ByteArray → Option A) → Option A) (g_awake : (Bool → Option A) → Option A) (n : Nat) (a0 : (List Int)) (k : AV → List Blk → Option A) : fnK (texts_E g_utext g_big g_rtext g_awake n) Tryd.f4 [.pure] [.p kA4u64 a0] [] k = texts_p g_utext g_big g_rtext g_awake n a0 (fun r0 => k (.p .bool r0) []) := by kernel_rfl
theorem texts_eq (n : Nat) (a0 : (List Int)) (k : AV → List Blk → Option A) : fnK (texts_E (utext_k n) (big_k n) (rtext_k n) (awake_k n) n) Tryd.f4 [.pure] [.p kA4u64 a0] [] k = texts_k n a0 (fun r0 => k (.p .bool r0) []) := texts_eqg (utext_k n) (big_k n) (rtext_k n) (awake_k n) n a0 k
def texts_ent (g : (List Int) → (Bool → Option A) → Option A) : Entry A := pureE fun args k => args1 args kA4u64 fun a0 => g a0 (fun r0 => k (.p .bool r0) [])
theorem texts_lo (n : Nat) : ∀ c, Tryd.f4.body = some c → ∀ q ∈ loopsOf 0 c, ∀ L, (texts_E (A := A) (utext_k n) (big_k n) (rtext_k n) (awake_k n) n).lps.lookup q.1 = some L → LoopOK Tryd.prog gls q.2 L :=
  lo_body (E := texts_E (utext_k n) (big_k n) (rtext_k n) (awake_k n) n) (by kernel_rfl : Tryd.f4.body = some (bodyOf Tryd.f4)) (lo_of (E := texts_E (utext_k n) (big_k n) (rtext_k n) (awake_k n) n) (by kernel_rfl : loopsOf 0 (bodyOf Tryd.f4) = []) lo_nil)
theorem texts_ok (n : Nat) : FnOK Tryd.prog gls 4 (texts_ent (A := A) (texts_k n)) :=
  FnOK.of (texts_T (utext_k n) (big_k n) (rtext_k n) (awake_k n) n) (texts_fns n) follows ⟨Tryd.func4, by kernel_rfl⟩ (texts_lo n) (rm := [.pure]) fun args k out h => by
    obtain ⟨a0, e, h1⟩ := args1_sound h
    subst e; rw [texts_eq]; exact h1

end Go.Ev
end

section
/-
  THE LAW OF WideTexts.
-/
set_option linter.all false
namespace Go.Ev
variable {A : Type}

theorem deq_zero (x : Nat) (hx : x < 2 ^ 256) : deq kA4u64 (ints (uw x)) ([0, 0, 0, 0] : List Int) = decide (x = 0) := by
  by_cases h0 : x = 0
  · subst h0; rw [zero_uw, deq_self]; rfl
  · rw [decide_eq_false h0]
    cases hd : deq kA4u64 (ints (uw x)) ([0, 0, 0, 0] : List Int) with
    | false => rfl
    | true =>
      have h1 := (deq_iff kA4u64 _ _).1 hd
      rw [zero_uw] at h1
      have h2 := congrArg (fun l => wval (List.map Int.toNat l)) h1
      simp only [ints, List.map_map, Function.comp_def, Int.toNat_natCast, List.map_id'] at h2
      rw [wval_uw x hx, wval_uw 0 (by decide)] at h2
      exact absurd h2 h0

/-- Nineteen digits at once, the last ones first. -/
def dchunks (x : Nat) : List (List Nat) := if x = 0 then [] else if x < 10000000000000000000 then [dec x] else fd 19 (x % 10000000000000000000) :: dchunks (x / 10000000000000000000)
termination_by x
decreasing_by omega

theorem p19 : (10 : Nat) ^ 19 = 10000000000000000000 := by decide
theorem dchunks_zero : dchunks 0 = [] := by rw [dchunks]; rfl
theorem dchunks_lt {x : Nat} (h0 : x ≠ 0) (h : x < 10000000000000000000) : dchunks x = [dec x] := by rw [dchunks, if_neg h0, if_pos h]
theorem dchunks_ge {x : Nat} (h : ¬ x < 10000000000000000000) : dchunks x = fd 19 (x % 10000000000000000000) :: dchunks (x / 10000000000000000000) := by rw [dchunks, if_neg (by omega), if_neg h]
theorem dchunks_flat (x : Nat) (h0 : x ≠ 0) : (dchunks x).reverse.flatten = dec x := by
  induction x using Nat.strongRecOn with
  | _ x ih =>
    by_cases h : x < 10000000000000000000
    · rw [dchunks_lt h0 h]; simp
    · rw [dchunks_ge h, List.reverse_cons, List.flatten_append, ih _ (by omega) (by omega)]
      have e := dec_append 19 x (by rw [p19]; omega)
      have e2 := fd_mod 19 x
      rw [p19] at e e2
      rw [e, e2]; simp
theorem dchunks_len : ∀ m x, x < 10000000000000000000 ^ m → (dchunks x).length ≤ m
  | 0, x, h => by have : x = 0 := by omega
                  subst this; rw [dchunks_zero]; simp
  | m + 1, x, h => by
    by_cases h0 : x = 0
    · subst h0; rw [dchunks_zero]; simp
    · by_cases h1 : x < 10000000000000000000
      · rw [dchunks_lt h0 h1]; simp
      · rw [dchunks_ge h1, List.length_cons]
        rw [Nat.pow_succ] at h
        have := dchunks_len m (x / 10000000000000000000) ((Nat.div_lt_iff_lt_mul (by decide)).2 h)
        omega

section
variable (GU : List Int → Int → (List Int → Int → Option A) → Option A) (GF : Int → Int → (ByteArray → Option A) → Option A) (GR : List ByteArray → (List ByteArray → Option A) → Option A)

theorem utext_l1_law (n : Nat) (a : List Int) (ps : List ByteArray) (y : Nat) (hy : y < 2 ^ 256) (k0 : ByteArray → Option A) : ∀ (d f k r : Nat), k + d = 19 → d < f → r < 10 ^ k →
    utext_l1 GU GF GR n a ps (ints (uw y)) k0 f (tb (fd k r)) = k0 (tb (if y = 0 then fd k r else fd 19 r)) := by
  intro d
  induction d with
  | zero =>
    intro f k r hk hf hr
    obtain ⟨f, rfl⟩ : ∃ g, f = g + 1 := ⟨f - 1, by omega⟩
    have : k = 19 := by omega
    subst this
    rw [utext_l1, utext_b1, deq_zero y hy, tb_size, fd_length]
    by_cases h0 : y = 0
    · rw [decide_eq_true h0, Bool.not_true, cond_false, if_pos h0]
    · rw [decide_eq_false h0, Bool.not_false, cond_true, decide_eq_false (by omega), cond_false, if_neg h0]
  | succ d ih =>
    intro f k r hk hf hr
    obtain ⟨f, rfl⟩ : ∃ g, f = g + 1 := ⟨f - 1, by omega⟩
    rw [utext_l1, utext_b1, deq_zero y hy, tb_size, fd_length]
    by_cases h0 : y = 0
    · rw [decide_eq_true h0, Bool.not_true, cond_false, if_pos h0]
    · have e : str1 = tb [48] := rfl
      rw [decide_eq_false h0, Bool.not_false, cond_true, decide_eq_true (by omega), cond_true, e, tb_size, if_pos (by rw [List.length_singleton]; omega), tb_app]
      rw [show [48] ++ fd k r = fd (k + 1) r from fd_lead k r hr, ih f (k + 1) r (by omega) (by omega) (Nat.lt_of_lt_of_le hr (Nat.pow_le_pow_right (by decide) (by omega))), if_neg h0, if_neg h0]

theorem utext_l2_law (n : Nat) (P : List (List Nat)) (k0 : ByteArray → Option A) (hP : P.length < 1000) : ∀ (d f i : Nat) (o : List Nat), i + d = P.length → d < f → o.length + (P.drop i).flatten.length < 1000 →
    utext_l2 GU GF GR n (P.length : Int) (P.map tb) k0 f (tb o) (i : Int) = k0 (tb (o ++ (P.drop i).flatten)) := by
  intro d
  induction d with
  | zero =>
    intro f i o hi hf _
    obtain ⟨f, rfl⟩ : ∃ g, f = g + 1 := ⟨f - 1, by omega⟩
    rw [utext_l2, utext_b2, decide_eq_false (by omega), cond_false, List.drop_eq_nil_of_le (by omega)]
    simp
  | succ d ih =>
    intro f i o hi hf ho
    obtain ⟨f, rfl⟩ : ∃ g, f = g + 1 := ⟨f - 1, by omega⟩
    have hlt : i < P.length := by omega
    have e1 : IntKind.wrap .i64 ((i : Int) + 1) = ((i + 1 : Nat) : Int) := by rw [wrap_id (by omega) (by omega)]; omega
    have e2 : (P.map tb)[i]? = some (tb P[i]) := by rw [List.getElem?_map, List.getElem?_eq_getElem hlt]; rfl
    have e3 : (P.drop i).flatten = P[i] ++ (P.drop (i + 1)).flatten := by rw [List.drop_eq_getElem_cons hlt, List.flatten_cons]
    rw [e3, List.length_append] at ho
    rw [utext_l2, utext_b2, decide_eq_true (by omega), cond_true, if_pos (by omega), List.length_map, if_pos (by omega), Int.toNat_natCast, e2, Option.bind_some, tb_size, tb_size, if_pos (by omega), e1, tb_app, ih f (i + 1) (o ++ P[i]) (by omega) (by omega) (by rw [List.length_append]; omega), e3, List.append_assoc]
end

theorem utext_l0_law (n : Nat) (hn : 100 < n) (k0 : List ByteArray → Option A) : ∀ (m f x : Nat) (P : List (List Nat)), x < 2 ^ 256 → x < 10000000000000000000 ^ m → m < f → P.length + m ≤ 5 →
    utext_l0 (udiv_k n) (fmt_k n) (reverse_k n) n k0 f (ints (uw x)) (P.map tb) = k0 ((P ++ dchunks x).map tb) := by
  intro m
  induction m with
  | zero =>
    intro f x P hx hm hf _
    obtain ⟨f, rfl⟩ : ∃ g, f = g + 1 := ⟨f - 1, by omega⟩
    have : x = 0 := by omega
    subst this
    rw [utext_l0, utext_b0, deq_zero 0 hx, decide_eq_true rfl, Bool.not_true, cond_false, dchunks_zero, List.append_nil]
  | succ m ih =>
    intro f x P hx hm hf hP
    obtain ⟨f, rfl⟩ : ∃ g, f = g + 1 := ⟨f - 1, by omega⟩
    rw [utext_l0, utext_b0, deq_zero x hx]
    by_cases h0 : x = 0
    · subst h0
      rw [decide_eq_true rfl, Bool.not_true, cond_false, dchunks_zero, List.append_nil]
    · rw [decide_eq_false h0, Bool.not_false, cond_true, show (10000000000000000000 : Int) = ((10000000000000000000 : Nat) : Int) from rfl, udiv_law n (by omega) x _ hx (by decide) (by decide)]
      have hr : x % 10000000000000000000 < 10000000000000000000 := Nat.mod_lt _ (by decide)
      obtain ⟨k, k1, k2, k3, k4⟩ := dec_k (x % 10000000000000000000) 19 (by decide) (by rw [p19]; exact hr)
      have hq : x / 10000000000000000000 < 2 ^ 256 := Nat.lt_of_le_of_lt (Nat.div_le_self _ _) hx
      rw [fmt_law n _ (by omega) (by omega), k4]
      rw [utext_l1_law (udiv_k n) (fmt_k n) (reverse_k n) n _ _ (x / 10000000000000000000) hq _ (19 - k) n k _ (by omega) (by omega) k3]
      rw [List.length_map, if_pos (by omega)]
      have key : (dchunks x) = (if x / 10000000000000000000 = 0 then fd k (x % 10000000000000000000) else fd 19 (x % 10000000000000000000)) :: dchunks (x / 10000000000000000000) := by
        by_cases h1 : x < 10000000000000000000
        · rw [if_pos (by omega), show x / 10000000000000000000 = 0 from by omega, dchunks_zero, dchunks_lt h0 h1, ← k4, Nat.mod_eq_of_lt h1]
        · rw [if_neg (by omega), dchunks_ge h1]
      rw [Nat.pow_succ] at hm
      have h := ih f (x / 10000000000000000000) (P ++ [if x / 10000000000000000000 = 0 then fd k (x % 10000000000000000000) else fd 19 (x % 10000000000000000000)]) hq ((Nat.div_lt_iff_lt_mul (by decide)).2 hm) (by omega) (by rw [List.length_append, List.length_singleton]; omega)
      rw [List.map_append, List.map_cons, List.map_nil] at h
      rw [h, key, List.append_assoc]; rfl

theorem p256_19 : (2 : Nat) ^ 256 < 10000000000000000000 ^ 5 := by decide
theorem utext_law (n : Nat) (hn : 100 < n) (x : Nat) (hx : x < 2 ^ 256) (g : ByteArray → Option A) : utext_k n (ints (uw x)) g = g (tb (dec x)) := by
  unfold utext_k utext_p
  have hm := Nat.lt_trans hx p256_19
  rw [show ([] : List ByteArray) = ([] : List (List Nat)).map tb from rfl, utext_l0_law n hn _ 5 n x [] hx hm (by omega) (by simp), List.nil_append, List.length_map]
  have hl := dchunks_len 5 x hm
  by_cases h0 : x = 0
  · subst h0
    rw [dchunks_zero, dec_lt (by decide)]
    rfl
  · have hne : (dchunks x).length ≠ 0 := by
      by_cases h1 : x < 10000000000000000000
      · rw [dchunks_lt h0 h1]; simp
      · rw [dchunks_ge h1]; simp
    have e : (((dchunks x).length : Int) == 0) = false := by rw [beq_eq_false_iff_ne]; omega
    rw [e, cond_false, reverse_law n (by omega) _ (by rw [List.length_map]; exact hl), ← List.map_reverse, List.length_map]
    have hd := dec_len 78 x (by decide) (Nat.lt_trans hx pow256_10)
    have h := utext_l2_law (udiv_k n) (fmt_k n) (reverse_k n) n (dchunks x).reverse (fun y8 => g y8) (by rw [List.length_reverse]; omega) (dchunks x).length n 0 [] (by rw [List.length_reverse]; omega) (by omega) (by rw [List.drop_zero, dchunks_flat x h0, List.length_nil]; omega)
    rw [List.drop_zero, dchunks_flat x h0, List.nil_append, tb_nil] at h
    exact h

theorem texts_law (a0 : List Int) (f0 : WF kA4u64 a0) : ∃ n, texts_k n a0 (fun r => some r) = some true := by
  obtain ⟨x, rfl, hx⟩ := wf_four f0
  refine ⟨1000, ?_⟩
  have haw : ∀ k : Bool → Option Bool, awake_k 1000 k = k true := awake_1000
  have hn : 1000 ≤ 1000 := Nat.le_refl _
  generalize hN : 1000 = n at haw
  unfold texts_k texts_p
  rw [utext_law n (by omega) x hx, big_law n (by omega) x hx, rtext_law n x (by omega) hx]
  rw [beq_self_eq_true, cond_true, haw]

end Go.Ev
end

