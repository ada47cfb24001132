import Derived.Test.YtpblkfccnaapbaaDoorB6
import Derived.Test.YtpblkfccnaapbaaDoorB8
import Derived.Test.YtpblkfccnaapbaaDoorB5
import Derived.Test.YtpblkfccnaapbaaDoorB7
set_option linter.all false
section
/-
  OF DIGITS to four words.
-/
set_option linter.all false
namespace Go.Ev
variable {A : Type}

theorem dig_at : ∀ (i x : Nat), (h : i < (dig x).length) → (dig x)[i] = x / 65536 ^ i % 65536
  | i, x, h => by
    have hx : x ≠ 0 := fun e => by subst e; rw [dig_zero] at h; exact Nat.not_lt_zero _ h
    have e := dig_pos hx
    match i with
    | 0 =>
      simp only [e, List.getElem_cons_zero, Nat.pow_zero, Nat.div_one]
    | i + 1 =>
      have h2 : i < (dig (x / 65536)).length := by rw [e] at h; simp at h; omega
      have := dig_at i (x / 65536) h2
      simp only [e, List.getElem_cons_succ]
      rw [this, Nat.div_div_eq_div_mul, Nat.pow_succ, Nat.mul_comm]

/-- The word j, its digits from i on read so far. -/
def outAt (x i j : Nat) : Nat := x / 2 ^ (16 * max i (4 * j)) % 2 ^ (16 * (4 * j + 4 - max i (4 * j)))
def ow (x i : Nat) : List Nat := [outAt x i 0, outAt x i 1, outAt x i 2, outAt x i 3]
theorem outAt_lt (x i j : Nat) : outAt x i j < 18446744073709551616 := by
  refine Nat.lt_of_lt_of_le (Nat.mod_lt _ (Nat.two_pow_pos _)) ?_
  rw [show 18446744073709551616 = 2 ^ 64 from by decide]
  exact Nat.pow_le_pow_right (by decide) (by omega)
theorem outAt_none (x i j : Nat) (h : 4 * j + 4 ≤ i) : outAt x i j = 0 := by
  unfold outAt
  rw [show 4 * j + 4 - max i (4 * j) = 0 from by omega, Nat.mul_zero, Nat.pow_zero, Nat.mod_one]
theorem outAt_big (x i j : Nat) (h : x < 2 ^ (16 * i)) : outAt x i j = 0 := by
  unfold outAt
  rw [Nat.div_eq_of_lt (Nat.lt_of_lt_of_le h (Nat.pow_le_pow_right (by decide) (by omega))), Nat.zero_mod]
theorem outAt_done (x j : Nat) : outAt x 0 j = wd x j := by
  unfold outAt wd
  rw [show max 0 (4 * j) = 4 * j from by omega, show 4 * j + 4 - 4 * j = 4 from by omega, show 16 * (4 * j) = 64 * j from by omega]
theorem outAt_step (x i : Nat) : outAt x i (i / 4) = outAt x (i + 1) (i / 4) * 65536 + x / 65536 ^ i % 65536 := by
  unfold outAt
  have h1 : max i (4 * (i / 4)) = i := by omega
  have h2 : max (i + 1) (4 * (i / 4)) = i + 1 := by omega
  have h3 : 16 * (4 * (i / 4) + 4 - i) = 16 + 16 * (4 * (i / 4) + 4 - (i + 1)) := by omega
  rw [h1, h2, h3, Nat.pow_add 2 16, Nat.mod_mul, show 16 * (i + 1) = 16 * i + 16 from by omega, Nat.pow_add, ← Nat.div_div_eq_div_mul, show (65536 : Nat) = 2 ^ 16 from by decide, ← Nat.pow_mul]
  rw [Nat.mul_comm (2 ^ 16), Nat.add_comm]
theorem outAt_other (x i j : Nat) (h : j ≠ i / 4) : outAt x (i + 1) j = outAt x i j := by
  rcases Nat.lt_or_ge (i / 4) j with h1 | h1
  · unfold outAt
    rw [show max (i + 1) (4 * j) = 4 * j from by omega, show max i (4 * j) = 4 * j from by omega]
  · rw [outAt_none _ _ _ (by omega), outAt_none _ _ _ (by omega)]
theorem ow_at (x i j : Nat) (h : j < 4) : (ow x i)[j]? = some (outAt x i j) := by
  rcases j with _ | _ | _ | _ | j
  · rfl
  · rfl
  · rfl
  · rfl
  · omega
theorem ow_set (x i : Nat) (h : i < 16) : (ow x (i + 1)).set (i / 4) (outAt x i (i / 4)) = ow x i := by
  apply List.ext_getElem?
  intro j
  by_cases hj : j < 4
  · rw [ow_at x i j hj]
    by_cases he : i / 4 = j
    · subst he; rw [List.getElem?_set_self (by exact hj)]
    · rw [List.getElem?_set_ne he, ow_at _ _ _ hj, outAt_other _ _ _ (fun e => he e.symm)]
  · rw [List.getElem?_eq_none (by rw [List.length_set]; show 4 ≤ j; omega), List.getElem?_eq_none (by show 4 ≤ j; omega)]

theorem words_l0_law (n : Nat) (x : Nat) (t2 : List Int) (k0 : List Int → Option A) (hl : (dig x).length < 100000) : ∀ (i f : Nat), i ≤ (dig x).length → i < f →
    words_l0 n (ints (dig x)) t2 k0 f ((i : Int) - 1) (ints (ow x i)) = k0 (ints (uw x)) := by
  intro i
  induction i with
  | zero =>
    intro f _ hf
    obtain ⟨f, rfl⟩ : ∃ g, f = g + 1 := ⟨f - 1, by omega⟩
    rw [words_l0, words_b0, decide_eq_false (show ¬ ((0 : Nat) : Int) - 1 ≥ 0 by omega), cond_false]
    have e : ow x 0 = uw x := by rw [uw_wd]; unfold ow; rw [outAt_done, outAt_done, outAt_done, outAt_done]
    rw [e]
  | succ i ih =>
    intro f hi hf
    obtain ⟨f, rfl⟩ : ∃ g, f = g + 1 := ⟨f - 1, by omega⟩
    have e0 : ((i + 1 : Nat) : Int) - 1 = (i : Int) := by omega
    have e1 : IntKind.wrap .i64 ((i : Int) - 1) = (i : Int) - 1 := wrap_id (by omega) (by omega)
    rw [words_l0, words_b0, e0, decide_eq_true (show (i : Int) ≥ 0 by omega), cond_true, e1]
    by_cases h16 : i < 16
    · have e2 : IntKind.wrap .i64 (Int.tdiv (i : Int) 4) = ((i / 4 : Nat) : Int) := by
        rw [show (4 : Int) = ((4 : Nat) : Int) from rfl, tdiv_nat]; exact wrap_id (by omega) (by omega)
      have hlt : i < (dig x).length := by omega
      have ho := outAt_step x i
      have hb := outAt_lt x i (i / 4)
      have hd : x / 65536 ^ i % 65536 < 65536 := Nat.mod_lt _ (by decide)
      have e3 : (ints (ow x (i + 1)))[i / 4]? = some ((outAt x (i + 1) (i / 4) : Nat) : Int) := by rw [ints_get, ow_at _ _ _ (by omega)]; rfl
      have e4 : IntKind.wrap .u64 (IntKind.wrap .u64 (((outAt x (i + 1) (i / 4) : Nat) : Int) * 65536) + IntKind.wrap .u64 ((x / 65536 ^ i % 65536 : Nat) : Int)) = ((outAt x i (i / 4) : Nat) : Int) := by
        rw [wrap_u64_nat (x / 65536 ^ i % 65536) (by omega), show ((outAt x (i + 1) (i / 4) : Nat) : Int) * 65536 = ((outAt x (i + 1) (i / 4) * 65536 : Nat) : Int) from by omega, wrap_u64_nat _ (by omega), ← Int.natCast_add, wrap_u64_nat _ (by omega), ← ho]
      rw [decide_eq_true (show (i : Int) < 16 by omega), cond_true, e2, if_pos (by omega), if_pos (by omega), Int.toNat_natCast, Int.toNat_natCast, e3, Option.bind_some, if_pos (by omega), ints_at _ i hlt, Option.bind_some, if_pos (by omega), if_pos (by omega), if_pos (by omega), dig_at i x hlt, e4, ints_set, ow_set x i h16]
      exact ih f (by omega) (by omega)
    · rw [decide_eq_false (show ¬ (i : Int) < 16 by omega), cond_false]
      have e2 : ow x (i + 1) = ow x i := by
        unfold ow
        rw [outAt_other x i 0 (by omega), outAt_other x i 1 (by omega), outAt_other x i 2 (by omega), outAt_other x i 3 (by omega)]
      rw [e2]
      exact ih f (by omega) (by omega)

theorem dig_bound (x : Nat) : x < 2 ^ (16 * (dig x).length) := by
  have h := bval_lt (dig x) (dig_Dig x)
  rw [bval_dig, show 65536 = 2 ^ 16 from by decide, ← Nat.pow_mul] at h
  exact h

theorem words_law (n x : Nat) (hl : (dig x).length < 100000) (hn : (dig x).length < n) (g : List Int → Option A) : words_k n (ints (dig x)) g = g (ints (uw x)) := by
  unfold words_k words_p
  have e : ow x (dig x).length = [0, 0, 0, 0] := by
    unfold ow
    rw [outAt_big x _ 0 (dig_bound x), outAt_big x _ 1 (dig_bound x), outAt_big x _ 2 (dig_bound x), outAt_big x _ 3 (dig_bound x)]
  have h := words_l0_law n x [0, 0, 0, 0] (fun y3 => g y3) hl (dig x).length n (Nat.le_refl _) hn
  rw [e] at h
  rw [ints_length, wrap_id (x := ((dig x).length : Int) - 1) (by omega) (by omega)]
  exact h

end Go.Ev
end

section
/-
  FUNCTION 44: printed by a program of our own (wip/gen/st.py). 'math/bits.Add64', in continuation form; the evaluator gives it.
-/
set_option linter.all false
set_option maxRecDepth 100000
namespace Go.Ev
open Go.Proofs
variable {A : Type}

-- ============================================================ add64 (function 44), the model's own
def add64_k (n : Nat) (x y c : Int) (k : Int → Int → Option A) : Option A :=
  if 0 ≤ x then if 0 ≤ y then if 0 ≤ c then if c ≤ 1 then k ((x + y + c) % 18446744073709551616) ((x + y + c) / 18446744073709551616) else none else none else none else none

def add64_ent (g : Int → Int → Int → (Int → Int → Option A) → Option A) : Entry A := pureE fun args k => args3 args (.int .u64) (.int .u64) (.int .u64) fun a0 a1 a2 => g a0 a1 a2 (fun r0 r1 => k (.tup [.p (.int .u64) r0, .p (.int .u64) r1]) [])
theorem add64_ok (n : Nat) : FnOK Tryd.prog gls 44 (add64_ent (A := A) (add64_k n)) := carry_ok (h := fun x y c => ((x + y + c) % 18446744073709551616, (x + y + c) / 18446744073709551616)) (e := add64Entry) Tryd.func44 rfl (by kernel_rfl) (by kernel_rfl) (by kernel_rfl) (fun x y c h1 h2 h3 h4 P w => run_add64 x y c h1 h2 h3 h4 w) fun args k out h => by
    obtain ⟨a0, a1, a2, e, h1⟩ := args3_sound h
    subst e; exact ⟨a0, a1, a2, rfl, h1⟩


end Go.Ev
end

section
/-
  FUNCTION 28: printed by a program of our own (wip/gen/st.py). '(masthead/wide.U).Add', in continuation form; the evaluator gives it.
-/
set_option linter.all false
set_option maxRecDepth 100000
namespace Go.Ev
open Go.Proofs
variable {A : Type}

-- ============================================================ uadd (function 28)
def uadd_b0 (g_add64 : Int → Int → Int → (Int → Int → Option A) → Option A) (n : Nat) (b : (List Int)) (t4 : (List Int)) (k0 : Int → (List Int) → Option A) (r : Int → Int → (List Int) → Option A) (c : Int) (t8 : Int) (a : (List Int)) : Option A :=
  bif (decide (t8 < 4)) then
    if 0 ≤ t8 then
      if t8 < 4 then
        (a[(Int.toNat t8)]?).bind fun y1 =>
        if 0 ≤ t8 then
          if t8 < 4 then
            (b[(Int.toNat t8)]?).bind fun y2 =>
            g_add64 y1 y2 c fun r3 r4 =>
            if 0 ≤ t8 then
              if t8 < 4 then
                if (Int.toNat t8) < 4 then
                  r r4 (IntKind.wrap .i64 (t8 + 1)) (a.set (Int.toNat t8) r3)
                else none
              else none
            else none
          else none
        else none
      else none
    else none
  else
    k0 c a

def uadd_l0 (g_add64 : Int → Int → Int → (Int → Int → Option A) → Option A) (n : Nat) (b : (List Int)) (t4 : (List Int)) (k0 : Int → (List Int) → Option A) : Nat → Int → Int → (List Int) → Option A
  | 0 => fun _ _ _ => none
  | f + 1 => uadd_b0 g_add64 n b t4 k0 (uadd_l0 g_add64 n b t4 k0 f)

def uadd_p (g_add64 : Int → Int → Int → (Int → Int → Option A) → Option A) (n : Nat) (a0 : (List Int)) (a1 : (List Int)) (k : (List Int) → Bool → Option A) : Option A :=
  uadd_l0 g_add64 n a1 [0, 0, 0, 0] (fun y5 y6 =>
    k y6 (decide (y5 > 0))) n 0 0 a0

def uadd_k (n : Nat) (a0 : (List Int)) (a1 : (List Int)) (k : (List Int) → Bool → Option A) : Option A := uadd_p (add64_k n) n a0 a1 k

noncomputable def uadd_c0 : Code := codeAt [1, 1, 0, 1, 0, 0] (bodyOf Tryd.f28)
def uadd_d0 : List Nat := [0, 1, 5, 7, 9, 10, 11, 12, 13, 14, 15, 16, 17, 18, 19, 20, 21, 22, 23, 24]
def uadd_y0 : List Nat := [0, 1, 3, 5, 7, 8, 9, 10, 11, 12, 13, 14, 15, 16, 17, 18, 19, 20, 21, 22, 23, 24, 25, 26, 27]
def uadd_sh0 : Shape := ⟨[.any, .any, (.ptr 0), (.ptr 1), (.ptr 2), .any, (.p (.int .u64)), .any, (.p (.int .i64)), .any, .any, .any, .any, .any, .any, .any, .any, .any, .any, .any, .any, .any, .any, .any, .any, .any, .any, .any], [(.var 24 kA4u64 (.p kA4u64)), (.var 24 kA4u64 (.p kA4u64)), (.var 24 kA4u64 (.p kA4u64))], 0⟩
def uadd_t0 (b : (List Int)) (t4 : (List Int)) (c : Int) (t8 : Int) (a : (List Int)) : uadd_sh0.den := (((), (), (), (), (), (), c, (), t8, (), (), (), (), (), (), (), (), (), (), (), (), (), (), (), (), (), (), (), ()), (a, b, t4, ()))
def uadd_x0_0 (b : (List Int)) (t4 : (List Int)) (z0 : Int) (z1 : (List Int)) : St := ⟨[.any, .any, .ptr 0 [], .any, .ptr 1 [], .any, .p (.int .u64) z0, .any, .any, .any, .any, .any, .any, .any, .any, .any, .any, .any, .any, .any, .any, .any, .any, .any, .any, .any, .any, .any], [.var 24 kA4u64 (.p kA4u64 z1), .var 24 kA4u64 (.p kA4u64 t4)], 0⟩
def uadd_g0 (g_add64 : Int → Int → Int → (Int → Int → Option A) → Option A) (n : Nat) (d : uadd_sh0.den) (k : Ex → St → Option A) : Option A :=
  uadd_l0 g_add64 n d.2.2.1 d.2.2.2.1 (fun z0 z1 => k (.exit 0) (uadd_x0_0 d.2.2.1 d.2.2.2.1 z0 z1)) n d.1.2.2.2.2.2.2.1 d.1.2.2.2.2.2.2.2.2.1 d.2.1
noncomputable def uadd_E (g_add64 : Int → Int → Int → (Int → Int → Option A) → Option A) (n : Nat) : Env A := ⟨tys, gls, [(44, add64_ent g_add64)], [(0, loopE uadd_d0 uadd_sh0 (uadd_g0 g_add64 n))], []⟩
theorem uadd_T (g_add64 : Int → Int → Int → (Int → Int → Option A) → Option A) (n : Nat) : TyOK Tryd.prog (uadd_E g_add64 n) := tyOK_of rfl tysB
theorem uadd_fns (n : Nat) : FnsOK Tryd.prog (uadd_E (A := A) (add64_k n) n) := AllOK.env rfl rfl (AllOK.cons (add64_ok n) AllOK.nil)
noncomputable def uadd_LK0 (g_add64 : Int → Int → Int → (Int → Int → Option A) → Option A) (n : Nat) (b : (List Int)) (t4 : (List Int)) (k : Ex → St → Option A) (f : Nat) (c : Int) (t8 : Int) (a : (List Int)) : Option A := loopK (codeK (uadd_E g_add64 n) 1 uadd_c0) uadd_d0 uadd_y0 f (uadd_sh0.fill (uadd_t0 b t4 c t8 a)) k
theorem uadd_st0 (g_add64 : Int → Int → Int → (Int → Int → Option A) → Option A) (n f : Nat) (b : (List Int)) (t4 : (List Int)) (k : Ex → St → Option A) (c : Int) (t8 : Int) (a : (List Int)) : uadd_LK0 g_add64 n b t4 k (f + 1) c t8 a = uadd_b0 g_add64 n b t4 (fun z0 z1 => k (.exit 0) (uadd_x0_0 b t4 z0 z1)) (uadd_LK0 g_add64 n b t4 k f) c t8 a := by kernel_rfl
theorem uadd_le0 (g_add64 : Int → Int → Int → (Int → Int → Option A) → Option A) (n : Nat) (b : (List Int)) (t4 : (List Int)) (k : Ex → St → Option A) : ∀ (f : Nat) (c : Int) (t8 : Int) (a : (List Int)), uadd_LK0 g_add64 n b t4 k f c t8 a = uadd_l0 g_add64 n b t4 (fun z0 z1 => k (.exit 0) (uadd_x0_0 b t4 z0 z1)) f c t8 a := by
  intro f
  induction f with
  | zero => intros; kernel_rfl
  | succ f ih => intro c t8 a; exact (uadd_st0 g_add64 n f b t4 k c t8 a).trans ((congrArg (fun r => uadd_b0 g_add64 n b t4 (fun z0 z1 => k (.exit 0) (uadd_x0_0 b t4 z0 z1)) r c t8 a) (funext fun c => funext fun t8 => funext fun a => ih c t8 a)).trans (by kernel_rfl))
theorem uadd_lo0 (n : Nat) : LoopOK Tryd.prog gls uadd_c0 (loopE uadd_d0 uadd_sh0 (uadd_g0 (A := A) (add64_k n) n)) :=
  LoopOK.of (uadd_T (add64_k n) n) (uadd_fns n) follows (j := 1) (n := n) (xdead := uadd_y0) (lo_of (by kernel_rfl : loopsOf 1 uadd_c0 = []) lo_nil) fun d k => Eq.trans (by kernel_rfl) (uadd_le0 (add64_k n) n d.2.2.1 d.2.2.2.1 k n d.1.2.2.2.2.2.2.1 d.1.2.2.2.2.2.2.2.2.1 d.2.1)
theorem uadd_eqg (g_add64 : Int → Int → Int → (Int → Int → Option A) → Option A) (n : Nat) (a0 : (List Int)) (a1 : (List Int)) (k : AV → List Blk → Option A) : fnK (uadd_E g_add64 n) Tryd.f28 [.pure, .pure] [.p kA4u64 a0, .p kA4u64 a1] [] k = uadd_p g_add64 n a0 a1 (fun r0 r1 => k (.tup [.p kA4u64 r0, .p .bool r1]) []) := by kernel_rfl
theorem uadd_eq (n : Nat) (a0 : (List Int)) (a1 : (List Int)) (k : AV → List Blk → Option A) : fnK (uadd_E (add64_k n) n) Tryd.f28 [.pure, .pure] [.p kA4u64 a0, .p kA4u64 a1] [] k = uadd_k n a0 a1 (fun r0 r1 => k (.tup [.p kA4u64 r0, .p .bool r1]) []) := uadd_eqg (add64_k n) n a0 a1 k
def uadd_ent (g : (List Int) → (List Int) → ((List Int) → Bool → Option A) → Option A) : Entry A := pureE fun args k => args2 args kA4u64 kA4u64 fun a0 a1 => g a0 a1 (fun r0 r1 => k (.tup [.p kA4u64 r0, .p .bool r1]) [])
theorem uadd_lo (n : Nat) : ∀ c, Tryd.f28.body = some c → ∀ q ∈ loopsOf 0 c, ∀ L, (uadd_E (A := A) (add64_k n) n).lps.lookup q.1 = some L → LoopOK Tryd.prog gls q.2 L :=
  lo_body (E := uadd_E (add64_k n) n) (by kernel_rfl : Tryd.f28.body = some (bodyOf Tryd.f28)) (lo_of (E := uadd_E (add64_k n) n) (by kernel_rfl : loopsOf 0 (bodyOf Tryd.f28) = [(0, uadd_c0)]) (lo_cons rfl (uadd_lo0 n) lo_nil))
theorem uadd_ok (n : Nat) : FnOK Tryd.prog gls 28 (uadd_ent (A := A) (uadd_k n)) :=
  FnOK.of (uadd_T (add64_k n) n) (uadd_fns n) follows ⟨Tryd.func28, by kernel_rfl⟩ (uadd_lo n) (rm := [.pure, .pure]) fun args k out h => by
    obtain ⟨a0, a1, e, h1⟩ := args2_sound h
    subst e; rw [uadd_eq]; exact h1

end Go.Ev
end

section
/-
  FUNCTION 45: printed by a program of our own (wip/gen/st.py). 'math/bits.Sub64', in continuation form; the evaluator gives it.
-/
set_option linter.all false
set_option maxRecDepth 100000
namespace Go.Ev
open Go.Proofs
variable {A : Type}

-- ============================================================ sub64 (function 45), the model's own
def sub64_k (n : Nat) (x y c : Int) (k : Int → Int → Option A) : Option A :=
  if 0 ≤ x then if 0 ≤ y then if 0 ≤ c then if c ≤ 1 then if x < 18446744073709551616 then if y < 18446744073709551616 then k ((x - y - c) % 18446744073709551616) (if x < y + c then 1 else 0) else none else none else none else none else none else none

def sub64_ent (g : Int → Int → Int → (Int → Int → Option A) → Option A) : Entry A := pureE fun args k => args3 args (.int .u64) (.int .u64) (.int .u64) fun a0 a1 a2 => g a0 a1 a2 (fun r0 r1 => k (.tup [.p (.int .u64) r0, .p (.int .u64) r1]) [])
theorem sub64_ok (n : Nat) : FnOK Tryd.prog gls 45 (sub64_ent (A := A) (sub64_k n)) := borrow_ok (h := fun x y c => ((x - y - c) % 18446744073709551616, if x < y + c then 1 else 0)) (e := sub64Entry) Tryd.func45 rfl (by kernel_rfl) (by kernel_rfl) (by kernel_rfl) (fun x y c h1 h2 h3 h4 h5 h6 P w => run_sub64 x y c h1 h2 h3 h4 h5 h6 w) fun args k out h => by
    obtain ⟨a0, a1, a2, e, h1⟩ := args3_sound h
    subst e; exact ⟨a0, a1, a2, rfl, h1⟩


end Go.Ev
end

section
/-
  FUNCTION 29: printed by a program of our own (wip/gen/st.py). '(masthead/wide.U).Sub', in continuation form; the evaluator gives it.
-/
set_option linter.all false
set_option maxRecDepth 100000
namespace Go.Ev
open Go.Proofs
variable {A : Type}

-- ============================================================ usub (function 29)
def usub_b0 (g_sub64 : Int → Int → Int → (Int → Int → Option A) → Option A) (n : Nat) (b : (List Int)) (t4 : (List Int)) (k0 : Int → (List Int) → Option A) (r : Int → Int → (List Int) → Option A) (c : Int) (t8 : Int) (a : (List Int)) : Option A :=
  bif (decide (t8 < 4)) then
    if 0 ≤ t8 then
      if t8 < 4 then
        (a[(Int.toNat t8)]?).bind fun y1 =>
        if 0 ≤ t8 then
          if t8 < 4 then
            (b[(Int.toNat t8)]?).bind fun y2 =>
            g_sub64 y1 y2 c fun r3 r4 =>
            if 0 ≤ t8 then
              if t8 < 4 then
                if (Int.toNat t8) < 4 then
                  r r4 (IntKind.wrap .i64 (t8 + 1)) (a.set (Int.toNat t8) r3)
                else none
              else none
            else none
          else none
        else none
      else none
    else none
  else
    k0 c a

def usub_l0 (g_sub64 : Int → Int → Int → (Int → Int → Option A) → Option A) (n : Nat) (b : (List Int)) (t4 : (List Int)) (k0 : Int → (List Int) → Option A) : Nat → Int → Int → (List Int) → Option A
  | 0 => fun _ _ _ => none
  | f + 1 => usub_b0 g_sub64 n b t4 k0 (usub_l0 g_sub64 n b t4 k0 f)

def usub_p (g_sub64 : Int → Int → Int → (Int → Int → Option A) → Option A) (n : Nat) (a0 : (List Int)) (a1 : (List Int)) (k : (List Int) → Bool → Option A) : Option A :=
  usub_l0 g_sub64 n a1 [0, 0, 0, 0] (fun y5 y6 =>
    k y6 (decide (y5 > 0))) n 0 0 a0

def usub_k (n : Nat) (a0 : (List Int)) (a1 : (List Int)) (k : (List Int) → Bool → Option A) : Option A := usub_p (sub64_k n) n a0 a1 k

noncomputable def usub_c0 : Code := codeAt [1, 1, 0, 1, 0, 0] (bodyOf Tryd.f29)
def usub_d0 : List Nat := [0, 1, 5, 7, 9, 10, 11, 12, 13, 14, 15, 16, 17, 18, 19, 20, 21, 22, 23, 24]
def usub_y0 : List Nat := [0, 1, 3, 5, 7, 8, 9, 10, 11, 12, 13, 14, 15, 16, 17, 18, 19, 20, 21, 22, 23, 24, 25, 26, 27]
def usub_sh0 : Shape := ⟨[.any, .any, (.ptr 0), (.ptr 1), (.ptr 2), .any, (.p (.int .u64)), .any, (.p (.int .i64)), .any, .any, .any, .any, .any, .any, .any, .any, .any, .any, .any, .any, .any, .any, .any, .any, .any, .any, .any], [(.var 24 kA4u64 (.p kA4u64)), (.var 24 kA4u64 (.p kA4u64)), (.var 24 kA4u64 (.p kA4u64))], 0⟩
def usub_t0 (b : (List Int)) (t4 : (List Int)) (c : Int) (t8 : Int) (a : (List Int)) : usub_sh0.den := (((), (), (), (), (), (), c, (), t8, (), (), (), (), (), (), (), (), (), (), (), (), (), (), (), (), (), (), (), ()), (a, b, t4, ()))
def usub_x0_0 (b : (List Int)) (t4 : (List Int)) (z0 : Int) (z1 : (List Int)) : St := ⟨[.any, .any, .ptr 0 [], .any, .ptr 1 [], .any, .p (.int .u64) z0, .any, .any, .any, .any, .any, .any, .any, .any, .any, .any, .any, .any, .any, .any, .any, .any, .any, .any, .any, .any, .any], [.var 24 kA4u64 (.p kA4u64 z1), .var 24 kA4u64 (.p kA4u64 t4)], 0⟩
def usub_g0 (g_sub64 : Int → Int → Int → (Int → Int → Option A) → Option A) (n : Nat) (d : usub_sh0.den) (k : Ex → St → Option A) : Option A :=
  usub_l0 g_sub64 n d.2.2.1 d.2.2.2.1 (fun z0 z1 => k (.exit 0) (usub_x0_0 d.2.2.1 d.2.2.2.1 z0 z1)) n d.1.2.2.2.2.2.2.1 d.1.2.2.2.2.2.2.2.2.1 d.2.1
noncomputable def usub_E (g_sub64 : Int → Int → Int → (Int → Int → Option A) → Option A) (n : Nat) : Env A := ⟨tys, gls, [(45, sub64_ent g_sub64)], [(0, loopE usub_d0 usub_sh0 (usub_g0 g_sub64 n))], []⟩
theorem usub_T (g_sub64 : Int → Int → Int → (Int → Int → Option A) → Option A) (n : Nat) : TyOK Tryd.prog (usub_E g_sub64 n) := tyOK_of rfl tysB
theorem usub_fns (n : Nat) : FnsOK Tryd.prog (usub_E (A := A) (sub64_k n) n) := AllOK.env rfl rfl (AllOK.cons (sub64_ok n) AllOK.nil)
noncomputable def usub_LK0 (g_sub64 : Int → Int → Int → (Int → Int → Option A) → Option A) (n : Nat) (b : (List Int)) (t4 : (List Int)) (k : Ex → St → Option A) (f : Nat) (c : Int) (t8 : Int) (a : (List Int)) : Option A := loopK (codeK (usub_E g_sub64 n) 1 usub_c0) usub_d0 usub_y0 f (usub_sh0.fill (usub_t0 b t4 c t8 a)) k
theorem usub_st0 (g_sub64 : Int → Int → Int → (Int → Int → Option A) → Option A) (n f : Nat) (b : (List Int)) (t4 : (List Int)) (k : Ex → St → Option A) (c : Int) (t8 : Int) (a : (List Int)) : usub_LK0 g_sub64 n b t4 k (f + 1) c t8 a = usub_b0 g_sub64 n b t4 (fun z0 z1 => k (.exit 0) (usub_x0_0 b t4 z0 z1)) (usub_LK0 g_sub64 n b t4 k f) c t8 a := by kernel_rfl
theorem usub_le0 (g_sub64 : Int → Int → Int → (Int → Int → Option A) → Option A) (n : Nat) (b : (List Int)) (t4 : (List Int)) (k : Ex → St → Option A) : ∀ (f : Nat) (c : Int) (t8 : Int) (a : (List Int)), usub_LK0 g_sub64 n b t4 k f c t8 a = usub_l0 g_sub64 n b t4 (fun z0 z1 => k (.exit 0) (usub_x0_0 b t4 z0 z1)) f c t8 a := by
  intro f
  induction f with
  | zero => intros; kernel_rfl
  | succ f ih => intro c t8 a; exact (usub_st0 g_sub64 n f b t4 k c t8 a).trans ((congrArg (fun r => usub_b0 g_sub64 n b t4 (fun z0 z1 => k (.exit 0) (usub_x0_0 b t4 z0 z1)) r c t8 a) (funext fun c => funext fun t8 => funext fun a => ih c t8 a)).trans (by kernel_rfl))
theorem usub_lo0 (n : Nat) : LoopOK Tryd.prog gls usub_c0 (loopE usub_d0 usub_sh0 (usub_g0 (A := A) (sub64_k n) n)) :=
  LoopOK.of (usub_T (sub64_k n) n) (usub_fns n) follows (j := 1) (n := n) (xdead := usub_y0) (lo_of (by kernel_rfl : loopsOf 1 usub_c0 = []) lo_nil) fun d k => Eq.trans (by kernel_rfl) (usub_le0 (sub64_k n) n d.2.2.1 d.2.2.2.1 k n d.1.2.2.2.2.2.2.1 d.1.2.2.2.2.2.2.2.2.1 d.2.1)
theorem usub_eqg (g_sub64 : Int → Int → Int → (Int → Int → Option A) → Option A) (n : Nat) (a0 : (List Int)) (a1 : (List Int)) (k : AV → List Blk → Option A) : fnK (usub_E g_sub64 n) Tryd.f29 [.pure, .pure] [.p kA4u64 a0, .p kA4u64 a1] [] k = usub_p g_sub64 n a0 a1 (fun r0 r1 => k (.tup [.p kA4u64 r0, .p .bool r1]) []) := by kernel_rfl
theorem usub_eq (n : Nat) (a0 : (List Int)) (a1 : (List Int)) (k : AV → List Blk → Option A) : fnK (usub_E (sub64_k n) n) Tryd.f29 [.pure, .pure] [.p kA4u64 a0, .p kA4u64 a1] [] k = usub_k n a0 a1 (fun r0 r1 => k (.tup [.p kA4u64 r0, .p .bool r1]) []) := usub_eqg (sub64_k n) n a0 a1 k
def usub_ent (g : (List Int) → (List Int) → ((List Int) → Bool → Option A) → Option A) : Entry A := pureE fun args k => args2 args kA4u64 kA4u64 fun a0 a1 => g a0 a1 (fun r0 r1 => k (.tup [.p kA4u64 r0, .p .bool r1]) [])
theorem usub_lo (n : Nat) : ∀ c, Tryd.f29.body = some c → ∀ q ∈ loopsOf 0 c, ∀ L, (usub_E (A := A) (sub64_k n) n).lps.lookup q.1 = some L → LoopOK Tryd.prog gls q.2 L :=
  lo_body (E := usub_E (sub64_k n) n) (by kernel_rfl : Tryd.f29.body = some (bodyOf Tryd.f29)) (lo_of (E := usub_E (sub64_k n) n) (by kernel_rfl : loopsOf 0 (bodyOf Tryd.f29) = [(0, usub_c0)]) (lo_cons rfl (usub_lo0 n) lo_nil))
theorem usub_ok (n : Nat) : FnOK Tryd.prog gls 29 (usub_ent (A := A) (usub_k n)) :=
  FnOK.of (usub_T (sub64_k n) n) (usub_fns n) follows ⟨Tryd.func29, by kernel_rfl⟩ (usub_lo n) (rm := [.pure, .pure]) fun args k out h => by
    obtain ⟨a0, a1, e, h1⟩ := args2_sound h
    subst e; rw [usub_eq]; exact h1

end Go.Ev
end

section
/-
  FUNCTION 27: printed by a program of our own (wip/gen/st.py). '(masthead/wide.U).Quo', in continuation form; the evaluator gives it.
-/
set_option linter.all false
set_option maxRecDepth 100000
namespace Go.Ev
open Go.Proofs
variable {A : Type}

-- ============================================================ uquo (function 27)
def uquo_b0 (g_ulen : (List Int) → (Int → Option A) → Option A) (g_ushl : (List Int) → Int → ((List Int) → Option A) → Option A) (g_usub : (List Int) → (List Int) → ((List Int) → Bool → Option A) → Option A) (n : Nat) (b : (List Int)) (t4 : (List Int)) (t5 : (List Int)) (k0 : (List Int) → (List Int) → Option A) (r : Int → (List Int) → (List Int) → Option A) (k_ : Int) (a : (List Int)) (out : (List Int)) : Option A :=
  bif (decide (k_ ≥ 0)) then
    g_ushl b k_ fun r3 =>
    g_usub a r3 fun r4 r5 =>
    bif (!r5) then
      if 0 ≤ (IntKind.wrap .i64 (Int.tdiv k_ 64)) then
        if (IntKind.wrap .i64 (Int.tdiv k_ 64)) < 4 then
          (out[(Int.toNat (IntKind.wrap .i64 (Int.tdiv k_ 64)))]?).bind fun y6 =>
          if (Int.tmod k_ 64) < 0 then none else
          if 0 ≤ (IntKind.wrap .i64 (Int.tdiv k_ 64)) then
            if (IntKind.wrap .i64 (Int.tdiv k_ 64)) < 4 then
              if (Int.toNat (IntKind.wrap .i64 (Int.tdiv k_ 64))) < 4 then
                r (IntKind.wrap .i64 (k_ - 1)) r4 (out.set (Int.toNat (IntKind.wrap .i64 (Int.tdiv k_ 64))) (ior .u64 y6 (shl .u64 1 (Int.tmod k_ 64))))
              else none
            else none
          else none
        else none
      else none
    else
      r (IntKind.wrap .i64 (k_ - 1)) a out
  else
    k0 a out

def uquo_l0 (g_ulen : (List Int) → (Int → Option A) → Option A) (g_ushl : (List Int) → Int → ((List Int) → Option A) → Option A) (g_usub : (List Int) → (List Int) → ((List Int) → Bool → Option A) → Option A) (n : Nat) (b : (List Int)) (t4 : (List Int)) (t5 : (List Int)) (k0 : (List Int) → (List Int) → Option A) : Nat → Int → (List Int) → (List Int) → Option A
  | 0 => fun _ _ _ => none
  | f + 1 => uquo_b0 g_ulen g_ushl g_usub n b t4 t5 k0 (uquo_l0 g_ulen g_ushl g_usub n b t4 t5 k0 f)

def uquo_p (g_ulen : (List Int) → (Int → Option A) → Option A) (g_ushl : (List Int) → Int → ((List Int) → Option A) → Option A) (g_usub : (List Int) → (List Int) → ((List Int) → Bool → Option A) → Option A) (n : Nat) (a0 : (List Int)) (a1 : (List Int)) (k : (List Int) → (List Int) → Option A) : Option A :=
  bif (deq kA4u64 a1 [0, 0, 0, 0]) then
    k [0, 0, 0, 0] a0
  else
    g_ulen a0 fun r1 =>
    g_ulen a1 fun r2 =>
    uquo_l0 g_ulen g_ushl g_usub n a1 [0, 0, 0, 0] [0, 0, 0, 0] (fun y7 y8 =>
      k y8 y7) n (IntKind.wrap .i64 (r1 - r2)) a0 [0, 0, 0, 0]

def uquo_k (n : Nat) (a0 : (List Int)) (a1 : (List Int)) (k : (List Int) → (List Int) → Option A) : Option A := uquo_p (ulen_k n) (ushl_k n) (usub_k n) n a0 a1 k

noncomputable def uquo_c0 : Code := codeAt [1, 1, 1, 0, 1, 0, 0] (bodyOf Tryd.f27)
def uquo_d0 : List Nat := [0, 1, 8, 9, 10, 11, 12, 13, 16, 17, 18, 19, 20, 21, 22, 23, 24, 25, 26, 27, 28, 29, 30, 31, 32, 33, 34, 35, 36, 37, 38, 39, 40, 41, 42, 43, 44, 45]
def uquo_y0 : List Nat := [0, 1, 3, 7, 8, 9, 10, 11, 12, 13, 14, 15, 16, 17, 18, 19, 20, 21, 22, 23, 24, 25, 26, 27, 28, 29, 30, 31, 32, 33, 34, 35, 36, 37, 38, 39, 40, 41, 42, 43, 44, 45, 46, 47]
def uquo_sh0 : Shape := ⟨[.any, .any, (.ptr 0), (.ptr 1), (.ptr 2), (.ptr 3), (.ptr 4), (.p (.int .i64)), .any, .any, .any, .any, .any, .any, .any, .any, .any, .any, .any, .any, .any, .any, .any, .any, .any, .any, .any, .any, .any, .any, .any, .any, .any, .any, .any, .any, .any, .any, .any, .any, .any, .any, .any, .any, .any, .any, .any, .any], [(.var 24 kA4u64 (.p kA4u64)), (.var 24 kA4u64 (.p kA4u64)), (.var 24 kA4u64 (.p kA4u64)), (.var 24 kA4u64 (.p kA4u64)), (.var 24 kA4u64 (.p kA4u64))], 0⟩
def uquo_t0 (b : (List Int)) (t4 : (List Int)) (t5 : (List Int)) (k_ : Int) (a : (List Int)) (out : (List Int)) : uquo_sh0.den := (((), (), (), (), (), (), (), k_, (), (), (), (), (), (), (), (), (), (), (), (), (), (), (), (), (), (), (), (), (), (), (), (), (), (), (), (), (), (), (), (), (), (), (), (), (), (), (), (), ()), (a, b, t4, t5, out, ()))
def uquo_x0_0 (b : (List Int)) (t4 : (List Int)) (t5 : (List Int)) (z0 : (List Int)) (z3 : (List Int)) : St := ⟨[.any, .any, .ptr 0 [], .any, .ptr 1 [], .ptr 2 [], .ptr 3 [], .any, .any, .any, .any, .any, .any, .any, .any, .any, .any, .any, .any, .any, .any, .any, .any, .any, .any, .any, .any, .any, .any, .any, .any, .any, .any, .any, .any, .any, .any, .any, .any, .any, .any, .any, .any, .any, .any, .any, .any, .any], [.var 24 kA4u64 (.p kA4u64 z0), .var 24 kA4u64 (.p kA4u64 t4), .var 24 kA4u64 (.p kA4u64 t5), .var 24 kA4u64 (.p kA4u64 z3)], 0⟩
def uquo_g0 (g_ulen : (List Int) → (Int → Option A) → Option A) (g_ushl : (List Int) → Int → ((List Int) → Option A) → Option A) (g_usub : (List Int) → (List Int) → ((List Int) → Bool → Option A) → Option A) (n : Nat) (d : uquo_sh0.den) (k : Ex → St → Option A) : Option A :=
  uquo_l0 g_ulen g_ushl g_usub n d.2.2.1 d.2.2.2.1 d.2.2.2.2.1 (fun z0 z3 => k (.exit 0) (uquo_x0_0 d.2.2.1 d.2.2.2.1 d.2.2.2.2.1 z0 z3)) n d.1.2.2.2.2.2.2.2.1 d.2.1 d.2.2.2.2.2.1
noncomputable def uquo_E (g_ulen : (List Int) → (Int → Option A) → Option A) (g_ushl : (List Int) → Int → ((List Int) → Option A) → Option A) (g_usub : (List Int) → (List Int) → ((List Int) → Bool → Option A) → Option A) (n : Nat) : Env A := ⟨tys, gls, [(37, ulen_ent g_ulen), (21, ushl_ent g_ushl), (29, usub_ent g_usub)], [(0, loopE uquo_d0 uquo_sh0 (uquo_g0 g_ulen g_ushl g_usub n))], []⟩
theorem uquo_T (g_ulen : (List Int) → (Int → Option A) → Option A) (g_ushl : (List Int) → Int → ((List Int) → Option A) → Option A) (g_usub : (List Int) → (List Int) → ((List Int) → Bool → Option A) → Option A) (n : Nat) : TyOK Tryd.prog (uquo_E g_ulen g_ushl g_usub n) := tyOK_of rfl tysB
theorem uquo_fns (n : Nat) : FnsOK Tryd.prog (uquo_E (A := A) (ulen_k n) (ushl_k n) (usub_k n) n) := AllOK.env rfl rfl (AllOK.cons (ulen_ok n) (AllOK.cons (ushl_ok n) (AllOK.cons (usub_ok n) AllOK.nil)))
noncomputable def uquo_LK0 (g_ulen : (List Int) → (Int → Option A) → Option A) (g_ushl : (List Int) → Int → ((List Int) → Option A) → Option A) (g_usub : (List Int) → (List Int) → ((List Int) → Bool → Option A) → Option A) (n : Nat) (b : (List Int)) (t4 : (List Int)) (t5 : (List Int)) (k : Ex → St → Option A) (f : Nat) (k_ : Int) (a : (List Int)) (out : (List Int)) : Option A := loopK (codeK (uquo_E g_ulen g_ushl g_usub n) 1 uquo_c0) uquo_d0 uquo_y0 f (uquo_sh0.fill (uquo_t0 b t4 t5 k_ a out)) k
theorem uquo_st0 (g_ulen : (List Int) → (Int → Option A) → Option A) (g_ushl : (List Int) → Int → ((List Int) → Option A) → Option A) (g_usub : (List Int) → (List Int) → ((List Int) → Bool → Option A) → Option A) (n f : Nat) (b : (List Int)) (t4 : (List Int)) (t5 : (List Int)) (k : Ex → St → Option A) (k_ : Int) (a : (List Int)) (out : (List Int)) : uquo_LK0 g_ulen g_ushl g_usub n b t4 t5 k (f + 1) k_ a out = uquo_b0 g_ulen g_ushl g_usub n b t4 t5 (fun z0 z3 => k (.exit 0) (uquo_x0_0 b t4 t5 z0 z3)) (uquo_LK0 g_ulen g_ushl g_usub n b t4 t5 k f) k_ a out := by kernel_rfl
theorem uquo_le0 (g_ulen : (List Int) → (Int → Option A) → Option A) (g_ushl : (List Int) → Int → ((List Int) → Option A) → Option A) (g_usub : (List Int) → (List Int) → ((List Int) → Bool → Option A) → Option A) (n : Nat) (b : (List Int)) (t4 : (List Int)) (t5 : (List Int)) (k : Ex → St → Option A) : ∀ (f : Nat) (k_ : Int) (a : (List Int)) (out : (List Int)), uquo_LK0 g_ulen g_ushl g_usub n b t4 t5 k f k_ a out = uquo_l0 g_ulen g_ushl g_usub n b t4 t5 (fun z0 z3 => k (.exit 0) (uquo_x0_0 b t4 t5 z0 z3)) f k_ a out := by
  intro f
  induction f with
  | zero => intros; kernel_rfl
  | succ f ih => intro k_ a out; exact (uquo_st0 g_ulen g_ushl g_usub n f b t4 t5 k k_ a out).trans ((congrArg (fun r => uquo_b0 g_ulen g_ushl g_usub n b t4 t5 (fun z0 z3 => k (.exit 0) (uquo_x0_0 b t4 t5 z0 z3)) r k_ a out) (funext fun k_ => funext fun a => funext fun out => ih k_ a out)).trans (by kernel_rfl))
theorem uquo_lo0 (n : Nat) : LoopOK Tryd.prog gls uquo_c0 (loopE uquo_d0 uquo_sh0 (uquo_g0 (A := A) (ulen_k n) (ushl_k n) (usub_k n) n)) :=
  LoopOK.of (uquo_T (ulen_k n) (ushl_k n) (usub_k n) n) (uquo_fns n) follows (j := 1) (n := n) (xdead := uquo_y0) (lo_of (by kernel_rfl : loopsOf 1 uquo_c0 = []) lo_nil) fun d k => Eq.trans (by kernel_rfl) (uquo_le0 (ulen_k n) (ushl_k n) (usub_k n) n d.2.2.1 d.2.2.2.1 d.2.2.2.2.1 k n d.1.2.2.2.2.2.2.2.1 d.2.1 d.2.2.2.2.2.1)
theorem uquo_eqg (g_ulen : (List Int) → (Int → Option A) → Option A) (g_ushl : (List Int) → Int → ((List Int) → Option A) → Option A) (g_usub : (List Int) → (List Int) → ((List Int) → Bool → Option A) → Option A) (n : Nat) (a0 : (List Int)) (a1 : (List Int)) (k : AV → List Blk → Option A) : fnK (uquo_E g_ulen g_ushl g_usub n) Tryd.f27 [.pure, .pure] [.p kA4u64 a0, .p kA4u64 a1] [] k = uquo_p g_ulen g_ushl g_usub n a0 a1 (fun r0 r1 => k (.tup [.p kA4u64 r0, .p kA4u64 r1]) []) := by kernel_rfl
theorem uquo_eq (n : Nat) (a0 : (List Int)) (a1 : (List Int)) (k : AV → List Blk → Option A) : fnK (uquo_E (ulen_k n) (ushl_k n) (usub_k n) n) Tryd.f27 [.pure, .pure] [.p kA4u64 a0, .p kA4u64 a1] [] k = uquo_k n a0 a1 (fun r0 r1 => k (.tup [.p kA4u64 r0, .p kA4u64 r1]) []) := uquo_eqg (ulen_k n) (ushl_k n) (usub_k n) n a0 a1 k
def uquo_ent (g : (List Int) → (List Int) → ((List Int) → (List Int) → Option A) → Option A) : Entry A := pureE fun args k => args2 args kA4u64 kA4u64 fun a0 a1 => g a0 a1 (fun r0 r1 => k (.tup [.p kA4u64 r0, .p kA4u64 r1]) [])
theorem uquo_lo (n : Nat) : ∀ c, Tryd.f27.body = some c → ∀ q ∈ loopsOf 0 c, ∀ L, (uquo_E (A := A) (ulen_k n) (ushl_k n) (usub_k n) n).lps.lookup q.1 = some L → LoopOK Tryd.prog gls q.2 L :=
  lo_body (E := uquo_E (ulen_k n) (ushl_k n) (usub_k n) n) (by kernel_rfl : Tryd.f27.body = some (bodyOf Tryd.f27)) (lo_of (E := uquo_E (ulen_k n) (ushl_k n) (usub_k n) n) (by kernel_rfl : loopsOf 0 (bodyOf Tryd.f27) = [(0, uquo_c0)]) (lo_cons rfl (uquo_lo0 n) lo_nil))
theorem uquo_ok (n : Nat) : FnOK Tryd.prog gls 27 (uquo_ent (A := A) (uquo_k n)) :=
  FnOK.of (uquo_T (ulen_k n) (ushl_k n) (usub_k n) n) (uquo_fns n) follows ⟨Tryd.func27, by kernel_rfl⟩ (uquo_lo n) (rm := [.pure, .pure]) fun args k out h => by
    obtain ⟨a0, a1, e, h1⟩ := args2_sound h
    subst e; rw [uquo_eq]; exact h1

end Go.Ev
end

section
/-
  SUMS, DIFFERENCES, QUOTIENTS of 256-bit numbers: plain laws of the printed functions.
-/
set_option linter.all false
namespace Go.Ev
variable {A : Type}

theorem wd_mod (x i : Nat) (h : i < 4) : wd (x % 2 ^ 256) i = wd x i := by
  apply Nat.eq_of_testBit_eq
  intro t
  rw [wd_testBit, wd_testBit, Nat.testBit_mod_two_pow]
  by_cases ht : t < 64
  · have : 64 * i + t < 256 := by omega
    simp [ht, this]
  · simp [ht]
theorem uw_mod (x : Nat) : uw (x % 2 ^ 256) = uw x := by
  rw [uw_wd, uw_wd, wd_mod _ 0 (by decide), wd_mod _ 1 (by decide), wd_mod _ 2 (by decide), wd_mod _ 3 (by decide)]

/-- Words below i are z's, the others x's. -/
def Mix (z x i : Nat) (l : List Nat) : Prop := l.length = 4 ∧ ∀ j, j < 4 → l[j]? = some (if j < i then wd z j else wd x j)
theorem Mix.start (z x : Nat) : Mix z x 0 (uw x) := ⟨rfl, fun j hj => by rw [uw_at x j hj, if_neg (by omega)]⟩
theorem Mix.step {z x i : Nat} {l : List Nat} (h : Mix z x i l) (hi : i < 4) : Mix z x (i + 1) (l.set i (wd z i)) := by
  refine ⟨by rw [List.length_set]; exact h.1, fun j hj => ?_⟩
  by_cases hji : i = j
  · subst hji; rw [List.getElem?_set_self (by rw [h.1]; exact hi), if_pos (by omega)]
  · rw [List.getElem?_set_ne hji, h.2 j hj]
    by_cases h2 : j < i
    · rw [if_pos h2, if_pos (by omega)]
    · rw [if_neg h2, if_neg (by omega)]
theorem Mix.done {z x : Nat} {l : List Nat} (h : Mix z x 4 l) : l = uw z := uw_ext z l h.1 fun i hi => by rw [h.2 i hi, if_pos hi]
theorem Mix.at {z x i : Nat} {l : List Nat} (h : Mix z x i l) (hi : i < 4) : (ints l)[i]? = some ((wd x i : Nat) : Int) := by
  rw [ints_get, h.2 i hi, if_neg (by omega)]; rfl

theorem P4_zero {x : Nat} (h : x < 2 ^ 256) : x / 2 ^ (64 * 4) = 0 := Nat.div_eq_of_lt h

theorem add64_at (n x y c : Nat) (hc : c ≤ 1) (g : Int → Int → Option A) : add64_k n (x : Int) (y : Int) (c : Int) g = g (((x + y + c) % 18446744073709551616 : Nat) : Int) (((x + y + c) / 18446744073709551616 : Nat) : Int) := by
  unfold add64_k
  rw [if_pos (by omega), if_pos (by omega), if_pos (by omega), if_pos (by omega)]
  rfl
theorem sub64_at (n x y c : Nat) (hc : c ≤ 1) (hx : x < 18446744073709551616) (hy : y < 18446744073709551616) (g : Int → Int → Option A) : sub64_k n (x : Int) (y : Int) (c : Int) g = g (((x + 36893488147419103232 - y - c) % 18446744073709551616 : Nat) : Int) ((if x < y + c then 1 else 0 : Nat) : Int) := by
  unfold sub64_k
  have e1 : ((x : Int) - (y : Int) - (c : Int)) % 18446744073709551616 = (((x + 36893488147419103232 - y - c) % 18446744073709551616 : Nat) : Int) := by omega
  have e2 : (if (x : Int) < (y : Int) + (c : Int) then (1 : Int) else 0) = ((if x < y + c then 1 else 0 : Nat) : Int) := by split <;> split <;> omega
  rw [if_pos (by omega), if_pos (by omega), if_pos (by omega), if_pos (by omega), if_pos (by omega), if_pos (by omega), e1, e2]

-- ------------------------------------------------------------ sums

theorem uadd_l0_law (n : Nat) (x y : Nat) (t4 : List Int) (g : Int → List Int → Option A) : ∀ (d f i c : Nat) (l : List Nat), i + d = 4 → d < f → c ≤ 1 → (x + y) / 2 ^ (64 * i) = x / 2 ^ (64 * i) + y / 2 ^ (64 * i) + c → Mix (x + y) x i l →
    ∃ c', (x + y) / 2 ^ (64 * 4) = x / 2 ^ (64 * 4) + y / 2 ^ (64 * 4) + c' ∧ uadd_l0 (add64_k n) n (ints (uw y)) t4 g f (c : Int) (i : Int) (ints l) = g (c' : Int) (ints (uw (x + y))) := by
  intro d
  induction d with
  | zero =>
    intro f i c l hi hf hc he hm
    obtain ⟨f, rfl⟩ : ∃ g, f = g + 1 := ⟨f - 1, by omega⟩
    have : i = 4 := by omega
    subst this
    refine ⟨c, he, ?_⟩
    rw [uadd_l0, uadd_b0, decide_eq_false (show ¬ ((4 : Nat) : Int) < 4 by omega), cond_false, hm.done]
  | succ d ih =>
    intro f i c l hi hf hc he hm
    obtain ⟨f, rfl⟩ : ∃ g, f = g + 1 := ⟨f - 1, by omega⟩
    have hx := wd_split x i
    have hy := wd_split y i
    have hz := wd_split (x + y) i
    have bx := wd_lt x i
    have by_ := wd_lt y i
    have bz := wd_lt (x + y) i
    have e1 : (wd x i + wd y i + c) % 18446744073709551616 = wd (x + y) i := by omega
    have e3 : IntKind.wrap .i64 ((i : Int) + 1) = ((i + 1 : Nat) : Int) := by rw [wrap_id (by omega) (by omega)]; omega
    obtain ⟨c', h1, h2⟩ := ih f (i + 1) ((wd x i + wd y i + c) / 18446744073709551616) (l.set i (wd (x + y) i)) (by omega) (by omega) (by omega) (by omega) (hm.step (by omega))
    refine ⟨c', h1, ?_⟩
    rw [uadd_l0, uadd_b0, decide_eq_true (show (i : Int) < 4 by omega), cond_true, if_pos (by omega), if_pos (by omega), Int.toNat_natCast, hm.at (by omega), Option.bind_some, if_pos (by omega), if_pos (by omega), iuw_at _ _ (by omega), Option.bind_some]
    rw [add64_at n _ _ c hc, if_pos (by omega), if_pos (by omega), if_pos (by omega), e1, e3, ints_set]
    exact h2

theorem uadd_law (n : Nat) (hn : 10 < n) (x y : Nat) (hx : x < 2 ^ 256) (hy : y < 2 ^ 256) (g : List Int → Bool → Option A) : uadd_k n (ints (uw x)) (ints (uw y)) g = g (ints (uw ((x + y) % 2 ^ 256))) (decide (2 ^ 256 ≤ x + y)) := by
  unfold uadd_k uadd_p
  obtain ⟨c', h1, h2⟩ := uadd_l0_law n x y [0, 0, 0, 0] (fun y5 y6 => g y6 (decide (y5 > 0))) 4 n 0 0 (uw x) (by omega) (by omega) (by omega) (by rw [Nat.mul_zero, Nat.pow_zero, Nat.div_one, Nat.div_one, Nat.div_one]; rfl) (.start _ _)
  rw [P4_zero hx, P4_zero hy, show 2 ^ (64 * 4) = 2 ^ 256 from by decide] at h1
  refine Eq.trans h2 ?_
  rw [uw_mod]
  congr 1
  apply decide_eq_decide.2
  rw [show (2 : Nat) ^ 256 = 115792089237316195423570985008687907853269984665640564039457584007913129639936 from by decide] at *
  omega

-- ------------------------------------------------------------ differences

theorem usub_l0_law (n : Nat) (x y z : Nat) (t4 : List Int) (g : Int → List Int → Option A) : ∀ (d f i c : Nat) (l : List Nat), i + d = 4 → d < f → c ≤ 1 → z / 2 ^ (64 * i) + y / 2 ^ (64 * i) + c = x / 2 ^ (64 * i) + 18446744073709551616 ^ d → Mix z x i l →
    ∃ c', z / 2 ^ (64 * 4) + y / 2 ^ (64 * 4) + c' = x / 2 ^ (64 * 4) + 1 ∧ usub_l0 (sub64_k n) n (ints (uw y)) t4 g f (c : Int) (i : Int) (ints l) = g (c' : Int) (ints (uw z)) := by
  intro d
  induction d with
  | zero =>
    intro f i c l hi hf hc he hm
    obtain ⟨f, rfl⟩ : ∃ g, f = g + 1 := ⟨f - 1, by omega⟩
    have : i = 4 := by omega
    subst this
    refine ⟨c, he, ?_⟩
    rw [usub_l0, usub_b0, decide_eq_false (show ¬ ((4 : Nat) : Int) < 4 by omega), cond_false, hm.done]
  | succ d ih =>
    intro f i c l hi hf hc he hm
    obtain ⟨f, rfl⟩ : ∃ g, f = g + 1 := ⟨f - 1, by omega⟩
    have hx := wd_split x i
    have hy := wd_split y i
    have hz := wd_split z i
    have bx := wd_lt x i
    have by_ := wd_lt y i
    have bz := wd_lt z i
    rw [Nat.pow_succ] at he
    generalize hR : 18446744073709551616 ^ d = R at he
    have hD : ((wd x i : Nat) : Int) - ((wd y i : Nat) : Int) - (c : Int) - ((wd z i : Nat) : Int) = 18446744073709551616 * (((z / 2 ^ (64 * (i + 1)) : Nat) : Int) + ((y / 2 ^ (64 * (i + 1)) : Nat) : Int) - ((x / 2 ^ (64 * (i + 1)) : Nat) : Int) - (R : Int)) := by omega
    have hD2 : ((z / 2 ^ (64 * (i + 1)) : Nat) : Int) + ((y / 2 ^ (64 * (i + 1)) : Nat) : Int) - ((x / 2 ^ (64 * (i + 1)) : Nat) : Int) - (R : Int) = if wd x i < wd y i + c then -1 else 0 := by
      generalize ((z / 2 ^ (64 * (i + 1)) : Nat) : Int) + ((y / 2 ^ (64 * (i + 1)) : Nat) : Int) - ((x / 2 ^ (64 * (i + 1)) : Nat) : Int) - (R : Int) = D at hD
      clear he hx hy hz
      split <;> omega
    have e1 : (wd x i + 36893488147419103232 - wd y i - c) % 18446744073709551616 = wd z i := by
      rw [hD2] at hD
      clear he hx hy hz hD2
      split at hD <;> omega
    have e3 : IntKind.wrap .i64 ((i : Int) + 1) = ((i + 1 : Nat) : Int) := by rw [wrap_id (by omega) (by omega)]; omega
    obtain ⟨c', h1, h2⟩ := ih f (i + 1) (if wd x i < wd y i + c then 1 else 0) (l.set i (wd z i)) (by omega) (by omega) (by split <;> omega) (by rw [hR]; clear he hx hy hz hD e1; split at hD2 <;> rename_i hq <;> simp only [hq, if_true, if_false] <;> omega) (hm.step (by omega))
    refine ⟨c', h1, ?_⟩
    rw [usub_l0, usub_b0, decide_eq_true (show (i : Int) < 4 by omega), cond_true, if_pos (by omega), if_pos (by omega), Int.toNat_natCast, hm.at (by omega), Option.bind_some, if_pos (by omega), if_pos (by omega), iuw_at _ _ (by omega), Option.bind_some]
    rw [sub64_at n _ _ c hc bx by_, if_pos (by omega), if_pos (by omega), if_pos (by omega), e1, e3, ints_set]
    exact h2

theorem usub_law (n : Nat) (hn : 10 < n) (x y : Nat) (hx : x < 2 ^ 256) (hy : y < 2 ^ 256) (g : List Int → Bool → Option A) : usub_k n (ints (uw x)) (ints (uw y)) g = g (ints (uw ((x + 2 ^ 256 - y) % 2 ^ 256))) (decide (x < y)) := by
  unfold usub_k usub_p
  obtain ⟨c', h1, h2⟩ := usub_l0_law n x y (x + 2 ^ 256 - y) [0, 0, 0, 0] (fun y5 y6 => g y6 (decide (y5 > 0))) 4 n 0 0 (uw x) (by omega) (by omega) (by omega) (by
    rw [Nat.mul_zero, Nat.pow_zero, Nat.div_one, Nat.div_one, Nat.div_one, show (18446744073709551616 : Nat) ^ 4 = 2 ^ 256 from by decide]; omega) (.start _ _)
  rw [P4_zero hx, P4_zero hy, show 2 ^ (64 * 4) = 2 ^ 256 from by decide] at h1
  refine Eq.trans h2 ?_
  rw [uw_mod]
  congr 1
  apply decide_eq_decide.2
  rw [show (2 : Nat) ^ 256 = 115792089237316195423570985008687907853269984665640564039457584007913129639936 from by decide] at *
  omega

-- ------------------------------------------------------------ quotients, bit by bit

theorem set_bit (m k : Nat) (hk : k < 256) : (uw (m * 2 ^ (k + 1))).set (k / 64) (wd (m * 2 ^ (k + 1)) (k / 64) ||| 1 * 2 ^ (k % 64) % 18446744073709551616) = uw (m * 2 ^ (k + 1) + 2 ^ k) := by
  refine uw_ext _ _ (by rw [List.length_set]; rfl) fun i hi => ?_
  have e : m * 2 ^ (k + 1) + 2 ^ k = m * 2 ^ (k + 1) ||| 2 ^ k := (or_parts m (2 ^ k) (k + 1) (Nat.pow_lt_pow_right (by decide) (by omega))).symm
  rw [e]
  have h1 : ∀ t, (wd (m * 2 ^ (k + 1) ||| 2 ^ k) i).testBit t = (decide (t < 64) && ((m * 2 ^ (k + 1)).testBit (64 * i + t) || decide (k = 64 * i + t))) := fun t => by
    rw [wd_testBit, Nat.testBit_or, Nat.testBit_two_pow]
  by_cases hik : k / 64 = i
  · subst hik
    rw [List.getElem?_set_self (by exact hi)]
    congr 1
    apply Nat.eq_of_testBit_eq
    intro t
    rw [h1, Nat.testBit_or, wd_testBit, Nat.one_mul, show (18446744073709551616 : Nat) = 2 ^ 64 from by decide, Nat.testBit_mod_two_pow, Nat.testBit_two_pow]
    by_cases ht : t < 64
    · have : (k % 64 = t) ↔ (k = 64 * (k / 64) + t) := by omega
      simp [ht, this]
    · simp [ht]
  · rw [List.getElem?_set_ne hik, uw_at _ _ hi]
    congr 1
    apply Nat.eq_of_testBit_eq
    intro t
    rw [h1, wd_testBit]
    by_cases ht : t < 64
    · have : ¬ (k = 64 * i + t) := by omega
      simp [ht, this]
    · simp [ht]

theorem uquo_l0_law (n : Nat) (hn : 10 < n) (x b : Nat) (hb : b ≠ 0) (hb2 : b < 2 ^ 256) (t4 t5 : List Int) (g : List Int → List Int → Option A) : ∀ (k f a m : Nat), k < f → a < 2 ^ 256 → k ≤ 256 → (0 < k → b * 2 ^ (k - 1) < 2 ^ 256) → a < b * 2 ^ k → m * 2 ^ k * b + a = x →
    uquo_l0 (ulen_k n) (ushl_k n) (usub_k n) n (ints (uw b)) t4 t5 g f ((k : Int) - 1) (ints (uw a)) (ints (uw (m * 2 ^ k))) = g (ints (uw (x % b))) (ints (uw (x / b))) := by
  intro k
  induction k with
  | zero =>
    intro f a m hf ha hk hb3 hlt he
    obtain ⟨f, rfl⟩ : ∃ g, f = g + 1 := ⟨f - 1, by omega⟩
    rw [uquo_l0, uquo_b0, decide_eq_false (show ¬ ((0 : Nat) : Int) - 1 ≥ 0 by omega), cond_false]
    rw [Nat.pow_zero, Nat.mul_one] at hlt he ⊢
    have e1 : x % b = a := by rw [← he, Nat.add_comm, Nat.add_mul_mod_self_right, Nat.mod_eq_of_lt hlt]
    have e2 : x / b = m := by rw [← he, Nat.add_comm, Nat.add_mul_div_right _ _ (by omega), Nat.div_eq_of_lt hlt, Nat.zero_add]
    rw [e1, e2]
  | succ k ih =>
    intro f a m hf ha hk hb3 hlt he
    obtain ⟨f, rfl⟩ : ∃ g, f = g + 1 := ⟨f - 1, by omega⟩
    have hb4 := hb3 (by omega)
    rw [Nat.add_sub_cancel] at hb4
    have hbk : 0 < k → b * 2 ^ (k - 1) < 2 ^ 256 := fun h => Nat.lt_of_le_of_lt (Nat.mul_le_mul_left _ (Nat.pow_le_pow_right (by decide) (by omega))) hb4
    have e0 : ((k + 1 : Nat) : Int) - 1 = (k : Int) := by omega
    have e1 : IntKind.wrap .i64 ((k : Int) - 1) = (k : Int) - 1 := wrap_id (by omega) (by omega)
    rw [uquo_l0, uquo_b0, e0, decide_eq_true (show (k : Int) ≥ 0 by omega), cond_true, ushl_law n hn, Nat.mod_eq_of_lt hb4, usub_law n hn _ _ ha hb4, e1]
    have hp : 2 ^ (k + 1) = 2 ^ k * 2 := Nat.pow_succ 2 k
    have hbp : b * 2 ^ (k + 1) = 2 * (b * 2 ^ k) := by rw [hp]; generalize 2 ^ k = p; rw [← Nat.mul_assoc, Nat.mul_comm]
    have hm2 : m * 2 ^ (k + 1) = m * 2 * 2 ^ k := by rw [hp]; generalize 2 ^ k = p; rw [Nat.mul_comm p 2, Nat.mul_assoc]
    by_cases hc : a < b * 2 ^ k
    · rw [decide_eq_true hc, Bool.not_true, cond_false, hm2]
      exact ih f a (m * 2) (by omega) ha (by omega) hbk hc (by rw [← hm2]; exact he)
    · have e2 : IntKind.wrap .i64 (Int.tdiv (k : Int) 64) = ((k / 64 : Nat) : Int) := by
        rw [show (64 : Int) = ((64 : Nat) : Int) from rfl, tdiv_nat]; exact wrap_id (by omega) (by omega)
      have e3 : Int.tmod (k : Int) 64 = ((k % 64 : Nat) : Int) := by rw [show (64 : Int) = ((64 : Nat) : Int) from rfl, tmod_nat]
      have e4 : (a + 2 ^ 256 - b * 2 ^ k) % 2 ^ 256 = a - b * 2 ^ k := by
        rw [show a + 2 ^ 256 - b * 2 ^ k = (a - b * 2 ^ k) + 2 ^ 256 from by omega, Nat.add_mod_right, Nat.mod_eq_of_lt (by omega)]
      have e5 : shl .u64 1 ((k % 64 : Nat) : Int) = ((1 * 2 ^ (k % 64) % 18446744073709551616 : Nat) : Int) := shl_u64 1 (k % 64) (by omega)
      rw [decide_eq_false hc, Bool.not_false, cond_true, e2, e3, e4, e5, if_pos (by omega), if_pos (by omega), Int.toNat_natCast, iuw_at _ _ (by omega), Option.bind_some, if_neg (by omega), if_pos (by omega), if_pos (by omega), if_pos (by omega),
        ior_u64 _ _ (wd_lt _ _) (Nat.mod_lt _ (by decide)), ints_set, set_bit m k (by omega)]
      have e6 : m * 2 ^ (k + 1) + 2 ^ k = (m * 2 + 1) * 2 ^ k := by rw [hm2, Nat.add_mul, Nat.one_mul]
      rw [e6]
      refine ih f (a - b * 2 ^ k) (m * 2 + 1) (by omega) (by omega) (by omega) hbk (by omega) ?_
      rw [← e6, Nat.add_mul, Nat.mul_comm (2 ^ k) b]
      omega

theorem uquo_law (n : Nat) (hn : 300 < n) (x b : Nat) (hx : x < 2 ^ 256) (hb : b < 2 ^ 256) (hb0 : b ≠ 0) (g : List Int → List Int → Option A) : uquo_k n (ints (uw x)) (ints (uw b)) g = g (ints (uw (x / b))) (ints (uw (x % b))) := by
  unfold uquo_k uquo_p
  have hz : deq kA4u64 (ints (uw b)) ([0, 0, 0, 0] : List Int) = false := by
    cases hd : deq kA4u64 (ints (uw b)) ([0, 0, 0, 0] : List Int) with
    | false => rfl
    | true =>
      have h1 := (deq_iff kA4u64 _ _).1 hd
      rw [zero_uw] at h1
      have h2 := congrArg (fun l => wval (List.map Int.toNat l)) h1
      simp only [ints, List.map_map, Function.comp_def, Int.toNat_natCast, List.map_id'] at h2
      rw [wval_uw b hb, wval_uw 0 (by decide)] at h2
      exact absurd h2 hb0
  have hbx : bl x ≤ 256 := (bl_le x 256).2 hx
  have hbb : bl b ≤ 256 := (bl_le b 256).2 hb
  rw [hz, cond_false, ulen_law n (by omega) x hx, ulen_law n (by omega) b hb, wrap_id (x := ((bl x : Nat) : Int) - ((bl b : Nat) : Int)) (by omega) (by omega)]
  by_cases hle : bl b ≤ bl x
  · have e : ((bl x : Nat) : Int) - ((bl b : Nat) : Int) = ((bl x - bl b + 1 : Nat) : Int) - 1 := by omega
    have hlow : 2 ^ (bl b - 1) ≤ b := le_of_bl (by have := bl_pos hb0; omega)
    have hz2 : ([0, 0, 0, 0] : List Int) = ints (uw (0 * 2 ^ (bl x - bl b + 1))) := by rw [Nat.zero_mul]; exact zero_uw
    have h := uquo_l0_law n (by omega) x b hb0 hb [0, 0, 0, 0] [0, 0, 0, 0] (fun y7 y8 => g y8 y7) (bl x - bl b + 1) n x 0 (by omega) hx (by have := bl_pos hb0; omega) (fun _ => by
      rw [Nat.add_sub_cancel]
      calc b * 2 ^ (bl x - bl b) < 2 ^ bl b * 2 ^ (bl x - bl b) := Nat.mul_lt_mul_of_pos_right (lt_bl b) (Nat.two_pow_pos _)
        _ = 2 ^ bl x := by rw [← Nat.pow_add]; congr 1; omega
        _ ≤ 2 ^ 256 := Nat.pow_le_pow_right (by decide) hbx) (by
      calc x < 2 ^ bl x := lt_bl x
        _ = 2 ^ (bl b - 1) * 2 ^ (bl x - bl b + 1) := by rw [← Nat.pow_add]; congr 1; have := bl_pos hb0; omega
        _ ≤ b * 2 ^ (bl x - bl b + 1) := Nat.mul_le_mul_right _ hlow) (by rw [Nat.zero_mul, Nat.zero_mul, Nat.zero_add])
    rw [← hz2, ← e] at h
    exact h
  · have hlt : x < b := by
      rcases Nat.lt_or_ge x b with h | h
      · exact h
      · have : bl b ≤ bl x := (bl_le b _).2 (Nat.lt_of_le_of_lt h (lt_bl x)); omega
    obtain ⟨f, rfl⟩ : ∃ g, n = g + 1 := ⟨n - 1, by omega⟩
    rw [uquo_l0, uquo_b0, decide_eq_false (show ¬ ((bl x : Nat) : Int) - ((bl b : Nat) : Int) ≥ 0 by omega), cond_false, Nat.div_eq_of_lt hlt, Nat.mod_eq_of_lt hlt, zero_uw]

end Go.Ev
end

section
/-
  FUNCTION 48: printed by a program of our own (wip/gen/st.py). 'math/bits.Mul64', in continuation form; the evaluator gives it.
-/
set_option linter.all false
set_option maxRecDepth 100000
namespace Go.Ev
open Go.Proofs
variable {A : Type}

-- ============================================================ mul64 (function 48)
def mul64_p (n : Nat) (a0 : Int) (a1 : Int) (k : Int → Int → Option A) : Option A :=
  k (IntKind.wrap .u64 ((IntKind.wrap .u64 ((IntKind.wrap .u64 ((shr .u64 a0 32) * (shr .u64 a1 32))) + (shr .u64 (IntKind.wrap .u64 ((IntKind.wrap .u64 ((shr .u64 a0 32) * (iand .u64 a1 4294967295))) + (shr .u64 (IntKind.wrap .u64 ((iand .u64 a0 4294967295) * (iand .u64 a1 4294967295))) 32))) 32))) + (shr .u64 (IntKind.wrap .u64 ((iand .u64 (IntKind.wrap .u64 ((IntKind.wrap .u64 ((shr .u64 a0 32) * (iand .u64 a1 4294967295))) + (shr .u64 (IntKind.wrap .u64 ((iand .u64 a0 4294967295) * (iand .u64 a1 4294967295))) 32))) 4294967295) + (IntKind.wrap .u64 ((iand .u64 a0 4294967295) * (shr .u64 a1 32))))) 32))) (IntKind.wrap .u64 (a0 * a1))

def mul64_k (n : Nat) (a0 : Int) (a1 : Int) (k : Int → Int → Option A) : Option A := mul64_p n a0 a1 k

noncomputable def mul64_E (n : Nat) : Env A := ⟨tys, gls, [], [], []⟩
theorem mul64_T {A : Type} (n : Nat) : TyOK Tryd.prog (mul64_E (A := A) n) := tyOK_of rfl tysB
theorem mul64_fns (n : Nat) : FnsOK Tryd.prog (mul64_E (A := A) n) := AllOK.env rfl rfl AllOK.nil
theorem mul64_eqg (n : Nat) (a0 : Int) (a1 : Int) (k : AV → List Blk → Option A) : fnK (mul64_E n) Tryd.f48 [.pure, .pure] [.p (.int .u64) a0, .p (.int .u64) a1] [] k = mul64_p n a0 a1 (fun r0 r1 => k (.tup [.p (.int .u64) r0, .p (.int .u64) r1]) []) := by kernel_rfl
theorem mul64_eq (n : Nat) (a0 : Int) (a1 : Int) (k : AV → List Blk → Option A) : fnK (mul64_E n) Tryd.f48 [.pure, .pure] [.p (.int .u64) a0, .p (.int .u64) a1] [] k = mul64_k n a0 a1 (fun r0 r1 => k (.tup [.p (.int .u64) r0, .p (.int .u64) r1]) []) := mul64_eqg n a0 a1 k
def mul64_ent (g : Int → Int → (Int → Int → Option A) → Option A) : Entry A := pureE fun args k => args2 args (.int .u64) (.int .u64) fun a0 a1 => g a0 a1 (fun r0 r1 => k (.tup [.p (.int .u64) r0, .p (.int .u64) r1]) [])
theorem mul64_lo (n : Nat) : ∀ c, Tryd.f48.body = some c → ∀ q ∈ loopsOf 0 c, ∀ L, (mul64_E (A := A) n).lps.lookup q.1 = some L → LoopOK Tryd.prog gls q.2 L :=
  lo_body (E := mul64_E n) (by kernel_rfl : Tryd.f48.body = some (bodyOf Tryd.f48)) (lo_of (E := mul64_E n) (by kernel_rfl : loopsOf 0 (bodyOf Tryd.f48) = []) lo_nil)
theorem mul64_ok (n : Nat) : FnOK Tryd.prog gls 48 (mul64_ent (A := A) (mul64_k n)) :=
  FnOK.of (mul64_T n) (mul64_fns n) follows ⟨Tryd.func48, by kernel_rfl⟩ (mul64_lo n) (rm := [.pure, .pure]) fun args k out h => by
    obtain ⟨a0, a1, e, h1⟩ := args2_sound h
    subst e; rw [mul64_eq]; exact h1

end Go.Ev
end

section
/-
  FUNCTION 50: printed by a program of our own (wip/gen/st.py). 'math/bits.LeadingZeros64', in continuation form; the evaluator gives it.
-/
set_option linter.all false
set_option maxRecDepth 100000
namespace Go.Ev
open Go.Proofs
variable {A : Type}

-- ============================================================ lz64 (function 50)
def lz64_p (g_len64 : Int → (Int → Option A) → Option A) (n : Nat) (a0 : Int) (k : Int → Option A) : Option A :=
  g_len64 a0 fun r1 =>
  k (IntKind.wrap .i64 (64 - r1))

def lz64_k (n : Nat) (a0 : Int) (k : Int → Option A) : Option A := lz64_p (len64_k n) n a0 k

noncomputable def lz64_E (g_len64 : Int → (Int → Option A) → Option A) (n : Nat) : Env A := ⟨tys, gls, [(49, len64_ent g_len64)], [], []⟩
theorem lz64_T (g_len64 : Int → (Int → Option A) → Option A) (n : Nat) : TyOK Tryd.prog (lz64_E g_len64 n) := tyOK_of rfl tysB
theorem lz64_fns (n : Nat) : FnsOK Tryd.prog (lz64_E (A := A) (len64_k n) n) := AllOK.env rfl rfl (AllOK.cons (len64_ok n) AllOK.nil)
theorem lz64_eqg (g_len64 : Int → (Int → Option A) → Option A) (n : Nat) (a0 : Int) (k : AV → List Blk → Option A) : fnK (lz64_E g_len64 n) Tryd.f50 [.pure] [.p (.int .u64) a0] [] k = lz64_p g_len64 n a0 (fun r0 => k (.p (.int .i64) r0) []) := by kernel_rfl
theorem lz64_eq (n : Nat) (a0 : Int) (k : AV → List Blk → Option A) : fnK (lz64_E (len64_k n) n) Tryd.f50 [.pure] [.p (.int .u64) a0] [] k = lz64_k n a0 (fun r0 => k (.p (.int .i64) r0) []) := lz64_eqg (len64_k n) n a0 k
def lz64_ent (g : Int → (Int → Option A) → Option A) : Entry A := pureE fun args k => args1 args (.int .u64) fun a0 => g a0 (fun r0 => k (.p (.int .i64) r0) [])
theorem lz64_lo (n : Nat) : ∀ c, Tryd.f50.body = some c → ∀ q ∈ loopsOf 0 c, ∀ L, (lz64_E (A := A) (len64_k n) n).lps.lookup q.1 = some L → LoopOK Tryd.prog gls q.2 L :=
  lo_body (E := lz64_E (len64_k n) n) (by kernel_rfl : Tryd.f50.body = some (bodyOf Tryd.f50)) (lo_of (E := lz64_E (len64_k n) n) (by kernel_rfl : loopsOf 0 (bodyOf Tryd.f50) = []) lo_nil)
theorem lz64_ok (n : Nat) : FnOK Tryd.prog gls 50 (lz64_ent (A := A) (lz64_k n)) :=
  FnOK.of (lz64_T (len64_k n) n) (lz64_fns n) follows ⟨Tryd.func50, by kernel_rfl⟩ (lz64_lo n) (rm := [.pure]) fun args k out h => by
    obtain ⟨a0, e, h1⟩ := args1_sound h
    subst e; rw [lz64_eq]; exact h1

end Go.Ev
end

