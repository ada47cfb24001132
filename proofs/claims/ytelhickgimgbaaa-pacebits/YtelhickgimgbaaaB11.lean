import Derived.Test.YtelhickgimgbaaaB8
import Derived.Test.YtelhickgimgbaaaB6
import Derived.Test.YtelhickgimgbaaaB10
import Derived.Test.YtelhickgimgbaaaB9
import Derived.Test.YtelhickgimgbaaaB5
import Derived.Test.YtelhickgimgbaaaB7
set_option linter.all false
section
/-
  COMPACT BITS: what target and bits compute, as numbers.
-/
set_option linter.all false
namespace Go.Ev
variable {A : Type}

-- ------------------------------------------------------------ 32 bits

theorem wrap_u32_nat (x : Nat) (h : x < 4294967296) : IntKind.wrap .u32 (x : Int) = (x : Int) := by rw [wrap_u32]; omega
theorem iand_u32 (a b : Nat) (ha : a < 4294967296) (hb : b < 4294967296) : iand .u32 (a : Int) (b : Int) = ((a &&& b : Nat) : Int) := by
  unfold iand
  rw [BitVec.toNat_and, ofInt_nat, ofInt_nat, bits_u32, Nat.mod_eq_of_lt (show a < 2 ^ 32 by omega), Nat.mod_eq_of_lt (show b < 2 ^ 32 by omega)]
  exact wrap_u32_nat _ (Nat.and_lt_two_pow (n := 32) _ (by omega))
theorem ior_u32 (a b : Nat) (ha : a < 4294967296) (hb : b < 4294967296) : ior .u32 (a : Int) (b : Int) = ((a ||| b : Nat) : Int) := by
  unfold ior
  rw [BitVec.toNat_or, ofInt_nat, ofInt_nat, bits_u32, Nat.mod_eq_of_lt (show a < 2 ^ 32 by omega), Nat.mod_eq_of_lt (show b < 2 ^ 32 by omega)]
  exact wrap_u32_nat _ (Nat.or_lt_two_pow (n := 32) (by omega) (by omega))
theorem shl_u32 (x k : Nat) (hk : k ≤ 32) : shl .u32 (x : Int) (k : Int) = ((x * 2 ^ k % 4294967296 : Nat) : Int) := by
  unfold shl
  rw [bits_u32, Int.toNat_natCast, Nat.min_eq_left hk, wrap_u32]
  have : (x : Int) * 2 ^ k = ((x * 2 ^ k : Nat) : Int) := by simp
  rw [this]; rfl
theorem shr_u32 (x k : Nat) (hk : k ≤ 32) : shr .u32 (x : Int) (k : Int) = ((x / 2 ^ k : Nat) : Int) := by
  unfold shr
  rw [bits_u32, Int.toNat_natCast, Nat.min_eq_left hk, Int.fdiv_eq_ediv_of_nonneg _ (by exact Int.le_of_lt (Int.pow_pos (by decide)))]
  simp

theorem and_bit (a k : Nat) : a &&& 2 ^ k = a / 2 ^ k % 2 * 2 ^ k := by
  apply Nat.eq_of_testBit_eq
  intro t
  rw [Nat.testBit_and, Nat.testBit_two_pow, Nat.testBit_mul_two_pow, show a / 2 ^ k % 2 = a / 2 ^ k % 2 ^ 1 from rfl, Nat.testBit_mod_two_pow, tb_div]
  by_cases h : k = t
  · subst h; simp
  · by_cases h2 : k ≤ t
    · have : ¬ (t - k < 1) := by omega
      simp [h, this]
    · simp [h, h2]

-- ------------------------------------------------------------ how many bytes

def bs (x : Nat) : Nat := (bl x + 7) / 8
theorem bs_le (x k : Nat) : bs x ≤ k ↔ x < 2 ^ (8 * k) := by rw [← bl_le]; unfold bs; omega
theorem lt_bs (x : Nat) : x < 2 ^ (8 * bs x) := (bs_le x _).1 (Nat.le_refl _)
theorem le_of_bs {x k : Nat} (h : k < bs x) : 2 ^ (8 * k) ≤ x := by
  rcases Nat.lt_or_ge x (2 ^ (8 * k)) with h2 | h2
  · have := (bs_le x k).2 h2; omega
  · exact h2
theorem bs_zero : bs 0 = 0 := rfl
theorem bs_256 {x : Nat} (h : x < 2 ^ 256) : bs x ≤ 32 := (bs_le x 32).2 h
theorem bs_mono {x y : Nat} (h : x ≤ y) : bs x ≤ bs y := (bs_le x _).2 (Nat.lt_of_le_of_lt h (lt_bs y))

-- ------------------------------------------------------------ bits

/-- The first three bytes. -/
def zN (x : Nat) : Nat := x * 2 ^ (8 * (3 - bs x)) / 2 ^ (8 * (bs x - 3))
theorem z_pre (x : Nat) : x * 2 ^ (8 * (3 - bs x)) < 2 ^ (24 + 8 * (bs x - 3)) := by
  have h := lt_bs x
  calc x * 2 ^ (8 * (3 - bs x)) < 2 ^ (8 * bs x) * 2 ^ (8 * (3 - bs x)) := Nat.mul_lt_mul_of_pos_right h (Nat.two_pow_pos _)
    _ = 2 ^ (24 + 8 * (bs x - 3)) := by rw [← Nat.pow_add]; congr 1; omega
theorem zN_lt (x : Nat) : zN x < 16777216 := by
  unfold zN
  rw [Nat.div_lt_iff_lt_mul (Nat.two_pow_pos _), show 16777216 = 2 ^ 24 from by decide, ← Nat.pow_add]
  exact z_pre x
theorem zN_ge (x : Nat) (h : x ≠ 0) : 65536 ≤ zN x := by
  have hb : 0 < bs x := by
    rcases Nat.eq_zero_or_pos (bs x) with h0 | h0
    · have := (bs_le x 0).1 (by omega); simp at this; omega
    · exact h0
  have h2 : 2 ^ (8 * (bs x - 1)) ≤ x := le_of_bs (by omega)
  unfold zN
  rw [Nat.le_div_iff_mul_le (Nat.two_pow_pos _), show 65536 = 2 ^ 16 from by decide, ← Nat.pow_add]
  calc 2 ^ (16 + 8 * (bs x - 3)) = 2 ^ (8 * (bs x - 1)) * 2 ^ (8 * (3 - bs x)) := by rw [← Nat.pow_add]; congr 1; omega
    _ ≤ _ := Nat.mul_le_mul_right _ h2

def cbN (x : Nat) : Nat := if 8388608 ≤ zN x then (bs x + 1) * 16777216 + zN x / 256 else bs x * 16777216 + zN x

theorem or_24 (s z : Nat) (hs : s < 256) (hz : z < 16777216) : ior .u32 (shl .u32 (s : Int) 24) (z : Int) = ((s * 16777216 + z : Nat) : Int) := by
  rw [show (24 : Int) = ((24 : Nat) : Int) from rfl, shl_u32 s 24 (by decide), Nat.mod_eq_of_lt (by omega), ior_u32 _ _ (by omega) (by omega), or_parts s z 24 (by omega)]

theorem cbits_law (n : Nat) (hn : 10 < n) (x : Nat) (hx : x < 2 ^ 256) (g : Int → Option A) : cbits_k n (ints (uw x)) g = g ((cbN x : Nat) : Int) := by
  unfold cbits_k cbits_p
  have hbl : bl x ≤ 256 := (bl_le x 256).2 hx
  have hbs := bs_256 hx
  rw [ulen_law n hn x hx]
  have e0 : IntKind.wrap .i64 (((bl x : Nat) : Int) + 8) = ((bl x + 8 : Nat) : Int) := by rw [wrap_id (by omega) (by omega)]; omega
  have e1 : IntKind.wrap .i64 (((bl x + 8 : Nat) : Int) - 1) = ((bl x + 7 : Nat) : Int) := by rw [wrap_id (by omega) (by omega)]; omega
  have e2 : IntKind.wrap .i64 (Int.tdiv ((bl x + 7 : Nat) : Int) 8) = ((bs x : Nat) : Int) := by
    unfold bs
    rw [show (8 : Int) = ((8 : Nat) : Int) from rfl, tdiv_nat]; exact wrap_id (by omega) (by omega)
  have e3 : IntKind.wrap .i64 (3 - ((bs x : Nat) : Int)) = 3 - ((bs x : Nat) : Int) := wrap_id (by omega) (by omega)
  have e4 : IntKind.wrap .i64 (8 * (3 - ((bs x : Nat) : Int))) = 8 * (3 - ((bs x : Nat) : Int)) := wrap_id (by omega) (by omega)
  have e5 : IntKind.wrap .i64 (((bs x : Nat) : Int) - 3) = ((bs x : Nat) : Int) - 3 := wrap_id (by omega) (by omega)
  have e6 : IntKind.wrap .i64 (8 * (((bs x : Nat) : Int) - 3)) = 8 * (((bs x : Nat) : Int) - 3) := wrap_id (by omega) (by omega)
  have e7 : IntKind.wrap .i64 (((bs x : Nat) : Int) + 1) = ((bs x + 1 : Nat) : Int) := by rw [wrap_id (by omega) (by omega)]; omega
  rw [e0, e1, e2, e3, e4, e5, e6, e7, ushl_lawI n hn]
  have t1 : (8 * (3 - ((bs x : Nat) : Int))).toNat = 8 * (3 - bs x) := by omega
  have t2 : (8 * (((bs x : Nat) : Int) - 3)).toNat = 8 * (bs x - 3) := by omega
  have hp : x * 2 ^ (8 * (3 - bs x)) < 2 ^ 256 := Nat.lt_of_lt_of_le (z_pre x) (Nat.pow_le_pow_right (by decide) (by omega))
  rw [t1, Nat.mod_eq_of_lt hp, ushr_lawI n hn _ hp, t2]
  show ((ints (uw (zN x)))[0]?).bind _ = _
  have hz := zN_lt x
  have w0 : wd (zN x) 0 = zN x := by unfold wd; rw [Nat.mul_zero, Nat.pow_zero, Nat.div_one]; omega
  rw [iuw_at _ 0 (by decide), Option.bind_some, w0]
  have i1 : iand .u64 ((zN x : Nat) : Int) 8388608 = ((zN x / 8388608 % 2 * 8388608 : Nat) : Int) := by
    rw [show (8388608 : Int) = ((8388608 : Nat) : Int) from rfl, iand_u64 _ _ (by omega) (by omega), show 8388608 = 2 ^ 23 from by decide, and_bit]
  rw [i1]
  have u1 : IntKind.wrap .u32 ((bs x + 1 : Nat) : Int) = ((bs x + 1 : Nat) : Int) := wrap_u32_nat _ (by omega)
  have u2 : IntKind.wrap .u32 ((bs x : Nat) : Int) = ((bs x : Nat) : Int) := wrap_u32_nat _ (by omega)
  have u3 : IntKind.wrap .u32 ((zN x : Nat) : Int) = ((zN x : Nat) : Int) := wrap_u32_nat _ (by omega)
  have u4 : IntKind.wrap .u32 (shr .u64 ((zN x : Nat) : Int) 8) = ((zN x / 256 : Nat) : Int) := by rw [shrk _ 8 (by decide) 8 rfl]; exact wrap_u32_nat _ (by omega)
  rw [u1, u2, u3, u4, or_24 _ _ (by omega) (by omega), or_24 _ _ (by omega) (by omega)]
  unfold cbN
  by_cases h : 8388608 ≤ zN x
  · have d : (((zN x / 8388608 % 2 * 8388608 : Nat) : Int) != 0) = true := by simp; omega
    rw [d, cond_true, if_pos h]
  · have d : (((zN x / 8388608 % 2 * 8388608 : Nat) : Int) != 0) = false := by simp; omega
    rw [d, cond_false, if_neg h]

-- ------------------------------------------------------------ target

def ctN (c : Nat) : Option Nat :=
  if c / 8388608 % 2 ≠ 0 then none else
  if c / 16777216 ≤ 3 then (if c % 8388608 / 2 ^ (8 * (3 - c / 16777216)) = 0 then none else some (c % 8388608 / 2 ^ (8 * (3 - c / 16777216))))
  else if 256 < bl (c % 8388608) + 8 * (c / 16777216 - 3) then none else
    (if c % 8388608 * 2 ^ (8 * (c / 16777216 - 3)) = 0 then none else some (c % 8388608 * 2 ^ (8 * (c / 16777216 - 3))))

theorem uw_zero (x : Nat) (hx : x < 2 ^ 256) : deq kA4u64 (ints (uw x)) ([0, 0, 0, 0] : List Int) = decide (x = 0) := by
  by_cases h : x = 0
  · subst h; rw [zero_uw, deq_self]; rfl
  · rw [decide_eq_false h]
    cases hd : deq kA4u64 (ints (uw x)) ([0, 0, 0, 0] : List Int) with
    | false => rfl
    | true =>
      have h1 := (deq_iff kA4u64 _ _).1 hd
      rw [zero_uw] at h1
      have inj : ∀ a b : List Nat, ints a = ints b → a = b := fun a b hab => by
        have := congrArg (List.map Int.toNat) hab
        simpa [ints, List.map_map, Function.comp_def] using this
      have h2 := congrArg wval (inj _ _ h1)
      rw [wval_uw x hx, wval_uw 0 (by decide)] at h2
      exact absurd h2 h

theorem ctN_lt (c t : Nat) (h : ctN c = some t) : t < 2 ^ 256 ∧ t ≠ 0 := by
  unfold ctN at h
  split at h
  · cases h
  · split at h
    · split at h
      · cases h
      · rename_i h3
        cases h
        refine ⟨Nat.lt_of_le_of_lt (Nat.div_le_self _ _) ?_, h3⟩
        exact Nat.lt_of_lt_of_le (Nat.mod_lt _ (by decide)) (by decide)
    · split at h
      · cases h
      · rename_i h2
        split at h
        · cases h
        · rename_i h3
          cases h
          refine ⟨?_, h3⟩
          have hm : c % 8388608 ≠ 0 := fun e => h3 (by rw [e, Nat.zero_mul])
          rw [← bl_le, bl_mul _ _ hm]; omega

theorem ctarget_law (n : Nat) (hn : 10 < n) (c : Nat) (hc : c < 4294967296) (g : List Int → Int → Option A) :
    ctarget_k n (c : Int) g = match ctN c with
      | none => g (ints (uw 0)) 5
      | some t => g (ints (uw t)) 0 := by
  unfold ctarget_k ctarget_p ctN
  have i0 : IntKind.wrap .u64 (iand .u32 (c : Int) 8388607) = ((c % 8388608 : Nat) : Int) := by
    rw [show (8388607 : Int) = ((8388607 : Nat) : Int) from rfl, iand_u32 _ _ hc (by omega), show (8388607 : Nat) = 2 ^ 23 - 1 from by decide, Nat.and_two_pow_sub_one_eq_mod, show 8388608 = 2 ^ 23 from by decide]
    exact wrap_u64_nat _ (by omega)
  have i1 : iand .u32 (c : Int) 8388608 = ((c / 8388608 % 2 * 8388608 : Nat) : Int) := by
    rw [show (8388608 : Int) = ((8388608 : Nat) : Int) from rfl, iand_u32 _ _ hc (by omega), show 8388608 = 2 ^ 23 from by decide, and_bit]
  have i2 : IntKind.wrap .i64 (shr .u32 (c : Int) 24) = ((c / 16777216 : Nat) : Int) := by
    rw [show (24 : Int) = ((24 : Nat) : Int) from rfl, shr_u32 c 24 (by decide), show 2 ^ 24 = 16777216 from by decide]
    exact wrap_id (by omega) (by omega)
  have hm : c % 8388608 < 8388608 := Nat.mod_lt _ (by decide)
  have hm2 : c % 8388608 < 2 ^ 256 := Nat.lt_trans hm (by decide)
  rw [i0, i1, i2, uof_law n _ (by omega), zero_uw]
  by_cases h1 : c / 8388608 % 2 = 0
  · have d : (((c / 8388608 % 2 * 8388608 : Nat) : Int) != 0) = false := by rw [h1]; rfl
    rw [d, cond_false, if_neg (by omega)]
    by_cases h2 : c / 16777216 ≤ 3
    · have d2 : decide (((c / 16777216 : Nat) : Int) ≤ 3) = true := decide_eq_true (by omega)
      have e1 : IntKind.wrap .i64 (3 - ((c / 16777216 : Nat) : Int)) = ((3 - c / 16777216 : Nat) : Int) := by rw [wrap_id (by omega) (by omega)]; omega
      have e2 : IntKind.wrap .i64 (8 * ((3 - c / 16777216 : Nat) : Int)) = ((8 * (3 - c / 16777216) : Nat) : Int) := by rw [wrap_id (by omega) (by omega)]; omega
      rw [d2, cond_true, if_pos h2, e1, e2, ushr_law n hn _ _ hm2, ← zero_uw, uw_zero _ (Nat.lt_of_le_of_lt (Nat.div_le_self _ _) hm2)]
      by_cases h3 : c % 8388608 / 2 ^ (8 * (3 - c / 16777216)) = 0
      · rw [decide_eq_true h3, cond_true, if_pos h3]
      · rw [decide_eq_false h3, cond_false, if_neg h3]
    · have d2 : decide (((c / 16777216 : Nat) : Int) ≤ 3) = false := decide_eq_false (by omega)
      have hbm : bl (c % 8388608) ≤ 23 := (bl_le _ 23).2 (by omega)
      have e1 : IntKind.wrap .i64 (((c / 16777216 : Nat) : Int) - 3) = ((c / 16777216 - 3 : Nat) : Int) := by rw [wrap_id (by omega) (by omega)]; omega
      have e2 : IntKind.wrap .i64 (8 * ((c / 16777216 - 3 : Nat) : Int)) = ((8 * (c / 16777216 - 3) : Nat) : Int) := by rw [wrap_id (by omega) (by omega)]; omega
      have e3 : IntKind.wrap .i64 (((bl (c % 8388608) : Nat) : Int) + ((8 * (c / 16777216 - 3) : Nat) : Int)) = ((bl (c % 8388608) + 8 * (c / 16777216 - 3) : Nat) : Int) := by rw [wrap_id (by omega) (by omega)]; omega
      rw [d2, cond_false, if_neg h2, ulen_law n hn _ hm2, e1, e2, e3]
      by_cases h3 : 256 < bl (c % 8388608) + 8 * (c / 16777216 - 3)
      · rw [decide_eq_true (show ((bl (c % 8388608) + 8 * (c / 16777216 - 3) : Nat) : Int) > 256 by omega), cond_true, if_pos h3]
      · rw [decide_eq_false (show ¬ ((bl (c % 8388608) + 8 * (c / 16777216 - 3) : Nat) : Int) > 256 by omega), cond_false, if_neg h3]
        have hlt : c % 8388608 * 2 ^ (8 * (c / 16777216 - 3)) < 2 ^ 256 := by
          by_cases h0 : c % 8388608 = 0
          · rw [h0, Nat.zero_mul]; exact Nat.two_pow_pos _
          · rw [← bl_le, bl_mul _ _ h0]; omega
        rw [ushl_law n hn, Nat.mod_eq_of_lt hlt, ← zero_uw, uw_zero _ hlt]
        by_cases h4 : c % 8388608 * 2 ^ (8 * (c / 16777216 - 3)) = 0
        · rw [decide_eq_true h4, cond_true, if_pos h4]
        · rw [decide_eq_false h4, cond_false, if_neg h4]
  · have d : (((c / 8388608 % 2 * 8388608 : Nat) : Int) != 0) = true := by simp; omega
    rw [d, cond_true, if_pos h1]

def canN (c : Nat) : Bool := match ctN c with
  | none => false
  | some t => cbN t == c

theorem cbN_lt (x : Nat) (hx : x < 2 ^ 256) : cbN x < 4294967296 := by
  have := bs_256 hx
  have := zN_lt x
  unfold cbN
  split <;> omega

theorem canon_law (n : Nat) (hn : 10 < n) (c : Nat) (hc : c < 4294967296) (g : Bool → Option A) : canon_k n (c : Int) g = g (canN c) := by
  unfold canon_k canon_p
  rw [ctarget_law n hn c hc]
  unfold canN
  cases h : ctN c with
  | none => rfl
  | some t =>
    show (bif ((0 : Int) == 0) then _ else _) = _
    rw [show ((0 : Int) == 0) = true from rfl, cond_true, cbits_law n hn t (ctN_lt c t h).1]
    show g (((cbN t : Nat) : Int) == (c : Int)) = g (cbN t == c)
    congr 1
    by_cases h2 : cbN t = c
    · rw [h2]; simp
    · rw [beq_eq_false_iff_ne.2 h2]; simp; omega

end Go.Ev
end

section
/-
  FUNCTION 25: printed by a program of our own (wip/gen/st.py). 'masthead/mastheadref05.Works', in continuation form; the evaluator gives it.
-/
set_option linter.all false
set_option maxRecDepth 100000
namespace Go.Ev
open Go.Proofs
variable {A : Type}

-- ============================================================ works (function 25)
def works_p (g_add : (List Int) → (List Int) → ((List Int) → Option A) → Option A) (g_pow_ : Int → ((List Int) → Option A) → Option A) (g_mul : (List Int) → (List Int) → ((List Int) → Option A) → Option A) (g_less : (List Int) → (List Int) → (Bool → Option A) → Option A) (n : Nat) (a0 : (List Int)) (a1 : (List Int)) (k : Bool → Option A) : Option A :=
  g_add a1 [1] fun r1 =>
  g_pow_ 256 fun r2 =>
  g_mul a0 r1 fun r3 =>
  g_less r2 r3 fun r4 =>
  bif (!r4) then
    g_add r3 r1 fun r5 =>
    g_less r2 r5 fun r6 =>
    k r6
  else
    k false

def works_k (n : Nat) (a0 : (List Int)) (a1 : (List Int)) (k : Bool → Option A) : Option A := works_p (add_k n) (pow__k n) (mul_k n) (less_k n) n a0 a1 k

noncomputable def works_E (g_add : (List Int) → (List Int) → ((List Int) → Option A) → Option A) (g_pow_ : Int → ((List Int) → Option A) → Option A) (g_mul : (List Int) → (List Int) → ((List Int) → Option A) → Option A) (g_less : (List Int) → (List Int) → (Bool → Option A) → Option A) (n : Nat) : Env A := ⟨tys, gls, [(50, add_ent g_add), (44, pow__ent g_pow_), (46, mul_ent g_mul), (43, less_ent g_less)], [], []⟩
theorem works_T (g_add : (List Int) → (List Int) → ((List Int) → Option A) → Option A) (g_pow_ : Int → ((List Int) → Option A) → Option A) (g_mul : (List Int) → (List Int) → ((List Int) → Option A) → Option A) (g_less : (List Int) → (List Int) → (Bool → Option A) → Option A) (n : Nat) : TyOK Try.prog (works_E g_add g_pow_ g_mul g_less n) := tyOK_of rfl tysB
theorem works_fns (n : Nat) : FnsOK Try.prog (works_E (A := A) (add_k n) (pow__k n) (mul_k n) (less_k n) n) := AllOK.env rfl rfl (AllOK.cons (add_ok n) (AllOK.cons (pow__ok n) (AllOK.cons (mul_ok n) (AllOK.cons (less_ok n) AllOK.nil))))
theorem works_eqg (g_add : (List Int) → (List Int) → ((List Int) → Option A) → Option A) (g_pow_ : Int → ((List Int) → Option A) → Option A) (g_mul : (List Int) → (List Int) → ((List Int) → Option A) → Option A) (g_less : (List Int) → (List Int) → (Bool → Option A) → Option A) (n : Nat) (a0 : (List Int)) (a1 : (List Int)) (k : AV → List Blk → Option A) : fnK (works_E g_add g_pow_ g_mul g_less n) Try.f25 [.pure] [.p (.sl (.int .i64)) a0, .p (.sl (.int .i64)) a1] [] k = works_p g_add g_pow_ g_mul g_less n a0 a1 (fun r0 => k (.p .bool r0) []) := by kernel_rfl
theorem works_eq (n : Nat) (a0 : (List Int)) (a1 : (List Int)) (k : AV → List Blk → Option A) : fnK (works_E (add_k n) (pow__k n) (mul_k n) (less_k n) n) Try.f25 [.pure] [.p (.sl (.int .i64)) a0, .p (.sl (.int .i64)) a1] [] k = works_k n a0 a1 (fun r0 => k (.p .bool r0) []) := works_eqg (add_k n) (pow__k n) (mul_k n) (less_k n) n a0 a1 k
def works_ent (g : (List Int) → (List Int) → (Bool → Option A) → Option A) : Entry A := pureE fun args k => args2 args (.sl (.int .i64)) (.sl (.int .i64)) fun a0 a1 => g a0 a1 (fun r0 => k (.p .bool r0) [])
theorem works_lo (n : Nat) : ∀ c, Try.f25.body = some c → ∀ q ∈ loopsOf 0 c, ∀ L, (works_E (A := A) (add_k n) (pow__k n) (mul_k n) (less_k n) n).lps.lookup q.1 = some L → LoopOK Try.prog gls q.2 L :=
  lo_body (E := works_E (add_k n) (pow__k n) (mul_k n) (less_k n) n) (by kernel_rfl : Try.f25.body = some (bodyOf Try.f25)) (lo_of (E := works_E (add_k n) (pow__k n) (mul_k n) (less_k n) n) (by kernel_rfl : loopsOf 0 (bodyOf Try.f25) = []) lo_nil)
theorem works_ok (n : Nat) : FnOK Try.prog gls 25 (works_ent (A := A) (works_k n)) :=
  FnOK.of (works_T (add_k n) (pow__k n) (mul_k n) (less_k n) n) (works_fns n) follows ⟨Try.func25, by kernel_rfl⟩ (works_lo n) (rm := [.pure]) fun args k out h => by
    obtain ⟨a0, a1, e, h1⟩ := args2_sound h
    subst e; rw [works_eq]; exact h1

end Go.Ev
end

section
/-
  WORK: what it computes, as numbers.
-/
set_option linter.all false
namespace Go.Ev
variable {A : Type}

def cwN (x : Nat) : Nat := if x = 0 then 2 ^ 256 - 1 else 2 ^ 256 / (x + 1)

theorem two256 : (2 : Nat) ^ 256 = 115792089237316195423570985008687907853269984665640564039457584007913129639936 := by decide

theorem cwN_lt (x : Nat) : cwN x < 2 ^ 256 := by
  unfold cwN
  split
  · rw [two256]; omega
  · exact Nat.div_lt_self (Nat.two_pow_pos _) (by omega)

theorem cwork_law (n : Nat) (hn : 300 < n) (x : Nat) (hx : x < 2 ^ 256) (g : List Int → Option A) : cwork_k n (ints (uw x)) g = g (ints (uw (cwN x))) := by
  unfold cwork_k cwork_p
  rw [show (1 : Int) = ((1 : Nat) : Int) from rfl, uof_law n 1 (by decide), uadd_law n (by omega) x 1 hx (Nat.one_lt_two_pow (by decide))]
  by_cases hm : 2 ^ 256 ≤ x + 1
  · rw [decide_eq_true hm, cond_true, uof_law n 1 (by decide)]
    have e : cwN x = 1 := by
      unfold cwN
      rw [if_neg (by rw [two256] at hm; omega), show x + 1 = 2 ^ 256 from by omega, Nat.div_self (Nat.two_pow_pos _)]
    rw [e]
  · rw [decide_eq_false hm, cond_false, uw_zero x hx]
    by_cases h0 : x = 0
    · rw [decide_eq_true h0, cond_true, umax_law]
      unfold cwN
      rw [if_pos h0]
    · have hP : 0 < 2 ^ 256 := Nat.two_pow_pos _
      have e1 : (x + 1) % 2 ^ 256 = x + 1 := Nat.mod_eq_of_lt (by omega)
      have e2 : (2 ^ 256 - 1 + 2 ^ 256 - x) % 2 ^ 256 = 2 ^ 256 - (x + 1) := by
        rw [show 2 ^ 256 - 1 + 2 ^ 256 - x = (2 ^ 256 - (x + 1)) + 2 ^ 256 from by omega, Nat.add_mod_right, Nat.mod_eq_of_lt (by omega)]
      have e3 : (2 ^ 256 - (x + 1)) / (x + 1) + 1 = cwN x := by
        unfold cwN
        rw [if_neg h0, ← Nat.add_div_right _ (by omega)]
        congr 1; omega
      have e4 : ((2 ^ 256 - (x + 1)) / (x + 1) + 1) % 2 ^ 256 = cwN x := by rw [e3, Nat.mod_eq_of_lt (cwN_lt x)]
      have hq : (2 ^ 256 - (x + 1)) / (x + 1) < 2 ^ 256 := Nat.lt_of_le_of_lt (Nat.div_le_self _ _) (by omega)
      rw [decide_eq_false h0, cond_false, umax_law, usub_law n (by omega) _ x (by omega) hx, e1, e2, uquo_law n hn _ (x + 1) (by omega) (by omega) (by omega), uof_law n 1 (by decide), uadd_law n (by omega) _ 1 hq (Nat.one_lt_two_pow (by decide)), e4]

theorem cwN_anti {x y : Nat} (h : x ≤ y) : cwN y ≤ cwN x := by
  unfold cwN
  by_cases hx : x = 0
  · rw [if_pos hx]
    by_cases hy : y = 0
    · rw [if_pos hy]; exact Nat.le_refl _
    · rw [if_neg hy]
      have : 2 ^ 256 / (y + 1) ≤ 2 ^ 256 / 2 := Nat.div_le_div_left (by omega) (by decide)
      rw [two256] at *
      omega
  · rw [if_neg hx, if_neg (by omega)]
    exact Nat.div_le_div_left (by omega) (by omega)
theorem cwN_pos {x : Nat} (hx : x < 2 ^ 256) : 1 ≤ cwN x := by
  unfold cwN
  split
  · rw [two256]; omega
  · rw [Nat.le_div_iff_mul_le (by omega)]; omega

theorem works_law (n : Nat) (hn : 100 < n) (w t : Nat) (hw : w < 2 ^ 256) (ht : t < 2 ^ 256) (g : Bool → Option A) :
    works_k n (ints (dig w)) (ints (dig t)) g = g (decide (w * (t + 1) ≤ 2 ^ 256 ∧ 2 ^ 256 < w * (t + 1) + (t + 1))) := by
  unfold works_k works_p
  have l1 : (dig t).length ≤ 16 := dig_len256 t ht
  have l2 : (dig w).length ≤ 16 := dig_len256 w hw
  have l3 : (dig 1).length ≤ 1 := dig_len 1 1 (by decide)
  have l4 : (dig (t + 1)).length ≤ 17 := dig_len_gen (t + 1) 256 17 (by decide) (by omega)
  have l5 : (dig (2 ^ 256)).length ≤ 17 := dig_len_gen (2 ^ 256) 256 17 (by decide) (Nat.le_refl _)
  have l6 : (dig (w * (t + 1))).length ≤ 33 := dig_len_mul w (t + 1) 256 256 33 (by decide) (by omega) (by omega)
  rw [dig_one, add_law n t 1 (by omega) (by omega), show (256 : Int) = ((256 : Nat) : Int) from rfl, pow_law n 256 (by decide) (by omega), mul_law n w (t + 1) (by omega) (by omega), less_law n _ _ (by omega) (by omega)]
  by_cases h1 : w * (t + 1) ≤ 2 ^ 256
  · rw [decide_eq_false (show ¬ 2 ^ 256 < w * (t + 1) by omega), Bool.not_false, cond_true, add_law n _ (t + 1) (by omega) (by omega), less_law n _ _ (by omega) (by omega)]
    congr 1
    apply decide_eq_decide.2
    exact ⟨fun h => ⟨h1, h⟩, fun h => h.2⟩
  · rw [decide_eq_true (show 2 ^ 256 < w * (t + 1) by omega), Bool.not_true, cond_false, decide_eq_false (fun h => h1 h.1)]

end Go.Ev
end

section
/-
  FUNCTION 11: printed by a program of our own (wip/gen/st.py). 'masthead/mastheadlaw05.CompactFalls', in continuation form; the evaluator gives it.
-/
set_option linter.all false
set_option maxRecDepth 100000
namespace Go.Ev
open Go.Proofs
variable {A : Type}

-- ============================================================ falls (function 11)
def falls_p (g_cwork : (List Int) → ((List Int) → Option A) → Option A) (g_ucmp : (List Int) → (List Int) → (Int → Option A) → Option A) (g_uof : Int → ((List Int) → Option A) → Option A) (g_awake : (Bool → Option A) → Option A) (n : Nat) (a0 : (List Int)) (a1 : (List Int)) (k : Bool → Option A) : Option A :=
  g_cwork a0 fun r1 =>
  g_cwork a1 fun r2 =>
  g_ucmp a0 a1 fun r3 =>
  bif (decide (r3 ≤ 0)) then
    g_ucmp r1 r2 fun r4 =>
    bif (decide (r4 < 0)) then
      k false
    else
      g_ucmp a0 a1 fun r5 =>
      bif (decide (r5 ≥ 0)) then
        g_ucmp r1 r2 fun r6 =>
        bif (decide (r6 > 0)) then
          k false
        else
          g_uof 1 fun r7 =>
          g_ucmp r1 r7 fun r8 =>
          bif (decide (r8 ≥ 0)) then
            g_awake fun r9 =>
            k r9
          else
            k false
      else
        g_uof 1 fun r10 =>
        g_ucmp r1 r10 fun r11 =>
        bif (decide (r11 ≥ 0)) then
          g_awake fun r12 =>
          k r12
        else
          k false
  else
    g_ucmp a0 a1 fun r13 =>
    bif (decide (r13 ≥ 0)) then
      g_ucmp r1 r2 fun r14 =>
      bif (decide (r14 > 0)) then
        k false
      else
        g_uof 1 fun r15 =>
        g_ucmp r1 r15 fun r16 =>
        bif (decide (r16 ≥ 0)) then
          g_awake fun r17 =>
          k r17
        else
          k false
    else
      g_uof 1 fun r18 =>
      g_ucmp r1 r18 fun r19 =>
      bif (decide (r19 ≥ 0)) then
        g_awake fun r20 =>
        k r20
      else
        k false

def falls_k (n : Nat) (a0 : (List Int)) (a1 : (List Int)) (k : Bool → Option A) : Option A := falls_p (cwork_k n) (ucmp_k n) (uof_k n) (awake_k n) n a0 a1 k

noncomputable def falls_E (g_cwork : (List Int) → ((List Int) → Option A) → Option A) (g_ucmp : (List Int) → (List Int) → (Int → Option A) → Option A) (g_uof : Int → ((List Int) → Option A) → Option A) (g_awake : (Bool → Option A) → Option A) (n : Nat) : Env A := ⟨tys, gls, [(23, cwork_ent g_cwork), (30, ucmp_ent g_ucmp), (35, uof_ent g_uof), (18, awake_ent g_awake)], [], []⟩
theorem falls_T (g_cwork : (List Int) → ((List Int) → Option A) → Option A) (g_ucmp : (List Int) → (List Int) → (Int → Option A) → Option A) (g_uof : Int → ((List Int) → Option A) → Option A) (g_awake : (Bool → Option A) → Option A) (n : Nat) : TyOK Try.prog (falls_E g_cwork g_ucmp g_uof g_awake n) := tyOK_of rfl tysB
theorem falls_fns (n : Nat) : FnsOK Try.prog (falls_E (A := A) (cwork_k n) (ucmp_k n) (uof_k n) (awake_k n) n) := AllOK.env rfl rfl (AllOK.cons (cwork_ok n) (AllOK.cons (ucmp_ok n) (AllOK.cons (uof_ok n) (AllOK.cons (awake_ok n) AllOK.nil))))
theorem falls_eqg (g_cwork : (List Int) → ((List Int) → Option A) → Option A) (g_ucmp : (List Int) → (List Int) → (Int → Option A) → Option A) (g_uof : Int → ((List Int) → Option A) → Option A) (g_awake : (Bool → Option A) → Option A) (n : Nat) (a0 : (List Int)) (a1 : (List Int)) (k : AV → List Blk → Option A) : fnK (falls_E g_cwork g_ucmp g_uof g_awake n) Try.f11 [.pure] [.p kA4u64 a0, .p kA4u64 a1] [] k = falls_p g_cwork g_ucmp g_uof g_awake n a0 a1 (fun r0 => k (.p .bool r0) []) := by kernel_rfl
theorem falls_eq (n : Nat) (a0 : (List Int)) (a1 : (List Int)) (k : AV → List Blk → Option A) : fnK (falls_E (cwork_k n) (ucmp_k n) (uof_k n) (awake_k n) n) Try.f11 [.pure] [.p kA4u64 a0, .p kA4u64 a1] [] k = falls_k n a0 a1 (fun r0 => k (.p .bool r0) []) := falls_eqg (cwork_k n) (ucmp_k n) (uof_k n) (awake_k n) n a0 a1 k
def falls_ent (g : (List Int) → (List Int) → (Bool → Option A) → Option A) : Entry A := pureE fun args k => args2 args kA4u64 kA4u64 fun a0 a1 => g a0 a1 (fun r0 => k (.p .bool r0) [])
theorem falls_lo (n : Nat) : ∀ c, Try.f11.body = some c → ∀ q ∈ loopsOf 0 c, ∀ L, (falls_E (A := A) (cwork_k n) (ucmp_k n) (uof_k n) (awake_k n) n).lps.lookup q.1 = some L → LoopOK Try.prog gls q.2 L :=
  lo_body (E := falls_E (cwork_k n) (ucmp_k n) (uof_k n) (awake_k n) n) (by kernel_rfl : Try.f11.body = some (bodyOf Try.f11)) (lo_of (E := falls_E (cwork_k n) (ucmp_k n) (uof_k n) (awake_k n) n) (by kernel_rfl : loopsOf 0 (bodyOf Try.f11) = []) lo_nil)
theorem falls_ok (n : Nat) : FnOK Try.prog gls 11 (falls_ent (A := A) (falls_k n)) :=
  FnOK.of (falls_T (cwork_k n) (ucmp_k n) (uof_k n) (awake_k n) n) (falls_fns n) follows ⟨Try.func11, by kernel_rfl⟩ (falls_lo n) (rm := [.pure]) fun args k out h => by
    obtain ⟨a0, a1, e, h1⟩ := args2_sound h
    subst e; rw [falls_eq]; exact h1

end Go.Ev
end

section
/-
  FUNCTION 6: printed by a program of our own (wip/gen/st.py). 'masthead/mastheadlaw05.CompactWorks', in continuation form; the evaluator gives it.
-/
set_option linter.all false
set_option maxRecDepth 100000
namespace Go.Ev
open Go.Proofs
variable {A : Type}

-- ============================================================ worksl (function 6)
def worksl_p (g_cwork : (List Int) → ((List Int) → Option A) → Option A) (g_umax : ((List Int) → Option A) → Option A) (g_awake : (Bool → Option A) → Option A) (g_big : (List Int) → ((List Int) → Option A) → Option A) (g_works : (List Int) → (List Int) → (Bool → Option A) → Option A) (n : Nat) (a0 : (List Int)) (k : Bool → Option A) : Option A :=
  g_cwork a0 fun r1 =>
  bif (deq kA4u64 a0 [0, 0, 0, 0]) then
    g_umax fun r2 =>
    bif (deq kA4u64 r1 r2) then
      g_awake fun r3 =>
      k r3
    else
      k false
  else
    g_big r1 fun r4 =>
    g_big a0 fun r5 =>
    g_works r4 r5 fun r6 =>
    bif r6 then
      g_awake fun r7 =>
      k r7
    else
      k false

def worksl_k (n : Nat) (a0 : (List Int)) (k : Bool → Option A) : Option A := worksl_p (cwork_k n) (umax_k n) (awake_k n) (big_k n) (works_k n) n a0 k

noncomputable def worksl_E (g_cwork : (List Int) → ((List Int) → Option A) → Option A) (g_umax : ((List Int) → Option A) → Option A) (g_awake : (Bool → Option A) → Option A) (g_big : (List Int) → ((List Int) → Option A) → Option A) (g_works : (List Int) → (List Int) → (Bool → Option A) → Option A) (n : Nat) : Env A := ⟨tys, gls, [(23, cwork_ent g_cwork), (24, umax_ent g_umax), (18, awake_ent g_awake), (22, big_ent g_big), (25, works_ent g_works)], [], []⟩
theorem worksl_T (g_cwork : (List Int) → ((List Int) → Option A) → Option A) (g_umax : ((List Int) → Option A) → Option A) (g_awake : (Bool → Option A) → Option A) (g_big : (List Int) → ((List Int) → Option A) → Option A) (g_works : (List Int) → (List Int) → (Bool → Option A) → Option A) (n : Nat) : TyOK Try.prog (worksl_E g_cwork g_umax g_awake g_big g_works n) := tyOK_of rfl tysB
theorem worksl_fns (n : Nat) : FnsOK Try.prog (worksl_E (A := A) (cwork_k n) (umax_k n) (awake_k n) (big_k n) (works_k n) n) := AllOK.env rfl rfl (AllOK.cons (cwork_ok n) (AllOK.cons (umax_ok n) (AllOK.cons (awake_ok n) (AllOK.cons (big_ok n) (AllOK.cons (works_ok n) AllOK.nil)))))
theorem worksl_eqg (g_cwork : (List Int) → ((List Int) → Option A) → Option A) (g_umax : ((List Int) → Option A) → Option A) (g_awake : (Bool → Option A) → Option A) (g_big : (List Int) → ((List Int) → Option A) → Option A) (g_works : (List Int) → (List Int) → (Bool → Option A) → Option A) (n : Nat) (a0 : (List Int)) (k : AV → List Blk → Option A) : fnK (worksl_E g_cwork g_umax g_awake g_big g_works n) Try.f6 [.pure] [.p kA4u64 a0] [] k = worksl_p g_cwork g_umax g_awake g_big g_works n a0 (fun r0 => k (.p .bool r0) []) := by kernel_rfl
theorem worksl_eq (n : Nat) (a0 : (List Int)) (k : AV → List Blk → Option A) : fnK (worksl_E (cwork_k n) (umax_k n) (awake_k n) (big_k n) (works_k n) n) Try.f6 [.pure] [.p kA4u64 a0] [] k = worksl_k n a0 (fun r0 => k (.p .bool r0) []) := worksl_eqg (cwork_k n) (umax_k n) (awake_k n) (big_k n) (works_k n) n a0 k
def worksl_ent (g : (List Int) → (Bool → Option A) → Option A) : Entry A := pureE fun args k => args1 args kA4u64 fun a0 => g a0 (fun r0 => k (.p .bool r0) [])
theorem worksl_lo (n : Nat) : ∀ c, Try.f6.body = some c → ∀ q ∈ loopsOf 0 c, ∀ L, (worksl_E (A := A) (cwork_k n) (umax_k n) (awake_k n) (big_k n) (works_k n) n).lps.lookup q.1 = some L → LoopOK Try.prog gls q.2 L :=
  lo_body (E := worksl_E (cwork_k n) (umax_k n) (awake_k n) (big_k n) (works_k n) n) (by kernel_rfl : Try.f6.body = some (bodyOf Try.f6)) (lo_of (E := worksl_E (cwork_k n) (umax_k n) (awake_k n) (big_k n) (works_k n) n) (by kernel_rfl : loopsOf 0 (bodyOf Try.f6) = []) lo_nil)
theorem worksl_ok (n : Nat) : FnOK Try.prog gls 6 (worksl_ent (A := A) (worksl_k n)) :=
  FnOK.of (worksl_T (cwork_k n) (umax_k n) (awake_k n) (big_k n) (works_k n) n) (worksl_fns n) follows ⟨Try.func6, by kernel_rfl⟩ (worksl_lo n) (rm := [.pure]) fun args k out h => by
    obtain ⟨a0, e, h1⟩ := args1_sound h
    subst e; rw [worksl_eq]; exact h1

end Go.Ev
end

section
/-
  THE LAWS OF CompactFalls, CompactWorks.
-/
set_option linter.all false
namespace Go.Ev

theorem ucmp_le {x y : Nat} : decide (ucmpN x y ≤ 0) = decide (x ≤ y) := by
  apply decide_eq_decide.2
  unfold ucmpN
  split
  · exact ⟨fun _ => by omega, fun _ => by decide⟩
  · split
    · exact ⟨fun h => by omega, fun h => by omega⟩
    · exact ⟨fun _ => by omega, fun _ => by decide⟩
theorem ucmp_ge {x y : Nat} : decide (ucmpN x y ≥ 0) = decide (y ≤ x) := by
  apply decide_eq_decide.2
  unfold ucmpN
  split
  · exact ⟨fun h => by omega, fun h => by omega⟩
  · split
    · exact ⟨fun _ => by omega, fun _ => by decide⟩
    · exact ⟨fun _ => by omega, fun _ => by decide⟩
theorem ucmp_lt {x y : Nat} : decide (ucmpN x y < 0) = decide (x < y) := by
  apply decide_eq_decide.2
  unfold ucmpN
  split
  · exact ⟨fun _ => by omega, fun _ => by decide⟩
  · split
    · exact ⟨fun h => by omega, fun h => by omega⟩
    · exact ⟨fun h => by omega, fun h => by omega⟩
theorem ucmp_gt {x y : Nat} : decide (ucmpN x y > 0) = decide (y < x) := by
  apply decide_eq_decide.2
  unfold ucmpN
  split
  · exact ⟨fun h => by omega, fun h => by omega⟩
  · split
    · exact ⟨fun _ => by omega, fun _ => by decide⟩
    · exact ⟨fun h => by omega, fun h => by omega⟩

theorem falls_law (a0 a1 : List Int) (f0 : WF kA4u64 a0) (f1 : WF kA4u64 a1) : ∃ n, falls_k n a0 a1 (fun r => some r) = some true := by
  refine ⟨1000, ?_⟩
  have haw : ∀ k : Bool → Option Bool, awake_k 1000 k = k true := awake_1000
  have hn : 300 < 1000 := by decide
  generalize 1000 = n at haw hn
  obtain ⟨x, rfl, hx⟩ := wf_four f0
  obtain ⟨y, rfl, hy⟩ := wf_four f1
  have h10 : 10 < n := by omega
  have c1 := ucmp_law (A := Bool) n h10 x y hx hy
  have c2 := ucmp_law (A := Bool) n h10 (cwN x) (cwN y) (cwN_lt x) (cwN_lt y)
  have c3 := ucmp_law (A := Bool) n h10 (cwN x) 1 (cwN_lt x) (Nat.one_lt_two_pow (by decide))
  have u := uof_law (A := Bool) n 1 (by decide)
  have hp := cwN_pos hx
  unfold falls_k falls_p
  rw [cwork_law n hn x hx, cwork_law n hn y hy]
  simp only [c1, c2, show (1 : Int) = ((1 : Nat) : Int) from rfl, u, c3, haw, ucmp_le, ucmp_ge, ucmp_lt, ucmp_gt]
  rw [decide_eq_true hp, cond_true]
  by_cases h1 : x ≤ y
  · have := cwN_anti h1
    rw [decide_eq_true h1, cond_true, decide_eq_false (show ¬ cwN x < cwN y by omega), cond_false]
    by_cases h2 : y ≤ x
    · have := cwN_anti h2
      rw [decide_eq_true h2, cond_true, decide_eq_false (show ¬ cwN y < cwN x by omega), cond_false]
    · rw [decide_eq_false h2, cond_false]
  · have h2 : y ≤ x := by omega
    have := cwN_anti h2
    rw [decide_eq_false h1, cond_false, decide_eq_true h2, cond_true, decide_eq_false (show ¬ cwN y < cwN x by omega), cond_false]

theorem worksl_law (a0 : List Int) (f0 : WF kA4u64 a0) : ∃ n, worksl_k n a0 (fun r => some r) = some true := by
  refine ⟨1000, ?_⟩
  have haw : ∀ k : Bool → Option Bool, awake_k 1000 k = k true := awake_1000
  have hn : 401 < 1000 := by decide
  generalize 1000 = n at haw hn
  obtain ⟨x, rfl, hx⟩ := wf_four f0
  unfold worksl_k worksl_p
  rw [cwork_law n (by omega) x hx, uw_zero x hx]
  by_cases h0 : x = 0
  · rw [decide_eq_true h0, cond_true, umax_law]
    have e : cwN x = 2 ^ 256 - 1 := by unfold cwN; rw [if_pos h0]
    rw [e, deq_self kA4u64, cond_true, haw]
  · rw [decide_eq_false h0, cond_false, big_law n hn _ (cwN_lt x), big_law n hn x hx, works_law n (by omega) _ x (cwN_lt x) hx]
    have e : cwN x = 2 ^ 256 / (x + 1) := by unfold cwN; rw [if_neg h0]
    have h1 : 2 ^ 256 / (x + 1) * (x + 1) ≤ 2 ^ 256 := Nat.div_mul_le_self _ _
    have h2 : 2 ^ 256 < 2 ^ 256 / (x + 1) * (x + 1) + (x + 1) := by
      have := Nat.lt_div_mul_add (a := 2 ^ 256) (b := x + 1) (by omega)
      omega
    rw [e, decide_eq_true ⟨h1, h2⟩, cond_true, haw]

end Go.Ev
end

section
/-
  FUNCTION 32: printed by a program of our own (wip/gen/st.py). 'masthead/mastheadlaw18.next', in continuation form; the evaluator gives it.
-/
set_option linter.all false
set_option maxRecDepth 100000
namespace Go.Ev
open Go.Proofs
variable {A : Type}

-- ============================================================ next (function 32)
def next_p (g_pnext : (List Int) → (List Int) → Int → Int → Int → Int → ((List Int) → Option A) → Option A) (n : Nat) (a0 : (List Int)) (a1 : (List Int)) (a2 : (Int × (Int × (Int × (Int × Unit))))) (k : (List Int) → Option A) : Option A :=
  g_pnext a0 a1 a2.1 a2.2.1 a2.2.2.1 a2.2.2.2.1 fun r1 =>
  k r1

def next_k (n : Nat) (a0 : (List Int)) (a1 : (List Int)) (a2 : (Int × (Int × (Int × (Int × Unit))))) (k : (List Int) → Option A) : Option A := next_p (pnext_k n) n a0 a1 a2 k

noncomputable def next_E (g_pnext : (List Int) → (List Int) → Int → Int → Int → Int → ((List Int) → Option A) → Option A) (n : Nat) : Env A := ⟨tys, gls, [(31, pnext_ent g_pnext)], [], []⟩
theorem next_T (g_pnext : (List Int) → (List Int) → Int → Int → Int → Int → ((List Int) → Option A) → Option A) (n : Nat) : TyOK Try.prog (next_E g_pnext n) := tyOK_of rfl tysB
theorem next_fns (n : Nat) : FnsOK Try.prog (next_E (A := A) (pnext_k n) n) := AllOK.env rfl rfl (AllOK.cons (pnext_ok n) AllOK.nil)
theorem next_eqg (g_pnext : (List Int) → (List Int) → Int → Int → Int → Int → ((List Int) → Option A) → Option A) (n : Nat) (a0 : (List Int)) (a1 : (List Int)) (a2 : (Int × (Int × (Int × (Int × Unit))))) (k : AV → List Blk → Option A) : fnK (next_E g_pnext n) Try.f32 [.pure] [.p kA4u64 a0, .p kA4u64 a1, .p kT43 a2] [] k = next_p g_pnext n a0 a1 a2 (fun r0 => k (.p kA4u64 r0) []) := by kernel_rfl
theorem next_eq (n : Nat) (a0 : (List Int)) (a1 : (List Int)) (a2 : (Int × (Int × (Int × (Int × Unit))))) (k : AV → List Blk → Option A) : fnK (next_E (pnext_k n) n) Try.f32 [.pure] [.p kA4u64 a0, .p kA4u64 a1, .p kT43 a2] [] k = next_k n a0 a1 a2 (fun r0 => k (.p kA4u64 r0) []) := next_eqg (pnext_k n) n a0 a1 a2 k
def next_ent (g : (List Int) → (List Int) → (Int × (Int × (Int × (Int × Unit)))) → ((List Int) → Option A) → Option A) : Entry A := pureE fun args k => args3 args kA4u64 kA4u64 kT43 fun a0 a1 a2 => g a0 a1 a2 (fun r0 => k (.p kA4u64 r0) [])
theorem next_lo (n : Nat) : ∀ c, Try.f32.body = some c → ∀ q ∈ loopsOf 0 c, ∀ L, (next_E (A := A) (pnext_k n) n).lps.lookup q.1 = some L → LoopOK Try.prog gls q.2 L :=
  lo_body (E := next_E (pnext_k n) n) (by kernel_rfl : Try.f32.body = some (bodyOf Try.f32)) (lo_of (E := next_E (pnext_k n) n) (by kernel_rfl : loopsOf 0 (bodyOf Try.f32) = []) lo_nil)
theorem next_ok (n : Nat) : FnOK Try.prog gls 32 (next_ent (A := A) (next_k n)) :=
  FnOK.of (next_T (pnext_k n) n) (next_fns n) follows ⟨Try.func32, by kernel_rfl⟩ (next_lo n) (rm := [.pure]) fun args k out h => by
    obtain ⟨a0, a1, a2, e, h1⟩ := args3_sound h
    subst e; rw [next_eq]; exact h1

end Go.Ev
end

section
/-
  PACE: the next target, as a number; the laws of PaceKeeps, PaceRises, PaceClamps.
-/
set_option linter.all false
namespace Go.Ev
variable {A : Type}

def MixD (z x i : Nat) (l : List Nat) : Prop := l.length = 4 ∧ ∀ j, j < 4 → l[j]? = some (if i ≤ j then wd z j else wd x j)
theorem MixD.start (z x : Nat) : MixD z x 4 (uw x) := ⟨rfl, fun j hj => by rw [uw_at x j hj, if_neg (by omega)]⟩
theorem MixD.step {z x i : Nat} {l : List Nat} (h : MixD z x (i + 1) l) (hi : i < 4) : MixD z x i (l.set i (wd z i)) := by
  refine ⟨by rw [List.length_set]; exact h.1, fun j hj => ?_⟩
  by_cases hji : i = j
  · subst hji; rw [List.getElem?_set_self (by rw [h.1]; exact hi), if_pos (by omega)]
  · rw [List.getElem?_set_ne hji, h.2 j hj]
    by_cases h2 : i + 1 ≤ j
    · rw [if_pos h2, if_pos (by omega)]
    · rw [if_neg h2, if_neg (by omega)]
theorem MixD.done {z x : Nat} {l : List Nat} (h : MixD z x 0 l) : l = uw z := uw_ext z l h.1 fun i hi => by rw [h.2 i hi, if_pos (by omega)]
theorem MixD.at {z x i : Nat} {l : List Nat} (h : MixD z x (i + 1) l) (hi : i < 4) : (ints l)[i]? = some ((wd x i : Nat) : Int) := by
  rw [ints_get, h.2 i hi, if_neg (by omega)]; rfl

theorem digit_step (M I w : Nat) (hI : 0 < I) (hI2 : I < 18446744073709551616) (hw : w < 18446744073709551616) :
    (M % I * 18446744073709551616 + w) / I = (M * 18446744073709551616 + w) / I % 18446744073709551616 ∧ (M % I * 18446744073709551616 + w) % I = (M * 18446744073709551616 + w) % I := by
  have h1 : M * 18446744073709551616 + w = M % I * 18446744073709551616 + w + I * (M / I * 18446744073709551616) := by
    have h := Nat.div_add_mod M I
    calc M * 18446744073709551616 + w = (I * (M / I) + M % I) * 18446744073709551616 + w := by rw [h]
      _ = I * (M / I) * 18446744073709551616 + M % I * 18446744073709551616 + w := by rw [Nat.add_mul]
      _ = M % I * 18446744073709551616 + w + I * (M / I * 18446744073709551616) := by rw [Nat.mul_assoc]; omega
  have hm : M % I < I := Nat.mod_lt _ hI
  have hlt : (M % I * 18446744073709551616 + w) / I < 18446744073709551616 := by
    rw [Nat.div_lt_iff_lt_mul hI]
    omega
  constructor
  · rw [h1, Nat.add_mul_div_left _ _ hI, Nat.add_mul_mod_self_right, Nat.mod_eq_of_lt hlt]
  · rw [h1, Nat.add_mul_mod_self_left]

theorem by_l0_law (n : Nat) (hn : 10 < n) (N I x : Nat) (hI : 0 < I) (hI2 : I < 18446744073709551616) (hw : ∀ j, j < 4 → wd N j = wd x j) (t6 : List Int) (k0 : List Int → Option A) : ∀ (i f : Nat) (l : List Nat), i ≤ 4 → i < f → MixD (N / I) x i l →
    by__l0 (div64_k n) n (I : Int) t6 k0 f ((N / 2 ^ (64 * i) % I : Nat) : Int) ((i : Int) - 1) (ints l) = k0 (ints (uw (N / I))) := by
  intro i
  induction i with
  | zero =>
    intro f l _ hf hm
    obtain ⟨f, rfl⟩ : ∃ g, f = g + 1 := ⟨f - 1, by omega⟩
    rw [by__l0, by__b0, decide_eq_false (show ¬ ((0 : Nat) : Int) - 1 ≥ 0 by omega), cond_false, hm.done]
  | succ i ih =>
    intro f l hi hf hm
    obtain ⟨f, rfl⟩ : ∃ g, f = g + 1 := ⟨f - 1, by omega⟩
    have e0 : ((i + 1 : Nat) : Int) - 1 = (i : Int) := by omega
    have e1 : IntKind.wrap .i64 ((i : Int) - 1) = (i : Int) - 1 := wrap_id (by omega) (by omega)
    have hs := wd_split N i
    rw [hw i (by omega)] at hs
    have hb := wd_lt x i
    obtain ⟨d1, d2⟩ := digit_step (N / 2 ^ (64 * (i + 1))) I (wd x i) hI hI2 hb
    have e2 : N / 2 ^ (64 * (i + 1)) * 18446744073709551616 + wd x i = N / 2 ^ (64 * i) := by rw [hs, Nat.add_comm, Nat.mul_comm]
    rw [e2] at d1 d2
    have e3 : N / 2 ^ (64 * i) / I % 18446744073709551616 = wd (N / I) i := by unfold wd; rw [Nat.div_div_eq_div_mul, Nat.mul_comm, ← Nat.div_div_eq_div_mul]
    rw [by__l0, by__b0, e0, decide_eq_true (show (i : Int) ≥ 0 by omega), cond_true, if_pos (by omega), if_pos (by omega), Int.toNat_natCast, hm.at (by omega), Option.bind_some,
      div64_law n hn _ _ I hI2 (Nat.mod_lt _ hI) hb, if_pos (by omega), if_pos (by omega), if_pos (by omega), d1, d2, e1, e3, ints_set]
    exact ih f _ (by omega) (by omega) (hm.step (by omega))

theorem by_law (n : Nat) (hn : 10 < n) (N I : Nat) (hI : 0 < I) (hI2 : I < 18446744073709551616) (hN : N / 2 ^ 256 < I) (g : List Int → Bool → Option A) : by__k n (ints (uw (N % 2 ^ 256))) ((N / 2 ^ 256 : Nat) : Int) (I : Int) g = g (ints (uw (N / I))) true := by
  unfold by__k by__p
  rw [decide_eq_false (by omega), cond_false]
  have h := by_l0_law n hn N I (N % 2 ^ 256) hI hI2 (fun j hj => (wd_mod N j hj).symm) [0, 0, 0, 0] (fun y4 => g y4 true) 4 n (uw (N % 2 ^ 256)) (by omega) (by omega) (.start _ _)
  rw [show 2 ^ (64 * 4) = 2 ^ 256 from by decide, Nat.mod_eq_of_lt hN] at h
  exact h

theorem by_law_false (n : Nat) (l : List Int) (h I : Nat) (hh : I ≤ h) (g : List Int → Bool → Option A) : by__k n l (h : Int) (I : Int) g = g [0, 0, 0, 0] false := by
  unfold by__k by__p
  rw [decide_eq_true (by omega), cond_true]

/-- The next target. -/
def pnN (x y I L : Nat) : Nat := min (max (x * L / I) 1) y
theorem pnN_lt {x y I L : Nat} (hy : y < 2 ^ 256) : pnN x y I L < 2 ^ 256 := Nat.lt_of_le_of_lt (Nat.min_le_right _ _) hy

theorem pnext_law (n : Nat) (hn : 10 < n) (x y : Nat) (hx : x < 2 ^ 256) (hy : y < 2 ^ 256) (a b : Int) (s t : Nat) (hs : s < 4294967296) (ht : t < 4294967296) (g : List Int → Option A) :
    pnext_k n (ints (uw x)) (ints (uw y)) a b (s : Int) (t : Int) g = g (ints (uw (pnN x y (idealN a b) (lastN (idealN a b) s t)))) := by
  unfold pnext_k pnext_p
  have h1 := idealN_pos a b
  have h2 := idealN_le a b
  obtain ⟨l1, l2, l3⟩ := lastN_bounds (idealN a b) s t h1
  have one : (1 : Nat) < 2 ^ 256 := Nat.one_lt_two_pow (by decide)
  rw [lasted_law n a b s t hs ht]
  generalize lastN (idealN a b) s t = L at *
  rw [wrap_u64_nat L (by omega), umul_law n hn x L hx (by omega), ideal_law]
  generalize idealN a b = I at *
  rw [wrap_u64_nat I (by omega)]
  have hq : x * L / I < 2 ^ 256 ↔ x * L / 2 ^ 256 < I := by
    rw [Nat.div_lt_iff_lt_mul (by omega), Nat.div_lt_iff_lt_mul (Nat.two_pow_pos _), Nat.mul_comm I]
  unfold pnN
  by_cases hc : x * L / 2 ^ 256 < I
  · have hlt := hq.2 hc
    rw [by_law n hn (x * L) I (by omega) (by omega) hc, uw_zero _ hlt]
    by_cases h0 : x * L / I = 0
    · rw [decide_eq_true h0, cond_true, show (1 : Int) = ((1 : Nat) : Int) from rfl, uof_law n 1 (by decide), Bool.not_true, cond_false, ucmp_law n hn _ _ one hy, ucmp_gt, h0]
      by_cases hy1 : y < 1
      · rw [decide_eq_true hy1, cond_true, show min (max 0 1) y = y from by omega]
      · rw [decide_eq_false hy1, cond_false, show min (max 0 1) y = 1 from by omega]
    · rw [decide_eq_false h0, cond_false, Bool.not_true, cond_false, ucmp_law n hn _ _ hlt hy, ucmp_gt]
      generalize x * L / I = q at *
      by_cases hy1 : y < q
      · rw [decide_eq_true hy1, cond_true, show min (max q 1) y = y from by omega]
      · rw [decide_eq_false hy1, cond_false, show min (max q 1) y = q from by omega]
  · have hge : ¬ x * L / I < 2 ^ 256 := fun h => hc (hq.1 h)
    rw [by_law_false n _ _ _ (by omega), deq_self kA4u64, cond_true, show (1 : Int) = ((1 : Nat) : Int) from rfl, uof_law n 1 (by decide), Bool.not_false, cond_true]
    generalize x * L / I = q at *
    rw [show min (max q 1) y = y from by omega]

end Go.Ev
end

section
/-
  OF DIGITS to four words.
-/
set_option linter.all false
namespace Go.Ev
variable {A : Type}

theorem dig_at : ∀ (i x : Nat), (h : i < (dig x).length) → (dig x)[i] = x / 65536 ^ i % 65536
  | i, x, h => by
    have hx : x ≠ 0 := fun e => by subst e; rw [dig_zero] at h; exact Nat.not_lt_zero _ h
    have e := dig_pos hx
    match i with
    | 0 =>
      simp only [e, List.getElem_cons_zero, Nat.pow_zero, Nat.div_one]
    | i + 1 =>
      have h2 : i < (dig (x / 65536)).length := by rw [e] at h; simp at h; omega
      have := dig_at i (x / 65536) h2
      simp only [e, List.getElem_cons_succ]
      rw [this, Nat.div_div_eq_div_mul, Nat.pow_succ, Nat.mul_comm]

/-- The word j, its digits from i on read so far. -/
def outAt (x i j : Nat) : Nat := x / 2 ^ (16 * max i (4 * j)) % 2 ^ (16 * (4 * j + 4 - max i (4 * j)))
def ow (x i : Nat) : List Nat := [outAt x i 0, outAt x i 1, outAt x i 2, outAt x i 3]
theorem outAt_lt (x i j : Nat) : outAt x i j < 18446744073709551616 := by
  refine Nat.lt_of_lt_of_le (Nat.mod_lt _ (Nat.two_pow_pos _)) ?_
  rw [show 18446744073709551616 = 2 ^ 64 from by decide]
  exact Nat.pow_le_pow_right (by decide) (by omega)
theorem outAt_none (x i j : Nat) (h : 4 * j + 4 ≤ i) : outAt x i j = 0 := by
  unfold outAt
  rw [show 4 * j + 4 - max i (4 * j) = 0 from by omega, Nat.mul_zero, Nat.pow_zero, Nat.mod_one]
theorem outAt_big (x i j : Nat) (h : x < 2 ^ (16 * i)) : outAt x i j = 0 := by
  unfold outAt
  rw [Nat.div_eq_of_lt (Nat.lt_of_lt_of_le h (Nat.pow_le_pow_right (by decide) (by omega))), Nat.zero_mod]
theorem outAt_done (x j : Nat) : outAt x 0 j = wd x j := by
  unfold outAt wd
  rw [show max 0 (4 * j) = 4 * j from by omega, show 4 * j + 4 - 4 * j = 4 from by omega, show 16 * (4 * j) = 64 * j from by omega]
theorem outAt_step (x i : Nat) : outAt x i (i / 4) = outAt x (i + 1) (i / 4) * 65536 + x / 65536 ^ i % 65536 := by
  unfold outAt
  have h1 : max i (4 * (i / 4)) = i := by omega
  have h2 : max (i + 1) (4 * (i / 4)) = i + 1 := by omega
  have h3 : 16 * (4 * (i / 4) + 4 - i) = 16 + 16 * (4 * (i / 4) + 4 - (i + 1)) := by omega
  rw [h1, h2, h3, Nat.pow_add 2 16, Nat.mod_mul, show 16 * (i + 1) = 16 * i + 16 from by omega, Nat.pow_add, ← Nat.div_div_eq_div_mul, show (65536 : Nat) = 2 ^ 16 from by decide, ← Nat.pow_mul]
  rw [Nat.mul_comm (2 ^ 16), Nat.add_comm]
theorem outAt_other (x i j : Nat) (h : j ≠ i / 4) : outAt x (i + 1) j = outAt x i j := by
  rcases Nat.lt_or_ge (i / 4) j with h1 | h1
  · unfold outAt
    rw [show max (i + 1) (4 * j) = 4 * j from by omega, show max i (4 * j) = 4 * j from by omega]
  · rw [outAt_none _ _ _ (by omega), outAt_none _ _ _ (by omega)]
theorem ow_at (x i j : Nat) (h : j < 4) : (ow x i)[j]? = some (outAt x i j) := by
  rcases j with _ | _ | _ | _ | j
  · rfl
  · rfl
  · rfl
  · rfl
  · omega
theorem ow_set (x i : Nat) (h : i < 16) : (ow x (i + 1)).set (i / 4) (outAt x i (i / 4)) = ow x i := by
  apply List.ext_getElem?
  intro j
  by_cases hj : j < 4
  · rw [ow_at x i j hj]
    by_cases he : i / 4 = j
    · subst he; rw [List.getElem?_set_self (by exact hj)]
    · rw [List.getElem?_set_ne he, ow_at _ _ _ hj, outAt_other _ _ _ (fun e => he e.symm)]
  · rw [List.getElem?_eq_none (by rw [List.length_set]; show 4 ≤ j; omega), List.getElem?_eq_none (by show 4 ≤ j; omega)]

theorem words_l0_law (n : Nat) (x : Nat) (t2 : List Int) (k0 : List Int → Option A) (hl : (dig x).length < 100000) : ∀ (i f : Nat), i ≤ (dig x).length → i < f →
    words_l0 n (ints (dig x)) t2 k0 f ((i : Int) - 1) (ints (ow x i)) = k0 (ints (uw x)) := by
  intro i
  induction i with
  | zero =>
    intro f _ hf
    obtain ⟨f, rfl⟩ : ∃ g, f = g + 1 := ⟨f - 1, by omega⟩
    rw [words_l0, words_b0, decide_eq_false (show ¬ ((0 : Nat) : Int) - 1 ≥ 0 by omega), cond_false]
    have e : ow x 0 = uw x := by rw [uw_wd]; unfold ow; rw [outAt_done, outAt_done, outAt_done, outAt_done]
    rw [e]
  | succ i ih =>
    intro f hi hf
    obtain ⟨f, rfl⟩ : ∃ g, f = g + 1 := ⟨f - 1, by omega⟩
    have e0 : ((i + 1 : Nat) : Int) - 1 = (i : Int) := by omega
    have e1 : IntKind.wrap .i64 ((i : Int) - 1) = (i : Int) - 1 := wrap_id (by omega) (by omega)
    rw [words_l0, words_b0, e0, decide_eq_true (show (i : Int) ≥ 0 by omega), cond_true, e1]
    by_cases h16 : i < 16
    · have e2 : IntKind.wrap .i64 (Int.tdiv (i : Int) 4) = ((i / 4 : Nat) : Int) := by
        rw [show (4 : Int) = ((4 : Nat) : Int) from rfl, tdiv_nat]; exact wrap_id (by omega) (by omega)
      have hlt : i < (dig x).length := by omega
      have ho := outAt_step x i
      have hb := outAt_lt x i (i / 4)
      have hd : x / 65536 ^ i % 65536 < 65536 := Nat.mod_lt _ (by decide)
      have e3 : (ints (ow x (i + 1)))[i / 4]? = some ((outAt x (i + 1) (i / 4) : Nat) : Int) := by rw [ints_get, ow_at _ _ _ (by omega)]; rfl
      have e4 : IntKind.wrap .u64 (IntKind.wrap .u64 (((outAt x (i + 1) (i / 4) : Nat) : Int) * 65536) + IntKind.wrap .u64 ((x / 65536 ^ i % 65536 : Nat) : Int)) = ((outAt x i (i / 4) : Nat) : Int) := by
        rw [wrap_u64_nat (x / 65536 ^ i % 65536) (by omega), show ((outAt x (i + 1) (i / 4) : Nat) : Int) * 65536 = ((outAt x (i + 1) (i / 4) * 65536 : Nat) : Int) from by omega, wrap_u64_nat _ (by omega), ← Int.natCast_add, wrap_u64_nat _ (by omega), ← ho]
      rw [decide_eq_true (show (i : Int) < 16 by omega), cond_true, e2, if_pos (by omega), if_pos (by omega), Int.toNat_natCast, Int.toNat_natCast, e3, Option.bind_some, if_pos (by omega), ints_at _ i hlt, Option.bind_some, if_pos (by omega), if_pos (by omega), if_pos (by omega), dig_at i x hlt, e4, ints_set, ow_set x i h16]
      exact ih f (by omega) (by omega)
    · rw [decide_eq_false (show ¬ (i : Int) < 16 by omega), cond_false]
      have e2 : ow x (i + 1) = ow x i := by
        unfold ow
        rw [outAt_other x i 0 (by omega), outAt_other x i 1 (by omega), outAt_other x i 2 (by omega), outAt_other x i 3 (by omega)]
      rw [e2]
      exact ih f (by omega) (by omega)

theorem dig_bound (x : Nat) : x < 2 ^ (16 * (dig x).length) := by
  have h := bval_lt (dig x) (dig_Dig x)
  rw [bval_dig, show 65536 = 2 ^ 16 from by decide, ← Nat.pow_mul] at h
  exact h

theorem words_law (n x : Nat) (hl : (dig x).length < 100000) (hn : (dig x).length < n) (g : List Int → Option A) : words_k n (ints (dig x)) g = g (ints (uw x)) := by
  unfold words_k words_p
  have e : ow x (dig x).length = [0, 0, 0, 0] := by
    unfold ow
    rw [outAt_big x _ 0 (dig_bound x), outAt_big x _ 1 (dig_bound x), outAt_big x _ 2 (dig_bound x), outAt_big x _ 3 (dig_bound x)]
  have h := words_l0_law n x [0, 0, 0, 0] (fun y3 => g y3) hl (dig x).length n (Nat.le_refl _) hn
  rw [e] at h
  rw [ints_length, wrap_id (x := ((dig x).length : Int) - 1) (by omega) (by omega)]
  exact h

end Go.Ev
end

