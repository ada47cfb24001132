import Derived.Test.YtpblkfccnaapbaaDoorB0
import Derived.Test.YtpblkfccnaapbaaDoorB4
import Derived.Test.YtpblkfccnaapbaaDoorB7
import Derived.Test.YtpblkfccnaapbaaDoorB5
set_option linter.all false
section
/-
  FOUR WORDS: plain laws of the printed functions of 256-bit numbers: shifts, order, lengths.
-/
set_option linter.all false
namespace Go.Ev
variable {A : Type}

def P256 : Nat := 115792089237316195423570985008687907853269984665640564039457584007913129639936
def P64 : Nat := 18446744073709551616

/-- The word i of x. -/
def wd (x i : Nat) : Nat := x / 2 ^ (64 * i) % 18446744073709551616

theorem wd_lt (x i : Nat) : wd x i < 18446744073709551616 := Nat.mod_lt _ (by decide)
theorem uw_wd (x : Nat) : uw x = [wd x 0, wd x 1, wd x 2, wd x 3] := by
  unfold uw wd
  simp only [Nat.mul_zero, Nat.pow_zero, Nat.div_one, show 2 ^ (64 * 1) = 18446744073709551616 from by decide, show 2 ^ (64 * 2) = 340282366920938463463374607431768211456 from by decide, show 2 ^ (64 * 3) = 6277101735386680763835789423207666416102355444464034512896 from by decide]
theorem uw_length (x : Nat) : (uw x).length = 4 := rfl
theorem uw_at (x i : Nat) (h : i < 4) : (uw x)[i]? = some (wd x i) := by
  rw [uw_wd]
  rcases i with _ | _ | _ | _ | i
  · rfl
  · rfl
  · rfl
  · rfl
  · omega
theorem iuw_at (x i : Nat) (h : i < 4) : (ints (uw x))[i]? = some ((wd x i : Nat) : Int) := by rw [ints_get, uw_at x i h]; rfl
theorem uw_ext (x : Nat) (l : List Nat) (hl : l.length = 4) (h : ∀ i, i < 4 → l[i]? = some (wd x i)) : l = uw x := by
  apply List.ext_getElem?
  intro i
  by_cases hi : i < 4
  · rw [h i hi, uw_at x i hi]
  · rw [List.getElem?_eq_none (by omega), List.getElem?_eq_none (by rw [uw_length]; omega)]

theorem tb_div (x n i : Nat) : (x / 2 ^ n).testBit i = x.testBit (n + i) := by rw [Nat.testBit_div_two_pow, Nat.add_comm]

theorem wd_testBit (x i t : Nat) : (wd x i).testBit t = (decide (t < 64) && x.testBit (64 * i + t)) := by
  unfold wd
  rw [show (18446744073709551616 : Nat) = 2 ^ 64 from by decide, Nat.testBit_mod_two_pow, tb_div]

theorem wd_shl (x i n s : Nat) (hs : s < 64) (hi : i < 4) (hn : n ≤ i) :
    wd (x * 2 ^ (64 * n + s) % 2 ^ 256) i = (wd x (i - n) * 2 ^ s % 18446744073709551616) ||| (if n < i then wd x (i - n - 1) / 2 ^ (64 - s) else 0) := by
  apply Nat.eq_of_testBit_eq
  intro t
  rw [wd_testBit, Nat.testBit_mod_two_pow, Nat.testBit_mul_two_pow, Nat.testBit_or, show (18446744073709551616 : Nat) = 2 ^ 64 from by decide, Nat.testBit_mod_two_pow, Nat.testBit_mul_two_pow, wd_testBit]
  have e : (if n < i then wd x (i - n - 1) / 2 ^ (64 - s) else 0).testBit t = (decide (n < i) && (decide (64 - s + t < 64) && x.testBit (64 * (i - n - 1) + (64 - s + t)))) := by
    by_cases h : n < i
    · rw [if_pos h, tb_div, wd_testBit]; simp [h]
    · rw [if_neg h]; simp [h]
  rw [e]
  by_cases ht : t < 64
  · by_cases hts : s ≤ t
    · have h1 : 64 * i + t - (64 * n + s) = 64 * (i - n) + (t - s) := by omega
      have h2 : ¬ (64 - s + t < 64) := by omega
      have h3 : 64 * n + s ≤ 64 * i + t := by omega
      have h4 : 64 * i + t < 256 := by omega
      have h5 : t - s < 64 := by omega
      simp [ht, hts, h1, h2, h3, h4, h5]
    · by_cases hni : n < i
      · have h1 : 64 * i + t - (64 * n + s) = 64 * (i - n - 1) + (64 - s + t) := by omega
        have h2 : 64 - s + t < 64 := by omega
        have h3 : 64 * n + s ≤ 64 * i + t := by omega
        have h4 : 64 * i + t < 256 := by omega
        simp [ht, hts, h1, h2, h3, h4, hni]
      · have h3 : ¬ (64 * n + s ≤ 64 * i + t) := by omega
        simp [ht, hts, h3, hni]
  · have h2 : ¬ (64 - s + t < 64) := by omega
    simp [ht, h2]

theorem wd_shl0 (x i n s : Nat) (hn : i < n) : wd (x * 2 ^ (64 * n + s) % 2 ^ 256) i = 0 := by
  apply Nat.eq_of_testBit_eq
  intro t
  rw [wd_testBit, Nat.testBit_mod_two_pow, Nat.testBit_mul_two_pow, Nat.zero_testBit]
  by_cases ht : t < 64
  · have h3 : ¬ (64 * n + s ≤ 64 * i + t) := by omega
    simp [ht, h3]
  · simp [ht]

theorem wd_shr (x i n s : Nat) (hx : x < 2 ^ 256) (hs : s < 64) :
    wd (x / 2 ^ (64 * n + s)) i = (wd x (i + n) / 2 ^ s) ||| (if i + n + 1 < 4 then wd x (i + n + 1) * 2 ^ (64 - s) % 18446744073709551616 else 0) := by
  apply Nat.eq_of_testBit_eq
  intro t
  have hbig : ∀ j, 256 ≤ j → x.testBit j = false := fun j hj => Nat.testBit_lt_two_pow (Nat.lt_of_lt_of_le hx (Nat.pow_le_pow_right (by decide) hj))
  rw [wd_testBit, tb_div, Nat.testBit_or, tb_div, wd_testBit]
  have e : (if i + n + 1 < 4 then wd x (i + n + 1) * 2 ^ (64 - s) % 18446744073709551616 else 0).testBit t = (decide (i + n + 1 < 4) && (decide (t < 64) && (decide (64 - s ≤ t) && (decide (t - (64 - s) < 64) && x.testBit (64 * (i + n + 1) + (t - (64 - s))))))) := by
    by_cases h : i + n + 1 < 4
    · rw [if_pos h, show (18446744073709551616 : Nat) = 2 ^ 64 from by decide, Nat.testBit_mod_two_pow, Nat.testBit_mul_two_pow, wd_testBit]; simp [h]
    · rw [if_neg h]; simp [h]
  rw [e]
  by_cases ht : t < 64
  · by_cases hts : 64 - s ≤ t
    · have h1 : 64 * n + s + (64 * i + t) = 64 * (i + n + 1) + (t - (64 - s)) := by omega
      have h2 : ¬ (s + t < 64) := by omega
      have h5 : t - (64 - s) < 64 := by omega
      by_cases h : i + n + 1 < 4
      · simp [ht, hts, h1, h2, h5, h]
      · rw [h1, hbig _ (by omega)]; simp [h2]
    · have h1 : 64 * n + s + (64 * i + t) = 64 * (i + n) + (s + t) := by omega
      have h2 : s + t < 64 := by omega
      simp [ht, hts, h1, h2]
  · have h2 : ¬ (s + t < 64) := by omega
    simp [ht, h2]

theorem lt_P (h : Nat) (x : Nat) : (h = 0) → x < 18446744073709551616 → x < 18446744073709551616 := fun _ h => h

-- ------------------------------------------------------------ to the left

theorem ushl_step (n f : Nat) (t4 : List Int) (k0 : List Int → Option A) (x m s i : Nat) (hs : s < 64) (hi : i < 4) (hn : m ≤ i) (out : List Nat) (ho : out.length = 4) :
    ushl_l0 n (m : Int) (s : Int) (ints (uw x)) t4 k0 (f + 1) (i : Int) (ints out) = ushl_l0 n (m : Int) (s : Int) (ints (uw x)) t4 k0 f ((i : Int) - 1) (ints (out.set i (wd (x * 2 ^ (64 * m + s) % 2 ^ 256) i))) := by
  rw [ushl_l0, ushl_b0, wd_shl x i m s hs hi hn]
  have e : decide ((i : Int) ≥ (m : Int)) = true := decide_eq_true (by omega)
  have e1 : IntKind.wrap .i64 ((i : Int) - (m : Int)) = ((i - m : Nat) : Int) := by rw [wrap_id (by omega) (by omega)]; omega
  have e2 : IntKind.wrap .i64 ((i : Int) - 1) = (i : Int) - 1 := wrap_id (by omega) (by omega)
  have e3 : shl .u64 ((wd x (i - m) : Nat) : Int) (s : Int) = ((wd x (i - m) * 2 ^ s % 18446744073709551616 : Nat) : Int) := shl_u64 _ _ (by omega)
  rw [e, cond_true, e1, if_pos (by omega), if_pos (by omega), Int.toNat_natCast, iuw_at _ _ (by omega), Option.bind_some, if_neg (by omega), if_pos (by omega), if_pos (by omega), Int.toNat_natCast, if_pos (by omega), e3, e2]
  by_cases hmi : m < i
  · have d1 : decide ((i : Int) > (m : Int)) = true := decide_eq_true (by omega)
    rw [d1, cond_true, if_pos hmi]
    by_cases hs0 : 0 < s
    · have d2 : decide ((s : Int) > 0) = true := decide_eq_true (by omega)
      have e4 : IntKind.wrap .i64 (((i - m : Nat) : Int) - 1) = ((i - m - 1 : Nat) : Int) := by rw [wrap_id (by omega) (by omega)]; omega
      have e5 : IntKind.wrap .i64 (64 - (s : Int)) = ((64 - s : Nat) : Int) := by rw [wrap_id (by omega) (by omega)]; omega
      have e6 : shr .u64 ((wd x (i - m - 1) : Nat) : Int) ((64 - s : Nat) : Int) = ((wd x (i - m - 1) / 2 ^ (64 - s) : Nat) : Int) := shr_u64 _ _ (by omega)
      have e7 : ior .u64 ((wd x (i - m) * 2 ^ s % 18446744073709551616 : Nat) : Int) ((wd x (i - m - 1) / 2 ^ (64 - s) : Nat) : Int) = ((wd x (i - m) * 2 ^ s % 18446744073709551616 ||| wd x (i - m - 1) / 2 ^ (64 - s) : Nat) : Int) :=
        ior_u64 _ _ (Nat.mod_lt _ (by decide)) (Nat.lt_of_le_of_lt (Nat.div_le_self _ _) (wd_lt x _))
      rw [d2, cond_true, if_pos (by omega), if_pos (by omega), ints_set, ints_at _ _ (by rw [List.length_set]; omega), Option.bind_some, e4, if_pos (by omega), if_pos (by omega), Int.toNat_natCast, iuw_at _ _ (by omega), Option.bind_some, e5, if_neg (by omega), if_pos (by omega), if_pos (by omega), if_pos (by omega), e6, List.getElem_set_self, e7, ints_set, List.set_set]
    · have d2 : decide ((s : Int) > 0) = false := decide_eq_false (by omega)
      have hs1 : s = 0 := by omega
      subst hs1
      have e8 : wd x (i - m - 1) / 2 ^ (64 - 0) = 0 := Nat.div_eq_of_lt (wd_lt x _)
      rw [d2, cond_false, e8, Nat.or_zero, ints_set]
  · have d1 : decide ((i : Int) > (m : Int)) = false := decide_eq_false (by omega)
    rw [d1, cond_false, if_neg hmi, Nat.or_zero, ints_set]

theorem ushl_l0_law (n : Nat) (t4 : List Int) (k0 : List Int → Option A) (x m s : Nat) (hs : s < 64) (hm : m ≤ 4) : ∀ (d f : Nat) (out : List Nat), out.length = 4 → m + d ≤ 4 → d < f →
    (∀ j, j < m → out[j]? = some 0) → (∀ j, m + d ≤ j → j < 4 → out[j]? = some (wd (x * 2 ^ (64 * m + s) % 2 ^ 256) j)) →
    ushl_l0 n (m : Int) (s : Int) (ints (uw x)) t4 k0 f (((m + d : Nat) : Int) - 1) (ints out) = k0 (ints (uw (x * 2 ^ (64 * m + s) % 2 ^ 256)))
  | _, 0, _, _, _, h, _, _ => by omega
  | 0, f + 1, out, ho, _, _, h1, h2 => by
    rw [ushl_l0, ushl_b0]
    have e : decide (((m + 0 : Nat) : Int) - 1 ≥ (m : Int)) = false := decide_eq_false (by omega)
    rw [e, cond_false, uw_ext (x * 2 ^ (64 * m + s) % 2 ^ 256) out ho fun i hi => ?_]
    by_cases him : i < m
    · rw [h1 i him, wd_shl0 x i m s him]
    · exact h2 i (by omega) hi
  | d + 1, f + 1, out, ho, hd, hf, h1, h2 => by
    have e : ((m + (d + 1) : Nat) : Int) - 1 = ((m + d : Nat) : Int) := by omega
    rw [e, ushl_step n f t4 k0 x m s (m + d) hs (by omega) (by omega) out ho]
    refine ushl_l0_law n t4 k0 x m s hs hm d f _ (by rw [List.length_set]; exact ho) (by omega) (by omega) (fun j hj => ?_) (fun j hj hj4 => ?_)
    · rw [List.getElem?_set_ne (by omega)]; exact h1 j hj
    · by_cases hjm : m + d = j
      · subst hjm; rw [List.getElem?_set_self (by omega)]
      · rw [List.getElem?_set_ne hjm]; exact h2 j (by omega) hj4

theorem zero_uw : ([0, 0, 0, 0] : List Int) = ints (uw 0) := by simp [ints, uw]

theorem ushl_law (n : Nat) (hn : 10 < n) (x m : Nat) (g : List Int → Option A) : ushl_k n (ints (uw x)) (m : Int) g = g (ints (uw (x * 2 ^ m % 2 ^ 256))) := by
  unfold ushl_k ushl_p
  have e0 : imax (m : Int) 0 = (m : Int) := by unfold imax; split <;> omega
  rw [e0]
  by_cases h : 256 ≤ m
  · have e : decide ((m : Int) ≥ 256) = true := decide_eq_true (by omega)
    have e2 : x * 2 ^ m % 2 ^ 256 = 0 := by
      rw [show m = (m - 256) + 256 from by omega, Nat.pow_add, ← Nat.mul_assoc, Nat.mul_mod_left]
    rw [e, cond_true, e2, zero_uw]
  · have e : decide ((m : Int) ≥ 256) = false := decide_eq_false (by omega)
    have e1 : IntKind.wrap .i64 (Int.tdiv (m : Int) 64) = ((m / 64 : Nat) : Int) := by
      rw [show (64 : Int) = ((64 : Nat) : Int) from rfl, tdiv_nat]; exact wrap_id (by omega) (by omega)
    have e2 : Int.tmod (m : Int) 64 = ((m % 64 : Nat) : Int) := by rw [show (64 : Int) = ((64 : Nat) : Int) from rfl, tmod_nat]
    rw [e, cond_false, e1, e2]
    have h0 := ushl_l0_law n [0, 0, 0, 0] (fun y4 => g y4) x (m / 64) (m % 64) (by omega) (by omega) (4 - m / 64) n [0, 0, 0, 0] rfl (by omega) (by omega)
      (fun j hj => by
        have : j = 0 ∨ j = 1 ∨ j = 2 ∨ j = 3 := by omega
        rcases this with rfl | rfl | rfl | rfl <;> rfl) (fun j hj hj2 => by omega)
    rw [show ((m / 64 + (4 - m / 64) : Nat) : Int) - 1 = 3 from by omega, show 64 * (m / 64) + m % 64 = m from by omega] at h0
    exact h0

-- ------------------------------------------------------------ to the right

theorem ushr_step (n f : Nat) (t4 : List Int) (k0 : List Int → Option A) (x m s i : Nat) (hx : x < 2 ^ 256) (hs : s < 64) (hi : i + m < 4) (out : List Nat) (ho : out.length = 4) :
    ushr_l0 n (m : Int) (s : Int) (ints (uw x)) t4 k0 (f + 1) (i : Int) (ints out) = ushr_l0 n (m : Int) (s : Int) (ints (uw x)) t4 k0 f ((i + 1 : Nat) : Int) (ints (out.set i (wd (x / 2 ^ (64 * m + s)) i))) := by
  rw [ushr_l0, ushr_b0, wd_shr x i m s hx hs]
  have e1 : IntKind.wrap .i64 ((i : Int) + (m : Int)) = ((i + m : Nat) : Int) := by rw [wrap_id (by omega) (by omega)]; omega
  have e : decide (((i + m : Nat) : Int) < 4) = true := decide_eq_true (by omega)
  have e2 : IntKind.wrap .i64 ((i : Int) + 1) = ((i + 1 : Nat) : Int) := by rw [wrap_id (by omega) (by omega)]; omega
  have e3 : shr .u64 ((wd x (i + m) : Nat) : Int) (s : Int) = ((wd x (i + m) / 2 ^ s : Nat) : Int) := shr_u64 _ _ (by omega)
  have e4 : IntKind.wrap .i64 (((i + m : Nat) : Int) + 1) = ((i + m + 1 : Nat) : Int) := by rw [wrap_id (by omega) (by omega)]; omega
  rw [e1, e, cond_true, if_pos (by omega), if_pos (by omega), Int.toNat_natCast, iuw_at _ _ (by omega), Option.bind_some, if_neg (by omega), if_pos (by omega), if_pos (by omega), Int.toNat_natCast, if_pos (by omega), e3, e2, e4]
  by_cases hmi : i + m + 1 < 4
  · have d1 : decide (((i + m + 1 : Nat) : Int) < 4) = true := decide_eq_true (by omega)
    rw [d1, cond_true, if_pos hmi]
    by_cases hs0 : 0 < s
    · have d2 : decide ((s : Int) > 0) = true := decide_eq_true (by omega)
      have e5 : IntKind.wrap .i64 (64 - (s : Int)) = ((64 - s : Nat) : Int) := by rw [wrap_id (by omega) (by omega)]; omega
      have e6 : shl .u64 ((wd x (i + m + 1) : Nat) : Int) ((64 - s : Nat) : Int) = ((wd x (i + m + 1) * 2 ^ (64 - s) % 18446744073709551616 : Nat) : Int) := shl_u64 _ _ (by omega)
      have e7 : ior .u64 ((wd x (i + m) / 2 ^ s : Nat) : Int) ((wd x (i + m + 1) * 2 ^ (64 - s) % 18446744073709551616 : Nat) : Int) = ((wd x (i + m) / 2 ^ s ||| wd x (i + m + 1) * 2 ^ (64 - s) % 18446744073709551616 : Nat) : Int) :=
        ior_u64 _ _ (Nat.lt_of_le_of_lt (Nat.div_le_self _ _) (wd_lt x _)) (Nat.mod_lt _ (by decide))
      rw [d2, cond_true, if_pos (by omega), if_pos (by omega), ints_set, ints_at _ _ (by rw [List.length_set]; omega), Option.bind_some, if_pos (by omega), if_pos (by omega), Int.toNat_natCast, iuw_at _ _ (by omega), Option.bind_some, e5, if_neg (by omega), if_pos (by omega), if_pos (by omega), if_pos (by omega), e6, List.getElem_set_self, e7, ints_set, List.set_set]
    · have d2 : decide ((s : Int) > 0) = false := decide_eq_false (by omega)
      have hs1 : s = 0 := by omega
      subst hs1
      have e8 : wd x (i + m + 1) * 2 ^ (64 - 0) % 18446744073709551616 = 0 := by
        rw [show 2 ^ (64 - 0) = 18446744073709551616 from by decide, Nat.mul_mod_left]
      rw [d2, cond_false, e8, Nat.or_zero, ints_set]
  · have d1 : decide (((i + m + 1 : Nat) : Int) < 4) = false := decide_eq_false (by omega)
    rw [d1, cond_false, if_neg hmi, Nat.or_zero, ints_set]

theorem wd_shr0 (x i n s : Nat) (hx : x < 2 ^ 256) (hn : 4 ≤ i + n) : wd (x / 2 ^ (64 * n + s)) i = 0 := by
  apply Nat.eq_of_testBit_eq
  intro t
  rw [wd_testBit, tb_div, Nat.zero_testBit]
  rw [Nat.testBit_lt_two_pow (Nat.lt_of_lt_of_le hx (Nat.pow_le_pow_right (by decide) (show 256 ≤ 64 * n + s + (64 * i + t) by omega)))]
  simp

theorem ushr_l0_law (n : Nat) (t4 : List Int) (k0 : List Int → Option A) (x m s : Nat) (hx : x < 2 ^ 256) (hs : s < 64) : ∀ (d f i : Nat) (out : List Nat), out.length = 4 → i + m + d = 4 → d < f →
    (∀ j, j < 4 → out[j]? = some (if j < i then wd (x / 2 ^ (64 * m + s)) j else 0)) →
    ushr_l0 n (m : Int) (s : Int) (ints (uw x)) t4 k0 f (i : Int) (ints out) = k0 (ints (uw (x / 2 ^ (64 * m + s))))
  | _, 0, _, _, _, _, h, _ => by omega
  | 0, f + 1, i, out, ho, hd, _, h1 => by
    rw [ushr_l0, ushr_b0]
    have e1 : IntKind.wrap .i64 ((i : Int) + (m : Int)) = ((i + m : Nat) : Int) := by rw [wrap_id (by omega) (by omega)]; omega
    have e : decide (((i + m : Nat) : Int) < 4) = false := decide_eq_false (by omega)
    rw [e1, e, cond_false, uw_ext (x / 2 ^ (64 * m + s)) out ho fun j hj => ?_]
    rw [h1 j hj]
    split
    · rfl
    · rw [wd_shr0 x j m s hx (by omega)]
  | d + 1, f + 1, i, out, ho, hd, hf, h1 => by
    rw [ushr_step n f t4 k0 x m s i hx hs (by omega) out ho]
    refine ushr_l0_law n t4 k0 x m s hx hs d f (i + 1) _ (by rw [List.length_set]; exact ho) (by omega) (by omega) (fun j hj => ?_)
    by_cases hjm : i = j
    · subst hjm; rw [List.getElem?_set_self (by omega), if_pos (by omega)]
    · rw [List.getElem?_set_ne hjm, h1 j hj]
      by_cases hji : j < i
      · rw [if_pos hji, if_pos (by omega)]
      · rw [if_neg hji, if_neg (by omega)]

theorem ushr_law (n : Nat) (hn : 10 < n) (x m : Nat) (hx : x < 2 ^ 256) (g : List Int → Option A) : ushr_k n (ints (uw x)) (m : Int) g = g (ints (uw (x / 2 ^ m))) := by
  unfold ushr_k ushr_p
  have e0 : imax (m : Int) 0 = (m : Int) := by unfold imax; split <;> omega
  rw [e0]
  by_cases h : 256 ≤ m
  · have e : decide ((m : Int) ≥ 256) = true := decide_eq_true (by omega)
    have e2 : x / 2 ^ m = 0 := Nat.div_eq_of_lt (Nat.lt_of_lt_of_le hx (Nat.pow_le_pow_right (by decide) h))
    rw [e, cond_true, e2, zero_uw]
  · have e : decide ((m : Int) ≥ 256) = false := decide_eq_false (by omega)
    have e1 : IntKind.wrap .i64 (Int.tdiv (m : Int) 64) = ((m / 64 : Nat) : Int) := by
      rw [show (64 : Int) = ((64 : Nat) : Int) from rfl, tdiv_nat]; exact wrap_id (by omega) (by omega)
    have e2 : Int.tmod (m : Int) 64 = ((m % 64 : Nat) : Int) := by rw [show (64 : Int) = ((64 : Nat) : Int) from rfl, tmod_nat]
    rw [e, cond_false, e1, e2]
    have h0 := ushr_l0_law n [0, 0, 0, 0] (fun y4 => g y4) x (m / 64) (m % 64) hx (by omega) (4 - m / 64) n 0 [0, 0, 0, 0] rfl (by omega) (by omega)
      (fun j hj => by
        have : j = 0 ∨ j = 1 ∨ j = 2 ∨ j = 3 := by omega
        rcases this with rfl | rfl | rfl | rfl <;> rfl)
    rw [show 64 * (m / 64) + m % 64 = m from by omega] at h0
    exact h0

-- ------------------------------------------------------------ order

theorem wd_split (x i : Nat) : x / 2 ^ (64 * i) = wd x i + 18446744073709551616 * (x / 2 ^ (64 * (i + 1))) := by
  unfold wd
  rw [show 64 * (i + 1) = 64 * i + 64 from by omega, Nat.pow_add, ← Nat.div_div_eq_div_mul, show (2 : Nat) ^ 64 = 18446744073709551616 from by decide]
  omega

def ucmpN (x y : Nat) : Int := if x < y then -1 else if y < x then 1 else 0

theorem ucmp_l0_law (n : Nat) (x y : Nat) (g : Int → Option A) : ∀ (f i : Nat), i ≤ 4 → i < f → x / 2 ^ (64 * i) = y / 2 ^ (64 * i) →
    ucmp_l0 n (ints (uw x)) (ints (uw y)) g (g 0) f ((i : Int) - 1) = g (ucmpN x y) := by
  intro f
  induction f with
  | zero => intro i _ h; omega
  | succ f ih =>
  intro i hi hf he
  rcases i with _ | i
  · rw [ucmp_l0, ucmp_b0]
    have e : decide (((0 : Nat) : Int) - 1 ≥ 0) = false := by decide
    rw [Nat.mul_zero, Nat.pow_zero, Nat.div_one, Nat.div_one] at he
    rw [e, cond_false, he]
    unfold ucmpN
    rw [if_neg (by omega), if_neg (by omega)]
  · rw [ucmp_l0, ucmp_b0]
    have e0 : ((i + 1 : Nat) : Int) - 1 = (i : Int) := by omega
    have e : decide ((i : Int) ≥ 0) = true := decide_eq_true (by omega)
    have e2 : IntKind.wrap .i64 ((i : Int) - 1) = (i : Int) - 1 := wrap_id (by omega) (by omega)
    rw [e0, e, cond_true, if_pos (by omega), if_pos (by omega), Int.toNat_natCast, iuw_at _ _ (by omega), Option.bind_some, if_pos (by omega), if_pos (by omega), iuw_at _ _ (by omega), Option.bind_some]
    have hx := wd_split x i
    have hy := wd_split y i
    by_cases h1 : wd x i < wd y i
    · have d : decide (((wd x i : Nat) : Int) < ((wd y i : Nat) : Int)) = true := decide_eq_true (by omega)
      rw [d, cond_true]
      unfold ucmpN
      have : x < y := by
        rcases Nat.lt_or_ge x y with h | h
        · exact h
        · have := Nat.div_le_div_right (c := 2 ^ (64 * i)) h; omega
      rw [if_pos this]
    · have d : decide (((wd x i : Nat) : Int) < ((wd y i : Nat) : Int)) = false := decide_eq_false (by omega)
      rw [d, cond_false, if_pos (by omega), if_pos (by omega), Option.bind_some, if_pos (by omega), if_pos (by omega), Option.bind_some]
      by_cases h2 : wd y i < wd x i
      · have d : decide (((wd x i : Nat) : Int) > ((wd y i : Nat) : Int)) = true := decide_eq_true (by omega)
        rw [d, cond_true]
        unfold ucmpN
        have : y < x := by
          rcases Nat.lt_or_ge y x with h | h
          · exact h
          · have := Nat.div_le_div_right (c := 2 ^ (64 * i)) h; omega
        rw [if_neg (by omega), if_pos this]
      · have d : decide (((wd x i : Nat) : Int) > ((wd y i : Nat) : Int)) = false := decide_eq_false (by omega)
        rw [d, cond_false, e2]
        exact ih i (by omega) (by omega) (by omega)

theorem ucmp_law (n : Nat) (hn : 10 < n) (x y : Nat) (hx : x < 2 ^ 256) (hy : y < 2 ^ 256) (g : Int → Option A) : ucmp_k n (ints (uw x)) (ints (uw y)) g = g (ucmpN x y) := by
  unfold ucmp_k ucmp_p
  exact ucmp_l0_law n x y (fun y5 => g y5) n 4 (by omega) (by omega) (by
    rw [show (2 : Nat) ^ (64 * 4) = 2 ^ 256 from by decide, Nat.div_eq_of_lt hx, Nat.div_eq_of_lt hy])

end Go.Ev
end

section
/-
  FUNCTION 49: printed by a program of our own (wip/gen/st.py). 'math/bits.Len64', in continuation form; the evaluator gives it.
-/
set_option linter.all false
set_option maxRecDepth 100000
namespace Go.Ev
open Go.Proofs
variable {A : Type}

-- ============================================================ len64 (function 49)
def len64_p (n : Nat) (a0 : Int) (k : Int → Option A) : Option A :=
  bif (decide (a0 ≥ 4294967296)) then
    bif (decide ((shr .u64 a0 32) ≥ 65536)) then
      bif (decide ((shr .u64 (shr .u64 a0 32) 16) ≥ 256)) then
        if 0 ≤ (IntKind.wrap .u8 (shr .u64 (shr .u64 (shr .u64 a0 32) 16) 8)) then
          ((strBytes str0)[(Int.toNat (IntKind.wrap .u8 (shr .u64 (shr .u64 (shr .u64 a0 32) 16) 8)))]?).bind fun y1 =>
          k (IntKind.wrap .i64 (56 + (IntKind.wrap .i64 y1)))
        else none
      else
        if 0 ≤ (IntKind.wrap .u8 (shr .u64 (shr .u64 a0 32) 16)) then
          ((strBytes str0)[(Int.toNat (IntKind.wrap .u8 (shr .u64 (shr .u64 a0 32) 16)))]?).bind fun y2 =>
          k (IntKind.wrap .i64 (48 + (IntKind.wrap .i64 y2)))
        else none
    else
      bif (decide ((shr .u64 a0 32) ≥ 256)) then
        if 0 ≤ (IntKind.wrap .u8 (shr .u64 (shr .u64 a0 32) 8)) then
          ((strBytes str0)[(Int.toNat (IntKind.wrap .u8 (shr .u64 (shr .u64 a0 32) 8)))]?).bind fun y3 =>
          k (IntKind.wrap .i64 (40 + (IntKind.wrap .i64 y3)))
        else none
      else
        if 0 ≤ (IntKind.wrap .u8 (shr .u64 a0 32)) then
          ((strBytes str0)[(Int.toNat (IntKind.wrap .u8 (shr .u64 a0 32)))]?).bind fun y4 =>
          k (IntKind.wrap .i64 (32 + (IntKind.wrap .i64 y4)))
        else none
  else
    bif (decide (a0 ≥ 65536)) then
      bif (decide ((shr .u64 a0 16) ≥ 256)) then
        if 0 ≤ (IntKind.wrap .u8 (shr .u64 (shr .u64 a0 16) 8)) then
          ((strBytes str0)[(Int.toNat (IntKind.wrap .u8 (shr .u64 (shr .u64 a0 16) 8)))]?).bind fun y5 =>
          k (IntKind.wrap .i64 (24 + (IntKind.wrap .i64 y5)))
        else none
      else
        if 0 ≤ (IntKind.wrap .u8 (shr .u64 a0 16)) then
          ((strBytes str0)[(Int.toNat (IntKind.wrap .u8 (shr .u64 a0 16)))]?).bind fun y6 =>
          k (IntKind.wrap .i64 (16 + (IntKind.wrap .i64 y6)))
        else none
    else
      bif (decide (a0 ≥ 256)) then
        if 0 ≤ (IntKind.wrap .u8 (shr .u64 a0 8)) then
          ((strBytes str0)[(Int.toNat (IntKind.wrap .u8 (shr .u64 a0 8)))]?).bind fun y7 =>
          k (IntKind.wrap .i64 (8 + (IntKind.wrap .i64 y7)))
        else none
      else
        if 0 ≤ (IntKind.wrap .u8 a0) then
          ((strBytes str0)[(Int.toNat (IntKind.wrap .u8 a0))]?).bind fun y8 =>
          k (IntKind.wrap .i64 (0 + (IntKind.wrap .i64 y8)))
        else none

def len64_k (n : Nat) (a0 : Int) (k : Int → Option A) : Option A := len64_p n a0 k

noncomputable def len64_E (n : Nat) : Env A := ⟨tys, gls, [], [], []⟩
theorem len64_T {A : Type} (n : Nat) : TyOK Tryd.prog (len64_E (A := A) n) := tyOK_of rfl tysB
theorem len64_fns (n : Nat) : FnsOK Tryd.prog (len64_E (A := A) n) := AllOK.env rfl rfl AllOK.nil
theorem len64_eqg (n : Nat) (a0 : Int) (k : AV → List Blk → Option A) : fnK (len64_E n) Tryd.f49 [.pure] [.p (.int .u64) a0] [] k = len64_p n a0 (fun r0 => k (.p (.int .i64) r0) []) := by kernel_rfl
theorem len64_eq (n : Nat) (a0 : Int) (k : AV → List Blk → Option A) : fnK (len64_E n) Tryd.f49 [.pure] [.p (.int .u64) a0] [] k = len64_k n a0 (fun r0 => k (.p (.int .i64) r0) []) := len64_eqg n a0 k
def len64_ent (g : Int → (Int → Option A) → Option A) : Entry A := pureE fun args k => args1 args (.int .u64) fun a0 => g a0 (fun r0 => k (.p (.int .i64) r0) [])
theorem len64_lo (n : Nat) : ∀ c, Tryd.f49.body = some c → ∀ q ∈ loopsOf 0 c, ∀ L, (len64_E (A := A) n).lps.lookup q.1 = some L → LoopOK Tryd.prog gls q.2 L :=
  lo_body (E := len64_E n) (by kernel_rfl : Tryd.f49.body = some (bodyOf Tryd.f49)) (lo_of (E := len64_E n) (by kernel_rfl : loopsOf 0 (bodyOf Tryd.f49) = []) lo_nil)
theorem len64_ok (n : Nat) : FnOK Tryd.prog gls 49 (len64_ent (A := A) (len64_k n)) :=
  FnOK.of (len64_T n) (len64_fns n) follows ⟨Tryd.func49, by kernel_rfl⟩ (len64_lo n) (rm := [.pure]) fun args k out h => by
    obtain ⟨a0, e, h1⟩ := args1_sound h
    subst e; rw [len64_eq]; exact h1

end Go.Ev
end

section
/-
  FUNCTION 37: printed by a program of our own (wip/gen/st.py). '(masthead/wide.U).Len', in continuation form; the evaluator gives it.
-/
set_option linter.all false
set_option maxRecDepth 100000
namespace Go.Ev
open Go.Proofs
variable {A : Type}

-- ============================================================ ulen (function 37)
def ulen_b0 (g_len64 : Int → (Int → Option A) → Option A) (n : Nat) (a : (List Int)) (k0 : Int → Option A) (k1 : Option A) (r : Int → Option A) (i : Int) : Option A :=
  bif (decide (i ≥ 0)) then
    if 0 ≤ i then
      if i < 4 then
        (a[(Int.toNat i)]?).bind fun y1 =>
        bif (y1 != 0) then
          if 0 ≤ i then
            if i < 4 then
              (a[(Int.toNat i)]?).bind fun y2 =>
              g_len64 y2 fun r3 =>
              k0 (IntKind.wrap .i64 ((IntKind.wrap .i64 (64 * i)) + r3))
            else none
          else none
        else
          r (IntKind.wrap .i64 (i - 1))
      else none
    else none
  else
    k1

def ulen_l0 (g_len64 : Int → (Int → Option A) → Option A) (n : Nat) (a : (List Int)) (k0 : Int → Option A) (k1 : Option A) : Nat → Int → Option A
  | 0 => fun _ => none
  | f + 1 => ulen_b0 g_len64 n a k0 k1 (ulen_l0 g_len64 n a k0 k1 f)

def ulen_p (g_len64 : Int → (Int → Option A) → Option A) (n : Nat) (a0 : (List Int)) (k : Int → Option A) : Option A :=
  ulen_l0 g_len64 n a0 (fun y4 =>
    k y4) (
    k 0) n 3

def ulen_k (n : Nat) (a0 : (List Int)) (k : Int → Option A) : Option A := ulen_p (len64_k n) n a0 k

noncomputable def ulen_c0 : Code := codeAt [1, 0, 1, 0, 0] (bodyOf Tryd.f37)
def ulen_d0 : List Nat := [0, 2, 4, 5, 6, 7, 8, 9, 10, 11, 12, 13, 14, 15, 16, 17, 18]
def ulen_y0 : List Nat := [0, 1, 3, 4, 5, 6, 7, 8, 9, 10, 11, 12, 13, 14, 15, 16, 17, 18]
def ulen_sh0 : Shape := ⟨[.any, (.ptr 0), .any, (.p (.int .i64)), .any, .any, .any, .any, .any, .any, .any, .any, .any, .any, .any, .any, .any, .any, .any], [(.var 24 kA4u64 (.p kA4u64))], 0⟩
def ulen_t0 (a : (List Int)) (i : Int) : ulen_sh0.den := (((), (), (), i, (), (), (), (), (), (), (), (), (), (), (), (), (), (), (), ()), (a, ()))
def ulen_x0_0 (a : (List Int)) (z0 : Int) : St := ⟨[.any, .any, .p (.int .i64) z0, .any, .any, .any, .any, .any, .any, .any, .any, .any, .any, .any, .any, .any, .any, .any, .any], [], 0⟩
def ulen_x0_1 (a : (List Int)) : St := ⟨[.any, .any, .any, .any, .any, .any, .any, .any, .any, .any, .any, .any, .any, .any, .any, .any, .any, .any, .any], [], 0⟩
def ulen_g0 (g_len64 : Int → (Int → Option A) → Option A) (n : Nat) (d : ulen_sh0.den) (k : Ex → St → Option A) : Option A :=
  ulen_l0 g_len64 n d.2.1 (fun z0 => k .ret (ulen_x0_0 d.2.1 z0)) (k (.exit 0) (ulen_x0_1 d.2.1)) n d.1.2.2.2.1
noncomputable def ulen_E (g_len64 : Int → (Int → Option A) → Option A) (n : Nat) : Env A := ⟨tys, gls, [(49, len64_ent g_len64)], [(0, loopE ulen_d0 ulen_sh0 (ulen_g0 g_len64 n))], []⟩
theorem ulen_T (g_len64 : Int → (Int → Option A) → Option A) (n : Nat) : TyOK Tryd.prog (ulen_E g_len64 n) := tyOK_of rfl tysB
theorem ulen_fns (n : Nat) : FnsOK Tryd.prog (ulen_E (A := A) (len64_k n) n) := AllOK.env rfl rfl (AllOK.cons (len64_ok n) AllOK.nil)
noncomputable def ulen_LK0 (g_len64 : Int → (Int → Option A) → Option A) (n : Nat) (a : (List Int)) (k : Ex → St → Option A) (f : Nat) (i : Int) : Option A := loopK (codeK (ulen_E g_len64 n) 1 ulen_c0) ulen_d0 ulen_y0 f (ulen_sh0.fill (ulen_t0 a i)) k
theorem ulen_st0 (g_len64 : Int → (Int → Option A) → Option A) (n f : Nat) (a : (List Int)) (k : Ex → St → Option A) (i : Int) : ulen_LK0 g_len64 n a k (f + 1) i = ulen_b0 g_len64 n a (fun z0 => k .ret (ulen_x0_0 a z0)) (k (.exit 0) (ulen_x0_1 a)) (ulen_LK0 g_len64 n a k f) i := by kernel_rfl
theorem ulen_le0 (g_len64 : Int → (Int → Option A) → Option A) (n : Nat) (a : (List Int)) (k : Ex → St → Option A) : ∀ (f : Nat) (i : Int), ulen_LK0 g_len64 n a k f i = ulen_l0 g_len64 n a (fun z0 => k .ret (ulen_x0_0 a z0)) (k (.exit 0) (ulen_x0_1 a)) f i := by
  intro f
  induction f with
  | zero => intros; kernel_rfl
  | succ f ih => intro i; exact (ulen_st0 g_len64 n f a k i).trans ((congrArg (fun r => ulen_b0 g_len64 n a (fun z0 => k .ret (ulen_x0_0 a z0)) (k (.exit 0) (ulen_x0_1 a)) r i) (funext fun i => ih i)).trans (by kernel_rfl))
theorem ulen_lo0 (n : Nat) : LoopOK Tryd.prog gls ulen_c0 (loopE ulen_d0 ulen_sh0 (ulen_g0 (A := A) (len64_k n) n)) :=
  LoopOK.of (ulen_T (len64_k n) n) (ulen_fns n) follows (j := 1) (n := n) (xdead := ulen_y0) (lo_of (by kernel_rfl : loopsOf 1 ulen_c0 = []) lo_nil) fun d k => Eq.trans (by kernel_rfl) (ulen_le0 (len64_k n) n d.2.1 k n d.1.2.2.2.1)
theorem ulen_eqg (g_len64 : Int → (Int → Option A) → Option A) (n : Nat) (a0 : (List Int)) (k : AV → List Blk → Option A) : fnK (ulen_E g_len64 n) Tryd.f37 [.pure] [.p kA4u64 a0] [] k = ulen_p g_len64 n a0 (fun r0 => k (.p (.int .i64) r0) []) := by kernel_rfl
theorem ulen_eq (n : Nat) (a0 : (List Int)) (k : AV → List Blk → Option A) : fnK (ulen_E (len64_k n) n) Tryd.f37 [.pure] [.p kA4u64 a0] [] k = ulen_k n a0 (fun r0 => k (.p (.int .i64) r0) []) := ulen_eqg (len64_k n) n a0 k
def ulen_ent (g : (List Int) → (Int → Option A) → Option A) : Entry A := pureE fun args k => args1 args kA4u64 fun a0 => g a0 (fun r0 => k (.p (.int .i64) r0) [])
theorem ulen_lo (n : Nat) : ∀ c, Tryd.f37.body = some c → ∀ q ∈ loopsOf 0 c, ∀ L, (ulen_E (A := A) (len64_k n) n).lps.lookup q.1 = some L → LoopOK Tryd.prog gls q.2 L :=
  lo_body (E := ulen_E (len64_k n) n) (by kernel_rfl : Tryd.f37.body = some (bodyOf Tryd.f37)) (lo_of (E := ulen_E (len64_k n) n) (by kernel_rfl : loopsOf 0 (bodyOf Tryd.f37) = [(0, ulen_c0)]) (lo_cons rfl (ulen_lo0 n) lo_nil))
theorem ulen_ok (n : Nat) : FnOK Tryd.prog gls 37 (ulen_ent (A := A) (ulen_k n)) :=
  FnOK.of (ulen_T (len64_k n) n) (ulen_fns n) follows ⟨Tryd.func37, by kernel_rfl⟩ (ulen_lo n) (rm := [.pure]) fun args k out h => by
    obtain ⟨a0, e, h1⟩ := args1_sound h
    subst e; rw [ulen_eq]; exact h1

end Go.Ev
end

section
/-
  FUNCTION 39: printed by a program of our own (wip/gen/st.py). 'masthead/wide.Of', in continuation form; the evaluator gives it.
-/
set_option linter.all false
set_option maxRecDepth 100000
namespace Go.Ev
open Go.Proofs
variable {A : Type}

-- ============================================================ uof (function 39)
def uof_p (n : Nat) (a0 : Int) (k : (List Int) → Option A) : Option A :=
  k [a0, 0, 0, 0]

def uof_k (n : Nat) (a0 : Int) (k : (List Int) → Option A) : Option A := uof_p n a0 k

noncomputable def uof_E (n : Nat) : Env A := ⟨tys, gls, [], [], []⟩
theorem uof_T {A : Type} (n : Nat) : TyOK Tryd.prog (uof_E (A := A) n) := tyOK_of rfl tysB
theorem uof_fns (n : Nat) : FnsOK Tryd.prog (uof_E (A := A) n) := AllOK.env rfl rfl AllOK.nil
theorem uof_eqg (n : Nat) (a0 : Int) (k : AV → List Blk → Option A) : fnK (uof_E n) Tryd.f39 [.pure] [.p (.int .u64) a0] [] k = uof_p n a0 (fun r0 => k (.p kA4u64 r0) []) := by kernel_rfl
theorem uof_eq (n : Nat) (a0 : Int) (k : AV → List Blk → Option A) : fnK (uof_E n) Tryd.f39 [.pure] [.p (.int .u64) a0] [] k = uof_k n a0 (fun r0 => k (.p kA4u64 r0) []) := uof_eqg n a0 k
def uof_ent (g : Int → ((List Int) → Option A) → Option A) : Entry A := pureE fun args k => args1 args (.int .u64) fun a0 => g a0 (fun r0 => k (.p kA4u64 r0) [])
theorem uof_lo (n : Nat) : ∀ c, Tryd.f39.body = some c → ∀ q ∈ loopsOf 0 c, ∀ L, (uof_E (A := A) n).lps.lookup q.1 = some L → LoopOK Tryd.prog gls q.2 L :=
  lo_body (E := uof_E n) (by kernel_rfl : Tryd.f39.body = some (bodyOf Tryd.f39)) (lo_of (E := uof_E n) (by kernel_rfl : loopsOf 0 (bodyOf Tryd.f39) = []) lo_nil)
theorem uof_ok (n : Nat) : FnOK Tryd.prog gls 39 (uof_ent (A := A) (uof_k n)) :=
  FnOK.of (uof_T n) (uof_fns n) follows ⟨Tryd.func39, by kernel_rfl⟩ (uof_lo n) (rm := [.pure]) fun args k out h => by
    obtain ⟨a0, e, h1⟩ := args1_sound h
    subst e; rw [uof_eq]; exact h1

end Go.Ev
end

section
/-
  FUNCTION 40: printed by a program of our own (wip/gen/st.py). 'masthead/wide.Max', in continuation form; the evaluator gives it.
-/
set_option linter.all false
set_option maxRecDepth 100000
namespace Go.Ev
open Go.Proofs
variable {A : Type}

-- ============================================================ umax (function 40)
def umax_p (n : Nat) (k : (List Int) → Option A) : Option A :=
  k [18446744073709551615, 18446744073709551615, 18446744073709551615, 18446744073709551615]

def umax_k (n : Nat) (k : (List Int) → Option A) : Option A := umax_p n k

noncomputable def umax_E (n : Nat) : Env A := ⟨tys, gls, [], [], []⟩
theorem umax_T {A : Type} (n : Nat) : TyOK Tryd.prog (umax_E (A := A) n) := tyOK_of rfl tysB
theorem umax_fns (n : Nat) : FnsOK Tryd.prog (umax_E (A := A) n) := AllOK.env rfl rfl AllOK.nil
theorem umax_eqg (n : Nat) (k : AV → List Blk → Option A) : fnK (umax_E n) Tryd.f40 [.pure] [] [] k = umax_p n (fun r0 => k (.p kA4u64 r0) []) := by kernel_rfl
theorem umax_eq (n : Nat) (k : AV → List Blk → Option A) : fnK (umax_E n) Tryd.f40 [.pure] [] [] k = umax_k n (fun r0 => k (.p kA4u64 r0) []) := umax_eqg n k
def umax_ent (g : ((List Int) → Option A) → Option A) : Entry A := pureE fun args k => args0 args (g (fun r0 => k (.p kA4u64 r0) []))
theorem umax_lo (n : Nat) : ∀ c, Tryd.f40.body = some c → ∀ q ∈ loopsOf 0 c, ∀ L, (umax_E (A := A) n).lps.lookup q.1 = some L → LoopOK Tryd.prog gls q.2 L :=
  lo_body (E := umax_E n) (by kernel_rfl : Tryd.f40.body = some (bodyOf Tryd.f40)) (lo_of (E := umax_E n) (by kernel_rfl : loopsOf 0 (bodyOf Tryd.f40) = []) lo_nil)
theorem umax_ok (n : Nat) : FnOK Tryd.prog gls 40 (umax_ent (A := A) (umax_k n)) :=
  FnOK.of (umax_T n) (umax_fns n) follows ⟨Tryd.func40, by kernel_rfl⟩ (umax_lo n) (rm := [.pure]) fun args k out h => by
    obtain ⟨e, h1⟩ := args0_sound h
    subst e; rw [umax_eq]; exact h1

end Go.Ev
end

section
/-
  LENGTHS: how many bits a number has; plain laws of the printed functions of 64 and of 256 bits.
-/
set_option linter.all false
namespace Go.Ev
variable {A : Type}

/-- How many bits a number has. -/
def bl (x : Nat) : Nat := if x = 0 then 0 else Nat.log2 x + 1

theorem bl_le (x k : Nat) : bl x ≤ k ↔ x < 2 ^ k := by
  unfold bl
  split
  · rename_i h; subst h; exact ⟨fun _ => Nat.two_pow_pos k, fun _ => Nat.zero_le _⟩
  · rename_i h
    rw [← Nat.log2_lt h]; omega
theorem lt_bl (x : Nat) : x < 2 ^ bl x := (bl_le x _).1 (Nat.le_refl _)
theorem bl_zero : bl 0 = 0 := rfl
theorem bl_pos {x : Nat} (h : x ≠ 0) : 0 < bl x := by unfold bl; rw [if_neg h]; omega
theorem le_of_bl {x k : Nat} (h : k < bl x) : 2 ^ k ≤ x := by
  rcases Nat.lt_or_ge x (2 ^ k) with h2 | h2
  · have := (bl_le x k).2 h2; omega
  · exact h2
theorem bl_shift (x j : Nat) (h : x / 2 ^ j ≠ 0) : bl x = j + bl (x / 2 ^ j) := by
  apply Nat.le_antisymm
  · rw [bl_le, Nat.pow_add, Nat.mul_comm]
    exact (Nat.div_lt_iff_lt_mul (Nat.two_pow_pos j)).1 (lt_bl _)
  · have hj : j ≤ bl x := by
      rcases Nat.lt_or_ge (bl x) j with h2 | h2
      · exact absurd (Nat.div_eq_of_lt ((bl_le x j).1 (by omega))) h
      · exact h2
    have : bl (x / 2 ^ j) ≤ bl x - j := by
      rw [bl_le, Nat.div_lt_iff_lt_mul (Nat.two_pow_pos j), ← Nat.pow_add, show bl x - j + j = bl x from by omega]
      exact lt_bl x
    omega
theorem bl_mul (x j : Nat) (h : x ≠ 0) : bl (x * 2 ^ j) = j + bl x := by
  have e : x * 2 ^ j / 2 ^ j = x := Nat.mul_div_cancel _ (Nat.two_pow_pos j)
  rw [bl_shift (x * 2 ^ j) j (by rw [e]; exact h), e]

theorem tab_eq : strBytes str0 = ints ((List.range 256).map bl) := by kernel_rfl
theorem tab_at (i : Nat) (h : i < 256) : (strBytes str0)[i]? = some ((bl i : Nat) : Int) := by
  rw [tab_eq, ints_get, List.getElem?_map, List.getElem?_range h]; rfl

theorem leaf (k : Int → Option A) (x y j : Nat) (hy : y < 256) (hj : j < 100) (h : bl x = j + bl y) :
    (if 0 ≤ IntKind.wrap .u8 (y : Int) then ((strBytes str0)[(IntKind.wrap .u8 (y : Int)).toNat]?).bind fun t => k (IntKind.wrap .i64 ((j : Int) + IntKind.wrap .i64 t)) else none) = k ((bl x : Nat) : Int) := by
  have e : IntKind.wrap .u8 (y : Int) = (y : Int) := by rw [wrap_u8]; omega
  have e0 : bl y ≤ 8 := by rw [bl_le]; omega
  have e1 : IntKind.wrap .i64 ((bl y : Nat) : Int) = ((bl y : Nat) : Int) := wrap_id (by omega) (by omega)
  have e2 : IntKind.wrap .i64 ((j : Int) + ((bl y : Nat) : Int)) = ((bl x : Nat) : Int) := by rw [wrap_id (by omega) (by omega)]; omega
  rw [e, if_pos (by omega), Int.toNat_natCast, tab_at y hy, Option.bind_some, e1, e2]

theorem shrk (x k : Nat) (hk : k ≤ 64) (K : Int) (hK : K = (k : Int)) : shr .u64 (x : Int) K = ((x / 2 ^ k : Nat) : Int) := by rw [hK]; exact shr_u64 x k hk

theorem len64_law (n x : Nat) (hx : x < 18446744073709551616) (g : Int → Option A) : len64_k n (x : Int) g = g ((bl x : Nat) : Int) := by
  unfold len64_k len64_p
  rw [shrk x 32 (by decide) 32 rfl, shrk x 16 (by decide) 16 rfl, shrk x 8 (by decide) 8 rfl, shrk (x / 2 ^ 32) 16 (by decide) 16 rfl, shrk (x / 2 ^ 32) 8 (by decide) 8 rfl, shrk (x / 2 ^ 32 / 2 ^ 16) 8 (by decide) 8 rfl, shrk (x / 2 ^ 16) 8 (by decide) 8 rfl]
  by_cases h1 : 4294967296 ≤ x
  · have b1 : bl x = 32 + bl (x / 2 ^ 32) := bl_shift x 32 (by omega)
    rw [decide_eq_true (show (x : Int) ≥ 4294967296 by omega), cond_true]
    by_cases h2 : 65536 ≤ x / 2 ^ 32
    · have b2 : bl (x / 2 ^ 32) = 16 + bl (x / 2 ^ 32 / 2 ^ 16) := bl_shift _ 16 (by omega)
      rw [decide_eq_true (show ((x / 2 ^ 32 : Nat) : Int) ≥ 65536 by omega), cond_true]
      by_cases h3 : 256 ≤ x / 2 ^ 32 / 2 ^ 16
      · have b3 : bl (x / 2 ^ 32 / 2 ^ 16) = 8 + bl (x / 2 ^ 32 / 2 ^ 16 / 2 ^ 8) := bl_shift _ 8 (by omega)
        rw [decide_eq_true (show ((x / 2 ^ 32 / 2 ^ 16 : Nat) : Int) ≥ 256 by omega), cond_true]
        exact leaf g x _ 56 (by omega) (by decide) (by omega)
      · rw [decide_eq_false (show ¬ ((x / 2 ^ 32 / 2 ^ 16 : Nat) : Int) ≥ 256 by omega), cond_false]
        exact leaf g x _ 48 (by omega) (by decide) (by omega)
    · rw [decide_eq_false (show ¬ ((x / 2 ^ 32 : Nat) : Int) ≥ 65536 by omega), cond_false]
      by_cases h3 : 256 ≤ x / 2 ^ 32
      · have b3 : bl (x / 2 ^ 32) = 8 + bl (x / 2 ^ 32 / 2 ^ 8) := bl_shift _ 8 (by omega)
        rw [decide_eq_true (show ((x / 2 ^ 32 : Nat) : Int) ≥ 256 by omega), cond_true]
        exact leaf g x _ 40 (by omega) (by decide) (by omega)
      · rw [decide_eq_false (show ¬ ((x / 2 ^ 32 : Nat) : Int) ≥ 256 by omega), cond_false]
        exact leaf g x _ 32 (by omega) (by decide) (by omega)
  · rw [decide_eq_false (show ¬ (x : Int) ≥ 4294967296 by omega), cond_false]
    by_cases h2 : 65536 ≤ x
    · have b2 : bl x = 16 + bl (x / 2 ^ 16) := bl_shift _ 16 (by omega)
      rw [decide_eq_true (show (x : Int) ≥ 65536 by omega), cond_true]
      by_cases h3 : 256 ≤ x / 2 ^ 16
      · have b3 : bl (x / 2 ^ 16) = 8 + bl (x / 2 ^ 16 / 2 ^ 8) := bl_shift _ 8 (by omega)
        rw [decide_eq_true (show ((x / 2 ^ 16 : Nat) : Int) ≥ 256 by omega), cond_true]
        exact leaf g x _ 24 (by omega) (by decide) (by omega)
      · rw [decide_eq_false (show ¬ ((x / 2 ^ 16 : Nat) : Int) ≥ 256 by omega), cond_false]
        exact leaf g x _ 16 (by omega) (by decide) (by omega)
    · rw [decide_eq_false (show ¬ (x : Int) ≥ 65536 by omega), cond_false]
      by_cases h3 : 256 ≤ x
      · have b3 : bl x = 8 + bl (x / 2 ^ 8) := bl_shift _ 8 (by omega)
        rw [decide_eq_true (show (x : Int) ≥ 256 by omega), cond_true]
        exact leaf g x _ 8 (by omega) (by decide) (by omega)
      · rw [decide_eq_false (show ¬ (x : Int) ≥ 256 by omega), cond_false]
        exact leaf g x x 0 (by omega) (by decide) (by omega)

theorem ulen_l0_law (n : Nat) (x : Nat) (g : Int → Option A) : ∀ (f i : Nat), i ≤ 4 → i < f → x / 2 ^ (64 * i) = 0 →
    ulen_l0 (len64_k n) n (ints (uw x)) g (g 0) f ((i : Int) - 1) = g ((bl x : Nat) : Int) := by
  intro f
  induction f with
  | zero => intro i _ h; omega
  | succ f ih =>
  intro i hi hf he
  rcases i with _ | i
  · rw [ulen_l0, ulen_b0]
    have e : decide (((0 : Nat) : Int) - 1 ≥ 0) = false := by decide
    rw [Nat.mul_zero, Nat.pow_zero, Nat.div_one] at he
    rw [e, cond_false, he]; rfl
  · rw [ulen_l0, ulen_b0]
    have e0 : ((i + 1 : Nat) : Int) - 1 = (i : Int) := by omega
    have e : decide ((i : Int) ≥ 0) = true := decide_eq_true (by omega)
    have e2 : IntKind.wrap .i64 ((i : Int) - 1) = (i : Int) - 1 := wrap_id (by omega) (by omega)
    rw [e0, e, cond_true, if_pos (by omega), if_pos (by omega), Int.toNat_natCast, iuw_at _ _ (by omega), Option.bind_some]
    have hx := wd_split x i
    rw [he, Nat.mul_zero, Nat.add_zero] at hx
    by_cases h1 : wd x i = 0
    · have d : (((wd x i : Nat) : Int) != 0) = false := by rw [h1]; rfl
      rw [d, cond_false, e2]
      exact ih i (by omega) (by omega) (by omega)
    · have d : (((wd x i : Nat) : Int) != 0) = true := by simp; omega
      have hb : bl x = 64 * i + bl (wd x i) := by rw [bl_shift x (64 * i) (by omega), hx]
      have hb2 : bl (wd x i) ≤ 64 := by rw [bl_le]; exact wd_lt x i
      have e3 : IntKind.wrap .i64 (64 * (i : Int)) = ((64 * i : Nat) : Int) := by rw [wrap_id (by omega) (by omega)]; omega
      have e4 : IntKind.wrap .i64 (((64 * i : Nat) : Int) + ((bl (wd x i) : Nat) : Int)) = ((bl x : Nat) : Int) := by rw [wrap_id (by omega) (by omega)]; omega
      rw [d, cond_true, if_pos (by omega), if_pos (by omega), Option.bind_some, len64_law n _ (wd_lt x i), e3, e4]

theorem ulen_law (n : Nat) (hn : 10 < n) (x : Nat) (hx : x < 2 ^ 256) (g : Int → Option A) : ulen_k n (ints (uw x)) g = g ((bl x : Nat) : Int) := by
  unfold ulen_k ulen_p
  exact ulen_l0_law n x (fun y5 => g y5) n 4 (by omega) (by omega) (by
    rw [show (2 : Nat) ^ (64 * 4) = 2 ^ 256 from by decide, Nat.div_eq_of_lt hx])

theorem uof_law (n x : Nat) (hx : x < 18446744073709551616) (g : List Int → Option A) : uof_k n (x : Int) g = g (ints (uw x)) := by
  unfold uof_k uof_p
  have e : ints (uw x) = [(x : Int), 0, 0, 0] := by
    simp only [ints, uw, List.map_cons, List.map_nil]
    rw [Nat.mod_eq_of_lt hx, Nat.div_eq_of_lt hx, Nat.div_eq_of_lt (show x < 340282366920938463463374607431768211456 by omega), Nat.div_eq_of_lt (show x < 6277101735386680763835789423207666416102355444464034512896 by omega)]; rfl
  rw [e]

theorem umax_law (n : Nat) (g : List Int → Option A) : umax_k n g = g (ints (uw (2 ^ 256 - 1))) := by
  unfold umax_k umax_p
  have e : ints (uw (2 ^ 256 - 1)) = [18446744073709551615, 18446744073709551615, 18446744073709551615, 18446744073709551615] := by decide
  rw [e]

theorem imax_imax (a : Int) : imax (imax a 0) 0 = imax a 0 := by unfold imax; split <;> (try split) <;> omega
theorem imax_toNat (a : Int) : imax a 0 = (a.toNat : Int) := by unfold imax; split <;> omega
theorem ushl_lawI (n : Nat) (hn : 10 < n) (x : Nat) (a : Int) (g : List Int → Option A) : ushl_k n (ints (uw x)) a g = g (ints (uw (x * 2 ^ a.toNat % 2 ^ 256))) := by
  rw [← ushl_law n hn x a.toNat g, ← imax_toNat]
  unfold ushl_k ushl_p
  rw [imax_imax]
theorem ushr_lawI (n : Nat) (hn : 10 < n) (x : Nat) (hx : x < 2 ^ 256) (a : Int) (g : List Int → Option A) : ushr_k n (ints (uw x)) a g = g (ints (uw (x / 2 ^ a.toNat))) := by
  rw [← ushr_law n hn x a.toNat hx g, ← imax_toNat]
  unfold ushr_k ushr_p
  rw [imax_imax]

end Go.Ev
end

section
/-
  FUNCTION 52: printed by a program of our own (wip/gen/st.py). 'internal/strconv.small', in continuation form; the evaluator gives it.
-/
set_option linter.all false
set_option maxRecDepth 100000
namespace Go.Ev
open Go.Proofs
variable {A : Type}

-- ============================================================ small (function 52)
def small_p (n : Nat) (a0 : Int) (k : ByteArray → Option A) : Option A :=
  bif (decide (a0 < 10)) then
    if 0 ≤ (IntKind.wrap .i64 (a0 + 1)) then
      if (IntKind.wrap .i64 (a0 + 1)) ≤ (str2.size : Int) then
        if 0 ≤ a0 then
          if a0 ≤ ((Int.toNat (IntKind.wrap .i64 (a0 + 1))) : Int) then
            k (str2.extract (Int.toNat a0) (Int.toNat (IntKind.wrap .i64 (a0 + 1))))
          else none
        else none
      else none
    else none
  else
    if 0 ≤ (IntKind.wrap .i64 ((IntKind.wrap .i64 (a0 * 2)) + 2)) then
      if (IntKind.wrap .i64 ((IntKind.wrap .i64 (a0 * 2)) + 2)) ≤ (str3.size : Int) then
        if 0 ≤ (IntKind.wrap .i64 (a0 * 2)) then
          if (IntKind.wrap .i64 (a0 * 2)) ≤ ((Int.toNat (IntKind.wrap .i64 ((IntKind.wrap .i64 (a0 * 2)) + 2))) : Int) then
            k (str3.extract (Int.toNat (IntKind.wrap .i64 (a0 * 2))) (Int.toNat (IntKind.wrap .i64 ((IntKind.wrap .i64 (a0 * 2)) + 2))))
          else none
        else none
      else none
    else none

def small_k (n : Nat) (a0 : Int) (k : ByteArray → Option A) : Option A := small_p n a0 k

noncomputable def small_E (n : Nat) : Env A := ⟨tys, gls, [], [], []⟩
theorem small_T {A : Type} (n : Nat) : TyOK Tryd.prog (small_E (A := A) n) := tyOK_of rfl tysB
theorem small_fns (n : Nat) : FnsOK Tryd.prog (small_E (A := A) n) := AllOK.env rfl rfl AllOK.nil
theorem small_eqg (n : Nat) (a0 : Int) (k : AV → List Blk → Option A) : fnK (small_E n) Tryd.f52 [.pure] [.p (.int .i64) a0] [] k = small_p n a0 (fun r0 => k (.p .str r0) []) := by kernel_rfl
theorem small_eq (n : Nat) (a0 : Int) (k : AV → List Blk → Option A) : fnK (small_E n) Tryd.f52 [.pure] [.p (.int .i64) a0] [] k = small_k n a0 (fun r0 => k (.p .str r0) []) := small_eqg n a0 k
def small_ent (g : Int → (ByteArray → Option A) → Option A) : Entry A := pureE fun args k => args1 args (.int .i64) fun a0 => g a0 (fun r0 => k (.p .str r0) [])
theorem small_lo (n : Nat) : ∀ c, Tryd.f52.body = some c → ∀ q ∈ loopsOf 0 c, ∀ L, (small_E (A := A) n).lps.lookup q.1 = some L → LoopOK Tryd.prog gls q.2 L :=
  lo_body (E := small_E n) (by kernel_rfl : Tryd.f52.body = some (bodyOf Tryd.f52)) (lo_of (E := small_E n) (by kernel_rfl : loopsOf 0 (bodyOf Tryd.f52) = []) lo_nil)
theorem small_ok (n : Nat) : FnOK Tryd.prog gls 52 (small_ent (A := A) (small_k n)) :=
  FnOK.of (small_T n) (small_fns n) follows ⟨Tryd.func52, by kernel_rfl⟩ (small_lo n) (rm := [.pure]) fun args k out h => by
    obtain ⟨a0, e, h1⟩ := args1_sound h
    subst e; rw [small_eq]; exact h1

end Go.Ev
end

section
/-
  FUNCTION 56: printed by a program of our own (wip/gen/st.py). 'internal/strconv.log10Pow2', in continuation form; the evaluator gives it.
-/
set_option linter.all false
set_option maxRecDepth 100000
namespace Go.Ev
open Go.Proofs
variable {A : Type}

-- ============================================================ log10p (function 56)
def log10p_p (n : Nat) (a0 : Int) (k : Int → Option A) : Option A :=
  k (shr .i64 (IntKind.wrap .i64 (a0 * 78913)) 18)

def log10p_k (n : Nat) (a0 : Int) (k : Int → Option A) : Option A := log10p_p n a0 k

noncomputable def log10p_E (n : Nat) : Env A := ⟨tys, gls, [], [], []⟩
theorem log10p_T {A : Type} (n : Nat) : TyOK Tryd.prog (log10p_E (A := A) n) := tyOK_of rfl tysB
theorem log10p_fns (n : Nat) : FnsOK Tryd.prog (log10p_E (A := A) n) := AllOK.env rfl rfl AllOK.nil
theorem log10p_eqg (n : Nat) (a0 : Int) (k : AV → List Blk → Option A) : fnK (log10p_E n) Tryd.f56 [.pure] [.p (.int .i64) a0] [] k = log10p_p n a0 (fun r0 => k (.p (.int .i64) r0) []) := by kernel_rfl
theorem log10p_eq (n : Nat) (a0 : Int) (k : AV → List Blk → Option A) : fnK (log10p_E n) Tryd.f56 [.pure] [.p (.int .i64) a0] [] k = log10p_k n a0 (fun r0 => k (.p (.int .i64) r0) []) := log10p_eqg n a0 k
def log10p_ent (g : Int → (Int → Option A) → Option A) : Entry A := pureE fun args k => args1 args (.int .i64) fun a0 => g a0 (fun r0 => k (.p (.int .i64) r0) [])
theorem log10p_lo (n : Nat) : ∀ c, Tryd.f56.body = some c → ∀ q ∈ loopsOf 0 c, ∀ L, (log10p_E (A := A) n).lps.lookup q.1 = some L → LoopOK Tryd.prog gls q.2 L :=
  lo_body (E := log10p_E n) (by kernel_rfl : Tryd.f56.body = some (bodyOf Tryd.f56)) (lo_of (E := log10p_E n) (by kernel_rfl : loopsOf 0 (bodyOf Tryd.f56) = []) lo_nil)
theorem log10p_ok (n : Nat) : FnOK Tryd.prog gls 56 (log10p_ent (A := A) (log10p_k n)) :=
  FnOK.of (log10p_T n) (log10p_fns n) follows ⟨Tryd.func56, by kernel_rfl⟩ (log10p_lo n) (rm := [.pure]) fun args k out h => by
    obtain ⟨a0, e, h1⟩ := args1_sound h
    subst e; rw [log10p_eq]; exact h1

end Go.Ev
end

section
/-
  FUNCTION 57: printed by a program of our own (wip/gen/st.py). 'internal/strconv.bool2[int]', in continuation form; the evaluator gives it.
-/
set_option linter.all false
set_option maxRecDepth 100000
namespace Go.Ev
open Go.Proofs
variable {A : Type}

-- ============================================================ bool2 (function 57)
def bool2_p (n : Nat) (a0 : Bool) (k : Int → Option A) : Option A :=
  bif a0 then
    k 1
  else
    k 0

def bool2_k (n : Nat) (a0 : Bool) (k : Int → Option A) : Option A := bool2_p n a0 k

noncomputable def bool2_E (n : Nat) : Env A := ⟨tys, gls, [], [], []⟩
theorem bool2_T {A : Type} (n : Nat) : TyOK Tryd.prog (bool2_E (A := A) n) := tyOK_of rfl tysB
theorem bool2_fns (n : Nat) : FnsOK Tryd.prog (bool2_E (A := A) n) := AllOK.env rfl rfl AllOK.nil
theorem bool2_eqg (n : Nat) (a0 : Bool) (k : AV → List Blk → Option A) : fnK (bool2_E n) Tryd.f57 [.pure] [.p .bool a0] [] k = bool2_p n a0 (fun r0 => k (.p (.int .i64) r0) []) := by kernel_rfl
theorem bool2_eq (n : Nat) (a0 : Bool) (k : AV → List Blk → Option A) : fnK (bool2_E n) Tryd.f57 [.pure] [.p .bool a0] [] k = bool2_k n a0 (fun r0 => k (.p (.int .i64) r0) []) := bool2_eqg n a0 k
def bool2_ent (g : Bool → (Int → Option A) → Option A) : Entry A := pureE fun args k => args1 args .bool fun a0 => g a0 (fun r0 => k (.p (.int .i64) r0) [])
theorem bool2_lo (n : Nat) : ∀ c, Tryd.f57.body = some c → ∀ q ∈ loopsOf 0 c, ∀ L, (bool2_E (A := A) n).lps.lookup q.1 = some L → LoopOK Tryd.prog gls q.2 L :=
  lo_body (E := bool2_E n) (by kernel_rfl : Tryd.f57.body = some (bodyOf Tryd.f57)) (lo_of (E := bool2_E n) (by kernel_rfl : loopsOf 0 (bodyOf Tryd.f57) = []) lo_nil)
theorem bool2_ok (n : Nat) : FnOK Tryd.prog gls 57 (bool2_ent (A := A) (bool2_k n)) :=
  FnOK.of (bool2_T n) (bool2_fns n) follows ⟨Tryd.func57, by kernel_rfl⟩ (bool2_lo n) (rm := [.pure]) fun args k out h => by
    obtain ⟨a0, e, h1⟩ := args1_sound h
    subst e; rw [bool2_eq]; exact h1

end Go.Ev
end

section
/-
  FUNCTION 53: printed by a program of our own (wip/gen/st.py). 'internal/strconv.numDigits', in continuation form; the evaluator gives it.
-/
set_option linter.all false
set_option maxRecDepth 100000
namespace Go.Ev
open Go.Proofs
variable {A : Type}

-- ============================================================ numdig (function 53)
def numdig_p (g_len64 : Int → (Int → Option A) → Option A) (g_log10p : Int → (Int → Option A) → Option A) (g_bool2 : Bool → (Int → Option A) → Option A) (n : Nat) (a0 : Int) (k : Int → Option A) : Option A :=
  g_len64 a0 fun r1 =>
  g_log10p r1 fun r2 =>
  if 0 ≤ r2 then
    if r2 < 20 then
      (gl2[(Int.toNat r2)]?).bind fun y3 =>
      g_bool2 (decide (a0 ≥ y3)) fun r4 =>
      k (IntKind.wrap .i64 (r2 + r4))
    else none
  else none

def numdig_k (n : Nat) (a0 : Int) (k : Int → Option A) : Option A := numdig_p (len64_k n) (log10p_k n) (bool2_k n) n a0 k

noncomputable def numdig_E (g_len64 : Int → (Int → Option A) → Option A) (g_log10p : Int → (Int → Option A) → Option A) (g_bool2 : Bool → (Int → Option A) → Option A) (n : Nat) : Env A := ⟨tys, gls, [(49, len64_ent g_len64), (56, log10p_ent g_log10p), (57, bool2_ent g_bool2)], [], []⟩
theorem numdig_T (g_len64 : Int → (Int → Option A) → Option A) (g_log10p : Int → (Int → Option A) → Option A) (g_bool2 : Bool → (Int → Option A) → Option A) (n : Nat) : TyOK Tryd.prog (numdig_E g_len64 g_log10p g_bool2 n) := tyOK_of rfl tysB
theorem numdig_fns (n : Nat) : FnsOK Tryd.prog (numdig_E (A := A) (len64_k n) (log10p_k n) (bool2_k n) n) := AllOK.env rfl rfl (AllOK.cons (len64_ok n) (AllOK.cons (log10p_ok n) (AllOK.cons (bool2_ok n) AllOK.nil)))
theorem numdig_eqg (g_len64 : Int → (Int → Option A) → Option A) (g_log10p : Int → (Int → Option A) → Option A) (g_bool2 : Bool → (Int → Option A) → Option A) (n : Nat) (a0 : Int) (k : AV → List Blk → Option A) : fnK (numdig_E g_len64 g_log10p g_bool2 n) Tryd.f53 [.pure] [.p (.int .u64) a0] [] k = numdig_p g_len64 g_log10p g_bool2 n a0 (fun r0 => k (.p (.int .i64) r0) []) := by kernel_rfl
theorem numdig_eq (n : Nat) (a0 : Int) (k : AV → List Blk → Option A) : fnK (numdig_E (len64_k n) (log10p_k n) (bool2_k n) n) Tryd.f53 [.pure] [.p (.int .u64) a0] [] k = numdig_k n a0 (fun r0 => k (.p (.int .i64) r0) []) := numdig_eqg (len64_k n) (log10p_k n) (bool2_k n) n a0 k
def numdig_ent (g : Int → (Int → Option A) → Option A) : Entry A := pureE fun args k => args1 args (.int .u64) fun a0 => g a0 (fun r0 => k (.p (.int .i64) r0) [])
theorem numdig_lo (n : Nat) : ∀ c, Tryd.f53.body = some c → ∀ q ∈ loopsOf 0 c, ∀ L, (numdig_E (A := A) (len64_k n) (log10p_k n) (bool2_k n) n).lps.lookup q.1 = some L → LoopOK Tryd.prog gls q.2 L :=
  lo_body (E := numdig_E (len64_k n) (log10p_k n) (bool2_k n) n) (by kernel_rfl : Tryd.f53.body = some (bodyOf Tryd.f53)) (lo_of (E := numdig_E (len64_k n) (log10p_k n) (bool2_k n) n) (by kernel_rfl : loopsOf 0 (bodyOf Tryd.f53) = []) lo_nil)
theorem numdig_ok (n : Nat) : FnOK Tryd.prog gls 53 (numdig_ent (A := A) (numdig_k n)) :=
  FnOK.of (numdig_T (len64_k n) (log10p_k n) (bool2_k n) n) (numdig_fns n) follows ⟨Tryd.func53, by kernel_rfl⟩ (numdig_lo n) (rm := [.pure]) fun args k out h => by
    obtain ⟨a0, e, h1⟩ := args1_sound h
    subst e; rw [numdig_eq]; exact h1

end Go.Ev
end

