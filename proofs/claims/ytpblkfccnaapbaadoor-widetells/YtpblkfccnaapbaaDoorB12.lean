import Derived.Test.YtpblkfccnaapbaaDoorB11
import Derived.Test.YtpblkfccnaapbaaDoorB6
import Derived.Test.YtpblkfccnaapbaaDoorB8
import Derived.Test.YtpblkfccnaapbaaDoorB9
import Derived.Test.YtpblkfccnaapbaaDoorB10
set_option linter.all false
section
/-
  PRODUCTS AND QUOTIENTS of 64 bits: plain laws of the printed functions.
-/
set_option linter.all false
namespace Go.Ev
variable {A : Type}

theorem hi_parts (P Q R S : Nat) : (P * 18446744073709551616 + (Q + R) * 4294967296 + S) / 18446744073709551616 = P + (Q + S / 4294967296) / 4294967296 + ((Q + S / 4294967296) % 4294967296 + R) / 4294967296 := by omega
theorem prod_parts (x1 x0 y1 y0 : Nat) : (x1 * 4294967296 + x0) * (y1 * 4294967296 + y0) = x1 * y1 * 18446744073709551616 + (x1 * y0 + x0 * y1) * 4294967296 + x0 * y0 := by
  rw [Nat.add_mul, Nat.mul_add, Nat.mul_add, Nat.add_mul]
  have e1 : x1 * 4294967296 * (y1 * 4294967296) = x1 * y1 * 18446744073709551616 := by
    rw [Nat.mul_assoc, Nat.mul_left_comm 4294967296 y1, ← Nat.mul_assoc]
  have e2 : x1 * 4294967296 * y0 = x1 * y0 * 4294967296 := by rw [Nat.mul_assoc, Nat.mul_comm 4294967296, ← Nat.mul_assoc]
  have e3 : x0 * (y1 * 4294967296) = x0 * y1 * 4294967296 := by rw [Nat.mul_assoc]
  rw [e1, e2, e3]; omega
theorem mul_lt32 {a b : Nat} (ha : a < 4294967296) (hb : b < 4294967296) : a * b ≤ 18446744065119617025 := by
  have := Nat.mul_le_mul (show a ≤ 4294967295 by omega) (show b ≤ 4294967295 by omega)
  omega
theorem shr32 (x : Nat) : shr .u64 (x : Int) 32 = ((x / 4294967296 : Nat) : Int) := shr_u64 x 32 (by decide)
theorem and32 (x : Nat) (hx : x < 18446744073709551616) : iand .u64 (x : Int) 4294967295 = ((x % 4294967296 : Nat) : Int) := by
  rw [show (4294967295 : Int) = ((4294967295 : Nat) : Int) from rfl, iand_u64 x _ hx (by decide), show 4294967295 = 2 ^ 32 - 1 from rfl, Nat.and_two_pow_sub_one_eq_mod]

theorem mul64_law (n x y : Nat) (hx : x < 18446744073709551616) (hy : y < 18446744073709551616) (g : Int → Int → Option A) : mul64_k n (x : Int) (y : Int) g = g ((x * y / 18446744073709551616 : Nat) : Int) ((x * y % 18446744073709551616 : Nat) : Int) := by
  unfold mul64_k mul64_p
  rw [shr32, shr32, and32 x hx, and32 y hy]
  have hx1 : x / 4294967296 < 4294967296 := by omega
  have hy1 : y / 4294967296 < 4294967296 := by omega
  have hx0 : x % 4294967296 < 4294967296 := by omega
  have hy0 : y % 4294967296 < 4294967296 := by omega
  have hxd : x / 4294967296 * 4294967296 + x % 4294967296 = x := Nat.div_add_mod' _ _
  have hyd : y / 4294967296 * 4294967296 + y % 4294967296 = y := Nat.div_add_mod' _ _
  have hpp := prod_parts (x / 4294967296) (x % 4294967296) (y / 4294967296) (y % 4294967296)
  rw [hxd, hyd] at hpp
  have b1 := mul_lt32 hx1 hy1
  have b2 := mul_lt32 hx1 hy0
  have b3 := mul_lt32 hx0 hy1
  have b4 := mul_lt32 hx0 hy0
  simp only [← Int.natCast_mul]
  generalize x / 4294967296 * (y / 4294967296) = P at *
  generalize x / 4294967296 * (y % 4294967296) = Q at *
  generalize x % 4294967296 * (y / 4294967296) = R at *
  generalize x % 4294967296 * (y % 4294967296) = S at *
  rw [wrap_u64_nat P (by omega), wrap_u64_nat Q (by omega), wrap_u64_nat S (by omega), wrap_u64_nat R (by omega), shr32]
  rw [← Int.natCast_add, wrap_u64_nat (Q + S / 4294967296) (by omega), shr32, and32 _ (by omega), ← Int.natCast_add, ← Int.natCast_add, wrap_u64_nat (P + _) (by omega), wrap_u64_nat _ (by omega), shr32, ← Int.natCast_add, wrap_u64_nat _ (by omega), wrap_u64_mod]
  have hhi := hi_parts P Q R S
  rw [← hpp] at hhi
  rw [hhi]

-- ------------------------------------------------------------ by one word

theorem umul_l0_law (n : Nat) (x y : Nat) (hy : y < 18446744073709551616) (t4 : List Int) (g : Int → List Int → Option A) : ∀ (d f i c : Nat) (l : List Nat), i + d = 4 → d < f → c < 18446744073709551616 → (x * y) / 2 ^ (64 * i) = x / 2 ^ (64 * i) * y + c → Mix (x * y) x i l →
    ∃ c', (x * y) / 2 ^ (64 * 4) = x / 2 ^ (64 * 4) * y + c' ∧ umul_l0 (mul64_k n) (add64_k n) n (y : Int) t4 g f (c : Int) (i : Int) (ints l) = g (c' : Int) (ints (uw (x * y))) := by
  intro d
  induction d with
  | zero =>
    intro f i c l hi hf hc he hm
    obtain ⟨f, rfl⟩ : ∃ g, f = g + 1 := ⟨f - 1, by omega⟩
    have : i = 4 := by omega
    subst this
    refine ⟨c, he, ?_⟩
    rw [umul_l0, umul_b0, decide_eq_false (show ¬ ((4 : Nat) : Int) < 4 by omega), cond_false, hm.done]
  | succ d ih =>
    intro f i c l hi hf hc he hm
    obtain ⟨f, rfl⟩ : ∃ g, f = g + 1 := ⟨f - 1, by omega⟩
    have hx := wd_split x i
    have hz := wd_split (x * y) i
    have bx := wd_lt x i
    have bz := wd_lt (x * y) i
    have hp : wd x i * y ≤ 18446744073709551615 * 18446744073709551615 := Nat.mul_le_mul (by omega) (by omega)
    rw [hx, Nat.add_mul, Nat.mul_assoc] at he
    have e3 : IntKind.wrap .i64 ((i : Int) + 1) = ((i + 1 : Nat) : Int) := by rw [wrap_id (by omega) (by omega)]; omega
    generalize hP : wd x i * y = P at he hp
    generalize hX : x / 2 ^ (64 * (i + 1)) * y = X at he
    rw [hz] at he
    have e1 : (P % 18446744073709551616 + c + 0) % 18446744073709551616 = wd (x * y) i := by omega
    have e2 : x * y / 2 ^ (64 * (i + 1)) = X + (P / 18446744073709551616 + (P % 18446744073709551616 + c + 0) / 18446744073709551616) := by omega
    have e4 : IntKind.wrap .u64 (((P / 18446744073709551616 : Nat) : Int) + (((P % 18446744073709551616 + c + 0) / 18446744073709551616 : Nat) : Int)) = ((P / 18446744073709551616 + (P % 18446744073709551616 + c + 0) / 18446744073709551616 : Nat) : Int) := by
      rw [← Int.natCast_add]; exact wrap_u64_nat _ (by omega)
    obtain ⟨c', h1, h2⟩ := ih f (i + 1) (P / 18446744073709551616 + (P % 18446744073709551616 + c + 0) / 18446744073709551616) (l.set i (wd (x * y) i)) (by omega) (by omega) (by omega) (by rw [hX]; exact e2) (hm.step (by omega))
    refine ⟨c', h1, ?_⟩
    rw [umul_l0, umul_b0, decide_eq_true (show (i : Int) < 4 by omega), cond_true, if_pos (by omega), if_pos (by omega), Int.toNat_natCast, hm.at (by omega), Option.bind_some, mul64_law n _ _ bx hy, hP, show (0 : Int) = ((0 : Nat) : Int) from rfl, add64_at n _ _ 0 (by decide), if_pos (by omega), if_pos (by omega), if_pos (by omega), e1, e3, e4, ints_set]
    exact h2

theorem umul_law (n : Nat) (hn : 10 < n) (x y : Nat) (hx : x < 2 ^ 256) (hy : y < 18446744073709551616) (g : List Int → Int → Option A) : umul_k n (ints (uw x)) (y : Int) g = g (ints (uw (x * y % 2 ^ 256))) ((x * y / 2 ^ 256 : Nat) : Int) := by
  unfold umul_k umul_p
  obtain ⟨c', h1, h2⟩ := umul_l0_law n x y hy [0, 0, 0, 0] (fun y5 y6 => g y6 y5) 4 n 0 0 (uw x) (by omega) (by omega) (by omega) (by rw [Nat.mul_zero, Nat.pow_zero, Nat.div_one, Nat.div_one]; rfl) (.start _ _)
  rw [P4_zero hx, Nat.zero_mul, Nat.zero_add, show 2 ^ (64 * 4) = 2 ^ 256 from by decide] at h1
  refine Eq.trans h2 ?_
  rw [uw_mod, h1]

-- ------------------------------------------------------------ two words by one

theorem quo_of {a b q : Nat} (hb : 0 < b) (h1 : q * b ≤ a) (h2 : a / b ≤ q) : q = a / b := Nat.le_antisymm ((Nat.le_div_iff_mul_le hb).2 h1) h2

section digit
variable (y1 y0 u v : Nat)
theorem est_ok {q r : Nat} (hy1 : 0 < y1) (h : q * y1 + r = u) (hc : q * y0 ≤ 4294967296 * r + v) (hq : (u * 4294967296 + v) / (y1 * 4294967296 + y0) ≤ q) : q = (u * 4294967296 + v) / (y1 * 4294967296 + y0) := by
  refine quo_of (by omega) ?_ hq
  rw [Nat.mul_add, ← Nat.mul_assoc]
  generalize q * y1 = a at *
  generalize q * y0 = b at *
  omega
theorem est_big {q r : Nat} (hy1 : 0 < y1) (hu : u < y1 * 4294967296 + y0) (hv : v < 4294967296) (h : q * y1 + r = u) (hc : 4294967296 ≤ q ∨ 4294967296 * r + v < q * y0) : (u * 4294967296 + v) / (y1 * 4294967296 + y0) < q := by
  rcases hc with hc | hc
  · refine Nat.lt_of_lt_of_le ?_ hc
    rw [Nat.div_lt_iff_lt_mul (by omega)]
    omega
  · rw [Nat.div_lt_iff_lt_mul (by omega), Nat.mul_add, ← Nat.mul_assoc]
    generalize q * y1 = a at *
    generalize q * y0 = b at *
    omega
theorem est_start (hv : v < 4294967296) (hy1 : 0 < y1) : (u * 4294967296 + v) / (y1 * 4294967296 + y0) ≤ u / y1 := by
  rw [Nat.le_div_iff_mul_le hy1]
  have h := Nat.div_mul_le_self (u * 4294967296 + v) (y1 * 4294967296 + y0)
  generalize (u * 4294967296 + v) / (y1 * 4294967296 + y0) = Q at *
  rw [Nat.mul_add, ← Nat.mul_assoc] at h
  generalize Q * y1 = a at *
  generalize Q * y0 = b at *
  omega
theorem est_small (hy1 : 2147483648 ≤ y1) (hy0 : y0 < 4294967296) (hu : u < y1 * 4294967296 + y0) : u / y1 ≤ 4294967297 := by
  have : u / y1 < 4294967298 := by
    rw [Nat.div_lt_iff_lt_mul (by omega)]
    omega
  omega
theorem est_prod {q : Nat} (hq : q ≤ 4294967296) (hy0 : y0 < 4294967296) : q * y0 ≤ 18446744069414584320 := by
  have := Nat.mul_le_mul hq (show y0 ≤ 4294967295 by omega)
  omega

theorem div64_l0_law (L : Int → (Int → Option A) → Option A) (n : Nat) (Y S U0 : Int) (k0 : Int → Option A) (hy1 : 2147483648 ≤ y1) (hy12 : y1 < 4294967296) (hy0 : y0 < 4294967296) (hu : u < y1 * 4294967296 + y0) (hv : v < 4294967296) : ∀ (d f q r : Nat), d < f → q * y1 + r = u → r < 4294967296 → 4294967296 ≤ r + d * y1 → q ≤ 4294967297 → (u * 4294967296 + v) / (y1 * 4294967296 + y0) ≤ q →
    div64_l0 L n Y S (y1 : Int) (y0 : Int) (u : Int) (v : Int) U0 k0 f (q : Int) (r : Int) = k0 (((u * 4294967296 + v) / (y1 * 4294967296 + y0) : Nat) : Int) := by
  intro d
  induction d with
  | zero => intro f q r hf h hr hd; omega
  | succ d ih =>
    intro f q r hf h hr hd hq hQ
    obtain ⟨f, rfl⟩ : ∃ g, f = g + 1 := ⟨f - 1, by omega⟩
    have e1 : IntKind.wrap .u64 ((r : Int) + (y1 : Int)) = ((r + y1 : Nat) : Int) := by rw [← Int.natCast_add]; exact wrap_u64_nat _ (by omega)
    have e4 : IntKind.wrap .u64 (IntKind.wrap .u64 (4294967296 * (r : Int)) + (v : Int)) = ((4294967296 * r + v : Nat) : Int) := by
      rw [show 4294967296 * (r : Int) = ((4294967296 * r : Nat) : Int) from by omega, wrap_u64_nat _ (by omega), ← Int.natCast_add]; exact wrap_u64_nat _ (by omega)
    have down : (4294967296 ≤ q ∨ 4294967296 * r + v < q * y0) → (bif decide (IntKind.wrap .u64 ((r : Int) + (y1 : Int)) ≥ 4294967296) then k0 (IntKind.wrap .u64 ((q : Int) - 1)) else div64_l0 L n Y S (y1 : Int) (y0 : Int) (u : Int) (v : Int) U0 k0 f (IntKind.wrap .u64 ((q : Int) - 1)) (IntKind.wrap .u64 ((r : Int) + (y1 : Int)))) = k0 (((u * 4294967296 + v) / (y1 * 4294967296 + y0) : Nat) : Int) := fun hc => by
      have hb := est_big y1 y0 u v (by omega) hu hv h hc
      have hq0 : 0 < q := Nat.lt_of_le_of_lt (Nat.zero_le _) hb
      have e2 : IntKind.wrap .u64 ((q : Int) - 1) = ((q - 1 : Nat) : Int) := by rw [show (q : Int) - 1 = ((q - 1 : Nat) : Int) from by omega]; exact wrap_u64_nat _ (by omega)
      have h2 : (q - 1) * y1 + (r + y1) = u := by
        have : q * y1 = (q - 1) * y1 + y1 := by rw [← Nat.succ_mul, Nat.succ_eq_add_one, Nat.sub_add_cancel hq0]
        omega
      rw [e1, e2]
      by_cases hbr : 4294967296 ≤ r + y1
      · have hp := est_prod y0 (q := q - 1) (by omega) hy0
        rw [decide_eq_true (show ((r + y1 : Nat) : Int) ≥ 4294967296 by omega), cond_true, est_ok y1 y0 u v (by omega) h2 (by omega) (by omega)]
      · rw [decide_eq_false (show ¬ ((r + y1 : Nat) : Int) ≥ 4294967296 by omega), cond_false]
        exact ih f (q - 1) (r + y1) (by omega) h2 (by omega) (by rw [Nat.add_mul, Nat.one_mul] at hd; omega) (by omega) (by omega)
    rw [div64_l0, div64_b0]
    by_cases hb : 4294967296 ≤ q
    · rw [decide_eq_true (show (q : Int) ≥ 4294967296 by omega), cond_true]
      exact down (.inl hb)
    · have hp := est_prod y0 (q := q) (by omega) hy0
      have e3 : IntKind.wrap .u64 ((q : Int) * (y0 : Int)) = ((q * y0 : Nat) : Int) := by rw [← Int.natCast_mul]; exact wrap_u64_nat _ (by omega)
      rw [decide_eq_false (show ¬ (q : Int) ≥ 4294967296 by omega), cond_false, e3, e4]
      by_cases hc : 4294967296 * r + v < q * y0
      · rw [decide_eq_true (show ((q * y0 : Nat) : Int) > ((4294967296 * r + v : Nat) : Int) by omega), cond_true]
        exact down (.inr hc)
      · rw [decide_eq_false (show ¬ ((q * y0 : Nat) : Int) > ((4294967296 * r + v : Nat) : Int) by omega), cond_false, ← est_ok y1 y0 u v (by omega) h (by omega) hQ]

theorem div64_l1_law (L : Int → (Int → Option A) → Option A) (n : Nat) (Y S U0 U1 : Int) (k0 : Int → Option A) (hy1 : 2147483648 ≤ y1) (hy12 : y1 < 4294967296) (hy0 : y0 < 4294967296) (hu : u < y1 * 4294967296 + y0) (hv : v < 4294967296) : ∀ (d f q r : Nat), d < f → q * y1 + r = u → r < 4294967296 → 4294967296 ≤ r + d * y1 → q ≤ 4294967297 → (u * 4294967296 + v) / (y1 * 4294967296 + y0) ≤ q →
    div64_l1 L n Y S (y1 : Int) (y0 : Int) (v : Int) U0 U1 k0 f (r : Int) (q : Int) = k0 (((u * 4294967296 + v) / (y1 * 4294967296 + y0) : Nat) : Int) := by
  intro d
  induction d with
  | zero => intro f q r hf h hr hd; omega
  | succ d ih =>
    intro f q r hf h hr hd hq hQ
    obtain ⟨f, rfl⟩ : ∃ g, f = g + 1 := ⟨f - 1, by omega⟩
    have e1 : IntKind.wrap .u64 ((r : Int) + (y1 : Int)) = ((r + y1 : Nat) : Int) := by rw [← Int.natCast_add]; exact wrap_u64_nat _ (by omega)
    have e4 : IntKind.wrap .u64 (IntKind.wrap .u64 (4294967296 * (r : Int)) + (v : Int)) = ((4294967296 * r + v : Nat) : Int) := by
      rw [show 4294967296 * (r : Int) = ((4294967296 * r : Nat) : Int) from by omega, wrap_u64_nat _ (by omega), ← Int.natCast_add]; exact wrap_u64_nat _ (by omega)
    have down : (4294967296 ≤ q ∨ 4294967296 * r + v < q * y0) → (bif decide (IntKind.wrap .u64 ((r : Int) + (y1 : Int)) ≥ 4294967296) then k0 (IntKind.wrap .u64 ((q : Int) - 1)) else div64_l1 L n Y S (y1 : Int) (y0 : Int) (v : Int) U0 U1 k0 f (IntKind.wrap .u64 ((r : Int) + (y1 : Int))) (IntKind.wrap .u64 ((q : Int) - 1))) = k0 (((u * 4294967296 + v) / (y1 * 4294967296 + y0) : Nat) : Int) := fun hc => by
      have hb := est_big y1 y0 u v (by omega) hu hv h hc
      have hq0 : 0 < q := Nat.lt_of_le_of_lt (Nat.zero_le _) hb
      have e2 : IntKind.wrap .u64 ((q : Int) - 1) = ((q - 1 : Nat) : Int) := by rw [show (q : Int) - 1 = ((q - 1 : Nat) : Int) from by omega]; exact wrap_u64_nat _ (by omega)
      have h2 : (q - 1) * y1 + (r + y1) = u := by
        have : q * y1 = (q - 1) * y1 + y1 := by rw [← Nat.succ_mul, Nat.succ_eq_add_one, Nat.sub_add_cancel hq0]
        omega
      rw [e1, e2]
      by_cases hbr : 4294967296 ≤ r + y1
      · have hp := est_prod y0 (q := q - 1) (by omega) hy0
        rw [decide_eq_true (show ((r + y1 : Nat) : Int) ≥ 4294967296 by omega), cond_true, est_ok y1 y0 u v (by omega) h2 (by omega) (by omega)]
      · rw [decide_eq_false (show ¬ ((r + y1 : Nat) : Int) ≥ 4294967296 by omega), cond_false]
        exact ih f (q - 1) (r + y1) (by omega) h2 (by omega) (by rw [Nat.add_mul, Nat.one_mul] at hd; omega) (by omega) (by omega)
    rw [div64_l1, div64_b1]
    by_cases hb : 4294967296 ≤ q
    · rw [decide_eq_true (show (q : Int) ≥ 4294967296 by omega), cond_true]
      exact down (.inl hb)
    · have hp := est_prod y0 (q := q) (by omega) hy0
      have e3 : IntKind.wrap .u64 ((q : Int) * (y0 : Int)) = ((q * y0 : Nat) : Int) := by rw [← Int.natCast_mul]; exact wrap_u64_nat _ (by omega)
      rw [decide_eq_false (show ¬ (q : Int) ≥ 4294967296 by omega), cond_false, e3, e4]
      by_cases hc : 4294967296 * r + v < q * y0
      · rw [decide_eq_true (show ((q * y0 : Nat) : Int) > ((4294967296 * r + v : Nat) : Int) by omega), cond_true]
        exact down (.inr hc)
      · rw [decide_eq_false (show ¬ ((q * y0 : Nat) : Int) > ((4294967296 * r + v : Nat) : Int) by omega), cond_false, ← est_ok y1 y0 u v (by omega) h (by omega) hQ]
end digit

end Go.Ev
end

section
/-
  TWO WORDS BY ONE: the quotient and what is left.
-/
set_option linter.all false
namespace Go.Ev
variable {A : Type}

theorem lz64_law (n x : Nat) (hx : x < 18446744073709551616) (g : Int → Option A) : lz64_k n (x : Int) g = g ((64 - bl x : Nat) : Int) := by
  unfold lz64_k lz64_p
  have h : bl x ≤ 64 := (bl_le x 64).2 hx
  rw [len64_law n x hx, wrap_id (x := 64 - ((bl x : Nat) : Int)) (by omega) (by omega), show 64 - ((bl x : Nat) : Int) = ((64 - bl x : Nat) : Int) from by omega]

theorem wrap_rem (u v p R : Nat) (h : u * 4294967296 + v = p + R) (hR : R < 18446744073709551616) : IntKind.wrap .u64 (IntKind.wrap .u64 (IntKind.wrap .u64 ((u : Int) * 4294967296) + (v : Int)) - IntKind.wrap .u64 ((p : Nat) : Int)) = ((R : Nat) : Int) := by
  rw [wrap_u64, wrap_u64, wrap_u64, wrap_u64]
  omega

theorem start_q (u y1 : Nat) (hu : u < 18446744073709551616) (h1 : 0 < y1) : IntKind.wrap .u64 (Int.tdiv (u : Int) (y1 : Int)) = ((u / y1 : Nat) : Int) := by
  rw [tdiv_nat]
  exact wrap_u64_nat _ (Nat.lt_of_le_of_lt (Nat.div_le_self _ _) hu)
theorem start_r (u y1 : Nat) (hu : u < 18446744073709551616) : IntKind.wrap .u64 ((u : Int) - IntKind.wrap .u64 (((u / y1 : Nat) : Int) * (y1 : Int))) = ((u % y1 : Nat) : Int) := by
  have h := Nat.div_add_mod u y1
  rw [Nat.mul_comm] at h
  rw [← Int.natCast_mul]
  generalize u / y1 * y1 = p at *
  generalize u % y1 = r at *
  rw [wrap_u64_nat p (by omega), show (u : Int) - (p : Int) = (r : Int) from by omega]
  exact wrap_u64_nat _ (by omega)

theorem div_lin (U V a b R1 R0 : Nat) (h1 : U * 4294967296 + V / 4294967296 = a + R1) (h2 : R1 * 4294967296 + V % 4294967296 = b + R0) : U * 18446744073709551616 + V = a * 4294967296 + b + R0 := by
  have e : U * 18446744073709551616 = U * 4294967296 * 4294967296 := by rw [Nat.mul_assoc]
  calc U * 18446744073709551616 + V = U * 4294967296 * 4294967296 + (V / 4294967296 * 4294967296 + V % 4294967296) := by rw [e, Nat.div_add_mod']
    _ = (U * 4294967296 + V / 4294967296) * 4294967296 + V % 4294967296 := by rw [Nat.add_mul, Nat.add_assoc]
    _ = a * 4294967296 + (R1 * 4294967296 + V % 4294967296) := by rw [h1, Nat.add_mul, Nat.add_assoc]
    _ = a * 4294967296 + b + R0 := by rw [h2, Nat.add_assoc]

theorem div_final (N y s Y U V Q1 R1 Q0 R0 : Nat) (hY : Y = y * 2 ^ s) (hy : 0 < y) (h0 : N * 2 ^ s = U * 18446744073709551616 + V)
    (h1 : U * 4294967296 + V / 4294967296 = Q1 * Y + R1) (h2 : R1 * 4294967296 + V % 4294967296 = Q0 * Y + R0) (hR : R0 < Y) :
    Q1 * 4294967296 + Q0 = N / y ∧ R0 / 2 ^ s = N % y := by
  have h3 : N * 2 ^ s = (Q1 * 4294967296 + Q0) * Y + R0 := by
    have e1 : (Q1 * 4294967296 + Q0) * Y = Q1 * Y * 4294967296 + Q0 * Y := by
      rw [Nat.add_mul, Nat.mul_assoc, Nat.mul_comm 4294967296 Y, ← Nat.mul_assoc]
    rw [h0, e1]
    exact div_lin U V (Q1 * Y) (Q0 * Y) R1 R0 h1 h2
  have hp : 0 < 2 ^ s := Nat.two_pow_pos s
  constructor
  · rw [← Nat.mul_div_mul_right N y hp, ← hY, h3, Nat.add_comm (_ * Y), Nat.add_mul_div_right _ _ (by omega), Nat.div_eq_of_lt hR, Nat.zero_add]
  · have h4 : R0 = N % y * 2 ^ s := by
      rw [← Nat.mul_mod_mul_right, ← hY, h3, Nat.add_comm (_ * Y), Nat.add_mul_mod_self_right, Nat.mod_eq_of_lt hR]
    rw [h4, Nat.mul_div_cancel _ hp]

theorem div64_law (n : Nat) (hn : 10 < n) (hi lo y : Nat) (hy : y < 18446744073709551616) (hhi : hi < y) (hlo : lo < 18446744073709551616) (g : Int → Int → Option A) :
    div64_k n (hi : Int) (lo : Int) (y : Int) g = g (((hi * 18446744073709551616 + lo) / y : Nat) : Int) (((hi * 18446744073709551616 + lo) % y : Nat) : Int) := by
  unfold div64_k div64_p
  rw [show ((y : Int) == 0) = false from by rw [beq_eq_false_iff_ne]; omega, cond_false, decide_eq_false (show ¬ (y : Int) ≤ (hi : Int) by omega), cond_false]
  by_cases h0 : hi = 0
  · subst h0
    rw [show (((0 : Nat) : Int) == 0) = true from rfl, cond_true, if_neg (by omega), if_neg (by omega), tdiv_nat, tmod_nat, wrap_u64_nat (lo / y) (Nat.lt_of_le_of_lt (Nat.div_le_self _ _) hlo), Nat.zero_mul, Nat.zero_add]
  · rw [show ((hi : Int) == 0) = false from by rw [beq_eq_false_iff_ne]; omega, cond_false, lz64_law n y hy]
    have hbl : bl y ≤ 64 := (bl_le y 64).2 hy
    have hbp : 0 < bl y := bl_pos (by omega)
    have hlow : 2 ^ (bl y - 1) ≤ y := le_of_bl (by omega)
    have hhigh : y < 2 ^ bl y := lt_bl y
    generalize hs : 64 - bl y = s at *
    have hs64 : s ≤ 64 := by omega
    have hYlt : y * 2 ^ s < 18446744073709551616 := by
      calc y * 2 ^ s < 2 ^ bl y * 2 ^ s := Nat.mul_lt_mul_of_pos_right hhigh (Nat.two_pow_pos s)
        _ = 2 ^ 64 := by rw [← Nat.pow_add]; congr 1; omega
        _ = 18446744073709551616 := by decide
    have hYge : 9223372036854775808 ≤ y * 2 ^ s := by
      calc 9223372036854775808 = 2 ^ 63 := by decide
        _ = 2 ^ (bl y - 1) * 2 ^ s := by rw [← Nat.pow_add]; congr 1; omega
        _ ≤ y * 2 ^ s := Nat.mul_le_mul_right _ hlow
    have hU1 : hi * 2 ^ s + 2 ^ s ≤ y * 2 ^ s := by
      rw [← Nat.succ_mul]; exact Nat.mul_le_mul_right _ hhi
    have hls : lo * 2 ^ s / 18446744073709551616 = lo / 2 ^ (64 - s) := by
      rw [show 18446744073709551616 = 2 ^ (64 - s) * 2 ^ s from by rw [← Nat.pow_add, show 64 - s + s = 64 from by omega], Nat.mul_div_mul_right _ _ (Nat.two_pow_pos s)]
    have hlt : lo / 2 ^ (64 - s) < 2 ^ s := by
      rw [Nat.div_lt_iff_lt_mul (Nat.two_pow_pos _), ← Nat.pow_add, show s + (64 - s) = 64 from by omega]; omega
    have hN : (hi * 18446744073709551616 + lo) * 2 ^ s = (hi * 2 ^ s + lo / 2 ^ (64 - s)) * 18446744073709551616 + lo * 2 ^ s % 18446744073709551616 := by
      have := Nat.div_add_mod (lo * 2 ^ s) 18446744073709551616
      rw [hls] at this
      rw [Nat.add_mul, Nat.add_mul, Nat.mul_right_comm hi]
      omega
    have eS : IntKind.wrap .u64 ((s : Nat) : Int) = ((s : Nat) : Int) := wrap_u64_nat _ (by omega)
    have eT : IntKind.wrap .u64 (64 - ((s : Nat) : Int)) = ((64 - s : Nat) : Int) := by rw [show 64 - ((s : Nat) : Int) = ((64 - s : Nat) : Int) from by omega]; exact wrap_u64_nat _ (by omega)
    have eY : shl .u64 (y : Int) ((s : Nat) : Int) = ((y * 2 ^ s : Nat) : Int) := by rw [shl_u64 y s hs64, Nat.mod_eq_of_lt hYlt]
    have eU : ior .u64 (shl .u64 (hi : Int) ((s : Nat) : Int)) (shr .u64 (lo : Int) ((64 - s : Nat) : Int)) = ((hi * 2 ^ s + lo / 2 ^ (64 - s) : Nat) : Int) := by
      rw [shl_u64 hi s hs64, shr_u64 lo (64 - s) (by omega), Nat.mod_eq_of_lt (by omega), ior_u64 _ _ (by omega) (by omega), or_parts hi _ s hlt]
    have eV : shl .u64 (lo : Int) ((s : Nat) : Int) = ((lo * 2 ^ s % 18446744073709551616 : Nat) : Int) := shl_u64 lo s hs64
    have hV : lo * 2 ^ s % 18446744073709551616 < 18446744073709551616 := Nat.mod_lt _ (by decide)
    rw [eS, eT, eY, eU, eV]
    generalize hYY : y * 2 ^ s = Y at *
    generalize hUU : hi * 2 ^ s + lo / 2 ^ (64 - s) = U at *
    generalize lo * 2 ^ s % 18446744073709551616 = V at *
    have hUY : U < Y := by omega
    rw [shr32, shr32, and32 _ hYlt, and32 _ hV]
    have hy1 : 2147483648 ≤ Y / 4294967296 := by omega
    have hy12 : Y / 4294967296 < 4294967296 := by omega
    have hy0 : Y % 4294967296 < 4294967296 := by omega
    have hYd : Y / 4294967296 * 4294967296 + Y % 4294967296 = Y := Nat.div_add_mod' _ _
    have hv1 : V / 4294967296 < 4294967296 := by omega
    have hv0 : V % 4294967296 < 4294967296 := by omega
    rw [start_q U _ (by omega) (by omega), start_r U _ (by omega)]
    rw [if_neg (by omega), if_neg (by omega), if_neg (by omega), if_neg (by omega), if_neg (by omega)]
    have l0 := fun (k0 : Int → Option A) => div64_l0_law (Y / 4294967296) (Y % 4294967296) U (V / 4294967296) (lz64_k n) n (Y : Int) (s : Int) ((V % 4294967296 : Nat) : Int) k0 hy1 hy12 hy0 (by omega) hv1 2 n (U / (Y / 4294967296)) (U % (Y / 4294967296)) (by omega) (Nat.div_add_mod' _ _)
      (Nat.lt_trans (Nat.mod_lt _ (by omega)) hy12) (by omega) (est_small _ _ _ hy1 hy0 (by omega)) (est_start _ _ _ _ hv1 (by omega))
    rw [l0, if_neg (by omega), hYd]
    have hd1 := Nat.div_add_mod' (U * 4294967296 + V / 4294967296) Y
    have hR1 : (U * 4294967296 + V / 4294967296) % Y < Y := Nat.mod_lt _ (by omega)
    have hQ1b : (U * 4294967296 + V / 4294967296) / Y < 4294967296 := by rw [Nat.div_lt_iff_lt_mul (by omega)]; omega
    obtain ⟨Q1, hQ1⟩ : ∃ q, q = (U * 4294967296 + V / 4294967296) / Y := ⟨_, rfl⟩
    obtain ⟨R1, hR1e⟩ : ∃ q, q = (U * 4294967296 + V / 4294967296) % Y := ⟨_, rfl⟩
    rw [← hQ1] at hQ1b
    rw [← hQ1, ← hR1e] at hd1
    rw [← hR1e] at hR1
    rw [← hQ1]
    have e21 : IntKind.wrap .u64 (IntKind.wrap .u64 (IntKind.wrap .u64 ((U : Int) * 4294967296) + ((V / 4294967296 : Nat) : Int)) - IntKind.wrap .u64 ((Q1 : Int) * (Y : Int))) = ((R1 : Nat) : Int) := by
      rw [← Int.natCast_mul]; exact wrap_rem U _ _ R1 hd1.symm (by omega)
    rw [e21, start_q R1 _ (by omega) (by omega), start_r R1 _ (by omega)]
    have l1 := fun (k0 : Int → Option A) => div64_l1_law (Y / 4294967296) (Y % 4294967296) R1 (V % 4294967296) (lz64_k n) n (Y : Int) (s : Int) (Q1 : Int) (R1 : Int) k0 hy1 hy12 hy0 (by omega) hv0 2 n (R1 / (Y / 4294967296)) (R1 % (Y / 4294967296)) (by omega) (Nat.div_add_mod' _ _)
      (Nat.lt_trans (Nat.mod_lt _ (by omega)) hy12) (by omega) (est_small _ _ _ hy1 hy0 (by omega)) (est_start _ _ _ _ hv0 (by omega))
    rw [l1, if_neg (by omega), hYd]
    have hd0 := Nat.div_add_mod' (R1 * 4294967296 + V % 4294967296) Y
    have hR0 : (R1 * 4294967296 + V % 4294967296) % Y < Y := Nat.mod_lt _ (by omega)
    have hQ0 : (R1 * 4294967296 + V % 4294967296) / Y < 4294967296 := by rw [Nat.div_lt_iff_lt_mul (by omega)]; omega
    obtain ⟨Q0, hQ0e⟩ : ∃ q, q = (R1 * 4294967296 + V % 4294967296) / Y := ⟨_, rfl⟩
    obtain ⟨R0, hR0e⟩ : ∃ q, q = (R1 * 4294967296 + V % 4294967296) % Y := ⟨_, rfl⟩
    rw [← hQ0e] at hQ0
    rw [← hQ0e, ← hR0e] at hd0
    rw [← hR0e] at hR0
    rw [← hQ0e]
    have e20 : IntKind.wrap .u64 (IntKind.wrap .u64 (IntKind.wrap .u64 ((R1 : Int) * 4294967296) + ((V % 4294967296 : Nat) : Int)) - IntKind.wrap .u64 ((Q0 : Int) * (Y : Int))) = ((R0 : Nat) : Int) := by
      rw [← Int.natCast_mul]; exact wrap_rem R1 _ _ R0 hd0.symm (by omega)
    have eq : IntKind.wrap .u64 (IntKind.wrap .u64 ((Q1 : Int) * 4294967296) + (Q0 : Int)) = ((Q1 * 4294967296 + Q0 : Nat) : Int) := by
      rw [show (Q1 : Int) * 4294967296 = ((Q1 * 4294967296 : Nat) : Int) from by omega, wrap_u64_nat _ (by omega), ← Int.natCast_add]; exact wrap_u64_nat _ (by omega)
    obtain ⟨f1, f2⟩ := div_final (hi * 18446744073709551616 + lo) y s Y U V Q1 R1 Q0 R0 hYY.symm (by omega) hN hd1.symm hd0.symm hR0
    rw [e20, eq, shr_u64 R0 s hs64, f1, f2]

end Go.Ev
end

section
/-
  FUNCTION 22: printed by a program of our own (wip/gen/st.py). 'masthead/mastheadref04.Low', in continuation form; the evaluator gives it.
-/
set_option linter.all false
set_option maxRecDepth 100000
namespace Go.Ev
open Go.Proofs
variable {A : Type}

-- ============================================================ low (function 22)
def low_p (g_trim : (List Int) → ((List Int) → Option A) → Option A) (n : Nat) (a0 : (List Int)) (k : (List Int) → Option A) : Option A :=
  bif (decide ((a0.length : Int) > 16)) then
    if 16 ≤ (a0.length : Int) then
      if (0 + ((a0.drop 0).take 16).length) * 8 ≤ 140737488355328 then
        g_trim ([] ++ ((a0.drop 0).take 16)) fun r1 =>
        k r1
      else none
    else none
  else
    if (0 + a0.length) * 8 ≤ 140737488355328 then
      g_trim ([] ++ a0) fun r2 =>
      k r2
    else none

def low_k (n : Nat) (a0 : (List Int)) (k : (List Int) → Option A) : Option A := low_p (trim_k n) n a0 k

noncomputable def low_E (g_trim : (List Int) → ((List Int) → Option A) → Option A) (n : Nat) : Env A := ⟨tys, gls, [(41, trim_ent g_trim)], [], []⟩
theorem low_T (g_trim : (List Int) → ((List Int) → Option A) → Option A) (n : Nat) : TyOK Tryd.prog (low_E g_trim n) := tyOK_of rfl tysB
theorem low_fns (n : Nat) : FnsOK Tryd.prog (low_E (A := A) (trim_k n) n) := AllOK.env rfl rfl (AllOK.cons (trim_ok n) AllOK.nil)
theorem low_eqg (g_trim : (List Int) → ((List Int) → Option A) → Option A) (n : Nat) (a0 : (List Int)) (k : AV → List Blk → Option A) : fnK (low_E g_trim n) Tryd.f22 [.pure] [.p (.sl (.int .i64)) a0] [] k = low_p g_trim n a0 (fun r0 => k (.p (.sl (.int .i64)) r0) []) := by kernel_rfl
theorem low_eq (n : Nat) (a0 : (List Int)) (k : AV → List Blk → Option A) : fnK (low_E (trim_k n) n) Tryd.f22 [.pure] [.p (.sl (.int .i64)) a0] [] k = low_k n a0 (fun r0 => k (.p (.sl (.int .i64)) r0) []) := low_eqg (trim_k n) n a0 k
def low_ent (g : (List Int) → ((List Int) → Option A) → Option A) : Entry A := pureE fun args k => args1 args (.sl (.int .i64)) fun a0 => g a0 (fun r0 => k (.p (.sl (.int .i64)) r0) [])
theorem low_lo (n : Nat) : ∀ c, Tryd.f22.body = some c → ∀ q ∈ loopsOf 0 c, ∀ L, (low_E (A := A) (trim_k n) n).lps.lookup q.1 = some L → LoopOK Tryd.prog gls q.2 L :=
  lo_body (E := low_E (trim_k n) n) (by kernel_rfl : Tryd.f22.body = some (bodyOf Tryd.f22)) (lo_of (E := low_E (trim_k n) n) (by kernel_rfl : loopsOf 0 (bodyOf Tryd.f22) = []) lo_nil)
theorem low_ok (n : Nat) : FnOK Tryd.prog gls 22 (low_ent (A := A) (low_k n)) :=
  FnOK.of (low_T (trim_k n) n) (low_fns n) follows ⟨Tryd.func22, by kernel_rfl⟩ (low_lo n) (rm := [.pure]) fun args k out h => by
    obtain ⟨a0, e, h1⟩ := args1_sound h
    subst e; rw [low_eq]; exact h1

end Go.Ev
end

section
/-
  FUNCTION 35: printed by a program of our own (wip/gen/st.py). 'masthead/mastheadref04.High', in continuation form; the evaluator gives it.
-/
set_option linter.all false
set_option maxRecDepth 100000
namespace Go.Ev
open Go.Proofs
variable {A : Type}

-- ============================================================ high (function 35)
def high_p (g_trim : (List Int) → ((List Int) → Option A) → Option A) (n : Nat) (a0 : (List Int)) (k : (List Int) → Option A) : Option A :=
  bif (decide ((a0.length : Int) ≤ 16)) then
    k []
  else
    if 16 ≤ (a0.length : Int) then
      if (0 + ((a0.drop 16).take (a0.length - 16)).length) * 8 ≤ 140737488355328 then
        g_trim ([] ++ ((a0.drop 16).take (a0.length - 16))) fun r1 =>
        k r1
      else none
    else none

def high_k (n : Nat) (a0 : (List Int)) (k : (List Int) → Option A) : Option A := high_p (trim_k n) n a0 k

noncomputable def high_E (g_trim : (List Int) → ((List Int) → Option A) → Option A) (n : Nat) : Env A := ⟨tys, gls, [(41, trim_ent g_trim)], [], []⟩
theorem high_T (g_trim : (List Int) → ((List Int) → Option A) → Option A) (n : Nat) : TyOK Tryd.prog (high_E g_trim n) := tyOK_of rfl tysB
theorem high_fns (n : Nat) : FnsOK Tryd.prog (high_E (A := A) (trim_k n) n) := AllOK.env rfl rfl (AllOK.cons (trim_ok n) AllOK.nil)
theorem high_eqg (g_trim : (List Int) → ((List Int) → Option A) → Option A) (n : Nat) (a0 : (List Int)) (k : AV → List Blk → Option A) : fnK (high_E g_trim n) Tryd.f35 [.pure] [.p (.sl (.int .i64)) a0] [] k = high_p g_trim n a0 (fun r0 => k (.p (.sl (.int .i64)) r0) []) := by kernel_rfl
theorem high_eq (n : Nat) (a0 : (List Int)) (k : AV → List Blk → Option A) : fnK (high_E (trim_k n) n) Tryd.f35 [.pure] [.p (.sl (.int .i64)) a0] [] k = high_k n a0 (fun r0 => k (.p (.sl (.int .i64)) r0) []) := high_eqg (trim_k n) n a0 k
def high_ent (g : (List Int) → ((List Int) → Option A) → Option A) : Entry A := pureE fun args k => args1 args (.sl (.int .i64)) fun a0 => g a0 (fun r0 => k (.p (.sl (.int .i64)) r0) [])
theorem high_lo (n : Nat) : ∀ c, Tryd.f35.body = some c → ∀ q ∈ loopsOf 0 c, ∀ L, (high_E (A := A) (trim_k n) n).lps.lookup q.1 = some L → LoopOK Tryd.prog gls q.2 L :=
  lo_body (E := high_E (trim_k n) n) (by kernel_rfl : Tryd.f35.body = some (bodyOf Tryd.f35)) (lo_of (E := high_E (trim_k n) n) (by kernel_rfl : loopsOf 0 (bodyOf Tryd.f35) = []) lo_nil)
theorem high_ok (n : Nat) : FnOK Tryd.prog gls 35 (high_ent (A := A) (high_k n)) :=
  FnOK.of (high_T (trim_k n) n) (high_fns n) follows ⟨Tryd.func35, by kernel_rfl⟩ (high_lo n) (rm := [.pure]) fun args k out h => by
    obtain ⟨a0, e, h1⟩ := args1_sound h
    subst e; rw [high_eq]; exact h1

end Go.Ev
end

section
/-
  FUNCTION 14: printed by a program of our own (wip/gen/st.py). 'masthead/mastheadref04.Is', in continuation form; the evaluator gives it.
-/
set_option linter.all false
set_option maxRecDepth 100000
namespace Go.Ev
open Go.Proofs
variable {A : Type}

-- ============================================================ is_ (function 14)
def is__p (g_mul : (List Int) → (List Int) → ((List Int) → Option A) → Option A) (g_add : (List Int) → (List Int) → ((List Int) → Option A) → Option A) (g_less : (List Int) → (List Int) → (Bool → Option A) → Option A) (n : Nat) (a0 : (List Int)) (a1 : (List Int)) (a2 : (List Int)) (a3 : (List Int)) (k : Bool → Option A) : Option A :=
  g_mul a0 a3 fun r1 =>
  g_add r1 a1 fun r2 =>
  g_less a1 a3 fun r3 =>
  bif r3 then
    g_less r2 a2 fun r4 =>
    bif (!r4) then
      g_less a2 r2 fun r5 =>
      k (!r5)
    else
      k false
  else
    k false

def is__k (n : Nat) (a0 : (List Int)) (a1 : (List Int)) (a2 : (List Int)) (a3 : (List Int)) (k : Bool → Option A) : Option A := is__p (mul_k n) (add_k n) (less_k n) n a0 a1 a2 a3 k

noncomputable def is__E (g_mul : (List Int) → (List Int) → ((List Int) → Option A) → Option A) (g_add : (List Int) → (List Int) → ((List Int) → Option A) → Option A) (g_less : (List Int) → (List Int) → (Bool → Option A) → Option A) (n : Nat) : Env A := ⟨tys, gls, [(23, mul_ent g_mul), (26, add_ent g_add), (25, less_ent g_less)], [], []⟩
theorem is__T (g_mul : (List Int) → (List Int) → ((List Int) → Option A) → Option A) (g_add : (List Int) → (List Int) → ((List Int) → Option A) → Option A) (g_less : (List Int) → (List Int) → (Bool → Option A) → Option A) (n : Nat) : TyOK Tryd.prog (is__E g_mul g_add g_less n) := tyOK_of rfl tysB
theorem is__fns (n : Nat) : FnsOK Tryd.prog (is__E (A := A) (mul_k n) (add_k n) (less_k n) n) := AllOK.env rfl rfl (AllOK.cons (mul_ok n) (AllOK.cons (add_ok n) (AllOK.cons (less_ok n) AllOK.nil)))
theorem is__eqg (g_mul : (List Int) → (List Int) → ((List Int) → Option A) → Option A) (g_add : (List Int) → (List Int) → ((List Int) → Option A) → Option A) (g_less : (List Int) → (List Int) → (Bool → Option A) → Option A) (n : Nat) (a0 : (List Int)) (a1 : (List Int)) (a2 : (List Int)) (a3 : (List Int)) (k : AV → List Blk → Option A) : fnK (is__E g_mul g_add g_less n) Tryd.f14 [.pure] [.p (.sl (.int .i64)) a0, .p (.sl (.int .i64)) a1, .p (.sl (.int .i64)) a2, .p (.sl (.int .i64)) a3] [] k = is__p g_mul g_add g_less n a0 a1 a2 a3 (fun r0 => k (.p .bool r0) []) := by kernel_rfl
theorem is__eq (n : Nat) (a0 : (List Int)) (a1 : (List Int)) (a2 : (List Int)) (a3 : (List Int)) (k : AV → List Blk → Option A) : fnK (is__E (mul_k n) (add_k n) (less_k n) n) Tryd.f14 [.pure] [.p (.sl (.int .i64)) a0, .p (.sl (.int .i64)) a1, .p (.sl (.int .i64)) a2, .p (.sl (.int .i64)) a3] [] k = is__k n a0 a1 a2 a3 (fun r0 => k (.p .bool r0) []) := is__eqg (mul_k n) (add_k n) (less_k n) n a0 a1 a2 a3 k
def is__ent (g : (List Int) → (List Int) → (List Int) → (List Int) → (Bool → Option A) → Option A) : Entry A := pureE fun args k => args4 args (.sl (.int .i64)) (.sl (.int .i64)) (.sl (.int .i64)) (.sl (.int .i64)) fun a0 a1 a2 a3 => g a0 a1 a2 a3 (fun r0 => k (.p .bool r0) [])
theorem is__lo (n : Nat) : ∀ c, Tryd.f14.body = some c → ∀ q ∈ loopsOf 0 c, ∀ L, (is__E (A := A) (mul_k n) (add_k n) (less_k n) n).lps.lookup q.1 = some L → LoopOK Tryd.prog gls q.2 L :=
  lo_body (E := is__E (mul_k n) (add_k n) (less_k n) n) (by kernel_rfl : Tryd.f14.body = some (bodyOf Tryd.f14)) (lo_of (E := is__E (mul_k n) (add_k n) (less_k n) n) (by kernel_rfl : loopsOf 0 (bodyOf Tryd.f14) = []) lo_nil)
theorem is__ok (n : Nat) : FnOK Tryd.prog gls 14 (is__ent (A := A) (is__k n)) :=
  FnOK.of (is__T (mul_k n) (add_k n) (less_k n) n) (is__fns n) follows ⟨Tryd.func14, by kernel_rfl⟩ (is__lo n) (rm := [.pure]) fun args k out h => by
    obtain ⟨a0, a1, a2, a3, e, h1⟩ := args4_sound h
    subst e; rw [is__eq]; exact h1

end Go.Ev
end

section
/-
  FUNCTION 20: printed by a program of our own (wip/gen/st.py). 'masthead/mastheadlaw04.is', in continuation form; the evaluator gives it.
-/
set_option linter.all false
set_option maxRecDepth 100000
namespace Go.Ev
open Go.Proofs
variable {A : Type}

-- ============================================================ uis (function 20)
def uis_p (g_words : (List Int) → ((List Int) → Option A) → Option A) (n : Nat) (a0 : (List Int)) (a1 : (List Int)) (k : Bool → Option A) : Option A :=
  g_words a1 fun r1 =>
  bif (deq kA4u64 a0 r1) then
    k (decide ((a1.length : Int) ≤ 16))
  else
    k false

def uis_k (n : Nat) (a0 : (List Int)) (a1 : (List Int)) (k : Bool → Option A) : Option A := uis_p (words_k n) n a0 a1 k

noncomputable def uis_E (g_words : (List Int) → ((List Int) → Option A) → Option A) (n : Nat) : Env A := ⟨tys, gls, [(34, words_ent g_words)], [], []⟩
theorem uis_T (g_words : (List Int) → ((List Int) → Option A) → Option A) (n : Nat) : TyOK Tryd.prog (uis_E g_words n) := tyOK_of rfl tysB
theorem uis_fns (n : Nat) : FnsOK Tryd.prog (uis_E (A := A) (words_k n) n) := AllOK.env rfl rfl (AllOK.cons (words_ok n) AllOK.nil)
theorem uis_eqg (g_words : (List Int) → ((List Int) → Option A) → Option A) (n : Nat) (a0 : (List Int)) (a1 : (List Int)) (k : AV → List Blk → Option A) : fnK (uis_E g_words n) Tryd.f20 [.pure] [.p kA4u64 a0, .p (.sl (.int .i64)) a1] [] k = uis_p g_words n a0 a1 (fun r0 => k (.p .bool r0) []) := by kernel_rfl
theorem uis_eq (n : Nat) (a0 : (List Int)) (a1 : (List Int)) (k : AV → List Blk → Option A) : fnK (uis_E (words_k n) n) Tryd.f20 [.pure] [.p kA4u64 a0, .p (.sl (.int .i64)) a1] [] k = uis_k n a0 a1 (fun r0 => k (.p .bool r0) []) := uis_eqg (words_k n) n a0 a1 k
def uis_ent (g : (List Int) → (List Int) → (Bool → Option A) → Option A) : Entry A := pureE fun args k => args2 args kA4u64 (.sl (.int .i64)) fun a0 a1 => g a0 a1 (fun r0 => k (.p .bool r0) [])
theorem uis_lo (n : Nat) : ∀ c, Tryd.f20.body = some c → ∀ q ∈ loopsOf 0 c, ∀ L, (uis_E (A := A) (words_k n) n).lps.lookup q.1 = some L → LoopOK Tryd.prog gls q.2 L :=
  lo_body (E := uis_E (words_k n) n) (by kernel_rfl : Tryd.f20.body = some (bodyOf Tryd.f20)) (lo_of (E := uis_E (words_k n) n) (by kernel_rfl : loopsOf 0 (bodyOf Tryd.f20) = []) lo_nil)
theorem uis_ok (n : Nat) : FnOK Tryd.prog gls 20 (uis_ent (A := A) (uis_k n)) :=
  FnOK.of (uis_T (words_k n) n) (uis_fns n) follows ⟨Tryd.func20, by kernel_rfl⟩ (uis_lo n) (rm := [.pure]) fun args k out h => by
    obtain ⟨a0, a1, e, h1⟩ := args2_sound h
    subst e; rw [uis_eq]; exact h1

end Go.Ev
end

section
/-
  FUNCTION 30: printed by a program of our own (wip/gen/st.py). 'masthead/mastheadlaw04.mastheadless', in continuation form; the evaluator gives it.
-/
set_option linter.all false
set_option maxRecDepth 100000
namespace Go.Ev
open Go.Proofs
variable {A : Type}

-- ============================================================ mless (function 30)
def mless_p (g_big : (List Int) → ((List Int) → Option A) → Option A) (g_add : (List Int) → (List Int) → ((List Int) → Option A) → Option A) (g_low : (List Int) → ((List Int) → Option A) → Option A) (g_words : (List Int) → ((List Int) → Option A) → Option A) (n : Nat) (a0 : (List Int)) (a1 : (List Int)) (k : (List Int) → Option A) : Option A :=
  g_big a0 fun r1 =>
  g_big a1 fun r2 =>
  g_add r1 r2 fun r3 =>
  g_low r3 fun r4 =>
  g_words r4 fun r5 =>
  k r5

def mless_k (n : Nat) (a0 : (List Int)) (a1 : (List Int)) (k : (List Int) → Option A) : Option A := mless_p (big_k n) (add_k n) (low_k n) (words_k n) n a0 a1 k

noncomputable def mless_E (g_big : (List Int) → ((List Int) → Option A) → Option A) (g_add : (List Int) → (List Int) → ((List Int) → Option A) → Option A) (g_low : (List Int) → ((List Int) → Option A) → Option A) (g_words : (List Int) → ((List Int) → Option A) → Option A) (n : Nat) : Env A := ⟨tys, gls, [(15, big_ent g_big), (26, add_ent g_add), (22, low_ent g_low), (34, words_ent g_words)], [], []⟩
theorem mless_T (g_big : (List Int) → ((List Int) → Option A) → Option A) (g_add : (List Int) → (List Int) → ((List Int) → Option A) → Option A) (g_low : (List Int) → ((List Int) → Option A) → Option A) (g_words : (List Int) → ((List Int) → Option A) → Option A) (n : Nat) : TyOK Tryd.prog (mless_E g_big g_add g_low g_words n) := tyOK_of rfl tysB
theorem mless_fns (n : Nat) : FnsOK Tryd.prog (mless_E (A := A) (big_k n) (add_k n) (low_k n) (words_k n) n) := AllOK.env rfl rfl (AllOK.cons (big_ok n) (AllOK.cons (add_ok n) (AllOK.cons (low_ok n) (AllOK.cons (words_ok n) AllOK.nil))))
theorem mless_eqg (g_big : (List Int) → ((List Int) → Option A) → Option A) (g_add : (List Int) → (List Int) → ((List Int) → Option A) → Option A) (g_low : (List Int) → ((List Int) → Option A) → Option A) (g_words : (List Int) → ((List Int) → Option A) → Option A) (n : Nat) (a0 : (List Int)) (a1 : (List Int)) (k : AV → List Blk → Option A) : fnK (mless_E g_big g_add g_low g_words n) Tryd.f30 [.pure] [.p kA4u64 a0, .p kA4u64 a1] [] k = mless_p g_big g_add g_low g_words n a0 a1 (fun r0 => k (.p kA4u64 r0) []) := by kernel_rfl
theorem mless_eq (n : Nat) (a0 : (List Int)) (a1 : (List Int)) (k : AV → List Blk → Option A) : fnK (mless_E (big_k n) (add_k n) (low_k n) (words_k n) n) Tryd.f30 [.pure] [.p kA4u64 a0, .p kA4u64 a1] [] k = mless_k n a0 a1 (fun r0 => k (.p kA4u64 r0) []) := mless_eqg (big_k n) (add_k n) (low_k n) (words_k n) n a0 a1 k
def mless_ent (g : (List Int) → (List Int) → ((List Int) → Option A) → Option A) : Entry A := pureE fun args k => args2 args kA4u64 kA4u64 fun a0 a1 => g a0 a1 (fun r0 => k (.p kA4u64 r0) [])
theorem mless_lo (n : Nat) : ∀ c, Tryd.f30.body = some c → ∀ q ∈ loopsOf 0 c, ∀ L, (mless_E (A := A) (big_k n) (add_k n) (low_k n) (words_k n) n).lps.lookup q.1 = some L → LoopOK Tryd.prog gls q.2 L :=
  lo_body (E := mless_E (big_k n) (add_k n) (low_k n) (words_k n) n) (by kernel_rfl : Tryd.f30.body = some (bodyOf Tryd.f30)) (lo_of (E := mless_E (big_k n) (add_k n) (low_k n) (words_k n) n) (by kernel_rfl : loopsOf 0 (bodyOf Tryd.f30) = []) lo_nil)
theorem mless_ok (n : Nat) : FnOK Tryd.prog gls 30 (mless_ent (A := A) (mless_k n)) :=
  FnOK.of (mless_T (big_k n) (add_k n) (low_k n) (words_k n) n) (mless_fns n) follows ⟨Tryd.func30, by kernel_rfl⟩ (mless_lo n) (rm := [.pure]) fun args k out h => by
    obtain ⟨a0, a1, e, h1⟩ := args2_sound h
    subst e; rw [mless_eq]; exact h1

end Go.Ev
end

section
/-
  WIDE: plain laws of what the reference and the program compute.
-/
set_option linter.all false
namespace Go.Ev
variable {A : Type}

theorem p256 : (65536 : Nat) ^ 16 = 2 ^ 256 := by decide

theorem take16 (x : Nat) (h : 16 ≤ (dig x).length) : bval ((dig x).take 16) = x % 2 ^ 256 ∧ bval ((dig x).drop 16) = x / 2 ^ 256 := by
  have h1 := bval_split (dig x) 16 h
  have h2 := bval_lt ((dig x).take 16) ((dig_Dig x).take 16)
  rw [List.length_take, Nat.min_eq_left h, p256] at h2
  rw [bval_dig, p256] at h1
  generalize bval ((dig x).take 16) = a at *
  generalize bval ((dig x).drop 16) = b at *
  constructor
  · rw [h1, Nat.add_mul_mod_self_left, Nat.mod_eq_of_lt h2]
  · rw [h1, Nat.add_mul_div_left _ _ (Nat.two_pow_pos 256), Nat.div_eq_of_lt h2, Nat.zero_add]

theorem small_of_len {x : Nat} (h : (dig x).length ≤ 16) : x < 2 ^ 256 := Nat.lt_of_lt_of_le (dig_bound x) (Nat.pow_le_pow_right (by decide) (by omega))
theorem len16 (x : Nat) : ((dig x).length > 16) ↔ 2 ^ 256 ≤ x := by
  constructor
  · intro h
    rcases Nat.lt_or_ge x (2 ^ 256) with h2 | h2
    · have := dig_len256 x h2; omega
    · exact h2
  · intro h
    rcases Nat.lt_or_ge 16 (dig x).length with h2 | h2
    · exact h2
    · have := small_of_len h2; omega

theorem low_law (n x : Nat) (hl : (dig x).length < 1000) (hn : 1000 ≤ n) (g : List Int → Option A) : low_k n (ints (dig x)) g = g (ints (dig (x % 2 ^ 256))) := by
  unfold low_k low_p
  rw [ints_length]
  by_cases h : (dig x).length > 16
  · have hlen : ((dig x).take 16).length = 16 := by rw [List.length_take]; omega
    rw [decide_eq_true (by omega), cond_true, if_pos (by omega), List.drop_zero, ints_take, ints_length, if_pos (by omega), List.nil_append, trim_law n _ ((dig_Dig x).take 16) (by omega) (by omega), (take16 x (by omega)).1]
  · rw [decide_eq_false (by omega), cond_false, if_pos (by omega), List.nil_append, trim_law n _ (dig_Dig x) (by omega) (by omega), bval_dig, Nat.mod_eq_of_lt (small_of_len (by omega))]
theorem high_law (n x : Nat) (hl : (dig x).length < 1000) (hn : 1000 ≤ n) (g : List Int → Option A) : high_k n (ints (dig x)) g = g (ints (dig (x / 2 ^ 256))) := by
  unfold high_k high_p
  rw [ints_length]
  by_cases h : (dig x).length > 16
  · have hlen : ((dig x).drop 16).length = (dig x).length - 16 := List.length_drop
    rw [decide_eq_false (by omega), cond_false, if_pos (by omega), ints_drop, List.take_of_length_le (by rw [ints_length]; omega), ints_length, if_pos (by omega), List.nil_append, trim_law n _ ((dig_Dig x).drop 16) (by omega) (by omega), (take16 x (by omega)).2]
  · rw [decide_eq_true (by omega), cond_true, Nat.div_eq_of_lt (small_of_len (by omega)), dig_zero]; rfl

theorem is_law (n q r N d : Nat) (hn : 1000 ≤ n) (hq : (dig q).length ≤ 100) (hr : (dig r).length ≤ 100) (hd : (dig d).length ≤ 100) (hqd : (dig (q * d)).length ≤ 100) (hN : (dig N).length ≤ 100) (h1 : r < d) (h2 : q * d + r = N) (g : Bool → Option A) :
    is__k n (ints (dig q)) (ints (dig r)) (ints (dig N)) (ints (dig d)) g = g true := by
  unfold is__k is__p
  rw [mul_law n q d (by omega) (by omega), add_law n _ r (by omega) (by omega), h2, less_law n r d (by omega) (by omega), decide_eq_true h1, cond_true, less_law n N N (by omega) (by omega), decide_eq_false (Nat.lt_irrefl N), Bool.not_false, cond_true, less_law n N N (by omega) (by omega), decide_eq_false (Nat.lt_irrefl N), Bool.not_false]

theorem uis_true (n x : Nat) (hx : x < 2 ^ 256) (hn : 1000 ≤ n) (g : Bool → Option A) : uis_k n (ints (uw x)) (ints (dig x)) g = g true := by
  unfold uis_k uis_p
  have := dig_len256 x hx
  rw [words_law n x (by omega) (by omega), deq_self, cond_true, ints_length, decide_eq_true (by omega)]

theorem dig_len_add (x y a m : Nat) (ha : a + 1 < 16 * m) (hx : x ≤ 2 ^ a) (hy : y ≤ 2 ^ a) : (dig (x + y)).length ≤ m :=
  dig_len_gen (x + y) (a + 1) m ha (by rw [Nat.pow_succ]; omega)
theorem len_sum {x y : Nat} (hx : x < 2 ^ 256) (hy : y < 2 ^ 256) : (dig (x + y)).length ≤ 17 := dig_len_add x y 256 17 (by decide) (by omega) (by omega)

theorem mless_law (n x y : Nat) (hx : x < 2 ^ 256) (hy : y < 2 ^ 256) (hn : 1000 ≤ n) (g : List Int → Option A) : mless_k n (ints (uw x)) (ints (uw y)) g = g (ints (uw ((x + y) % 2 ^ 256))) := by
  unfold mless_k mless_p
  have l1 := dig_len256 x hx
  have l2 := dig_len256 y hy
  have l3 := len_sum hx hy
  have l4 := dig_len256 ((x + y) % 2 ^ 256) (Nat.mod_lt _ (Nat.two_pow_pos _))
  rw [big_law n (by omega) x hx, big_law n (by omega) y hy, add_law n x y (by omega) (by omega), low_law n _ (by omega) hn, words_law n _ (by omega) (by omega)]

end Go.Ev
end

