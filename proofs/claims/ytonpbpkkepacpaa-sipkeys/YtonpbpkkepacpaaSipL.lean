/-
  LAYER 3: plain laws of the printed functions: turns, rounds, products.
-/
import Derived.Test.YtonpbpkkepacpaaFvLib
import Derived.Test.YtonpbpkkepacpaaFvZA
import Derived.Test.YtonpbpkkepacpaaSipF12
import Derived.Test.YtonpbpkkepacpaaSipF11
import Derived.Test.YtonpbpkkepacpaaSipF13
import Derived.Test.YtonpbpkkepacpaaSipF14
set_option linter.all false
namespace Go.Ev
variable {A : Type}

/-- Turned to the left by some places. -/
def rotN (x k : Nat) : Nat := x % 2 ^ (64 - k) * 2 ^ k + x / 2 ^ (64 - k)

theorem pow_split (k : Nat) (hk : k ≤ 64) : 2 ^ (64 - k) * 2 ^ k = 18446744073709551616 := by
  rw [← Nat.pow_add, Nat.sub_add_cancel hk]

theorem div_lt_pow {x k : Nat} (hx : x < 18446744073709551616) (hk : k ≤ 64) : x / 2 ^ (64 - k) < 2 ^ k := by
  rw [Nat.div_lt_iff_lt_mul (Nat.two_pow_pos _), Nat.mul_comm, pow_split k hk]; exact hx

theorem rotN_lt {x k : Nat} (hx : x < 18446744073709551616) (hk : k ≤ 64) : rotN x k < 18446744073709551616 := by
  unfold rotN
  have h1 := div_lt_pow hx hk
  have h2 : x % 2 ^ (64 - k) + 1 ≤ 2 ^ (64 - k) := Nat.mod_lt _ (Nat.two_pow_pos _)
  have h3 := Nat.mul_le_mul_right (2 ^ k) h2
  rw [pow_split k hk, Nat.add_mul, Nat.one_mul] at h3
  omega

theorem left64_law (n x k : Nat) (hx : x < 18446744073709551616) (hk : k < 64) (g : Int → Option A) : left64_k n (x : Int) (k : Int) g = g ((rotN x k : Nat) : Int) := by
  unfold left64_k left64_p
  have e1 : IntKind.wrap .u64 (k : Int) = (k : Int) := wrap_u64_nat k (by omega)
  have e2 : Int.tmod (k : Int) 64 = (k : Int) := by rw [show (64 : Int) = ((64 : Nat) : Int) from rfl, tmod_nat, Nat.mod_eq_of_lt hk]
  have e3 : IntKind.wrap .u64 (64 - (k : Int)) = ((64 - k : Nat) : Int) := by rw [show (64 : Int) - (k : Int) = ((64 - k : Nat) : Int) by omega]; exact wrap_u64_nat _ (by omega)
  rw [e1, e2, e3, if_neg (by omega), if_neg (by omega), shl_u64 x k (by omega), shr_u64 x (64 - k) (by omega)]
  have e4 : x * 2 ^ k % 18446744073709551616 = x % 2 ^ (64 - k) * 2 ^ k := by rw [← pow_split k (by omega), Nat.mul_mod_mul_right]
  have h1 := div_lt_pow hx (show k ≤ 64 by omega)
  have h2 := rotN_lt hx (show k ≤ 64 by omega)
  unfold rotN at h2
  rw [e4, ior_u64 _ _ (by omega) (by omega), or_parts _ _ _ h1]
  rfl

theorem rot_step {x i : Nat} (hx : x < 18446744073709551616) (hi : i < 63) : rotN x i % 9223372036854775808 * 2 + rotN x i / 9223372036854775808 = rotN x (i + 1) := by
  unfold rotN
  have hM : 2 ^ (64 - i) = 2 ^ (64 - (i + 1)) * 2 := by rw [← Nat.pow_succ]; congr 1; omega
  have hMP : 2 ^ (64 - (i + 1)) * 2 ^ i = 9223372036854775808 := by rw [← Nat.pow_add, show 64 - (i + 1) + i = 63 by omega]
  have hP : 2 ^ (i + 1) = 2 ^ i * 2 := Nat.pow_succ ..
  have hMpos : 0 < 2 ^ (64 - (i + 1)) := Nat.two_pow_pos _
  have hap := div_lt_pow hx (show i ≤ 64 by omega)
  generalize 2 ^ (64 - (i + 1)) = M at hM hMP hMpos
  generalize 2 ^ i = P at hMP hP hap
  rw [hM] at hap
  rw [hM, hP]
  generalize ha : x / (M * 2) = a at hap
  have hb : x % (M * 2) / M < 2 := by rw [Nat.div_lt_iff_lt_mul hMpos, Nat.mul_comm]; exact Nat.mod_lt _ (by omega)
  have hr : x % (M * 2) = x % (M * 2) / M * M + x % (M * 2) % M := (Nat.div_add_mod' _ _).symm
  have hl : x % (M * 2) % M = x % M := Nat.mod_mul_right_mod _ _ _
  have hd : x / M = 2 * a + x % (M * 2) / M := by
    have h1 : x / M / 2 = a := by rw [Nat.div_div_eq_div_mul, ha]
    have h2 : x % (M * 2) / M = x / M % 2 := Nat.mod_mul_right_div_self _ _ _
    rw [h2]; omega
  rw [hd]
  rw [hl] at hr
  have hlt : x % M < M := Nat.mod_lt _ hMpos
  generalize x % (M * 2) / M = b at hb hr
  generalize x % M = l at hlt hr
  rw [hr]
  have h1 : (b * M + l) * P = b * 9223372036854775808 + l * P := by rw [Nat.add_mul, Nat.mul_assoc, hMP]
  have h2 : (l + 1) * P ≤ M * P := Nat.mul_le_mul_right _ hlt
  rw [hMP, Nat.add_mul, Nat.one_mul] at h2
  have h3 : l * (P * 2) = l * P * 2 := by rw [Nat.mul_assoc]
  rw [h1, h3]
  generalize l * P = q at h2
  omega

theorem rleft1_top (n : Nat) (x k_ t6 : Int) (k0 : Int → Int → Option A) : ∀ (d f i : Nat), i + d = 63 → d < f → rleft1_l0 n x 64 k_ t6 k0 f ((2 ^ i : Nat) : Int) ((i + 1 : Nat) : Int) = k0 9223372036854775808 64
  | _, 0, _, _, h => by omega
  | 0, f + 1, i, hi, _ => by
    have : i = 63 := by omega
    subst this
    simp only [rleft1_l0, rleft1_b0]
    rfl
  | d + 1, f + 1, i, hi, hf => by
    simp only [rleft1_l0, rleft1_b0]
    have e : decide (((i + 1 : Nat) : Int) < 64) = true := by simp; omega
    have hp : 2 ^ (i + 1) ≤ 2 ^ 63 := Nat.pow_le_pow_right (by decide) (by omega)
    have e1 : IntKind.wrap .u64 (((2 ^ i : Nat) : Int) * 2) = ((2 ^ (i + 1) : Nat) : Int) := by
      rw [show ((2 ^ i : Nat) : Int) * 2 = ((2 ^ (i + 1) : Nat) : Int) by rw [Nat.pow_succ]; omega]
      exact wrap_u64_nat _ (by omega)
    have e2 : IntKind.wrap .i64 (((i + 1 : Nat) : Int) + 1) = ((i + 1 + 1 : Nat) : Int) := by rw [wrap_id (by omega) (by omega)]; omega
    rw [e, cond_true, e1, e2]
    exact rleft1_top n x k_ t6 k0 d f (i + 1) (by omega) (by omega)

theorem rleft1_turn (n : Nat) (x k : Nat) (hx : x < 18446744073709551616) (hk : k < 64) (t6 : Int) (k0 : Int → Int → Option A) : ∀ (d f i : Nat), i + d = k → d < f → rleft1_l1 n (k : Int) t6 9223372036854775808 k0 f ((rotN x i : Nat) : Int) (i : Int) = k0 ((rotN x k : Nat) : Int) (k : Int)
  | _, 0, _, _, h => by omega
  | 0, f + 1, i, hi, _ => by
    have : i = k := by omega
    subst this
    simp only [rleft1_l1, rleft1_b1]
    have e : decide ((i : Int) < (i : Int)) = false := by simp
    rw [e, cond_false]
  | d + 1, f + 1, i, hi, hf => by
    simp only [rleft1_l1, rleft1_b1]
    have e : decide ((i : Int) < (k : Int)) = true := by simp; omega
    rw [e, cond_true, if_neg (by decide), if_neg (by decide)]
    have hs := rot_step hx (show i < 63 by omega)
    have hlt := rotN_lt hx (show i ≤ 64 by omega)
    have hlt2 := rotN_lt hx (show i + 1 ≤ 64 by omega)
    have e1 : IntKind.wrap .u64 ((IntKind.wrap .u64 ((Int.tmod ((rotN x i : Nat) : Int) 9223372036854775808) * 2)) + (IntKind.wrap .u64 (Int.tdiv ((rotN x i : Nat) : Int) 9223372036854775808))) = ((rotN x (i + 1) : Nat) : Int) := by
      rw [show (9223372036854775808 : Int) = ((9223372036854775808 : Nat) : Int) from rfl, tmod_nat, tdiv_nat, wrap_u64, wrap_u64, wrap_u64, ← hs]
      omega
    have e2 : IntKind.wrap .i64 ((i : Int) + 1) = ((i + 1 : Nat) : Int) := by rw [wrap_id (by omega) (by omega)]; omega
    rw [e1, e2]
    exact rleft1_turn n x k hx hk t6 k0 d f (i + 1) (by omega) (by omega)

theorem rleft_law (n x k : Nat) (hn : 100 < n) (hx : x < 18446744073709551616) (hk : k < 64) (g : Int → Option A) : rleft_k n (x : Int) (k : Int) g = g ((rotN x k : Nat) : Int) := by
  unfold rleft_k rleft_p rleft1_k rleft1_p
  have e2 : Int.tmod (k : Int) 64 = (k : Int) := by rw [show (64 : Int) = ((64 : Nat) : Int) from rfl, tmod_nat, Nat.mod_eq_of_lt hk]
  have e3 : decide ((k : Int) < 0) = false := by simp
  rw [if_neg (by decide), e2, e3, cond_false]
  have h0 : rotN x 0 = x := by unfold rotN; simp [Nat.mod_eq_of_lt hx, Nat.div_eq_of_lt hx]
  have h1 := rleft1_top n (x : Int) (k : Int) 0 (fun y5 y6 => rleft1_l1 n (k : Int) 0 y5 (fun y7 y8 => g y7) n (x : Int) 0) 63 n 0 (by omega) (by omega)
  have h2 := rleft1_turn n x k hx hk 0 (fun y7 y8 => g y7) k n 0 (by omega) (by omega)
  rw [h0] at h2
  exact Eq.trans h1 h2

/-- Four words. -/
def OK4 (v : List Int) : Prop := v.length = 4 ∧ ∀ x ∈ v, U64 x

theorem OK4.four {v : List Int} (h : OK4 v) : ∃ a b c d : Nat, v = [(a : Int), (b : Int), (c : Int), (d : Int)] ∧ a < 18446744073709551616 ∧ b < 18446744073709551616 ∧ c < 18446744073709551616 ∧ d < 18446744073709551616 := by
  obtain ⟨hl, hu⟩ := h
  match v, hl with
  | [x, y, z, w], _ =>
    obtain ⟨a, rfl, ha⟩ := (hu x (by simp)).nat
    obtain ⟨b, rfl, hb⟩ := (hu y (by simp)).nat
    obtain ⟨c, rfl, hc⟩ := (hu z (by simp)).nat
    obtain ⟨d, rfl, hd⟩ := (hu w (by simp)).nat
    exact ⟨a, b, c, d, rfl, ha, hb, hc, hd⟩

/-- Whatever is turned: both turns are one. -/
theorem turn_eq (n : Nat) (hn : 100 < n) (x : Int) (k : Nat) (hx : U64 x) (hk : k < 64) (g h : Int → Option A) (he : ∀ y, U64 y → g y = h y) : left64_k n x (k : Int) g = rleft_k n x (k : Int) h := by
  obtain ⟨a, rfl, ha⟩ := hx.nat
  rw [left64_law n a k ha hk, rleft_law n a k hn ha hk]
  exact he _ (U64.of_nat (rotN_lt ha (by omega)))

theorem round_both (n : Nat) (hn : 100 < n) (v : List Int) (hv : OK4 v) (g h : List Int → Option A) (he : ∀ w, OK4 w → g w = h w) : round_k n v g = rround_k n v h := by
  obtain ⟨a, b, c, d, rfl, ha, hb, hc, hd⟩ := hv.four
  unfold round_k round_p rround_k rround_p
  simp only [List.getElem?_cons_zero, List.getElem?_cons_succ, Option.bind_some]
  refine turn_eq n hn _ 13 (.of_nat hb) (by decide) _ _ fun y1 h1 => ?_
  refine turn_eq n hn _ 32 (.wrap _) (by decide) _ _ fun y2 h2 => ?_
  refine turn_eq n hn _ 16 (.of_nat hd) (by decide) _ _ fun y3 h3 => ?_
  refine turn_eq n hn _ 21 (.xor h3 (.wrap _)) (by decide) _ _ fun y4 h4 => ?_
  refine turn_eq n hn _ 17 (.xor h1 (.wrap _)) (by decide) _ _ fun y5 h5 => ?_
  refine turn_eq n hn _ 32 (.wrap _) (by decide) _ _ fun y6 h6 => ?_
  refine he _ ⟨rfl, fun x hx => ?_⟩
  simp only [List.mem_cons, List.not_mem_nil, or_false] at hx
  rcases hx with rfl | rfl | rfl | rfl
  · exact .wrap _
  · exact .xor h5 (.wrap _)
  · exact h6
  · exact .xor h4 (.wrap _)

/-- A round, as a value. -/
theorem rround_value (n : Nat) (hn : 100 < n) (v : List Int) (hv : OK4 v) : ∃ w, OK4 w ∧ ∀ (A : Type) (g : List Int → Option A), rround_k n v g = g w ∧ round_k n v g = g w := by
  obtain ⟨a, b, c, d, rfl, ha, hb, hc, hd⟩ := hv.four
  have T : ∀ (x : Int) (k : Nat), U64 x → k < 64 → ∃ y, U64 y ∧ ∀ (A : Type) (g : Int → Option A), left64_k n x (k : Int) g = g y ∧ rleft_k n x (k : Int) g = g y := fun x k hx hk => by
    obtain ⟨a, rfl, ha⟩ := hx.nat
    exact ⟨_, U64.of_nat (rotN_lt ha (show k ≤ 64 by omega)), fun A g => ⟨left64_law n a k ha hk g, rleft_law n a k hn ha hk g⟩⟩
  obtain ⟨y1, h1, g1⟩ := T _ 13 (.of_nat hb) (by decide)
  obtain ⟨y2, h2, g2⟩ := T (IntKind.wrap .u64 ((a : Int) + (b : Int))) 32 (.wrap _) (by decide)
  obtain ⟨y3, h3, g3⟩ := T _ 16 (.of_nat hd) (by decide)
  obtain ⟨y4, h4, g4⟩ := T _ 21 (.xor h3 (.wrap ((c : Int) + (d : Int)))) (by decide)
  obtain ⟨y5, h5, g5⟩ := T _ 17 (.xor h1 (.wrap ((a : Int) + (b : Int)))) (by decide)
  obtain ⟨y6, h6, g6⟩ := T (IntKind.wrap .u64 ((IntKind.wrap .u64 ((c : Int) + (d : Int))) + (ixor .u64 y1 (IntKind.wrap .u64 ((a : Int) + (b : Int)))))) 32 (.wrap _) (by decide)
  refine ⟨[(IntKind.wrap .u64 (y2 + (ixor .u64 y3 (IntKind.wrap .u64 ((c : Int) + (d : Int)))))), (ixor .u64 y5 (IntKind.wrap .u64 ((IntKind.wrap .u64 ((c : Int) + (d : Int))) + (ixor .u64 y1 (IntKind.wrap .u64 ((a : Int) + (b : Int))))))), y6, (ixor .u64 y4 (IntKind.wrap .u64 (y2 + (ixor .u64 y3 (IntKind.wrap .u64 ((c : Int) + (d : Int)))))))], ⟨rfl, fun x hx => ?_⟩, fun A g => ⟨?_, ?_⟩⟩
  · simp only [List.mem_cons, List.not_mem_nil, or_false] at hx
    rcases hx with rfl | rfl | rfl | rfl
    · exact .wrap _
    · exact .xor h5 (.wrap _)
    · exact h6
    · exact .xor h4 (.wrap _)
  · unfold rround_k rround_p
    simp only [List.getElem?_cons_zero, List.getElem?_cons_succ, Option.bind_some]
    exact (g1 A _).2.trans ((g2 A _).2.trans ((g3 A _).2.trans ((g4 A _).2.trans ((g5 A _).2.trans (g6 A _).2))))
  · unfold round_k round_p
    simp only [List.getElem?_cons_zero, List.getElem?_cons_succ, Option.bind_some]
    exact (g1 A _).1.trans ((g2 A _).1.trans ((g3 A _).1.trans ((g4 A _).1.trans ((g5 A _).1.trans (g6 A _).1))))

-- ------------------------------------------------------------ products

theorem hi_parts (P Q R S : Nat) : (P * 18446744073709551616 + (Q + R) * 4294967296 + S) / 18446744073709551616 = P + (Q + S / 4294967296) / 4294967296 + ((Q + S / 4294967296) % 4294967296 + R) / 4294967296 := by omega
theorem prod_parts (x1 x0 y1 y0 : Nat) : (x1 * 4294967296 + x0) * (y1 * 4294967296 + y0) = x1 * y1 * 18446744073709551616 + (x1 * y0 + x0 * y1) * 4294967296 + x0 * y0 := by
  rw [Nat.add_mul, Nat.mul_add, Nat.mul_add, Nat.add_mul]
  have e1 : x1 * 4294967296 * (y1 * 4294967296) = x1 * y1 * 18446744073709551616 := by
    rw [Nat.mul_assoc, Nat.mul_left_comm 4294967296 y1, ← Nat.mul_assoc]
  have e2 : x1 * 4294967296 * y0 = x1 * y0 * 4294967296 := by rw [Nat.mul_assoc, Nat.mul_comm 4294967296, ← Nat.mul_assoc]
  have e3 : x0 * (y1 * 4294967296) = x0 * y1 * 4294967296 := by rw [Nat.mul_assoc]
  rw [e1, e2, e3]; omega
theorem mul_lt32 {a b : Nat} (ha : a < 4294967296) (hb : b < 4294967296) : a * b ≤ 18446744065119617025 := by
  have := Nat.mul_le_mul (show a ≤ 4294967295 by omega) (show b ≤ 4294967295 by omega)
  omega

theorem shr32 (x : Nat) : shr .u64 (x : Int) 32 = ((x / 4294967296 : Nat) : Int) := shr_u64 x 32 (by decide)
theorem and32 (x : Nat) (hx : x < 18446744073709551616) : iand .u64 (x : Int) 4294967295 = ((x % 4294967296 : Nat) : Int) := by
  rw [show (4294967295 : Int) = ((4294967295 : Nat) : Int) from rfl, iand_u64 x _ hx (by decide), show 4294967295 = 2 ^ 32 - 1 from rfl, Nat.and_two_pow_sub_one_eq_mod]

theorem mul64_law (n x y : Nat) (hx : x < 18446744073709551616) (hy : y < 18446744073709551616) (g : Int → Int → Option A) : mul64_k n (x : Int) (y : Int) g = g ((x * y / 18446744073709551616 : Nat) : Int) ((x * y % 18446744073709551616 : Nat) : Int) := by
  unfold mul64_k mul64_p
  rw [shr32, shr32, and32 x hx, and32 y hy]
  have hx1 : x / 4294967296 < 4294967296 := by omega
  have hy1 : y / 4294967296 < 4294967296 := by omega
  have hx0 : x % 4294967296 < 4294967296 := by omega
  have hy0 : y % 4294967296 < 4294967296 := by omega
  have hxd : x / 4294967296 * 4294967296 + x % 4294967296 = x := Nat.div_add_mod' _ _
  have hyd : y / 4294967296 * 4294967296 + y % 4294967296 = y := Nat.div_add_mod' _ _
  have hpp := prod_parts (x / 4294967296) (x % 4294967296) (y / 4294967296) (y % 4294967296)
  rw [hxd, hyd] at hpp
  have b1 := mul_lt32 hx1 hy1
  have b2 := mul_lt32 hx1 hy0
  have b3 := mul_lt32 hx0 hy1
  have b4 := mul_lt32 hx0 hy0
  simp only [← Int.natCast_mul]
  generalize x / 4294967296 * (y / 4294967296) = P at *
  generalize x / 4294967296 * (y % 4294967296) = Q at *
  generalize x % 4294967296 * (y / 4294967296) = R at *
  generalize x % 4294967296 * (y % 4294967296) = S at *
  rw [wrap_u64_nat P (by omega), wrap_u64_nat Q (by omega), wrap_u64_nat S (by omega), wrap_u64_nat R (by omega), shr32]
  rw [← Int.natCast_add, wrap_u64_nat (Q + S / 4294967296) (by omega), shr32, and32 _ (by omega), ← Int.natCast_add, ← Int.natCast_add, wrap_u64_nat (P + _) (by omega), wrap_u64_nat _ (by omega), shr32, ← Int.natCast_add, wrap_u64_nat _ (by omega), wrap_u64_mod]
  have hhi := hi_parts P Q R S
  rw [← hpp] at hhi
  rw [hhi]

theorem range_law (n x y : Nat) (hx : x < 18446744073709551616) (hy : y < 18446744073709551616) (g : Int → Option A) : range__k n (x : Int) (y : Int) g = g ((x * y / 18446744073709551616 : Nat) : Int) := by
  unfold range__k range__p
  rw [mul64_law n x y hx hy]

theorem rrange_law (n x y : Nat) (hx : x < 18446744073709551616) (hy : y < 18446744073709551616) (g : Int → Option A) : rrange_k n (x : Int) (y : Int) g = g ((x * y / 18446744073709551616 : Nat) : Int) := by
  unfold rrange_k rrange_p
  have c : ∀ z : Nat, Int.tdiv (z : Int) 4294967296 = ((z / 4294967296 : Nat) : Int) := fun z => rfl
  have c' : ∀ z : Nat, Int.tmod (z : Int) 4294967296 = ((z % 4294967296 : Nat) : Int) := fun z => rfl
  rw [c x, c y, c' x, c' y, wrap_u64_nat (x / 4294967296) (by omega), wrap_u64_nat (y / 4294967296) (by omega)]
  have hx1 : x / 4294967296 < 4294967296 := by omega
  have hy1 : y / 4294967296 < 4294967296 := by omega
  have hx0 : x % 4294967296 < 4294967296 := by omega
  have hy0 : y % 4294967296 < 4294967296 := by omega
  have hxd : x / 4294967296 * 4294967296 + x % 4294967296 = x := Nat.div_add_mod' _ _
  have hyd : y / 4294967296 * 4294967296 + y % 4294967296 = y := Nat.div_add_mod' _ _
  have hpp := prod_parts (x / 4294967296) (x % 4294967296) (y / 4294967296) (y % 4294967296)
  rw [hxd, hyd] at hpp
  have b1 := mul_lt32 hx1 hy1
  have b2 := mul_lt32 hx1 hy0
  have b3 := mul_lt32 hx0 hy1
  have b4 := mul_lt32 hx0 hy0
  simp only [← Int.natCast_mul]
  generalize x / 4294967296 * (y / 4294967296) = P at *
  generalize x / 4294967296 * (y % 4294967296) = Q at *
  generalize x % 4294967296 * (y / 4294967296) = R at *
  generalize x % 4294967296 * (y % 4294967296) = S at *
  rw [wrap_u64_nat P (by omega), wrap_u64_nat Q (by omega), wrap_u64_nat S (by omega), wrap_u64_nat R (by omega), c S, wrap_u64_nat (S / 4294967296) (by omega)]
  rw [← Int.natCast_add, wrap_u64_nat (Q + S / 4294967296) (by omega), c, c', wrap_u64_nat ((Q + S / 4294967296) / 4294967296) (by omega), ← Int.natCast_add, ← Int.natCast_add, wrap_u64_nat (P + _) (by omega), wrap_u64_nat (R + _) (by omega), c, wrap_u64_nat ((R + _) / _) (by omega), ← Int.natCast_add, wrap_u64_nat _ (by omega)]
  have hhi := hi_parts P Q R S
  rw [← hpp] at hhi
  rw [hhi]
  congr 3
  omega

end Go.Ev
