import Derived.Test.YtelhickgimgbaaaB6
import Derived.Test.YtelhickgimgbaaaB5
import Derived.Test.YtelhickgimgbaaaB7
set_option linter.all false
section
/-
  PACE: how long a period lasted, as numbers; the law of PaceLasts.
-/
set_option linter.all false
namespace Go.Ev
variable {A : Type}

theorem pawake_1000 (k : Bool → Option A) : pawake_k 1000 k = k true := by kernel_rfl

/-- Held within 1 and 65536. -/
def heldN (x : Int) : Nat := (imin (imax x 1) 65536).toNat
theorem heldN_pos (x : Int) : 1 ≤ heldN x := by unfold heldN imin imax; split <;> split <;> omega
theorem heldN_le (x : Int) : heldN x ≤ 65536 := by unfold heldN imin imax; split <;> split <;> omega
theorem heldN_eq (x : Int) : imin (imax x 1) 65536 = ((heldN x : Nat) : Int) := by unfold heldN imin imax; split <;> split <;> omega
theorem held_law (n : Nat) (x : Int) (g : Int → Option A) : held_k n x g = g ((heldN x : Nat) : Int) := by
  unfold held_k held_p
  have e : ((heldN x : Nat) : Int) = if x < 1 then 1 else if x > 65536 then 65536 else x := by
    rw [← heldN_eq]; unfold imin imax
    repeat' split
    all_goals omega
  rw [e]
  by_cases h : x < 1
  · rw [decide_eq_true h, cond_true, if_pos h]
  · rw [decide_eq_false h, cond_false, if_neg h]
    by_cases h2 : x > 65536
    · rw [decide_eq_true h2, cond_true, if_pos h2]
    · rw [decide_eq_false h2, cond_false, if_neg h2]

/-- How long a period should last. -/
def idealN (a b : Int) : Nat := heldN a * heldN b
theorem idealN_pos (a b : Int) : 1 ≤ idealN a b := Nat.mul_pos (heldN_pos a) (heldN_pos b)
theorem idealN_le (a b : Int) : idealN a b ≤ 4294967296 := Nat.mul_le_mul (heldN_le a) (heldN_le b)
theorem ideal_mul (a b : Int) : IntKind.wrap .i64 (((heldN a : Nat) : Int) * ((heldN b : Nat) : Int)) = ((idealN a b : Nat) : Int) := by
  have h := idealN_le a b
  unfold idealN at *
  rw [← Int.natCast_mul]
  exact wrap_id (by omega) (by omega)
theorem ideal_law (n : Nat) (a b : Int) (g : Int → Option A) : ideal_k n a b g = g ((idealN a b : Nat) : Int) := by
  unfold ideal_k ideal_p
  rw [heldN_eq, heldN_eq, ideal_mul]

/-- How long it counts to have lasted. -/
def lastN (I : Nat) (s t : Int) : Nat := (imin (imax (imax (t - s) ((I / 4 : Nat) : Int)) 1) ((4 * I : Nat) : Int)).toNat
theorem lastN_bounds (I : Nat) (s t : Int) (h : 1 ≤ I) : 1 ≤ lastN I s t ∧ lastN I s t ≤ 4 * I ∧ I / 4 ≤ lastN I s t := by
  unfold lastN imin imax
  split <;> split <;> split <;> omega
theorem lastN_eq (I : Nat) (s t : Int) (h : 1 ≤ I) : imin (imax (imax (t - s) ((I / 4 : Nat) : Int)) 1) ((4 * I : Nat) : Int) = ((lastN I s t : Nat) : Int) := by
  unfold lastN imin imax
  split <;> split <;> split <;> omega

theorem lasted_law (n : Nat) (a b : Int) (s t : Nat) (hs : s < 4294967296) (ht : t < 4294967296) (g : Int → Option A) : lasted_k n a b (s : Int) (t : Int) g = g ((lastN (idealN a b) s t : Nat) : Int) := by
  unfold lasted_k lasted_p
  have h1 := idealN_pos a b
  have h2 := idealN_le a b
  rw [ideal_law]
  have e1 : IntKind.wrap .i64 (s : Int) = (s : Int) := wrap_id (by omega) (by omega)
  have e2 : IntKind.wrap .i64 (t : Int) = (t : Int) := wrap_id (by omega) (by omega)
  have e3 : IntKind.wrap .i64 ((t : Int) - (s : Int)) = (t : Int) - (s : Int) := wrap_id (by omega) (by omega)
  have e4 : IntKind.wrap .i64 (Int.tdiv ((idealN a b : Nat) : Int) 4) = ((idealN a b / 4 : Nat) : Int) := by
    rw [show (4 : Int) = ((4 : Nat) : Int) from rfl, tdiv_nat]; exact wrap_id (by omega) (by omega)
  have e5 : IntKind.wrap .i64 (4 * ((idealN a b : Nat) : Int)) = ((4 * idealN a b : Nat) : Int) := by rw [wrap_id (by omega) (by omega)]; omega
  rw [e1, e2, e3, e4, e5, lastN_eq _ _ _ h1]

theorem rlasted_law (n : Nat) (a b : Int) (s t : Nat) (hs : s < 4294967296) (ht : t < 4294967296) (g : Int → Option A) : rlasted_k n a b (s : Int) (t : Int) g = g ((lastN (idealN a b) s t : Nat) : Int) := by
  unfold rlasted_k rlasted_p
  have h1 := idealN_pos a b
  have h2 := idealN_le a b
  rw [held_law, held_law, ideal_mul, ← lastN_eq _ _ _ h1]
  have e1 : IntKind.wrap .i64 (s : Int) = (s : Int) := wrap_id (by omega) (by omega)
  have e2 : IntKind.wrap .i64 (t : Int) = (t : Int) := wrap_id (by omega) (by omega)
  have e3 : IntKind.wrap .i64 ((t : Int) - (s : Int)) = (t : Int) - (s : Int) := wrap_id (by omega) (by omega)
  have e4 : IntKind.wrap .i64 (Int.tdiv ((idealN a b : Nat) : Int) 4) = ((idealN a b / 4 : Nat) : Int) := by
    rw [show (4 : Int) = ((4 : Nat) : Int) from rfl, tdiv_nat]; exact wrap_id (by omega) (by omega)
  have e5 : IntKind.wrap .i64 (4 * ((idealN a b : Nat) : Int)) = ((4 * idealN a b : Nat) : Int) := by rw [wrap_id (by omega) (by omega)]; omega
  rw [e1, e2, e3, e4, e5]
  generalize ((idealN a b / 4 : Nat) : Int) = Q
  generalize ((4 * idealN a b : Nat) : Int) = F
  generalize (t : Int) - (s : Int) = D
  have e : imin (imax (imax D Q) 1) F = if D < Q then (if Q < 1 then (if 1 > F then F else 1) else (if Q > F then F else Q)) else (if D < 1 then (if 1 > F then F else 1) else (if D > F then F else D)) := by
    unfold imin imax
    repeat' split
    all_goals omega
  rw [e]
  have c : ∀ (p : Prop) [Decidable p] (x y : Int) (u v : Option A), u = g x → v = g y → (bif decide p then u else v) = g (if p then x else y) := fun p _ x y u v hu hv => by
    by_cases hp : p
    · rw [decide_eq_true hp, cond_true, if_pos hp, hu]
    · rw [decide_eq_false hp, cond_false, if_neg hp, hv]
  exact c _ _ _ _ _ (c _ _ _ _ _ (c _ _ _ _ _ rfl rfl) (c _ _ _ _ _ rfl rfl)) (c _ _ _ _ _ (c _ _ _ _ _ rfl rfl) (c _ _ _ _ _ rfl rfl))

theorem wf_pace {v : Int × (Int × (Int × (Int × Unit)))} (h : WF kT43 v) : ∃ (a b : Int) (s t : Nat), v = (a, (b, ((s : Int), ((t : Int), ())))) ∧ s < 4294967296 ∧ t < 4294967296 := by
  obtain ⟨a, b, s, t, u⟩ := v
  obtain ⟨h1, h2, h3, h4, h5⟩ := h
  obtain ⟨s', e1, hs⟩ := wf_int32 h3
  obtain ⟨t', e2, ht⟩ := wf_int32 h4
  have e1' : s = (s' : Int) := e1
  have e2' : t = (t' : Int) := e2
  subst e1'; subst e2'
  exact ⟨a, b, s', t', rfl, hs, ht⟩

theorem lasts_law (a0 : Int × (Int × (Int × (Int × Unit)))) (f0 : WF kT43 a0) : ∃ n, lasts_k n a0 (fun r => some r) = some true := by
  refine ⟨1000, ?_⟩
  have haw : ∀ k : Bool → Option Bool, pawake_k 1000 k = k true := pawake_1000
  generalize 1000 = n at haw
  obtain ⟨a, b, s, t, rfl, hs, ht⟩ := wf_pace f0
  unfold lasts_k lasts_p
  show (lasted_k n a b (s : Int) (t : Int) fun r1 => rlasted_k n a b (s : Int) (t : Int) fun r2 => _) = _
  rw [lasted_law n a b s t hs ht, rlasted_law n a b s t hs ht]
  generalize lastN (idealN a b) s t = L
  rw [show (((L : Nat) : Int) == ((L : Nat) : Int)) = true from by simp, cond_true, haw]

end Go.Ev
end

section
/-
  LENGTHS: how many bits a number has; plain laws of the printed functions of 64 and of 256 bits.
-/
set_option linter.all false
namespace Go.Ev
variable {A : Type}

/-- How many bits a number has. -/
def bl (x : Nat) : Nat := if x = 0 then 0 else Nat.log2 x + 1

theorem bl_le (x k : Nat) : bl x ≤ k ↔ x < 2 ^ k := by
  unfold bl
  split
  · rename_i h; subst h; exact ⟨fun _ => Nat.two_pow_pos k, fun _ => Nat.zero_le _⟩
  · rename_i h
    rw [← Nat.log2_lt h]; omega
theorem lt_bl (x : Nat) : x < 2 ^ bl x := (bl_le x _).1 (Nat.le_refl _)
theorem bl_zero : bl 0 = 0 := rfl
theorem bl_pos {x : Nat} (h : x ≠ 0) : 0 < bl x := by unfold bl; rw [if_neg h]; omega
theorem le_of_bl {x k : Nat} (h : k < bl x) : 2 ^ k ≤ x := by
  rcases Nat.lt_or_ge x (2 ^ k) with h2 | h2
  · have := (bl_le x k).2 h2; omega
  · exact h2
theorem bl_shift (x j : Nat) (h : x / 2 ^ j ≠ 0) : bl x = j + bl (x / 2 ^ j) := by
  apply Nat.le_antisymm
  · rw [bl_le, Nat.pow_add, Nat.mul_comm]
    exact (Nat.div_lt_iff_lt_mul (Nat.two_pow_pos j)).1 (lt_bl _)
  · have hj : j ≤ bl x := by
      rcases Nat.lt_or_ge (bl x) j with h2 | h2
      · exact absurd (Nat.div_eq_of_lt ((bl_le x j).1 (by omega))) h
      · exact h2
    have : bl (x / 2 ^ j) ≤ bl x - j := by
      rw [bl_le, Nat.div_lt_iff_lt_mul (Nat.two_pow_pos j), ← Nat.pow_add, show bl x - j + j = bl x from by omega]
      exact lt_bl x
    omega
theorem bl_mul (x j : Nat) (h : x ≠ 0) : bl (x * 2 ^ j) = j + bl x := by
  have e : x * 2 ^ j / 2 ^ j = x := Nat.mul_div_cancel _ (Nat.two_pow_pos j)
  rw [bl_shift (x * 2 ^ j) j (by rw [e]; exact h), e]

theorem tab_eq : strBytes str0 = ints ((List.range 256).map bl) := by kernel_rfl
theorem tab_at (i : Nat) (h : i < 256) : (strBytes str0)[i]? = some ((bl i : Nat) : Int) := by
  rw [tab_eq, ints_get, List.getElem?_map, List.getElem?_range h]; rfl

theorem leaf (k : Int → Option A) (x y j : Nat) (hy : y < 256) (hj : j < 100) (h : bl x = j + bl y) :
    (if 0 ≤ IntKind.wrap .u8 (y : Int) then ((strBytes str0)[(IntKind.wrap .u8 (y : Int)).toNat]?).bind fun t => k (IntKind.wrap .i64 ((j : Int) + IntKind.wrap .i64 t)) else none) = k ((bl x : Nat) : Int) := by
  have e : IntKind.wrap .u8 (y : Int) = (y : Int) := by rw [wrap_u8]; omega
  have e0 : bl y ≤ 8 := by rw [bl_le]; omega
  have e1 : IntKind.wrap .i64 ((bl y : Nat) : Int) = ((bl y : Nat) : Int) := wrap_id (by omega) (by omega)
  have e2 : IntKind.wrap .i64 ((j : Int) + ((bl y : Nat) : Int)) = ((bl x : Nat) : Int) := by rw [wrap_id (by omega) (by omega)]; omega
  rw [e, if_pos (by omega), Int.toNat_natCast, tab_at y hy, Option.bind_some, e1, e2]

theorem shrk (x k : Nat) (hk : k ≤ 64) (K : Int) (hK : K = (k : Int)) : shr .u64 (x : Int) K = ((x / 2 ^ k : Nat) : Int) := by rw [hK]; exact shr_u64 x k hk

theorem len64_law (n x : Nat) (hx : x < 18446744073709551616) (g : Int → Option A) : len64_k n (x : Int) g = g ((bl x : Nat) : Int) := by
  unfold len64_k len64_p
  rw [shrk x 32 (by decide) 32 rfl, shrk x 16 (by decide) 16 rfl, shrk x 8 (by decide) 8 rfl, shrk (x / 2 ^ 32) 16 (by decide) 16 rfl, shrk (x / 2 ^ 32) 8 (by decide) 8 rfl, shrk (x / 2 ^ 32 / 2 ^ 16) 8 (by decide) 8 rfl, shrk (x / 2 ^ 16) 8 (by decide) 8 rfl]
  by_cases h1 : 4294967296 ≤ x
  · have b1 : bl x = 32 + bl (x / 2 ^ 32) := bl_shift x 32 (by omega)
    rw [decide_eq_true (show (x : Int) ≥ 4294967296 by omega), cond_true]
    by_cases h2 : 65536 ≤ x / 2 ^ 32
    · have b2 : bl (x / 2 ^ 32) = 16 + bl (x / 2 ^ 32 / 2 ^ 16) := bl_shift _ 16 (by omega)
      rw [decide_eq_true (show ((x / 2 ^ 32 : Nat) : Int) ≥ 65536 by omega), cond_true]
      by_cases h3 : 256 ≤ x / 2 ^ 32 / 2 ^ 16
      · have b3 : bl (x / 2 ^ 32 / 2 ^ 16) = 8 + bl (x / 2 ^ 32 / 2 ^ 16 / 2 ^ 8) := bl_shift _ 8 (by omega)
        rw [decide_eq_true (show ((x / 2 ^ 32 / 2 ^ 16 : Nat) : Int) ≥ 256 by omega), cond_true]
        exact leaf g x _ 56 (by omega) (by decide) (by omega)
      · rw [decide_eq_false (show ¬ ((x / 2 ^ 32 / 2 ^ 16 : Nat) : Int) ≥ 256 by omega), cond_false]
        exact leaf g x _ 48 (by omega) (by decide) (by omega)
    · rw [decide_eq_false (show ¬ ((x / 2 ^ 32 : Nat) : Int) ≥ 65536 by omega), cond_false]
      by_cases h3 : 256 ≤ x / 2 ^ 32
      · have b3 : bl (x / 2 ^ 32) = 8 + bl (x / 2 ^ 32 / 2 ^ 8) := bl_shift _ 8 (by omega)
        rw [decide_eq_true (show ((x / 2 ^ 32 : Nat) : Int) ≥ 256 by omega), cond_true]
        exact leaf g x _ 40 (by omega) (by decide) (by omega)
      · rw [decide_eq_false (show ¬ ((x / 2 ^ 32 : Nat) : Int) ≥ 256 by omega), cond_false]
        exact leaf g x _ 32 (by omega) (by decide) (by omega)
  · rw [decide_eq_false (show ¬ (x : Int) ≥ 4294967296 by omega), cond_false]
    by_cases h2 : 65536 ≤ x
    · have b2 : bl x = 16 + bl (x / 2 ^ 16) := bl_shift _ 16 (by omega)
      rw [decide_eq_true (show (x : Int) ≥ 65536 by omega), cond_true]
      by_cases h3 : 256 ≤ x / 2 ^ 16
      · have b3 : bl (x / 2 ^ 16) = 8 + bl (x / 2 ^ 16 / 2 ^ 8) := bl_shift _ 8 (by omega)
        rw [decide_eq_true (show ((x / 2 ^ 16 : Nat) : Int) ≥ 256 by omega), cond_true]
        exact leaf g x _ 24 (by omega) (by decide) (by omega)
      · rw [decide_eq_false (show ¬ ((x / 2 ^ 16 : Nat) : Int) ≥ 256 by omega), cond_false]
        exact leaf g x _ 16 (by omega) (by decide) (by omega)
    · rw [decide_eq_false (show ¬ (x : Int) ≥ 65536 by omega), cond_false]
      by_cases h3 : 256 ≤ x
      · have b3 : bl x = 8 + bl (x / 2 ^ 8) := bl_shift _ 8 (by omega)
        rw [decide_eq_true (show (x : Int) ≥ 256 by omega), cond_true]
        exact leaf g x _ 8 (by omega) (by decide) (by omega)
      · rw [decide_eq_false (show ¬ (x : Int) ≥ 256 by omega), cond_false]
        exact leaf g x x 0 (by omega) (by decide) (by omega)

theorem ulen_l0_law (n : Nat) (x : Nat) (g : Int → Option A) : ∀ (f i : Nat), i ≤ 4 → i < f → x / 2 ^ (64 * i) = 0 →
    ulen_l0 (len64_k n) n (ints (uw x)) g (g 0) f ((i : Int) - 1) = g ((bl x : Nat) : Int) := by
  intro f
  induction f with
  | zero => intro i _ h; omega
  | succ f ih =>
  intro i hi hf he
  rcases i with _ | i
  · rw [ulen_l0, ulen_b0]
    have e : decide (((0 : Nat) : Int) - 1 ≥ 0) = false := by decide
    rw [Nat.mul_zero, Nat.pow_zero, Nat.div_one] at he
    rw [e, cond_false, he]; rfl
  · rw [ulen_l0, ulen_b0]
    have e0 : ((i + 1 : Nat) : Int) - 1 = (i : Int) := by omega
    have e : decide ((i : Int) ≥ 0) = true := decide_eq_true (by omega)
    have e2 : IntKind.wrap .i64 ((i : Int) - 1) = (i : Int) - 1 := wrap_id (by omega) (by omega)
    rw [e0, e, cond_true, if_pos (by omega), if_pos (by omega), Int.toNat_natCast, iuw_at _ _ (by omega), Option.bind_some]
    have hx := wd_split x i
    rw [he, Nat.mul_zero, Nat.add_zero] at hx
    by_cases h1 : wd x i = 0
    · have d : (((wd x i : Nat) : Int) != 0) = false := by rw [h1]; rfl
      rw [d, cond_false, e2]
      exact ih i (by omega) (by omega) (by omega)
    · have d : (((wd x i : Nat) : Int) != 0) = true := by simp; omega
      have hb : bl x = 64 * i + bl (wd x i) := by rw [bl_shift x (64 * i) (by omega), hx]
      have hb2 : bl (wd x i) ≤ 64 := by rw [bl_le]; exact wd_lt x i
      have e3 : IntKind.wrap .i64 (64 * (i : Int)) = ((64 * i : Nat) : Int) := by rw [wrap_id (by omega) (by omega)]; omega
      have e4 : IntKind.wrap .i64 (((64 * i : Nat) : Int) + ((bl (wd x i) : Nat) : Int)) = ((bl x : Nat) : Int) := by rw [wrap_id (by omega) (by omega)]; omega
      rw [d, cond_true, if_pos (by omega), if_pos (by omega), Option.bind_some, len64_law n _ (wd_lt x i), e3, e4]

theorem ulen_law (n : Nat) (hn : 10 < n) (x : Nat) (hx : x < 2 ^ 256) (g : Int → Option A) : ulen_k n (ints (uw x)) g = g ((bl x : Nat) : Int) := by
  unfold ulen_k ulen_p
  exact ulen_l0_law n x (fun y5 => g y5) n 4 (by omega) (by omega) (by
    rw [show (2 : Nat) ^ (64 * 4) = 2 ^ 256 from by decide, Nat.div_eq_of_lt hx])

theorem uof_law (n x : Nat) (hx : x < 18446744073709551616) (g : List Int → Option A) : uof_k n (x : Int) g = g (ints (uw x)) := by
  unfold uof_k uof_p
  have e : ints (uw x) = [(x : Int), 0, 0, 0] := by
    simp only [ints, uw, List.map_cons, List.map_nil]
    rw [Nat.mod_eq_of_lt hx, Nat.div_eq_of_lt hx, Nat.div_eq_of_lt (show x < 340282366920938463463374607431768211456 by omega), Nat.div_eq_of_lt (show x < 6277101735386680763835789423207666416102355444464034512896 by omega)]; rfl
  rw [e]

theorem umax_law (n : Nat) (g : List Int → Option A) : umax_k n g = g (ints (uw (2 ^ 256 - 1))) := by
  unfold umax_k umax_p
  have e : ints (uw (2 ^ 256 - 1)) = [18446744073709551615, 18446744073709551615, 18446744073709551615, 18446744073709551615] := by decide
  rw [e]

theorem imax_imax (a : Int) : imax (imax a 0) 0 = imax a 0 := by unfold imax; split <;> (try split) <;> omega
theorem imax_toNat (a : Int) : imax a 0 = (a.toNat : Int) := by unfold imax; split <;> omega
theorem ushl_lawI (n : Nat) (hn : 10 < n) (x : Nat) (a : Int) (g : List Int → Option A) : ushl_k n (ints (uw x)) a g = g (ints (uw (x * 2 ^ a.toNat % 2 ^ 256))) := by
  rw [← ushl_law n hn x a.toNat g, ← imax_toNat]
  unfold ushl_k ushl_p
  rw [imax_imax]
theorem ushr_lawI (n : Nat) (hn : 10 < n) (x : Nat) (hx : x < 2 ^ 256) (a : Int) (g : List Int → Option A) : ushr_k n (ints (uw x)) a g = g (ints (uw (x / 2 ^ a.toNat))) := by
  rw [← ushr_law n hn x a.toNat hx g, ← imax_toNat]
  unfold ushr_k ushr_p
  rw [imax_imax]

end Go.Ev
end

section
/-
  SUMS, DIFFERENCES, QUOTIENTS of 256-bit numbers: plain laws of the printed functions.
-/
set_option linter.all false
namespace Go.Ev
variable {A : Type}

theorem wd_mod (x i : Nat) (h : i < 4) : wd (x % 2 ^ 256) i = wd x i := by
  apply Nat.eq_of_testBit_eq
  intro t
  rw [wd_testBit, wd_testBit, Nat.testBit_mod_two_pow]
  by_cases ht : t < 64
  · have : 64 * i + t < 256 := by omega
    simp [ht, this]
  · simp [ht]
theorem uw_mod (x : Nat) : uw (x % 2 ^ 256) = uw x := by
  rw [uw_wd, uw_wd, wd_mod _ 0 (by decide), wd_mod _ 1 (by decide), wd_mod _ 2 (by decide), wd_mod _ 3 (by decide)]

/-- Words below i are z's, the others x's. -/
def Mix (z x i : Nat) (l : List Nat) : Prop := l.length = 4 ∧ ∀ j, j < 4 → l[j]? = some (if j < i then wd z j else wd x j)
theorem Mix.start (z x : Nat) : Mix z x 0 (uw x) := ⟨rfl, fun j hj => by rw [uw_at x j hj, if_neg (by omega)]⟩
theorem Mix.step {z x i : Nat} {l : List Nat} (h : Mix z x i l) (hi : i < 4) : Mix z x (i + 1) (l.set i (wd z i)) := by
  refine ⟨by rw [List.length_set]; exact h.1, fun j hj => ?_⟩
  by_cases hji : i = j
  · subst hji; rw [List.getElem?_set_self (by rw [h.1]; exact hi), if_pos (by omega)]
  · rw [List.getElem?_set_ne hji, h.2 j hj]
    by_cases h2 : j < i
    · rw [if_pos h2, if_pos (by omega)]
    · rw [if_neg h2, if_neg (by omega)]
theorem Mix.done {z x : Nat} {l : List Nat} (h : Mix z x 4 l) : l = uw z := uw_ext z l h.1 fun i hi => by rw [h.2 i hi, if_pos hi]
theorem Mix.at {z x i : Nat} {l : List Nat} (h : Mix z x i l) (hi : i < 4) : (ints l)[i]? = some ((wd x i : Nat) : Int) := by
  rw [ints_get, h.2 i hi, if_neg (by omega)]; rfl

theorem P4_zero {x : Nat} (h : x < 2 ^ 256) : x / 2 ^ (64 * 4) = 0 := Nat.div_eq_of_lt h

theorem add64_at (n x y c : Nat) (hc : c ≤ 1) (g : Int → Int → Option A) : add64_k n (x : Int) (y : Int) (c : Int) g = g (((x + y + c) % 18446744073709551616 : Nat) : Int) (((x + y + c) / 18446744073709551616 : Nat) : Int) := by
  unfold add64_k
  rw [if_pos (by omega), if_pos (by omega), if_pos (by omega), if_pos (by omega)]
  rfl
theorem sub64_at (n x y c : Nat) (hc : c ≤ 1) (hx : x < 18446744073709551616) (hy : y < 18446744073709551616) (g : Int → Int → Option A) : sub64_k n (x : Int) (y : Int) (c : Int) g = g (((x + 36893488147419103232 - y - c) % 18446744073709551616 : Nat) : Int) ((if x < y + c then 1 else 0 : Nat) : Int) := by
  unfold sub64_k
  have e1 : ((x : Int) - (y : Int) - (c : Int)) % 18446744073709551616 = (((x + 36893488147419103232 - y - c) % 18446744073709551616 : Nat) : Int) := by omega
  have e2 : (if (x : Int) < (y : Int) + (c : Int) then (1 : Int) else 0) = ((if x < y + c then 1 else 0 : Nat) : Int) := by split <;> split <;> omega
  rw [if_pos (by omega), if_pos (by omega), if_pos (by omega), if_pos (by omega), if_pos (by omega), if_pos (by omega), e1, e2]

-- ------------------------------------------------------------ sums

theorem uadd_l0_law (n : Nat) (x y : Nat) (t4 : List Int) (g : Int → List Int → Option A) : ∀ (d f i c : Nat) (l : List Nat), i + d = 4 → d < f → c ≤ 1 → (x + y) / 2 ^ (64 * i) = x / 2 ^ (64 * i) + y / 2 ^ (64 * i) + c → Mix (x + y) x i l →
    ∃ c', (x + y) / 2 ^ (64 * 4) = x / 2 ^ (64 * 4) + y / 2 ^ (64 * 4) + c' ∧ uadd_l0 (add64_k n) n (ints (uw y)) t4 g f (c : Int) (i : Int) (ints l) = g (c' : Int) (ints (uw (x + y))) := by
  intro d
  induction d with
  | zero =>
    intro f i c l hi hf hc he hm
    obtain ⟨f, rfl⟩ : ∃ g, f = g + 1 := ⟨f - 1, by omega⟩
    have : i = 4 := by omega
    subst this
    refine ⟨c, he, ?_⟩
    rw [uadd_l0, uadd_b0, decide_eq_false (show ¬ ((4 : Nat) : Int) < 4 by omega), cond_false, hm.done]
  | succ d ih =>
    intro f i c l hi hf hc he hm
    obtain ⟨f, rfl⟩ : ∃ g, f = g + 1 := ⟨f - 1, by omega⟩
    have hx := wd_split x i
    have hy := wd_split y i
    have hz := wd_split (x + y) i
    have bx := wd_lt x i
    have by_ := wd_lt y i
    have bz := wd_lt (x + y) i
    have e1 : (wd x i + wd y i + c) % 18446744073709551616 = wd (x + y) i := by omega
    have e3 : IntKind.wrap .i64 ((i : Int) + 1) = ((i + 1 : Nat) : Int) := by rw [wrap_id (by omega) (by omega)]; omega
    obtain ⟨c', h1, h2⟩ := ih f (i + 1) ((wd x i + wd y i + c) / 18446744073709551616) (l.set i (wd (x + y) i)) (by omega) (by omega) (by omega) (by omega) (hm.step (by omega))
    refine ⟨c', h1, ?_⟩
    rw [uadd_l0, uadd_b0, decide_eq_true (show (i : Int) < 4 by omega), cond_true, if_pos (by omega), if_pos (by omega), Int.toNat_natCast, hm.at (by omega), Option.bind_some, if_pos (by omega), if_pos (by omega), iuw_at _ _ (by omega), Option.bind_some]
    rw [add64_at n _ _ c hc, if_pos (by omega), if_pos (by omega), if_pos (by omega), e1, e3, ints_set]
    exact h2

theorem uadd_law (n : Nat) (hn : 10 < n) (x y : Nat) (hx : x < 2 ^ 256) (hy : y < 2 ^ 256) (g : List Int → Bool → Option A) : uadd_k n (ints (uw x)) (ints (uw y)) g = g (ints (uw ((x + y) % 2 ^ 256))) (decide (2 ^ 256 ≤ x + y)) := by
  unfold uadd_k uadd_p
  obtain ⟨c', h1, h2⟩ := uadd_l0_law n x y [0, 0, 0, 0] (fun y5 y6 => g y6 (decide (y5 > 0))) 4 n 0 0 (uw x) (by omega) (by omega) (by omega) (by rw [Nat.mul_zero, Nat.pow_zero, Nat.div_one, Nat.div_one, Nat.div_one]; rfl) (.start _ _)
  rw [P4_zero hx, P4_zero hy, show 2 ^ (64 * 4) = 2 ^ 256 from by decide] at h1
  refine Eq.trans h2 ?_
  rw [uw_mod]
  congr 1
  apply decide_eq_decide.2
  rw [show (2 : Nat) ^ 256 = 115792089237316195423570985008687907853269984665640564039457584007913129639936 from by decide] at *
  omega

-- ------------------------------------------------------------ differences

theorem usub_l0_law (n : Nat) (x y z : Nat) (t4 : List Int) (g : Int → List Int → Option A) : ∀ (d f i c : Nat) (l : List Nat), i + d = 4 → d < f → c ≤ 1 → z / 2 ^ (64 * i) + y / 2 ^ (64 * i) + c = x / 2 ^ (64 * i) + 18446744073709551616 ^ d → Mix z x i l →
    ∃ c', z / 2 ^ (64 * 4) + y / 2 ^ (64 * 4) + c' = x / 2 ^ (64 * 4) + 1 ∧ usub_l0 (sub64_k n) n (ints (uw y)) t4 g f (c : Int) (i : Int) (ints l) = g (c' : Int) (ints (uw z)) := by
  intro d
  induction d with
  | zero =>
    intro f i c l hi hf hc he hm
    obtain ⟨f, rfl⟩ : ∃ g, f = g + 1 := ⟨f - 1, by omega⟩
    have : i = 4 := by omega
    subst this
    refine ⟨c, he, ?_⟩
    rw [usub_l0, usub_b0, decide_eq_false (show ¬ ((4 : Nat) : Int) < 4 by omega), cond_false, hm.done]
  | succ d ih =>
    intro f i c l hi hf hc he hm
    obtain ⟨f, rfl⟩ : ∃ g, f = g + 1 := ⟨f - 1, by omega⟩
    have hx := wd_split x i
    have hy := wd_split y i
    have hz := wd_split z i
    have bx := wd_lt x i
    have by_ := wd_lt y i
    have bz := wd_lt z i
    rw [Nat.pow_succ] at he
    generalize hR : 18446744073709551616 ^ d = R at he
    have hD : ((wd x i : Nat) : Int) - ((wd y i : Nat) : Int) - (c : Int) - ((wd z i : Nat) : Int) = 18446744073709551616 * (((z / 2 ^ (64 * (i + 1)) : Nat) : Int) + ((y / 2 ^ (64 * (i + 1)) : Nat) : Int) - ((x / 2 ^ (64 * (i + 1)) : Nat) : Int) - (R : Int)) := by omega
    have hD2 : ((z / 2 ^ (64 * (i + 1)) : Nat) : Int) + ((y / 2 ^ (64 * (i + 1)) : Nat) : Int) - ((x / 2 ^ (64 * (i + 1)) : Nat) : Int) - (R : Int) = if wd x i < wd y i + c then -1 else 0 := by
      generalize ((z / 2 ^ (64 * (i + 1)) : Nat) : Int) + ((y / 2 ^ (64 * (i + 1)) : Nat) : Int) - ((x / 2 ^ (64 * (i + 1)) : Nat) : Int) - (R : Int) = D at hD
      clear he hx hy hz
      split <;> omega
    have e1 : (wd x i + 36893488147419103232 - wd y i - c) % 18446744073709551616 = wd z i := by
      rw [hD2] at hD
      clear he hx hy hz hD2
      split at hD <;> omega
    have e3 : IntKind.wrap .i64 ((i : Int) + 1) = ((i + 1 : Nat) : Int) := by rw [wrap_id (by omega) (by omega)]; omega
    obtain ⟨c', h1, h2⟩ := ih f (i + 1) (if wd x i < wd y i + c then 1 else 0) (l.set i (wd z i)) (by omega) (by omega) (by split <;> omega) (by rw [hR]; clear he hx hy hz hD e1; split at hD2 <;> rename_i hq <;> simp only [hq, if_true, if_false] <;> omega) (hm.step (by omega))
    refine ⟨c', h1, ?_⟩
    rw [usub_l0, usub_b0, decide_eq_true (show (i : Int) < 4 by omega), cond_true, if_pos (by omega), if_pos (by omega), Int.toNat_natCast, hm.at (by omega), Option.bind_some, if_pos (by omega), if_pos (by omega), iuw_at _ _ (by omega), Option.bind_some]
    rw [sub64_at n _ _ c hc bx by_, if_pos (by omega), if_pos (by omega), if_pos (by omega), e1, e3, ints_set]
    exact h2

theorem usub_law (n : Nat) (hn : 10 < n) (x y : Nat) (hx : x < 2 ^ 256) (hy : y < 2 ^ 256) (g : List Int → Bool → Option A) : usub_k n (ints (uw x)) (ints (uw y)) g = g (ints (uw ((x + 2 ^ 256 - y) % 2 ^ 256))) (decide (x < y)) := by
  unfold usub_k usub_p
  obtain ⟨c', h1, h2⟩ := usub_l0_law n x y (x + 2 ^ 256 - y) [0, 0, 0, 0] (fun y5 y6 => g y6 (decide (y5 > 0))) 4 n 0 0 (uw x) (by omega) (by omega) (by omega) (by
    rw [Nat.mul_zero, Nat.pow_zero, Nat.div_one, Nat.div_one, Nat.div_one, show (18446744073709551616 : Nat) ^ 4 = 2 ^ 256 from by decide]; omega) (.start _ _)
  rw [P4_zero hx, P4_zero hy, show 2 ^ (64 * 4) = 2 ^ 256 from by decide] at h1
  refine Eq.trans h2 ?_
  rw [uw_mod]
  congr 1
  apply decide_eq_decide.2
  rw [show (2 : Nat) ^ 256 = 115792089237316195423570985008687907853269984665640564039457584007913129639936 from by decide] at *
  omega

-- ------------------------------------------------------------ quotients, bit by bit

theorem set_bit (m k : Nat) (hk : k < 256) : (uw (m * 2 ^ (k + 1))).set (k / 64) (wd (m * 2 ^ (k + 1)) (k / 64) ||| 1 * 2 ^ (k % 64) % 18446744073709551616) = uw (m * 2 ^ (k + 1) + 2 ^ k) := by
  refine uw_ext _ _ (by rw [List.length_set]; rfl) fun i hi => ?_
  have e : m * 2 ^ (k + 1) + 2 ^ k = m * 2 ^ (k + 1) ||| 2 ^ k := (or_parts m (2 ^ k) (k + 1) (Nat.pow_lt_pow_right (by decide) (by omega))).symm
  rw [e]
  have h1 : ∀ t, (wd (m * 2 ^ (k + 1) ||| 2 ^ k) i).testBit t = (decide (t < 64) && ((m * 2 ^ (k + 1)).testBit (64 * i + t) || decide (k = 64 * i + t))) := fun t => by
    rw [wd_testBit, Nat.testBit_or, Nat.testBit_two_pow]
  by_cases hik : k / 64 = i
  · subst hik
    rw [List.getElem?_set_self (by exact hi)]
    congr 1
    apply Nat.eq_of_testBit_eq
    intro t
    rw [h1, Nat.testBit_or, wd_testBit, Nat.one_mul, show (18446744073709551616 : Nat) = 2 ^ 64 from by decide, Nat.testBit_mod_two_pow, Nat.testBit_two_pow]
    by_cases ht : t < 64
    · have : (k % 64 = t) ↔ (k = 64 * (k / 64) + t) := by omega
      simp [ht, this]
    · simp [ht]
  · rw [List.getElem?_set_ne hik, uw_at _ _ hi]
    congr 1
    apply Nat.eq_of_testBit_eq
    intro t
    rw [h1, wd_testBit]
    by_cases ht : t < 64
    · have : ¬ (k = 64 * i + t) := by omega
      simp [ht, this]
    · simp [ht]

theorem uquo_l0_law (n : Nat) (hn : 10 < n) (x b : Nat) (hb : b ≠ 0) (hb2 : b < 2 ^ 256) (t4 t5 : List Int) (g : List Int → List Int → Option A) : ∀ (k f a m : Nat), k < f → a < 2 ^ 256 → k ≤ 256 → (0 < k → b * 2 ^ (k - 1) < 2 ^ 256) → a < b * 2 ^ k → m * 2 ^ k * b + a = x →
    uquo_l0 (ulen_k n) (ushl_k n) (usub_k n) n (ints (uw b)) t4 t5 g f ((k : Int) - 1) (ints (uw a)) (ints (uw (m * 2 ^ k))) = g (ints (uw (x % b))) (ints (uw (x / b))) := by
  intro k
  induction k with
  | zero =>
    intro f a m hf ha hk hb3 hlt he
    obtain ⟨f, rfl⟩ : ∃ g, f = g + 1 := ⟨f - 1, by omega⟩
    rw [uquo_l0, uquo_b0, decide_eq_false (show ¬ ((0 : Nat) : Int) - 1 ≥ 0 by omega), cond_false]
    rw [Nat.pow_zero, Nat.mul_one] at hlt he ⊢
    have e1 : x % b = a := by rw [← he, Nat.add_comm, Nat.add_mul_mod_self_right, Nat.mod_eq_of_lt hlt]
    have e2 : x / b = m := by rw [← he, Nat.add_comm, Nat.add_mul_div_right _ _ (by omega), Nat.div_eq_of_lt hlt, Nat.zero_add]
    rw [e1, e2]
  | succ k ih =>
    intro f a m hf ha hk hb3 hlt he
    obtain ⟨f, rfl⟩ : ∃ g, f = g + 1 := ⟨f - 1, by omega⟩
    have hb4 := hb3 (by omega)
    rw [Nat.add_sub_cancel] at hb4
    have hbk : 0 < k → b * 2 ^ (k - 1) < 2 ^ 256 := fun h => Nat.lt_of_le_of_lt (Nat.mul_le_mul_left _ (Nat.pow_le_pow_right (by decide) (by omega))) hb4
    have e0 : ((k + 1 : Nat) : Int) - 1 = (k : Int) := by omega
    have e1 : IntKind.wrap .i64 ((k : Int) - 1) = (k : Int) - 1 := wrap_id (by omega) (by omega)
    rw [uquo_l0, uquo_b0, e0, decide_eq_true (show (k : Int) ≥ 0 by omega), cond_true, ushl_law n hn, Nat.mod_eq_of_lt hb4, usub_law n hn _ _ ha hb4, e1]
    have hp : 2 ^ (k + 1) = 2 ^ k * 2 := Nat.pow_succ 2 k
    have hbp : b * 2 ^ (k + 1) = 2 * (b * 2 ^ k) := by rw [hp]; generalize 2 ^ k = p; rw [← Nat.mul_assoc, Nat.mul_comm]
    have hm2 : m * 2 ^ (k + 1) = m * 2 * 2 ^ k := by rw [hp]; generalize 2 ^ k = p; rw [Nat.mul_comm p 2, Nat.mul_assoc]
    by_cases hc : a < b * 2 ^ k
    · rw [decide_eq_true hc, Bool.not_true, cond_false, hm2]
      exact ih f a (m * 2) (by omega) ha (by omega) hbk hc (by rw [← hm2]; exact he)
    · have e2 : IntKind.wrap .i64 (Int.tdiv (k : Int) 64) = ((k / 64 : Nat) : Int) := by
        rw [show (64 : Int) = ((64 : Nat) : Int) from rfl, tdiv_nat]; exact wrap_id (by omega) (by omega)
      have e3 : Int.tmod (k : Int) 64 = ((k % 64 : Nat) : Int) := by rw [show (64 : Int) = ((64 : Nat) : Int) from rfl, tmod_nat]
      have e4 : (a + 2 ^ 256 - b * 2 ^ k) % 2 ^ 256 = a - b * 2 ^ k := by
        rw [show a + 2 ^ 256 - b * 2 ^ k = (a - b * 2 ^ k) + 2 ^ 256 from by omega, Nat.add_mod_right, Nat.mod_eq_of_lt (by omega)]
      have e5 : shl .u64 1 ((k % 64 : Nat) : Int) = ((1 * 2 ^ (k % 64) % 18446744073709551616 : Nat) : Int) := shl_u64 1 (k % 64) (by omega)
      rw [decide_eq_false hc, Bool.not_false, cond_true, e2, e3, e4, e5, if_pos (by omega), if_pos (by omega), Int.toNat_natCast, iuw_at _ _ (by omega), Option.bind_some, if_neg (by omega), if_pos (by omega), if_pos (by omega), if_pos (by omega),
        ior_u64 _ _ (wd_lt _ _) (Nat.mod_lt _ (by decide)), ints_set, set_bit m k (by omega)]
      have e6 : m * 2 ^ (k + 1) + 2 ^ k = (m * 2 + 1) * 2 ^ k := by rw [hm2, Nat.add_mul, Nat.one_mul]
      rw [e6]
      refine ih f (a - b * 2 ^ k) (m * 2 + 1) (by omega) (by omega) (by omega) hbk (by omega) ?_
      rw [← e6, Nat.add_mul, Nat.mul_comm (2 ^ k) b]
      omega

theorem uquo_law (n : Nat) (hn : 300 < n) (x b : Nat) (hx : x < 2 ^ 256) (hb : b < 2 ^ 256) (hb0 : b ≠ 0) (g : List Int → List Int → Option A) : uquo_k n (ints (uw x)) (ints (uw b)) g = g (ints (uw (x / b))) (ints (uw (x % b))) := by
  unfold uquo_k uquo_p
  have hz : deq kA4u64 (ints (uw b)) ([0, 0, 0, 0] : List Int) = false := by
    cases hd : deq kA4u64 (ints (uw b)) ([0, 0, 0, 0] : List Int) with
    | false => rfl
    | true =>
      have h1 := (deq_iff kA4u64 _ _).1 hd
      rw [zero_uw] at h1
      have h2 := congrArg (fun l => wval (List.map Int.toNat l)) h1
      simp only [ints, List.map_map, Function.comp_def, Int.toNat_natCast, List.map_id'] at h2
      rw [wval_uw b hb, wval_uw 0 (by decide)] at h2
      exact absurd h2 hb0
  have hbx : bl x ≤ 256 := (bl_le x 256).2 hx
  have hbb : bl b ≤ 256 := (bl_le b 256).2 hb
  rw [hz, cond_false, ulen_law n (by omega) x hx, ulen_law n (by omega) b hb, wrap_id (x := ((bl x : Nat) : Int) - ((bl b : Nat) : Int)) (by omega) (by omega)]
  by_cases hle : bl b ≤ bl x
  · have e : ((bl x : Nat) : Int) - ((bl b : Nat) : Int) = ((bl x - bl b + 1 : Nat) : Int) - 1 := by omega
    have hlow : 2 ^ (bl b - 1) ≤ b := le_of_bl (by have := bl_pos hb0; omega)
    have hz2 : ([0, 0, 0, 0] : List Int) = ints (uw (0 * 2 ^ (bl x - bl b + 1))) := by rw [Nat.zero_mul]; exact zero_uw
    have h := uquo_l0_law n (by omega) x b hb0 hb [0, 0, 0, 0] [0, 0, 0, 0] (fun y7 y8 => g y8 y7) (bl x - bl b + 1) n x 0 (by omega) hx (by have := bl_pos hb0; omega) (fun _ => by
      rw [Nat.add_sub_cancel]
      calc b * 2 ^ (bl x - bl b) < 2 ^ bl b * 2 ^ (bl x - bl b) := Nat.mul_lt_mul_of_pos_right (lt_bl b) (Nat.two_pow_pos _)
        _ = 2 ^ bl x := by rw [← Nat.pow_add]; congr 1; omega
        _ ≤ 2 ^ 256 := Nat.pow_le_pow_right (by decide) hbx) (by
      calc x < 2 ^ bl x := lt_bl x
        _ = 2 ^ (bl b - 1) * 2 ^ (bl x - bl b + 1) := by rw [← Nat.pow_add]; congr 1; have := bl_pos hb0; omega
        _ ≤ b * 2 ^ (bl x - bl b + 1) := Nat.mul_le_mul_right _ hlow) (by rw [Nat.zero_mul, Nat.zero_mul, Nat.zero_add])
    rw [← hz2, ← e] at h
    exact h
  · have hlt : x < b := by
      rcases Nat.lt_or_ge x b with h | h
      · exact h
      · have : bl b ≤ bl x := (bl_le b _).2 (Nat.lt_of_le_of_lt h (lt_bl x)); omega
    obtain ⟨f, rfl⟩ : ∃ g, n = g + 1 := ⟨n - 1, by omega⟩
    rw [uquo_l0, uquo_b0, decide_eq_false (show ¬ ((bl x : Nat) : Int) - ((bl b : Nat) : Int) ≥ 0 by omega), cond_false, Nat.div_eq_of_lt hlt, Nat.mod_eq_of_lt hlt, zero_uw]

end Go.Ev
end

section
/-
  PRODUCTS AND QUOTIENTS of 64 bits: plain laws of the printed functions.
-/
set_option linter.all false
namespace Go.Ev
variable {A : Type}

theorem hi_parts (P Q R S : Nat) : (P * 18446744073709551616 + (Q + R) * 4294967296 + S) / 18446744073709551616 = P + (Q + S / 4294967296) / 4294967296 + ((Q + S / 4294967296) % 4294967296 + R) / 4294967296 := by omega
theorem prod_parts (x1 x0 y1 y0 : Nat) : (x1 * 4294967296 + x0) * (y1 * 4294967296 + y0) = x1 * y1 * 18446744073709551616 + (x1 * y0 + x0 * y1) * 4294967296 + x0 * y0 := by
  rw [Nat.add_mul, Nat.mul_add, Nat.mul_add, Nat.add_mul]
  have e1 : x1 * 4294967296 * (y1 * 4294967296) = x1 * y1 * 18446744073709551616 := by
    rw [Nat.mul_assoc, Nat.mul_left_comm 4294967296 y1, ← Nat.mul_assoc]
  have e2 : x1 * 4294967296 * y0 = x1 * y0 * 4294967296 := by rw [Nat.mul_assoc, Nat.mul_comm 4294967296, ← Nat.mul_assoc]
  have e3 : x0 * (y1 * 4294967296) = x0 * y1 * 4294967296 := by rw [Nat.mul_assoc]
  rw [e1, e2, e3]; omega
theorem mul_lt32 {a b : Nat} (ha : a < 4294967296) (hb : b < 4294967296) : a * b ≤ 18446744065119617025 := by
  have := Nat.mul_le_mul (show a ≤ 4294967295 by omega) (show b ≤ 4294967295 by omega)
  omega
theorem shr32 (x : Nat) : shr .u64 (x : Int) 32 = ((x / 4294967296 : Nat) : Int) := shr_u64 x 32 (by decide)
theorem and32 (x : Nat) (hx : x < 18446744073709551616) : iand .u64 (x : Int) 4294967295 = ((x % 4294967296 : Nat) : Int) := by
  rw [show (4294967295 : Int) = ((4294967295 : Nat) : Int) from rfl, iand_u64 x _ hx (by decide), show 4294967295 = 2 ^ 32 - 1 from rfl, Nat.and_two_pow_sub_one_eq_mod]

theorem mul64_law (n x y : Nat) (hx : x < 18446744073709551616) (hy : y < 18446744073709551616) (g : Int → Int → Option A) : mul64_k n (x : Int) (y : Int) g = g ((x * y / 18446744073709551616 : Nat) : Int) ((x * y % 18446744073709551616 : Nat) : Int) := by
  unfold mul64_k mul64_p
  rw [shr32, shr32, and32 x hx, and32 y hy]
  have hx1 : x / 4294967296 < 4294967296 := by omega
  have hy1 : y / 4294967296 < 4294967296 := by omega
  have hx0 : x % 4294967296 < 4294967296 := by omega
  have hy0 : y % 4294967296 < 4294967296 := by omega
  have hxd : x / 4294967296 * 4294967296 + x % 4294967296 = x := Nat.div_add_mod' _ _
  have hyd : y / 4294967296 * 4294967296 + y % 4294967296 = y := Nat.div_add_mod' _ _
  have hpp := prod_parts (x / 4294967296) (x % 4294967296) (y / 4294967296) (y % 4294967296)
  rw [hxd, hyd] at hpp
  have b1 := mul_lt32 hx1 hy1
  have b2 := mul_lt32 hx1 hy0
  have b3 := mul_lt32 hx0 hy1
  have b4 := mul_lt32 hx0 hy0
  simp only [← Int.natCast_mul]
  generalize x / 4294967296 * (y / 4294967296) = P at *
  generalize x / 4294967296 * (y % 4294967296) = Q at *
  generalize x % 4294967296 * (y / 4294967296) = R at *
  generalize x % 4294967296 * (y % 4294967296) = S at *
  rw [wrap_u64_nat P (by omega), wrap_u64_nat Q (by omega), wrap_u64_nat S (by omega), wrap_u64_nat R (by omega), shr32]
  rw [← Int.natCast_add, wrap_u64_nat (Q + S / 4294967296) (by omega), shr32, and32 _ (by omega), ← Int.natCast_add, ← Int.natCast_add, wrap_u64_nat (P + _) (by omega), wrap_u64_nat _ (by omega), shr32, ← Int.natCast_add, wrap_u64_nat _ (by omega), wrap_u64_mod]
  have hhi := hi_parts P Q R S
  rw [← hpp] at hhi
  rw [hhi]

-- ------------------------------------------------------------ by one word

theorem umul_l0_law (n : Nat) (x y : Nat) (hy : y < 18446744073709551616) (t4 : List Int) (g : Int → List Int → Option A) : ∀ (d f i c : Nat) (l : List Nat), i + d = 4 → d < f → c < 18446744073709551616 → (x * y) / 2 ^ (64 * i) = x / 2 ^ (64 * i) * y + c → Mix (x * y) x i l →
    ∃ c', (x * y) / 2 ^ (64 * 4) = x / 2 ^ (64 * 4) * y + c' ∧ umul_l0 (mul64_k n) (add64_k n) n (y : Int) t4 g f (c : Int) (i : Int) (ints l) = g (c' : Int) (ints (uw (x * y))) := by
  intro d
  induction d with
  | zero =>
    intro f i c l hi hf hc he hm
    obtain ⟨f, rfl⟩ : ∃ g, f = g + 1 := ⟨f - 1, by omega⟩
    have : i = 4 := by omega
    subst this
    refine ⟨c, he, ?_⟩
    rw [umul_l0, umul_b0, decide_eq_false (show ¬ ((4 : Nat) : Int) < 4 by omega), cond_false, hm.done]
  | succ d ih =>
    intro f i c l hi hf hc he hm
    obtain ⟨f, rfl⟩ : ∃ g, f = g + 1 := ⟨f - 1, by omega⟩
    have hx := wd_split x i
    have hz := wd_split (x * y) i
    have bx := wd_lt x i
    have bz := wd_lt (x * y) i
    have hp : wd x i * y ≤ 18446744073709551615 * 18446744073709551615 := Nat.mul_le_mul (by omega) (by omega)
    rw [hx, Nat.add_mul, Nat.mul_assoc] at he
    have e3 : IntKind.wrap .i64 ((i : Int) + 1) = ((i + 1 : Nat) : Int) := by rw [wrap_id (by omega) (by omega)]; omega
    generalize hP : wd x i * y = P at he hp
    generalize hX : x / 2 ^ (64 * (i + 1)) * y = X at he
    rw [hz] at he
    have e1 : (P % 18446744073709551616 + c + 0) % 18446744073709551616 = wd (x * y) i := by omega
    have e2 : x * y / 2 ^ (64 * (i + 1)) = X + (P / 18446744073709551616 + (P % 18446744073709551616 + c + 0) / 18446744073709551616) := by omega
    have e4 : IntKind.wrap .u64 (((P / 18446744073709551616 : Nat) : Int) + (((P % 18446744073709551616 + c + 0) / 18446744073709551616 : Nat) : Int)) = ((P / 18446744073709551616 + (P % 18446744073709551616 + c + 0) / 18446744073709551616 : Nat) : Int) := by
      rw [← Int.natCast_add]; exact wrap_u64_nat _ (by omega)
    obtain ⟨c', h1, h2⟩ := ih f (i + 1) (P / 18446744073709551616 + (P % 18446744073709551616 + c + 0) / 18446744073709551616) (l.set i (wd (x * y) i)) (by omega) (by omega) (by omega) (by rw [hX]; exact e2) (hm.step (by omega))
    refine ⟨c', h1, ?_⟩
    rw [umul_l0, umul_b0, decide_eq_true (show (i : Int) < 4 by omega), cond_true, if_pos (by omega), if_pos (by omega), Int.toNat_natCast, hm.at (by omega), Option.bind_some, mul64_law n _ _ bx hy, hP, show (0 : Int) = ((0 : Nat) : Int) from rfl, add64_at n _ _ 0 (by decide), if_pos (by omega), if_pos (by omega), if_pos (by omega), e1, e3, e4, ints_set]
    exact h2

theorem umul_law (n : Nat) (hn : 10 < n) (x y : Nat) (hx : x < 2 ^ 256) (hy : y < 18446744073709551616) (g : List Int → Int → Option A) : umul_k n (ints (uw x)) (y : Int) g = g (ints (uw (x * y % 2 ^ 256))) ((x * y / 2 ^ 256 : Nat) : Int) := by
  unfold umul_k umul_p
  obtain ⟨c', h1, h2⟩ := umul_l0_law n x y hy [0, 0, 0, 0] (fun y5 y6 => g y6 y5) 4 n 0 0 (uw x) (by omega) (by omega) (by omega) (by rw [Nat.mul_zero, Nat.pow_zero, Nat.div_one, Nat.div_one]; rfl) (.start _ _)
  rw [P4_zero hx, Nat.zero_mul, Nat.zero_add, show 2 ^ (64 * 4) = 2 ^ 256 from by decide] at h1
  refine Eq.trans h2 ?_
  rw [uw_mod, h1]

-- ------------------------------------------------------------ two words by one

theorem quo_of {a b q : Nat} (hb : 0 < b) (h1 : q * b ≤ a) (h2 : a / b ≤ q) : q = a / b := Nat.le_antisymm ((Nat.le_div_iff_mul_le hb).2 h1) h2

section digit
variable (y1 y0 u v : Nat)
theorem est_ok {q r : Nat} (hy1 : 0 < y1) (h : q * y1 + r = u) (hc : q * y0 ≤ 4294967296 * r + v) (hq : (u * 4294967296 + v) / (y1 * 4294967296 + y0) ≤ q) : q = (u * 4294967296 + v) / (y1 * 4294967296 + y0) := by
  refine quo_of (by omega) ?_ hq
  rw [Nat.mul_add, ← Nat.mul_assoc]
  generalize q * y1 = a at *
  generalize q * y0 = b at *
  omega
theorem est_big {q r : Nat} (hy1 : 0 < y1) (hu : u < y1 * 4294967296 + y0) (hv : v < 4294967296) (h : q * y1 + r = u) (hc : 4294967296 ≤ q ∨ 4294967296 * r + v < q * y0) : (u * 4294967296 + v) / (y1 * 4294967296 + y0) < q := by
  rcases hc with hc | hc
  · refine Nat.lt_of_lt_of_le ?_ hc
    rw [Nat.div_lt_iff_lt_mul (by omega)]
    omega
  · rw [Nat.div_lt_iff_lt_mul (by omega), Nat.mul_add, ← Nat.mul_assoc]
    generalize q * y1 = a at *
    generalize q * y0 = b at *
    omega
theorem est_start (hv : v < 4294967296) (hy1 : 0 < y1) : (u * 4294967296 + v) / (y1 * 4294967296 + y0) ≤ u / y1 := by
  rw [Nat.le_div_iff_mul_le hy1]
  have h := Nat.div_mul_le_self (u * 4294967296 + v) (y1 * 4294967296 + y0)
  generalize (u * 4294967296 + v) / (y1 * 4294967296 + y0) = Q at *
  rw [Nat.mul_add, ← Nat.mul_assoc] at h
  generalize Q * y1 = a at *
  generalize Q * y0 = b at *
  omega
theorem est_small (hy1 : 2147483648 ≤ y1) (hy0 : y0 < 4294967296) (hu : u < y1 * 4294967296 + y0) : u / y1 ≤ 4294967297 := by
  have : u / y1 < 4294967298 := by
    rw [Nat.div_lt_iff_lt_mul (by omega)]
    omega
  omega
theorem est_prod {q : Nat} (hq : q ≤ 4294967296) (hy0 : y0 < 4294967296) : q * y0 ≤ 18446744069414584320 := by
  have := Nat.mul_le_mul hq (show y0 ≤ 4294967295 by omega)
  omega

theorem div64_l0_law (L : Int → (Int → Option A) → Option A) (n : Nat) (Y S U0 : Int) (k0 : Int → Option A) (hy1 : 2147483648 ≤ y1) (hy12 : y1 < 4294967296) (hy0 : y0 < 4294967296) (hu : u < y1 * 4294967296 + y0) (hv : v < 4294967296) : ∀ (d f q r : Nat), d < f → q * y1 + r = u → r < 4294967296 → 4294967296 ≤ r + d * y1 → q ≤ 4294967297 → (u * 4294967296 + v) / (y1 * 4294967296 + y0) ≤ q →
    div64_l0 L n Y S (y1 : Int) (y0 : Int) (u : Int) (v : Int) U0 k0 f (q : Int) (r : Int) = k0 (((u * 4294967296 + v) / (y1 * 4294967296 + y0) : Nat) : Int) := by
  intro d
  induction d with
  | zero => intro f q r hf h hr hd; omega
  | succ d ih =>
    intro f q r hf h hr hd hq hQ
    obtain ⟨f, rfl⟩ : ∃ g, f = g + 1 := ⟨f - 1, by omega⟩
    have e1 : IntKind.wrap .u64 ((r : Int) + (y1 : Int)) = ((r + y1 : Nat) : Int) := by rw [← Int.natCast_add]; exact wrap_u64_nat _ (by omega)
    have e4 : IntKind.wrap .u64 (IntKind.wrap .u64 (4294967296 * (r : Int)) + (v : Int)) = ((4294967296 * r + v : Nat) : Int) := by
      rw [show 4294967296 * (r : Int) = ((4294967296 * r : Nat) : Int) from by omega, wrap_u64_nat _ (by omega), ← Int.natCast_add]; exact wrap_u64_nat _ (by omega)
    have down : (4294967296 ≤ q ∨ 4294967296 * r + v < q * y0) → (bif decide (IntKind.wrap .u64 ((r : Int) + (y1 : Int)) ≥ 4294967296) then k0 (IntKind.wrap .u64 ((q : Int) - 1)) else div64_l0 L n Y S (y1 : Int) (y0 : Int) (u : Int) (v : Int) U0 k0 f (IntKind.wrap .u64 ((q : Int) - 1)) (IntKind.wrap .u64 ((r : Int) + (y1 : Int)))) = k0 (((u * 4294967296 + v) / (y1 * 4294967296 + y0) : Nat) : Int) := fun hc => by
      have hb := est_big y1 y0 u v (by omega) hu hv h hc
      have hq0 : 0 < q := Nat.lt_of_le_of_lt (Nat.zero_le _) hb
      have e2 : IntKind.wrap .u64 ((q : Int) - 1) = ((q - 1 : Nat) : Int) := by rw [show (q : Int) - 1 = ((q - 1 : Nat) : Int) from by omega]; exact wrap_u64_nat _ (by omega)
      have h2 : (q - 1) * y1 + (r + y1) = u := by
        have : q * y1 = (q - 1) * y1 + y1 := by rw [← Nat.succ_mul, Nat.succ_eq_add_one, Nat.sub_add_cancel hq0]
        omega
      rw [e1, e2]
      by_cases hbr : 4294967296 ≤ r + y1
      · have hp := est_prod y0 (q := q - 1) (by omega) hy0
        rw [decide_eq_true (show ((r + y1 : Nat) : Int) ≥ 4294967296 by omega), cond_true, est_ok y1 y0 u v (by omega) h2 (by omega) (by omega)]
      · rw [decide_eq_false (show ¬ ((r + y1 : Nat) : Int) ≥ 4294967296 by omega), cond_false]
        exact ih f (q - 1) (r + y1) (by omega) h2 (by omega) (by rw [Nat.add_mul, Nat.one_mul] at hd; omega) (by omega) (by omega)
    rw [div64_l0, div64_b0]
    by_cases hb : 4294967296 ≤ q
    · rw [decide_eq_true (show (q : Int) ≥ 4294967296 by omega), cond_true]
      exact down (.inl hb)
    · have hp := est_prod y0 (q := q) (by omega) hy0
      have e3 : IntKind.wrap .u64 ((q : Int) * (y0 : Int)) = ((q * y0 : Nat) : Int) := by rw [← Int.natCast_mul]; exact wrap_u64_nat _ (by omega)
      rw [decide_eq_false (show ¬ (q : Int) ≥ 4294967296 by omega), cond_false, e3, e4]
      by_cases hc : 4294967296 * r + v < q * y0
      · rw [decide_eq_true (show ((q * y0 : Nat) : Int) > ((4294967296 * r + v : Nat) : Int) by omega), cond_true]
        exact down (.inr hc)
      · rw [decide_eq_false (show ¬ ((q * y0 : Nat) : Int) > ((4294967296 * r + v : Nat) : Int) by omega), cond_false, ← est_ok y1 y0 u v (by omega) h (by omega) hQ]

theorem div64_l1_law (L : Int → (Int → Option A) → Option A) (n : Nat) (Y S U0 U1 : Int) (k0 : Int → Option A) (hy1 : 2147483648 ≤ y1) (hy12 : y1 < 4294967296) (hy0 : y0 < 4294967296) (hu : u < y1 * 4294967296 + y0) (hv : v < 4294967296) : ∀ (d f q r : Nat), d < f → q * y1 + r = u → r < 4294967296 → 4294967296 ≤ r + d * y1 → q ≤ 4294967297 → (u * 4294967296 + v) / (y1 * 4294967296 + y0) ≤ q →
    div64_l1 L n Y S (y1 : Int) (y0 : Int) (v : Int) U0 U1 k0 f (r : Int) (q : Int) = k0 (((u * 4294967296 + v) / (y1 * 4294967296 + y0) : Nat) : Int) := by
  intro d
  induction d with
  | zero => intro f q r hf h hr hd; omega
  | succ d ih =>
    intro f q r hf h hr hd hq hQ
    obtain ⟨f, rfl⟩ : ∃ g, f = g + 1 := ⟨f - 1, by omega⟩
    have e1 : IntKind.wrap .u64 ((r : Int) + (y1 : Int)) = ((r + y1 : Nat) : Int) := by rw [← Int.natCast_add]; exact wrap_u64_nat _ (by omega)
    have e4 : IntKind.wrap .u64 (IntKind.wrap .u64 (4294967296 * (r : Int)) + (v : Int)) = ((4294967296 * r + v : Nat) : Int) := by
      rw [show 4294967296 * (r : Int) = ((4294967296 * r : Nat) : Int) from by omega, wrap_u64_nat _ (by omega), ← Int.natCast_add]; exact wrap_u64_nat _ (by omega)
    have down : (4294967296 ≤ q ∨ 4294967296 * r + v < q * y0) → (bif decide (IntKind.wrap .u64 ((r : Int) + (y1 : Int)) ≥ 4294967296) then k0 (IntKind.wrap .u64 ((q : Int) - 1)) else div64_l1 L n Y S (y1 : Int) (y0 : Int) (v : Int) U0 U1 k0 f (IntKind.wrap .u64 ((r : Int) + (y1 : Int))) (IntKind.wrap .u64 ((q : Int) - 1))) = k0 (((u * 4294967296 + v) / (y1 * 4294967296 + y0) : Nat) : Int) := fun hc => by
      have hb := est_big y1 y0 u v (by omega) hu hv h hc
      have hq0 : 0 < q := Nat.lt_of_le_of_lt (Nat.zero_le _) hb
      have e2 : IntKind.wrap .u64 ((q : Int) - 1) = ((q - 1 : Nat) : Int) := by rw [show (q : Int) - 1 = ((q - 1 : Nat) : Int) from by omega]; exact wrap_u64_nat _ (by omega)
      have h2 : (q - 1) * y1 + (r + y1) = u := by
        have : q * y1 = (q - 1) * y1 + y1 := by rw [← Nat.succ_mul, Nat.succ_eq_add_one, Nat.sub_add_cancel hq0]
        omega
      rw [e1, e2]
      by_cases hbr : 4294967296 ≤ r + y1
      · have hp := est_prod y0 (q := q - 1) (by omega) hy0
        rw [decide_eq_true (show ((r + y1 : Nat) : Int) ≥ 4294967296 by omega), cond_true, est_ok y1 y0 u v (by omega) h2 (by omega) (by omega)]
      · rw [decide_eq_false (show ¬ ((r + y1 : Nat) : Int) ≥ 4294967296 by omega), cond_false]
        exact ih f (q - 1) (r + y1) (by omega) h2 (by omega) (by rw [Nat.add_mul, Nat.one_mul] at hd; omega) (by omega) (by omega)
    rw [div64_l1, div64_b1]
    by_cases hb : 4294967296 ≤ q
    · rw [decide_eq_true (show (q : Int) ≥ 4294967296 by omega), cond_true]
      exact down (.inl hb)
    · have hp := est_prod y0 (q := q) (by omega) hy0
      have e3 : IntKind.wrap .u64 ((q : Int) * (y0 : Int)) = ((q * y0 : Nat) : Int) := by rw [← Int.natCast_mul]; exact wrap_u64_nat _ (by omega)
      rw [decide_eq_false (show ¬ (q : Int) ≥ 4294967296 by omega), cond_false, e3, e4]
      by_cases hc : 4294967296 * r + v < q * y0
      · rw [decide_eq_true (show ((q * y0 : Nat) : Int) > ((4294967296 * r + v : Nat) : Int) by omega), cond_true]
        exact down (.inr hc)
      · rw [decide_eq_false (show ¬ ((q * y0 : Nat) : Int) > ((4294967296 * r + v : Nat) : Int) by omega), cond_false, ← est_ok y1 y0 u v (by omega) h (by omega) hQ]
end digit

end Go.Ev
end

section
/-
  TWO WORDS BY ONE: the quotient and what is left.
-/
set_option linter.all false
namespace Go.Ev
variable {A : Type}

theorem lz64_law (n x : Nat) (hx : x < 18446744073709551616) (g : Int → Option A) : lz64_k n (x : Int) g = g ((64 - bl x : Nat) : Int) := by
  unfold lz64_k lz64_p
  have h : bl x ≤ 64 := (bl_le x 64).2 hx
  rw [len64_law n x hx, wrap_id (x := 64 - ((bl x : Nat) : Int)) (by omega) (by omega), show 64 - ((bl x : Nat) : Int) = ((64 - bl x : Nat) : Int) from by omega]

theorem wrap_rem (u v p R : Nat) (h : u * 4294967296 + v = p + R) (hR : R < 18446744073709551616) : IntKind.wrap .u64 (IntKind.wrap .u64 (IntKind.wrap .u64 ((u : Int) * 4294967296) + (v : Int)) - IntKind.wrap .u64 ((p : Nat) : Int)) = ((R : Nat) : Int) := by
  rw [wrap_u64, wrap_u64, wrap_u64, wrap_u64]
  omega

theorem start_q (u y1 : Nat) (hu : u < 18446744073709551616) (h1 : 0 < y1) : IntKind.wrap .u64 (Int.tdiv (u : Int) (y1 : Int)) = ((u / y1 : Nat) : Int) := by
  rw [tdiv_nat]
  exact wrap_u64_nat _ (Nat.lt_of_le_of_lt (Nat.div_le_self _ _) hu)
theorem start_r (u y1 : Nat) (hu : u < 18446744073709551616) : IntKind.wrap .u64 ((u : Int) - IntKind.wrap .u64 (((u / y1 : Nat) : Int) * (y1 : Int))) = ((u % y1 : Nat) : Int) := by
  have h := Nat.div_add_mod u y1
  rw [Nat.mul_comm] at h
  rw [← Int.natCast_mul]
  generalize u / y1 * y1 = p at *
  generalize u % y1 = r at *
  rw [wrap_u64_nat p (by omega), show (u : Int) - (p : Int) = (r : Int) from by omega]
  exact wrap_u64_nat _ (by omega)

theorem div_lin (U V a b R1 R0 : Nat) (h1 : U * 4294967296 + V / 4294967296 = a + R1) (h2 : R1 * 4294967296 + V % 4294967296 = b + R0) : U * 18446744073709551616 + V = a * 4294967296 + b + R0 := by
  have e : U * 18446744073709551616 = U * 4294967296 * 4294967296 := by rw [Nat.mul_assoc]
  calc U * 18446744073709551616 + V = U * 4294967296 * 4294967296 + (V / 4294967296 * 4294967296 + V % 4294967296) := by rw [e, Nat.div_add_mod']
    _ = (U * 4294967296 + V / 4294967296) * 4294967296 + V % 4294967296 := by rw [Nat.add_mul, Nat.add_assoc]
    _ = a * 4294967296 + (R1 * 4294967296 + V % 4294967296) := by rw [h1, Nat.add_mul, Nat.add_assoc]
    _ = a * 4294967296 + b + R0 := by rw [h2, Nat.add_assoc]

theorem div_final (N y s Y U V Q1 R1 Q0 R0 : Nat) (hY : Y = y * 2 ^ s) (hy : 0 < y) (h0 : N * 2 ^ s = U * 18446744073709551616 + V)
    (h1 : U * 4294967296 + V / 4294967296 = Q1 * Y + R1) (h2 : R1 * 4294967296 + V % 4294967296 = Q0 * Y + R0) (hR : R0 < Y) :
    Q1 * 4294967296 + Q0 = N / y ∧ R0 / 2 ^ s = N % y := by
  have h3 : N * 2 ^ s = (Q1 * 4294967296 + Q0) * Y + R0 := by
    have e1 : (Q1 * 4294967296 + Q0) * Y = Q1 * Y * 4294967296 + Q0 * Y := by
      rw [Nat.add_mul, Nat.mul_assoc, Nat.mul_comm 4294967296 Y, ← Nat.mul_assoc]
    rw [h0, e1]
    exact div_lin U V (Q1 * Y) (Q0 * Y) R1 R0 h1 h2
  have hp : 0 < 2 ^ s := Nat.two_pow_pos s
  constructor
  · rw [← Nat.mul_div_mul_right N y hp, ← hY, h3, Nat.add_comm (_ * Y), Nat.add_mul_div_right _ _ (by omega), Nat.div_eq_of_lt hR, Nat.zero_add]
  · have h4 : R0 = N % y * 2 ^ s := by
      rw [← Nat.mul_mod_mul_right, ← hY, h3, Nat.add_comm (_ * Y), Nat.add_mul_mod_self_right, Nat.mod_eq_of_lt hR]
    rw [h4, Nat.mul_div_cancel _ hp]

theorem div64_law (n : Nat) (hn : 10 < n) (hi lo y : Nat) (hy : y < 18446744073709551616) (hhi : hi < y) (hlo : lo < 18446744073709551616) (g : Int → Int → Option A) :
    div64_k n (hi : Int) (lo : Int) (y : Int) g = g (((hi * 18446744073709551616 + lo) / y : Nat) : Int) (((hi * 18446744073709551616 + lo) % y : Nat) : Int) := by
  unfold div64_k div64_p
  rw [show ((y : Int) == 0) = false from by rw [beq_eq_false_iff_ne]; omega, cond_false, decide_eq_false (show ¬ (y : Int) ≤ (hi : Int) by omega), cond_false]
  by_cases h0 : hi = 0
  · subst h0
    rw [show (((0 : Nat) : Int) == 0) = true from rfl, cond_true, if_neg (by omega), if_neg (by omega), tdiv_nat, tmod_nat, wrap_u64_nat (lo / y) (Nat.lt_of_le_of_lt (Nat.div_le_self _ _) hlo), Nat.zero_mul, Nat.zero_add]
  · rw [show ((hi : Int) == 0) = false from by rw [beq_eq_false_iff_ne]; omega, cond_false, lz64_law n y hy]
    have hbl : bl y ≤ 64 := (bl_le y 64).2 hy
    have hbp : 0 < bl y := bl_pos (by omega)
    have hlow : 2 ^ (bl y - 1) ≤ y := le_of_bl (by omega)
    have hhigh : y < 2 ^ bl y := lt_bl y
    generalize hs : 64 - bl y = s at *
    have hs64 : s ≤ 64 := by omega
    have hYlt : y * 2 ^ s < 18446744073709551616 := by
      calc y * 2 ^ s < 2 ^ bl y * 2 ^ s := Nat.mul_lt_mul_of_pos_right hhigh (Nat.two_pow_pos s)
        _ = 2 ^ 64 := by rw [← Nat.pow_add]; congr 1; omega
        _ = 18446744073709551616 := by decide
    have hYge : 9223372036854775808 ≤ y * 2 ^ s := by
      calc 9223372036854775808 = 2 ^ 63 := by decide
        _ = 2 ^ (bl y - 1) * 2 ^ s := by rw [← Nat.pow_add]; congr 1; omega
        _ ≤ y * 2 ^ s := Nat.mul_le_mul_right _ hlow
    have hU1 : hi * 2 ^ s + 2 ^ s ≤ y * 2 ^ s := by
      rw [← Nat.succ_mul]; exact Nat.mul_le_mul_right _ hhi
    have hls : lo * 2 ^ s / 18446744073709551616 = lo / 2 ^ (64 - s) := by
      rw [show 18446744073709551616 = 2 ^ (64 - s) * 2 ^ s from by rw [← Nat.pow_add, show 64 - s + s = 64 from by omega], Nat.mul_div_mul_right _ _ (Nat.two_pow_pos s)]
    have hlt : lo / 2 ^ (64 - s) < 2 ^ s := by
      rw [Nat.div_lt_iff_lt_mul (Nat.two_pow_pos _), ← Nat.pow_add, show s + (64 - s) = 64 from by omega]; omega
    have hN : (hi * 18446744073709551616 + lo) * 2 ^ s = (hi * 2 ^ s + lo / 2 ^ (64 - s)) * 18446744073709551616 + lo * 2 ^ s % 18446744073709551616 := by
      have := Nat.div_add_mod (lo * 2 ^ s) 18446744073709551616
      rw [hls] at this
      rw [Nat.add_mul, Nat.add_mul, Nat.mul_right_comm hi]
      omega
    have eS : IntKind.wrap .u64 ((s : Nat) : Int) = ((s : Nat) : Int) := wrap_u64_nat _ (by omega)
    have eT : IntKind.wrap .u64 (64 - ((s : Nat) : Int)) = ((64 - s : Nat) : Int) := by rw [show 64 - ((s : Nat) : Int) = ((64 - s : Nat) : Int) from by omega]; exact wrap_u64_nat _ (by omega)
    have eY : shl .u64 (y : Int) ((s : Nat) : Int) = ((y * 2 ^ s : Nat) : Int) := by rw [shl_u64 y s hs64, Nat.mod_eq_of_lt hYlt]
    have eU : ior .u64 (shl .u64 (hi : Int) ((s : Nat) : Int)) (shr .u64 (lo : Int) ((64 - s : Nat) : Int)) = ((hi * 2 ^ s + lo / 2 ^ (64 - s) : Nat) : Int) := by
      rw [shl_u64 hi s hs64, shr_u64 lo (64 - s) (by omega), Nat.mod_eq_of_lt (by omega), ior_u64 _ _ (by omega) (by omega), or_parts hi _ s hlt]
    have eV : shl .u64 (lo : Int) ((s : Nat) : Int) = ((lo * 2 ^ s % 18446744073709551616 : Nat) : Int) := shl_u64 lo s hs64
    have hV : lo * 2 ^ s % 18446744073709551616 < 18446744073709551616 := Nat.mod_lt _ (by decide)
    rw [eS, eT, eY, eU, eV]
    generalize hYY : y * 2 ^ s = Y at *
    generalize hUU : hi * 2 ^ s + lo / 2 ^ (64 - s) = U at *
    generalize lo * 2 ^ s % 18446744073709551616 = V at *
    have hUY : U < Y := by omega
    rw [shr32, shr32, and32 _ hYlt, and32 _ hV]
    have hy1 : 2147483648 ≤ Y / 4294967296 := by omega
    have hy12 : Y / 4294967296 < 4294967296 := by omega
    have hy0 : Y % 4294967296 < 4294967296 := by omega
    have hYd : Y / 4294967296 * 4294967296 + Y % 4294967296 = Y := Nat.div_add_mod' _ _
    have hv1 : V / 4294967296 < 4294967296 := by omega
    have hv0 : V % 4294967296 < 4294967296 := by omega
    rw [start_q U _ (by omega) (by omega), start_r U _ (by omega)]
    rw [if_neg (by omega), if_neg (by omega), if_neg (by omega), if_neg (by omega), if_neg (by omega)]
    have l0 := fun (k0 : Int → Option A) => div64_l0_law (Y / 4294967296) (Y % 4294967296) U (V / 4294967296) (lz64_k n) n (Y : Int) (s : Int) ((V % 4294967296 : Nat) : Int) k0 hy1 hy12 hy0 (by omega) hv1 2 n (U / (Y / 4294967296)) (U % (Y / 4294967296)) (by omega) (Nat.div_add_mod' _ _)
      (Nat.lt_trans (Nat.mod_lt _ (by omega)) hy12) (by omega) (est_small _ _ _ hy1 hy0 (by omega)) (est_start _ _ _ _ hv1 (by omega))
    rw [l0, if_neg (by omega), hYd]
    have hd1 := Nat.div_add_mod' (U * 4294967296 + V / 4294967296) Y
    have hR1 : (U * 4294967296 + V / 4294967296) % Y < Y := Nat.mod_lt _ (by omega)
    have hQ1b : (U * 4294967296 + V / 4294967296) / Y < 4294967296 := by rw [Nat.div_lt_iff_lt_mul (by omega)]; omega
    obtain ⟨Q1, hQ1⟩ : ∃ q, q = (U * 4294967296 + V / 4294967296) / Y := ⟨_, rfl⟩
    obtain ⟨R1, hR1e⟩ : ∃ q, q = (U * 4294967296 + V / 4294967296) % Y := ⟨_, rfl⟩
    rw [← hQ1] at hQ1b
    rw [← hQ1, ← hR1e] at hd1
    rw [← hR1e] at hR1
    rw [← hQ1]
    have e21 : IntKind.wrap .u64 (IntKind.wrap .u64 (IntKind.wrap .u64 ((U : Int) * 4294967296) + ((V / 4294967296 : Nat) : Int)) - IntKind.wrap .u64 ((Q1 : Int) * (Y : Int))) = ((R1 : Nat) : Int) := by
      rw [← Int.natCast_mul]; exact wrap_rem U _ _ R1 hd1.symm (by omega)
    rw [e21, start_q R1 _ (by omega) (by omega), start_r R1 _ (by omega)]
    have l1 := fun (k0 : Int → Option A) => div64_l1_law (Y / 4294967296) (Y % 4294967296) R1 (V % 4294967296) (lz64_k n) n (Y : Int) (s : Int) (Q1 : Int) (R1 : Int) k0 hy1 hy12 hy0 (by omega) hv0 2 n (R1 / (Y / 4294967296)) (R1 % (Y / 4294967296)) (by omega) (Nat.div_add_mod' _ _)
      (Nat.lt_trans (Nat.mod_lt _ (by omega)) hy12) (by omega) (est_small _ _ _ hy1 hy0 (by omega)) (est_start _ _ _ _ hv0 (by omega))
    rw [l1, if_neg (by omega), hYd]
    have hd0 := Nat.div_add_mod' (R1 * 4294967296 + V % 4294967296) Y
    have hR0 : (R1 * 4294967296 + V % 4294967296) % Y < Y := Nat.mod_lt _ (by omega)
    have hQ0 : (R1 * 4294967296 + V % 4294967296) / Y < 4294967296 := by rw [Nat.div_lt_iff_lt_mul (by omega)]; omega
    obtain ⟨Q0, hQ0e⟩ : ∃ q, q = (R1 * 4294967296 + V % 4294967296) / Y := ⟨_, rfl⟩
    obtain ⟨R0, hR0e⟩ : ∃ q, q = (R1 * 4294967296 + V % 4294967296) % Y := ⟨_, rfl⟩
    rw [← hQ0e] at hQ0
    rw [← hQ0e, ← hR0e] at hd0
    rw [← hR0e] at hR0
    rw [← hQ0e]
    have e20 : IntKind.wrap .u64 (IntKind.wrap .u64 (IntKind.wrap .u64 ((R1 : Int) * 4294967296) + ((V % 4294967296 : Nat) : Int)) - IntKind.wrap .u64 ((Q0 : Int) * (Y : Int))) = ((R0 : Nat) : Int) := by
      rw [← Int.natCast_mul]; exact wrap_rem R1 _ _ R0 hd0.symm (by omega)
    have eq : IntKind.wrap .u64 (IntKind.wrap .u64 ((Q1 : Int) * 4294967296) + (Q0 : Int)) = ((Q1 * 4294967296 + Q0 : Nat) : Int) := by
      rw [show (Q1 : Int) * 4294967296 = ((Q1 * 4294967296 : Nat) : Int) from by omega, wrap_u64_nat _ (by omega), ← Int.natCast_add]; exact wrap_u64_nat _ (by omega)
    obtain ⟨f1, f2⟩ := div_final (hi * 18446744073709551616 + lo) y s Y U V Q1 R1 Q0 R0 hYY.symm (by omega) hN hd1.symm hd0.symm hR0
    rw [e20, eq, shr_u64 R0 s hs64, f1, f2]

end Go.Ev
end

