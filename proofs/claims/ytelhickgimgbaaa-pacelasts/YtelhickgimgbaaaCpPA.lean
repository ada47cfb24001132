import Derived.Test.YtelhickgimgbaaaB6
import Derived.Test.YtelhickgimgbaaaB5
import Derived.Test.YtelhickgimgbaaaB7
set_option linter.all false
/-
  PACE: how long a period lasted, as numbers; the law of PaceLasts.
-/
set_option linter.all false
namespace Go.Ev
variable {A : Type}

theorem pawake_1000 (k : Bool → Option A) : pawake_k 1000 k = k true := by kernel_rfl

/-- Held within 1 and 65536. -/
def heldN (x : Int) : Nat := (imin (imax x 1) 65536).toNat
theorem heldN_pos (x : Int) : 1 ≤ heldN x := by unfold heldN imin imax; split <;> split <;> omega
theorem heldN_le (x : Int) : heldN x ≤ 65536 := by unfold heldN imin imax; split <;> split <;> omega
theorem heldN_eq (x : Int) : imin (imax x 1) 65536 = ((heldN x : Nat) : Int) := by unfold heldN imin imax; split <;> split <;> omega
theorem held_law (n : Nat) (x : Int) (g : Int → Option A) : held_k n x g = g ((heldN x : Nat) : Int) := by
  unfold held_k held_p
  have e : ((heldN x : Nat) : Int) = if x < 1 then 1 else if x > 65536 then 65536 else x := by
    rw [← heldN_eq]; unfold imin imax
    repeat' split
    all_goals omega
  rw [e]
  by_cases h : x < 1
  · rw [decide_eq_true h, cond_true, if_pos h]
  · rw [decide_eq_false h, cond_false, if_neg h]
    by_cases h2 : x > 65536
    · rw [decide_eq_true h2, cond_true, if_pos h2]
    · rw [decide_eq_false h2, cond_false, if_neg h2]

/-- How long a period should last. -/
def idealN (a b : Int) : Nat := heldN a * heldN b
theorem idealN_pos (a b : Int) : 1 ≤ idealN a b := Nat.mul_pos (heldN_pos a) (heldN_pos b)
theorem idealN_le (a b : Int) : idealN a b ≤ 4294967296 := Nat.mul_le_mul (heldN_le a) (heldN_le b)
theorem ideal_mul (a b : Int) : IntKind.wrap .i64 (((heldN a : Nat) : Int) * ((heldN b : Nat) : Int)) = ((idealN a b : Nat) : Int) := by
  have h := idealN_le a b
  unfold idealN at *
  rw [← Int.natCast_mul]
  exact wrap_id (by omega) (by omega)
theorem ideal_law (n : Nat) (a b : Int) (g : Int → Option A) : ideal_k n a b g = g ((idealN a b : Nat) : Int) := by
  unfold ideal_k ideal_p
  rw [heldN_eq, heldN_eq, ideal_mul]

/-- How long it counts to have lasted. -/
def lastN (I : Nat) (s t : Int) : Nat := (imin (imax (imax (t - s) ((I / 4 : Nat) : Int)) 1) ((4 * I : Nat) : Int)).toNat
theorem lastN_bounds (I : Nat) (s t : Int) (h : 1 ≤ I) : 1 ≤ lastN I s t ∧ lastN I s t ≤ 4 * I ∧ I / 4 ≤ lastN I s t := by
  unfold lastN imin imax
  split <;> split <;> split <;> omega
theorem lastN_eq (I : Nat) (s t : Int) (h : 1 ≤ I) : imin (imax (imax (t - s) ((I / 4 : Nat) : Int)) 1) ((4 * I : Nat) : Int) = ((lastN I s t : Nat) : Int) := by
  unfold lastN imin imax
  split <;> split <;> split <;> omega

theorem lasted_law (n : Nat) (a b : Int) (s t : Nat) (hs : s < 4294967296) (ht : t < 4294967296) (g : Int → Option A) : lasted_k n a b (s : Int) (t : Int) g = g ((lastN (idealN a b) s t : Nat) : Int) := by
  unfold lasted_k lasted_p
  have h1 := idealN_pos a b
  have h2 := idealN_le a b
  rw [ideal_law]
  have e1 : IntKind.wrap .i64 (s : Int) = (s : Int) := wrap_id (by omega) (by omega)
  have e2 : IntKind.wrap .i64 (t : Int) = (t : Int) := wrap_id (by omega) (by omega)
  have e3 : IntKind.wrap .i64 ((t : Int) - (s : Int)) = (t : Int) - (s : Int) := wrap_id (by omega) (by omega)
  have e4 : IntKind.wrap .i64 (Int.tdiv ((idealN a b : Nat) : Int) 4) = ((idealN a b / 4 : Nat) : Int) := by
    rw [show (4 : Int) = ((4 : Nat) : Int) from rfl, tdiv_nat]; exact wrap_id (by omega) (by omega)
  have e5 : IntKind.wrap .i64 (4 * ((idealN a b : Nat) : Int)) = ((4 * idealN a b : Nat) : Int) := by rw [wrap_id (by omega) (by omega)]; omega
  rw [e1, e2, e3, e4, e5, lastN_eq _ _ _ h1]

theorem rlasted_law (n : Nat) (a b : Int) (s t : Nat) (hs : s < 4294967296) (ht : t < 4294967296) (g : Int → Option A) : rlasted_k n a b (s : Int) (t : Int) g = g ((lastN (idealN a b) s t : Nat) : Int) := by
  unfold rlasted_k rlasted_p
  have h1 := idealN_pos a b
  have h2 := idealN_le a b
  rw [held_law, held_law, ideal_mul, ← lastN_eq _ _ _ h1]
  have e1 : IntKind.wrap .i64 (s : Int) = (s : Int) := wrap_id (by omega) (by omega)
  have e2 : IntKind.wrap .i64 (t : Int) = (t : Int) := wrap_id (by omega) (by omega)
  have e3 : IntKind.wrap .i64 ((t : Int) - (s : Int)) = (t : Int) - (s : Int) := wrap_id (by omega) (by omega)
  have e4 : IntKind.wrap .i64 (Int.tdiv ((idealN a b : Nat) : Int) 4) = ((idealN a b / 4 : Nat) : Int) := by
    rw [show (4 : Int) = ((4 : Nat) : Int) from rfl, tdiv_nat]; exact wrap_id (by omega) (by omega)
  have e5 : IntKind.wrap .i64 (4 * ((idealN a b : Nat) : Int)) = ((4 * idealN a b : Nat) : Int) := by rw [wrap_id (by omega) (by omega)]; omega
  rw [e1, e2, e3, e4, e5]
  generalize ((idealN a b / 4 : Nat) : Int) = Q
  generalize ((4 * idealN a b : Nat) : Int) = F
  generalize (t : Int) - (s : Int) = D
  have e : imin (imax (imax D Q) 1) F = if D < Q then (if Q < 1 then (if 1 > F then F else 1) else (if Q > F then F else Q)) else (if D < 1 then (if 1 > F then F else 1) else (if D > F then F else D)) := by
    unfold imin imax
    repeat' split
    all_goals omega
  rw [e]
  have c : ∀ (p : Prop) [Decidable p] (x y : Int) (u v : Option A), u = g x → v = g y → (bif decide p then u else v) = g (if p then x else y) := fun p _ x y u v hu hv => by
    by_cases hp : p
    · rw [decide_eq_true hp, cond_true, if_pos hp, hu]
    · rw [decide_eq_false hp, cond_false, if_neg hp, hv]
  exact c _ _ _ _ _ (c _ _ _ _ _ (c _ _ _ _ _ rfl rfl) (c _ _ _ _ _ rfl rfl)) (c _ _ _ _ _ (c _ _ _ _ _ rfl rfl) (c _ _ _ _ _ rfl rfl))

theorem wf_pace {v : Int × (Int × (Int × (Int × Unit)))} (h : WF kT43 v) : ∃ (a b : Int) (s t : Nat), v = (a, (b, ((s : Int), ((t : Int), ())))) ∧ s < 4294967296 ∧ t < 4294967296 := by
  obtain ⟨a, b, s, t, u⟩ := v
  obtain ⟨h1, h2, h3, h4, h5⟩ := h
  obtain ⟨s', e1, hs⟩ := wf_int32 h3
  obtain ⟨t', e2, ht⟩ := wf_int32 h4
  have e1' : s = (s' : Int) := e1
  have e2' : t = (t' : Int) := e2
  subst e1'; subst e2'
  exact ⟨a, b, s', t', rfl, hs, ht⟩

theorem lasts_law (a0 : Int × (Int × (Int × (Int × Unit)))) (f0 : WF kT43 a0) : ∃ n, lasts_k n a0 (fun r => some r) = some true := by
  refine ⟨1000, ?_⟩
  have haw : ∀ k : Bool → Option Bool, pawake_k 1000 k = k true := pawake_1000
  generalize 1000 = n at haw
  obtain ⟨a, b, s, t, rfl, hs, ht⟩ := wf_pace f0
  unfold lasts_k lasts_p
  show (lasted_k n a b (s : Int) (t : Int) fun r1 => rlasted_k n a b (s : Int) (t : Int) fun r2 => _) = _
  rw [lasted_law n a b s t hs ht, rlasted_law n a b s t hs ht]
  generalize lastN (idealN a b) s t = L
  rw [show (((L : Nat) : Int) == ((L : Nat) : Int)) = true from by simp, cond_true, haw]

end Go.Ev
