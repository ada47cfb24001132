/-
  THE LAWS OF SipRounds, SipRanges, SipRises.
-/
import Derived.Test.YtonpbpkkepacpaaSipL
import Derived.Test.YtonpbpkkepacpaaSipF4
import Derived.Test.YtonpbpkkepacpaaSipF5
import Derived.Test.YtonpbpkkepacpaaSipF6
set_option linter.all false
namespace Go.Ev
variable {A : Type}

theorem wf_u64 {x : Int} (h : IntKind.u64.min ≤ x ∧ x ≤ IntKind.u64.max) : U64 x := by
  have h1 : IntKind.u64.min = 0 := by decide
  have h2 : IntKind.u64.max = 18446744073709551615 := by decide
  rw [h1, h2] at h
  exact ⟨h.1, by omega⟩

theorem wf_four {v : List Int} (h : WF kT29 v) : OK4 v := ⟨h.1, fun x hx => wf_u64 (h.2 x hx)⟩

theorem awake_400 (k : Bool → Option A) : awake_k 400 k = k true := by kernel_rfl

theorem rounds_law (a0 : List Int) (f0 : WF kT29 a0) : ∃ n, rounds_k n a0 (fun r => some r) = some true := by
  refine ⟨400, ?_⟩
  have haw : ∀ k : Bool → Option Bool, awake_k 400 k = k true := awake_400
  have hn : 100 < 400 := by decide
  generalize 400 = n at haw hn
  unfold rounds_k rounds_p
  obtain ⟨w, _, hw⟩ := rround_value n hn a0 (wf_four f0)
  rw [(hw Bool _).2, (hw Bool _).1, deq_self, cond_true, haw]

theorem ranges_law (a0 a1 : Int) (f0 : WF (.int .u64) a0) (f1 : WF (.int .u64) a1) : ∃ n, ranges_k n a0 a1 (fun r => some r) = some true := by
  refine ⟨400, ?_⟩
  have haw : ∀ k : Bool → Option Bool, awake_k 400 k = k true := awake_400
  generalize 400 = n at haw
  obtain ⟨x, rfl, hx⟩ := (wf_u64 f0).nat
  obtain ⟨y, rfl, hy⟩ := (wf_u64 f1).nat
  unfold ranges_k ranges_p
  rw [range_law n x y hx hy, rrange_law n x y hx hy, beq_self_eq_true, cond_true]
  by_cases h0 : y = 0
  · subst h0
    rw [Nat.mul_zero, Nat.zero_div]
    have c1 : decide (((0 : Nat) : Int) < ((0 : Nat) : Int)) = false := by decide
    have c2 : (((0 : Nat) : Int) == 0) = true := by decide
    rw [c1, cond_false, c2, cond_true, cond_true, haw]
  · have hlt : x * y / 18446744073709551616 < y := by
      rw [Nat.div_lt_iff_lt_mul (by decide), Nat.mul_comm]
      exact Nat.mul_lt_mul_of_pos_left hx (by omega)
    have e : decide (((x * y / 18446744073709551616 : Nat) : Int) < (y : Int)) = true := by simp only [decide_eq_true_eq]; omega
    rw [e, cond_true, haw]

theorem imin_nat (x y : Nat) : imin (x : Int) (y : Int) = ((min x y : Nat) : Int) := by unfold imin; split <;> omega
theorem imax_nat (x y : Nat) : imax (x : Int) (y : Int) = ((max x y : Nat) : Int) := by unfold imax; split <;> omega

theorem rises_law (a0 : List Int) (f0 : WF kT29 a0) : ∃ n, rises_k n a0 (fun r => some r) = some true := by
  refine ⟨400, ?_⟩
  have haw : ∀ k : Bool → Option Bool, awake_k 400 k = k true := awake_400
  generalize 400 = n at haw
  obtain ⟨x, y, p, q, rfl, hx, hy, hp, hq⟩ := (wf_four f0).four
  unfold rises_k rises_p
  simp only [List.getElem?_cons_zero, List.getElem?_cons_succ, Option.bind_some, imin_nat, imax_nat]
  rw [range_law n _ _ (by omega) hp, range_law n _ _ (by omega) hp]
  have m1 : min x y * p / 18446744073709551616 ≤ max x y * p / 18446744073709551616 := Nat.div_le_div_right (Nat.mul_le_mul_right _ (by omega))
  have e1 : decide (((min x y * p / 18446744073709551616 : Nat) : Int) ≤ ((max x y * p / 18446744073709551616 : Nat) : Int)) = true := by rw [decide_eq_true_eq]; exact Int.ofNat_le.2 m1
  rw [e1, cond_true, range_law n _ _ hx (by omega), range_law n _ _ hx (by omega)]
  have m2 : x * min p q / 18446744073709551616 ≤ x * max p q / 18446744073709551616 := Nat.div_le_div_right (Nat.mul_le_mul_left _ (by omega))
  have e2 : decide (((x * min p q / 18446744073709551616 : Nat) : Int) ≤ ((x * max p q / 18446744073709551616 : Nat) : Int)) = true := by rw [decide_eq_true_eq]; exact Int.ofNat_le.2 m2
  rw [e2, cond_true, range_law n _ _ hx hy, range_law n _ _ hy hx, Nat.mul_comm y x, beq_self_eq_true, cond_true, haw]

end Go.Ev
