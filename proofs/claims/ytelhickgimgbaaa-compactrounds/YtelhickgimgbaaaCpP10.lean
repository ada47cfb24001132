import Derived.Test.YtelhickgimgbaaaB7
set_option linter.all false
/-
  THE LAW OF CompactRounds.
-/
set_option linter.all false
namespace Go.Ev

theorem bs0 : bs 0 = 0 := rfl
theorem cbN_zero : cbN 0 = 0 := by
  unfold cbN
  have : zN 0 = 0 := by unfold zN; rw [Nat.zero_mul, Nat.zero_div]
  rw [this, bs0]; rfl
theorem ctN_zero : ctN 0 = none := by
  have h := ctN_mk 0 0 (by decide)
  simpa using h

theorem beq_self_int (x : Int) : (x == x) = true := by simp

theorem rounds_law (a0 : List Int) (f0 : WF kA4u64 a0) : ∃ n, rounds_k n a0 (fun r => some r) = some true := by
  refine ⟨1000, ?_⟩
  have haw : ∀ k : Bool → Option Bool, awake_k 1000 k = k true := awake_1000
  have hn : 10 < 1000 := by decide
  generalize 1000 = n at haw hn
  obtain ⟨x, rfl, hx⟩ := wf_four f0
  unfold rounds_k rounds_p
  rw [cbits_law n hn x hx, ctarget_law n hn _ (cbN_lt x hx)]
  by_cases h0 : x = 0
  · subst h0
    rw [cbN_zero, ctN_zero]
    show (bif deq kA4u64 (ints (uw 0)) [0, 0, 0, 0] then _ else _) = _
    rw [zero_uw, deq_self kA4u64, cond_true]
    show (bif ((0 : Int) == 0) then bif ((5 : Int) == 5) then _ else _ else _) = _
    rw [beq_self_int, beq_self_int, cond_true, cond_true, haw]
  · rw [ctN_cbN x h0 hx]
    show (bif deq kA4u64 (ints (uw x)) [0, 0, 0, 0] then _ else _) = _
    have hle := trN_le x
    rw [uw_zero x hx, decide_eq_false h0, cond_false, usub_law n hn x (trN x) hx (by omega), beq_self_int, cond_true, decide_eq_false (show ¬ x < trN x by omega), Bool.not_false, cond_true]
    have e : (x + 2 ^ 256 - trN x) % 2 ^ 256 = x - trN x := by
      rw [show x + 2 ^ 256 - trN x = (x - trN x) + 2 ^ 256 from by omega, Nat.add_mod_right, Nat.mod_eq_of_lt (by omega)]
    rw [e, uw_zero _ (by omega)]
    by_cases h1 : x - trN x = 0
    · rw [decide_eq_true h1, cond_true, canon_law n hn _ (cbN_lt x hx), canN_cbN x h0 hx, cond_true, haw]
    · rw [decide_eq_false h1, cond_false]
      have hl := lost_lt x h0 h1
      have e2 := ushr_law (A := Bool) n hn x 15 hx
      rw [show (15 : Int) = ((15 : Nat) : Int) from rfl, e2, ucmp_law n hn _ _ (by omega) (Nat.lt_of_le_of_lt (Nat.div_le_self _ _) hx)]
      have e3 : decide (ucmpN (x - trN x) (x / 2 ^ 15) < 0) = true := by
        unfold ucmpN
        rw [if_pos hl]; rfl
      rw [e3, cond_true, canon_law n hn _ (cbN_lt x hx), canN_cbN x h0 hx, cond_true, haw]

end Go.Ev
