/-
  THE LAW OF LocateRows.
-/
import Derived.Test.YtkgapdoflncekaaLocP5
import Derived.Test.YtkgapdoflncekaaLocF7
set_option linter.all false
namespace Go.Ev
variable {A : Type}

theorem after_stop_law (n : Nat) (line : Hs) (hl : line.length ≤ 4000) (from_ : Nat) (most : Int) (hm : 0 ≤ most) (stop : List Int) (hs : ∀ x ∈ line, x ≠ stop) (t8 t9 : Int) (k0 : Int → Option A) : ∀ (f to : Nat), from_ + 1 ≤ to → to ≤ line.length → line.length - to < f → ((to : Int) - (from_ : Int) - 1 ≤ most) →
    after_l0 n line (from_ : Int) most t8 t9 stop k0 f (to : Int) = k0 (imin (line.length : Int) ((from_ : Int) + 1 + most))
  | 0, _, _, _, hf, _ => by omega
  | f + 1, to, h1, h2, hf, hmo => by
    have w1 : IntKind.wrap .i64 ((to : Int) - (from_ : Int)) = (to : Int) - (from_ : Int) := wrap_id (by omega) (by omega)
    have w2 : IntKind.wrap .i64 ((to : Int) - (from_ : Int) - 1) = (to : Int) - (from_ : Int) - 1 := wrap_id (by omega) (by omega)
    have w3 : IntKind.wrap .i64 ((to : Int) + 1) = ((to + 1 : Nat) : Int) := by rw [wrap_id (by omega) (by omega)]; omega
    have w4 : IntKind.wrap .i64 (((to + 1 : Nat) : Int) - 1) = (to : Int) := by rw [wrap_id (by omega) (by omega)]; omega
    simp only [after_l0, after_b0]
    rw [w1, w2]
    by_cases hto : to = line.length
    · have e : decide ((to : Int) < (line.length : Int)) = false := by simp; omega
      rw [e, cond_false]
      congr 1
      unfold imin
      split <;> omega
    · have e : decide ((to : Int) < (line.length : Int)) = true := by simp; omega
      rw [e, cond_true]
      by_cases hlt : (to : Int) - (from_ : Int) - 1 < most
      · have e2 : decide ((to : Int) - (from_ : Int) - 1 < most) = true := by simpa using hlt
        have hi : to < line.length := by omega
        rw [e2, cond_true, w3, w4, if_pos (by omega), Int.toNat_natCast, List.getElem?_eq_getElem hi, Option.bind_some]
        have e3 : deq kT28 line[to] stop = false := by
          cases hd : deq kT28 line[to] stop with
          | false => rfl
          | true => exact absurd ((deq_iff kT28 _ _).1 hd) (hs _ (List.getElem_mem hi))
        rw [e3, cond_false]
        exact after_stop_law n line hl from_ most hm stop hs t8 t9 k0 f (to + 1) (by omega) (by omega) (by omega) (by omega)
      · have e2 : decide ((to : Int) - (from_ : Int) - 1 < most) = false := by simpa using hlt
        rw [e2, cond_false]
        congr 1
        unfold imin
        split <;> omega

theorem places_first (n m : Nat) (hm0 : 1 ≤ m) (hm : m ≤ 4000) (xs : List Int) (h : places n m = some xs) : ∃ ys, xs = ((m : Int) - 1) :: ys := by
  unfold places at h
  rw [if_neg (by omega), wrap_id (by omega) (by omega), Option.map_eq_some_iff] at h
  obtain ⟨ys, hy, rfl⟩ := h
  cases n with
  | zero => simp [mI] at hy
  | succ f =>
    simp only [mI] at hy
    cases ha : decide ((m : Int) - 1 > 0) with
    | false =>
      rw [ha] at hy; simp only [cond_false, Option.some.injEq] at hy; subst hy
      have : ¬ (m : Int) - 1 > 0 := by simpa using ha
      refine ⟨[], ?_⟩
      rw [show (m : Int) - 1 = 0 by omega]; rfl
    | true =>
      rw [ha] at hy; simp only [cond_true] at hy
      cases hb : decide (((0 + 1 : Nat) : Int) ≥ 10) <;> rw [hb] at hy <;> simp only [cond_true, cond_false, Option.map_eq_some_iff] at hy <;> obtain ⟨zs, _, rfl⟩ := hy <;> exact ⟨zs ++ [0], rfl⟩

theorem rows_law_n (n : Nat) (hn : 2050 < n) (haw : ∀ k : Bool → Option Bool, awake_k n k = k true) (a0 a1 a2 : Int) (hi : a2 < 9223372036854775808) : rows_k n a0 a1 a2 (fun r => some r) = some true := by
  unfold rows_k
  cases h1 : decide (a0 < 1) with
  | true => simp only [cond_true]; exact haw _
  | false =>
  simp only [cond_false]
  cases h2 : decide (a0 > 1000) with
  | true => simp only [cond_true]; exact haw _
  | false =>
  simp only [cond_false]
  cases h3 : decide (a1 < 0) with
  | true => simp only [cond_true]; exact haw _
  | false =>
  simp only [cond_false]
  cases h4 : decide (a1 > 500) with
  | true => simp only [cond_true]; exact haw _
  | false =>
  simp only [cond_false]
  cases h5 : decide (a2 < 0) with
  | true => simp only [cond_true]; exact haw _
  | false =>
  simp only [cond_false]
  simp only [decide_eq_false_iff_not] at h1 h2 h3 h4 h5
  obtain ⟨na, rfl⟩ : ∃ m : Nat, a0 = (m : Int) := ⟨a0.toNat, by omega⟩
  obtain ⟨nb, rfl⟩ : ∃ m : Nat, a1 = (m : Int) := ⟨a1.toNat, by omega⟩
  have lenR : ∀ (p q : Int) (m : Nat), (rowL p q m).length = m := fun p q m => by simp [rowL]
  have w0 : IntKind.wrap .i64 ((na : Int) + (nb : Int)) = ((na + nb : Nat) : Int) := by rw [wrap_id (by omega) (by omega)]; omega
  rw [w0, row_law n (na + nb) (by omega) (by omega)]
  generalize hp : ((na + nb : Nat) : Int) = p
  have hlt : (((rowL p 0 (na + nb)).drop 0).take (Int.toNat (na : Int) - 0)).length = na := by simp [lenR]
  rw [if_pos (by omega), if_pos (by rw [lenR]; omega)]
  obtain ⟨xs, hx1, hx2, hx3⟩ := places_some n na (by omega) (by omega)
  obtain ⟨ys, hys⟩ := places_first n na (by omega) (by omega) xs hx1
  rw [make_law n _ xs (by rw [hlt]; exact hx1) (fun x hx => by rw [hlt]; exact (hx3 x hx).2) (by omega)]
  rw [fork_law n _ _ (by rw [lenR]; omega) (by rw [lenR]; omega) (by simp; omega) (by simp; omega)]
  have hmeet : meet (rowL p 0 (na + nb)) (xs.map fun x => (((rowL p 0 (na + nb)).drop 0).take (Int.toNat (na : Int) - 0)).getD x.toNat []) = ((na - 1 : Nat) : Int) := by
    rw [hys]
    simp only [List.map_cons, meet]
    have e : (((rowL p 0 (na + nb)).drop 0).take (Int.toNat (na : Int) - 0)).getD ((na : Int) - 1).toNat [] = rowE p 0 (na - 1) := by
      have : ((na : Int) - 1).toNat = na - 1 := by omega
      rw [this, List.getD_eq_getElem?_getD, List.getElem?_take, if_pos (by omega), List.drop_zero, rowL_get _ _ _ _ (by omega)]; rfl
    rw [e]
    have := ffL_at (rowL p 0 (na + nb)) 0 (na - 1) (rowE p 0 (na - 1)) (rowL_get _ _ _ _ (by omega)) fun j' hj' hh => by
      rw [rowL_get _ _ _ _ (by omega)] at hh
      have := (rowE_inj p 0 0 j' (na - 1) (by omega) (by omega) (Option.some.inj hh)).1
      omega
    rw [this]
    simp
  rw [hmeet]
  unfold after_k
  have c1 : decide (((na - 1 : Nat) : Int) < 0) = false := by simp
  have c2 : decide (((na - 1 : Nat) : Int) ≥ ((rowL p 0 (na + nb)).length : Int)) = false := by rw [lenR]; simp; omega
  have w1 : IntKind.wrap .i64 (((na - 1 : Nat) : Int) + 1) = (na : Int) := by rw [wrap_id (by omega) (by omega)]; omega
  rw [c1, cond_false, c2, cond_false, w1]
  have := after_stop_law n (rowL p 0 (na + nb)) (by rw [lenR]; omega) (na - 1) a2 (by omega) (List.replicate 32 0) (fun x hx hh => by
    obtain ⟨j, hj, rfl⟩ := rowL_mem _ _ _ _ hx
    have e2 := congrArg (fun l : List Int => l[2]?) hh
    have g2 : (rowE p 0 j)[2]? = some 1 := by unfold rowE; cases decide ((j : Int) ≥ p) <;> simp [List.getElem?_set]
    simp only [g2] at e2
    simp at e2) 0 0 (fun y2 => bif ((na : Int) == (na : Int)) then bif (y2 == (IntKind.wrap .i64 ((na : Int) + (imin (nb : Int) a2)))) then awake_k n fun r11 => some r11 else some false else some false) n na (by omega) (by rw [lenR]; omega) (by rw [lenR]; omega) (by omega)
  refine Eq.trans this ?_
  have c3 : ((na : Int) == (na : Int)) = true := by simp
  rw [c3, cond_true, lenR]
  have hw : IntKind.wrap .i64 ((na : Int) + (imin (nb : Int) a2)) = (na : Int) + (imin (nb : Int) a2) := by
    apply wrap_id <;> unfold imin <;> split <;> omega
  have e : (imin ((na + nb : Nat) : Int) (((na - 1 : Nat) : Int) + 1 + a2) == IntKind.wrap .i64 ((na : Int) + (imin (nb : Int) a2))) = true := by
    rw [hw, beq_iff_eq]; unfold imin; split <;> split <;> omega
  rw [e, cond_true]
  exact haw _

theorem rows_law (a0 a1 a2 : Int) (f0 : WF (.int .i64) a0) (f1 : WF (.int .i64) a1) (f2 : WF (.int .i64) a2) : ∃ n, rows_k n a0 a1 a2 (fun r => some r) = some true :=
  ⟨2100, rows_law_n 2100 (by decide) (fun k => awake_2100 k) a0 a1 a2 (Int.lt_of_le_of_lt f2.2 (by decide))⟩

end Go.Ev
