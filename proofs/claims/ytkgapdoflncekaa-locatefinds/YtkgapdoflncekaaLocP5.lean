/-
  THE LAW OF LocateFinds.
-/
import Derived.Test.YtkgapdoflncekaaLocM
import Derived.Test.YtkgapdoflncekaaLocP3
import Derived.Test.YtkgapdoflncekaaLocF5
set_option linter.all false
namespace Go.Ev
variable {A : Type}

theorem wrap_u8 (x : Int) : IntKind.wrap .u8 x = x % 256 := by
  unfold IntKind.wrap
  simp [IntKind.bits, IntKind.signed]

theorem shr_8 (x : Int) : shr .i64 x 8 = x.fdiv 256 := by
  unfold shr
  have : (2 : Int) ^ (min (Int.toNat 8) IntKind.i64.bits) = 256 := by decide
  rw [this]

/-- Elements of two rows are the same only at one place, ahead of the marks. -/
theorem rowE_inj (p : Int) (m1 m2 : Int) (x y : Nat) (hx : x ≤ 4000) (hy : y ≤ 4000) (h : rowE p m1 x = rowE p m2 y) : x = y ∧ (m1 ≠ m2 → m1 ≠ 0 → m2 ≠ 0 → (x : Int) < p) := by
  have g0 : ∀ (m : Int) (j : Nat), (rowE p m j)[0]? = some ((j : Int) % 256) := fun m j => by
    unfold rowE; cases decide ((j : Int) ≥ p) <;> simp [List.getElem?_set, wrap_u8]
  have g1 : ∀ (m : Int) (j : Nat), (rowE p m j)[1]? = some (((j : Int).fdiv 256) % 256) := fun m j => by
    unfold rowE; cases decide ((j : Int) ≥ p) <;> simp [List.getElem?_set, wrap_u8, shr_8]
  have g3 : ∀ (m : Int) (j : Nat), (rowE p m j)[3]? = some (if (j : Int) ≥ p then m else 0) := fun m j => by
    unfold rowE
    by_cases hj : (j : Int) ≥ p
    · rw [if_pos hj, show decide ((j : Int) ≥ p) = true by simpa using hj]; simp [List.getElem?_set]
    · rw [if_neg hj, show decide ((j : Int) ≥ p) = false by simpa using hj]; simp [List.getElem?_set]
  have e0 := congrArg (fun l : List Int => l[0]?) h
  have e1 := congrArg (fun l : List Int => l[1]?) h
  have e3 := congrArg (fun l : List Int => l[3]?) h
  simp only [g0, g1, g3, Option.some.injEq] at e0 e1 e3
  rw [Int.fdiv_eq_ediv_of_nonneg _ (by decide), Int.fdiv_eq_ediv_of_nonneg _ (by decide)] at e1
  have hxy : x = y := by omega
  subst hxy
  refine ⟨rfl, fun h1 h2 h3 => ?_⟩
  by_cases hp : (x : Int) ≥ p
  · rw [if_pos hp, if_pos hp] at e3; exact absurd e3 h1
  · omega

theorem ffL_none : ∀ (l : Hs) (i : Nat) (y : List Int), (∀ x ∈ l, x ≠ y) → ffL l i y = none
  | [], _, _, _ => rfl
  | x :: r, i, y, h => by
    simp only [ffL]
    have : deq kT28 x y = false := by
      cases hd : deq kT28 x y with
      | false => rfl
      | true => exact absurd ((deq_iff kT28 x y).1 hd) (h x (by simp))
    rw [this, cond_false]
    exact ffL_none r (i + 1) y fun z hz => h z (by simp [hz])

theorem ffL_at : ∀ (l : Hs) (i j : Nat) (y : List Int), l[j]? = some y → (∀ j' : Nat, j' < j → l[j']? ≠ some y) → ffL l i y = some (i + j)
  | [], _, _, _, h, _ => by simp at h
  | x :: r, i, 0, y, h, _ => by
    simp only [List.getElem?_cons_zero, Option.some.injEq] at h; subst h
    simp only [ffL]
    rw [(deq_iff kT28 x x).2 rfl, cond_true]; rfl
  | x :: r, i, j + 1, y, h, hn => by
    simp only [ffL]
    have : deq kT28 x y = false := by
      cases hd : deq kT28 x y with
      | false => rfl
      | true => exact absurd (by rw [(deq_iff kT28 x y).1 hd]; simp) (hn 0 (by omega))
    rw [this, cond_false, ffL_at r (i + 1) j y (by simpa using h) fun j' hj' => by have := hn (j' + 1) (by omega); simpa using this]
    congr 1; omega

theorem rowL_get (p mk : Int) (m j : Nat) (h : j < m) : (rowL p mk m)[j]? = some (rowE p mk j) := by
  unfold rowL; simp [h]

theorem rowL_mem (p mk : Int) (m : Nat) (x : List Int) (h : x ∈ rowL p mk m) : ∃ j, j < m ∧ x = rowE p mk j := by
  unfold rowL at h
  simp only [List.mem_map, List.mem_range] at h
  obtain ⟨j, h1, h2⟩ := h
  exact ⟨j, h1, h2.symm⟩

/-- The first one below. -/
def below1 (p : Int) : List Int → Int
  | [] => 0
  | x :: r => if x < p then x else below1 p r

theorem meet_rows (n m : Nat) (p : Int) (hn : n ≤ 4000) (hm : m ≤ 4000) (hp : p ≤ m) : ∀ xs : List Int, (∀ x ∈ xs, 0 ≤ x ∧ x < (n : Int)) →
    meet (rowL p 2 m) (xs.map fun x => (rowL p 1 n).getD x.toNat []) = below1 p xs
  | [], _ => rfl
  | x :: r, h => by
    obtain ⟨h0, h1⟩ := h x (by simp)
    have hlt : x.toNat < n := by omega
    have e : (rowL p 1 n).getD x.toNat [] = rowE p 1 x.toNat := by rw [List.getD_eq_getElem?_getD, rowL_get _ _ _ _ hlt]; rfl
    simp only [List.map_cons, meet, below1, e]
    by_cases hx : x < p
    · rw [if_pos hx]
      have he : rowE p 1 x.toNat = rowE p 2 x.toNat := by
        unfold rowE
        have : decide (((x.toNat : Nat) : Int) ≥ p) = false := by simp; omega
        rw [this, cond_false, cond_false]
      have := ffL_at (rowL p 2 m) 0 x.toNat (rowE p 1 x.toNat) (by rw [he]; exact rowL_get _ _ _ _ (by omega)) fun j' hj' hh => by
        rw [rowL_get _ _ _ _ (by omega)] at hh
        have := (rowE_inj p 2 1 j' x.toNat (by omega) (by omega) (Option.some.inj hh)).1
        omega
      rw [this]
      show ((0 + x.toNat : Nat) : Int) = x
      omega
    · rw [if_neg hx]
      have := ffL_none (rowL p 2 m) 0 (rowE p 1 x.toNat) fun z hz hh => by
        obtain ⟨j, hj, rfl⟩ := rowL_mem _ _ _ _ hz
        obtain ⟨h2, h3⟩ := rowE_inj p 2 1 j x.toNat (by omega) (by omega) hh
        have := h3 (by decide) (by decide) (by decide)
        omega
      rw [this]
      exact meet_rows n m p hn hm hp r fun z hz => h z (by simp [hz])

/-- How far off the first place below is. -/
theorem mI_below (N p : Int) (hN : 0 ≤ N) (hN2 : N ≤ 4000) (hp : 1 ≤ p) (hp2 : p ≤ N + 1) : ∀ (f : Nat) (s a : Int) (len : Nat) (xs : List Int), mI f s a len = some xs →
    ((len ≤ 9 ∧ s = 1 ∧ N - a = len) ∨ (10 ≤ len ∧ 2 ≤ s ∧ N - a = 7 + 2 * s)) → N - a ≤ 2 * (N + 1 - p) → s ≤ 4000 →
    0 ≤ below1 p (xs ++ [0]) ∧ below1 p (xs ++ [0]) < p ∧ N - below1 p (xs ++ [0]) ≤ 2 * (N + 1 - p)
  | 0, _, _, _, _, h, _, _, _ => by simp [mI] at h
  | f + 1, s, a, len, xs, h, hi, hd, hs => by
    simp only [mI] at h
    have z : below1 p [0] = 0 := by unfold below1; rw [if_pos (by omega)]
    cases ha : decide (a > 0) with
    | false =>
      rw [ha] at h; simp only [cond_false, Option.some.injEq] at h; subst h
      have : ¬ a > 0 := by simpa using ha
      rw [List.nil_append, z]; omega
    | true =>
      have hpos : a > 0 := by simpa using ha
      rw [ha] at h; simp only [cond_true] at h
      by_cases hap : a < p
      · have key : ∀ ys : List Int, xs = a :: ys → below1 p (xs ++ [0]) = a := fun ys e => by rw [e]; simp only [List.cons_append, below1]; rw [if_pos hap]
        cases hb : decide (((len + 1 : Nat) : Int) ≥ 10) <;> rw [hb] at h <;> simp only [cond_true, cond_false, Option.map_eq_some_iff] at h <;> obtain ⟨ys, _, rfl⟩ := h <;> rw [key ys rfl] <;> omega
      · have key : ∀ ys : List Int, below1 p ((a :: ys) ++ [0]) = below1 p (ys ++ [0]) := fun ys => by simp only [List.cons_append, below1]; rw [if_neg hap]
        cases hb : decide (((len + 1 : Nat) : Int) ≥ 10) with
        | false =>
          have hb' : ¬ ((len + 1 : Nat) : Int) ≥ 10 := by simpa using hb
          rw [hb] at h; simp only [cond_false, Option.map_eq_some_iff] at h
          obtain ⟨ys, hy, rfl⟩ := h
          rw [key]
          rw [wrap_id (by omega) (by omega)] at hy
          exact mI_below N p hN hN2 hp hp2 f s (a - s) (len + 1) ys hy (by omega) (by omega) hs
        | true =>
          have hb' : ((len + 1 : Nat) : Int) ≥ 10 := by simpa using hb
          rw [hb] at h; simp only [cond_true, Option.map_eq_some_iff] at h
          obtain ⟨ys, hy, rfl⟩ := h
          rw [key]
          have w1 : shl .i64 s 1 = s * 2 := by rw [shl_one, wrap_id (by omega) (by omega)]
          rw [w1, wrap_id (by omega) (by omega)] at hy
          exact mI_below N p hN hN2 hp hp2 f (s * 2) (a - s * 2) (len + 1) ys hy (by omega) (by omega) (by omega)

theorem finds_law_n (n : Nat) (hn : 2050 < n) (haw : ∀ k : Bool → Option Bool, awake_k n k = k true) (a0 a1 a2 : Int) : finds_k n a0 a1 a2 (fun r => some r) = some true := by
  unfold finds_k
  cases h1 : decide (a0 < 1) with
  | true => simp only [cond_true]; exact haw _
  | false =>
  simp only [cond_false]
  cases h2 : decide (a0 > 1500) with
  | true => simp only [cond_true]; exact haw _
  | false =>
  simp only [cond_false]
  cases h3 : decide (a1 < 1) with
  | true => simp only [cond_true]; exact haw _
  | false =>
  simp only [cond_false]
  cases h4 : decide (a1 > 1500) with
  | true => simp only [cond_true]; exact haw _
  | false =>
  simp only [cond_false]
  cases h5 : decide (a2 < 1) with
  | true => simp only [cond_true]; exact haw _
  | false =>
  simp only [cond_false]
  cases h6 : decide (a2 > imin a0 a1) with
  | true => simp only [cond_true]; exact haw _
  | false =>
  simp only [cond_false]
  simp only [decide_eq_false_iff_not] at h1 h2 h3 h4 h5 h6
  have h7 : a2 ≤ a0 ∧ a2 ≤ a1 := by unfold imin at h6; split at h6 <;> omega
  obtain ⟨na, rfl⟩ : ∃ m : Nat, a0 = (m : Int) := ⟨a0.toNat, by omega⟩
  obtain ⟨nb, rfl⟩ : ∃ m : Nat, a1 = (m : Int) := ⟨a1.toNat, by omega⟩
  have lenR : ∀ (p q : Int) (m : Nat), (rowL p q m).length = m := fun p q m => by simp [rowL]
  rw [row_law n na (by omega) (by omega), row_law n nb (by omega) (by omega)]
  obtain ⟨xs, hx1, hx2, hx3⟩ := places_some n na (by omega) (by omega)
  rw [make_law n (rowL a2 1 na) xs (by rw [lenR]; exact hx1) (fun x hx => by rw [lenR]; exact (hx3 x hx).2) (by omega)]
  rw [fork_law n _ _ (by rw [lenR]; omega) (by rw [lenR]; omega) (by simp; omega) (by simp; omega)]
  rw [meet_rows na nb a2 (by omega) (by omega) (by omega) xs hx3]
  unfold places at hx1
  rw [if_neg (by omega), wrap_id (by omega) (by omega), Option.map_eq_some_iff] at hx1
  obtain ⟨ys, hy, rfl⟩ := hx1
  obtain ⟨q1, q2, q3⟩ := mI_below ((na : Int) - 1) a2 (by omega) (by omega) (by omega) (by omega) n 1 _ 0 ys hy (.inl ⟨by omega, rfl, by omega⟩) (by omega) (by omega)
  generalize below1 a2 (ys ++ [0]) = at_ at q1 q2 q3
  have w1 : IntKind.wrap .i64 (a2 - 1) = a2 - 1 := wrap_id (by omega) (by omega)
  have w2 : IntKind.wrap .i64 ((na : Int) - 1) = (na : Int) - 1 := wrap_id (by omega) (by omega)
  have w3 : IntKind.wrap .i64 ((na : Int) - 1 - at_) = (na : Int) - 1 - at_ := wrap_id (by omega) (by omega)
  have w4 : IntKind.wrap .i64 ((na : Int) - 1 - (a2 - 1)) = (na : Int) - 1 - (a2 - 1) := wrap_id (by omega) (by omega)
  have w5 : IntKind.wrap .i64 (2 * ((na : Int) - 1 - (a2 - 1))) = 2 * ((na : Int) - 1 - (a2 - 1)) := wrap_id (by omega) (by omega)
  rw [w1, w2, w3, w4, w5]
  have c1 : decide (at_ ≥ 0) = true := by simpa using q1
  have c2 : decide (at_ ≤ a2 - 1) = true := by simp; omega
  have c3 : decide ((na : Int) - 1 - at_ ≤ 2 * ((na : Int) - 1 - (a2 - 1))) = true := by simp; omega
  rw [c1, cond_true, c2, cond_true, if_pos q1, if_pos (by rw [lenR]; omega), rowL_get _ _ _ _ (by omega), Option.bind_some, if_pos q1, if_pos (by rw [lenR]; omega), rowL_get _ _ _ _ (by omega), Option.bind_some]
  have he : rowE a2 1 at_.toNat = rowE a2 2 at_.toNat := by
    unfold rowE
    have : decide (((at_.toNat : Nat) : Int) ≥ a2) = false := by simp; omega
    rw [this, cond_false, cond_false]
  rw [he, deq_self, cond_true, c3, cond_true]
  exact haw _

theorem finds_law (a0 a1 a2 : Int) (f0 : WF (.int .i64) a0) (f1 : WF (.int .i64) a1) (f2 : WF (.int .i64) a2) : ∃ n, finds_k n a0 a1 a2 (fun r => some r) = some true :=
  ⟨2100, finds_law_n 2100 (by decide) (fun k => awake_2100 k) a0 a1 a2⟩

end Go.Ev
