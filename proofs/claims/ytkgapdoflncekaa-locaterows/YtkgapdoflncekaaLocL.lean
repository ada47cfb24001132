/-
  LAYER 21: plain laws of the printed functions: rows, locators, heights.
-/
import Derived.Test.YtkgapdoflncekaaLocF3
import Derived.Test.YtkgapdoflncekaaEvZA
set_option linter.all false
namespace Go.Ev
variable {A : Type}

theorem wrap_id {x : Int} (h1 : -9223372036854775808 ≤ x) (h2 : x < 9223372036854775808) : IntKind.wrap .i64 x = x := by
  have e : IntKind.wrap .i64 x = (if x % 18446744073709551616 ≥ 9223372036854775808 then x % 18446744073709551616 - 18446744073709551616 else x % 18446744073709551616) := by
    unfold IntKind.wrap
    simp [IntKind.bits, IntKind.signed]
  rw [e]
  split <;> omega

/-- An element of 'row'. -/
def rowE (from_ mark : Int) (j : Nat) : List Int :=
  bif (decide ((j : Int) ≥ from_)) then (((((List.replicate 32 0).set 0 (IntKind.wrap .u8 (j : Int))).set 1 (IntKind.wrap .u8 (shr .i64 (j : Int) 8))).set 2 1).set 3 mark)
  else ((((List.replicate 32 0).set 0 (IntKind.wrap .u8 (j : Int))).set 1 (IntKind.wrap .u8 (shr .i64 (j : Int) 8))).set 2 1)

def rowL (from_ mark : Int) (m : Nat) : List (List Int) := (List.range m).map (rowE from_ mark)

theorem row_l0_law (n : Nat) (from_ mark : Int) (hi : Nat) (hh : hi ≤ 4000) (t6 : List (List Int)) (k0 : Int → List (List Int) → Option A) :
    ∀ (f i : Nat), i ≤ hi → hi - i < f → row_l0 n from_ mark (hi : Int) t6 k0 f (i : Int) (rowL from_ mark i) = k0 (hi : Int) (rowL from_ mark hi)
  | 0, i, _, h => by omega
  | f + 1, i, hi1, hf => by
    simp only [row_l0, row_b0]
    by_cases h : i = hi
    · subst h
      simp
    · have hlt : i < hi := by omega
      have e1 : decide ((i : Int) < (hi : Int)) = true := by simp; omega
      rw [e1]
      simp only [cond_true]
      have hlen : (rowL from_ mark i).length = i := by simp [rowL]
      have hc : ((rowL from_ mark i).length + 1) * 32 ≤ 140737488355328 := by rw [hlen]; omega
      have hw : IntKind.wrap .i64 ((i : Int) + 1) = ((i + 1 : Nat) : Int) := by rw [wrap_id (by omega) (by omega)]; omega
      have hsucc : rowL from_ mark (i + 1) = rowL from_ mark i ++ [rowE from_ mark i] := by simp [rowL, List.range_succ]
      have ih := row_l0_law n from_ mark hi hh t6 k0 f (i + 1) (by omega) (by omega)
      rw [hsucc] at ih
      rw [hw]
      cases hd : decide ((i : Int) ≥ from_) with
      | true =>
        simp only [cond_true, if_pos hc]
        have : rowE from_ mark i = (((((List.replicate 32 0).set 0 (IntKind.wrap .u8 (i : Int))).set 1 (IntKind.wrap .u8 (shr .i64 (i : Int) 8))).set 2 1).set 3 mark) := by simp only [rowE, hd, cond_true]
        rw [← this]; exact ih
      | false =>
        simp only [cond_false, if_pos hc]
        have : rowE from_ mark i = ((((List.replicate 32 0).set 0 (IntKind.wrap .u8 (i : Int))).set 1 (IntKind.wrap .u8 (shr .i64 (i : Int) 8))).set 2 1) := by simp only [rowE, hd, cond_false]
        rw [← this]; exact ih

theorem row_law (n m : Nat) (hm : m ≤ 4000) (hn : m < n) (from_ mark : Int) (k : List (List Int) → Option A) : row_k n (m : Int) from_ mark k = k (rowL from_ mark m) := by
  unfold row_k
  have := row_l0_law n from_ mark m hm [] (fun y1 y2 => k y2) n 0 (by omega) (by omega)
  simpa [rowL] using this

-- ------------------------------------------------------------ locators

/-- The places of a locator, ahead of the last. -/
def mI : Nat → Int → Int → Nat → Option (List Int)
  | 0, _, _, _ => none
  | f + 1, step, at_, len => bif decide (at_ > 0) then
      (bif decide (((len + 1 : Nat) : Int) ≥ 10) then (mI f (shl .i64 step 1) (IntKind.wrap .i64 (at_ - shl .i64 step 1)) (len + 1)).map (at_ :: ·) else (mI f step (IntKind.wrap .i64 (at_ - step)) (len + 1)).map (at_ :: ·))
    else some []

theorem make_l0_law (n : Nat) (line t2 : List (List Int)) (g : List (List Int) → Option A) :
    ∀ (f : Nat) (step at_ : Int) (out : List (List Int)) (xs : List Int), mI f step at_ out.length = some xs → (∀ x ∈ xs, x < (line.length : Int)) → out.length + xs.length ≤ 4000 →
      make_l0 n line t2 (fun _ _ l => g l) f step at_ out = g (out ++ xs.map fun x => line.getD x.toNat [])
  | 0, _, _, _, _, h, _, _ => by simp [mI] at h
  | f + 1, step, at_, out, xs, h, hx, hl => by
    simp only [make_l0, make_b0]
    simp only [mI] at h
    cases hat : decide (at_ > 0) with
    | false =>
      rw [hat] at h
      simp at h; subst h
      simp
    | true =>
      rw [hat] at h
      simp only [cond_true] at h ⊢
      have hat' : at_ > 0 := by simpa using hat
      rw [if_pos (by omega)]
      have key : ∀ (ys : List Int), xs = at_ :: ys → (line[at_.toNat]?).bind (fun y1 => if (out.length + 1) * 32 ≤ 140737488355328 then
          bif (decide (((out ++ [y1]).length : Int) ≥ 10)) then make_l0 n line t2 (fun _ _ l => g l) f (shl .i64 step 1) (IntKind.wrap .i64 (at_ - (shl .i64 step 1))) (out ++ [y1]) else make_l0 n line t2 (fun _ _ l => g l) f step (IntKind.wrap .i64 (at_ - step)) (out ++ [y1]) else none) =
          (bif (decide (((out.length + 1 : Nat) : Int) ≥ 10)) then make_l0 n line t2 (fun _ _ l => g l) f (shl .i64 step 1) (IntKind.wrap .i64 (at_ - (shl .i64 step 1))) (out ++ [line.getD at_.toNat []]) else make_l0 n line t2 (fun _ _ l => g l) f step (IntKind.wrap .i64 (at_ - step)) (out ++ [line.getD at_.toNat []])) := fun ys e => by
        have hlt : at_.toNat < line.length := by
          have := hx at_ (by rw [e]; simp)
          omega
        have hol : out.length < 4000 := by rw [e] at hl; simp at hl; omega
        rw [List.getElem?_eq_getElem hlt, Option.bind_some, if_pos (by omega)]
        simp [List.getD_eq_getElem?_getD, List.getElem?_eq_getElem hlt]
      cases hb : decide (((out.length + 1 : Nat) : Int) ≥ 10) with
      | true =>
        rw [hb] at h
        simp only [cond_true, Option.map_eq_some_iff] at h
        obtain ⟨ys, hys, rfl⟩ := h
        rw [key ys rfl, hb, cond_true]
        rw [make_l0_law n line t2 g f _ _ _ ys (by simpa using hys) (fun x hx' => hx x (by simp [hx'])) (by simp at hl ⊢; omega)]
        simp
      | false =>
        rw [hb] at h
        simp only [cond_false, Option.map_eq_some_iff] at h
        obtain ⟨ys, hys, rfl⟩ := h
        rw [key ys rfl, hb, cond_false]
        rw [make_l0_law n line t2 g f _ _ _ ys (by simpa using hys) (fun x hx' => hx x (by simp [hx'])) (by simp at hl ⊢; omega)]
        simp

/-- A locator's places. -/
def places (n : Nat) (m : Nat) : Option (List Int) := if m = 0 then some [] else (mI n 1 (IntKind.wrap .i64 ((m : Int) - 1)) 0).map (· ++ [0])

theorem make_law (n : Nat) (line : List (List Int)) (xs : List Int) (hp : places n line.length = some xs) (hx : ∀ x ∈ xs, x < (line.length : Int)) (hl : xs.length ≤ 4000) (k : List (List Int) → Option A) :
    make_k n line k = k (xs.map fun x => line.getD x.toNat []) := by
  unfold make_k
  unfold places at hp
  by_cases h0 : line.length = 0
  · rw [if_pos h0] at hp
    cases hp
    simp [h0]
  · rw [if_neg h0, Option.map_eq_some_iff] at hp
    obtain ⟨ys, hys, rfl⟩ := hp
    have e : ((line.length : Int) == 0) = false := by rw [beq_eq_false_iff_ne]; omega
    rw [e, cond_false]
    have hl' : ys.length + 1 ≤ 4000 := by simpa using hl
    rw [make_l0_law n line [] (fun y4 => (line[0]?).bind fun y5 => if (y4.length + 1) * 32 ≤ 140737488355328 then k (y4 ++ [y5]) else none) n 1 _ [] ys hys (fun x h => hx x (by simp [h])) (by simp only [List.length_nil]; omega)]
    rw [List.getElem?_eq_getElem (show 0 < line.length by omega), Option.bind_some, if_pos (by simp; omega)]
    congr 1
    simp [List.getD_eq_getElem?_getD, List.getElem?_eq_getElem (show 0 < line.length by omega)]

-- ------------------------------------------------------------ heights

theorem shl_one (s : Int) : shl .i64 s 1 = IntKind.wrap .i64 (s * 2) := by
  unfold shl
  have : (2 : Int) ^ (min (Int.toNat 1) IntKind.i64.bits) = 2 := by decide
  rw [this]

theorem heights_l1_law (n : Nat) (t2 : List Int) (g : List Int → Option A) : ∀ (f f' : Nat), f ≤ f' → ∀ (s a : Int) (out ys : List Int), 10 ≤ out.length → mI f s a out.length = some ys → out.length + ys.length ≤ 4000 →
    heights_l1 n t2 (fun _ _ l => g l) f' a s out = g (out ++ ys)
  | 0, _, _, _, _, _, _, _, h, _ => by simp [mI] at h
  | f + 1, 0, hf, _, _, _, _, _, _, _ => by omega
  | f + 1, f' + 1, hf, s, a, out, ys, h10, h, hl => by
    simp only [heights_l1, heights_b1]
    simp only [mI] at h
    have e1 : decide ((out.length : Int) ≥ 10) = true := by simp; omega
    rw [e1, cond_true]
    cases ha : decide (a > 0) with
    | false => rw [ha] at h; simp at h; subst h; simp
    | true =>
      rw [ha] at h
      have e2 : decide (((out.length + 1 : Nat) : Int) ≥ 10) = true := by simp; omega
      rw [e2] at h
      simp only [cond_true, Option.map_eq_some_iff] at h ⊢
      obtain ⟨zs, hz, rfl⟩ := h
      simp only [List.length_cons] at hl
      rw [if_pos (by omega)]
      rw [shl_one] at hz
      have := heights_l1_law n t2 g f f' (by omega) (IntKind.wrap .i64 (s * 2)) (IntKind.wrap .i64 (a - IntKind.wrap .i64 (s * 2))) (out ++ [a]) zs (by simp; omega) (by simpa using hz) (by simp; omega)
      rw [this]; simp

/-- What comes behind the first loop of 'Heights'. -/
def hK (n : Nat) (g : List Int → Option A) (y1 y3 : Int) (out : List Int) : Option A :=
  bif (decide ((out.length : Int) > 0)) then
    if 0 ≤ (IntKind.wrap .i64 ((out.length : Int) - 1)) then
      if (IntKind.wrap .i64 ((out.length : Int) - 1)) < (out.length : Int) then
        (out[(Int.toNat (IntKind.wrap .i64 ((out.length : Int) - 1)))]?).bind fun y4 => heights_l1 n [] (fun _ _ y7 => g y7) n (IntKind.wrap .i64 (y4 - 2)) 2 out
      else none
    else none
  else heights_l1 n [] (fun _ _ y10 => g y10) n y1 2 out

theorem hK_last (n : Nat) (g : List Int → Option A) (y1 y3 : Int) (out : List Int) (a : Int) (hl : out.length ≤ 4000) : hK n g y1 y3 (out ++ [a]) = heights_l1 n [] (fun _ _ y7 => g y7) n (IntKind.wrap .i64 (a - 2)) 2 (out ++ [a]) := by
  unfold hK
  have hw : IntKind.wrap .i64 (((out ++ [a]).length : Int) - 1) = (out.length : Int) := by
    have hl1 : ((out ++ [a]).length : Int) = (out.length : Int) + 1 := by simp
    rw [hl1, wrap_id (by omega) (by omega)]; omega
  have e1 : decide (((out ++ [a]).length : Int) > 0) = true := by rw [decide_eq_true_eq]; simp; try omega
  rw [e1, cond_true, hw, if_pos (by omega), if_pos (by simp; omega)]
  simp

theorem heights_l0_law (n : Nat) (t2 : List Int) (g : List Int → Option A) : ∀ (f f' : Nat), f < f' → f ≤ n → ∀ (a : Int) (out ys : List Int), out.length ≤ 9 → mI f 1 a out.length = some ys → out.length + ys.length ≤ 4000 →
    heights_l0 n t2 (hK n g) f' a (out.length : Int) out = g (out ++ ys)
  | 0, _, _, _, _, _, _, _, h, _ => by simp [mI] at h
  | f + 1, 0, hf, _, _, _, _, _, _, _ => by omega
  | f + 1, f' + 1, hf, hn, a, out, ys, h9, h, hl => by
    simp only [heights_l0, heights_b0]
    simp only [mI] at h
    have e1 : decide ((out.length : Int) < 10) = true := by simp; omega
    rw [e1, cond_true]
    cases ha : decide (a > 0) with
    | false =>
      rw [ha] at h; simp at h; subst h
      simp only [cond_false, List.append_nil]
      obtain ⟨n', rfl⟩ : ∃ n', n = n' + 1 := ⟨n - 1, by omega⟩
      have stop : ∀ (y s : Int) (o : List Int), o.length ≤ 9 → heights_l1 (n' + 1) [] (fun _ _ l => g l) (n' + 1) y s o = g o := fun y s o ho => by
        simp only [heights_l1, heights_b1]
        have : decide ((o.length : Int) ≥ 10) = false := by simp; omega
        rw [this, cond_false]
      rcases List.eq_nil_or_concat out with rfl | ⟨o, b, rfl⟩
      · unfold hK; simp; exact stop _ _ _ (by simp)
      · rw [List.concat_eq_append] at h9 ⊢
        rw [hK_last _ _ _ _ _ _ (by simp at h9; omega)]
        exact stop _ _ _ h9
    | true =>
      rw [ha] at h
      simp only [cond_true] at h ⊢
      rw [if_pos (by omega)]
      have hw : IntKind.wrap .i64 ((out.length : Int) + 1) = ((out ++ [a]).length : Int) := by rw [wrap_id (by omega) (by omega)]; simp
      rw [hw]
      by_cases h10 : out.length = 9
      · have e2 : decide (((out.length + 1 : Nat) : Int) ≥ 10) = true := by simp; omega
        rw [e2] at h
        simp only [cond_true, Option.map_eq_some_iff] at h
        obtain ⟨zs, hz, rfl⟩ := h
        obtain ⟨f'', rfl⟩ : ∃ f'', f' = f'' + 1 := ⟨f' - 1, by omega⟩
        simp only [heights_l0, heights_b0]
        have e3 : decide (((out ++ [a]).length : Int) < 10) = false := by simp; omega
        rw [e3, cond_false, hK_last _ _ _ _ _ _ (by omega)]
        have e4 : shl .i64 1 1 = 2 := by decide
        rw [e4] at hz
        simp only [List.length_cons] at hl
        rw [heights_l1_law n [] g f n (by omega) 2 (IntKind.wrap .i64 (a - 2)) (out ++ [a]) zs (by simp; omega) (by simpa using hz) (by simp; omega)]
        simp
      · have e2 : decide (((out.length + 1 : Nat) : Int) ≥ 10) = false := by simp; omega
        rw [e2] at h
        simp only [cond_false, Option.map_eq_some_iff] at h
        obtain ⟨zs, hz, rfl⟩ := h
        simp only [List.length_cons] at hl
        rw [heights_l0_law n t2 g f f' (by omega) (by omega) (IntKind.wrap .i64 (a - 1)) (out ++ [a]) zs (by simp; omega) (by simpa using hz) (by simp; omega)]
        simp

theorem mI_far : ∀ (j f : Nat) (s a : Int) (len : Nat), j + 1 < f → 9 ≤ len → 1 ≤ s → s * 2 ^ j ≤ 100000 → a ≤ s * 2 ^ j → -200000 ≤ a → ∃ ys, mI f s a len = some ys ∧ ys.length ≤ j + 1 ∧ ∀ x ∈ ys, 0 < x ∧ x ≤ a
  | j, 0, _, _, _, h, _, _, _, _, _ => by omega
  | j, f + 1, s, a, len, hf, h9, hs, hb, ha, hlow => by
    simp only [mI]
    cases hd : decide (a > 0) with
    | false => exact ⟨[], by simp, by simp, by simp⟩
    | true =>
      have hpos : a > 0 := by simpa using hd
      have e2 : decide (((len + 1 : Nat) : Int) ≥ 10) = true := by simp; omega
      rw [e2]
      simp only [cond_true]
      have hp : (1 : Int) ≤ 2 ^ j := by have := Int.pow_pos (n := 2) (m := j) (by decide); omega
      have hs2 : s ≤ s * 2 ^ j := by
        have := Int.mul_le_mul_of_nonneg_left hp (by omega : 0 ≤ s)
        omega
      have w1 : shl .i64 s 1 = s * 2 := by rw [shl_one, wrap_id (by omega) (by omega)]
      rw [w1, wrap_id (by omega) (by omega)]
      cases j with
      | zero =>
        simp at ha hb
        obtain ⟨f', rfl⟩ : ∃ f', f = f' + 1 := ⟨f - 1, by omega⟩
        have : decide (a - s * 2 > 0) = false := by simp; omega
        refine ⟨[a], by simp only [mI, this, cond_false]; rfl, by simp, by simp; omega⟩
      | succ j =>
        have e : s * 2 * 2 ^ j = s * 2 ^ (j + 1) := by rw [Int.pow_succ, Int.mul_assoc, Int.mul_comm 2]
        obtain ⟨ys, h1, h2, h3⟩ := mI_far j f (s * 2) (a - s * 2) (len + 1) (by omega) (by omega) (by omega) (by rw [e]; exact hb) (by rw [e]; omega) (by omega)
        refine ⟨a :: ys, by rw [h1]; rfl, by simp; omega, fun x hx => ?_⟩
        rcases List.mem_cons.1 hx with rfl | hx
        · omega
        · have := h3 x hx; omega

theorem mI_near : ∀ (d f : Nat) (a : Int) (len : Nat), len + d = 9 → d + 20 < f → a ≤ 60000 → -100 ≤ a → ∃ ys, mI f 1 a len = some ys ∧ ys.length ≤ d + 18 ∧ ∀ x ∈ ys, 0 < x ∧ x ≤ a
  | 0, f, a, len, hl, hf, ha, hlow => by
    obtain ⟨ys, h1, h2, h3⟩ := mI_far 16 f 1 a len (by omega) (by omega) (by omega) (by decide) (by omega) (by omega)
    exact ⟨ys, h1, by omega, h3⟩
  | d + 1, 0, _, _, _, h, _, _ => by omega
  | d + 1, f + 1, a, len, hl, hf, ha, hlow => by
    simp only [mI]
    cases hd : decide (a > 0) with
    | false => exact ⟨[], by simp, by simp, by simp⟩
    | true =>
      have hpos : a > 0 := by simpa using hd
      have e2 : decide (((len + 1 : Nat) : Int) ≥ 10) = false := by simp; omega
      rw [e2]
      simp only [cond_true, cond_false]
      rw [wrap_id (by omega) (by omega)]
      obtain ⟨ys, h1, h2, h3⟩ := mI_near d f (a - 1) (len + 1) (by omega) (by omega) (by omega) (by omega)
      refine ⟨a :: ys, by rw [h1]; rfl, by simp; omega, fun x hx => ?_⟩
      rcases List.mem_cons.1 hx with rfl | hx
      · omega
      · have := h3 x hx; omega

/-- The places of a locator of any line. -/
theorem places_some (n m : Nat) (hn : 30 < n) (hm : m ≤ 60000) : ∃ xs, places n m = some xs ∧ xs.length ≤ 64 ∧ ∀ x ∈ xs, 0 ≤ x ∧ x < (m : Int) := by
  unfold places
  by_cases h0 : m = 0
  · subst h0; exact ⟨[], by simp, by simp, by simp⟩
  · rw [if_neg h0, wrap_id (by omega) (by omega)]
    obtain ⟨ys, h1, h2, h3⟩ := mI_near 9 n ((m : Int) - 1) 0 (by omega) (by omega) (by omega) (by omega)
    refine ⟨ys ++ [0], by rw [h1]; rfl, by simp; omega, fun x hx => ?_⟩
    rcases List.mem_append.1 hx with hx | hx
    · have := h3 x hx; omega
    · simp at hx; omega

theorem heights_law (n m : Nat) (hm : m ≤ 60000) (xs : List Int) (hp : places n m = some xs) (hl : xs.length ≤ 64) (k : List Int → Option A) : heights_k (n + 1) (m : Int) k = k xs := by
  unfold places at hp
  unfold heights_k
  by_cases h0 : m = 0
  · rw [if_pos h0] at hp; cases hp; subst h0; rfl
  · rw [if_neg h0, Option.map_eq_some_iff] at hp
    obtain ⟨ys, hys, rfl⟩ := hp
    have hl' : ys.length + 1 ≤ 64 := by simpa using hl
    have e : ((m : Int) == 0) = false := by simp; omega
    rw [e, cond_false]
    have := heights_l0_law (n + 1) [] (fun l => if (l.length + 1) * 8 ≤ 140737488355328 then k (l ++ [0]) else none) n (n + 1) (by omega) (by omega) (IntKind.wrap .i64 ((m : Int) - 1)) [] ys (by simp) (by simpa using hys) (by simp only [List.length_nil]; omega)
    simp only [List.nil_append] at this
    rw [if_pos (by omega)] at this
    exact this

theorem mI_mono : ∀ (f : Nat) (s a : Int) (len : Nat) (xs : List Int), mI f s a len = some xs → mI (f + 1) s a len = some xs
  | 0, _, _, _, _, h => by simp [mI] at h
  | f + 1, s, a, len, xs, h => by
    rw [mI] at h ⊢
    cases hd : decide (a > 0) with
    | false => rw [hd] at h; exact h
    | true =>
      rw [hd] at h
      simp only [cond_true] at h ⊢
      cases hb : decide (((len + 1 : Nat) : Int) ≥ 10) <;> rw [hb] at h <;> simp only [cond_true, cond_false, Option.map_eq_some_iff] at h ⊢ <;> obtain ⟨ys, h1, h2⟩ := h <;> exact ⟨ys, mI_mono f _ _ _ _ h1, h2⟩

theorem places_mono (n m : Nat) (xs : List Int) (hp : places n m = some xs) : places (n + 1) m = some xs := by
  unfold places at hp ⊢
  by_cases h0 : m = 0
  · rw [if_pos h0] at hp ⊢; exact hp
  · rw [if_neg h0, Option.map_eq_some_iff] at hp
    rw [if_neg h0, Option.map_eq_some_iff]
    obtain ⟨ys, h1, h2⟩ := hp
    exact ⟨ys, mI_mono _ _ _ _ _ h1, h2⟩

theorem places_heights (n m : Nat) (hn : 40 < n) (hm : m ≤ 60000) : ∃ xs, places n m = some xs ∧ (∀ (A : Type) (k : List Int → Option A), heights_k n (m : Int) k = k xs) ∧ xs.length ≤ 64 ∧ ∀ x ∈ xs, 0 ≤ x ∧ x < (m : Int) := by
  obtain ⟨n, rfl⟩ : ∃ n', n = n' + 1 := ⟨n - 1, by omega⟩
  obtain ⟨xs, h1, h2, h3⟩ := places_some n m (by omega) (by omega)
  exact ⟨xs, places_mono _ _ _ h1, fun A k => heights_law n m (by omega) xs h1 h2 k, h2, h3⟩

theorem awake_2100 (k : Bool → Option A) : awake_k 2100 k = k true := by kernel_rfl

end Go.Ev
