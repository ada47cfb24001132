import Derived.Test.YtelhickgimgbaaaB5
set_option linter.all false
section
/-
  LENGTHS: how many bits a number has; plain laws of the printed functions of 64 and of 256 bits.
-/
set_option linter.all false
namespace Go.Ev
variable {A : Type}

/-- How many bits a number has. -/
def bl (x : Nat) : Nat := if x = 0 then 0 else Nat.log2 x + 1

theorem bl_le (x k : Nat) : bl x ≤ k ↔ x < 2 ^ k := by
  unfold bl
  split
  · rename_i h; subst h; exact ⟨fun _ => Nat.two_pow_pos k, fun _ => Nat.zero_le _⟩
  · rename_i h
    rw [← Nat.log2_lt h]; omega
theorem lt_bl (x : Nat) : x < 2 ^ bl x := (bl_le x _).1 (Nat.le_refl _)
theorem bl_zero : bl 0 = 0 := rfl
theorem bl_pos {x : Nat} (h : x ≠ 0) : 0 < bl x := by unfold bl; rw [if_neg h]; omega
theorem le_of_bl {x k : Nat} (h : k < bl x) : 2 ^ k ≤ x := by
  rcases Nat.lt_or_ge x (2 ^ k) with h2 | h2
  · have := (bl_le x k).2 h2; omega
  · exact h2
theorem bl_shift (x j : Nat) (h : x / 2 ^ j ≠ 0) : bl x = j + bl (x / 2 ^ j) := by
  apply Nat.le_antisymm
  · rw [bl_le, Nat.pow_add, Nat.mul_comm]
    exact (Nat.div_lt_iff_lt_mul (Nat.two_pow_pos j)).1 (lt_bl _)
  · have hj : j ≤ bl x := by
      rcases Nat.lt_or_ge (bl x) j with h2 | h2
      · exact absurd (Nat.div_eq_of_lt ((bl_le x j).1 (by omega))) h
      · exact h2
    have : bl (x / 2 ^ j) ≤ bl x - j := by
      rw [bl_le, Nat.div_lt_iff_lt_mul (Nat.two_pow_pos j), ← Nat.pow_add, show bl x - j + j = bl x from by omega]
      exact lt_bl x
    omega
theorem bl_mul (x j : Nat) (h : x ≠ 0) : bl (x * 2 ^ j) = j + bl x := by
  have e : x * 2 ^ j / 2 ^ j = x := Nat.mul_div_cancel _ (Nat.two_pow_pos j)
  rw [bl_shift (x * 2 ^ j) j (by rw [e]; exact h), e]

theorem tab_eq : strBytes str0 = ints ((List.range 256).map bl) := by kernel_rfl
theorem tab_at (i : Nat) (h : i < 256) : (strBytes str0)[i]? = some ((bl i : Nat) : Int) := by
  rw [tab_eq, ints_get, List.getElem?_map, List.getElem?_range h]; rfl

theorem leaf (k : Int → Option A) (x y j : Nat) (hy : y < 256) (hj : j < 100) (h : bl x = j + bl y) :
    (if 0 ≤ IntKind.wrap .u8 (y : Int) then ((strBytes str0)[(IntKind.wrap .u8 (y : Int)).toNat]?).bind fun t => k (IntKind.wrap .i64 ((j : Int) + IntKind.wrap .i64 t)) else none) = k ((bl x : Nat) : Int) := by
  have e : IntKind.wrap .u8 (y : Int) = (y : Int) := by rw [wrap_u8]; omega
  have e0 : bl y ≤ 8 := by rw [bl_le]; omega
  have e1 : IntKind.wrap .i64 ((bl y : Nat) : Int) = ((bl y : Nat) : Int) := wrap_id (by omega) (by omega)
  have e2 : IntKind.wrap .i64 ((j : Int) + ((bl y : Nat) : Int)) = ((bl x : Nat) : Int) := by rw [wrap_id (by omega) (by omega)]; omega
  rw [e, if_pos (by omega), Int.toNat_natCast, tab_at y hy, Option.bind_some, e1, e2]

theorem shrk (x k : Nat) (hk : k ≤ 64) (K : Int) (hK : K = (k : Int)) : shr .u64 (x : Int) K = ((x / 2 ^ k : Nat) : Int) := by rw [hK]; exact shr_u64 x k hk

theorem len64_law (n x : Nat) (hx : x < 18446744073709551616) (g : Int → Option A) : len64_k n (x : Int) g = g ((bl x : Nat) : Int) := by
  unfold len64_k len64_p
  rw [shrk x 32 (by decide) 32 rfl, shrk x 16 (by decide) 16 rfl, shrk x 8 (by decide) 8 rfl, shrk (x / 2 ^ 32) 16 (by decide) 16 rfl, shrk (x / 2 ^ 32) 8 (by decide) 8 rfl, shrk (x / 2 ^ 32 / 2 ^ 16) 8 (by decide) 8 rfl, shrk (x / 2 ^ 16) 8 (by decide) 8 rfl]
  by_cases h1 : 4294967296 ≤ x
  · have b1 : bl x = 32 + bl (x / 2 ^ 32) := bl_shift x 32 (by omega)
    rw [decide_eq_true (show (x : Int) ≥ 4294967296 by omega), cond_true]
    by_cases h2 : 65536 ≤ x / 2 ^ 32
    · have b2 : bl (x / 2 ^ 32) = 16 + bl (x / 2 ^ 32 / 2 ^ 16) := bl_shift _ 16 (by omega)
      rw [decide_eq_true (show ((x / 2 ^ 32 : Nat) : Int) ≥ 65536 by omega), cond_true]
      by_cases h3 : 256 ≤ x / 2 ^ 32 / 2 ^ 16
      · have b3 : bl (x / 2 ^ 32 / 2 ^ 16) = 8 + bl (x / 2 ^ 32 / 2 ^ 16 / 2 ^ 8) := bl_shift _ 8 (by omega)
        rw [decide_eq_true (show ((x / 2 ^ 32 / 2 ^ 16 : Nat) : Int) ≥ 256 by omega), cond_true]
        exact leaf g x _ 56 (by omega) (by decide) (by omega)
      · rw [decide_eq_false (show ¬ ((x / 2 ^ 32 / 2 ^ 16 : Nat) : Int) ≥ 256 by omega), cond_false]
        exact leaf g x _ 48 (by omega) (by decide) (by omega)
    · rw [decide_eq_false (show ¬ ((x / 2 ^ 32 : Nat) : Int) ≥ 65536 by omega), cond_false]
      by_cases h3 : 256 ≤ x / 2 ^ 32
      · have b3 : bl (x / 2 ^ 32) = 8 + bl (x / 2 ^ 32 / 2 ^ 8) := bl_shift _ 8 (by omega)
        rw [decide_eq_true (show ((x / 2 ^ 32 : Nat) : Int) ≥ 256 by omega), cond_true]
        exact leaf g x _ 40 (by omega) (by decide) (by omega)
      · rw [decide_eq_false (show ¬ ((x / 2 ^ 32 : Nat) : Int) ≥ 256 by omega), cond_false]
        exact leaf g x _ 32 (by omega) (by decide) (by omega)
  · rw [decide_eq_false (show ¬ (x : Int) ≥ 4294967296 by omega), cond_false]
    by_cases h2 : 65536 ≤ x
    · have b2 : bl x = 16 + bl (x / 2 ^ 16) := bl_shift _ 16 (by omega)
      rw [decide_eq_true (show (x : Int) ≥ 65536 by omega), cond_true]
      by_cases h3 : 256 ≤ x / 2 ^ 16
      · have b3 : bl (x / 2 ^ 16) = 8 + bl (x / 2 ^ 16 / 2 ^ 8) := bl_shift _ 8 (by omega)
        rw [decide_eq_true (show ((x / 2 ^ 16 : Nat) : Int) ≥ 256 by omega), cond_true]
        exact leaf g x _ 24 (by omega) (by decide) (by omega)
      · rw [decide_eq_false (show ¬ ((x / 2 ^ 16 : Nat) : Int) ≥ 256 by omega), cond_false]
        exact leaf g x _ 16 (by omega) (by decide) (by omega)
    · rw [decide_eq_false (show ¬ (x : Int) ≥ 65536 by omega), cond_false]
      by_cases h3 : 256 ≤ x
      · have b3 : bl x = 8 + bl (x / 2 ^ 8) := bl_shift _ 8 (by omega)
        rw [decide_eq_true (show (x : Int) ≥ 256 by omega), cond_true]
        exact leaf g x _ 8 (by omega) (by decide) (by omega)
      · rw [decide_eq_false (show ¬ (x : Int) ≥ 256 by omega), cond_false]
        exact leaf g x x 0 (by omega) (by decide) (by omega)

theorem ulen_l0_law (n : Nat) (x : Nat) (g : Int → Option A) : ∀ (f i : Nat), i ≤ 4 → i < f → x / 2 ^ (64 * i) = 0 →
    ulen_l0 (len64_k n) n (ints (uw x)) g (g 0) f ((i : Int) - 1) = g ((bl x : Nat) : Int) := by
  intro f
  induction f with
  | zero => intro i _ h; omega
  | succ f ih =>
  intro i hi hf he
  rcases i with _ | i
  · rw [ulen_l0, ulen_b0]
    have e : decide (((0 : Nat) : Int) - 1 ≥ 0) = false := by decide
    rw [Nat.mul_zero, Nat.pow_zero, Nat.div_one] at he
    rw [e, cond_false, he]; rfl
  · rw [ulen_l0, ulen_b0]
    have e0 : ((i + 1 : Nat) : Int) - 1 = (i : Int) := by omega
    have e : decide ((i : Int) ≥ 0) = true := decide_eq_true (by omega)
    have e2 : IntKind.wrap .i64 ((i : Int) - 1) = (i : Int) - 1 := wrap_id (by omega) (by omega)
    rw [e0, e, cond_true, if_pos (by omega), if_pos (by omega), Int.toNat_natCast, iuw_at _ _ (by omega), Option.bind_some]
    have hx := wd_split x i
    rw [he, Nat.mul_zero, Nat.add_zero] at hx
    by_cases h1 : wd x i = 0
    · have d : (((wd x i : Nat) : Int) != 0) = false := by rw [h1]; rfl
      rw [d, cond_false, e2]
      exact ih i (by omega) (by omega) (by omega)
    · have d : (((wd x i : Nat) : Int) != 0) = true := by simp; omega
      have hb : bl x = 64 * i + bl (wd x i) := by rw [bl_shift x (64 * i) (by omega), hx]
      have hb2 : bl (wd x i) ≤ 64 := by rw [bl_le]; exact wd_lt x i
      have e3 : IntKind.wrap .i64 (64 * (i : Int)) = ((64 * i : Nat) : Int) := by rw [wrap_id (by omega) (by omega)]; omega
      have e4 : IntKind.wrap .i64 (((64 * i : Nat) : Int) + ((bl (wd x i) : Nat) : Int)) = ((bl x : Nat) : Int) := by rw [wrap_id (by omega) (by omega)]; omega
      rw [d, cond_true, if_pos (by omega), if_pos (by omega), Option.bind_some, len64_law n _ (wd_lt x i), e3, e4]

theorem ulen_law (n : Nat) (hn : 10 < n) (x : Nat) (hx : x < 2 ^ 256) (g : Int → Option A) : ulen_k n (ints (uw x)) g = g ((bl x : Nat) : Int) := by
  unfold ulen_k ulen_p
  exact ulen_l0_law n x (fun y5 => g y5) n 4 (by omega) (by omega) (by
    rw [show (2 : Nat) ^ (64 * 4) = 2 ^ 256 from by decide, Nat.div_eq_of_lt hx])

theorem uof_law (n x : Nat) (hx : x < 18446744073709551616) (g : List Int → Option A) : uof_k n (x : Int) g = g (ints (uw x)) := by
  unfold uof_k uof_p
  have e : ints (uw x) = [(x : Int), 0, 0, 0] := by
    simp only [ints, uw, List.map_cons, List.map_nil]
    rw [Nat.mod_eq_of_lt hx, Nat.div_eq_of_lt hx, Nat.div_eq_of_lt (show x < 340282366920938463463374607431768211456 by omega), Nat.div_eq_of_lt (show x < 6277101735386680763835789423207666416102355444464034512896 by omega)]; rfl
  rw [e]

theorem umax_law (n : Nat) (g : List Int → Option A) : umax_k n g = g (ints (uw (2 ^ 256 - 1))) := by
  unfold umax_k umax_p
  have e : ints (uw (2 ^ 256 - 1)) = [18446744073709551615, 18446744073709551615, 18446744073709551615, 18446744073709551615] := by decide
  rw [e]

theorem imax_imax (a : Int) : imax (imax a 0) 0 = imax a 0 := by unfold imax; split <;> (try split) <;> omega
theorem imax_toNat (a : Int) : imax a 0 = (a.toNat : Int) := by unfold imax; split <;> omega
theorem ushl_lawI (n : Nat) (hn : 10 < n) (x : Nat) (a : Int) (g : List Int → Option A) : ushl_k n (ints (uw x)) a g = g (ints (uw (x * 2 ^ a.toNat % 2 ^ 256))) := by
  rw [← ushl_law n hn x a.toNat g, ← imax_toNat]
  unfold ushl_k ushl_p
  rw [imax_imax]
theorem ushr_lawI (n : Nat) (hn : 10 < n) (x : Nat) (hx : x < 2 ^ 256) (a : Int) (g : List Int → Option A) : ushr_k n (ints (uw x)) a g = g (ints (uw (x / 2 ^ a.toNat))) := by
  rw [← ushr_law n hn x a.toNat hx g, ← imax_toNat]
  unfold ushr_k ushr_p
  rw [imax_imax]

end Go.Ev
end

section
/-
  FUNCTION 15: printed by a program of our own (wip/gen/st.py). 'masthead/compact.Target', in continuation form; the evaluator gives it.
-/
set_option linter.all false
set_option maxRecDepth 100000
namespace Go.Ev
open Go.Proofs
variable {A : Type}

-- ============================================================ ctarget (function 15)
def ctarget_p (g_uof : Int → ((List Int) → Option A) → Option A) (g_ushr : (List Int) → Int → ((List Int) → Option A) → Option A) (g_ulen : (List Int) → (Int → Option A) → Option A) (g_ushl : (List Int) → Int → ((List Int) → Option A) → Option A) (n : Nat) (a0 : Int) (k : (List Int) → Int → Option A) : Option A :=
  g_uof (IntKind.wrap .u64 (iand .u32 a0 8388607)) fun r1 =>
  bif ((iand .u32 a0 8388608) != 0) then
    k [0, 0, 0, 0] 5
  else
    bif (decide ((IntKind.wrap .i64 (shr .u32 a0 24)) ≤ 3)) then
      g_ushr r1 (IntKind.wrap .i64 (8 * (IntKind.wrap .i64 (3 - (IntKind.wrap .i64 (shr .u32 a0 24)))))) fun r2 =>
      bif (deq kA4u64 r2 [0, 0, 0, 0]) then
        k [0, 0, 0, 0] 5
      else
        k r2 0
    else
      g_ulen r1 fun r3 =>
      bif (decide ((IntKind.wrap .i64 (r3 + (IntKind.wrap .i64 (8 * (IntKind.wrap .i64 ((IntKind.wrap .i64 (shr .u32 a0 24)) - 3)))))) > 256)) then
        k [0, 0, 0, 0] 5
      else
        g_ushl r1 (IntKind.wrap .i64 (8 * (IntKind.wrap .i64 ((IntKind.wrap .i64 (shr .u32 a0 24)) - 3)))) fun r4 =>
        bif (deq kA4u64 r4 [0, 0, 0, 0]) then
          k [0, 0, 0, 0] 5
        else
          k r4 0

def ctarget_k (n : Nat) (a0 : Int) (k : (List Int) → Int → Option A) : Option A := ctarget_p (uof_k n) (ushr_k n) (ulen_k n) (ushl_k n) n a0 k

noncomputable def ctarget_E (g_uof : Int → ((List Int) → Option A) → Option A) (g_ushr : (List Int) → Int → ((List Int) → Option A) → Option A) (g_ulen : (List Int) → (Int → Option A) → Option A) (g_ushl : (List Int) → Int → ((List Int) → Option A) → Option A) (n : Nat) : Env A := ⟨tys, gls, [(35, uof_ent g_uof), (34, ushr_ent g_ushr), (39, ulen_ent g_ulen), (40, ushl_ent g_ushl)], [], []⟩
theorem ctarget_T (g_uof : Int → ((List Int) → Option A) → Option A) (g_ushr : (List Int) → Int → ((List Int) → Option A) → Option A) (g_ulen : (List Int) → (Int → Option A) → Option A) (g_ushl : (List Int) → Int → ((List Int) → Option A) → Option A) (n : Nat) : TyOK Try.prog (ctarget_E g_uof g_ushr g_ulen g_ushl n) := tyOK_of rfl tysB
theorem ctarget_fns (n : Nat) : FnsOK Try.prog (ctarget_E (A := A) (uof_k n) (ushr_k n) (ulen_k n) (ushl_k n) n) := AllOK.env rfl rfl (AllOK.cons (uof_ok n) (AllOK.cons (ushr_ok n) (AllOK.cons (ulen_ok n) (AllOK.cons (ushl_ok n) AllOK.nil))))
theorem ctarget_eqg (g_uof : Int → ((List Int) → Option A) → Option A) (g_ushr : (List Int) → Int → ((List Int) → Option A) → Option A) (g_ulen : (List Int) → (Int → Option A) → Option A) (g_ushl : (List Int) → Int → ((List Int) → Option A) → Option A) (n : Nat) (a0 : Int) (k : AV → List Blk → Option A) : fnK (ctarget_E g_uof g_ushr g_ulen g_ushl n) Try.f15 [.pure, .pure] [.p (.int .u32) a0] [] k = ctarget_p g_uof g_ushr g_ulen g_ushl n a0 (fun r0 r1 => k (.tup [.p kA4u64 r0, .p (.int .i64) r1]) []) := by kernel_rfl
theorem ctarget_eq (n : Nat) (a0 : Int) (k : AV → List Blk → Option A) : fnK (ctarget_E (uof_k n) (ushr_k n) (ulen_k n) (ushl_k n) n) Try.f15 [.pure, .pure] [.p (.int .u32) a0] [] k = ctarget_k n a0 (fun r0 r1 => k (.tup [.p kA4u64 r0, .p (.int .i64) r1]) []) := ctarget_eqg (uof_k n) (ushr_k n) (ulen_k n) (ushl_k n) n a0 k
def ctarget_ent (g : Int → ((List Int) → Int → Option A) → Option A) : Entry A := pureE fun args k => args1 args (.int .u32) fun a0 => g a0 (fun r0 r1 => k (.tup [.p kA4u64 r0, .p (.int .i64) r1]) [])
theorem ctarget_lo (n : Nat) : ∀ c, Try.f15.body = some c → ∀ q ∈ loopsOf 0 c, ∀ L, (ctarget_E (A := A) (uof_k n) (ushr_k n) (ulen_k n) (ushl_k n) n).lps.lookup q.1 = some L → LoopOK Try.prog gls q.2 L :=
  lo_body (E := ctarget_E (uof_k n) (ushr_k n) (ulen_k n) (ushl_k n) n) (by kernel_rfl : Try.f15.body = some (bodyOf Try.f15)) (lo_of (E := ctarget_E (uof_k n) (ushr_k n) (ulen_k n) (ushl_k n) n) (by kernel_rfl : loopsOf 0 (bodyOf Try.f15) = []) lo_nil)
theorem ctarget_ok (n : Nat) : FnOK Try.prog gls 15 (ctarget_ent (A := A) (ctarget_k n)) :=
  FnOK.of (ctarget_T (uof_k n) (ushr_k n) (ulen_k n) (ushl_k n) n) (ctarget_fns n) follows ⟨Try.func15, by kernel_rfl⟩ (ctarget_lo n) (rm := [.pure, .pure]) fun args k out h => by
    obtain ⟨a0, e, h1⟩ := args1_sound h
    subst e; rw [ctarget_eq]; exact h1

end Go.Ev
end

section
/-
  FUNCTION 21: printed by a program of our own (wip/gen/st.py). 'masthead/compact.Bits', in continuation form; the evaluator gives it.
-/
set_option linter.all false
set_option maxRecDepth 100000
namespace Go.Ev
open Go.Proofs
variable {A : Type}

-- ============================================================ cbits (function 21)
def cbits_p (g_ulen : (List Int) → (Int → Option A) → Option A) (g_ushl : (List Int) → Int → ((List Int) → Option A) → Option A) (g_ushr : (List Int) → Int → ((List Int) → Option A) → Option A) (n : Nat) (a0 : (List Int)) (k : Int → Option A) : Option A :=
  g_ulen a0 fun r1 =>
  g_ushl a0 (IntKind.wrap .i64 (8 * (IntKind.wrap .i64 (3 - (IntKind.wrap .i64 (Int.tdiv (IntKind.wrap .i64 ((IntKind.wrap .i64 (r1 + 8)) - 1)) 8)))))) fun r2 =>
  g_ushr r2 (IntKind.wrap .i64 (8 * (IntKind.wrap .i64 ((IntKind.wrap .i64 (Int.tdiv (IntKind.wrap .i64 ((IntKind.wrap .i64 (r1 + 8)) - 1)) 8)) - 3)))) fun r3 =>
  (r3[0]?).bind fun y4 =>
  bif ((iand .u64 y4 8388608) != 0) then
    k (ior .u32 (shl .u32 (IntKind.wrap .u32 (IntKind.wrap .i64 ((IntKind.wrap .i64 (Int.tdiv (IntKind.wrap .i64 ((IntKind.wrap .i64 (r1 + 8)) - 1)) 8)) + 1))) 24) (IntKind.wrap .u32 (shr .u64 y4 8)))
  else
    k (ior .u32 (shl .u32 (IntKind.wrap .u32 (IntKind.wrap .i64 (Int.tdiv (IntKind.wrap .i64 ((IntKind.wrap .i64 (r1 + 8)) - 1)) 8))) 24) (IntKind.wrap .u32 y4))

def cbits_k (n : Nat) (a0 : (List Int)) (k : Int → Option A) : Option A := cbits_p (ulen_k n) (ushl_k n) (ushr_k n) n a0 k

noncomputable def cbits_E (g_ulen : (List Int) → (Int → Option A) → Option A) (g_ushl : (List Int) → Int → ((List Int) → Option A) → Option A) (g_ushr : (List Int) → Int → ((List Int) → Option A) → Option A) (n : Nat) : Env A := ⟨tys, gls, [(39, ulen_ent g_ulen), (40, ushl_ent g_ushl), (34, ushr_ent g_ushr)], [], []⟩
theorem cbits_T (g_ulen : (List Int) → (Int → Option A) → Option A) (g_ushl : (List Int) → Int → ((List Int) → Option A) → Option A) (g_ushr : (List Int) → Int → ((List Int) → Option A) → Option A) (n : Nat) : TyOK Try.prog (cbits_E g_ulen g_ushl g_ushr n) := tyOK_of rfl tysB
theorem cbits_fns (n : Nat) : FnsOK Try.prog (cbits_E (A := A) (ulen_k n) (ushl_k n) (ushr_k n) n) := AllOK.env rfl rfl (AllOK.cons (ulen_ok n) (AllOK.cons (ushl_ok n) (AllOK.cons (ushr_ok n) AllOK.nil)))
theorem cbits_eqg (g_ulen : (List Int) → (Int → Option A) → Option A) (g_ushl : (List Int) → Int → ((List Int) → Option A) → Option A) (g_ushr : (List Int) → Int → ((List Int) → Option A) → Option A) (n : Nat) (a0 : (List Int)) (k : AV → List Blk → Option A) : fnK (cbits_E g_ulen g_ushl g_ushr n) Try.f21 [.pure] [.p kA4u64 a0] [] k = cbits_p g_ulen g_ushl g_ushr n a0 (fun r0 => k (.p (.int .u32) r0) []) := by kernel_rfl
theorem cbits_eq (n : Nat) (a0 : (List Int)) (k : AV → List Blk → Option A) : fnK (cbits_E (ulen_k n) (ushl_k n) (ushr_k n) n) Try.f21 [.pure] [.p kA4u64 a0] [] k = cbits_k n a0 (fun r0 => k (.p (.int .u32) r0) []) := cbits_eqg (ulen_k n) (ushl_k n) (ushr_k n) n a0 k
def cbits_ent (g : (List Int) → (Int → Option A) → Option A) : Entry A := pureE fun args k => args1 args kA4u64 fun a0 => g a0 (fun r0 => k (.p (.int .u32) r0) [])
theorem cbits_lo (n : Nat) : ∀ c, Try.f21.body = some c → ∀ q ∈ loopsOf 0 c, ∀ L, (cbits_E (A := A) (ulen_k n) (ushl_k n) (ushr_k n) n).lps.lookup q.1 = some L → LoopOK Try.prog gls q.2 L :=
  lo_body (E := cbits_E (ulen_k n) (ushl_k n) (ushr_k n) n) (by kernel_rfl : Try.f21.body = some (bodyOf Try.f21)) (lo_of (E := cbits_E (ulen_k n) (ushl_k n) (ushr_k n) n) (by kernel_rfl : loopsOf 0 (bodyOf Try.f21) = []) lo_nil)
theorem cbits_ok (n : Nat) : FnOK Try.prog gls 21 (cbits_ent (A := A) (cbits_k n)) :=
  FnOK.of (cbits_T (ulen_k n) (ushl_k n) (ushr_k n) n) (cbits_fns n) follows ⟨Try.func21, by kernel_rfl⟩ (cbits_lo n) (rm := [.pure]) fun args k out h => by
    obtain ⟨a0, e, h1⟩ := args1_sound h
    subst e; rw [cbits_eq]; exact h1

end Go.Ev
end

section
/-
  FUNCTION 17: printed by a program of our own (wip/gen/st.py). 'masthead/compact.Canon', in continuation form; the evaluator gives it.
-/
set_option linter.all false
set_option maxRecDepth 100000
namespace Go.Ev
open Go.Proofs
variable {A : Type}

-- ============================================================ canon (function 17)
def canon_p (g_ctarget : Int → ((List Int) → Int → Option A) → Option A) (g_cbits : (List Int) → (Int → Option A) → Option A) (n : Nat) (a0 : Int) (k : Bool → Option A) : Option A :=
  g_ctarget a0 fun r1 r2 =>
  bif (r2 == 0) then
    g_cbits r1 fun r3 =>
    k (r3 == a0)
  else
    k false

def canon_k (n : Nat) (a0 : Int) (k : Bool → Option A) : Option A := canon_p (ctarget_k n) (cbits_k n) n a0 k

noncomputable def canon_E (g_ctarget : Int → ((List Int) → Int → Option A) → Option A) (g_cbits : (List Int) → (Int → Option A) → Option A) (n : Nat) : Env A := ⟨tys, gls, [(15, ctarget_ent g_ctarget), (21, cbits_ent g_cbits)], [], []⟩
theorem canon_T (g_ctarget : Int → ((List Int) → Int → Option A) → Option A) (g_cbits : (List Int) → (Int → Option A) → Option A) (n : Nat) : TyOK Try.prog (canon_E g_ctarget g_cbits n) := tyOK_of rfl tysB
theorem canon_fns (n : Nat) : FnsOK Try.prog (canon_E (A := A) (ctarget_k n) (cbits_k n) n) := AllOK.env rfl rfl (AllOK.cons (ctarget_ok n) (AllOK.cons (cbits_ok n) AllOK.nil))
theorem canon_eqg (g_ctarget : Int → ((List Int) → Int → Option A) → Option A) (g_cbits : (List Int) → (Int → Option A) → Option A) (n : Nat) (a0 : Int) (k : AV → List Blk → Option A) : fnK (canon_E g_ctarget g_cbits n) Try.f17 [.pure] [.p (.int .u32) a0] [] k = canon_p g_ctarget g_cbits n a0 (fun r0 => k (.p .bool r0) []) := by kernel_rfl
theorem canon_eq (n : Nat) (a0 : Int) (k : AV → List Blk → Option A) : fnK (canon_E (ctarget_k n) (cbits_k n) n) Try.f17 [.pure] [.p (.int .u32) a0] [] k = canon_k n a0 (fun r0 => k (.p .bool r0) []) := canon_eqg (ctarget_k n) (cbits_k n) n a0 k
def canon_ent (g : Int → (Bool → Option A) → Option A) : Entry A := pureE fun args k => args1 args (.int .u32) fun a0 => g a0 (fun r0 => k (.p .bool r0) [])
theorem canon_lo (n : Nat) : ∀ c, Try.f17.body = some c → ∀ q ∈ loopsOf 0 c, ∀ L, (canon_E (A := A) (ctarget_k n) (cbits_k n) n).lps.lookup q.1 = some L → LoopOK Try.prog gls q.2 L :=
  lo_body (E := canon_E (ctarget_k n) (cbits_k n) n) (by kernel_rfl : Try.f17.body = some (bodyOf Try.f17)) (lo_of (E := canon_E (ctarget_k n) (cbits_k n) n) (by kernel_rfl : loopsOf 0 (bodyOf Try.f17) = []) lo_nil)
theorem canon_ok (n : Nat) : FnOK Try.prog gls 17 (canon_ent (A := A) (canon_k n)) :=
  FnOK.of (canon_T (ctarget_k n) (cbits_k n) n) (canon_fns n) follows ⟨Try.func17, by kernel_rfl⟩ (canon_lo n) (rm := [.pure]) fun args k out h => by
    obtain ⟨a0, e, h1⟩ := args1_sound h
    subst e; rw [canon_eq]; exact h1

end Go.Ev
end

section
/-
  COMPACT BITS: what target and bits compute, as numbers.
-/
set_option linter.all false
namespace Go.Ev
variable {A : Type}

-- ------------------------------------------------------------ 32 bits

theorem wrap_u32_nat (x : Nat) (h : x < 4294967296) : IntKind.wrap .u32 (x : Int) = (x : Int) := by rw [wrap_u32]; omega
theorem iand_u32 (a b : Nat) (ha : a < 4294967296) (hb : b < 4294967296) : iand .u32 (a : Int) (b : Int) = ((a &&& b : Nat) : Int) := by
  unfold iand
  rw [BitVec.toNat_and, ofInt_nat, ofInt_nat, bits_u32, Nat.mod_eq_of_lt (show a < 2 ^ 32 by omega), Nat.mod_eq_of_lt (show b < 2 ^ 32 by omega)]
  exact wrap_u32_nat _ (Nat.and_lt_two_pow (n := 32) _ (by omega))
theorem ior_u32 (a b : Nat) (ha : a < 4294967296) (hb : b < 4294967296) : ior .u32 (a : Int) (b : Int) = ((a ||| b : Nat) : Int) := by
  unfold ior
  rw [BitVec.toNat_or, ofInt_nat, ofInt_nat, bits_u32, Nat.mod_eq_of_lt (show a < 2 ^ 32 by omega), Nat.mod_eq_of_lt (show b < 2 ^ 32 by omega)]
  exact wrap_u32_nat _ (Nat.or_lt_two_pow (n := 32) (by omega) (by omega))
theorem shl_u32 (x k : Nat) (hk : k ≤ 32) : shl .u32 (x : Int) (k : Int) = ((x * 2 ^ k % 4294967296 : Nat) : Int) := by
  unfold shl
  rw [bits_u32, Int.toNat_natCast, Nat.min_eq_left hk, wrap_u32]
  have : (x : Int) * 2 ^ k = ((x * 2 ^ k : Nat) : Int) := by simp
  rw [this]; rfl
theorem shr_u32 (x k : Nat) (hk : k ≤ 32) : shr .u32 (x : Int) (k : Int) = ((x / 2 ^ k : Nat) : Int) := by
  unfold shr
  rw [bits_u32, Int.toNat_natCast, Nat.min_eq_left hk, Int.fdiv_eq_ediv_of_nonneg _ (by exact Int.le_of_lt (Int.pow_pos (by decide)))]
  simp

theorem and_bit (a k : Nat) : a &&& 2 ^ k = a / 2 ^ k % 2 * 2 ^ k := by
  apply Nat.eq_of_testBit_eq
  intro t
  rw [Nat.testBit_and, Nat.testBit_two_pow, Nat.testBit_mul_two_pow, show a / 2 ^ k % 2 = a / 2 ^ k % 2 ^ 1 from rfl, Nat.testBit_mod_two_pow, tb_div]
  by_cases h : k = t
  · subst h; simp
  · by_cases h2 : k ≤ t
    · have : ¬ (t - k < 1) := by omega
      simp [h, this]
    · simp [h, h2]

-- ------------------------------------------------------------ how many bytes

def bs (x : Nat) : Nat := (bl x + 7) / 8
theorem bs_le (x k : Nat) : bs x ≤ k ↔ x < 2 ^ (8 * k) := by rw [← bl_le]; unfold bs; omega
theorem lt_bs (x : Nat) : x < 2 ^ (8 * bs x) := (bs_le x _).1 (Nat.le_refl _)
theorem le_of_bs {x k : Nat} (h : k < bs x) : 2 ^ (8 * k) ≤ x := by
  rcases Nat.lt_or_ge x (2 ^ (8 * k)) with h2 | h2
  · have := (bs_le x k).2 h2; omega
  · exact h2
theorem bs_zero : bs 0 = 0 := rfl
theorem bs_256 {x : Nat} (h : x < 2 ^ 256) : bs x ≤ 32 := (bs_le x 32).2 h
theorem bs_mono {x y : Nat} (h : x ≤ y) : bs x ≤ bs y := (bs_le x _).2 (Nat.lt_of_le_of_lt h (lt_bs y))

-- ------------------------------------------------------------ bits

/-- The first three bytes. -/
def zN (x : Nat) : Nat := x * 2 ^ (8 * (3 - bs x)) / 2 ^ (8 * (bs x - 3))
theorem z_pre (x : Nat) : x * 2 ^ (8 * (3 - bs x)) < 2 ^ (24 + 8 * (bs x - 3)) := by
  have h := lt_bs x
  calc x * 2 ^ (8 * (3 - bs x)) < 2 ^ (8 * bs x) * 2 ^ (8 * (3 - bs x)) := Nat.mul_lt_mul_of_pos_right h (Nat.two_pow_pos _)
    _ = 2 ^ (24 + 8 * (bs x - 3)) := by rw [← Nat.pow_add]; congr 1; omega
theorem zN_lt (x : Nat) : zN x < 16777216 := by
  unfold zN
  rw [Nat.div_lt_iff_lt_mul (Nat.two_pow_pos _), show 16777216 = 2 ^ 24 from by decide, ← Nat.pow_add]
  exact z_pre x
theorem zN_ge (x : Nat) (h : x ≠ 0) : 65536 ≤ zN x := by
  have hb : 0 < bs x := by
    rcases Nat.eq_zero_or_pos (bs x) with h0 | h0
    · have := (bs_le x 0).1 (by omega); simp at this; omega
    · exact h0
  have h2 : 2 ^ (8 * (bs x - 1)) ≤ x := le_of_bs (by omega)
  unfold zN
  rw [Nat.le_div_iff_mul_le (Nat.two_pow_pos _), show 65536 = 2 ^ 16 from by decide, ← Nat.pow_add]
  calc 2 ^ (16 + 8 * (bs x - 3)) = 2 ^ (8 * (bs x - 1)) * 2 ^ (8 * (3 - bs x)) := by rw [← Nat.pow_add]; congr 1; omega
    _ ≤ _ := Nat.mul_le_mul_right _ h2

def cbN (x : Nat) : Nat := if 8388608 ≤ zN x then (bs x + 1) * 16777216 + zN x / 256 else bs x * 16777216 + zN x

theorem or_24 (s z : Nat) (hs : s < 256) (hz : z < 16777216) : ior .u32 (shl .u32 (s : Int) 24) (z : Int) = ((s * 16777216 + z : Nat) : Int) := by
  rw [show (24 : Int) = ((24 : Nat) : Int) from rfl, shl_u32 s 24 (by decide), Nat.mod_eq_of_lt (by omega), ior_u32 _ _ (by omega) (by omega), or_parts s z 24 (by omega)]

theorem cbits_law (n : Nat) (hn : 10 < n) (x : Nat) (hx : x < 2 ^ 256) (g : Int → Option A) : cbits_k n (ints (uw x)) g = g ((cbN x : Nat) : Int) := by
  unfold cbits_k cbits_p
  have hbl : bl x ≤ 256 := (bl_le x 256).2 hx
  have hbs := bs_256 hx
  rw [ulen_law n hn x hx]
  have e0 : IntKind.wrap .i64 (((bl x : Nat) : Int) + 8) = ((bl x + 8 : Nat) : Int) := by rw [wrap_id (by omega) (by omega)]; omega
  have e1 : IntKind.wrap .i64 (((bl x + 8 : Nat) : Int) - 1) = ((bl x + 7 : Nat) : Int) := by rw [wrap_id (by omega) (by omega)]; omega
  have e2 : IntKind.wrap .i64 (Int.tdiv ((bl x + 7 : Nat) : Int) 8) = ((bs x : Nat) : Int) := by
    unfold bs
    rw [show (8 : Int) = ((8 : Nat) : Int) from rfl, tdiv_nat]; exact wrap_id (by omega) (by omega)
  have e3 : IntKind.wrap .i64 (3 - ((bs x : Nat) : Int)) = 3 - ((bs x : Nat) : Int) := wrap_id (by omega) (by omega)
  have e4 : IntKind.wrap .i64 (8 * (3 - ((bs x : Nat) : Int))) = 8 * (3 - ((bs x : Nat) : Int)) := wrap_id (by omega) (by omega)
  have e5 : IntKind.wrap .i64 (((bs x : Nat) : Int) - 3) = ((bs x : Nat) : Int) - 3 := wrap_id (by omega) (by omega)
  have e6 : IntKind.wrap .i64 (8 * (((bs x : Nat) : Int) - 3)) = 8 * (((bs x : Nat) : Int) - 3) := wrap_id (by omega) (by omega)
  have e7 : IntKind.wrap .i64 (((bs x : Nat) : Int) + 1) = ((bs x + 1 : Nat) : Int) := by rw [wrap_id (by omega) (by omega)]; omega
  rw [e0, e1, e2, e3, e4, e5, e6, e7, ushl_lawI n hn]
  have t1 : (8 * (3 - ((bs x : Nat) : Int))).toNat = 8 * (3 - bs x) := by omega
  have t2 : (8 * (((bs x : Nat) : Int) - 3)).toNat = 8 * (bs x - 3) := by omega
  have hp : x * 2 ^ (8 * (3 - bs x)) < 2 ^ 256 := Nat.lt_of_lt_of_le (z_pre x) (Nat.pow_le_pow_right (by decide) (by omega))
  rw [t1, Nat.mod_eq_of_lt hp, ushr_lawI n hn _ hp, t2]
  show ((ints (uw (zN x)))[0]?).bind _ = _
  have hz := zN_lt x
  have w0 : wd (zN x) 0 = zN x := by unfold wd; rw [Nat.mul_zero, Nat.pow_zero, Nat.div_one]; omega
  rw [iuw_at _ 0 (by decide), Option.bind_some, w0]
  have i1 : iand .u64 ((zN x : Nat) : Int) 8388608 = ((zN x / 8388608 % 2 * 8388608 : Nat) : Int) := by
    rw [show (8388608 : Int) = ((8388608 : Nat) : Int) from rfl, iand_u64 _ _ (by omega) (by omega), show 8388608 = 2 ^ 23 from by decide, and_bit]
  rw [i1]
  have u1 : IntKind.wrap .u32 ((bs x + 1 : Nat) : Int) = ((bs x + 1 : Nat) : Int) := wrap_u32_nat _ (by omega)
  have u2 : IntKind.wrap .u32 ((bs x : Nat) : Int) = ((bs x : Nat) : Int) := wrap_u32_nat _ (by omega)
  have u3 : IntKind.wrap .u32 ((zN x : Nat) : Int) = ((zN x : Nat) : Int) := wrap_u32_nat _ (by omega)
  have u4 : IntKind.wrap .u32 (shr .u64 ((zN x : Nat) : Int) 8) = ((zN x / 256 : Nat) : Int) := by rw [shrk _ 8 (by decide) 8 rfl]; exact wrap_u32_nat _ (by omega)
  rw [u1, u2, u3, u4, or_24 _ _ (by omega) (by omega), or_24 _ _ (by omega) (by omega)]
  unfold cbN
  by_cases h : 8388608 ≤ zN x
  · have d : (((zN x / 8388608 % 2 * 8388608 : Nat) : Int) != 0) = true := by simp; omega
    rw [d, cond_true, if_pos h]
  · have d : (((zN x / 8388608 % 2 * 8388608 : Nat) : Int) != 0) = false := by simp; omega
    rw [d, cond_false, if_neg h]

-- ------------------------------------------------------------ target

def ctN (c : Nat) : Option Nat :=
  if c / 8388608 % 2 ≠ 0 then none else
  if c / 16777216 ≤ 3 then (if c % 8388608 / 2 ^ (8 * (3 - c / 16777216)) = 0 then none else some (c % 8388608 / 2 ^ (8 * (3 - c / 16777216))))
  else if 256 < bl (c % 8388608) + 8 * (c / 16777216 - 3) then none else
    (if c % 8388608 * 2 ^ (8 * (c / 16777216 - 3)) = 0 then none else some (c % 8388608 * 2 ^ (8 * (c / 16777216 - 3))))

theorem uw_zero (x : Nat) (hx : x < 2 ^ 256) : deq kA4u64 (ints (uw x)) ([0, 0, 0, 0] : List Int) = decide (x = 0) := by
  by_cases h : x = 0
  · subst h; rw [zero_uw, deq_self]; rfl
  · rw [decide_eq_false h]
    cases hd : deq kA4u64 (ints (uw x)) ([0, 0, 0, 0] : List Int) with
    | false => rfl
    | true =>
      have h1 := (deq_iff kA4u64 _ _).1 hd
      rw [zero_uw] at h1
      have inj : ∀ a b : List Nat, ints a = ints b → a = b := fun a b hab => by
        have := congrArg (List.map Int.toNat) hab
        simpa [ints, List.map_map, Function.comp_def] using this
      have h2 := congrArg wval (inj _ _ h1)
      rw [wval_uw x hx, wval_uw 0 (by decide)] at h2
      exact absurd h2 h

theorem ctN_lt (c t : Nat) (h : ctN c = some t) : t < 2 ^ 256 ∧ t ≠ 0 := by
  unfold ctN at h
  split at h
  · cases h
  · split at h
    · split at h
      · cases h
      · rename_i h3
        cases h
        refine ⟨Nat.lt_of_le_of_lt (Nat.div_le_self _ _) ?_, h3⟩
        exact Nat.lt_of_lt_of_le (Nat.mod_lt _ (by decide)) (by decide)
    · split at h
      · cases h
      · rename_i h2
        split at h
        · cases h
        · rename_i h3
          cases h
          refine ⟨?_, h3⟩
          have hm : c % 8388608 ≠ 0 := fun e => h3 (by rw [e, Nat.zero_mul])
          rw [← bl_le, bl_mul _ _ hm]; omega

theorem ctarget_law (n : Nat) (hn : 10 < n) (c : Nat) (hc : c < 4294967296) (g : List Int → Int → Option A) :
    ctarget_k n (c : Int) g = match ctN c with
      | none => g (ints (uw 0)) 5
      | some t => g (ints (uw t)) 0 := by
  unfold ctarget_k ctarget_p ctN
  have i0 : IntKind.wrap .u64 (iand .u32 (c : Int) 8388607) = ((c % 8388608 : Nat) : Int) := by
    rw [show (8388607 : Int) = ((8388607 : Nat) : Int) from rfl, iand_u32 _ _ hc (by omega), show (8388607 : Nat) = 2 ^ 23 - 1 from by decide, Nat.and_two_pow_sub_one_eq_mod, show 8388608 = 2 ^ 23 from by decide]
    exact wrap_u64_nat _ (by omega)
  have i1 : iand .u32 (c : Int) 8388608 = ((c / 8388608 % 2 * 8388608 : Nat) : Int) := by
    rw [show (8388608 : Int) = ((8388608 : Nat) : Int) from rfl, iand_u32 _ _ hc (by omega), show 8388608 = 2 ^ 23 from by decide, and_bit]
  have i2 : IntKind.wrap .i64 (shr .u32 (c : Int) 24) = ((c / 16777216 : Nat) : Int) := by
    rw [show (24 : Int) = ((24 : Nat) : Int) from rfl, shr_u32 c 24 (by decide), show 2 ^ 24 = 16777216 from by decide]
    exact wrap_id (by omega) (by omega)
  have hm : c % 8388608 < 8388608 := Nat.mod_lt _ (by decide)
  have hm2 : c % 8388608 < 2 ^ 256 := Nat.lt_trans hm (by decide)
  rw [i0, i1, i2, uof_law n _ (by omega), zero_uw]
  by_cases h1 : c / 8388608 % 2 = 0
  · have d : (((c / 8388608 % 2 * 8388608 : Nat) : Int) != 0) = false := by rw [h1]; rfl
    rw [d, cond_false, if_neg (by omega)]
    by_cases h2 : c / 16777216 ≤ 3
    · have d2 : decide (((c / 16777216 : Nat) : Int) ≤ 3) = true := decide_eq_true (by omega)
      have e1 : IntKind.wrap .i64 (3 - ((c / 16777216 : Nat) : Int)) = ((3 - c / 16777216 : Nat) : Int) := by rw [wrap_id (by omega) (by omega)]; omega
      have e2 : IntKind.wrap .i64 (8 * ((3 - c / 16777216 : Nat) : Int)) = ((8 * (3 - c / 16777216) : Nat) : Int) := by rw [wrap_id (by omega) (by omega)]; omega
      rw [d2, cond_true, if_pos h2, e1, e2, ushr_law n hn _ _ hm2, ← zero_uw, uw_zero _ (Nat.lt_of_le_of_lt (Nat.div_le_self _ _) hm2)]
      by_cases h3 : c % 8388608 / 2 ^ (8 * (3 - c / 16777216)) = 0
      · rw [decide_eq_true h3, cond_true, if_pos h3]
      · rw [decide_eq_false h3, cond_false, if_neg h3]
    · have d2 : decide (((c / 16777216 : Nat) : Int) ≤ 3) = false := decide_eq_false (by omega)
      have hbm : bl (c % 8388608) ≤ 23 := (bl_le _ 23).2 (by omega)
      have e1 : IntKind.wrap .i64 (((c / 16777216 : Nat) : Int) - 3) = ((c / 16777216 - 3 : Nat) : Int) := by rw [wrap_id (by omega) (by omega)]; omega
      have e2 : IntKind.wrap .i64 (8 * ((c / 16777216 - 3 : Nat) : Int)) = ((8 * (c / 16777216 - 3) : Nat) : Int) := by rw [wrap_id (by omega) (by omega)]; omega
      have e3 : IntKind.wrap .i64 (((bl (c % 8388608) : Nat) : Int) + ((8 * (c / 16777216 - 3) : Nat) : Int)) = ((bl (c % 8388608) + 8 * (c / 16777216 - 3) : Nat) : Int) := by rw [wrap_id (by omega) (by omega)]; omega
      rw [d2, cond_false, if_neg h2, ulen_law n hn _ hm2, e1, e2, e3]
      by_cases h3 : 256 < bl (c % 8388608) + 8 * (c / 16777216 - 3)
      · rw [decide_eq_true (show ((bl (c % 8388608) + 8 * (c / 16777216 - 3) : Nat) : Int) > 256 by omega), cond_true, if_pos h3]
      · rw [decide_eq_false (show ¬ ((bl (c % 8388608) + 8 * (c / 16777216 - 3) : Nat) : Int) > 256 by omega), cond_false, if_neg h3]
        have hlt : c % 8388608 * 2 ^ (8 * (c / 16777216 - 3)) < 2 ^ 256 := by
          by_cases h0 : c % 8388608 = 0
          · rw [h0, Nat.zero_mul]; exact Nat.two_pow_pos _
          · rw [← bl_le, bl_mul _ _ h0]; omega
        rw [ushl_law n hn, Nat.mod_eq_of_lt hlt, ← zero_uw, uw_zero _ hlt]
        by_cases h4 : c % 8388608 * 2 ^ (8 * (c / 16777216 - 3)) = 0
        · rw [decide_eq_true h4, cond_true, if_pos h4]
        · rw [decide_eq_false h4, cond_false, if_neg h4]
  · have d : (((c / 8388608 % 2 * 8388608 : Nat) : Int) != 0) = true := by simp; omega
    rw [d, cond_true, if_pos h1]

def canN (c : Nat) : Bool := match ctN c with
  | none => false
  | some t => cbN t == c

theorem cbN_lt (x : Nat) (hx : x < 2 ^ 256) : cbN x < 4294967296 := by
  have := bs_256 hx
  have := zN_lt x
  unfold cbN
  split <;> omega

theorem canon_law (n : Nat) (hn : 10 < n) (c : Nat) (hc : c < 4294967296) (g : Bool → Option A) : canon_k n (c : Int) g = g (canN c) := by
  unfold canon_k canon_p
  rw [ctarget_law n hn c hc]
  unfold canN
  cases h : ctN c with
  | none => rfl
  | some t =>
    show (bif ((0 : Int) == 0) then _ else _) = _
    rw [show ((0 : Int) == 0) = true from rfl, cond_true, cbits_law n hn t (ctN_lt c t h).1]
    show g (((cbN t : Nat) : Int) == (c : Int)) = g (cbN t == c)
    congr 1
    by_cases h2 : cbN t = c
    · rw [h2]; simp
    · rw [beq_eq_false_iff_ne.2 h2]; simp; omega

end Go.Ev
end

section
/-
  COMPACT BITS: plain laws of numbers: there and back, order, what is lost.
-/
set_option linter.all false
namespace Go.Ev

theorem cbN_mono {x y : Nat} (h : x ≤ y) : cbN x ≤ cbN y := by
  have hb := bs_mono h
  have hzx := zN_lt x
  have hzy := zN_lt y
  rcases Nat.lt_or_ge (bs x) (bs y) with hlt | hge
  · have hy : y ≠ 0 := fun e => by subst e; rw [bs_zero] at hlt; omega
    have := zN_ge y hy
    unfold cbN
    split <;> split <;> omega
  · have he : bs x = bs y := by omega
    have hz : zN x ≤ zN y := by
      unfold zN
      rw [he]
      exact Nat.div_le_div_right (Nat.mul_le_mul_right _ h)
    unfold cbN
    rw [he]
    split <;> split <;> omega

theorem ctN_mk (e m : Nat) (hm : m < 8388608) : ctN (e * 16777216 + m) =
    if e ≤ 3 then (if m / 2 ^ (8 * (3 - e)) = 0 then none else some (m / 2 ^ (8 * (3 - e))))
    else if 256 < bl m + 8 * (e - 3) then none else (if m * 2 ^ (8 * (e - 3)) = 0 then none else some (m * 2 ^ (8 * (e - 3)))) := by
  unfold ctN
  rw [show (e * 16777216 + m) / 16777216 = e from by omega, show (e * 16777216 + m) % 8388608 = m from by omega, if_neg (show ¬ (e * 16777216 + m) / 8388608 % 2 ≠ 0 from by omega)]

/-- What the last bytes left out weigh. -/
def dN (x : Nat) : Nat := 2 ^ (8 * (bs x - if 8388608 ≤ zN x then 2 else 3))
/-- The number that is kept. -/
def trN (x : Nat) : Nat := x / dN x * dN x

theorem zN_big {x : Nat} (h : 3 ≤ bs x) : zN x = x / 2 ^ (8 * (bs x - 3)) := by
  unfold zN
  rw [show 3 - bs x = 0 from by omega, Nat.mul_zero, Nat.pow_zero, Nat.mul_one]
theorem zN_small {x : Nat} (h : bs x < 3) : zN x = x * 2 ^ (8 * (3 - bs x)) := by
  unfold zN
  rw [show bs x - 3 = 0 from by omega, Nat.mul_zero, Nat.pow_zero, Nat.div_one]
theorem dN_small {x : Nat} (h : bs x < 3) : dN x = 1 := by
  unfold dN
  have : (bs x - if 8388608 ≤ zN x then 2 else 3) = 0 := by split <;> omega
  rw [this]
theorem trN_small {x : Nat} (h : bs x < 3) : trN x = x := by unfold trN; rw [dN_small h, Nat.div_one, Nat.mul_one]
theorem z256 {x : Nat} (h : 3 ≤ bs x) : zN x / 256 = x / 2 ^ (8 * (bs x - 2)) := by
  rw [zN_big h, Nat.div_div_eq_div_mul, show 256 = 2 ^ 8 from by decide, ← Nat.pow_add]
  congr 2; omega

theorem ctN_cbN (x : Nat) (h0 : x ≠ 0) (hx : x < 2 ^ 256) : ctN (cbN x) = some (trN x) := by
  have hz := zN_lt x
  have hz2 := zN_ge x h0
  have hbl : bl x ≤ 256 := (bl_le x 256).2 hx
  rcases Nat.lt_or_ge (bs x) 3 with hs | hs
  · rw [trN_small hs]
    have ez := zN_small hs
    have e1 : zN x / 2 ^ (8 * (3 - bs x)) = x := by rw [ez, Nat.mul_div_cancel _ (Nat.two_pow_pos _)]
    unfold cbN
    by_cases hb : 8388608 ≤ zN x
    · rw [if_pos hb, ctN_mk _ _ (by omega), if_pos (by omega)]
      have e2 : zN x / 256 / 2 ^ (8 * (3 - (bs x + 1))) = x := by
        rw [Nat.div_div_eq_div_mul, show 256 = 2 ^ 8 from by decide, ← Nat.pow_add, show 8 + 8 * (3 - (bs x + 1)) = 8 * (3 - bs x) from by omega, e1]
      rw [e2, if_neg h0]
    · rw [if_neg hb, ctN_mk _ _ (by omega), if_pos (by omega), e1, if_neg h0]
  · unfold cbN
    by_cases hb : 8388608 ≤ zN x
    · have e := z256 hs
      have ne : zN x / 256 ≠ 0 := by omega
      have hbl2 : bl x = 8 * (bs x - 2) + bl (zN x / 256) := by rw [e]; exact bl_shift x _ (by rw [← e]; exact ne)
      have et : trN x = zN x / 256 * 2 ^ (8 * (bs x - 2)) := by unfold trN dN; rw [if_pos hb, e]
      rw [if_pos hb, ctN_mk _ _ (by omega), if_neg (by omega), if_neg (by omega), show bs x + 1 - 3 = bs x - 2 from by omega, ← et, if_neg]
      rw [et]; exact Nat.mul_ne_zero ne (Nat.ne_of_gt (Nat.two_pow_pos _))
    · have e := zN_big hs
      have ne : zN x ≠ 0 := by omega
      have hbl2 : bl x = 8 * (bs x - 3) + bl (zN x) := by rw [e]; exact bl_shift x _ (by rw [← e]; exact ne)
      have et : trN x = zN x * 2 ^ (8 * (bs x - 3)) := by unfold trN dN; rw [if_neg hb, e]
      rw [if_neg hb, ctN_mk _ _ (by omega)]
      by_cases h3 : bs x ≤ 3
      · have h3' : bs x = 3 := by omega
        rw [if_pos h3]
        rw [h3', Nat.sub_self, Nat.mul_zero, Nat.pow_zero, Nat.mul_one] at et
        rw [h3', Nat.sub_self, Nat.mul_zero, Nat.pow_zero, Nat.div_one, if_neg ne, et]
      · rw [if_neg h3, if_neg (by omega), ← et, if_neg]
        rw [et]; exact Nat.mul_ne_zero ne (Nat.ne_of_gt (Nat.two_pow_pos _))

theorem trN_le (x : Nat) : trN x ≤ x := Nat.div_mul_le_self _ _
theorem trN_lost (x : Nat) : x - trN x < dN x := by
  unfold trN
  have h1 := Nat.div_add_mod x (dN x)
  have h2 : x % dN x < dN x := Nat.mod_lt _ (Nat.two_pow_pos _)
  rw [Nat.mul_comm] at h1
  omega

theorem bs_trN (x : Nat) : bs (trN x) = bs x := by
  rcases Nat.lt_or_ge (bs x) 3 with hs | hs
  · rw [trN_small hs]
  · apply Nat.le_antisymm (bs_mono (trN_le x))
    rcases Nat.lt_or_ge (bs (trN x)) (bs x) with h | h
    · exfalso
      have h1 : trN x < 2 ^ (8 * (bs x - 1)) := (bs_le _ _).1 (by omega)
      have h2 : 2 ^ (8 * (bs x - 1)) ≤ x := le_of_bs (by omega)
      have h3 : ∃ q, 2 ^ (8 * (bs x - 1)) = q * dN x := by
        unfold dN
        refine ⟨2 ^ (8 * (bs x - 1) - 8 * (bs x - if 8388608 ≤ zN x then 2 else 3)), ?_⟩
        rw [← Nat.pow_add]; congr 1
        split <;> omega
      obtain ⟨q, hq⟩ := h3
      rw [hq] at h1 h2
      have h4 : q ≤ x / dN x := (Nat.le_div_iff_mul_le (Nat.two_pow_pos _)).2 h2
      have h5 := Nat.mul_le_mul_right (dN x) h4
      unfold trN at h1
      omega
    · exact h

theorem cbN_trN (x : Nat) : cbN (trN x) = cbN x := by
  rcases Nat.lt_or_ge (bs x) 3 with hs | hs
  · rw [trN_small hs]
  · have hbt := bs_trN x
    have hzt : zN (trN x) = trN x / 2 ^ (8 * (bs x - 3)) := by rw [zN_big (by omega), hbt]
    have e := zN_big hs
    unfold cbN
    rw [hbt]
    by_cases hb : 8388608 ≤ zN x
    · have e2 := z256 hs
      have et : trN x = zN x / 256 * 256 * 2 ^ (8 * (bs x - 3)) := by
        unfold trN dN; rw [if_pos hb, ← e2, Nat.mul_assoc, show 256 * 2 ^ (8 * (bs x - 3)) = 2 ^ 8 * 2 ^ (8 * (bs x - 3)) from rfl, ← Nat.pow_add]
        congr 2; omega
      rw [hzt, et, Nat.mul_div_cancel _ (Nat.two_pow_pos _), if_pos hb, if_pos (by omega)]
      omega
    · have et : trN x = zN x * 2 ^ (8 * (bs x - 3)) := by unfold trN dN; rw [if_neg hb, e]
      rw [hzt, et, Nat.mul_div_cancel _ (Nat.two_pow_pos _), if_neg hb]

theorem dN_le (x : Nat) (h0 : x ≠ 0) (hs : 3 ≤ bs x) : dN x ≤ x / 2 ^ 15 := by
  have e := zN_big hs
  have hz2 := zN_ge x h0
  rw [Nat.le_div_iff_mul_le (Nat.two_pow_pos _)]
  unfold dN
  by_cases hb : 8388608 ≤ zN x
  · rw [if_pos hb]
    rw [e, Nat.le_div_iff_mul_le (Nat.two_pow_pos _)] at hb
    refine Nat.le_trans (Nat.le_of_eq ?_) hb
    rw [show (8388608 : Nat) = 2 ^ 23 from by decide, ← Nat.pow_add, ← Nat.pow_add]; congr 1; omega
  · rw [if_neg hb]
    rw [e, Nat.le_div_iff_mul_le (Nat.two_pow_pos _)] at hz2
    refine Nat.le_trans ?_ hz2
    rw [Nat.mul_comm]
    exact Nat.mul_le_mul_right _ (by decide)

theorem lost_lt (x : Nat) (h0 : x ≠ 0) (hl : x - trN x ≠ 0) : x - trN x < x / 2 ^ 15 := by
  rcases Nat.lt_or_ge (bs x) 3 with hs | hs
  · rw [trN_small hs] at hl; omega
  · exact Nat.lt_of_lt_of_le (trN_lost x) (dN_le x h0 hs)

theorem trN_of_dvd (x q : Nat) (h : x = q * dN x) : trN x = x := by
  have hd : 0 < dN x := Nat.two_pow_pos _
  unfold trN
  have : x / dN x = q := by
    generalize dN x = d at h hd
    rw [h, Nat.mul_div_cancel _ hd]
  rw [this, ← h]

theorem trN_ctN (c t : Nat) (h : ctN c = some t) : trN t = t := by
  have hlt := ctN_lt c t h
  have hm : c % 8388608 < 8388608 := Nat.mod_lt _ (by decide)
  unfold ctN at h
  split at h
  · cases h
  · split at h
    · split at h
      · cases h
      · cases h
        generalize ht : c % 8388608 / 2 ^ (8 * (3 - c / 16777216)) = t at *
        have h1 : t < 8388608 := by rw [← ht]; exact Nat.lt_of_le_of_lt (Nat.div_le_self _ _) hm
        rcases Nat.lt_or_ge (bs t) 3 with hs | hs
        · exact trN_small hs
        · have h3 : bs t ≤ 3 := (bs_le t 3).2 (by omega)
          have ez := zN_big hs
          rw [show bs t - 3 = 0 from by omega, Nat.mul_zero, Nat.pow_zero, Nat.div_one] at ez
          refine trN_of_dvd t t ?_
          unfold dN
          rw [if_neg (by omega), show bs t - 3 = 0 from by omega, Nat.mul_zero, Nat.pow_zero, Nat.mul_one]
    · rename_i he
      split at h
      · cases h
      · split at h
        · cases h
        · cases h
          generalize hmm : c % 8388608 = m at *
          generalize hee : c / 16777216 = e at *
          have hbs : bs (m * 2 ^ (8 * (e - 3))) ≤ e := by
            rw [bs_le]
            calc m * 2 ^ (8 * (e - 3)) < 2 ^ 24 * 2 ^ (8 * (e - 3)) := Nat.mul_lt_mul_of_pos_right (by omega) (Nat.two_pow_pos _)
              _ = 2 ^ (8 * e) := by rw [← Nat.pow_add]; congr 1; omega
          rcases Nat.lt_or_ge (bs (m * 2 ^ (8 * (e - 3)))) 3 with hs | hs
          · exact trN_small hs
          · have ez := zN_big hs
            have key : (bs (m * 2 ^ (8 * (e - 3))) - if 8388608 ≤ zN (m * 2 ^ (8 * (e - 3))) then 2 else 3) ≤ e - 3 := by
              by_cases hb : 8388608 ≤ zN (m * 2 ^ (8 * (e - 3)))
              · rw [if_pos hb]
                rcases Nat.lt_or_ge (bs (m * 2 ^ (8 * (e - 3)))) e with h | h
                · omega
                · exfalso
                  have hh : bs (m * 2 ^ (8 * (e - 3))) = e := by omega
                  rw [hh, Nat.mul_div_cancel _ (Nat.two_pow_pos _)] at ez
                  omega
              · rw [if_neg hb]; omega
            refine trN_of_dvd _ (m * 2 ^ (8 * (e - 3) - 8 * (bs (m * 2 ^ (8 * (e - 3))) - if 8388608 ≤ zN (m * 2 ^ (8 * (e - 3))) then 2 else 3))) ?_
            unfold dN
            rw [Nat.mul_assoc, ← Nat.pow_add]
            congr 2
            omega

theorem canN_cbN (x : Nat) (h0 : x ≠ 0) (hx : x < 2 ^ 256) : canN (cbN x) = true := by
  unfold canN
  rw [ctN_cbN x h0 hx]
  show (cbN (trN x) == cbN x) = true
  rw [cbN_trN]; simp

end Go.Ev
end

section
/-
  FUNCTION 58: printed by a program of our own (wip/gen/st.py). 'masthead/mastheadref04.trim', in continuation form; the evaluator gives it.
-/
set_option linter.all false
set_option maxRecDepth 100000
namespace Go.Ev
open Go.Proofs
variable {A : Type}

-- ============================================================ trim (function 58)
def trim_b0 (n : Nat) (a : (List Int)) (k0 : Int → Option A) (r : Int → Option A) (n_ : Int) : Option A :=
  bif (decide (n_ > 0)) then
    if 0 ≤ (IntKind.wrap .i64 (n_ - 1)) then
      (a[(Int.toNat (IntKind.wrap .i64 (n_ - 1)))]?).bind fun y1 =>
      bif (y1 == 0) then
        r (IntKind.wrap .i64 (n_ - 1))
      else
        k0 n_
    else none
  else
    k0 n_

def trim_l0 (n : Nat) (a : (List Int)) (k0 : Int → Option A) : Nat → Int → Option A
  | 0 => fun _ => none
  | f + 1 => trim_b0 n a k0 (trim_l0 n a k0 f)

def trim_p (n : Nat) (a0 : (List Int)) (k : (List Int) → Option A) : Option A :=
  trim_l0 n a0 (fun y2 =>
    if 0 ≤ y2 then
      if y2 ≤ (a0.length : Int) then
        k ((a0.drop 0).take ((Int.toNat y2) - 0))
      else none
    else none) n (a0.length : Int)

def trim_k (n : Nat) (a0 : (List Int)) (k : (List Int) → Option A) : Option A := trim_p n a0 k

noncomputable def trim_c0 : Code := codeAt [1, 1, 0, 0, 0] (bodyOf Try.f58)
def trim_d0 : List Nat := [2, 4, 5, 6, 7, 8, 9, 10, 11, 12, 13, 14, 15, 16, 17]
def trim_y0 : List Nat := [1, 2, 4, 5, 6, 7, 8, 9, 10, 11, 12, 13, 14, 15, 16, 17, 18, 19, 20]
def trim_sh0 : Shape := ⟨[(.p (.sl (.int .i64))), .any, .any, (.p (.int .i64)), .any, .any, .any, .any, .any, .any, .any, .any, .any, .any, .any, .any, .any, .any, .any, .any, .any], [], 0⟩
def trim_t0 (a : (List Int)) (n_ : Int) : trim_sh0.den := ((a, (), (), n_, (), (), (), (), (), (), (), (), (), (), (), (), (), (), (), (), (), ()), ())
def trim_x0_0 (a : (List Int)) (z1 : Int) : St := ⟨[.p (.sl (.int .i64)) a, .any, .any, .p (.int .i64) z1, .any, .any, .any, .any, .any, .any, .any, .any, .any, .any, .any, .any, .any, .any, .any, .any, .any], [], 0⟩
def trim_g0 (n : Nat) (d : trim_sh0.den) (k : Ex → St → Option A) : Option A :=
  trim_l0 n d.1.1 (fun z1 => k (.exit 0) (trim_x0_0 d.1.1 z1)) n d.1.2.2.2.1
noncomputable def trim_E (n : Nat) : Env A := ⟨tys, gls, [], [(0, loopE trim_d0 trim_sh0 (trim_g0 n))], []⟩
theorem trim_T {A : Type} (n : Nat) : TyOK Try.prog (trim_E (A := A) n) := tyOK_of rfl tysB
theorem trim_fns (n : Nat) : FnsOK Try.prog (trim_E (A := A) n) := AllOK.env rfl rfl AllOK.nil
noncomputable def trim_LK0 (n : Nat) (a : (List Int)) (k : Ex → St → Option A) (f : Nat) (n_ : Int) : Option A := loopK (codeK (trim_E n) 1 trim_c0) trim_d0 trim_y0 f (trim_sh0.fill (trim_t0 a n_)) k
theorem trim_st0 (n f : Nat) (a : (List Int)) (k : Ex → St → Option A) (n_ : Int) : trim_LK0 n a k (f + 1) n_ = trim_b0 n a (fun z1 => k (.exit 0) (trim_x0_0 a z1)) (trim_LK0 n a k f) n_ := by kernel_rfl
theorem trim_le0 (n : Nat) (a : (List Int)) (k : Ex → St → Option A) : ∀ (f : Nat) (n_ : Int), trim_LK0 n a k f n_ = trim_l0 n a (fun z1 => k (.exit 0) (trim_x0_0 a z1)) f n_ := by
  intro f
  induction f with
  | zero => intros; kernel_rfl
  | succ f ih => intro n_; exact (trim_st0 n f a k n_).trans ((congrArg (fun r => trim_b0 n a (fun z1 => k (.exit 0) (trim_x0_0 a z1)) r n_) (funext fun n_ => ih n_)).trans (by kernel_rfl))
theorem trim_lo0 (n : Nat) : LoopOK Try.prog gls trim_c0 (loopE trim_d0 trim_sh0 (trim_g0 (A := A) n)) :=
  LoopOK.of (trim_T n) (trim_fns n) follows (j := 1) (n := n) (xdead := trim_y0) (lo_of (by kernel_rfl : loopsOf 1 trim_c0 = []) lo_nil) fun d k => Eq.trans (by kernel_rfl) (trim_le0 n d.1.1 k n d.1.2.2.2.1)
theorem trim_eqg (n : Nat) (a0 : (List Int)) (k : AV → List Blk → Option A) : fnK (trim_E n) Try.f58 [.pure] [.p (.sl (.int .i64)) a0] [] k = trim_p n a0 (fun r0 => k (.p (.sl (.int .i64)) r0) []) := by kernel_rfl
theorem trim_eq (n : Nat) (a0 : (List Int)) (k : AV → List Blk → Option A) : fnK (trim_E n) Try.f58 [.pure] [.p (.sl (.int .i64)) a0] [] k = trim_k n a0 (fun r0 => k (.p (.sl (.int .i64)) r0) []) := trim_eqg n a0 k
def trim_ent (g : (List Int) → ((List Int) → Option A) → Option A) : Entry A := pureE fun args k => args1 args (.sl (.int .i64)) fun a0 => g a0 (fun r0 => k (.p (.sl (.int .i64)) r0) [])
theorem trim_lo (n : Nat) : ∀ c, Try.f58.body = some c → ∀ q ∈ loopsOf 0 c, ∀ L, (trim_E (A := A) n).lps.lookup q.1 = some L → LoopOK Try.prog gls q.2 L :=
  lo_body (E := trim_E n) (by kernel_rfl : Try.f58.body = some (bodyOf Try.f58)) (lo_of (E := trim_E n) (by kernel_rfl : loopsOf 0 (bodyOf Try.f58) = [(0, trim_c0)]) (lo_cons rfl (trim_lo0 n) lo_nil))
theorem trim_ok (n : Nat) : FnOK Try.prog gls 58 (trim_ent (A := A) (trim_k n)) :=
  FnOK.of (trim_T n) (trim_fns n) follows ⟨Try.func58, by kernel_rfl⟩ (trim_lo n) (rm := [.pure]) fun args k out h => by
    obtain ⟨a0, e, h1⟩ := args1_sound h
    subst e; rw [trim_eq]; exact h1

end Go.Ev
end

section
/-
  FUNCTION 47: printed by a program of our own (wip/gen/st.py). 'masthead/mastheadref04.Of', in continuation form; the evaluator gives it.
-/
set_option linter.all false
set_option maxRecDepth 100000
namespace Go.Ev
open Go.Proofs
variable {A : Type}

-- ============================================================ of (function 47)
def of_b1 (g_trim : (List Int) → ((List Int) → Option A) → Option A) (n : Nat) (t7 : (List Int)) (t8 : Int) (t9 : Int) (k0 : (List Int) → Option A) (r : Int → Int → (List Int) → Option A) (w : Int) (i : Int) (out : (List Int)) : Option A :=
  bif (decide (i < 4)) then
    if (out.length + 1) * 8 ≤ 140737488355328 then
      r (IntKind.wrap .u64 (Int.tdiv w 65536)) (IntKind.wrap .i64 (i + 1)) (out ++ [(IntKind.wrap .i64 (Int.tmod w 65536))])
    else none
  else
    k0 out

def of_l1 (g_trim : (List Int) → ((List Int) → Option A) → Option A) (n : Nat) (t7 : (List Int)) (t8 : Int) (t9 : Int) (k0 : (List Int) → Option A) : Nat → Int → Int → (List Int) → Option A
  | 0 => fun _ _ _ => none
  | f + 1 => of_b1 g_trim n t7 t8 t9 k0 (of_l1 g_trim n t7 t8 t9 k0 f)

def of_b0 (g_trim : (List Int) → ((List Int) → Option A) → Option A) (n : Nat) (t7 : (List Int)) (t8 : Int) (k0 : (List Int) → Option A) (r : Int → (List Int) → Option A) (t9 : Int) (out : (List Int)) : Option A :=
  bif (decide (t9 < t8)) then
    if 0 ≤ t9 then
      (t7[(Int.toNat t9)]?).bind fun y1 =>
      of_l1 g_trim n t7 t8 t9 (fun y2 =>
        r (IntKind.wrap .i64 (t9 + 1)) y2) n y1 0 out
    else none
  else
    k0 out

def of_l0 (g_trim : (List Int) → ((List Int) → Option A) → Option A) (n : Nat) (t7 : (List Int)) (t8 : Int) (k0 : (List Int) → Option A) : Nat → Int → (List Int) → Option A
  | 0 => fun _ _ => none
  | f + 1 => of_b0 g_trim n t7 t8 k0 (of_l0 g_trim n t7 t8 k0 f)

def of_p (g_trim : (List Int) → ((List Int) → Option A) → Option A) (n : Nat) (a0 : (List Int)) (k : (List Int) → Option A) : Option A :=
  of_l0 g_trim n a0 (a0.length : Int) (fun y3 =>
    g_trim y3 fun r4 =>
    k r4) n 0 []

def of_k (n : Nat) (a0 : (List Int)) (k : (List Int) → Option A) : Option A := of_p (trim_k n) n a0 k

noncomputable def of_c0 : Code := codeAt [1, 1, 0, 1, 0, 0] (bodyOf Try.f47)
def of_d0 : List Nat := [0, 2, 5, 6, 10, 11, 12, 13, 14, 15, 16, 17, 18, 19, 20, 21, 22, 23, 24, 25]
def of_y0 : List Nat := [0, 1, 2, 4, 5, 6, 7, 8, 9, 10, 11, 12, 13, 14, 15, 16, 17, 18, 19, 20, 21, 22, 23, 24, 25, 26, 27]
def of_sh0 : Shape := ⟨[.any, .any, .any, (.row 0), .any, .any, .any, (.p (.sl (.int .u64))), (.p (.int .i64)), (.p (.int .i64)), .any, .any, .any, .any, .any, .any, .any, .any, .any, .any, .any, .any, .any, .any, .any, .any, .any, .any], [(.row 3 (.int .i64))], 0⟩
def of_t0 (t7 : (List Int)) (t8 : Int) (t9 : Int) (out : (List Int)) : of_sh0.den := (((), (), (), (), (), (), (), t7, t8, t9, (), (), (), (), (), (), (), (), (), (), (), (), (), (), (), (), (), (), ()), (out, ()))
def of_x0_0 (t7 : (List Int)) (t8 : Int) (z0 : (List Int)) : St := ⟨[.any, .any, .any, .row 0, .any, .any, .any, .any, .any, .any, .any, .any, .any, .any, .any, .any, .any, .any, .any, .any, .any, .any, .any, .any, .any, .any, .any, .any], [.row 3 (.int .i64) z0], 0⟩
def of_g0 (g_trim : (List Int) → ((List Int) → Option A) → Option A) (n : Nat) (d : of_sh0.den) (k : Ex → St → Option A) : Option A :=
  of_l0 g_trim n d.1.2.2.2.2.2.2.2.1 d.1.2.2.2.2.2.2.2.2.1 (fun z0 => k (.exit 0) (of_x0_0 d.1.2.2.2.2.2.2.2.1 d.1.2.2.2.2.2.2.2.2.1 z0)) n d.1.2.2.2.2.2.2.2.2.2.1 d.2.1
noncomputable def of_c1 : Code := codeAt [1, 1, 0, 1, 0, 0, 1, 1, 0, 0, 1, 1, 0, 0] (bodyOf Try.f47)
def of_d1 : List Nat := [10, 11, 12, 13, 14, 15, 16, 17, 18, 19, 20, 21, 22, 23, 24]
def of_y1 : List Nat := [0, 1, 2, 4, 5, 6, 10, 11, 12, 13, 14, 15, 16, 17, 18, 19, 20, 21, 22, 23, 24, 25, 26, 27]
def of_sh1 : Shape := ⟨[.any, .any, .any, (.row 0), .any, (.p (.int .u64)), (.p (.int .i64)), (.p (.sl (.int .u64))), (.p (.int .i64)), (.p (.int .i64)), .any, .any, .any, .any, .any, .any, .any, .any, .any, .any, .any, .any, .any, .any, .any, .any, .any, .any], [(.row 3 (.int .i64))], 0⟩
def of_t1 (t7 : (List Int)) (t8 : Int) (t9 : Int) (w : Int) (i : Int) (out : (List Int)) : of_sh1.den := (((), (), (), (), (), w, i, t7, t8, t9, (), (), (), (), (), (), (), (), (), (), (), (), (), (), (), (), (), (), ()), (out, ()))
def of_x1_0 (t7 : (List Int)) (t8 : Int) (t9 : Int) (z3 : (List Int)) : St := ⟨[.any, .any, .any, .row 0, .any, .any, .any, .p (.sl (.int .u64)) t7, .p (.int .i64) t8, .p (.int .i64) t9, .any, .any, .any, .any, .any, .any, .any, .any, .any, .any, .any, .any, .any, .any, .any, .any, .any, .any], [.row 3 (.int .i64) z3], 0⟩
def of_g1 (g_trim : (List Int) → ((List Int) → Option A) → Option A) (n : Nat) (d : of_sh1.den) (k : Ex → St → Option A) : Option A :=
  of_l1 g_trim n d.1.2.2.2.2.2.2.2.1 d.1.2.2.2.2.2.2.2.2.1 d.1.2.2.2.2.2.2.2.2.2.1 (fun z3 => k (.exit 2) (of_x1_0 d.1.2.2.2.2.2.2.2.1 d.1.2.2.2.2.2.2.2.2.1 d.1.2.2.2.2.2.2.2.2.2.1 z3)) n d.1.2.2.2.2.2.1 d.1.2.2.2.2.2.2.1 d.2.1
noncomputable def of_E (g_trim : (List Int) → ((List Int) → Option A) → Option A) (n : Nat) : Env A := ⟨tys, gls, [(58, trim_ent g_trim)], [(0, loopE of_d0 of_sh0 (of_g0 g_trim n)), (1, loopE of_d1 of_sh1 (of_g1 g_trim n))], []⟩
theorem of_T (g_trim : (List Int) → ((List Int) → Option A) → Option A) (n : Nat) : TyOK Try.prog (of_E g_trim n) := tyOK_of rfl tysB
theorem of_fns (n : Nat) : FnsOK Try.prog (of_E (A := A) (trim_k n) n) := AllOK.env rfl rfl (AllOK.cons (trim_ok n) AllOK.nil)
noncomputable def of_LK1 (g_trim : (List Int) → ((List Int) → Option A) → Option A) (n : Nat) (t7 : (List Int)) (t8 : Int) (t9 : Int) (k : Ex → St → Option A) (f : Nat) (w : Int) (i : Int) (out : (List Int)) : Option A := loopK (codeK (of_E g_trim n) 2 of_c1) of_d1 of_y1 f (of_sh1.fill (of_t1 t7 t8 t9 w i out)) k
theorem of_st1 (g_trim : (List Int) → ((List Int) → Option A) → Option A) (n f : Nat) (t7 : (List Int)) (t8 : Int) (t9 : Int) (k : Ex → St → Option A) (w : Int) (i : Int) (out : (List Int)) : of_LK1 g_trim n t7 t8 t9 k (f + 1) w i out = of_b1 g_trim n t7 t8 t9 (fun z3 => k (.exit 2) (of_x1_0 t7 t8 t9 z3)) (of_LK1 g_trim n t7 t8 t9 k f) w i out := by kernel_rfl
theorem of_le1 (g_trim : (List Int) → ((List Int) → Option A) → Option A) (n : Nat) (t7 : (List Int)) (t8 : Int) (t9 : Int) (k : Ex → St → Option A) : ∀ (f : Nat) (w : Int) (i : Int) (out : (List Int)), of_LK1 g_trim n t7 t8 t9 k f w i out = of_l1 g_trim n t7 t8 t9 (fun z3 => k (.exit 2) (of_x1_0 t7 t8 t9 z3)) f w i out := by
  intro f
  induction f with
  | zero => intros; kernel_rfl
  | succ f ih => intro w i out; exact (of_st1 g_trim n f t7 t8 t9 k w i out).trans ((congrArg (fun r => of_b1 g_trim n t7 t8 t9 (fun z3 => k (.exit 2) (of_x1_0 t7 t8 t9 z3)) r w i out) (funext fun w => funext fun i => funext fun out => ih w i out)).trans (by kernel_rfl))
theorem of_lo1 (n : Nat) : LoopOK Try.prog gls of_c1 (loopE of_d1 of_sh1 (of_g1 (A := A) (trim_k n) n)) :=
  LoopOK.of (of_T (trim_k n) n) (of_fns n) follows (j := 2) (n := n) (xdead := of_y1) (lo_of (by kernel_rfl : loopsOf 2 of_c1 = []) lo_nil) fun d k => Eq.trans (by kernel_rfl) (of_le1 (trim_k n) n d.1.2.2.2.2.2.2.2.1 d.1.2.2.2.2.2.2.2.2.1 d.1.2.2.2.2.2.2.2.2.2.1 k n d.1.2.2.2.2.2.1 d.1.2.2.2.2.2.2.1 d.2.1)
noncomputable def of_LK0 (g_trim : (List Int) → ((List Int) → Option A) → Option A) (n : Nat) (t7 : (List Int)) (t8 : Int) (k : Ex → St → Option A) (f : Nat) (t9 : Int) (out : (List Int)) : Option A := loopK (codeK (of_E g_trim n) 1 of_c0) of_d0 of_y0 f (of_sh0.fill (of_t0 t7 t8 t9 out)) k
theorem of_st0 (g_trim : (List Int) → ((List Int) → Option A) → Option A) (n f : Nat) (t7 : (List Int)) (t8 : Int) (k : Ex → St → Option A) (t9 : Int) (out : (List Int)) : of_LK0 g_trim n t7 t8 k (f + 1) t9 out = of_b0 g_trim n t7 t8 (fun z0 => k (.exit 0) (of_x0_0 t7 t8 z0)) (of_LK0 g_trim n t7 t8 k f) t9 out := by kernel_rfl
theorem of_le0 (g_trim : (List Int) → ((List Int) → Option A) → Option A) (n : Nat) (t7 : (List Int)) (t8 : Int) (k : Ex → St → Option A) : ∀ (f : Nat) (t9 : Int) (out : (List Int)), of_LK0 g_trim n t7 t8 k f t9 out = of_l0 g_trim n t7 t8 (fun z0 => k (.exit 0) (of_x0_0 t7 t8 z0)) f t9 out := by
  intro f
  induction f with
  | zero => intros; kernel_rfl
  | succ f ih => intro t9 out; exact (of_st0 g_trim n f t7 t8 k t9 out).trans ((congrArg (fun r => of_b0 g_trim n t7 t8 (fun z0 => k (.exit 0) (of_x0_0 t7 t8 z0)) r t9 out) (funext fun t9 => funext fun out => ih t9 out)).trans (by kernel_rfl))
theorem of_lo0 (n : Nat) : LoopOK Try.prog gls of_c0 (loopE of_d0 of_sh0 (of_g0 (A := A) (trim_k n) n)) :=
  LoopOK.of (of_T (trim_k n) n) (of_fns n) follows (j := 1) (n := n) (xdead := of_y0) (lo_of (by kernel_rfl : loopsOf 1 of_c0 = [(1, of_c1)]) (lo_cons rfl (of_lo1 n) lo_nil)) fun d k => Eq.trans (by kernel_rfl) (of_le0 (trim_k n) n d.1.2.2.2.2.2.2.2.1 d.1.2.2.2.2.2.2.2.2.1 k n d.1.2.2.2.2.2.2.2.2.2.1 d.2.1)
theorem of_eqg (g_trim : (List Int) → ((List Int) → Option A) → Option A) (n : Nat) (a0 : (List Int)) (k : AV → List Blk → Option A) : fnK (of_E g_trim n) Try.f47 [.pure] [.p (.sl (.int .u64)) a0] [] k = of_p g_trim n a0 (fun r0 => k (.p (.sl (.int .i64)) r0) []) := by kernel_rfl
theorem of_eq (n : Nat) (a0 : (List Int)) (k : AV → List Blk → Option A) : fnK (of_E (trim_k n) n) Try.f47 [.pure] [.p (.sl (.int .u64)) a0] [] k = of_k n a0 (fun r0 => k (.p (.sl (.int .i64)) r0) []) := of_eqg (trim_k n) n a0 k
def of_ent (g : (List Int) → ((List Int) → Option A) → Option A) : Entry A := pureE fun args k => args1 args (.sl (.int .u64)) fun a0 => g a0 (fun r0 => k (.p (.sl (.int .i64)) r0) [])
theorem of_lo (n : Nat) : ∀ c, Try.f47.body = some c → ∀ q ∈ loopsOf 0 c, ∀ L, (of_E (A := A) (trim_k n) n).lps.lookup q.1 = some L → LoopOK Try.prog gls q.2 L :=
  lo_body (E := of_E (trim_k n) n) (by kernel_rfl : Try.f47.body = some (bodyOf Try.f47)) (lo_of (E := of_E (trim_k n) n) (by kernel_rfl : loopsOf 0 (bodyOf Try.f47) = [(0, of_c0), (1, of_c1)]) (lo_cons rfl (of_lo0 n) (lo_cons rfl (of_lo1 n) lo_nil)))
theorem of_ok (n : Nat) : FnOK Try.prog gls 47 (of_ent (A := A) (of_k n)) :=
  FnOK.of (of_T (trim_k n) n) (of_fns n) follows ⟨Try.func47, by kernel_rfl⟩ (of_lo n) (rm := [.pure]) fun args k out h => by
    obtain ⟨a0, e, h1⟩ := args1_sound h
    subst e; rw [of_eq]; exact h1

end Go.Ev
end

