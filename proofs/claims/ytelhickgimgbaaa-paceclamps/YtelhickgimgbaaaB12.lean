import Derived.Test.YtelhickgimgbaaaB11
import Derived.Test.YtelhickgimgbaaaB7
import Derived.Test.YtelhickgimgbaaaB5
import Derived.Test.YtelhickgimgbaaaB6
set_option linter.all false
section
/-
  FUNCTION 13: printed by a program of our own (wip/gen/st.py). 'masthead/mastheadlaw18.PaceClamps', in continuation form; the evaluator gives it.
-/
set_option linter.all false
set_option maxRecDepth 100000
namespace Go.Ev
open Go.Proofs
variable {A : Type}

-- ============================================================ clamps (function 13)
def clamps_p (g_next : (List Int) → (List Int) → (Int × (Int × (Int × (Int × Unit)))) → ((List Int) → Option A) → Option A) (g_umul : (List Int) → Int → ((List Int) → Int → Option A) → Option A) (g_pawake : (Bool → Option A) → Option A) (g_ucmp : (List Int) → (List Int) → (Int → Option A) → Option A) (g_held : Int → (Int → Option A) → Option A) (g_ushr : (List Int) → Int → ((List Int) → Option A) → Option A) (n : Nat) (a0 : (List Int)) (a1 : (List Int)) (a2 : (Int × (Int × (Int × (Int × Unit))))) (k : Bool → Option A) : Option A :=
  g_next a0 a1 a2 fun r1 =>
  g_umul a0 4 fun r2 r3 =>
  bif (deq kA4u64 a0 [0, 0, 0, 0]) then
    g_pawake fun r4 =>
    k r4
  else
    bif (deq kA4u64 a1 [0, 0, 0, 0]) then
      g_pawake fun r5 =>
      k r5
    else
      bif (r3 == 0) then
        g_ucmp r1 r2 fun r6 =>
        bif (decide (r6 > 0)) then
          k false
        else
          g_ucmp r1 a1 fun r7 =>
          bif (decide (r7 > 0)) then
            k false
          else
            bif (deq kA4u64 r1 [0, 0, 0, 0]) then
              k false
            else
              g_held a2.1 fun r8 =>
              g_held a2.2.1 fun r9 =>
              bif (decide ((IntKind.wrap .i64 (r8 * r9)) < 4)) then
                g_pawake fun r10 =>
                k r10
              else
                g_ucmp a0 a1 fun r11 =>
                bif (decide (r11 > 0)) then
                  g_pawake fun r12 =>
                  k r12
                else
                  g_ushr a0 3 fun r13 =>
                  g_ucmp r1 r13 fun r14 =>
                  bif (decide (r14 ≥ 0)) then
                    g_pawake fun r15 =>
                    k r15
                  else
                    k false
      else
        g_ucmp r1 a1 fun r16 =>
        bif (decide (r16 > 0)) then
          k false
        else
          bif (deq kA4u64 r1 [0, 0, 0, 0]) then
            k false
          else
            g_held a2.1 fun r17 =>
            g_held a2.2.1 fun r18 =>
            bif (decide ((IntKind.wrap .i64 (r17 * r18)) < 4)) then
              g_pawake fun r19 =>
              k r19
            else
              g_ucmp a0 a1 fun r20 =>
              bif (decide (r20 > 0)) then
                g_pawake fun r21 =>
                k r21
              else
                g_ushr a0 3 fun r22 =>
                g_ucmp r1 r22 fun r23 =>
                bif (decide (r23 ≥ 0)) then
                  g_pawake fun r24 =>
                  k r24
                else
                  k false

def clamps_k (n : Nat) (a0 : (List Int)) (a1 : (List Int)) (a2 : (Int × (Int × (Int × (Int × Unit))))) (k : Bool → Option A) : Option A := clamps_p (next_k n) (umul_k n) (pawake_k n) (ucmp_k n) (held_k n) (ushr_k n) n a0 a1 a2 k

noncomputable def clamps_E (g_next : (List Int) → (List Int) → (Int × (Int × (Int × (Int × Unit)))) → ((List Int) → Option A) → Option A) (g_umul : (List Int) → Int → ((List Int) → Int → Option A) → Option A) (g_pawake : (Bool → Option A) → Option A) (g_ucmp : (List Int) → (List Int) → (Int → Option A) → Option A) (g_held : Int → (Int → Option A) → Option A) (g_ushr : (List Int) → Int → ((List Int) → Option A) → Option A) (n : Nat) : Env A := ⟨tys, gls, [(32, next_ent g_next), (36, umul_ent g_umul), (28, pawake_ent g_pawake), (30, ucmp_ent g_ucmp), (29, held_ent g_held), (34, ushr_ent g_ushr)], [], []⟩
theorem clamps_T (g_next : (List Int) → (List Int) → (Int × (Int × (Int × (Int × Unit)))) → ((List Int) → Option A) → Option A) (g_umul : (List Int) → Int → ((List Int) → Int → Option A) → Option A) (g_pawake : (Bool → Option A) → Option A) (g_ucmp : (List Int) → (List Int) → (Int → Option A) → Option A) (g_held : Int → (Int → Option A) → Option A) (g_ushr : (List Int) → Int → ((List Int) → Option A) → Option A) (n : Nat) : TyOK Try.prog (clamps_E g_next g_umul g_pawake g_ucmp g_held g_ushr n) := tyOK_of rfl tysB
theorem clamps_fns (n : Nat) : FnsOK Try.prog (clamps_E (A := A) (next_k n) (umul_k n) (pawake_k n) (ucmp_k n) (held_k n) (ushr_k n) n) := AllOK.env rfl rfl (AllOK.cons (next_ok n) (AllOK.cons (umul_ok n) (AllOK.cons (pawake_ok n) (AllOK.cons (ucmp_ok n) (AllOK.cons (held_ok n) (AllOK.cons (ushr_ok n) AllOK.nil))))))
theorem clamps_eqg (g_next : (List Int) → (List Int) → (Int × (Int × (Int × (Int × Unit)))) → ((List Int) → Option A) → Option A) (g_umul : (List Int) → Int → ((List Int) → Int → Option A) → Option A) (g_pawake : (Bool → Option A) → Option A) (g_ucmp : (List Int) → (List Int) → (Int → Option A) → Option A) (g_held : Int → (Int → Option A) → Option A) (g_ushr : (List Int) → Int → ((List Int) → Option A) → Option A) (n : Nat) (a0 : (List Int)) (a1 : (List Int)) (a2 : (Int × (Int × (Int × (Int × Unit))))) (k : AV → List Blk → Option A) : fnK (clamps_E g_next g_umul g_pawake g_ucmp g_held g_ushr n) Try.f13 [.pure] [.p kA4u64 a0, .p kA4u64 a1, .p kT43 a2] [] k = clamps_p g_next g_umul g_pawake g_ucmp g_held g_ushr n a0 a1 a2 (fun r0 => k (.p .bool r0) []) := by kernel_rfl
theorem clamps_eq (n : Nat) (a0 : (List Int)) (a1 : (List Int)) (a2 : (Int × (Int × (Int × (Int × Unit))))) (k : AV → List Blk → Option A) : fnK (clamps_E (next_k n) (umul_k n) (pawake_k n) (ucmp_k n) (held_k n) (ushr_k n) n) Try.f13 [.pure] [.p kA4u64 a0, .p kA4u64 a1, .p kT43 a2] [] k = clamps_k n a0 a1 a2 (fun r0 => k (.p .bool r0) []) := clamps_eqg (next_k n) (umul_k n) (pawake_k n) (ucmp_k n) (held_k n) (ushr_k n) n a0 a1 a2 k
def clamps_ent (g : (List Int) → (List Int) → (Int × (Int × (Int × (Int × Unit)))) → (Bool → Option A) → Option A) : Entry A := pureE fun args k => args3 args kA4u64 kA4u64 kT43 fun a0 a1 a2 => g a0 a1 a2 (fun r0 => k (.p .bool r0) [])
theorem clamps_lo (n : Nat) : ∀ c, Try.f13.body = some c → ∀ q ∈ loopsOf 0 c, ∀ L, (clamps_E (A := A) (next_k n) (umul_k n) (pawake_k n) (ucmp_k n) (held_k n) (ushr_k n) n).lps.lookup q.1 = some L → LoopOK Try.prog gls q.2 L :=
  lo_body (E := clamps_E (next_k n) (umul_k n) (pawake_k n) (ucmp_k n) (held_k n) (ushr_k n) n) (by kernel_rfl : Try.f13.body = some (bodyOf Try.f13)) (lo_of (E := clamps_E (next_k n) (umul_k n) (pawake_k n) (ucmp_k n) (held_k n) (ushr_k n) n) (by kernel_rfl : loopsOf 0 (bodyOf Try.f13) = []) lo_nil)
theorem clamps_ok (n : Nat) : FnOK Try.prog gls 13 (clamps_ent (A := A) (clamps_k n)) :=
  FnOK.of (clamps_T (next_k n) (umul_k n) (pawake_k n) (ucmp_k n) (held_k n) (ushr_k n) n) (clamps_fns n) follows ⟨Try.func13, by kernel_rfl⟩ (clamps_lo n) (rm := [.pure]) fun args k out h => by
    obtain ⟨a0, a1, a2, e, h1⟩ := args3_sound h
    subst e; rw [clamps_eq]; exact h1

end Go.Ev
end

section
/-
  THE LAWS OF PaceKeeps, PaceRises, PaceClamps.
-/
set_option linter.all false
namespace Go.Ev

theorem uw_inj {x y : Nat} (hx : x < 2 ^ 256) (hy : y < 2 ^ 256) (h : x = y) : deq kA4u64 (ints (uw x)) (ints (uw y)) = true := by rw [h, deq_self]

theorem lastN_keep (I s t : Nat) (h1 : 1 ≤ I) (h : (t : Int) - (s : Int) = (I : Int)) : lastN I s t = I := by
  unfold lastN imin imax
  rw [h]
  repeat' split
  all_goals omega

theorem keeps_law (a0 a1 : List Int) (a2 : Int × (Int × (Int × (Int × Unit)))) (f0 : WF kA4u64 a0) (f1 : WF kA4u64 a1) (f2 : WF kT43 a2) : ∃ n, keeps_k n a0 a1 a2 (fun r => some r) = some true := by
  refine ⟨1000, ?_⟩
  have haw : ∀ k : Bool → Option Bool, pawake_k 1000 k = k true := pawake_1000
  have hn : 10 < 1000 := by decide
  generalize 1000 = n at haw hn
  obtain ⟨x, rfl, hx⟩ := wf_four f0
  obtain ⟨y, rfl, hy⟩ := wf_four f1
  obtain ⟨a, b, s, t, rfl, hs, ht⟩ := wf_pace f2
  unfold keeps_k keeps_p
  have h1 := idealN_pos a b
  have h2 := idealN_le a b
  simp only []
  rw [held_law, held_law, ideal_mul, ucmp_law n hn x y hx hy, ucmp_gt]
  by_cases c1 : y < x
  · rw [decide_eq_true c1, cond_true, haw]
  · rw [decide_eq_false c1, cond_false, uw_zero x hx]
    by_cases c2 : x = 0
    · rw [decide_eq_true c2, cond_true, haw]
    · rw [decide_eq_false c2, cond_false, wrap_id (x := (s : Int)) (by omega) (by omega), wrap_id (x := 4294967295 - ((idealN a b : Nat) : Int)) (by omega) (by omega)]
      by_cases c3 : (s : Int) > 4294967295 - ((idealN a b : Nat) : Int)
      · rw [decide_eq_true c3, cond_true, haw]
      · have e : IntKind.wrap .u32 ((s : Int) + IntKind.wrap .u32 ((idealN a b : Nat) : Int)) = ((s + idealN a b : Nat) : Int) := by
          rw [wrap_u32, wrap_u32]; omega
        rw [decide_eq_false c3, cond_false, e, pnext_law n hn x y hx hy a b s (s + idealN a b) hs (by omega)]
        have el : lastN (idealN a b) s (s + idealN a b : Nat) = idealN a b := lastN_keep _ _ _ h1 (by omega)
        have ep : pnN x y (idealN a b) (idealN a b) = x := by
          unfold pnN
          rw [Nat.mul_div_cancel _ (by omega)]; omega
        rw [el, ep, deq_self, cond_true, haw]

theorem next_law {A : Type} (n : Nat) (hn : 10 < n) (x y : Nat) (hx : x < 2 ^ 256) (hy : y < 2 ^ 256) (a b : Int) (s t : Nat) (hs : s < 4294967296) (ht : t < 4294967296) (u : Unit) (g : List Int → Option A) :
    next_k n (ints (uw x)) (ints (uw y)) (a, (b, ((s : Int), ((t : Int), u)))) g = g (ints (uw (pnN x y (idealN a b) (lastN (idealN a b) s t)))) := by
  unfold next_k next_p
  exact pnext_law n hn x y hx hy a b s t hs ht g

theorem pnN_mono {x x' y y' I L L' : Nat} (hx : x ≤ x') (hy : y ≤ y') (hL : L ≤ L') : pnN x y I L ≤ pnN x' y' I L' := by
  unfold pnN
  have : x * L / I ≤ x' * L' / I := Nat.div_le_div_right (Nat.mul_le_mul hx hL)
  omega
theorem lastN_mono {I : Nat} {s t t' : Int} (h1 : 1 ≤ I) (h : t ≤ t') : lastN I s t ≤ lastN I s t' := by
  unfold lastN imin imax
  repeat' split
  all_goals omega

theorem imin_nat (x y : Nat) : imin (x : Int) (y : Int) = ((min x y : Nat) : Int) := by unfold imin; split <;> omega
theorem imax_nat (x y : Nat) : imax (x : Int) (y : Int) = ((max x y : Nat) : Int) := by unfold imax; split <;> omega

theorem wf_half {v : List Int × (List Int × (Int × Unit))} (h : WF kT51 v) : ∃ (x y t : Nat), v = (ints (uw x), (ints (uw y), ((t : Int), ()))) ∧ x < 2 ^ 256 ∧ y < 2 ^ 256 ∧ t < 4294967296 := by
  obtain ⟨a, b, t, u⟩ := v
  obtain ⟨h1, h2, h3, h4⟩ := h
  obtain ⟨x, e1, hx⟩ := wf_four h1
  obtain ⟨y, e2, hy⟩ := wf_four h2
  obtain ⟨t', e3, ht⟩ := wf_int32 h3
  have e1' : a = ints (uw x) := e1
  have e2' : b = ints (uw y) := e2
  have e3' : t = (t' : Int) := e3
  subst e1'; subst e2'; subst e3'
  exact ⟨x, y, t', rfl, hx, hy, ht⟩

theorem rises_law (a0 a1 : List Int × (List Int × (Int × Unit))) (a2 : Int × (Int × (Int × (Int × Unit)))) (f0 : WF kT51 a0) (f1 : WF kT51 a1) (f2 : WF kT43 a2) : ∃ n, rises_k n a0 a1 a2 (fun r => some r) = some true := by
  refine ⟨1000, ?_⟩
  have haw : ∀ k : Bool → Option Bool, pawake_k 1000 k = k true := pawake_1000
  have hn : 10 < 1000 := by decide
  generalize 1000 = n at haw hn
  obtain ⟨x, y, u, rfl, hx, hy, hu⟩ := wf_half f0
  obtain ⟨x', y', u', rfl, hx', hy', hu'⟩ := wf_half f1
  obtain ⟨a, b, s, t, rfl, hs, ht⟩ := wf_pace f2
  have h1 := idealN_pos a b
  have N := fun (x y : Nat) (hx : x < 2 ^ 256) (hy : y < 2 ^ 256) (t : Nat) (ht : t < 4294967296) => next_law (A := Bool) n hn x y hx hy a b s t hs ht ()
  have C := fun (x y : Nat) (hx : x < 2 ^ 256) (hy : y < 2 ^ 256) => ucmp_law (A := Bool) n hn x y hx hy
  have hmin : min u u' < 4294967296 := by omega
  have hmax : max u u' < 4294967296 := by omega
  have hm := lastN_mono (I := idealN a b) (s := (s : Int)) (t := ((min u u' : Nat) : Int)) (t' := ((max u u' : Nat) : Int)) h1 (by omega)
  have lt := fun (x y L : Nat) (hy : y < 2 ^ 256) => pnN_lt (x := x) (y := y) (I := idealN a b) (L := L) hy
  unfold rises_k rises_p
  simp only [imin_nat, imax_nat, N x y hx hy _ hmin, N x y hx hy _ hmax, N x y hx hy t ht, N x' y hx' hy t ht, N x y' hx hy' t ht, N x' y' hx' hy' t ht, C _ _ hx hx', C _ _ hy hy', C _ _ (lt _ _ _ hy) (lt _ _ _ hy), C _ _ (lt _ _ _ hy) (lt _ _ _ hy'), C _ _ (lt _ _ _ hy') (lt _ _ _ hy), C _ _ (lt _ _ _ hy') (lt _ _ _ hy'), haw, ucmp_gt, ucmp_le]
  have hf : ∀ {p : Prop} [Decidable p] {α : Type} (u v : α), ¬ p → (bif decide p then u else v) = v := fun u v h => by rw [decide_eq_false h, cond_false]
  have hT : ∀ {p : Prop} [Decidable p] {α : Type} (u v : α), p → (bif decide p then u else v) = u := fun u v h => by rw [decide_eq_true h, cond_true]
  rw [hf _ _ (Nat.not_lt.2 (pnN_mono (Nat.le_refl _) (Nat.le_refl _) hm))]
  by_cases c1 : x' < x
  · rw [hT _ _ c1]
    by_cases c2 : y' < y
    · rw [hT _ _ c2, hT _ _ (pnN_mono (by omega) (Nat.le_refl _) (Nat.le_refl _)), hT _ _ (pnN_mono (Nat.le_refl _) (by omega) (Nat.le_refl _))]
    · rw [hf _ _ c2, hT _ _ (pnN_mono (by omega) (Nat.le_refl _) (Nat.le_refl _)), hT _ _ (pnN_mono (Nat.le_refl _) (by omega) (Nat.le_refl _))]
  · rw [hf _ _ c1]
    by_cases c2 : y' < y
    · rw [hT _ _ c2, hT _ _ (pnN_mono (by omega) (Nat.le_refl _) (Nat.le_refl _)), hT _ _ (pnN_mono (Nat.le_refl _) (by omega) (Nat.le_refl _))]
    · rw [hf _ _ c2, hT _ _ (pnN_mono (by omega) (Nat.le_refl _) (Nat.le_refl _)), hT _ _ (pnN_mono (Nat.le_refl _) (by omega) (Nat.le_refl _))]

theorem pn_up (x y I L : Nat) (h1 : 1 ≤ I) (hx : x ≠ 0) (hL : L ≤ 4 * I) : pnN x y I L ≤ x * 4 := by
  unfold pnN
  have : x * L / I ≤ x * 4 := by
    calc x * L / I ≤ x * (4 * I) / I := Nat.div_le_div_right (Nat.mul_le_mul_left _ hL)
      _ = x * 4 := by rw [← Nat.mul_assoc, Nat.mul_div_cancel _ (by omega)]
  omega
theorem pn_down (x y I L : Nat) (h1 : 4 ≤ I) (hL : I / 4 ≤ L) (hxy : x ≤ y) : x / 8 ≤ pnN x y I L := by
  unfold pnN
  have h8 : I ≤ 8 * L := by omega
  have : x / 8 ≤ x * L / I := by
    rw [Nat.le_div_iff_mul_le (by omega)]
    calc x / 8 * I ≤ x / 8 * (8 * L) := Nat.mul_le_mul_left _ h8
      _ = x / 8 * 8 * L := by rw [Nat.mul_assoc]
      _ ≤ x * L := Nat.mul_le_mul_right _ (Nat.div_mul_le_self _ _)
  omega

theorem clamps_law (a0 a1 : List Int) (a2 : Int × (Int × (Int × (Int × Unit)))) (f0 : WF kA4u64 a0) (f1 : WF kA4u64 a1) (f2 : WF kT43 a2) : ∃ n, clamps_k n a0 a1 a2 (fun r => some r) = some true := by
  refine ⟨1000, ?_⟩
  have haw : ∀ k : Bool → Option Bool, pawake_k 1000 k = k true := pawake_1000
  have hn : 10 < 1000 := by decide
  generalize 1000 = n at haw hn
  obtain ⟨x, rfl, hx⟩ := wf_four f0
  obtain ⟨y, rfl, hy⟩ := wf_four f1
  obtain ⟨a, b, s, t, rfl, hs, ht⟩ := wf_pace f2
  have h1 := idealN_pos a b
  have h2 := idealN_le a b
  obtain ⟨l1, l2, l3⟩ := lastN_bounds (idealN a b) s t h1
  have hr := pnN_lt (x := x) (I := idealN a b) (L := lastN (idealN a b) s t) hy
  have hf : ∀ {p : Prop} [Decidable p] {α : Type} (u v : α), ¬ p → (bif decide p then u else v) = v := fun u v h => by rw [decide_eq_false h, cond_false]
  have hT : ∀ {p : Prop} [Decidable p] {α : Type} (u v : α), p → (bif decide p then u else v) = u := fun u v h => by rw [decide_eq_true h, cond_true]
  unfold clamps_k clamps_p
  simp only []
  rw [next_law n hn x y hx hy a b s t hs ht, show (4 : Int) = ((4 : Nat) : Int) from rfl, umul_law n hn x 4 hx (by decide), uw_zero x hx]
  by_cases c1 : x = 0
  · rw [hT _ _ c1, haw]
  · rw [hf _ _ c1, uw_zero y hy]
    by_cases c2 : y = 0
    · rw [hT _ _ c2, haw]
    · rw [hf _ _ c2]
      have hup := pn_up x y _ _ h1 c1 l2
      have hle : pnN x y (idealN a b) (lastN (idealN a b) s t) ≤ y := Nat.min_le_right _ _
      have hne : pnN x y (idealN a b) (lastN (idealN a b) s t) ≠ 0 := by unfold pnN; omega
      have hdown := fun h4 hxy => pn_down x y (idealN a b) (lastN (idealN a b) s t) h4 l3 hxy
      generalize pnN x y (idealN a b) (lastN (idealN a b) s t) = r at *
      have rest : (ucmp_k n (ints (uw r)) (ints (uw y)) fun r7 => bif decide (r7 > 0) then some false else bif deq kA4u64 (ints (uw r)) [0, 0, 0, 0] then some false else held_k n a fun r8 => held_k n b fun r9 => bif decide (IntKind.wrap .i64 (r8 * r9) < ((4 : Nat) : Int)) then pawake_k n fun r10 => some r10 else ucmp_k n (ints (uw x)) (ints (uw y)) fun r11 => bif decide (r11 > 0) then pawake_k n fun r12 => some r12 else ushr_k n (ints (uw x)) 3 fun r13 => ucmp_k n (ints (uw r)) r13 fun r14 => bif decide (r14 ≥ 0) then pawake_k n fun r15 => some r15 else some false) = some true := by
        rw [ucmp_law n hn _ _ hr hy, ucmp_gt, hf _ _ (by omega), uw_zero _ hr, hf _ _ hne, held_law, held_law, ideal_mul]
        by_cases c3 : ((idealN a b : Nat) : Int) < ((4 : Nat) : Int)
        · rw [hT _ _ c3, haw]
        · rw [hf _ _ c3, ucmp_law n hn _ _ hx hy, ucmp_gt]
          by_cases c4 : y < x
          · rw [hT _ _ c4, haw]
          · rw [hf _ _ c4, show (3 : Int) = ((3 : Nat) : Int) from rfl, ushr_law n hn x 3 hx, ucmp_law n hn _ _ hr (Nat.lt_of_le_of_lt (Nat.div_le_self _ _) hx), ucmp_ge, hT _ _ (by have := hdown (by omega) (by omega); omega), haw]
      by_cases c5 : x * 4 / 2 ^ 256 = 0
      · have e : x * 4 % 2 ^ 256 = x * 4 := Nat.mod_eq_of_lt (by
          rcases Nat.lt_or_ge (x * 4) (2 ^ 256) with h | h
          · exact h
          · have := Nat.div_pos h (Nat.two_pow_pos 256); omega)
        rw [c5, show (((0 : Nat) : Int) == 0) = true from rfl, cond_true, ucmp_law n hn _ _ hr (Nat.mod_lt _ (Nat.two_pow_pos _)), ucmp_gt, e, hf _ _ (by omega)]
        exact rest
      · rw [show (((x * 4 / 2 ^ 256 : Nat) : Int) == 0) = false from by rw [beq_eq_false_iff_ne]; omega, cond_false]
        exact rest

end Go.Ev
end

