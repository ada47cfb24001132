/-
  THE LAW OF LocateMakes.
-/
import Derived.Test.YtkgapdoflncekaaLocL
set_option linter.all false
namespace Go.Ev
variable {A : Type}

theorem deq_self (K : Kind) (x : K.den) : deq K x x = true := by
  unfold deq
  exact @decide_eq_true _ (K.dec x x) rfl

theorem makes_l0_law (n : Nat) (t2 : Bool) (l loc : List (List Int)) (ps : List Int) (k0 k1 : Int → Option A) (hloc : loc = ps.map fun x => l.getD x.toNat []) (hps : ∀ x ∈ ps, 0 ≤ x ∧ x < (l.length : Int)) (hlen : ps.length ≤ 64) :
    ∀ (f i : Nat), i ≤ ps.length → ps.length - i < f → makes_l0 n t2 (ps.length : Int) l loc ps k0 k1 f (i : Int) = k1 (ps.length : Int)
  | 0, i, _, h => by omega
  | f + 1, i, hi, hf => by
    simp only [makes_l0, makes_b0]
    by_cases h : i = ps.length
    · subst h; simp
    · have hlt : i < ps.length := by omega
      have e1 : decide ((i : Int) < (ps.length : Int)) = true := by simp; omega
      have hll : loc.length = ps.length := by rw [hloc]; simp
      rw [e1, cond_true, if_pos (by omega), if_pos (by omega)]
      simp only [Int.toNat_natCast]
      rw [List.getElem?_eq_getElem hlt, Option.bind_some, if_pos (by omega), if_pos (by omega), List.getElem?_eq_getElem (by omega), Option.bind_some]
      obtain ⟨h0, h1⟩ := hps ps[i] (List.getElem_mem hlt)
      have hti : (ps[i]).toNat < l.length := by omega
      rw [if_pos h0, if_pos h1, List.getElem?_eq_getElem hti, Option.bind_some]
      have e2 : loc[i]'(by omega) = l[(ps[i]).toNat] := by
        subst hloc
        simp [List.getD_eq_getElem?_getD, List.getElem?_eq_getElem hti]
      rw [e2, deq_self, Bool.not_true, cond_false]
      have hw : IntKind.wrap .i64 ((i : Int) + 1) = ((i + 1 : Nat) : Int) := by rw [wrap_id (by omega) (by omega)]; omega
      rw [hw]
      exact makes_l0_law n t2 l loc ps k0 k1 hloc hps hlen f (i + 1) (by omega) (by omega)

theorem makes_law_n (n : Nat) (hn : 2050 < n) (haw : ∀ k : Bool → Option Bool, awake_k n k = k true) (a0 : Int) : makes_k n a0 (fun r => some r) = some true := by
  unfold makes_k
  cases h1 : decide (a0 < 0) with
  | true => simp only [cond_true]; exact haw _
  | false =>
    simp only [cond_false]
    cases h2 : decide (a0 > 2000) with
    | true => simp only [cond_true]; exact haw _
    | false =>
      simp only [cond_false]
      have h1' : ¬ a0 < 0 := by simpa using h1
      have h2' : ¬ a0 > 2000 := by simpa using h2
      obtain ⟨m, rfl⟩ : ∃ m : Nat, a0 = (m : Int) := ⟨a0.toNat, by omega⟩
      have hm : m ≤ 2000 := by omega
      rw [row_law n m (by omega) (by omega)]
      obtain ⟨xs, hx1, hx2, hx3, hx4⟩ := places_heights n m (by omega) (by omega)
      have hl : (rowL (m : Int) 0 m).length = m := by simp [rowL]
      rw [make_law n (rowL (m : Int) 0 m) xs (by rw [hl]; exact hx1) (fun x hx => by rw [hl]; exact (hx4 x hx).2) (by omega)]
      rw [hx2]
      have e1 : (((xs.map fun x => (rowL (m : Int) 0 m).getD x.toNat []).length : Int) != (xs.length : Int)) = false := by simp
      have e2 : decide (((xs.map fun x => (rowL (m : Int) 0 m).getD x.toNat []).length : Int) > 64) = false := by simp; omega
      rw [e1, cond_false, e2, cond_false]
      have := makes_l0_law n false (rowL (m : Int) 0 m) _ xs (fun _ => some false) (fun y10 => awake_k n fun r11 => some r11) rfl (fun x hx => by rw [hl]; exact hx4 x hx) hx3 n 0 (by omega) (by omega)
      refine Eq.trans this ?_
      exact haw _

theorem makes_law (a0 : Int) (f0 : WF (.int .i64) a0) : ∃ n, makes_k n a0 (fun r => some r) = some true :=
  ⟨2100, makes_law_n 2100 (by decide) (fun k => awake_2100 k) a0⟩

end Go.Ev
