/-
  THE LAW OF LocateAfter.
-/
import Derived.Test.YtkgapdoflncekaaLocM
import Derived.Test.YtkgapdoflncekaaLocP4
import Derived.Test.YtkgapdoflncekaaLocF6
set_option linter.all false
namespace Go.Ev
variable {A : Type}

theorem after_joint (n : Nat) (line : Hs) (hl : line.length ≤ 4000) (from_ : Nat) (most : Int) (stop : List Int) (t8 t9 : Int) (t8' : List Int) : ∀ (rest : Hs) (f to : Nat) (out : List Int), line.drop to = rest → rest.length < f → from_ + 1 ≤ to → to ≤ line.length → out.length = to - (from_ + 1) →
    ∃ (e : Nat) (out' : List Int), to ≤ e ∧ e ≤ line.length ∧ out'.length = e - (from_ + 1) ∧ (∀ (B : Type) (k0 : Int → Option B), after_l0 n line (from_ : Int) most t8 t9 stop k0 f (to : Int) = k0 (e : Int)) ∧
      ∀ (B : Type) (g : List Int → Option B), rafter_l0 n line most stop t8' (fun _ y => g y) (fun _ y => g y) f (to : Int) out = g out'
  | _, 0, _, _, _, hf, _, _, _ => by omega
  | [], f + 1, to, out, hd, _, h1, h2, h3 => by
    have hto : line.length ≤ to := by simpa using hd
    have e : decide ((to : Int) < (line.length : Int)) = false := by simp; omega
    exact ⟨to, out, Nat.le_refl _, h2, h3, fun B k0 => by simp only [after_l0, after_b0]; rw [e, cond_false], fun B g => by simp only [rafter_l0, rafter_b0]; rw [e, cond_false]⟩
  | x :: rest, f + 1, to, out, hd, hf, h1, h2, h3 => by
    have hi : line[to]? = some x := by have := congrArg (·[0]?) hd; simpa using this
    have hlt : to < line.length := (List.getElem?_eq_some_iff.1 hi).1
    have hd' : line.drop (to + 1) = rest := by have := congrArg (List.drop 1) hd; simpa [Nat.add_comm] using this
    have e : decide ((to : Int) < (line.length : Int)) = true := by simp; omega
    have w1 : IntKind.wrap .i64 ((to : Int) - (from_ : Int)) = (to : Int) - (from_ : Int) := wrap_id (by omega) (by omega)
    have w2 : IntKind.wrap .i64 ((to : Int) - (from_ : Int) - 1) = (out.length : Int) := by rw [wrap_id (by omega) (by omega)]; omega
    have w3 : IntKind.wrap .i64 ((to : Int) + 1) = ((to + 1 : Nat) : Int) := by rw [wrap_id (by omega) (by omega)]; omega
    have w4 : IntKind.wrap .i64 (((to + 1 : Nat) : Int) - 1) = (to : Int) := by rw [wrap_id (by omega) (by omega)]; omega
    cases hm : decide ((out.length : Int) < most) with
    | false =>
      exact ⟨to, out, Nat.le_refl _, h2, h3, fun B k0 => by simp only [after_l0, after_b0]; rw [e, cond_true, w1, w2, hm, cond_false], fun B g => by simp only [rafter_l0, rafter_b0]; rw [e, cond_true, hm, cond_false]⟩
    | true =>
      cases hs : deq kT28 x stop with
      | true =>
        refine ⟨to + 1, out ++ [(to : Int)], by omega, by omega, by simp; omega, fun B k0 => ?_, fun B g => ?_⟩
        · simp only [after_l0, after_b0]
          rw [e, cond_true, w1, w2, hm, cond_true, w3, w4, if_pos (by omega), Int.toNat_natCast, hi, Option.bind_some, hs, cond_true]
        · simp only [rafter_l0, rafter_b0]
          rw [e, cond_true, hm, cond_true, if_pos (by omega), if_pos (by omega), Int.toNat_natCast, hi, Option.bind_some, hs, cond_true]
      | false =>
        obtain ⟨e', out', q1, q2, q3, q4, q5⟩ := after_joint n line hl from_ most stop t8 t9 t8' rest f (to + 1) (out ++ [(to : Int)]) hd' (by simpa using hf) (by omega) (by omega) (by simp; omega)
        refine ⟨e', out', by omega, q2, q3, fun B k0 => ?_, fun B g => ?_⟩
        · simp only [after_l0, after_b0]
          rw [e, cond_true, w1, w2, hm, cond_true, w3, w4, if_pos (by omega), Int.toNat_natCast, hi, Option.bind_some, hs, cond_false]
          exact q4 B k0
        · simp only [rafter_l0, rafter_b0]
          rw [e, cond_true, hm, cond_true, if_pos (by omega), if_pos (by omega), Int.toNat_natCast, hi, Option.bind_some, hs, cond_false, w3]
          exact q5 B g

theorem afters_l0_law (n : Nat) (t2 : Bool) (xs : List Int) (z : List Int × (Int × (Int × (Int × Unit)))) (hl : xs.length ≤ 60) (k : Hs → Option A) : ∀ (f i : Nat), i ≤ xs.length → xs.length - i < f →
    afters_l0 n t2 xs (xs.length : Int) z (fun _ y5 => k y5) f (i : Int) ((xs.take i).map small) = k (xs.map small)
  | 0, i, _, h => by omega
  | f + 1, i, hi, hf => by
    simp only [afters_l0, afters_b0]
    by_cases h : i = xs.length
    · subst h; simp
    · have hlt : i < xs.length := by omega
      have e : decide ((i : Int) < (xs.length : Int)) = true := by simp; omega
      rw [e, cond_true, if_pos (by omega)]
      simp only [Int.toNat_natCast]
      rw [List.getElem?_eq_getElem hlt, Option.bind_some, if_pos (by simp; omega)]
      have hw : IntKind.wrap .i64 ((i : Int) + 1) = ((i + 1 : Nat) : Int) := by rw [wrap_id (by omega) (by omega)]; omega
      have ht : (xs.take i).map small ++ [(List.replicate 32 0).set 0 xs[i]] = (xs.take (i + 1)).map small := by
        rw [List.take_succ, List.getElem?_eq_getElem hlt, List.map_append]; rfl
      rw [hw, ht]
      exact afters_l0_law n t2 xs z hl k f (i + 1) (by omega) (by omega)

theorem afters_law_n (n : Nat) (hn : 100 < n) (haw : ∀ k : Bool → Option Bool, awake_k n k = k true) (xs : List Int) (fr most st : Int) (u : Unit) (hfr : -9223372036854775808 ≤ fr) : afters_k n (xs, (fr, (most, (st, u)))) (fun r => some r) = some true := by
  unfold afters_k
  simp only
  cases h1 : decide ((xs.length : Int) > 60) with
  | true => simp only [cond_true]; exact haw _
  | false =>
    simp only [cond_false]
    have h1' : xs.length ≤ 60 := by simp at h1; omega
    refine Eq.trans (afters_l0_law n false xs _ h1' _ n 0 (by omega) (by omega)) ?_
    generalize hl : xs.map small = l
    have hll : l.length = xs.length := by rw [← hl]; simp
    generalize (List.replicate 32 0).set 0 st = stop
    simp only [refs_law n l (show l.length ≤ 4000 by omega) (show l.length < n by omega)]
    unfold after_k rafter_k
    cases h2 : decide (fr < 0) with
    | true =>
      simp only [cond_true, List.length_nil]
      exact haw _
    | false =>
      simp only [cond_false]
      cases h3 : decide (fr ≥ (l.length : Int)) with
      | true =>
        simp only [cond_true]
        exact haw _
      | false =>
        simp only [cond_false]
        have h2' : ¬ fr < 0 := by simpa using h2
        have h3' : ¬ fr ≥ (l.length : Int) := by simpa using h3
        obtain ⟨m, rfl⟩ : ∃ m : Nat, fr = (m : Int) := ⟨fr.toNat, by omega⟩
        have w : IntKind.wrap .i64 ((m : Int) + 1) = ((m + 1 : Nat) : Int) := by rw [wrap_id (by omega) (by omega)]; omega
        obtain ⟨e, out, q1, q2, q3, q4, q5⟩ := after_joint n l (by omega) m most stop 0 0 [] (l.drop (m + 1)) n (m + 1) [] rfl (by simp; omega) (Nat.le_refl _) (by omega) (by simp)
        rw [w]
        rw [q4]
        rw [q5]
        have c1 : ((out.length : Int) != IntKind.wrap .i64 ((e : Int) - ((m + 1 : Nat) : Int))) = false := by
          rw [wrap_id (by omega) (by omega)]; simp; omega
        have c2 : decide (((m + 1 : Nat) : Int) > (e : Int)) = false := by simp; omega
        have c3 : decide ((e : Int) > (l.length : Int)) = false := by simp; omega
        have c4 : (((m + 1 : Nat) : Int) == ((m + 1 : Nat) : Int)) = true := by simp
        rw [c1, cond_false, c2, cond_false, c3, cond_false, c4, cond_true]
        exact haw _

theorem afters_law (a0 : List Int × (Int × (Int × (Int × Unit)))) (f0 : WF kT38 a0) : ∃ n, afters_k n a0 (fun r => some r) = some true := by
  obtain ⟨xs, fr, most, st, u⟩ := a0
  exact ⟨2100, afters_law_n 2100 (by decide) (fun k => awake_2100 k) xs fr most st u f0.2.1.1⟩

end Go.Ev
