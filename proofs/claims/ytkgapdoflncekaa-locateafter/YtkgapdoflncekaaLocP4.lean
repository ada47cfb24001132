/-
  THE LAW OF LocateForks.
-/
import Derived.Test.YtkgapdoflncekaaLocM
set_option linter.all false
namespace Go.Ev
variable {A : Type}

def small (x : Int) : List Int := (List.replicate 32 0).set 0 x

theorem forks_l0_law (n : Nat) (loc : List Int) (t4 : Bool) (xs : List Int) (hl : xs.length ≤ 40) (m0 : Hs) (k : Hs → Option A) : ∀ (f i : Nat), i ≤ xs.length → xs.length - i < f →
    forks_l0 n loc t4 xs (xs.length : Int) m0 (fun _ y5 => k y5) f (i : Int) ((xs.take i).map small) = k (xs.map small)
  | 0, i, _, h => by omega
  | f + 1, i, hi, hf => by
    simp only [forks_l0, forks_b0]
    by_cases h : i = xs.length
    · subst h; simp
    · have hlt : i < xs.length := by omega
      have e : decide ((i : Int) < (xs.length : Int)) = true := by simp; omega
      rw [e, cond_true, if_pos (by omega)]
      simp only [Int.toNat_natCast]
      rw [List.getElem?_eq_getElem hlt, Option.bind_some, if_pos (by simp; omega)]
      have hw : IntKind.wrap .i64 ((i : Int) + 1) = ((i + 1 : Nat) : Int) := by rw [wrap_id (by omega) (by omega)]; omega
      have ht : (xs.take i).map small ++ [(List.replicate 32 0).set 0 xs[i]] = (xs.take (i + 1)).map small := by
        rw [List.take_succ, List.getElem?_eq_getElem hlt, List.map_append]; rfl
      rw [hw, ht]
      exact forks_l0_law n loc t4 xs hl m0 k f (i + 1) (by omega) (by omega)

theorem forks_l1_law (n : Nat) (t4 : Bool) (xs : List Int) (hl : xs.length ≤ 40) (l0 : Hs) (k : Hs → Option A) : ∀ (f i : Nat), i ≤ xs.length → xs.length - i < f →
    forks_l1 n t4 xs (xs.length : Int) l0 (fun _ y5 => k y5) f (i : Int) ((xs.take i).map small) = k (xs.map small)
  | 0, i, _, h => by omega
  | f + 1, i, hi, hf => by
    simp only [forks_l1, forks_b1]
    by_cases h : i = xs.length
    · subst h; simp
    · have hlt : i < xs.length := by omega
      have e : decide ((i : Int) < (xs.length : Int)) = true := by simp; omega
      rw [e, cond_true, if_pos (by omega)]
      simp only [Int.toNat_natCast]
      rw [List.getElem?_eq_getElem hlt, Option.bind_some, if_pos (by simp; omega)]
      have hw : IntKind.wrap .i64 ((i : Int) + 1) = ((i + 1 : Nat) : Int) := by rw [wrap_id (by omega) (by omega)]; omega
      have ht : (xs.take i).map small ++ [(List.replicate 32 0).set 0 xs[i]] = (xs.take (i + 1)).map small := by
        rw [List.take_succ, List.getElem?_eq_getElem hlt, List.map_append]; rfl
      rw [hw, ht]
      exact forks_l1_law n t4 xs hl l0 k f (i + 1) (by omega) (by omega)

theorem forks_law_n (n : Nat) (hn : 100 < n) (haw : ∀ k : Bool → Option Bool, awake_k n k = k true) (a0 a1 : List Int) : forks_k n a0 a1 (fun r => some r) = some true := by
  unfold forks_k
  cases h1 : decide ((a0.length : Int) > 40) with
  | true => simp only [cond_true]; exact haw _
  | false =>
    simp only [cond_false]
    cases h2 : decide ((a1.length : Int) > 40) with
    | true => simp only [cond_true]; exact haw _
    | false =>
      simp only [cond_false]
      have h1' : a0.length ≤ 40 := by simp at h1; omega
      have h2' : a1.length ≤ 40 := by simp at h2; omega
      refine Eq.trans (forks_l0_law n a1 false a0 h1' [] _ n 0 (by omega) (by omega)) ?_
      refine Eq.trans (forks_l1_law n false a1 h2' (a0.map small) _ n 0 (by omega) (by omega)) ?_
      have q1 : (a0.map small).length ≤ 4000 := by simp; omega
      have q2 : (a1.map small).length ≤ 4000 := by simp; omega
      have q3 : (a0.map small).length < n := by simp; omega
      have q4 : (a1.map small).length < n := by simp; omega
      rw [fork_law n _ _ q1 q3 q2 q4, refs_law n _ q1 q3, refs_law n _ q2 q4, rfork_law n _ _ q1 q3 q2 q4]
      have e : (meet (a0.map small) (a1.map small) == meet (a0.map small) (a1.map small)) = true := by simp
      rw [e, cond_true]
      exact haw _

theorem forks_law (a0 : List Int) (a1 : List Int) (f0 : WF (.sl (.int .u8)) a0) (f1 : WF (.sl (.int .u8)) a1) : ∃ n, forks_k n a0 a1 (fun r => some r) = some true :=
  ⟨2100, forks_law_n 2100 (by decide) (fun k => awake_2100 k) a0 a1⟩

end Go.Ev
