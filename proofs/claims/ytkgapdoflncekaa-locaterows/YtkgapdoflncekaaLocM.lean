/-
  LAYER 21: plain laws: where a line meets a locator.
-/
import Derived.Test.YtkgapdoflncekaaLocL
import Derived.Test.YtkgapdoflncekaaLocF4
set_option linter.all false
namespace Go.Ev
variable {A : Type}

abbrev Hs := List (List Int)

theorem deq_iff (K : Kind) (x y : K.den) : deq K x y = true ↔ x = y := by
  unfold deq
  exact ⟨fun h => @of_decide_eq_true _ (K.dec x y) h, fun h => @decide_eq_true _ (K.dec x y) h⟩

/-- The first place of a hash, from a number on. -/
def ffL : Hs → Nat → List Int → Option Nat
  | [], _, _ => none
  | x :: r, i, y => bif deq kT28 x y then some i else ffL r (i + 1) y

theorem ffL_lt : ∀ (l : Hs) (i : Nat) (y : List Int) (j : Nat), ffL l i y = some j → i ≤ j ∧ j < i + l.length
  | [], _, _, _, h => by cases h
  | x :: r, i, y, j, h => by
    simp only [ffL] at h
    cases hd : deq kT28 x y with
    | true => rw [hd] at h; simp at h; subst h; simp
    | false => rw [hd] at h; have := ffL_lt r (i + 1) y j h; simp; omega

def firstI (line : Hs) (h : List Int) : Int := match ffL line 0 h with | some j => (j : Int) | none => -1

theorem find_l0_law (n : Nat) (line : Hs) (hl : line.length ≤ 4000) (t4 : Int) (h : List Int) (k0 : Int → Int → Option A) (k1 : Int → Option A) : ∀ (rest : Hs) (f i : Nat), line.drop i = rest → rest.length < f →
    find_l0 n line t4 h k0 k1 f (i : Int) = match ffL rest i h with | some j => k0 (j : Int) (j : Int) | none => k1 (max i line.length : Nat)
  | _, 0, _, _, hf => by omega
  | [], f + 1, i, hd, _ => by
    have : line.length ≤ i := by simpa using hd
    simp only [find_l0, find_b0]
    have e : decide ((i : Int) < (line.length : Int)) = false := by simp; omega
    rw [e, cond_false]
    simp [ffL, Nat.max_eq_left this]
  | x :: rest, f + 1, i, hd, hf => by
    have hi : line[i]? = some x := by have := congrArg (·[0]?) hd; simpa using this
    have hlt : i < line.length := (List.getElem?_eq_some_iff.1 hi).1
    have hd' : line.drop (i + 1) = rest := by have := congrArg (List.drop 1) hd; simpa [Nat.add_comm] using this
    simp only [find_l0, find_b0]
    have e : decide ((i : Int) < (line.length : Int)) = true := by simp; omega
    rw [e, cond_true, if_pos (by omega)]
    simp only [Int.toNat_natCast]
    rw [hi, Option.bind_some]
    simp only [ffL]
    cases hq : deq kT28 x h with
    | true => rfl
    | false =>
      simp only [cond_false]
      have hw : IntKind.wrap .i64 ((i : Int) + 1) = ((i + 1 : Nat) : Int) := by rw [wrap_id (by omega) (by omega)]; omega
      rw [hw, find_l0_law n line hl t4 h k0 k1 rest f (i + 1) hd' (by simpa using hf)]
      have hmx : max (i + 1) line.length = max i line.length := by omega
      rw [hmx]

theorem find_law (n : Nat) (line : Hs) (hl : line.length ≤ 4000) (hn : line.length < n) (h : List Int) (k : Int → Option A) : find_k n line h k = k (firstI line h) := by
  unfold find_k firstI
  have := find_l0_law n line hl 0 h (fun y2 y3 => k y2) (fun y4 => k (-1)) line n 0 (by simp) hn
  refine Eq.trans this ?_
  cases ffL line 0 h <;> rfl

/-- Where a line meets a locator. -/
def meet (line : Hs) : Hs → Int
  | [] => 0
  | h :: r => match ffL line 0 h with | some j => (j : Int) | none => meet line r

theorem rfork_l0_law (n : Nat) (line loc : Hs) (hl : line.length ≤ 4000) (hn : line.length < n) (hl2 : loc.length ≤ 4000) (t4 : Int) (k : Int → Option A) : ∀ (rest : Hs) (f i : Nat), loc.drop i = rest → rest.length < f →
    rfork_l0 n line loc t4 (fun y3 y4 => k y3) (fun y5 => k 0) f (i : Int) = k (meet line rest)
  | _, 0, _, _, hf => by omega
  | [], f + 1, i, hd, _ => by
    have : loc.length ≤ i := by simpa using hd
    simp only [rfork_l0, rfork_b0]
    have e : decide ((i : Int) < (loc.length : Int)) = false := by simp; omega
    rw [e, cond_false]; rfl
  | x :: rest, f + 1, i, hd, hf => by
    have hi : loc[i]? = some x := by have := congrArg (·[0]?) hd; simpa using this
    have hlt : i < loc.length := (List.getElem?_eq_some_iff.1 hi).1
    have hd' : loc.drop (i + 1) = rest := by have := congrArg (List.drop 1) hd; simpa [Nat.add_comm] using this
    simp only [rfork_l0, rfork_b0]
    have e : decide ((i : Int) < (loc.length : Int)) = true := by simp; omega
    rw [e, cond_true, if_pos (by omega)]
    simp only [Int.toNat_natCast]
    rw [hi, Option.bind_some, find_law n line hl hn]
    unfold firstI
    simp only [meet]
    cases hq : ffL line 0 x with
    | some j =>
      simp only
      have : decide ((j : Int) ≥ 0) = true := by simp
      rw [this, cond_true]
    | none =>
      simp only
      have : decide ((-1 : Int) ≥ 0) = false := by decide
      rw [this, cond_false]
      have hw : IntKind.wrap .i64 ((i : Int) + 1) = ((i + 1 : Nat) : Int) := by rw [wrap_id (by omega) (by omega)]; omega
      rw [hw]
      exact rfork_l0_law n line loc hl hn hl2 t4 k rest f (i + 1) hd' (by simpa using hf)

theorem rfork_law (n : Nat) (line loc : Hs) (hl : line.length ≤ 4000) (hn : line.length < n) (hl2 : loc.length ≤ 4000) (hn2 : loc.length < n) (k : Int → Option A) : rfork_k n line loc k = k (meet line loc) :=
  rfork_l0_law n line loc hl hn hl2 0 k loc n 0 (by simp) hn2

-- ------------------------------------------------------------ by the map

theorem mget_mset (K : Kind) {V : Type} (x y : K.den) (v : V) : ∀ es : List (K.den × V), mget K (mset K es x v) y = if deq K x y = true then some v else mget K es y
  | [] => by
    simp only [mset, mget, deq]
    split <;> simp_all
  | e :: r => by
    simp only [mset]
    by_cases h : e.1 = x
    · rw [if_pos (@decide_eq_true _ (K.dec e.1 x) h)]
      simp only [mget]
      by_cases h2 : x = y
      · rw [if_pos (@decide_eq_true _ (K.dec x y) h2), if_pos ((deq_iff K x y).2 h2)]
      · rw [if_neg (fun hh => h2 (@of_decide_eq_true _ (K.dec x y) hh)), if_neg (fun hh => h2 ((deq_iff K x y).1 hh)), if_neg (fun hh => h2 (h ▸ @of_decide_eq_true _ (K.dec e.1 y) hh))]
    · rw [if_neg (fun hh => h (@of_decide_eq_true _ (K.dec e.1 x) hh))]
      simp only [mget]
      by_cases h2 : e.1 = y
      · rw [if_pos (@decide_eq_true _ (K.dec e.1 y) h2), if_pos (@decide_eq_true _ (K.dec e.1 y) h2)]
        rw [if_neg (fun hh => h (h2.trans ((deq_iff K x y).1 hh).symm))]
      · rw [if_neg (fun hh => h2 (@of_decide_eq_true _ (K.dec e.1 y) hh)), if_neg (fun hh => h2 (@of_decide_eq_true _ (K.dec e.1 y) hh))]
        exact mget_mset K x y v r

theorem fork_l0_law (n : Nat) (line loc : Hs) (hl : line.length ≤ 4000) (t4 : Int) (k0 : Int → List (List Int × Int) → Option A) : ∀ (i f : Nat) (es : List (List Int × Int)), i ≤ line.length → i < f →
    (∀ y, mget kT28 es y = (ffL (line.drop i) i y).map fun j : Nat => (j : Int)) →
    ∃ es', (∀ y, mget kT28 es' y = (ffL line 0 y).map fun j : Nat => (j : Int)) ∧ fork_l0 n line loc t4 k0 f ((i : Int) - 1) es = k0 (-1) es'
  | 0, 0, _, _, h, _ => by omega
  | 0, f + 1, es, _, _, hes => by
    refine ⟨es, by simpa using hes, ?_⟩
    simp only [fork_l0, fork_b0]
    have e : decide (((0 : Nat) : Int) - 1 ≥ 0) = false := by decide
    rw [e, cond_false]; rfl
  | i + 1, 0, _, _, h, _ => by omega
  | i + 1, f + 1, es, hi, hf, hes => by
    have hlt : i < line.length := by omega
    have e0 : ((i + 1 : Nat) : Int) - 1 = (i : Int) := by omega
    simp only [fork_l0, fork_b0]
    rw [e0]
    have e : decide ((i : Int) ≥ 0) = true := by simp
    rw [e, cond_true, if_pos (by omega)]
    simp only [Int.toNat_natCast]
    rw [List.getElem?_eq_getElem hlt, Option.bind_some, wrap_id (by omega) (by omega)]
    refine fork_l0_law n line loc hl t4 k0 i f _ (by omega) (by omega) fun y => ?_
    rw [mget_mset, hes y]
    rw [List.drop_eq_getElem_cons hlt]
    simp only [ffL]
    cases deq kT28 line[i] y <;> simp

theorem fork_l1_law (n : Nat) (line loc : Hs) (hl2 : loc.length ≤ 4000) (t4 : Int) (es : List (List Int × Int)) (hes : ∀ y, mget kT28 es y = (ffL line 0 y).map fun j : Nat => (j : Int)) (k : Int → Option A) : ∀ (rest : Hs) (f i : Nat), loc.drop i = rest → rest.length < f →
    fork_l1 n t4 loc (loc.length : Int) es (fun y5 y6 => k y5) (fun y7 => k 0) f (i : Int) = k (meet line rest)
  | _, 0, _, _, hf => by omega
  | [], f + 1, i, hd, _ => by
    have : loc.length ≤ i := by simpa using hd
    simp only [fork_l1, fork_b1]
    have e : decide ((i : Int) < (loc.length : Int)) = false := by simp; omega
    rw [e, cond_false]; rfl
  | x :: rest, f + 1, i, hd, hf => by
    have hi : loc[i]? = some x := by have := congrArg (·[0]?) hd; simpa using this
    have hlt : i < loc.length := (List.getElem?_eq_some_iff.1 hi).1
    have hd' : loc.drop (i + 1) = rest := by have := congrArg (List.drop 1) hd; simpa [Nat.add_comm] using this
    simp only [fork_l1, fork_b1]
    have e : decide ((i : Int) < (loc.length : Int)) = true := by simp; omega
    rw [e, cond_true, if_pos (by omega)]
    simp only [Int.toNat_natCast]
    rw [hi, Option.bind_some, hes x]
    simp only [meet]
    cases hq : ffL line 0 x with
    | some j => simp
    | none =>
      simp only [Option.map_none, Option.isSome_none, cond_false]
      have hw : IntKind.wrap .i64 ((i : Int) + 1) = ((i + 1 : Nat) : Int) := by rw [wrap_id (by omega) (by omega)]; omega
      rw [hw]
      exact fork_l1_law n line loc hl2 t4 es hes k rest f (i + 1) hd' (by simpa using hf)

theorem fork_law (n : Nat) (line loc : Hs) (hl : line.length ≤ 4000) (hn : line.length < n) (hl2 : loc.length ≤ 4000) (hn2 : loc.length < n) (k : Int → Option A) : fork_k n line loc k = k (meet line loc) := by
  unfold fork_k
  rw [wrap_id (by omega) (by omega)]
  obtain ⟨es', h1, h2⟩ := fork_l0_law n line loc hl 0 (fun y2 y3 => fork_l1 n 0 loc (loc.length : Int) y3 (fun y5 y6 => k y5) (fun y7 => k 0) n 0) line.length n [] (Nat.le_refl _) hn (fun y => by simp [mget, ffL])
  refine Eq.trans h2 ?_
  exact fork_l1_law n line loc hl2 0 es' h1 k loc n 0 (by simp) hn2

-- ------------------------------------------------------------ the same hashes again

theorem refs_l0_law (n : Nat) (l : Hs) (hl : l.length ≤ 4000) (t2 : Hs) (k : Hs → Option A) : ∀ (f i : Nat), i ≤ l.length → l.length - i < f → refs_l0 n l (l.length : Int) t2 (fun y2 y3 => k y3) f (i : Int) (l.take i) = k l
  | 0, i, _, h => by omega
  | f + 1, i, hi, hf => by
    simp only [refs_l0, refs_b0]
    by_cases h : i = l.length
    · subst h; simp
    · have hlt : i < l.length := by omega
      have e : decide ((i : Int) < (l.length : Int)) = true := by simp; omega
      rw [e, cond_true, if_pos (by omega)]
      simp only [Int.toNat_natCast]
      rw [List.getElem?_eq_getElem hlt, Option.bind_some, if_pos (by simp; omega)]
      have hw : IntKind.wrap .i64 ((i : Int) + 1) = ((i + 1 : Nat) : Int) := by rw [wrap_id (by omega) (by omega)]; omega
      rw [hw, show l.take i ++ [l[i]] = l.take (i + 1) from by rw [List.take_succ, List.getElem?_eq_getElem hlt]; rfl]
      exact refs_l0_law n l hl t2 k f (i + 1) (by omega) (by omega)

theorem refs_law (n : Nat) (l : Hs) (hl : l.length ≤ 4000) (hn : l.length < n) (k : Hs → Option A) : refs_k n l k = k l :=
  refs_l0_law n l hl [] k n 0 (by omega) (by omega)

end Go.Ev
