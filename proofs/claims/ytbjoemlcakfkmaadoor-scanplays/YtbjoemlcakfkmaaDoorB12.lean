import Derived.Test.YtbjoemlcakfkmaaDoorB11
set_option linter.all false
section
/-
  SCAN: the next job, a filter, a proof, a step: both answer alike.
-/
set_option linter.all false
namespace Go.Ev
variable {A : Type}

-- ------------------------------------------------------------ the next job

def nxt (m : SM) : List BK → Option Jb
  | [] => none
  | x :: r => match mget kA32u8 m x with
    | none => some (3, (x, (0, ())))
    | some v => if v = 0 then nxt m r else some (5, (x, (((tzn v.toNat : Nat) : Int), ())))
def z0 : Jb := (0, ((List.replicate 32 (0 : Int)), (0, ())))
def jobs (it : Nat) (m : SM) (l : List BK) : Option Jb := if it = 0 then none else nxt m (l.drop 1)

theorem next_l0_nxt (n : Nat) (it : Nat) (hit : it ≤ 8) (m : SM) (hm : Inv it m) (l : List BK) (hl : l.length < 100000) (t4 : Jb) (k0 : Jb → Option A) (k1 : Option A) : ∀ (d f i : Nat), i + d = l.length → d < f →
    next_l0 (tz16_k n) n l (l.length : Int) (it : Int) () m t4 k0 k1 f (i : Int) = match nxt m (l.drop i) with | none => k1 | some j => k0 j := by
  intro d
  induction d with
  | zero =>
    intro f i hi hf
    obtain ⟨f, rfl⟩ : ∃ g, f = g + 1 := ⟨f - 1, by omega⟩
    rw [next_l0, next_b0, decide_eq_false (by omega), cond_false, List.drop_eq_nil_of_le (by omega)]; rfl
  | succ d ih =>
    intro f i hi hf
    obtain ⟨f, rfl⟩ : ∃ g, f = g + 1 := ⟨f - 1, by omega⟩
    have hlt : i < l.length := by omega
    have e1 : IntKind.wrap .i64 ((i : Int) + 1) = ((i + 1 : Nat) : Int) := by rw [wrap_id (by omega) (by omega)]; omega
    rw [next_l0, next_b0, decide_eq_true (by omega), cond_true, if_pos (by omega), Int.toNat_natCast, List.getElem?_eq_getElem hlt, Option.bind_some, e1, ih f (i + 1) (by omega) (by omega), List.drop_eq_getElem_cons hlt]
    cases hg : mget kA32u8 m l[i] with
    | none => simp only [nxt, hg]; rfl
    | some v =>
      obtain ⟨w, rfl, hw⟩ := hm.get hg
      by_cases h0 : w = 0
      · subst h0
        simp only [nxt, hg]; rfl
      · have hne : (((w : Nat) : Int) != 0) = true := by simp; omega
        rw [Option.isSome_some, Bool.not_true, cond_false, Option.getD_some, hne, cond_true, tz16_law n w (by omega) (Nat.lt_of_lt_of_le hw (p256 hit))]
        simp only [nxt, hg]
        rw [if_neg (by omega)]
        rfl

theorem next_nxt (n : Nat) (it : Nat) (hit : it ≤ 8) (m : SM) (hm : Inv it m) (l : List BK) (hl : l.length < n) (hl2 : l.length < 100000) (k : Jb → Bool → Int → Unit → SM → Option A) :
    next_k n l (it : Int) () m k = match jobs it m l with | none => k z0 false (it : Int) () m | some j => k j true (it : Int) () m := by
  unfold jobs
  by_cases h0 : it = 0
  · subst h0
    unfold next_k next_p
    rfl
  · have hne : (((it : Nat) : Int) == 0) = false := by rw [beq_eq_false_iff_ne]; omega
    have e0 : (l.drop (min 1 l.length)).take (l.length - min 1 l.length) = l.drop 1 := by
      rw [List.take_of_length_le (by rw [List.length_drop]; omega)]
      cases l with
      | nil => rfl
      | cons a r => rw [show min 1 (a :: r).length = 1 from by simp only [List.length_cons]; omega]
    have hr : (l.drop 1).length = l.length - 1 := List.length_drop
    rw [if_neg h0]
    unfold next_k next_p
    rw [hne, cond_false, imin1, if_pos (by omega), if_pos (by omega), Int.toNat_natCast, e0]
    refine (next_l0_nxt n it hit m hm (l.drop 1) (by omega) _ _ _ (l.drop 1).length n 0 (by omega) (by omega)).trans ?_
    rw [List.drop_zero]
    cases nxt m (l.drop 1) <;> rfl

theorem rnext_l0_nxt (n : Nat) (hn : 50000 < n) (it : Nat) (hit : it ≤ 8) (m : SM) (hm : Inv it m) (l : List BK) (hl : l.length < 100000) (t4 : Jb) (k0 : Jb → Option A) (k1 : Option A) : ∀ (d f i : Nat), l.length ≤ i + d → d < f → i + d ≤ 200000 →
    rnext_l0 (find_k n) n l (refk (it : Int) m) t4 k0 k1 f (i : Int) = match nxt m (l.drop i) with | none => k1 | some j => k0 j := by
  intro d
  induction d with
  | zero =>
    intro f i hi hf _
    obtain ⟨f, rfl⟩ : ∃ g, f = g + 1 := ⟨f - 1, by omega⟩
    rw [rnext_l0, rnext_b0, decide_eq_false (by omega), cond_false, List.drop_eq_nil_of_le (by omega)]; rfl
  | succ d ih =>
    intro f i hi hf hb
    obtain ⟨f, rfl⟩ : ∃ g, f = g + 1 := ⟨f - 1, by omega⟩
    have e1 : IntKind.wrap .i64 ((i : Int) + 1) = ((i + 1 : Nat) : Int) := by rw [wrap_id (by omega) (by omega)]; omega
    by_cases hlt : i < l.length
    · rw [rnext_l0, rnext_b0, decide_eq_true (by omega), cond_true, if_pos (by omega), Int.toNat_natCast, List.getElem?_eq_getElem hlt, Option.bind_some, e1, ih f (i + 1) (by omega) (by omega) (by omega), List.drop_eq_getElem_cons hlt]
      rcases find_law (A := A) n (it : Int) m l[i] hm.len hn with ⟨h1, h2⟩ | ⟨j, v, h1, h2, h3⟩
      · rw [h2, decide_eq_true (by decide), cond_true, if_pos (by omega), Option.bind_some]
        simp only [nxt, h1]
      · obtain ⟨w, rfl, hw⟩ := hm.get h1
        have h256 := Nat.lt_of_lt_of_le hw (p256 hit)
        rw [h3, decide_eq_false (by omega), cond_false, if_pos (by omega), Int.toNat_natCast, h2, Option.bind_some]
        by_cases h0 : w = 0
        · subst h0
          simp only [nxt, h1]
          rfl
        · obtain ⟨b1, _⟩ := bln_low w h256 (by omega)
          have hz : ¬ ((w : Int) = 0) := by omega
          have hx : nxt m (l[i] :: l.drop (i + 1)) = some (5, (l[i], (((tzn w : Nat) : Int), ()))) := by simp only [nxt, h1]; rw [if_neg hz]; rfl
          have hi0 : 0 ≤ (i : Int) := by omega
          have hj0 : 0 ≤ (j : Int) := by omega
          rw [hx, bl_nat, b1]
          simp only [decide_eq_true (show ((((((tzn w : Nat) : Int) :: bln (w - 2 ^ tzn w)).length : Nat) : Int) > 0) by simp only [List.length_cons]; omega), cond_true, if_pos hi0, if_pos hj0, Option.bind_some]
          rfl
    · rw [rnext_l0, rnext_b0, decide_eq_false (by omega), cond_false, List.drop_eq_nil_of_le (by omega)]; rfl

theorem rnext_nxt (n : Nat) (hn : 50000 < n) (it : Nat) (hit : it ≤ 8) (m : SM) (hm : Inv it m) (l : List BK) (hl : l.length ≤ 10000) (k : Jb → Bool → Option A) :
    rnext_k n (refk (it : Int) m) l k = match jobs it m l with | none => k z0 false | some j => k j true := by
  unfold jobs rnext_k rnext_p
  by_cases h0 : it = 0
  · subst h0
    rfl
  · have hne : (((refk (it : Int) m).1) == 0) = false := by show ((it : Int) == 0) = false; rw [beq_eq_false_iff_ne]; omega
    rw [if_neg h0, hne, cond_false]
    refine (rnext_l0_nxt n hn it hit m hm l (by omega) _ _ _ l.length n 1 (by omega) (by omega) (by omega)).trans ?_
    cases nxt m (l.drop 1) <;> rfl

theorem refs_l0_law (n : Nat) (l : List BK) (hl : l.length ≤ 10000) (k0 : List BK → Option A) : ∀ (d f i : Nat) (o : List BK), i + d = l.length → d < f → o.length = i →
    refs_l0 n l (l.length : Int) k0 f (i : Int) o = k0 (o ++ l.drop i) := by
  intro d
  induction d with
  | zero =>
    intro f i o hi hf ho
    obtain ⟨f, rfl⟩ : ∃ g, f = g + 1 := ⟨f - 1, by omega⟩
    rw [refs_l0, refs_b0, decide_eq_false (by omega), cond_false, List.drop_eq_nil_of_le (by omega)]; simp
  | succ d ih =>
    intro f i o hi hf ho
    obtain ⟨f, rfl⟩ : ∃ g, f = g + 1 := ⟨f - 1, by omega⟩
    have hlt : i < l.length := by omega
    have e1 : IntKind.wrap .i64 ((i : Int) + 1) = ((i + 1 : Nat) : Int) := by rw [wrap_id (by omega) (by omega)]; omega
    rw [refs_l0, refs_b0, decide_eq_true (by omega), cond_true, if_pos (by omega), Int.toNat_natCast, List.getElem?_eq_getElem hlt, Option.bind_some, if_pos (by omega), e1, ih f (i + 1) _ (by omega) (by omega) (by rw [List.length_append, ho]; rfl), List.append_assoc, List.drop_eq_getElem_cons hlt]
    rfl
theorem refs_law (n : Nat) (hn : 50000 < n) (l : List BK) (hl : l.length ≤ 10000) (g : List BK → Option A) : refs_k n l g = g l := by
  unfold refs_k refs_p
  refine (refs_l0_law n l hl (fun y2 => g y2) l.length n 0 [] (by omega) (by omega) rfl).trans ?_
  rw [List.nil_append, List.drop_zero]

-- ------------------------------------------------------------ a filter

theorem or_test : ∀ k : Nat, k ≤ 8 → ∀ v : Nat, v < 2 ^ k → ∀ t : Nat, t < k → ∀ s : Nat, s < k → (v ||| 2 ^ t).testBit s = (v.testBit s || s == t) := by
  intro k _ v _ t _ s _
  rw [Nat.testBit_or, Nat.testBit_two_pow]
  congr 1
  by_cases h : t = s
  · subst h; simp
  · rw [decide_eq_false h, beq_eq_false_iff_ne.2 (fun e => h e.symm)]

theorem filter_l0_exact (n : Nat) (it : Nat) (hit : it ≤ 8) (m : SM) (x : BK) (l : List Int) (hl : l.length ≤ 9223372036854775807) (k0 : Int → Option A) : ∀ (d f i : Nat) (w : Nat), i + d = l.length → d < f → w < 2 ^ it →
    ∃ w' : Nat, w' < 2 ^ it ∧ (∀ s : Nat, s < it → w'.testBit s = (w.testBit s || decide ((s : Int) ∈ l.drop i))) ∧ filter_l0 n l (l.length : Int) (it : Int) () m x k0 f (w : Int) (i : Int) = k0 (w' : Int) := by
  intro d
  induction d with
  | zero =>
    intro f i w hi hf hw
    obtain ⟨f, rfl⟩ : ∃ g, f = g + 1 := ⟨f - 1, by omega⟩
    exact ⟨w, hw, fun s hs => by rw [List.drop_eq_nil_of_le (by omega)]; simp, by rw [filter_l0, filter_b0, decide_eq_false (by omega), cond_false]⟩
  | succ d ih =>
    intro f i w hi hf hw
    obtain ⟨f, rfl⟩ : ∃ g, f = g + 1 := ⟨f - 1, by omega⟩
    have hlt : i < l.length := by omega
    have e1 : IntKind.wrap .i64 ((i : Int) + 1) = ((i + 1 : Nat) : Int) := by rw [wrap_id (by omega) (by omega)]; omega
    rw [filter_l0, filter_b0, decide_eq_true (by omega), cond_true, if_pos (by omega), Int.toNat_natCast, List.getElem?_eq_getElem hlt, Option.bind_some, e1, List.drop_eq_getElem_cons hlt]
    have skip : (∀ s : Nat, s < it → (s : Int) ≠ l[i]) → ∃ w' : Nat, w' < 2 ^ it ∧ (∀ s : Nat, s < it → w'.testBit s = (w.testBit s || decide ((s : Int) ∈ l[i] :: l.drop (i + 1)))) ∧ filter_l0 n l (l.length : Int) (it : Int) () m x k0 f (w : Int) ((i + 1 : Nat) : Int) = k0 (w' : Int) := fun hne => by
      obtain ⟨w', h1, h2, h3⟩ := ih f (i + 1) w (by omega) (by omega) hw
      refine ⟨w', h1, fun s hs => ?_, h3⟩
      rw [h2 s hs]
      congr 1
      have := hne s hs
      refine decide_eq_decide.2 ?_
      rw [List.mem_cons]
      exact ⟨.inr, fun h => h.resolve_left this⟩
    by_cases h1 : l[i] ≥ 0
    · rw [decide_eq_true h1, cond_true]
      by_cases h2 : l[i] < (it : Int)
      · obtain ⟨t, ht⟩ : ∃ t : Nat, l[i] = (t : Int) := ⟨l[i].toNat, by omega⟩
        rw [ht] at h2 ⊢
        obtain ⟨o1, o2⟩ := or_bit it hit w hw t (by omega)
        rw [decide_eq_true h2, cond_true, if_neg (by omega), o1]
        obtain ⟨w', q1, q2, q3⟩ := ih f (i + 1) (w ||| 2 ^ t) (by omega) (by omega) o2
        refine ⟨w', q1, fun s hs => ?_, q3⟩
        rw [q2 s hs, or_test it hit w hw t (by omega) s hs, Bool.or_assoc]
        congr 1
        by_cases hst : s = t
        · subst hst; simp
        · rw [beq_eq_false_iff_ne.2 hst, Bool.false_or]
          have : (s : Int) ≠ (t : Int) := by omega
          simp [this]
      · rw [decide_eq_false h2, cond_false]
        exact skip fun s hs => by omega
    · rw [decide_eq_false h1, cond_false]
      exact skip fun s hs => by omega

theorem filter_exact (n : Nat) (it : Nat) (hit : it ≤ 8) (m : SM) (x : BK) (l : List Int) (hl : l.length < n) (hl2 : l.length ≤ 9223372036854775807) (hx : mget kA32u8 m x = none) (k : Int → Int → Unit → SM → Option A) :
    ∃ w : Nat, w < 2 ^ it ∧ bln w = ((List.range it).filter fun t : Nat => decide ((t : Int) ∈ l)).map (fun t : Nat => (t : Int)) ∧ filter_k n x l (it : Int) () m k = k 0 (it : Int) () (mset kA32u8 m x (w : Int)) := by
  obtain ⟨w, h1, h2, h3⟩ := filter_l0_exact n it hit m x l hl2 (fun y2 => k 0 (it : Int) () (mset kA32u8 m x y2)) l.length n 0 0 (by omega) (by omega) (Nat.two_pow_pos it)
  refine ⟨w, h1, ?_, ?_⟩
  · rw [bln_it it hit w h1]
    congr 1
    refine List.filter_congr fun t ht => ?_
    rw [h2 t (List.mem_range.1 ht), List.drop_zero, Nat.zero_testBit, Bool.false_or]
  · unfold filter_k filter_p
    rw [hx]
    exact h3

theorem rfilter_l0_exact (n : Nat) (it : Nat) (hit : it ≤ 8) (l : List Int) (hl : l.length ≤ 9223372036854775807) (hn : l.length < n) (G1 : KN → BK → (Int → Option A) → Option A) (G3 : KN → (BK × (List Int × Unit)) → (KN → Option A) → Option A) (x : BK) (t6 : KN) (s2 : List (BK × (List Int × Unit)) × Unit) (k0 : List Int → Option A) : ∀ (d f i : Nat) (o : List Int), i + d = it → d < f → o.length ≤ i →
    rfilter_l0 G1 (has_k n) G3 n l ((it : Int), s2) x t6 k0 f (i : Int) o = k0 (o ++ ((List.range' i d).filter fun t : Nat => decide ((t : Int) ∈ l)).map (fun t : Nat => (t : Int))) := by
  intro d
  induction d with
  | zero =>
    intro f i o hi hf ho
    obtain ⟨f, rfl⟩ : ∃ g, f = g + 1 := ⟨f - 1, by omega⟩
    rw [rfilter_l0, rfilter_b0, decide_eq_false (show ¬ (i : Int) < (it : Int) by omega), cond_false]; simp
  | succ d ih =>
    intro f i o hi hf ho
    obtain ⟨f, rfl⟩ : ∃ g, f = g + 1 := ⟨f - 1, by omega⟩
    have e1 : IntKind.wrap .i64 ((i : Int) + 1) = ((i + 1 : Nat) : Int) := by rw [wrap_id (by omega) (by omega)]; omega
    rw [rfilter_l0, rfilter_b0, decide_eq_true (show (i : Int) < (it : Int) by omega), cond_true, has_law n l _ hl hn, e1, List.range'_succ, List.filter_cons]
    by_cases h : (i : Int) ∈ l
    · rw [decide_eq_true h, cond_true, if_pos (by omega), ih f (i + 1) (o ++ [(i : Int)]) (by omega) (by omega) (by rw [List.length_append, List.length_singleton]; omega), if_pos rfl, List.append_assoc]; rfl
    · rw [decide_eq_false h, cond_false, ih f (i + 1) o (by omega) (by omega) (by omega), if_neg (by simp)]

/-- A filter, by both. -/
theorem filter_both (n : Nat) (hn : 50000 < n) (it : Nat) (hit : it ≤ 8) (m : SM) (hm : Inv it m) (hl : m.length < 50000) (x : BK) (hx : x ∈ KS) (l : List Int) (hl1 : l.length < n) (hl2 : l.length ≤ 9223372036854775807) :
    ∃ (e : Int) (m' : SM), Inv it m' ∧ m'.length ≤ m.length + 1 ∧ (∀ g : KN → Int → Option A, rfilter_k n (refk (it : Int) m) x l g = g (refk (it : Int) m') e) ∧ ∀ k : Int → Int → Unit → SM → Option A, filter_k n x l (it : Int) () m k = k e (it : Int) () m' := by
  rcases find_law (A := A) n (it : Int) m x hm.len hn with ⟨h1, h2⟩ | ⟨j, v, h1, h2, h3⟩
  · obtain ⟨w, w1, w2, _⟩ := filter_exact (A := A) n it hit m x l hl1 hl2 h1 (fun _ _ _ _ => none)
    refine ⟨0, mset kA32u8 m x (w : Int), hm.put hl hx w1, mset_len _ _ _, fun g => ?_, fun k => ?_⟩
    · unfold rfilter_k rfilter_p
      rw [h2, decide_eq_false (by decide), cond_false]
      refine (rfilter_l0_exact n it hit l hl2 hl1 _ _ x _ _ _ it n 0 [] (by omega) (by omega) (by simp)).trans ?_
      exact put_law n (it : Int) m hm.uniq hm.len hn x (w : Int) _ (by rw [bl_nat, w2, List.nil_append, List.range_eq_range']) (fun r4 => g r4 0)
    · obtain ⟨w', q1, q2, q3⟩ := filter_exact n it hit m x l hl1 hl2 h1 k
      have : w' = w := by
        have e : ∀ a : Nat, a < 2 ^ 8 → ∀ b : Nat, b < 2 ^ 8 → bln a = bln b → a = b := fun a ha b hb hab => by
          refine Nat.eq_of_testBit_eq fun i => ?_
          by_cases hi : i < 8
          · have h1 := bln_mem a (i : Int)
            have h2 := bln_mem b (i : Int)
            rw [hab] at h1
            have h3 := h1.symm.trans h2
            cases ha' : a.testBit i <;> cases hb' : b.testBit i
            · rfl
            · obtain ⟨t, _, ht, he⟩ := h3.2 ⟨i, hi, hb', rfl⟩
              have : i = t := by omega
              subst this; rw [ha'] at ht; cases ht
            · obtain ⟨t, _, ht, he⟩ := h3.1 ⟨i, hi, ha', rfl⟩
              have : i = t := by omega
              subst this; rw [hb'] at ht; cases ht
            · rfl
          · have hp : (2 : Nat) ^ 8 ≤ 2 ^ i := Nat.pow_le_pow_right (by decide) (by omega)
            rw [Nat.testBit_lt_two_pow (Nat.lt_of_lt_of_le ha hp), Nat.testBit_lt_two_pow (Nat.lt_of_lt_of_le hb hp)]
        exact e w' (Nat.lt_of_lt_of_le q1 (p256 hit)) w (Nat.lt_of_lt_of_le w1 (p256 hit)) (q2.trans w2.symm)
      rw [q3, this]
  · refine ⟨7, m, hm, by omega, fun g => ?_, fun k => ?_⟩
    · unfold rfilter_k rfilter_p
      rw [h3, decide_eq_true (by omega), cond_true]
    · unfold filter_k filter_p
      rw [h1]; rfl

-- ------------------------------------------------------------ a proof

theorem rproof_l0_law (n : Nat) (item : Int) (l : List Int) (hl : l.length ≤ 8) (G1 : KN → BK → (Int → Option A) → Option A) (G2 : List Int → Int → (Bool → Option A) → Option A) (G3 : KN → (BK × (List Int × Unit)) → (KN → Option A) → Option A) (s : KN) (x : BK) (t6 : KN) (k0 : List Int → Option A) : ∀ (d f i : Nat) (o : List Int), i + d = l.length → d < f → o.length ≤ i →
    rproof_l0 G1 G2 G3 n item l (l.length : Int) s x t6 k0 f (i : Int) o = k0 (o ++ (l.drop i).filter fun y => y != item) := by
  intro d
  induction d with
  | zero =>
    intro f i o hi hf ho
    obtain ⟨f, rfl⟩ : ∃ g, f = g + 1 := ⟨f - 1, by omega⟩
    rw [rproof_l0, rproof_b0, decide_eq_false (by omega), cond_false, List.drop_eq_nil_of_le (by omega)]; simp
  | succ d ih =>
    intro f i o hi hf ho
    obtain ⟨f, rfl⟩ : ∃ g, f = g + 1 := ⟨f - 1, by omega⟩
    have hlt : i < l.length := by omega
    have e1 : IntKind.wrap .i64 ((i : Int) + 1) = ((i + 1 : Nat) : Int) := by rw [wrap_id (by omega) (by omega)]; omega
    rw [rproof_l0, rproof_b0, decide_eq_true (by omega), cond_true, if_pos (by omega), Int.toNat_natCast, List.getElem?_eq_getElem hlt, Option.bind_some, e1, List.drop_eq_getElem_cons hlt, List.filter_cons]
    cases hc : (l[i] != item) with
    | true => rw [cond_true, if_pos (by omega), ih f (i + 1) _ (by omega) (by omega) (by rw [List.length_append, List.length_singleton]; omega), if_pos rfl, List.append_assoc]; rfl
    | false => rw [cond_false, ih f (i + 1) o (by omega) (by omega) (by omega), if_neg (by simp)]

/-- A proof, by both. -/
theorem proof_both (n : Nat) (hn : 50000 < n) (it : Nat) (hit : it ≤ 8) (m : SM) (hm : Inv it m) (hl : m.length < 50000) (x : BK) (hx : x ∈ KS) (item : Int) :
    ∃ (e : Int) (m' : SM), Inv it m' ∧ m'.length ≤ m.length + 1 ∧ (∀ g : KN → Int → Option A, rproof_k n (refk (it : Int) m) x item g = g (refk (it : Int) m') e) ∧ ∀ k : Int → Int → Unit → SM → Option A, proof_k n x item (it : Int) () m k = k e (it : Int) () m' := by
  -- the program's
  have prog : ∀ w : Nat, (mget kA32u8 m x).getD 0 = (w : Int) → w < 2 ^ it →
      (item ∉ bln w ∧ ∀ k : Int → Int → Unit → SM → Option A, proof_k n x item (it : Int) () m k = k 6 (it : Int) () m) ∨
      (∃ t : Nat, item = (t : Int) ∧ t < 8 ∧ w.testBit t = true ∧ ∀ k : Int → Int → Unit → SM → Option A, proof_k n x item (it : Int) () m k = k 0 (it : Int) () (mset kA32u8 m x ((w - 2 ^ t : Nat) : Int))) := fun w hg hw => by
    have h256 := Nat.lt_of_lt_of_le hw (p256 hit)
    by_cases h1 : item < 0
    · left
      refine ⟨fun hmem => ?_, fun k => by unfold proof_k proof_p; rw [decide_eq_true h1, cond_true]⟩
      obtain ⟨t, _, _, ht⟩ := (bln_mem w item).1 hmem; omega
    · by_cases h2 : item ≥ (it : Int)
      · left
        refine ⟨fun hmem => ?_, fun k => by unfold proof_k proof_p; rw [decide_eq_false h1, cond_false, decide_eq_true h2, cond_true]⟩
        obtain ⟨t, _, ht2, ht⟩ := (bln_mem w item).1 hmem
        have hp : 2 ^ it ≤ 2 ^ t := Nat.pow_le_pow_right (by decide) (by omega)
        rw [Nat.testBit_lt_two_pow (Nat.lt_of_lt_of_le hw hp)] at ht2
        cases ht2
      · obtain ⟨t, rfl⟩ : ∃ t : Nat, item = (t : Int) := ⟨item.toNat, by omega⟩
        have ht8 : t < 8 := by omega
        have hb := bit_test w h256 t ht8
        cases hbit : w.testBit t with
        | false =>
          left
          rw [hbit] at hb
          refine ⟨fun hmem => ?_, fun k => by unfold proof_k proof_p; rw [decide_eq_false h1, cond_false, decide_eq_false h2, cond_false, if_neg h1, hg, hb]; rfl⟩
          obtain ⟨t', _, ht2, ht⟩ := (bln_mem w _).1 hmem
          have : t = t' := by omega
          subst this; rw [hbit] at ht2; cases ht2
        | true =>
          right
          rw [hbit] at hb
          obtain ⟨c1, _⟩ := bit_clear w h256 t ht8 hbit
          refine ⟨t, rfl, ht8, hbit, fun k => ?_⟩
          unfold proof_k proof_p
          rw [decide_eq_false h1, cond_false, decide_eq_false h2, cond_false, if_neg h1, hg, hb, Bool.not_true, cond_false, if_neg h1, mset_mset, c1]
  rcases find_law (A := A) n (it : Int) m x hm.len hn with ⟨h1, h2⟩ | ⟨j, v, h1, h2, h3⟩
  · refine ⟨6, m, hm, by omega, fun g => ?_, fun k => ?_⟩
    · unfold rproof_k rproof_p
      rw [h2, decide_eq_true (by decide), cond_true]
    · rcases prog 0 (by rw [h1]; rfl) (Nat.two_pow_pos it) with ⟨_, q⟩ | ⟨t, _, _, q, _⟩
      · exact q k
      · rw [Nat.zero_testBit] at q; cases q
  · obtain ⟨w, rfl, hw⟩ := hm.get h1
    have h256 := Nat.lt_of_lt_of_le hw (p256 hit)
    have hlen := bln_le w
    have hhas : ∀ g : Bool → Option A, has_k n (bln w) item g = g (decide (item ∈ bln w)) := fun g => has_law n _ _ (by omega) (by omega) g
    rcases prog w (by rw [h1]; rfl) hw with ⟨q1, q2⟩ | ⟨t, rfl, ht, q1, q2⟩
    · refine ⟨6, m, hm, by omega, fun g => ?_, q2⟩
      unfold rproof_k rproof_p
      rw [h3, decide_eq_false (by omega), cond_false, if_pos (by omega), Int.toNat_natCast, h2, Option.bind_some]
      show has_k n (bln w) item _ = _
      rw [hhas, decide_eq_false q1, Bool.not_false, cond_true]
    · have hmem : (t : Int) ∈ bln w := (bln_mem w _).2 ⟨t, ht, q1, rfl⟩
      refine ⟨0, mset kA32u8 m x ((w - 2 ^ t : Nat) : Int), hm.put hl hx (Nat.lt_of_le_of_lt (Nat.sub_le _ _) hw), mset_len _ _ _, fun g => ?_, q2⟩
      unfold rproof_k rproof_p
      rw [h3, decide_eq_false (by omega), cond_false, if_pos (by omega), Int.toNat_natCast, h2, Option.bind_some]
      show has_k n (bln w) (t : Int) _ = _
      rw [hhas, decide_eq_true hmem, Bool.not_true, cond_false, if_pos (by omega), Option.bind_some]
      refine (rproof_l0_law n (t : Int) (bln w) hlen _ _ _ _ x _ _ (bln w).length n 0 [] (by omega) (by omega) (by simp)).trans ?_
      refine put_law n (it : Int) m hm.uniq hm.len hn x ((w - 2 ^ t : Nat) : Int) _ ?_ (fun r7 => g r7 0)
      rw [bl_nat, (bit_clear w h256 t ht q1).2, List.nil_append, List.drop_zero]

/-- A call of both. -/
theorem step_both (n : Nat) (hn : 50000 < n) (it : Nat) (hit : it ≤ 8) (o : SOP) (hy : 0 ≤ o.2.1) (hy2 : o.2.1 < 256) (m : SM) (hm : Inv it m) (hl : m.length < 50000) (hl2 : o.2.2.2.1.length ≤ 9223372036854775807) (hln : o.2.2.2.1.length < n) :
    ∃ m' : SM, Inv it m' ∧ m'.length ≤ m.length + 1 ∧ ∀ g : KN → Bool → Int → Unit → SM → Option A, step_k n (refk (it : Int) m) o (it : Int) () m g = g (refk (it : Int) m') true (it : Int) () m' := by
  have hst : ∀ g : KN → Bool → Int → Unit → SM → Option A, step_k n (refk (it : Int) m) o (it : Int) () m g = step_p (block_k n) (rfilter_k n) (filter_k n) (rproof_k n) (proof_k n) (skip_k n) (rskip_k n) n (refk (it : Int) m) o (it : Int) () m g := fun g => rfl
  have hb : ∀ (y : Int) (g : BK → Option A), block_k n y g = g (blk y) := fun y g => rfl
  have hk := blk_KS o.2.1 hy hy2
  by_cases h1 : o.1 = 1
  · obtain ⟨e, m', q1, q2, q3, q4⟩ := filter_both (A := A) n hn it hit m hm hl (blk o.2.1) hk o.2.2.2.1 hln hl2
    exact ⟨m', q1, q2, fun g => by rw [hst]; unfold step_p; rw [hb, show (o.1 == 1) = true from by rw [h1]; rfl, cond_true, q3, q4, beq_self_eq_true]⟩
  · by_cases h2 : o.1 = 2
    · obtain ⟨e, m', q1, q2, q3, q4⟩ := proof_both (A := A) n hn it hit m hm hl (blk o.2.1) hk o.2.2.1
      exact ⟨m', q1, q2, fun g => by rw [hst]; unfold step_p; rw [hb, beq_eq_false_iff_ne.2 h1, cond_false, show (o.1 == 2) = true from by rw [h2]; rfl, cond_true, q3, q4, beq_self_eq_true]⟩
    · by_cases h3 : o.1 = 3
      · refine ⟨mset kA32u8 m (blk o.2.1) 0, hm.put hl hk (Nat.two_pow_pos it), mset_len _ _ _, fun g => ?_⟩
        rw [hst]; unfold step_p
        rw [hb, beq_eq_false_iff_ne.2 h1, cond_false, beq_eq_false_iff_ne.2 h2, cond_false, show (o.1 == 3) = true from by rw [h3]; rfl, cond_true]
        show rskip_k n (refk (it : Int) m) (blk o.2.1) (fun r17 => g r17 true (it : Int) () (mset kA32u8 m (blk o.2.1) 0)) = _
        unfold rskip_k rskip_p
        exact put_law n (it : Int) m hm.uniq hm.len hn (blk o.2.1) 0 [] (by decide) _
      · exact ⟨m, hm, by omega, fun g => by rw [hst]; unfold step_p; rw [hb, beq_eq_false_iff_ne.2 h1, cond_false, beq_eq_false_iff_ne.2 h2, cond_false, beq_eq_false_iff_ne.2 h3, cond_false]⟩

end Go.Ev
end

section
/-
  THE LAW OF ScanPlays.
-/
set_option linter.all false
namespace Go.Ev
variable {A : Type}

-- ------------------------------------------------------------ how many are done

theorem cp_upd (a : BK) (b : Bool) (p : BK → Bool) (hp : p a = false) : ∀ (L : List BK), L.Nodup → L.countP (fun y => bif deq kA32u8 a y then b else p y) = L.countP p + (if a ∈ L then (if b = true then 1 else 0) else 0)
  | [], _ => by simp
  | y :: r, hn => by
    obtain ⟨h1, h2⟩ := List.nodup_cons.1 hn
    have ih := cp_upd a b p hp r h2
    rw [List.countP_cons, List.countP_cons, ih]
    by_cases hay : a = y
    · subst hay
      rw [deq_self, cond_true, if_neg h1, if_pos List.mem_cons_self, hp]
      simp
    · rw [deq_false hay, cond_false]
      have : a ∈ y :: r ↔ a ∈ r := by
        rw [List.mem_cons]; exact ⟨fun h => h.resolve_left hay, .inr⟩
      by_cases hr : a ∈ r
      · rw [if_pos hr, if_pos (this.2 hr)]; omega
      · rw [if_neg hr, if_neg (fun h => hr (this.1 h))]; omega

theorem zero_count : ∀ (m : SM), Uniq m → (∀ e ∈ m, e.1 ∈ KS) → (m.countP fun e => e.2 == 0) = KS.countP (dn m)
  | [], _, _ => by
    refine Eq.symm (List.countP_eq_zero.2 fun a _ => ?_)
    show ¬ (dn [] a = true)
    exact fun h => by cases h
  | e :: r, hu, hk => by
    have hu' : e.1 ∉ r.map (·.1) ∧ Uniq r := by
      unfold Uniq at hu ⊢; rw [List.map_cons] at hu; exact List.nodup_cons.1 hu
    have ih := zero_count r hu'.2 fun q hq => hk q (List.mem_cons_of_mem _ hq)
    have h0 : dn r e.1 = false := by unfold dn; rw [mget_none hu'.1]; rfl
    have hd : dn (e :: r) = fun y => bif deq kA32u8 e.1 y then (e.2 == 0) else dn r y := by
      funext y
      by_cases hy : e.1 = y
      · rw [hy, deq_self, cond_true]
        unfold dn
        simp [mget, hy]
      · rw [deq_false hy, cond_false]
        unfold dn
        simp [mget, hy]
    rw [hd, cp_upd e.1 (e.2 == 0) (dn r) h0 KS KS_nodup, if_pos (hk e List.mem_cons_self), List.countP_cons, ih]

def DN (m : SM) (i : Nat) : Nat := (List.range i).countP fun j : Nat => dn m (blk (j : Int))
theorem DN_succ (m : SM) (i : Nat) : DN m (i + 1) = DN m i + (if dn m (blk (i : Int)) = true then 1 else 0) := by
  unfold DN
  rw [List.range_succ, List.countP_append, List.countP_cons, List.countP_nil]
  omega
theorem DN_le (m : SM) (i : Nat) : DN m i ≤ i := by
  have := List.countP_le_length (p := fun j : Nat => dn m (blk (j : Int))) (l := List.range i)
  rw [List.length_range] at this
  exact this
theorem zeros_DN {it : Nat} {m : SM} (h : Inv it m) : zeros m = (DN m 16 : Int) := by
  have h1 := zero_count m h.uniq h.key
  have h2 : KS.countP (dn m) = DN m 16 := by
    unfold KS DN
    rw [List.countP_map]
    rfl
  have h3 := DN_le m 16
  unfold zeros
  rw [h1, h2, wrap_id (by omega) (by omega)]

-- ------------------------------------------------------------ both tell the same

theorem u8_small : ∀ i : Nat, i < 16 → IntKind.wrap .u8 (i : Int) = (i : Int) := by decide

abbrev same_L1 (n : Nat) := same_l1 (A := A) (next_k n) (refs_k n) (rnext_k n) (block_k n) (find_k n) (open__k n) (done_k n) (rdone_k n) (count_k n) n
abbrev same_L0 (n : Nat) := same_l0 (A := A) (next_k n) (refs_k n) (rnext_k n) (block_k n) (find_k n) (open__k n) (done_k n) (rdone_k n) (count_k n) n

theorem same_l1_law (n : Nat) (dd t55 sa : Int) (m : SM) (x : KN) (h : BK) (l : List Int) (hl : l.length ≤ 8) (k0 k1 : Option A) : ∀ (d f i : Nat), i + d = l.length → d < f →
    same_L1 n dd l t55 (l.length : Int) sa () m x h l k0 k1 f (i : Int) = k1 := by
  intro d
  induction d with
  | zero =>
    intro f i hi hf
    obtain ⟨f, rfl⟩ : ∃ g, f = g + 1 := ⟨f - 1, by omega⟩
    rw [same_L1, same_l1, same_b1, decide_eq_false (by omega), cond_false]
  | succ d ih =>
    intro f i hi hf
    obtain ⟨f, rfl⟩ : ∃ g, f = g + 1 := ⟨f - 1, by omega⟩
    have hlt : i < l.length := by omega
    have e1 : IntKind.wrap .i64 ((i : Int) + 1) = ((i + 1 : Nat) : Int) := by rw [wrap_id (by omega) (by omega)]; omega
    rw [same_L1, same_l1, same_b1, decide_eq_true (by omega), cond_true, if_pos (by omega), if_pos (by omega), Int.toNat_natCast, List.getElem?_eq_getElem hlt, Option.bind_some, if_pos (by omega), Option.bind_some, bne_self_eq_false, cond_false, e1]
    exact ih f (i + 1) (by omega) (by omega)

theorem same_l0_law (n : Nat) (hn : 50000 < n) (it : Nat) (hit : it ≤ 8) (m : SM) (hm : Inv it m) (k0 k1 : Int → Int → Unit → SM → Option A) : ∀ (d f i : Nat), i + d = 16 → d < f →
    same_L0 n (refk (it : Int) m) k0 k1 f (DN m i : Int) (i : Int) (it : Int) () m = k1 (DN m 16 : Int) (it : Int) () m := by
  have hb : ∀ (y : Int) (g : BK → Option A), block_k n y g = g (blk y) := fun y g => rfl
  intro d
  induction d with
  | zero =>
    intro f i hi hf
    obtain ⟨f, rfl⟩ : ∃ g, f = g + 1 := ⟨f - 1, by omega⟩
    rw [same_L0, same_l0, same_b0, decide_eq_false (by omega), cond_false, show i = 16 from by omega]
  | succ d ih =>
    intro f i hi hf
    obtain ⟨f, rfl⟩ : ∃ g, f = g + 1 := ⟨f - 1, by omega⟩
    have e1 : IntKind.wrap .i64 ((i : Int) + 1) = ((i + 1 : Nat) : Int) := by rw [wrap_id (by omega) (by omega)]; omega
    have hle := DN_le m i
    have e2 : IntKind.wrap .i64 ((DN m i : Int) + 1) = ((DN m i + 1 : Nat) : Int) := by rw [wrap_id (by omega) (by omega)]; omega
    have hs := DN_succ m i
    have next := ih f (i + 1) (by omega) (by omega)
    -- the rest of the round, whatever the open items are
    have tail : ∀ L : List Int, L.length ≤ 8 →
        same_L1 n (DN m i : Int) L (i : Int) (L.length : Int) (it : Int) () m (refk (it : Int) m) (blk (i : Int)) L (k0 (DN m i : Int) (it : Int) () m) (done_k n (blk (i : Int)) (it : Int) () m fun r21 r22 r23 r24 =>
          bif r21 then same_L0 n (refk (it : Int) m) k0 k1 f (IntKind.wrap .i64 ((DN m i : Int) + 1)) (IntKind.wrap .i64 ((i : Int) + 1)) r22 r23 r24 else same_L0 n (refk (it : Int) m) k0 k1 f (DN m i : Int) (IntKind.wrap .i64 ((i : Int) + 1)) r22 r23 r24) n 0 = k1 (DN m 16 : Int) (it : Int) () m := fun L hL => by
      refine (same_l1_law n _ _ _ m _ _ L hL _ _ L.length n 0 (by omega) (by omega)).trans ?_
      rw [done_law, e1, e2]
      cases hd : dn m (blk (i : Int)) with
      | true =>
        rw [hd, if_pos rfl] at hs
        rw [cond_true, ← hs]
        exact next
      | false =>
        rw [hd, if_neg (by simp)] at hs
        rw [hs] at next
        rw [cond_false]
        exact next
    rw [same_L0, same_l0, same_b0, decide_eq_true (by omega), cond_true, u8_small i (by omega), hb]
    rcases find_law (A := A) n (it : Int) m (blk (i : Int)) hm.len hn with ⟨h1, h2⟩ | ⟨j, v, h1, h2, h3⟩
    · rw [h2, decide_eq_false (by decide), cond_false, open_law n hn it hit m hm, h1, Option.getD_none]
      have e0 : bl 0 = [] := by decide
      rw [e0, show ((([] : List Int).length : Int) != 0) = false from rfl, cond_false, done_law, rdone_law n it hit m hm _ hn, deq_self, Bool.not_true, cond_false]
      exact tail [] (by simp)
    · rw [h3, decide_eq_true (by omega), cond_true, if_pos (by omega), Int.toNat_natCast, h2, Option.bind_some, open_law n hn it hit m hm, h1, Option.getD_some, bne_self_eq_false, cond_false, done_law, rdone_law n it hit m hm _ hn, deq_self, Bool.not_true, cond_false]
      exact tail (bl v) (bl_len v)

theorem same_law (n : Nat) (hn : 50000 < n) (it : Nat) (hit : it ≤ 8) (m : SM) (hm : Inv it m) (line : List BK) (hl : line.length ≤ 10000) (k : Bool → Int → Unit → SM → Option A) : same_k n (refk (it : Int) m) line (it : Int) () m k = k true (it : Int) () m := by
  have un : same_k n (refk (it : Int) m) line (it : Int) () m k = same_p (next_k n) (refs_k n) (rnext_k n) (block_k n) (find_k n) (open__k n) (done_k n) (rdone_k n) (count_k n) n (refk (it : Int) m) line (it : Int) () m k := rfl
  have fin : same_L0 n (refk (it : Int) m) (fun y38 y39 y40 y41 => k false y39 y40 y41) (fun y42 y43 y44 y45 => count_k n y43 y44 y45 fun r46 r47 r48 r49 => k (r46 == y42) r47 r48 r49) n 0 0 (it : Int) () m = k true (it : Int) () m := by
    refine (same_l0_law n hn it hit m hm _ _ 16 n 0 (by omega) (by omega)).trans ?_
    show k (zeros m == (DN m 16 : Int)) (it : Int) () m = _
    rw [zeros_DN hm, beq_self_eq_true]
  rw [un]
  unfold same_p
  rw [next_nxt n it hit m hm line (by omega) (by omega)]
  cases hj : jobs it m line with
  | none =>
    simp only
    rw [refs_law n hn line hl, rnext_nxt n hn it hit m hm line hl, hj]
    simp only
    rw [deq_self, Bool.not_true, cond_false, bne_self_eq_false, cond_false, deq_self, Bool.not_true, cond_false, bne_self_eq_false, cond_false]
    exact fin
  | some j =>
    simp only
    rw [refs_law n hn line hl, rnext_nxt n hn it hit m hm line hl, hj]
    simp only
    rw [deq_self, Bool.not_true, cond_false, bne_self_eq_false, cond_false, deq_self, Bool.not_true, cond_false, bne_self_eq_false, cond_false]
    exact fin

-- ------------------------------------------------------------ every sequence of calls

theorem plays_l0_law (n : Nat) (hn : 60000 < n) (it : Nat) (hit : it ≤ 8) (line : List Int) (hline : line.length ≤ 30) (l : List SOP) (hl : l.length ≤ 40)
    (hops : ∀ o ∈ l, (0 ≤ o.2.1 ∧ o.2.1 < 256) ∧ o.2.2.2.1.length ≤ 9223372036854775807 ∧ o.2.2.2.1.length < n) (k0 k1 : Int → Unit → SM → KN → Option A) (out : Option A) (hk : ∀ m', Inv it m' → k1 (it : Int) () m' (refk (it : Int) m') = out) :
    ∀ (d f i : Nat) (m : SM), i + d = l.length → d < f → Inv it m → m.length ≤ i →
    plays_l0 (awake_k n) (new__k n) (step_k n) (row_k n) (same_k n) n line l (l.length : Int) k0 k1 f (i : Int) (it : Int) () m (refk (it : Int) m) = out := by
  intro d
  induction d with
  | zero =>
    intro f i m hi hf hm hml
    obtain ⟨f, rfl⟩ : ∃ g, f = g + 1 := ⟨f - 1, by omega⟩
    rw [plays_l0, plays_b0, decide_eq_false (by omega), cond_false]
    exact hk m hm
  | succ d ih =>
    intro f i m hi hf hm hml
    obtain ⟨f, rfl⟩ : ∃ g, f = g + 1 := ⟨f - 1, by omega⟩
    have hlt : i < l.length := by omega
    have e1 : IntKind.wrap .i64 ((i : Int) + 1) = ((i + 1 : Nat) : Int) := by rw [wrap_id (by omega) (by omega)]; omega
    obtain ⟨⟨q1, q2⟩, q3, q4⟩ := hops l[i] (List.getElem_mem hlt)
    obtain ⟨m', hm', hml', hstep⟩ := step_both (A := A) n (by omega) it hit l[i] q1 q2 m hm (by omega) q3 q4
    rw [plays_l0, plays_b0, decide_eq_true (by omega), cond_true, if_pos (by omega), Int.toNat_natCast, List.getElem?_eq_getElem hlt, Option.bind_some, hstep, Bool.not_true, cond_false, row_law n line (by omega) (by omega),
      same_law n (by omega) it hit m' hm' (line.map blk) (by rw [List.length_map]; omega), Bool.not_true, cond_false, e1]
    exact ih f (i + 1) m' (by omega) (by omega) hm' (by omega)

theorem plays_main (a0 : Int) (a1 : List SOP) (a2 : List Int) (hops : ∀ o ∈ a1, (0 ≤ o.2.1 ∧ o.2.1 < 256) ∧ o.2.2.2.1.length ≤ 9223372036854775807) : ∃ n, plays_k n a0 a1 a2 (fun r => some r) = some true := by
  obtain ⟨N, hN⟩ := maxlen_fuel a1
  refine ⟨(N + 70000) + 30, ?_⟩
  have haw : ∀ k : Bool → Option Bool, awake_k ((N + 70000) + 30) k = k true := awake_any (N + 70000)
  have hn : 60000 < (N + 70000) + 30 := by omega
  have hops' : ∀ o ∈ a1, (0 ≤ o.2.1 ∧ o.2.1 < 256) ∧ o.2.2.2.1.length ≤ 9223372036854775807 ∧ o.2.2.2.1.length < (N + 70000) + 30 := fun o ho => ⟨(hops o ho).1, (hops o ho).2, by have := hN o ho; omega⟩
  generalize (N + 70000) + 30 = n at haw hn hops'
  unfold plays_k plays_p
  by_cases h1 : (a1.length : Int) > 40
  · rw [decide_eq_true h1, cond_true, haw]
  · rw [decide_eq_false h1, cond_false]
    by_cases h2 : (a2.length : Int) > 30
    · rw [decide_eq_true h2, cond_true, haw]
    · rw [decide_eq_false h2, cond_false]
      by_cases h3 : 0 ≤ a0 ∧ a0 ≤ 8
      · rw [new_good n a0 h3]
        obtain ⟨it, rfl⟩ : ∃ it : Nat, a0 = (it : Int) := ⟨a0.toNat, by omega⟩
        rw [decide_eq_false (by omega), cond_false, decide_eq_false (by omega), cond_false, show ((0 : Int) != 0) = false from rfl, cond_false]
        have hi0 : Inv it ([] : SM) := ⟨Uniq.nil, fun e h => (by cases h), fun e h => (by cases h), Nat.zero_le _⟩
        refine plays_l0_law n hn it (by omega) a2 (by omega) a1 (by omega) hops' _ _ (some true) (fun m' hm' => ?_) a1.length n 0 [] (by omega) (by omega) hi0 (by simp)
        rw [row_law n a2 (by omega) (by omega), same_law n (by omega) it (by omega) m' hm' (a2.map blk) (by rw [List.length_map]; omega), cond_true, haw]
      · rw [new_bad n a0 h3]
        by_cases h4 : a0 < 0
        · rw [decide_eq_true h4, cond_true, show ((1 : Int) == 1) = true from rfl, cond_true, haw]
        · rw [decide_eq_false h4, cond_false, decide_eq_true (by omega), cond_true, show ((1 : Int) == 1) = true from rfl, cond_true, haw]

theorem plays_law (a0 : Int) (a1 : List SOP) (a2 : List Int) (f0 : WF (.int .i64) a0) (f1 : WF (.sl kT44) a1) (f2 : WF (.sl (.int .u8)) a2) : ∃ n, plays_k n a0 a1 a2 (fun r => some r) = some true :=
  plays_main a0 a1 a2 fun o ho => ⟨by
    have h : WF (.int .u8) o.2.1 := (f1.2 o ho).2.1
    have h1 : IntKind.u8.min ≤ o.2.1 ∧ o.2.1 ≤ IntKind.u8.max := h
    rw [show IntKind.u8.min = 0 by decide, show IntKind.u8.max = 255 by decide] at h1
    exact ⟨h1.1, by have := h1.2; omega⟩, Nat.le_trans (f1.2 o ho).2.2.2.1.1 (by decide)⟩

end Go.Ev
end

