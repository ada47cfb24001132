/-
  THE LAWS OF SipHashes, SipKeys.
-/
import Derived.Test.YtonpbpkkepacpaaSipM
import Derived.Test.YtonpbpkkepacpaaSipP4
import Derived.Test.YtonpbpkkepacpaaSipF3
import Derived.Test.YtonpbpkkepacpaaSipF7
set_option linter.all false
namespace Go.Ev
variable {A : Type}

theorem bytes_of : ∀ {a : List Int}, (∀ x ∈ a, IntKind.u8.min ≤ x ∧ x ≤ IntKind.u8.max) → ∃ l, a = ints l ∧ Bytes l
  | [], _ => ⟨[], rfl, fun x hx => by cases hx⟩
  | x :: a, h => by
    obtain ⟨l, rfl, hl⟩ := bytes_of (a := a) fun y hy => h y (by simp [hy])
    have hx := h x (by simp)
    rw [show IntKind.u8.min = 0 by decide, show IntKind.u8.max = 255 by decide] at hx
    refine ⟨x.toNat :: l, ?_, fun y hy => ?_⟩
    · simp only [ints, List.map_cons]; rw [Int.toNat_of_nonneg hx.1]
    · rcases List.mem_cons.1 hy with rfl | hy
      · omega
      · exact hl y hy

theorem wf_two {v : List Int} (h : WF (.arr 2 (.int .u64)) v) : ∃ p q : Nat, v = [(p : Int), (q : Int)] ∧ p < 18446744073709551616 ∧ q < 18446744073709551616 := by
  obtain ⟨hl, hu⟩ := h
  match v, hl with
  | [x, y], _ =>
    obtain ⟨a, rfl, ha⟩ := (wf_u64 (hu x (by simp))).nat
    obtain ⟨b, rfl, hb⟩ := (wf_u64 (hu y (by simp))).nat
    exact ⟨a, b, rfl, ha, hb⟩

theorem hashes_gen (W : (Bool → Option Bool) → Option Bool) (H : List Int → List Int → (Int → Option Bool) → Option Bool) (R : Int → Int → List Int → (Int → Option Bool) → Option Bool) (n : Nat) (p q h : Int) (b : List Int) (haw : ∀ k, W k = k true)
    (h1 : b.length ≤ 300 → ∀ g, H [p, q] b g = g h) (h2 : b.length ≤ 300 → ∀ g, R p q b g = g h) : hashes_p W H R n [p, q] b (fun r => some r) = some true := by
  unfold hashes_p
  cases hl : decide ((b.length : Int) > 300) with
  | true => rw [cond_true, haw]
  | false =>
    have hl' : b.length ≤ 300 := by simp at hl; omega
    rw [cond_false, h1 hl']
    simp only [List.getElem?_cons_zero, List.getElem?_cons_succ, Option.bind_some]
    rw [h2 hl', beq_self_eq_true, cond_true, haw]

theorem hashes_law (a0 a1 : List Int) (f0 : WF (.arr 2 (.int .u64)) a0) (f1 : WF (.sl (.int .u8)) a1) : ∃ n, hashes_k n a0 a1 (fun r => some r) = some true := by
  refine ⟨400, ?_⟩
  have haw : ∀ k : Bool → Option Bool, awake_k 400 k = k true := awake_400
  have hn : 100 < 400 := by decide
  have hn3 : 300 < 400 := by decide
  generalize 400 = n at haw hn hn3
  obtain ⟨p, q, rfl, hp, hq⟩ := wf_two f0
  obtain ⟨l, rfl, hb⟩ := bytes_of f1.2
  by_cases hl : l.length ≤ 300
  · obtain ⟨h, hh⟩ := hash_law n hn p q hp hq l hb (by omega) (by omega) (by omega)
    exact hashes_gen (awake_k n) (hash_k n) (rhash_k n) n p q h (ints l) haw (fun _ g => (hh Bool g).1) (fun _ g => (hh Bool g).2)
  · exact hashes_gen (awake_k n) (hash_k n) (rhash_k n) n p q 0 (ints l) haw (fun h => absurd (by rw [ints_length] at h; exact h) hl) (fun h => absurd (by rw [ints_length] at h; exact h) hl)

theorem keys_l0_law (W : (Bool → Option A) → Option A) (K : List Int → (List Int → Option A) → Option A) (V : List Int → (Int → Option A) → Option A) (H : List Int → List Int → (Int → Option A) → Option A) (n : Nat) (b : List Int) (t4 : Bool) (h kk : List Int) (k0 : Int → List Int → Option A) :
    ∀ (d f i : Nat) (o : List Int), i + d = 32 → 16 ≤ i → d < f → o.length = 32 → ∃ o' : List Int, o'.length = 32 ∧ o'.take 16 = o.take 16 ∧ keys_l0 W K V H n b t4 h kk k0 f (i : Int) o = k0 32 o'
  | _, 0, _, _, _, _, h, _ => by omega
  | 0, f + 1, i, o, hi, _, _, ho => by
    have : i = 32 := by omega
    subst this
    exact ⟨o, ho, rfl, by simp only [keys_l0, keys_b0]; rfl⟩
  | d + 1, f + 1, i, o, hi, h16, hf, ho => by
    simp only [keys_l0, keys_b0]
    have e : decide ((i : Int) < 32) = true := by simp; omega
    have hw : IntKind.wrap .i64 ((i : Int) + 1) = ((i + 1 : Nat) : Int) := by rw [wrap_id (by omega) (by omega)]; omega
    rw [e, cond_true, if_pos (by omega), if_pos (by omega), Int.toNat_natCast, List.getElem?_eq_getElem (show i < o.length by omega), Option.bind_some, if_pos (by omega), if_pos (by omega), if_pos (by omega), hw]
    obtain ⟨o', h1, h2, h3⟩ := keys_l0_law W K V H n b t4 h kk k0 d f (i + 1) (o.set i (ixor .u8 255 o[i])) (by omega) (by omega) (by omega) (by simp [ho])
    refine ⟨o', h1, ?_, h3⟩
    rw [h2, List.take_set_of_le (by omega)]

theorem keys_gen (W : (Bool → Option Bool) → Option Bool) (K : List Int → (List Int → Option Bool) → Option Bool) (V : List Int → (Int → Option Bool) → Option Bool) (H : List Int → List Int → (Int → Option Bool) → Option Bool) (n : Nat) (hn : 100 < n) (a b : List Int) (p q h : Int) (ha : a.length = 32) (haw : ∀ k, W k = k true)
    (h1 : ∀ o : List Int, o.length = 32 → o.take 16 = a.take 16 → ∀ g, K o g = g [p, q]) (h2 : ∀ g, V ((a.drop 0).take 8) g = g p) (h3 : ∀ g, V ((a.drop 8).take 8) g = g q) (h4 : b.length ≤ 100 → ∀ g, H [p, q] b g = g h) : keys_p W K V H n a b (fun r => some r) = some true := by
  unfold keys_p
  cases hl : decide ((b.length : Int) > 100) with
  | true => rw [cond_true, haw]
  | false =>
    have hl' : b.length ≤ 100 := by simp at hl; omega
    rw [cond_false, h1 a ha rfl]
    obtain ⟨o', g1, g2, g3⟩ := keys_l0_law W K V H n b false a [p, q] (fun y4 y5 => ([p, q][0]?).bind fun y6 => V ((a.drop 0).take 8) fun r7 => bif (y6 == r7) then ([p, q][1]?).bind fun y8 => V ((a.drop 8).take 8) fun r9 => bif (y8 == r9) then
          K y5 fun r10 => H r10 b fun r11 => H [p, q] b fun r12 => bif (r11 == r12) then W fun r13 => some r13 else some false else some false else some false) 16 n 16 a (by omega) (by omega) (by omega) ha
    refine Eq.trans g3 ?_
    simp only [List.getElem?_cons_zero, List.getElem?_cons_succ, Option.bind_some]
    rw [h2, beq_self_eq_true, cond_true, h3, beq_self_eq_true, cond_true, h1 o' g1 g2, h4 hl', h4 hl', beq_self_eq_true, cond_true, haw]

theorem keys_law (a0 a1 : List Int) (f0 : WF (.arr 32 (.int .u8)) a0) (f1 : WF (.sl (.int .u8)) a1) : ∃ n, keys_k n a0 a1 (fun r => some r) = some true := by
  refine ⟨400, ?_⟩
  have haw : ∀ k : Bool → Option Bool, awake_k 400 k = k true := awake_400
  have hn : 100 < 400 := by decide
  have hn3 : 300 < 400 := by decide
  generalize 400 = n at haw hn hn3
  obtain ⟨l, rfl, hb⟩ := bytes_of f1.2
  obtain ⟨m, rfl, hm⟩ := bytes_of f0.2
  have hml : m.length = 32 := by rw [← ints_length]; exact f0.1
  have hp := leN8_lt (m.take 8) (hm.take 8) (by simp; omega)
  have hq := leN8_lt ((m.drop 8).take 8) ((hm.drop 8).take 8) (by simp; omega)
  have key : ∀ o : List Int, o.length = 32 → o.take 16 = (ints m).take 16 → ∀ g : List Int → Option Bool, key_k n o g = g [((leN (m.take 8) : Nat) : Int), ((leN ((m.drop 8).take 8) : Nat) : Int)] := fun o ho ht g => by
    unfold key_k key_p
    have t1 : (o.drop 0).take 8 = ints (m.take 8) := by
      have := congrArg (fun l : List Int => l.take 8) ht
      simp only [List.take_take] at this
      rw [List.drop_zero, ← ints_take]; exact this
    have t2 : (o.drop 8).take 8 = ints ((m.drop 8).take 8) := by
      have := congrArg (fun l : List Int => l.drop 8) ht
      simp only [List.drop_take] at this
      rw [← ints_take, ← ints_drop]; exact this
    rw [t1, t2, num_law n hn _ (hm.take 8), num_law n hn _ ((hm.drop 8).take 8), List.take_take, List.take_take]
    rfl
  have v1 : ∀ g : Int → Option Bool, value_k n (((ints m).drop 0).take 8) g = g ((leN (m.take 8) : Nat) : Int) := fun g => by
    rw [List.drop_zero, ints_take, value_law n _ (hm.take 8) (by simp; omega) (by simp; omega), List.take_take]; rfl
  have v2 : ∀ g : Int → Option Bool, value_k n (((ints m).drop 8).take 8) g = g ((leN ((m.drop 8).take 8) : Nat) : Int) := fun g => by
    rw [ints_drop, ints_take, value_law n _ ((hm.drop 8).take 8) (by simp; omega) (by simp; omega), List.take_take]; rfl
  by_cases hl : l.length ≤ 100
  · obtain ⟨h, hh⟩ := hash_law n hn _ _ hp hq l hb (by omega) (by omega) (by omega)
    exact keys_gen (awake_k n) (key_k n) (value_k n) (hash_k n) n hn (ints m) (ints l) _ _ h (by rw [ints_length]; exact hml) haw key v1 v2 (fun _ g => (hh Bool g).1)
  · exact keys_gen (awake_k n) (key_k n) (value_k n) (hash_k n) n hn (ints m) (ints l) _ _ 0 (by rw [ints_length]; exact hml) haw key v1 v2 (fun h => absurd (by rw [ints_length] at h; exact h) hl)

end Go.Ev
