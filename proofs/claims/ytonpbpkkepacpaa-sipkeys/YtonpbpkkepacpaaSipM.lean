/-
  LAYER 3: plain laws: numbers of bytes, texts in pieces of eight, the keyed sum.
-/
import Derived.Test.YtonpbpkkepacpaaSipL
import Derived.Test.YtonpbpkkepacpaaSipF9
import Derived.Test.YtonpbpkkepacpaaSipF10
import Derived.Test.YtonpbpkkepacpaaSipF15
set_option linter.all false
namespace Go.Ev
variable {A : Type}

/-- Bytes, the lowest first. -/
def leN : List Nat → Nat
  | [] => 0
  | b :: r => b + 256 * leN r

def ints (l : List Nat) : List Int := l.map fun x : Nat => (x : Int)
def Bytes (l : List Nat) : Prop := ∀ x ∈ l, x < 256

theorem Bytes.take {l : List Nat} (h : Bytes l) (n : Nat) : Bytes (l.take n) := fun x hx => h x (List.mem_of_mem_take hx)
theorem Bytes.drop {l : List Nat} (h : Bytes l) (n : Nat) : Bytes (l.drop n) := fun x hx => h x (List.mem_of_mem_drop hx)

theorem ints_length (l : List Nat) : (ints l).length = l.length := by simp [ints]
theorem ints_get (l : List Nat) (i : Nat) : (ints l)[i]? = (l[i]?).map fun x : Nat => (x : Int) := by simp [ints]
theorem ints_take (l : List Nat) (i : Nat) : (ints l).take i = ints (l.take i) := by simp [ints, List.map_take]
theorem ints_drop (l : List Nat) (i : Nat) : (ints l).drop i = ints (l.drop i) := by simp [ints, List.map_drop]

theorem leN_snoc : ∀ (l : List Nat) (y : Nat), leN (l ++ [y]) = leN l + y * 256 ^ l.length
  | [], y => by simp [leN]
  | b :: r, y => by
    simp only [List.cons_append, leN, leN_snoc r y, List.length_cons, Nat.pow_succ]
    rw [Nat.mul_add, ← Nat.mul_assoc, Nat.mul_comm 256 y, Nat.mul_assoc y, Nat.mul_comm 256 (256 ^ _)]; omega
theorem leN_lt : ∀ (l : List Nat), Bytes l → leN l < 256 ^ l.length
  | [], _ => by simp [leN]
  | b :: r, h => by
    have h1 := leN_lt r fun x hx => h x (by simp [hx])
    have h2 := h b (by simp)
    simp only [leN, List.length_cons, Nat.pow_succ]
    omega
theorem leN_append : ∀ (l m : List Nat), leN (l ++ m) = leN l + 256 ^ l.length * leN m
  | [], m => by simp [leN]
  | b :: r, m => by
    simp only [List.cons_append, leN, leN_append r m, List.length_cons, Nat.pow_succ]
    rw [Nat.mul_add, Nat.mul_comm (256 ^ r.length) 256, Nat.mul_assoc]; omega
theorem leN_zeros (z : Nat) : leN (List.replicate z 0) = 0 := by
  induction z with
  | zero => rfl
  | succ z ih => simp [List.replicate_succ, leN, ih]

theorem leN8_lt (l : List Nat) (h : Bytes l) (hl : l.length ≤ 8) : leN l < 18446744073709551616 := by
  have h1 := leN_lt l h
  have h2 : 256 ^ l.length ≤ 256 ^ 8 := Nat.pow_le_pow_right (by decide) hl
  have h3 : 256 ^ 8 = 18446744073709551616 := by decide
  omega

theorem p256 (i : Nat) : 256 ^ i = 2 ^ (8 * i) := by rw [Nat.pow_mul]

theorem num_l0_law (n : Nat) (bs : List Nat) (hb : Bytes bs) (t2 : Int) (m : Nat) (hm : m ≤ bs.length) (hm8 : m ≤ 8) (k0 : Int → Int → Option A) : ∀ (d f i : Nat), i + d = m → d < f →
    num_l0 n (ints bs) t2 (m : Int) k0 f ((leN (bs.take i) : Nat) : Int) (i : Int) = k0 ((leN (bs.take m) : Nat) : Int) (m : Int)
  | _, 0, _, _, h => by omega
  | 0, f + 1, i, hi, _ => by
    have : i = m := by omega
    subst this
    simp only [num_l0, num_b0]
    have e : decide ((i : Int) < (i : Int)) = false := by simp
    rw [e, cond_false]
  | d + 1, f + 1, i, hi, hf => by
    have hlt : i < bs.length := by omega
    simp only [num_l0, num_b0]
    have e : decide ((i : Int) < (m : Int)) = true := by simp; omega
    have hy := hb _ (List.getElem_mem hlt)
    have hw : IntKind.wrap .i64 (8 * (i : Int)) = ((8 * i : Nat) : Int) := by rw [wrap_id (by omega) (by omega)]; omega
    have hw2 : IntKind.wrap .i64 ((i : Int) + 1) = ((i + 1 : Nat) : Int) := by rw [wrap_id (by omega) (by omega)]; omega
    rw [e, cond_true, if_pos (by omega), Int.toNat_natCast, ints_get, List.getElem?_eq_getElem hlt, Option.map_some, Option.bind_some, hw, if_neg (by omega), wrap_u64_nat _ (by omega), shl_u64 _ _ (by omega), hw2]
    have hp : 256 ^ (i + 1) ≤ 256 ^ 8 := Nat.pow_le_pow_right (by decide) (by omega)
    have h8 : 256 ^ 8 = 18446744073709551616 := by decide
    have hps : 256 ^ (i + 1) = 256 ^ i * 256 := Nat.pow_succ ..
    have hle := leN_lt (bs.take i) (hb.take i)
    rw [List.length_take, Nat.min_eq_left (by omega)] at hle
    have hyb : bs[i] * 256 ^ i + 256 ^ i ≤ 256 ^ i * 256 := by
      have := Nat.mul_le_mul_right (256 ^ i) (show bs[i] + 1 ≤ 256 by omega)
      rw [Nat.add_mul, Nat.one_mul] at this; rw [Nat.mul_comm (256 ^ i)]; exact this
    have hmod : bs[i] * 2 ^ (8 * i) % 18446744073709551616 = bs[i] * 256 ^ i := by rw [← p256, Nat.mod_eq_of_lt (by omega)]
    have hor : ior .u64 ((leN (bs.take i) : Nat) : Int) ((bs[i] * 2 ^ (8 * i) % 18446744073709551616 : Nat) : Int) = ((leN (bs.take (i + 1)) : Nat) : Int) := by
      rw [hmod, ior_u64 _ _ (by omega) (by omega), Nat.or_comm, p256, or_parts _ _ _ (by rw [← p256]; exact hle), List.take_succ, List.getElem?_eq_getElem hlt]
      simp only [Option.toList_some]
      rw [leN_snoc, List.length_take, Nat.min_eq_left (by omega), p256]; congr 1; omega
    rw [hor]
    exact num_l0_law n bs hb t2 m hm hm8 k0 d f (i + 1) (by omega) (by omega)

theorem num_law (n : Nat) (hn : 100 < n) (bs : List Nat) (hb : Bytes bs) (g : Int → Option A) : num_k n (ints bs) g = g ((leN (bs.take 8) : Nat) : Int) := by
  unfold num_k num_p
  have e : imin ((ints bs).length : Int) 8 = ((min bs.length 8 : Nat) : Int) := by rw [ints_length]; unfold imin; split <;> omega
  rw [e]
  have := num_l0_law n bs hb 0 (min bs.length 8) (by omega) (by omega) (fun y2 y3 => g y2) (min bs.length 8) n 0 (by omega) (by omega)
  refine Eq.trans this ?_
  congr 3
  by_cases h : bs.length ≤ 8
  · rw [Nat.min_eq_left h, List.take_of_length_le (Nat.le_refl _), List.take_of_length_le h]
  · rw [Nat.min_eq_right (by omega)]

theorem value_l0_law (n : Nat) (bs : List Nat) (hb : Bytes bs) (t2 : Int) (hl : bs.length < 100000) (k0 : Int → Int → Option A) : ∀ (i f : Nat), i ≤ bs.length → i < f →
    value_l0 n (ints bs) t2 k0 f ((leN ((bs.take 8).drop i) : Nat) : Int) ((i : Int) - 1) = k0 ((leN (bs.take 8) : Nat) : Int) (-1)
  | _, 0, _, h => by omega
  | 0, f + 1, _, _ => by
    simp only [value_l0, value_b0]
    have e : decide (((0 : Nat) : Int) - 1 ≥ 0) = false := by decide
    rw [e, cond_false]; rfl
  | i + 1, f + 1, hi, hf => by
    have hlt : i < bs.length := by omega
    have e0 : ((i + 1 : Nat) : Int) - 1 = (i : Int) := by omega
    simp only [value_l0, value_b0]
    rw [e0]
    have e : decide ((i : Int) ≥ 0) = true := by simp
    have hw2 : IntKind.wrap .i64 ((i : Int) - 1) = (i : Int) - 1 := wrap_id (by omega) (by omega)
    rw [e, cond_true, hw2]
    by_cases h8 : i < 8
    · have e1 : decide ((i : Int) < 8) = true := by simp; omega
      have hy := hb _ (List.getElem_mem hlt)
      have hd : (bs.take 8).drop i = bs[i] :: (bs.take 8).drop (i + 1) := by
        rw [List.drop_eq_getElem_cons (show i < (bs.take 8).length by simp; omega)]; simp
      have hbd : Bytes ((bs.take 8).drop i) := (hb.take 8).drop i
      have hlen : ((bs.take 8).drop i).length ≤ 8 := by simp; omega
      have hle := leN8_lt _ hbd hlen
      rw [hd] at hle
      simp only [leN] at hle
      rw [e1, cond_true, if_pos (by omega), Int.toNat_natCast, ints_get, List.getElem?_eq_getElem hlt, Option.map_some, Option.bind_some]
      have e2 : IntKind.wrap .u64 ((IntKind.wrap .u64 (((leN ((bs.take 8).drop (i + 1)) : Nat) : Int) * 256)) + (IntKind.wrap .u64 ((bs[i] : Nat) : Int))) = ((leN ((bs.take 8).drop i) : Nat) : Int) := by
        rw [hd]; simp only [leN]; rw [wrap_u64, wrap_u64, wrap_u64]; omega
      rw [e2]
      exact value_l0_law n bs hb t2 hl k0 i f (by omega) (by omega)
    · have e1 : decide ((i : Int) < 8) = false := by simp; omega
      rw [e1, cond_false]
      have hd : ∀ j, 8 ≤ j → (bs.take 8).drop j = [] := fun j hj => List.drop_eq_nil_of_le (by simp; omega)
      have := value_l0_law n bs hb t2 hl k0 i f (by omega) (by omega)
      rw [hd i (by omega)] at this
      rw [hd (i + 1) (by omega)]
      exact this

theorem value_law (n : Nat) (bs : List Nat) (hb : Bytes bs) (hl : bs.length < 100000) (hn : bs.length < n) (g : Int → Option A) : value_k n (ints bs) g = g ((leN (bs.take 8) : Nat) : Int) := by
  unfold value_k value_p
  have e : IntKind.wrap .i64 (((ints bs).length : Int) - 1) = (bs.length : Int) - 1 := by rw [ints_length]; exact wrap_id (by omega) (by omega)
  rw [e]
  have := value_l0_law n bs hb 0 hl (fun y2 y3 => g y2) bs.length n (Nat.le_refl _) hn
  rw [List.drop_eq_nil_of_le (by simp; omega)] at this
  exact this

-- ------------------------------------------------------------ pieces of eight

def chunk8 : Nat → List Nat → List Nat
  | 0, _ => []
  | f + 1, l => if l.length = 0 then [] else leN (l.take 8) :: chunk8 f (l.drop 8)

/-- A text's numbers: 'x': the last byte of the last one. -/
def nums : Nat → Nat → List Nat → List Nat
  | 0, _, _ => []
  | f + 1, x, l => if 8 ≤ l.length then leN (l.take 8) :: nums f x (l.drop 8) else [x * 72057594037927936 + leN l]

theorem nums_chunk : ∀ (f x z : Nat) (l : List Nat), z < 8 → (l.length + z) % 8 = 7 → l.length < 8 * f → chunk8 f (l ++ (List.replicate z 0 ++ [x])) = nums f x l
  | 0, _, _, _, _, _, h => by omega
  | f + 1, x, z, l, hz, hm, hl => by
    simp only [chunk8, nums]
    rw [if_neg (by simp)]
    by_cases h8 : 8 ≤ l.length
    · rw [if_pos h8, List.take_append_of_le_length h8, List.drop_append_of_le_length h8, nums_chunk f x z (l.drop 8) hz (by simp; omega) (by simp; omega)]
    · rw [if_neg h8]
      have hz' : z = 7 - l.length := by omega
      have hlen : (l ++ (List.replicate z 0 ++ [x])).length = 8 := by simp; omega
      rw [List.take_of_length_le (by omega), List.drop_eq_nil_of_le (by omega)]
      have e : chunk8 f [] = [] := by cases f <;> rfl
      rw [e, leN_append, leN_append, leN_zeros, List.length_replicate]
      simp only [leN, Nat.mul_zero, Nat.add_zero, Nat.zero_add]
      rw [← Nat.mul_assoc, ← Nat.pow_add, show l.length + z = 7 by omega]
      congr 1
      rw [show 256 ^ 7 = 72057594037927936 by decide]; omega

theorem numbers_l0_law (n : Nat) (b : List Int) (t2 out : List Int) (k0 : List Int → Option A) (l : List Nat) (hl : l.length < 100000) : ∀ (d f z : Nat), z + d < 8 → (l.length + (z + d)) % 8 = 7 → d < f →
    numbers_l0 (value_k n) n b t2 out k0 f (ints (l ++ List.replicate z 0)) = k0 (ints (l ++ List.replicate (z + d) 0))
  | _, 0, _, _, _, h => by omega
  | 0, f + 1, z, hz, hm, _ => by
    simp only [numbers_l0, numbers_b0]
    have e : ((Int.tmod ((ints (l ++ List.replicate z 0)).length : Int) 8) != 7) = false := by
      rw [ints_length, show (8 : Int) = ((8 : Nat) : Int) from rfl, tmod_nat]
      have : (l ++ List.replicate z 0).length % 8 = 7 := by simpa using hm
      rw [this]; rfl
    rw [e, cond_false]; rfl
  | d + 1, f + 1, z, hz, hm, hf => by
    simp only [numbers_l0, numbers_b0]
    have hlen : (l ++ List.replicate z 0).length = l.length + z := by simp
    have e : ((Int.tmod ((ints (l ++ List.replicate z 0)).length : Int) 8) != 7) = true := by
      rw [ints_length, show (8 : Int) = ((8 : Nat) : Int) from rfl, tmod_nat, hlen]
      have : (l.length + z) % 8 ≠ 7 := by omega
      simp; omega
    rw [e, cond_true, if_pos (by rw [ints_length, hlen]; omega)]
    have e2 : ints (l ++ List.replicate z 0) ++ [0] = ints (l ++ List.replicate (z + 1) 0) := by
      simp [ints, List.replicate_succ', List.append_assoc]
    rw [e2, numbers_l0_law n b t2 out k0 l hl d f (z + 1) (by omega) (by rw [← hm]; congr 2; omega) (by omega)]
    congr 4; omega

theorem numbers_l1_law (n : Nat) (hn : 100 < n) (t2 : List Int) (all : List Nat) (hb : Bytes all) (hl : all.length < 100000) (h8 : all.length % 8 = 0) (k0 : Int → List Int → Option A) : ∀ (d f i : Nat) (out : List Nat), i + 8 * d = all.length → d < f → out.length + d < 100000 →
    numbers_l1 (value_k n) n t2 (ints all) k0 f (i : Int) (ints out) = k0 (all.length : Int) (ints (out ++ chunk8 (d + 1) (all.drop i)))
  | _, 0, _, _, _, h, _ => by omega
  | 0, f + 1, i, out, hi, _, _ => by
    have : i = all.length := by omega
    subst this
    simp only [numbers_l1, numbers_b1]
    have e : decide ((all.length : Int) < ((ints all).length : Int)) = false := by rw [ints_length]; simp
    rw [e, cond_false]
    simp [chunk8]
  | d + 1, f + 1, i, out, hi, hf, ho => by
    simp only [numbers_l1, numbers_b1]
    have e : decide ((i : Int) < ((ints all).length : Int)) = true := by rw [ints_length]; simp; omega
    have hw : IntKind.wrap .i64 ((i : Int) + 8) = ((i + 8 : Nat) : Int) := by rw [wrap_id (by omega) (by omega)]; omega
    rw [e, cond_true, hw, if_pos (by omega), if_pos (by rw [ints_length]; omega), if_pos (by omega), if_pos (by omega), Int.toNat_natCast, Int.toNat_natCast, ints_drop, ints_take]
    have hlen : ((all.drop i).take (i + 8 - i)).length = 8 := by simp; omega
    rw [value_law n _ ((hb.drop i).take _) (by omega) (by omega), if_pos (by rw [ints_length]; omega)]
    have e3 : (List.take 8 (List.take (i + 8 - i) (List.drop i all))) = (all.drop i).take 8 := by rw [List.take_take]; congr 1; omega
    have e2 : ints out ++ [((leN (List.take 8 (List.take (i + 8 - i) (List.drop i all))) : Nat) : Int)] = ints (out ++ [leN ((all.drop i).take 8)]) := by rw [e3]; simp [ints]
    rw [e2, numbers_l1_law n hn t2 all hb hl h8 k0 d f (i + 8) _ (by omega) (by omega) (by simp; omega)]
    congr 2
    rw [List.append_assoc]
    congr 1
    conv => rhs; rw [chunk8]
    rw [if_neg (by simp; omega), List.drop_drop]; rfl

theorem numbers_law (n : Nat) (hn : 100 < n) (l : List Nat) (hb : Bytes l) (hl : l.length < 800) (g : List Int → Option A) : numbers_k n (ints l) g = g (ints (nums (l.length / 8 + 1) (l.length % 256) l)) := by
  unfold numbers_k numbers_p
  rw [if_pos (by rw [ints_length]; omega), List.nil_append]
  obtain ⟨z, hz, hm⟩ : ∃ z, z < 8 ∧ (l.length + z) % 8 = 7 := ⟨(15 - l.length % 8) % 8, by omega, by omega⟩
  have h0 := numbers_l0_law n (ints l) [] [] (fun y1 => if (y1.length + 1) * 1 ≤ 140737488355328 then numbers_l1 (value_k n) n [] (y1 ++ [(IntKind.wrap .u8 (Int.tmod ((ints l).length : Int) 256))]) (fun y3 y4 => g y4) n 0 [] else none) l (by omega) z n 0 (by omega) (by rw [Nat.zero_add]; exact hm) (by omega)
  rw [List.replicate_zero, List.append_nil, Nat.zero_add] at h0
  refine Eq.trans h0 ?_
  rw [if_pos (by rw [ints_length]; simp; omega)]
  have e1 : IntKind.wrap .u8 (Int.tmod ((ints l).length : Int) 256) = ((l.length % 256 : Nat) : Int) := by
    rw [ints_length, show (256 : Int) = ((256 : Nat) : Int) from rfl, tmod_nat, wrap_u8]; omega
  have e2 : ints (l ++ List.replicate z 0) ++ [((l.length % 256 : Nat) : Int)] = ints (l ++ (List.replicate z 0 ++ [l.length % 256])) := by simp [ints, List.append_assoc]
  rw [e1, e2]
  have hba : Bytes (l ++ (List.replicate z 0 ++ [l.length % 256])) := fun x hx => by
    simp only [List.mem_append, List.mem_replicate, List.mem_singleton] at hx
    rcases hx with hx | ⟨_, rfl⟩ | rfl
    · exact hb x hx
    · omega
    · omega
  have hlen : (l ++ (List.replicate z 0 ++ [l.length % 256])).length = l.length + z + 1 := by simp; omega
  have h1 := numbers_l1_law n hn [] (l ++ (List.replicate z 0 ++ [l.length % 256])) hba (by omega) (by omega) (fun y3 y4 => g y4) (l.length / 8 + 1) n 0 [] (by omega) (by omega) (by simp; omega)
  refine Eq.trans h1 ?_
  rw [List.drop_zero, List.nil_append, nums_chunk (l.length / 8 + 1 + 1) (l.length % 256) z l hz hm (by omega)]
  have : ∀ (f : Nat) (x : Nat) (l : List Nat), l.length < 8 * f → nums (f + 1) x l = nums f x l := by
    intro f
    induction f with
    | zero => intro x l h; omega
    | succ f ih =>
      intro x l h
      rw [nums]
      conv => rhs; rw [nums]
      split
      · rw [ih x (l.drop 8) (by simp; omega)]
      · rfl
  rw [this _ _ _ (by omega)]

-- ------------------------------------------------------------ a number taken in

theorem take_gen (G : List Int → (List Int → Option A) → Option A) (n : Nat) (a b c d m p q r s : Int) (w1 : List Int) (h1 : ∀ g, G [a, b, c, ixor .u64 d m] g = g w1) (h2 : ∀ g, G w1 g = g [p, q, r, s]) (g : List Int → Option A) :
    take_p G n [a, b, c, d] m g = g [ixor .u64 p m, q, r, s] := by
  unfold take_p
  simp only [List.getElem?_cons_zero, List.getElem?_cons_succ, Option.bind_some, List.set_cons_succ, List.set_cons_zero]
  rw [h1, h2]
  simp only [List.getElem?_cons_zero, Option.bind_some, List.set_cons_zero]

/-- A number taken in, by the document's sum. -/
def rtake (G : List Int → (List Int → Option A) → Option A) (v : List Int) (m : Int) (g : List Int → Option A) : Option A :=
  (v[3]?).bind fun y3 => G (v.set 3 (ixor .u64 y3 m)) fun r4 => G r4 fun r5 => (r5[0]?).bind fun y6 => g (r5.set 0 (ixor .u64 y6 m))

theorem rtake_gen (G : List Int → (List Int → Option A) → Option A) (a b c d m p q r s : Int) (w1 : List Int) (h1 : ∀ g, G [a, b, c, ixor .u64 d m] g = g w1) (h2 : ∀ g, G w1 g = g [p, q, r, s]) (g : List Int → Option A) :
    rtake G [a, b, c, d] m g = g [ixor .u64 p m, q, r, s] := by
  unfold rtake
  simp only [List.getElem?_cons_zero, List.getElem?_cons_succ, Option.bind_some, List.set_cons_succ, List.set_cons_zero]
  rw [h1, h2]
  simp only [List.getElem?_cons_zero, Option.bind_some, List.set_cons_zero]

/-- One step of both sums. -/
theorem step_both (n : Nat) (hn : 100 < n) (v : List Int) (hv : OK4 v) (m : Int) (hm : U64 m) : ∃ w, OK4 w ∧ ∀ (A : Type) (g : List Int → Option A), take_k n v m g = g w ∧ rtake (rround_k n) v m g = g w := by
  obtain ⟨a, b, c, d, rfl, ha, hb, hc, hd⟩ := hv.four
  have h0 : OK4 [(a : Int), (b : Int), (c : Int), ixor .u64 (d : Int) m] := ⟨rfl, fun x hx => by
    simp only [List.mem_cons, List.not_mem_nil, or_false] at hx
    rcases hx with rfl | rfl | rfl | rfl
    · exact .of_nat ha
    · exact .of_nat hb
    · exact .of_nat hc
    · exact .xor (.of_nat hd) hm⟩
  obtain ⟨w1, o1, g1⟩ := rround_value n hn _ h0
  obtain ⟨w2, o2, g2⟩ := rround_value n hn w1 o1
  obtain ⟨p, q, r, s, rfl, hp, hq, hr, hs⟩ := o2.four
  exact ⟨[ixor .u64 (p : Int) m, (q : Int), (r : Int), (s : Int)], ⟨rfl, fun x hx => by
    simp only [List.mem_cons, List.not_mem_nil, or_false] at hx
    rcases hx with rfl | rfl | rfl | rfl
    · exact .xor (.of_nat hp) hm
    · exact .of_nat hq
    · exact .of_nat hr
    · exact .of_nat hs⟩, fun A g => ⟨take_gen (round_k n) n _ _ _ _ m _ _ _ _ w1 (fun g => (g1 A g).2) (fun g => (g2 A g).2) g, rtake_gen (rround_k n) _ _ _ _ m _ _ _ _ w1 (fun g => (g1 A g).1) (fun g => (g2 A g).1) g⟩⟩

def rfold (G : List Int → (List Int → Option A) → Option A) : List Nat → List Int → (List Int → Option A) → Option A
  | [], v, g => g v
  | m :: ms, v, g => rtake G v (m : Int) fun w => rfold G ms w g

theorem rhash_l0_law (N : List Int → (List Int → Option A) → Option A) (G : List Int → (List Int → Option A) → Option A) (n : Nat) (t6 : Int) (ms : List Nat) (hl : ms.length < 100000) (k0 : Int → List Int → Option A) : ∀ (d f i : Nat) (v : List Int), i + d = ms.length → d < f →
    rhash_l0 N G n t6 (ms.length : Int) (ints ms) k0 f (i : Int) v = rfold G (ms.drop i) v fun w => k0 (ms.length : Int) w
  | _, 0, _, _, _, h => by omega
  | 0, f + 1, i, v, hi, _ => by
    have : i = ms.length := by omega
    subst this
    simp only [rhash_l0, rhash_b0]
    have e : decide ((ms.length : Int) < (ms.length : Int)) = false := by simp
    rw [e, cond_false, List.drop_length]; rfl
  | d + 1, f + 1, i, v, hi, hf => by
    have hlt : i < ms.length := by omega
    have ih := fun v => rhash_l0_law N G n t6 ms hl k0 d f (i + 1) v (by omega) (by omega)
    simp only [rhash_l0, rhash_b0]
    have e : decide ((i : Int) < (ms.length : Int)) = true := by simp; omega
    have hw : IntKind.wrap .i64 ((i : Int) + 1) = ((i + 1 : Nat) : Int) := by rw [wrap_id (by omega) (by omega)]; omega
    rw [e, cond_true, if_pos (by omega), if_pos (by rw [ints_length]; omega), Int.toNat_natCast, ints_get, List.getElem?_eq_getElem hlt, Option.map_some, Option.bind_some, hw, List.drop_eq_getElem_cons hlt]
    simp only [rfold, rtake, ih]

theorem nums_u64 : ∀ (f x : Nat) (l : List Nat), Bytes l → x < 256 → ∀ m ∈ nums f x l, m < 18446744073709551616
  | 0, _, _, _, _, m, h => by simp [nums] at h
  | f + 1, x, l, hb, hx, m, h => by
    simp only [nums] at h
    split at h
    · rcases List.mem_cons.1 h with rfl | h
      · exact leN8_lt _ (hb.take 8) (by simp; omega)
      · exact nums_u64 f x _ (hb.drop 8) hx m h
    · simp only [List.mem_singleton] at h
      subst h
      have h1 := leN_lt l hb
      have h2 : 256 ^ l.length ≤ 256 ^ 7 := Nat.pow_le_pow_right (by decide) (by omega)
      have h3 : 256 ^ 7 = 72057594037927936 := by decide
      omega

/-- Both sums, up to their last rounds. -/
theorem hash_joint (n : Nat) (hn : 100 < n) (t4 : Int) (x : Nat) (hx : x < 256) : ∀ (f : Nat) (l : List Nat) (v : List Int), Bytes l → l.length < 8 * f → OK4 v → ∃ w, OK4 w ∧ ∀ (A : Type) (g : List Int → Option A),
    hash_l0 (num_k n) (take_k n) (round_k n) n t4 ((x * 72057594037927936 : Nat) : Int) (fun y7 y8 => num_k n y7 fun r9 => take_k n y8 (ior .u64 ((x * 72057594037927936 : Nat) : Int) r9) g) f (ints l) v = g w ∧ rfold (rround_k n) (nums f x l) v g = g w
  | 0, _, _, _, h, _ => by omega
  | f + 1, l, v, hb, hl, hv => by
    by_cases h8 : 8 ≤ l.length
    · have hm : U64 ((leN (l.take 8) : Nat) : Int) := U64.of_nat (leN8_lt _ (hb.take 8) (by simp; omega))
      obtain ⟨w1, o1, g1⟩ := step_both n hn v hv _ hm
      obtain ⟨w, o, g2⟩ := hash_joint n hn t4 x hx f (l.drop 8) w1 (hb.drop 8) (by simp; omega) o1
      refine ⟨w, o, fun A g => ⟨?_, ?_⟩⟩
      · simp only [hash_l0, hash_b0]
        have e : decide (((ints l).length : Int) ≥ 8) = true := by rw [ints_length]; simp; omega
        rw [e, cond_true, num_law n hn l hb, (g1 A _).1, if_pos (by rw [ints_length]; omega)]
        have e2 : ((ints l).drop 8).take ((ints l).length - 8) = ints (l.drop 8) := by rw [ints_drop, ints_length, ints_take, List.take_of_length_le (by simp)]
        rw [e2]
        exact (g2 A g).1
      · simp only [nums]
        rw [if_pos h8]
        simp only [rfold]
        exact (g1 A fun w => rfold (rround_k n) (nums f x (l.drop 8)) w g).2.trans (g2 A g).2
    · have h1 := leN_lt l hb
      have h2 : 256 ^ l.length ≤ 256 ^ 7 := Nat.pow_le_pow_right (by decide) (by omega)
      have h3 : 256 ^ 7 = 72057594037927936 := by decide
      have hm : U64 ((x * 72057594037927936 + leN l : Nat) : Int) := U64.of_nat (by omega)
      obtain ⟨w1, o1, g1⟩ := step_both n hn v hv _ hm
      refine ⟨w1, o1, fun A g => ⟨?_, ?_⟩⟩
      · simp only [hash_l0, hash_b0]
        have e : decide (((ints l).length : Int) ≥ 8) = false := by rw [ints_length]; simp; omega
        rw [e, cond_false, num_law n hn l hb, List.take_of_length_le (show l.length ≤ 8 by omega), ior_u64 _ _ (by omega) (by omega)]
        have e2 : x * 72057594037927936 ||| leN l = x * 72057594037927936 + leN l := or_parts x (leN l) 56 (by rw [show (2 : Nat) ^ 56 = 72057594037927936 by decide]; omega)
        rw [e2]
        exact (g1 A g).1
      · simp only [nums]
        rw [if_neg h8]
        simp only [rfold]
        exact (g1 A g).2

theorem hash_l1_law (n : Nat) (hn : 100 < n) (t4 : Int) : ∀ (d f i : Nat) (v : List Int), i + d = 4 → d < f → OK4 v → ∃ w, OK4 w ∧ ∀ (A : Type) (k0 : Int → List Int → Option A),
    hash_l1 (num_k n) (take_k n) (round_k n) n t4 k0 f (i : Int) v = k0 4 w ∧ rhash_l1 (numbers_k n) (rround_k n) n t4 k0 f (i : Int) v = k0 4 w
  | _, 0, _, _, _, h, _ => by omega
  | 0, f + 1, i, v, hi, _, hv => by
    have : i = 4 := by omega
    subst this
    exact ⟨v, hv, fun A k0 => ⟨by simp only [hash_l1, hash_b1]; rfl, by simp only [rhash_l1, rhash_b1]; rfl⟩⟩
  | d + 1, f + 1, i, v, hi, hf, hv => by
    have e : decide ((i : Int) < 4) = true := by simp; omega
    have hw : IntKind.wrap .i64 ((i : Int) + 1) = ((i + 1 : Nat) : Int) := by rw [wrap_id (by omega) (by omega)]; omega
    obtain ⟨w1, o1, g1⟩ := rround_value n hn v hv
    obtain ⟨w, o, g2⟩ := hash_l1_law n hn t4 d f (i + 1) w1 (by omega) (by omega) o1
    refine ⟨w, o, fun A k0 => ⟨?_, ?_⟩⟩
    · simp only [hash_l1, hash_b1]
      rw [e, cond_true, (g1 A _).2, hw]
      exact (g2 A k0).1
    · simp only [rhash_l1, rhash_b1]
      rw [e, cond_true, (g1 A _).1, hw]
      exact (g2 A k0).2

/-- THE KEYED SUM, by both. -/
theorem hash_law (n : Nat) (hn : 100 < n) (p q : Nat) (hp : p < 18446744073709551616) (hq : q < 18446744073709551616) (l : List Nat) (hb : Bytes l) (hl : l.length < 700) (hnl : l.length < 8 * (n - 1)) (hnl2 : l.length / 8 + 1 < n) : ∃ h : Int, ∀ (A : Type) (g : Int → Option A),
    hash_k n [(p : Int), (q : Int)] (ints l) g = g h ∧ rhash_k n (p : Int) (q : Int) (ints l) g = g h := by
  have hv : OK4 [(ixor .u64 (p : Int) 8317987319222330741), (ixor .u64 (q : Int) 7237128888997146477), (ixor .u64 (p : Int) 7816392313619706465), (ixor .u64 (q : Int) 8387220255154660723)] := ⟨rfl, fun x hx => by
    simp only [List.mem_cons, List.not_mem_nil, or_false] at hx
    rcases hx with rfl | rfl | rfl | rfl <;> first | exact .xor (.of_nat hp) ⟨by decide, by decide⟩ | exact .xor (.of_nat hq) ⟨by decide, by decide⟩⟩
  obtain ⟨w, o, g1⟩ := hash_joint n hn 0 (l.length % 256) (by omega) n l _ hb (by omega) hv
  obtain ⟨a, b, c, d, rfl, ha, hb', hc, hd⟩ := o.four
  have o2 : OK4 [(a : Int), (b : Int), ixor .u64 (c : Int) 255, (d : Int)] := ⟨rfl, fun x hx => by
    simp only [List.mem_cons, List.not_mem_nil, or_false] at hx
    rcases hx with rfl | rfl | rfl | rfl
    · exact .of_nat ha
    · exact .of_nat hb'
    · exact .xor (.of_nat hc) ⟨by decide, by decide⟩
    · exact .of_nat hd⟩
  obtain ⟨w2, o3, g2⟩ := hash_l1_law n hn 0 4 n 0 _ rfl (by omega) o2
  obtain ⟨e1, e2, e3, e4, rfl, _⟩ := o3.four
  have nf : ∀ (f : Nat) (x : Nat) (l : List Nat) (d : Nat), l.length < 8 * f → nums (f + d) x l = nums f x l := by
    intro f
    induction f with
    | zero => intro x l d h; omega
    | succ f ih =>
      intro x l d h
      rw [show f + 1 + d = (f + d) + 1 by omega, nums]
      conv => rhs; rw [nums]
      split
      · rw [ih x (l.drop 8) d (by simp; omega)]
      · rfl
  refine ⟨ixor .u64 (ixor .u64 (ixor .u64 (e1 : Int) (e2 : Int)) (e3 : Int)) (e4 : Int), fun A g => ⟨?_, ?_⟩⟩
  · unfold hash_k hash_p
    simp only [List.getElem?_cons_zero, List.getElem?_cons_succ, Option.bind_some]
    have e : shl .u64 (IntKind.wrap .u64 (IntKind.wrap .u8 ((ints l).length : Int))) 56 = ((l.length % 256 * 72057594037927936 : Nat) : Int) := by
      have e1 : IntKind.wrap .u64 (IntKind.wrap .u8 ((ints l).length : Int)) = ((l.length % 256 : Nat) : Int) := by rw [ints_length, wrap_u8, wrap_u64]; omega
      rw [e1, show (56 : Int) = ((56 : Nat) : Int) from rfl, shl_u64 _ 56 (by decide)]
      congr 1
      rw [show (2 : Nat) ^ 56 = 72057594037927936 by decide]; omega
    rw [e]
    refine ((g1 A _).1).trans ?_
    simp only [List.getElem?_cons_zero, List.getElem?_cons_succ, Option.bind_some, List.set_cons_succ, List.set_cons_zero]
    refine ((g2 A _).1).trans ?_
    rfl
  · unfold rhash_k rhash_p
    rw [numbers_law n hn l hb (by omega)]
    have hnl3 : (nums (l.length / 8 + 1) (l.length % 256) l).length ≤ l.length / 8 + 1 := by
      have : ∀ (f x : Nat) (l : List Nat), (nums f x l).length ≤ f := by
        intro f
        induction f with
        | zero => intro x l; simp [nums]
        | succ f ih => intro x l; rw [nums]; split <;> simp; exact ih x _
      exact this _ _ _
    have h0 := rhash_l0_law (numbers_k n) (rround_k n) n 0 (nums (l.length / 8 + 1) (l.length % 256) l) (by omega) (fun y7 y8 => (y8[2]?).bind fun y9 => rhash_l1 (numbers_k n) (rround_k n) n 0 (fun y11 y12 =>
      (y12[0]?).bind fun y13 => (y12[1]?).bind fun y14 => (y12[2]?).bind fun y15 => (y12[3]?).bind fun y16 => g (ixor .u64 (ixor .u64 (ixor .u64 y13 y14) y15) y16)) n 0 (y8.set 2 (ixor .u64 y9 255))) _ n 0 [(ixor .u64 (p : Int) 8317987319222330741), (ixor .u64 (q : Int) 7237128888997146477), (ixor .u64 (p : Int) 7816392313619706465), (ixor .u64 (q : Int) 8387220255154660723)] (Nat.zero_add _) (by omega)
    rw [ints_length]
    refine Eq.trans h0 ?_
    have hn8 : nums n (l.length % 256) l = nums (l.length / 8 + 1) (l.length % 256) l := by
      have := nf (l.length / 8 + 1) (l.length % 256) l (n - (l.length / 8 + 1)) (by omega)
      rw [← this]; congr 1; omega
    rw [List.drop_zero, ← hn8]
    refine ((g1 A _).2).trans ?_
    simp only [List.getElem?_cons_zero, List.getElem?_cons_succ, Option.bind_some, List.set_cons_succ, List.set_cons_zero]
    refine ((g2 A _).2).trans ?_
    rfl

end Go.Ev
