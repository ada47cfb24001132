import Derived.Test.YtpblkfccnaapbaaDoorB5
set_option linter.all false
section
/-
  BYTES AND WORDS: plain laws of num, little.
-/
set_option linter.all false
namespace Go.Ev
variable {A : Type}

/-- The number that bytes tell, the lowest first. -/
def byv : List Nat → Nat
  | [] => 0
  | x :: r => x + 256 * byv r
def By (l : List Nat) : Prop := ∀ x ∈ l, x < 256

theorem byv_snoc : ∀ (l : List Nat) (y : Nat), byv (l ++ [y]) = byv l + 2 ^ (8 * l.length) * y
  | [], y => by simp [byv]
  | x :: r, y => by
    rw [List.cons_append, byv, byv_snoc r y, byv, List.length_cons, show 8 * (r.length + 1) = 8 + 8 * r.length from by omega, Nat.pow_add, Nat.mul_add, show (2 : Nat) ^ 8 = 256 from rfl, Nat.mul_assoc, Nat.add_assoc]
theorem byv_lt : ∀ (l : List Nat), By l → byv l < 2 ^ (8 * l.length)
  | [], _ => by simp [byv]
  | x :: r, h => by
    have h1 := byv_lt r fun y hy => h y (by simp [hy])
    have h2 := h x (by simp)
    rw [byv, List.length_cons, show 8 * (r.length + 1) = 8 + 8 * r.length from by omega, Nat.pow_add, show (2 : Nat) ^ 8 = 256 from rfl]
    generalize 2 ^ (8 * r.length) = p at *
    omega
theorem byv_take {l : List Nat} {i : Nat} (h : i < l.length) : byv (l.take (i + 1)) = byv (l.take i) + 2 ^ (8 * i) * l[i] := by
  rw [List.take_succ_eq_append_getElem h, byv_snoc, List.length_take, Nat.min_eq_left (by omega)]

theorem num_l0_law (n : Nat) (b : List Nat) (hb : By b) (hl : b.length = 8) (k0 : Int → Option A) : ∀ (d f i : Nat), i + d = 8 → d < f →
    num_l0 n (ints b) 8 k0 f ((byv (b.take i) : Nat) : Int) (i : Int) = k0 ((byv b : Nat) : Int) := by
  intro d
  induction d with
  | zero =>
    intro f i hi hf
    obtain ⟨f, rfl⟩ : ∃ g, f = g + 1 := ⟨f - 1, by omega⟩
    rw [num_l0, num_b0, decide_eq_false (by omega), cond_false, List.take_of_length_le (by omega)]
  | succ d ih =>
    intro f i hi hf
    obtain ⟨f, rfl⟩ : ∃ g, f = g + 1 := ⟨f - 1, by omega⟩
    have hlt : i < b.length := by omega
    have hx := hb _ (List.getElem_mem hlt)
    have e1 : IntKind.wrap .i64 (8 * (i : Int)) = ((8 * i : Nat) : Int) := by rw [wrap_id (by omega) (by omega)]; omega
    have e2 : IntKind.wrap .i64 ((i : Int) + 1) = ((i + 1 : Nat) : Int) := by rw [wrap_id (by omega) (by omega)]; omega
    have hlow := byv_lt (b.take i) fun x hx => hb x (List.mem_of_mem_take hx)
    rw [List.length_take, Nat.min_eq_left (by omega)] at hlow
    have hp : 2 ^ (8 * i) ≤ 2 ^ 56 := Nat.pow_le_pow_right (by decide) (by omega)
    have hm : b[i] * 2 ^ (8 * i) < 18446744073709551616 := by
      calc b[i] * 2 ^ (8 * i) ≤ 255 * 2 ^ 56 := Nat.mul_le_mul (by omega) hp
        _ < 18446744073709551616 := by decide
    have h56 : (2 : Nat) ^ 56 < 18446744073709551616 := by decide
    have e3 : ior .u64 ((byv (b.take i) : Nat) : Int) (shl .u64 (IntKind.wrap .u64 ((b[i] : Nat) : Int)) ((8 * i : Nat) : Int)) = ((byv (b.take (i + 1)) : Nat) : Int) := by
      rw [wrap_u64_nat _ (by omega), shl_u64 _ (8 * i) (by omega), Nat.mod_eq_of_lt hm, ior_u64 _ _ (by omega) hm, Nat.or_comm, or_parts _ _ _ hlow, byv_take hlt, Nat.mul_comm, Nat.add_comm]
    rw [num_l0, num_b0, decide_eq_true (by omega), cond_true, if_pos (by omega), Int.toNat_natCast, ints_at b i hlt, Option.bind_some, e1, if_neg (by omega), e2, e3]
    exact ih f (i + 1) (by omega) (by omega)

theorem num_law (n : Nat) (hn : 10 < n) (b : List Nat) (hb : By b) (hl : b.length = 8) (g : Int → Option A) : num_k n (ints b) g = g ((byv b : Nat) : Int) := by
  unfold num_k num_p
  rw [ints_length, hl, show imin ((8 : Nat) : Int) 8 = 8 from rfl]
  exact num_l0_law n b hb hl (fun y2 => g y2) 8 n 0 (by omega) (by omega)

/-- The bytes of a number, the lowest first. -/
def lb : Nat → Nat → List Nat
  | 0, _ => []
  | m + 1, x => x % 256 :: lb m (x / 256)
theorem lb_length : ∀ (m x : Nat), (lb m x).length = m
  | 0, _ => rfl
  | m + 1, x => by rw [lb, List.length_cons, lb_length m]
theorem lb_at : ∀ (m x i : Nat), i < m → (lb m x)[i]? = some (x / 2 ^ (8 * i) % 256)
  | m + 1, x, 0, _ => by rw [lb, List.getElem?_cons_zero, Nat.mul_zero, Nat.pow_zero, Nat.div_one]
  | m + 1, x, i + 1, h => by
    rw [lb, List.getElem?_cons_succ, lb_at m (x / 256) i (by omega), Nat.div_div_eq_div_mul, show 256 = 2 ^ 8 from rfl, ← Nat.pow_add, show 8 + 8 * i = 8 * (i + 1) from by omega]
theorem lb_byv : ∀ (l : List Nat), By l → lb l.length (byv l) = l
  | [], _ => rfl
  | x :: r, h => by
    have h2 := h x (by simp)
    rw [List.length_cons, lb, byv, show (x + 256 * byv r) % 256 = x from by omega, show (x + 256 * byv r) / 256 = byv r from by omega, lb_byv r fun y hy => h y (by simp [hy])]

theorem little_l0_law (n x : Nat) (k0 : List Int → Option A) : ∀ (d f i : Nat) (o : List Nat), i + d = 8 → d < f → o.length = 8 → (∀ j, j < i → o[j]? = some (x / 2 ^ (8 * j) % 256)) →
    little_l0 n (x : Int) 8 k0 f (i : Int) (ints o) = k0 (ints (lb 8 x)) := by
  intro d
  induction d with
  | zero =>
    intro f i o hi hf ho h
    obtain ⟨f, rfl⟩ : ∃ g, f = g + 1 := ⟨f - 1, by omega⟩
    have e : o = lb 8 x := by
      apply List.ext_getElem?
      intro j
      by_cases hj : j < 8
      · rw [h j (by omega), lb_at 8 x j hj]
      · rw [List.getElem?_eq_none (by omega), List.getElem?_eq_none (by rw [lb_length]; omega)]
    rw [little_l0, little_b0, decide_eq_false (by omega), cond_false, e]
  | succ d ih =>
    intro f i o hi hf ho h
    obtain ⟨f, rfl⟩ : ∃ g, f = g + 1 := ⟨f - 1, by omega⟩
    have e1 : IntKind.wrap .i64 (8 * (i : Int)) = ((8 * i : Nat) : Int) := by rw [wrap_id (by omega) (by omega)]; omega
    have e2 : IntKind.wrap .i64 ((i : Int) + 1) = ((i + 1 : Nat) : Int) := by rw [wrap_id (by omega) (by omega)]; omega
    have e3 : IntKind.wrap .u8 (shr .u64 (x : Int) ((8 * i : Nat) : Int)) = ((x / 2 ^ (8 * i) % 256 : Nat) : Int) := by
      rw [shr_u64 x (8 * i) (by omega), wrap_u8]; omega
    rw [little_l0, little_b0, decide_eq_true (by omega), cond_true, e1, if_neg (by omega), if_pos (by omega), ints_length, if_pos (by omega), Int.toNat_natCast, if_pos (by omega), e2, e3, ints_set]
    refine ih f (i + 1) _ (by omega) (by omega) (by rw [List.length_set]; exact ho) fun j hj => ?_
    by_cases hji : i = j
    · subst hji; rw [List.getElem?_set_self (by omega)]
    · rw [List.getElem?_set_ne hji]; exact h j (by omega)

theorem little_law (n : Nat) (hn : 10 < n) (x : Nat) (g : List Int → Option A) : little_k n (x : Int) 8 g = g (ints (lb 8 x)) := by
  unfold little_k little_p
  rw [show imin (imax (8 : Int) 0) 8 = 8 from rfl, if_pos (by decide), if_pos (by decide), if_pos (by decide)]
  exact little_l0_law n x (fun y1 => g y1) 8 n 0 [0, 0, 0, 0, 0, 0, 0, 0] (by omega) (by omega) rfl fun j hj => by omega

end Go.Ev
end

section
/-
  FUNCTION 39: printed by a program of our own (wip/gen/st.py). 'masthead/wide.Of', in continuation form; the evaluator gives it.
-/
set_option linter.all false
set_option maxRecDepth 100000
namespace Go.Ev
open Go.Proofs
variable {A : Type}

-- ============================================================ uof (function 39)
def uof_p (n : Nat) (a0 : Int) (k : (List Int) → Option A) : Option A :=
  k [a0, 0, 0, 0]

def uof_k (n : Nat) (a0 : Int) (k : (List Int) → Option A) : Option A := uof_p n a0 k

noncomputable def uof_E (n : Nat) : Env A := ⟨tys, gls, [], [], []⟩
theorem uof_T {A : Type} (n : Nat) : TyOK Tryd.prog (uof_E (A := A) n) := tyOK_of rfl tysB
theorem uof_fns (n : Nat) : FnsOK Tryd.prog (uof_E (A := A) n) := AllOK.env rfl rfl AllOK.nil
theorem uof_eqg (n : Nat) (a0 : Int) (k : AV → List Blk → Option A) : fnK (uof_E n) Tryd.f39 [.pure] [.p (.int .u64) a0] [] k = uof_p n a0 (fun r0 => k (.p kA4u64 r0) []) := by kernel_rfl
theorem uof_eq (n : Nat) (a0 : Int) (k : AV → List Blk → Option A) : fnK (uof_E n) Tryd.f39 [.pure] [.p (.int .u64) a0] [] k = uof_k n a0 (fun r0 => k (.p kA4u64 r0) []) := uof_eqg n a0 k
def uof_ent (g : Int → ((List Int) → Option A) → Option A) : Entry A := pureE fun args k => args1 args (.int .u64) fun a0 => g a0 (fun r0 => k (.p kA4u64 r0) [])
theorem uof_lo (n : Nat) : ∀ c, Tryd.f39.body = some c → ∀ q ∈ loopsOf 0 c, ∀ L, (uof_E (A := A) n).lps.lookup q.1 = some L → LoopOK Tryd.prog gls q.2 L :=
  lo_body (E := uof_E n) (by kernel_rfl : Tryd.f39.body = some (bodyOf Tryd.f39)) (lo_of (E := uof_E n) (by kernel_rfl : loopsOf 0 (bodyOf Tryd.f39) = []) lo_nil)
theorem uof_ok (n : Nat) : FnOK Tryd.prog gls 39 (uof_ent (A := A) (uof_k n)) :=
  FnOK.of (uof_T n) (uof_fns n) follows ⟨Tryd.func39, by kernel_rfl⟩ (uof_lo n) (rm := [.pure]) fun args k out h => by
    obtain ⟨a0, e, h1⟩ := args1_sound h
    subst e; rw [uof_eq]; exact h1

end Go.Ev
end

section
/-
  FUNCTION 49: printed by a program of our own (wip/gen/st.py). 'math/bits.Len64', in continuation form; the evaluator gives it.
-/
set_option linter.all false
set_option maxRecDepth 100000
namespace Go.Ev
open Go.Proofs
variable {A : Type}

-- ============================================================ len64 (function 49)
def len64_p (n : Nat) (a0 : Int) (k : Int → Option A) : Option A :=
  bif (decide (a0 ≥ 4294967296)) then
    bif (decide ((shr .u64 a0 32) ≥ 65536)) then
      bif (decide ((shr .u64 (shr .u64 a0 32) 16) ≥ 256)) then
        if 0 ≤ (IntKind.wrap .u8 (shr .u64 (shr .u64 (shr .u64 a0 32) 16) 8)) then
          ((strBytes str0)[(Int.toNat (IntKind.wrap .u8 (shr .u64 (shr .u64 (shr .u64 a0 32) 16) 8)))]?).bind fun y1 =>
          k (IntKind.wrap .i64 (56 + (IntKind.wrap .i64 y1)))
        else none
      else
        if 0 ≤ (IntKind.wrap .u8 (shr .u64 (shr .u64 a0 32) 16)) then
          ((strBytes str0)[(Int.toNat (IntKind.wrap .u8 (shr .u64 (shr .u64 a0 32) 16)))]?).bind fun y2 =>
          k (IntKind.wrap .i64 (48 + (IntKind.wrap .i64 y2)))
        else none
    else
      bif (decide ((shr .u64 a0 32) ≥ 256)) then
        if 0 ≤ (IntKind.wrap .u8 (shr .u64 (shr .u64 a0 32) 8)) then
          ((strBytes str0)[(Int.toNat (IntKind.wrap .u8 (shr .u64 (shr .u64 a0 32) 8)))]?).bind fun y3 =>
          k (IntKind.wrap .i64 (40 + (IntKind.wrap .i64 y3)))
        else none
      else
        if 0 ≤ (IntKind.wrap .u8 (shr .u64 a0 32)) then
          ((strBytes str0)[(Int.toNat (IntKind.wrap .u8 (shr .u64 a0 32)))]?).bind fun y4 =>
          k (IntKind.wrap .i64 (32 + (IntKind.wrap .i64 y4)))
        else none
  else
    bif (decide (a0 ≥ 65536)) then
      bif (decide ((shr .u64 a0 16) ≥ 256)) then
        if 0 ≤ (IntKind.wrap .u8 (shr .u64 (shr .u64 a0 16) 8)) then
          ((strBytes str0)[(Int.toNat (IntKind.wrap .u8 (shr .u64 (shr .u64 a0 16) 8)))]?).bind fun y5 =>
          k (IntKind.wrap .i64 (24 + (IntKind.wrap .i64 y5)))
        else none
      else
        if 0 ≤ (IntKind.wrap .u8 (shr .u64 a0 16)) then
          ((strBytes str0)[(Int.toNat (IntKind.wrap .u8 (shr .u64 a0 16)))]?).bind fun y6 =>
          k (IntKind.wrap .i64 (16 + (IntKind.wrap .i64 y6)))
        else none
    else
      bif (decide (a0 ≥ 256)) then
        if 0 ≤ (IntKind.wrap .u8 (shr .u64 a0 8)) then
          ((strBytes str0)[(Int.toNat (IntKind.wrap .u8 (shr .u64 a0 8)))]?).bind fun y7 =>
          k (IntKind.wrap .i64 (8 + (IntKind.wrap .i64 y7)))
        else none
      else
        if 0 ≤ (IntKind.wrap .u8 a0) then
          ((strBytes str0)[(Int.toNat (IntKind.wrap .u8 a0))]?).bind fun y8 =>
          k (IntKind.wrap .i64 (0 + (IntKind.wrap .i64 y8)))
        else none

def len64_k (n : Nat) (a0 : Int) (k : Int → Option A) : Option A := len64_p n a0 k

noncomputable def len64_E (n : Nat) : Env A := ⟨tys, gls, [], [], []⟩
theorem len64_T {A : Type} (n : Nat) : TyOK Tryd.prog (len64_E (A := A) n) := tyOK_of rfl tysB
theorem len64_fns (n : Nat) : FnsOK Tryd.prog (len64_E (A := A) n) := AllOK.env rfl rfl AllOK.nil
theorem len64_eqg (n : Nat) (a0 : Int) (k : AV → List Blk → Option A) : fnK (len64_E n) Tryd.f49 [.pure] [.p (.int .u64) a0] [] k = len64_p n a0 (fun r0 => k (.p (.int .i64) r0) []) := by kernel_rfl
theorem len64_eq (n : Nat) (a0 : Int) (k : AV → List Blk → Option A) : fnK (len64_E n) Tryd.f49 [.pure] [.p (.int .u64) a0] [] k = len64_k n a0 (fun r0 => k (.p (.int .i64) r0) []) := len64_eqg n a0 k
def len64_ent (g : Int → (Int → Option A) → Option A) : Entry A := pureE fun args k => args1 args (.int .u64) fun a0 => g a0 (fun r0 => k (.p (.int .i64) r0) [])
theorem len64_lo (n : Nat) : ∀ c, Tryd.f49.body = some c → ∀ q ∈ loopsOf 0 c, ∀ L, (len64_E (A := A) n).lps.lookup q.1 = some L → LoopOK Tryd.prog gls q.2 L :=
  lo_body (E := len64_E n) (by kernel_rfl : Tryd.f49.body = some (bodyOf Tryd.f49)) (lo_of (E := len64_E n) (by kernel_rfl : loopsOf 0 (bodyOf Tryd.f49) = []) lo_nil)
theorem len64_ok (n : Nat) : FnOK Tryd.prog gls 49 (len64_ent (A := A) (len64_k n)) :=
  FnOK.of (len64_T n) (len64_fns n) follows ⟨Tryd.func49, by kernel_rfl⟩ (len64_lo n) (rm := [.pure]) fun args k out h => by
    obtain ⟨a0, e, h1⟩ := args1_sound h
    subst e; rw [len64_eq]; exact h1

end Go.Ev
end

section
/-
  FUNCTION 37: printed by a program of our own (wip/gen/st.py). '(masthead/wide.U).Len', in continuation form; the evaluator gives it.
-/
set_option linter.all false
set_option maxRecDepth 100000
namespace Go.Ev
open Go.Proofs
variable {A : Type}

-- ============================================================ ulen (function 37)
def ulen_b0 (g_len64 : Int → (Int → Option A) → Option A) (n : Nat) (a : (List Int)) (k0 : Int → Option A) (k1 : Option A) (r : Int → Option A) (i : Int) : Option A :=
  bif (decide (i ≥ 0)) then
    if 0 ≤ i then
      if i < 4 then
        (a[(Int.toNat i)]?).bind fun y1 =>
        bif (y1 != 0) then
          if 0 ≤ i then
            if i < 4 then
              (a[(Int.toNat i)]?).bind fun y2 =>
              g_len64 y2 fun r3 =>
              k0 (IntKind.wrap .i64 ((IntKind.wrap .i64 (64 * i)) + r3))
            else none
          else none
        else
          r (IntKind.wrap .i64 (i - 1))
      else none
    else none
  else
    k1

def ulen_l0 (g_len64 : Int → (Int → Option A) → Option A) (n : Nat) (a : (List Int)) (k0 : Int → Option A) (k1 : Option A) : Nat → Int → Option A
  | 0 => fun _ => none
  | f + 1 => ulen_b0 g_len64 n a k0 k1 (ulen_l0 g_len64 n a k0 k1 f)

def ulen_p (g_len64 : Int → (Int → Option A) → Option A) (n : Nat) (a0 : (List Int)) (k : Int → Option A) : Option A :=
  ulen_l0 g_len64 n a0 (fun y4 =>
    k y4) (
    k 0) n 3

def ulen_k (n : Nat) (a0 : (List Int)) (k : Int → Option A) : Option A := ulen_p (len64_k n) n a0 k

noncomputable def ulen_c0 : Code := codeAt [1, 0, 1, 0, 0] (bodyOf Tryd.f37)
def ulen_d0 : List Nat := [0, 2, 4, 5, 6, 7, 8, 9, 10, 11, 12, 13, 14, 15, 16, 17, 18]
def ulen_y0 : List Nat := [0, 1, 3, 4, 5, 6, 7, 8, 9, 10, 11, 12, 13, 14, 15, 16, 17, 18]
def ulen_sh0 : Shape := ⟨[.any, (.ptr 0), .any, (.p (.int .i64)), .any, .any, .any, .any, .any, .any, .any, .any, .any, .any, .any, .any, .any, .any, .any], [(.var 24 kA4u64 (.p kA4u64))], 0⟩
def ulen_t0 (a : (List Int)) (i : Int) : ulen_sh0.den := (((), (), (), i, (), (), (), (), (), (), (), (), (), (), (), (), (), (), (), ()), (a, ()))
def ulen_x0_0 (a : (List Int)) (z0 : Int) : St := ⟨[.any, .any, .p (.int .i64) z0, .any, .any, .any, .any, .any, .any, .any, .any, .any, .any, .any, .any, .any, .any, .any, .any], [], 0⟩
def ulen_x0_1 (a : (List Int)) : St := ⟨[.any, .any, .any, .any, .any, .any, .any, .any, .any, .any, .any, .any, .any, .any, .any, .any, .any, .any, .any], [], 0⟩
def ulen_g0 (g_len64 : Int → (Int → Option A) → Option A) (n : Nat) (d : ulen_sh0.den) (k : Ex → St → Option A) : Option A :=
  ulen_l0 g_len64 n d.2.1 (fun z0 => k .ret (ulen_x0_0 d.2.1 z0)) (k (.exit 0) (ulen_x0_1 d.2.1)) n d.1.2.2.2.1
noncomputable def ulen_E (g_len64 : Int → (Int → Option A) → Option A) (n : Nat) : Env A := ⟨tys, gls, [(49, len64_ent g_len64)], [(0, loopE ulen_d0 ulen_sh0 (ulen_g0 g_len64 n))], []⟩
theorem ulen_T (g_len64 : Int → (Int → Option A) → Option A) (n : Nat) : TyOK Tryd.prog (ulen_E g_len64 n) := tyOK_of rfl tysB
theorem ulen_fns (n : Nat) : FnsOK Tryd.prog (ulen_E (A := A) (len64_k n) n) := AllOK.env rfl rfl (AllOK.cons (len64_ok n) AllOK.nil)
noncomputable def ulen_LK0 (g_len64 : Int → (Int → Option A) → Option A) (n : Nat) (a : (List Int)) (k : Ex → St → Option A) (f : Nat) (i : Int) : Option A := loopK (codeK (ulen_E g_len64 n) 1 ulen_c0) ulen_d0 ulen_y0 f (ulen_sh0.fill (ulen_t0 a i)) k
theorem ulen_st0 (g_len64 : Int → (Int → Option A) → Option A) (n f : Nat) (a : (List Int)) (k : Ex → St → Option A) (i : Int) : ulen_LK0 g_len64 n a k (f + 1) i = ulen_b0 g_len64 n a (fun z0 => k .ret (ulen_x0_0 a z0)) (k (.exit 0) (ulen_x0_1 a)) (ulen_LK0 g_len64 n a k f) i := by kernel_rfl
theorem ulen_le0 (g_len64 : Int → (Int → Option A) → Option A) (n : Nat) (a : (List Int)) (k : Ex → St → Option A) : ∀ (f : Nat) (i : Int), ulen_LK0 g_len64 n a k f i = ulen_l0 g_len64 n a (fun z0 => k .ret (ulen_x0_0 a z0)) (k (.exit 0) (ulen_x0_1 a)) f i := by
  intro f
  induction f with
  | zero => intros; kernel_rfl
  | succ f ih => intro i; exact (ulen_st0 g_len64 n f a k i).trans ((congrArg (fun r => ulen_b0 g_len64 n a (fun z0 => k .ret (ulen_x0_0 a z0)) (k (.exit 0) (ulen_x0_1 a)) r i) (funext fun i => ih i)).trans (by kernel_rfl))
theorem ulen_lo0 (n : Nat) : LoopOK Tryd.prog gls ulen_c0 (loopE ulen_d0 ulen_sh0 (ulen_g0 (A := A) (len64_k n) n)) :=
  LoopOK.of (ulen_T (len64_k n) n) (ulen_fns n) follows (j := 1) (n := n) (xdead := ulen_y0) (lo_of (by kernel_rfl : loopsOf 1 ulen_c0 = []) lo_nil) fun d k => Eq.trans (by kernel_rfl) (ulen_le0 (len64_k n) n d.2.1 k n d.1.2.2.2.1)
theorem ulen_eqg (g_len64 : Int → (Int → Option A) → Option A) (n : Nat) (a0 : (List Int)) (k : AV → List Blk → Option A) : fnK (ulen_E g_len64 n) Tryd.f37 [.pure] [.p kA4u64 a0] [] k = ulen_p g_len64 n a0 (fun r0 => k (.p (.int .i64) r0) []) := by kernel_rfl
theorem ulen_eq (n : Nat) (a0 : (List Int)) (k : AV → List Blk → Option A) : fnK (ulen_E (len64_k n) n) Tryd.f37 [.pure] [.p kA4u64 a0] [] k = ulen_k n a0 (fun r0 => k (.p (.int .i64) r0) []) := ulen_eqg (len64_k n) n a0 k
def ulen_ent (g : (List Int) → (Int → Option A) → Option A) : Entry A := pureE fun args k => args1 args kA4u64 fun a0 => g a0 (fun r0 => k (.p (.int .i64) r0) [])
theorem ulen_lo (n : Nat) : ∀ c, Tryd.f37.body = some c → ∀ q ∈ loopsOf 0 c, ∀ L, (ulen_E (A := A) (len64_k n) n).lps.lookup q.1 = some L → LoopOK Tryd.prog gls q.2 L :=
  lo_body (E := ulen_E (len64_k n) n) (by kernel_rfl : Tryd.f37.body = some (bodyOf Tryd.f37)) (lo_of (E := ulen_E (len64_k n) n) (by kernel_rfl : loopsOf 0 (bodyOf Tryd.f37) = [(0, ulen_c0)]) (lo_cons rfl (ulen_lo0 n) lo_nil))
theorem ulen_ok (n : Nat) : FnOK Tryd.prog gls 37 (ulen_ent (A := A) (ulen_k n)) :=
  FnOK.of (ulen_T (len64_k n) n) (ulen_fns n) follows ⟨Tryd.func37, by kernel_rfl⟩ (ulen_lo n) (rm := [.pure]) fun args k out h => by
    obtain ⟨a0, e, h1⟩ := args1_sound h
    subst e; rw [ulen_eq]; exact h1

end Go.Ev
end

section
/-
  FUNCTION 40: printed by a program of our own (wip/gen/st.py). 'masthead/wide.Max', in continuation form; the evaluator gives it.
-/
set_option linter.all false
set_option maxRecDepth 100000
namespace Go.Ev
open Go.Proofs
variable {A : Type}

-- ============================================================ umax (function 40)
def umax_p (n : Nat) (k : (List Int) → Option A) : Option A :=
  k [18446744073709551615, 18446744073709551615, 18446744073709551615, 18446744073709551615]

def umax_k (n : Nat) (k : (List Int) → Option A) : Option A := umax_p n k

noncomputable def umax_E (n : Nat) : Env A := ⟨tys, gls, [], [], []⟩
theorem umax_T {A : Type} (n : Nat) : TyOK Tryd.prog (umax_E (A := A) n) := tyOK_of rfl tysB
theorem umax_fns (n : Nat) : FnsOK Tryd.prog (umax_E (A := A) n) := AllOK.env rfl rfl AllOK.nil
theorem umax_eqg (n : Nat) (k : AV → List Blk → Option A) : fnK (umax_E n) Tryd.f40 [.pure] [] [] k = umax_p n (fun r0 => k (.p kA4u64 r0) []) := by kernel_rfl
theorem umax_eq (n : Nat) (k : AV → List Blk → Option A) : fnK (umax_E n) Tryd.f40 [.pure] [] [] k = umax_k n (fun r0 => k (.p kA4u64 r0) []) := umax_eqg n k
def umax_ent (g : ((List Int) → Option A) → Option A) : Entry A := pureE fun args k => args0 args (g (fun r0 => k (.p kA4u64 r0) []))
theorem umax_lo (n : Nat) : ∀ c, Tryd.f40.body = some c → ∀ q ∈ loopsOf 0 c, ∀ L, (umax_E (A := A) n).lps.lookup q.1 = some L → LoopOK Tryd.prog gls q.2 L :=
  lo_body (E := umax_E n) (by kernel_rfl : Tryd.f40.body = some (bodyOf Tryd.f40)) (lo_of (E := umax_E n) (by kernel_rfl : loopsOf 0 (bodyOf Tryd.f40) = []) lo_nil)
theorem umax_ok (n : Nat) : FnOK Tryd.prog gls 40 (umax_ent (A := A) (umax_k n)) :=
  FnOK.of (umax_T n) (umax_fns n) follows ⟨Tryd.func40, by kernel_rfl⟩ (umax_lo n) (rm := [.pure]) fun args k out h => by
    obtain ⟨e, h1⟩ := args0_sound h
    subst e; rw [umax_eq]; exact h1

end Go.Ev
end

section
/-
  FUNCTION 50: printed by a program of our own (wip/gen/st.py). 'math/bits.LeadingZeros64', in continuation form; the evaluator gives it.
-/
set_option linter.all false
set_option maxRecDepth 100000
namespace Go.Ev
open Go.Proofs
variable {A : Type}

-- ============================================================ lz64 (function 50)
def lz64_p (g_len64 : Int → (Int → Option A) → Option A) (n : Nat) (a0 : Int) (k : Int → Option A) : Option A :=
  g_len64 a0 fun r1 =>
  k (IntKind.wrap .i64 (64 - r1))

def lz64_k (n : Nat) (a0 : Int) (k : Int → Option A) : Option A := lz64_p (len64_k n) n a0 k

noncomputable def lz64_E (g_len64 : Int → (Int → Option A) → Option A) (n : Nat) : Env A := ⟨tys, gls, [(49, len64_ent g_len64)], [], []⟩
theorem lz64_T (g_len64 : Int → (Int → Option A) → Option A) (n : Nat) : TyOK Tryd.prog (lz64_E g_len64 n) := tyOK_of rfl tysB
theorem lz64_fns (n : Nat) : FnsOK Tryd.prog (lz64_E (A := A) (len64_k n) n) := AllOK.env rfl rfl (AllOK.cons (len64_ok n) AllOK.nil)
theorem lz64_eqg (g_len64 : Int → (Int → Option A) → Option A) (n : Nat) (a0 : Int) (k : AV → List Blk → Option A) : fnK (lz64_E g_len64 n) Tryd.f50 [.pure] [.p (.int .u64) a0] [] k = lz64_p g_len64 n a0 (fun r0 => k (.p (.int .i64) r0) []) := by kernel_rfl
theorem lz64_eq (n : Nat) (a0 : Int) (k : AV → List Blk → Option A) : fnK (lz64_E (len64_k n) n) Tryd.f50 [.pure] [.p (.int .u64) a0] [] k = lz64_k n a0 (fun r0 => k (.p (.int .i64) r0) []) := lz64_eqg (len64_k n) n a0 k
def lz64_ent (g : Int → (Int → Option A) → Option A) : Entry A := pureE fun args k => args1 args (.int .u64) fun a0 => g a0 (fun r0 => k (.p (.int .i64) r0) [])
theorem lz64_lo (n : Nat) : ∀ c, Tryd.f50.body = some c → ∀ q ∈ loopsOf 0 c, ∀ L, (lz64_E (A := A) (len64_k n) n).lps.lookup q.1 = some L → LoopOK Tryd.prog gls q.2 L :=
  lo_body (E := lz64_E (len64_k n) n) (by kernel_rfl : Tryd.f50.body = some (bodyOf Tryd.f50)) (lo_of (E := lz64_E (len64_k n) n) (by kernel_rfl : loopsOf 0 (bodyOf Tryd.f50) = []) lo_nil)
theorem lz64_ok (n : Nat) : FnOK Tryd.prog gls 50 (lz64_ent (A := A) (lz64_k n)) :=
  FnOK.of (lz64_T (len64_k n) n) (lz64_fns n) follows ⟨Tryd.func50, by kernel_rfl⟩ (lz64_lo n) (rm := [.pure]) fun args k out h => by
    obtain ⟨a0, e, h1⟩ := args1_sound h
    subst e; rw [lz64_eq]; exact h1

end Go.Ev
end

section
/-
  FUNCTION 38: printed by a program of our own (wip/gen/st.py). 'math/bits.Div64', in continuation form; the evaluator gives it.
-/
set_option linter.all false
set_option maxRecDepth 100000
namespace Go.Ev
open Go.Proofs
variable {A : Type}

-- ============================================================ div64 (function 38)
def div64_b1 (g_lz64 : Int → (Int → Option A) → Option A) (n : Nat) (y : Int) (s : Int) (yn1 : Int) (yn0 : Int) (un0 : Int) (q1 : Int) (un21 : Int) (k0 : Int → Option A) (r : Int → Int → Option A) (rhat : Int) (q0 : Int) : Option A :=
  bif (decide (q0 ≥ 4294967296)) then
    bif (decide ((IntKind.wrap .u64 (rhat + yn1)) ≥ 4294967296)) then
      k0 (IntKind.wrap .u64 (q0 - 1))
    else
      r (IntKind.wrap .u64 (rhat + yn1)) (IntKind.wrap .u64 (q0 - 1))
  else
    bif (decide ((IntKind.wrap .u64 (q0 * yn0)) > (IntKind.wrap .u64 ((IntKind.wrap .u64 (4294967296 * rhat)) + un0)))) then
      bif (decide ((IntKind.wrap .u64 (rhat + yn1)) ≥ 4294967296)) then
        k0 (IntKind.wrap .u64 (q0 - 1))
      else
        r (IntKind.wrap .u64 (rhat + yn1)) (IntKind.wrap .u64 (q0 - 1))
    else
      k0 q0

def div64_l1 (g_lz64 : Int → (Int → Option A) → Option A) (n : Nat) (y : Int) (s : Int) (yn1 : Int) (yn0 : Int) (un0 : Int) (q1 : Int) (un21 : Int) (k0 : Int → Option A) : Nat → Int → Int → Option A
  | 0 => fun _ _ => none
  | f + 1 => div64_b1 g_lz64 n y s yn1 yn0 un0 q1 un21 k0 (div64_l1 g_lz64 n y s yn1 yn0 un0 q1 un21 k0 f)

def div64_b0 (g_lz64 : Int → (Int → Option A) → Option A) (n : Nat) (y : Int) (s : Int) (yn1 : Int) (yn0 : Int) (un32 : Int) (un1 : Int) (un0 : Int) (k0 : Int → Option A) (r : Int → Int → Option A) (q1 : Int) (rhat : Int) : Option A :=
  bif (decide (q1 ≥ 4294967296)) then
    bif (decide ((IntKind.wrap .u64 (rhat + yn1)) ≥ 4294967296)) then
      k0 (IntKind.wrap .u64 (q1 - 1))
    else
      r (IntKind.wrap .u64 (q1 - 1)) (IntKind.wrap .u64 (rhat + yn1))
  else
    bif (decide ((IntKind.wrap .u64 (q1 * yn0)) > (IntKind.wrap .u64 ((IntKind.wrap .u64 (4294967296 * rhat)) + un1)))) then
      bif (decide ((IntKind.wrap .u64 (rhat + yn1)) ≥ 4294967296)) then
        k0 (IntKind.wrap .u64 (q1 - 1))
      else
        r (IntKind.wrap .u64 (q1 - 1)) (IntKind.wrap .u64 (rhat + yn1))
    else
      k0 q1

def div64_l0 (g_lz64 : Int → (Int → Option A) → Option A) (n : Nat) (y : Int) (s : Int) (yn1 : Int) (yn0 : Int) (un32 : Int) (un1 : Int) (un0 : Int) (k0 : Int → Option A) : Nat → Int → Int → Option A
  | 0 => fun _ _ => none
  | f + 1 => div64_b0 g_lz64 n y s yn1 yn0 un32 un1 un0 k0 (div64_l0 g_lz64 n y s yn1 yn0 un32 un1 un0 k0 f)

def div64_p (g_lz64 : Int → (Int → Option A) → Option A) (n : Nat) (a0 : Int) (a1 : Int) (a2 : Int) (k : Int → Int → Option A) : Option A :=
  bif (a2 == 0) then
    none
  else
    bif (decide (a2 ≤ a0)) then
      none
    else
      bif (a0 == 0) then
        if a2 = 0 then none else
        if a2 = 0 then none else
        k (IntKind.wrap .u64 (Int.tdiv a1 a2)) (Int.tmod a1 a2)
      else
        g_lz64 a2 fun r1 =>
        if (IntKind.wrap .u64 r1) < 0 then none else
        if (IntKind.wrap .u64 r1) < 0 then none else
        if (IntKind.wrap .u64 (64 - (IntKind.wrap .u64 r1))) < 0 then none else
        if (IntKind.wrap .u64 r1) < 0 then none else
        if (shr .u64 (shl .u64 a2 (IntKind.wrap .u64 r1)) 32) = 0 then none else
        div64_l0 g_lz64 n (shl .u64 a2 (IntKind.wrap .u64 r1)) (IntKind.wrap .u64 r1) (shr .u64 (shl .u64 a2 (IntKind.wrap .u64 r1)) 32) (iand .u64 (shl .u64 a2 (IntKind.wrap .u64 r1)) 4294967295) (ior .u64 (shl .u64 a0 (IntKind.wrap .u64 r1)) (shr .u64 a1 (IntKind.wrap .u64 (64 - (IntKind.wrap .u64 r1))))) (shr .u64 (shl .u64 a1 (IntKind.wrap .u64 r1)) 32) (iand .u64 (shl .u64 a1 (IntKind.wrap .u64 r1)) 4294967295) (fun y2 =>
          if (shr .u64 (shl .u64 a2 (IntKind.wrap .u64 r1)) 32) = 0 then none else
          div64_l1 g_lz64 n (shl .u64 a2 (IntKind.wrap .u64 r1)) (IntKind.wrap .u64 r1) (shr .u64 (shl .u64 a2 (IntKind.wrap .u64 r1)) 32) (iand .u64 (shl .u64 a2 (IntKind.wrap .u64 r1)) 4294967295) (iand .u64 (shl .u64 a1 (IntKind.wrap .u64 r1)) 4294967295) y2 (IntKind.wrap .u64 ((IntKind.wrap .u64 ((IntKind.wrap .u64 ((ior .u64 (shl .u64 a0 (IntKind.wrap .u64 r1)) (shr .u64 a1 (IntKind.wrap .u64 (64 - (IntKind.wrap .u64 r1))))) * 4294967296)) + (shr .u64 (shl .u64 a1 (IntKind.wrap .u64 r1)) 32))) - (IntKind.wrap .u64 (y2 * (shl .u64 a2 (IntKind.wrap .u64 r1)))))) (fun y3 =>
            if (IntKind.wrap .u64 r1) < 0 then none else
            k (IntKind.wrap .u64 ((IntKind.wrap .u64 (y2 * 4294967296)) + y3)) (shr .u64 (IntKind.wrap .u64 ((IntKind.wrap .u64 ((IntKind.wrap .u64 ((IntKind.wrap .u64 ((IntKind.wrap .u64 ((IntKind.wrap .u64 ((ior .u64 (shl .u64 a0 (IntKind.wrap .u64 r1)) (shr .u64 a1 (IntKind.wrap .u64 (64 - (IntKind.wrap .u64 r1))))) * 4294967296)) + (shr .u64 (shl .u64 a1 (IntKind.wrap .u64 r1)) 32))) - (IntKind.wrap .u64 (y2 * (shl .u64 a2 (IntKind.wrap .u64 r1)))))) * 4294967296)) + (iand .u64 (shl .u64 a1 (IntKind.wrap .u64 r1)) 4294967295))) - (IntKind.wrap .u64 (y3 * (shl .u64 a2 (IntKind.wrap .u64 r1)))))) (IntKind.wrap .u64 r1))) n (IntKind.wrap .u64 ((IntKind.wrap .u64 ((IntKind.wrap .u64 ((IntKind.wrap .u64 ((ior .u64 (shl .u64 a0 (IntKind.wrap .u64 r1)) (shr .u64 a1 (IntKind.wrap .u64 (64 - (IntKind.wrap .u64 r1))))) * 4294967296)) + (shr .u64 (shl .u64 a1 (IntKind.wrap .u64 r1)) 32))) - (IntKind.wrap .u64 (y2 * (shl .u64 a2 (IntKind.wrap .u64 r1)))))) - (IntKind.wrap .u64 ((IntKind.wrap .u64 (Int.tdiv (IntKind.wrap .u64 ((IntKind.wrap .u64 ((IntKind.wrap .u64 ((ior .u64 (shl .u64 a0 (IntKind.wrap .u64 r1)) (shr .u64 a1 (IntKind.wrap .u64 (64 - (IntKind.wrap .u64 r1))))) * 4294967296)) + (shr .u64 (shl .u64 a1 (IntKind.wrap .u64 r1)) 32))) - (IntKind.wrap .u64 (y2 * (shl .u64 a2 (IntKind.wrap .u64 r1)))))) (shr .u64 (shl .u64 a2 (IntKind.wrap .u64 r1)) 32))) * (shr .u64 (shl .u64 a2 (IntKind.wrap .u64 r1)) 32))))) (IntKind.wrap .u64 (Int.tdiv (IntKind.wrap .u64 ((IntKind.wrap .u64 ((IntKind.wrap .u64 ((ior .u64 (shl .u64 a0 (IntKind.wrap .u64 r1)) (shr .u64 a1 (IntKind.wrap .u64 (64 - (IntKind.wrap .u64 r1))))) * 4294967296)) + (shr .u64 (shl .u64 a1 (IntKind.wrap .u64 r1)) 32))) - (IntKind.wrap .u64 (y2 * (shl .u64 a2 (IntKind.wrap .u64 r1)))))) (shr .u64 (shl .u64 a2 (IntKind.wrap .u64 r1)) 32)))) n (IntKind.wrap .u64 (Int.tdiv (ior .u64 (shl .u64 a0 (IntKind.wrap .u64 r1)) (shr .u64 a1 (IntKind.wrap .u64 (64 - (IntKind.wrap .u64 r1))))) (shr .u64 (shl .u64 a2 (IntKind.wrap .u64 r1)) 32))) (IntKind.wrap .u64 ((ior .u64 (shl .u64 a0 (IntKind.wrap .u64 r1)) (shr .u64 a1 (IntKind.wrap .u64 (64 - (IntKind.wrap .u64 r1))))) - (IntKind.wrap .u64 ((IntKind.wrap .u64 (Int.tdiv (ior .u64 (shl .u64 a0 (IntKind.wrap .u64 r1)) (shr .u64 a1 (IntKind.wrap .u64 (64 - (IntKind.wrap .u64 r1))))) (shr .u64 (shl .u64 a2 (IntKind.wrap .u64 r1)) 32))) * (shr .u64 (shl .u64 a2 (IntKind.wrap .u64 r1)) 32)))))

def div64_k (n : Nat) (a0 : Int) (a1 : Int) (a2 : Int) (k : Int → Int → Option A) : Option A := div64_p (lz64_k n) n a0 a1 a2 k

noncomputable def div64_c0 : Code := codeAt [1, 1, 1, 1, 1, 1, 1, 1, 1, 1, 1, 1, 1, 1, 0, 0, 0] (bodyOf Tryd.f38)
def div64_d0 : List Nat := [0, 1, 6, 7, 12, 19, 20, 22, 23, 24, 26, 27, 34, 35, 36, 37, 38, 39, 40, 41, 42, 43, 44, 45, 46, 47, 48, 49, 50, 51, 52, 53, 54, 55, 56, 57, 58, 59, 60, 61, 62, 63, 64, 65, 66, 67, 68, 69, 70, 71, 72, 73, 74, 75, 76, 77, 78, 79, 80, 81, 82, 83, 84, 85]
def div64_y0 : List Nat := [0, 1, 3, 4, 5, 6, 7, 12, 16, 17, 18, 19, 20, 21, 22, 23, 24, 25, 26, 27, 28, 29, 30, 31, 32, 33, 34, 35, 36, 37, 38, 39, 40, 41, 42, 43, 44, 45, 46, 47, 48, 49, 50, 51, 52, 53, 54, 55, 56, 57, 58, 59, 60, 61, 62, 63, 64, 65, 66, 67, 68, 69, 70, 71, 72, 73, 74, 75, 76, 77, 78, 79, 80, 81, 82, 83, 84, 85, 86, 87, 88, 89, 90, 91, 92, 93, 94, 95, 96, 97, 98, 99, 100, 101, 102, 103, 104, 105, 106, 107, 108, 109, 110, 111, 112, 113, 114, 115, 116, 117, 118, 119, 120, 121, 122, 123, 124, 125, 126, 127, 128, 129, 130, 131, 132, 133, 134]
def div64_sh0 : Shape := ⟨[.any, .any, (.p (.int .u64)), .any, .any, .any, .any, .any, (.p (.int .u64)), (.p (.int .u64)), (.p (.int .u64)), (.p (.int .u64)), .any, (.p (.int .u64)), (.p (.int .u64)), (.p (.int .u64)), (.p (.int .u64)), .any, .any, .any, .any, .any, .any, .any, .any, .any, .any, .any, .any, .any, .any, .any, .any, .any, .any, .any, .any, .any, .any, .any, .any, .any, .any, .any, .any, .any, .any, .any, .any, .any, .any, .any, .any, .any, .any, .any, .any, .any, .any, .any, .any, .any, .any, .any, .any, .any, .any, .any, .any, .any, .any, .any, .any, .any, .any, .any, .any, .any, .any, .any, .any, .any, .any, .any, .any, .any, .any, .any, .any, .any, .any, .any, .any, .any, .any, .any, .any, .any, .any, .any, .any, .any, .any, .any, .any, .any, .any, .any, .any, .any, .any, .any, .any, .any, .any, .any, .any, .any, .any, .any, .any, .any, .any, .any, .any, .any, .any, .any, .any, .any, .any, .any, .any, .any, .any], [], 0⟩
def div64_t0 (y : Int) (s : Int) (yn1 : Int) (yn0 : Int) (un32 : Int) (un1 : Int) (un0 : Int) (q1 : Int) (rhat : Int) : div64_sh0.den := (((), (), y, (), (), (), (), (), s, yn1, yn0, un32, (), un1, un0, q1, rhat, (), (), (), (), (), (), (), (), (), (), (), (), (), (), (), (), (), (), (), (), (), (), (), (), (), (), (), (), (), (), (), (), (), (), (), (), (), (), (), (), (), (), (), (), (), (), (), (), (), (), (), (), (), (), (), (), (), (), (), (), (), (), (), (), (), (), (), (), (), (), (), (), (), (), (), (), (), (), (), (), (), (), (), (), (), (), (), (), (), (), (), (), (), (), (), (), (), (), (), (), (), (), (), (), (), (), (), (), (), (), (), (), (), (), (), (), (), (), ()), ())
def div64_x0_0 (y : Int) (s : Int) (yn1 : Int) (yn0 : Int) (un32 : Int) (un1 : Int) (un0 : Int) (z7 : Int) : St := ⟨[.any, .any, .p (.int .u64) y, .any, .any, .any, .any, .any, .p (.int .u64) s, .p (.int .u64) yn1, .p (.int .u64) yn0, .p (.int .u64) un32, .any, .p (.int .u64) un1, .p (.int .u64) un0, .p (.int .u64) z7, .any, .any, .any, .any, .any, .any, .any, .any, .any, .any, .any, .any, .any, .any, .any, .any, .any, .any, .any, .any, .any, .any, .any, .any, .any, .any, .any, .any, .any, .any, .any, .any, .any, .any, .any, .any, .any, .any, .any, .any, .any, .any, .any, .any, .any, .any, .any, .any, .any, .any, .any, .any, .any, .any, .any, .any, .any, .any, .any, .any, .any, .any, .any, .any, .any, .any, .any, .any, .any, .any, .any, .any, .any, .any, .any, .any, .any, .any, .any, .any, .any, .any, .any, .any, .any, .any, .any, .any, .any, .any, .any, .any, .any, .any, .any, .any, .any, .any, .any, .any, .any, .any, .any, .any, .any, .any, .any, .any, .any, .any, .any, .any, .any, .any, .any, .any, .any, .any, .any], [], 0⟩
def div64_g0 (g_lz64 : Int → (Int → Option A) → Option A) (n : Nat) (d : div64_sh0.den) (k : Ex → St → Option A) : Option A :=
  div64_l0 g_lz64 n d.1.2.2.1 d.1.2.2.2.2.2.2.2.2.1 d.1.2.2.2.2.2.2.2.2.2.1 d.1.2.2.2.2.2.2.2.2.2.2.1 d.1.2.2.2.2.2.2.2.2.2.2.2.1 d.1.2.2.2.2.2.2.2.2.2.2.2.2.2.1 d.1.2.2.2.2.2.2.2.2.2.2.2.2.2.2.1 (fun z7 => k (.exit 0) (div64_x0_0 d.1.2.2.1 d.1.2.2.2.2.2.2.2.2.1 d.1.2.2.2.2.2.2.2.2.2.1 d.1.2.2.2.2.2.2.2.2.2.2.1 d.1.2.2.2.2.2.2.2.2.2.2.2.1 d.1.2.2.2.2.2.2.2.2.2.2.2.2.2.1 d.1.2.2.2.2.2.2.2.2.2.2.2.2.2.2.1 z7)) n d.1.2.2.2.2.2.2.2.2.2.2.2.2.2.2.2.1 d.1.2.2.2.2.2.2.2.2.2.2.2.2.2.2.2.2.1
noncomputable def div64_c1 : Code := codeAt [1, 1, 1, 1, 1, 1, 1, 1, 1, 1, 1, 1, 1, 1, 1, 1, 1, 1, 0, 0, 0] (bodyOf Tryd.f38)
def div64_d1 : List Nat := [11, 13, 86, 87, 88, 89, 90, 91, 92, 93, 94, 95, 96, 97, 98, 99, 100, 101, 102, 103, 104, 105, 106, 107, 108, 109, 110, 111, 112, 113, 114, 115, 116, 117, 118, 119, 120]
def div64_y1 : List Nat := [0, 1, 3, 4, 5, 6, 7, 9, 10, 11, 12, 13, 16, 19, 20, 21, 22, 23, 24, 25, 26, 27, 28, 29, 30, 31, 32, 33, 34, 35, 36, 37, 38, 39, 40, 41, 42, 43, 44, 45, 46, 47, 48, 49, 50, 51, 52, 53, 54, 55, 56, 57, 58, 59, 60, 61, 62, 63, 64, 65, 66, 67, 68, 69, 70, 71, 72, 73, 74, 75, 76, 77, 78, 79, 80, 81, 82, 83, 84, 85, 86, 87, 88, 89, 90, 91, 92, 93, 94, 95, 96, 97, 98, 99, 100, 101, 102, 103, 104, 105, 106, 107, 108, 109, 110, 111, 112, 113, 114, 115, 116, 117, 118, 119, 120, 121, 122, 123, 124, 125, 126, 127, 128, 129, 130, 131, 132, 133, 134]
def div64_sh1 : Shape := ⟨[.any, .any, (.p (.int .u64)), .any, .any, .any, .any, .any, (.p (.int .u64)), (.p (.int .u64)), (.p (.int .u64)), .any, .any, .any, (.p (.int .u64)), (.p (.int .u64)), (.p (.int .u64)), (.p (.int .u64)), (.p (.int .u64)), .any, .any, .any, .any, .any, .any, .any, .any, .any, .any, .any, .any, .any, .any, .any, .any, .any, .any, .any, .any, .any, .any, .any, .any, .any, .any, .any, .any, .any, .any, .any, .any, .any, .any, .any, .any, .any, .any, .any, .any, .any, .any, .any, .any, .any, .any, .any, .any, .any, .any, .any, .any, .any, .any, .any, .any, .any, .any, .any, .any, .any, .any, .any, .any, .any, .any, .any, .any, .any, .any, .any, .any, .any, .any, .any, .any, .any, .any, .any, .any, .any, .any, .any, .any, .any, .any, .any, .any, .any, .any, .any, .any, .any, .any, .any, .any, .any, .any, .any, .any, .any, .any, .any, .any, .any, .any, .any, .any, .any, .any, .any, .any, .any, .any, .any, .any], [], 0⟩
def div64_t1 (y : Int) (s : Int) (yn1 : Int) (yn0 : Int) (un0 : Int) (q1 : Int) (un21 : Int) (rhat : Int) (q0 : Int) : div64_sh1.den := (((), (), y, (), (), (), (), (), s, yn1, yn0, (), (), (), un0, q1, rhat, un21, q0, (), (), (), (), (), (), (), (), (), (), (), (), (), (), (), (), (), (), (), (), (), (), (), (), (), (), (), (), (), (), (), (), (), (), (), (), (), (), (), (), (), (), (), (), (), (), (), (), (), (), (), (), (), (), (), (), (), (), (), (), (), (), (), (), (), (), (), (), (), (), (), (), (), (), (), (), (), (), (), (), (), (), (), (), (), (), (), (), (), (), (), (), (), (), (), (), (), (), (), (), (), (), (), (), (), (), (), (), (), (), (), (), (), (), (), (), ()), ())
def div64_x1_0 (y : Int) (s : Int) (yn1 : Int) (yn0 : Int) (un0 : Int) (q1 : Int) (un21 : Int) (z5 : Int) : St := ⟨[.any, .any, .p (.int .u64) y, .any, .any, .any, .any, .any, .p (.int .u64) s, .any, .any, .any, .any, .any, .p (.int .u64) un0, .p (.int .u64) q1, .any, .p (.int .u64) un21, .p (.int .u64) z5, .any, .any, .any, .any, .any, .any, .any, .any, .any, .any, .any, .any, .any, .any, .any, .any, .any, .any, .any, .any, .any, .any, .any, .any, .any, .any, .any, .any, .any, .any, .any, .any, .any, .any, .any, .any, .any, .any, .any, .any, .any, .any, .any, .any, .any, .any, .any, .any, .any, .any, .any, .any, .any, .any, .any, .any, .any, .any, .any, .any, .any, .any, .any, .any, .any, .any, .any, .any, .any, .any, .any, .any, .any, .any, .any, .any, .any, .any, .any, .any, .any, .any, .any, .any, .any, .any, .any, .any, .any, .any, .any, .any, .any, .any, .any, .any, .any, .any, .any, .any, .any, .any, .any, .any, .any, .any, .any, .any, .any, .any, .any, .any, .any, .any, .any, .any], [], 0⟩
def div64_g1 (g_lz64 : Int → (Int → Option A) → Option A) (n : Nat) (d : div64_sh1.den) (k : Ex → St → Option A) : Option A :=
  div64_l1 g_lz64 n d.1.2.2.1 d.1.2.2.2.2.2.2.2.2.1 d.1.2.2.2.2.2.2.2.2.2.1 d.1.2.2.2.2.2.2.2.2.2.2.1 d.1.2.2.2.2.2.2.2.2.2.2.2.2.2.2.1 d.1.2.2.2.2.2.2.2.2.2.2.2.2.2.2.2.1 d.1.2.2.2.2.2.2.2.2.2.2.2.2.2.2.2.2.2.1 (fun z5 => k (.exit 2) (div64_x1_0 d.1.2.2.1 d.1.2.2.2.2.2.2.2.2.1 d.1.2.2.2.2.2.2.2.2.2.1 d.1.2.2.2.2.2.2.2.2.2.2.1 d.1.2.2.2.2.2.2.2.2.2.2.2.2.2.2.1 d.1.2.2.2.2.2.2.2.2.2.2.2.2.2.2.2.1 d.1.2.2.2.2.2.2.2.2.2.2.2.2.2.2.2.2.2.1 z5)) n d.1.2.2.2.2.2.2.2.2.2.2.2.2.2.2.2.2.1 d.1.2.2.2.2.2.2.2.2.2.2.2.2.2.2.2.2.2.2.1
noncomputable def div64_E (g_lz64 : Int → (Int → Option A) → Option A) (n : Nat) : Env A := ⟨tys, gls, [(50, lz64_ent g_lz64)], [(0, loopE div64_d0 div64_sh0 (div64_g0 g_lz64 n)), (1, loopE div64_d1 div64_sh1 (div64_g1 g_lz64 n))], []⟩
theorem div64_T (g_lz64 : Int → (Int → Option A) → Option A) (n : Nat) : TyOK Tryd.prog (div64_E g_lz64 n) := tyOK_of rfl tysB
theorem div64_fns (n : Nat) : FnsOK Tryd.prog (div64_E (A := A) (lz64_k n) n) := AllOK.env rfl rfl (AllOK.cons (lz64_ok n) AllOK.nil)
noncomputable def div64_LK1 (g_lz64 : Int → (Int → Option A) → Option A) (n : Nat) (y : Int) (s : Int) (yn1 : Int) (yn0 : Int) (un0 : Int) (q1 : Int) (un21 : Int) (k : Ex → St → Option A) (f : Nat) (rhat : Int) (q0 : Int) : Option A := loopK (codeK (div64_E g_lz64 n) 2 div64_c1) div64_d1 div64_y1 f (div64_sh1.fill (div64_t1 y s yn1 yn0 un0 q1 un21 rhat q0)) k
theorem div64_st1 (g_lz64 : Int → (Int → Option A) → Option A) (n f : Nat) (y : Int) (s : Int) (yn1 : Int) (yn0 : Int) (un0 : Int) (q1 : Int) (un21 : Int) (k : Ex → St → Option A) (rhat : Int) (q0 : Int) : div64_LK1 g_lz64 n y s yn1 yn0 un0 q1 un21 k (f + 1) rhat q0 = div64_b1 g_lz64 n y s yn1 yn0 un0 q1 un21 (fun z5 => k (.exit 2) (div64_x1_0 y s yn1 yn0 un0 q1 un21 z5)) (div64_LK1 g_lz64 n y s yn1 yn0 un0 q1 un21 k f) rhat q0 := by kernel_rfl
theorem div64_le1 (g_lz64 : Int → (Int → Option A) → Option A) (n : Nat) (y : Int) (s : Int) (yn1 : Int) (yn0 : Int) (un0 : Int) (q1 : Int) (un21 : Int) (k : Ex → St → Option A) : ∀ (f : Nat) (rhat : Int) (q0 : Int), div64_LK1 g_lz64 n y s yn1 yn0 un0 q1 un21 k f rhat q0 = div64_l1 g_lz64 n y s yn1 yn0 un0 q1 un21 (fun z5 => k (.exit 2) (div64_x1_0 y s yn1 yn0 un0 q1 un21 z5)) f rhat q0 := by
  intro f
  induction f with
  | zero => intros; kernel_rfl
  | succ f ih => intro rhat q0; exact (div64_st1 g_lz64 n f y s yn1 yn0 un0 q1 un21 k rhat q0).trans ((congrArg (fun r => div64_b1 g_lz64 n y s yn1 yn0 un0 q1 un21 (fun z5 => k (.exit 2) (div64_x1_0 y s yn1 yn0 un0 q1 un21 z5)) r rhat q0) (funext fun rhat => funext fun q0 => ih rhat q0)).trans (by kernel_rfl))
theorem div64_lo1 (n : Nat) : LoopOK Tryd.prog gls div64_c1 (loopE div64_d1 div64_sh1 (div64_g1 (A := A) (lz64_k n) n)) :=
  LoopOK.of (div64_T (lz64_k n) n) (div64_fns n) follows (j := 2) (n := n) (xdead := div64_y1) (lo_of (by kernel_rfl : loopsOf 2 div64_c1 = []) lo_nil) fun d k => Eq.trans (by kernel_rfl) (div64_le1 (lz64_k n) n d.1.2.2.1 d.1.2.2.2.2.2.2.2.2.1 d.1.2.2.2.2.2.2.2.2.2.1 d.1.2.2.2.2.2.2.2.2.2.2.1 d.1.2.2.2.2.2.2.2.2.2.2.2.2.2.2.1 d.1.2.2.2.2.2.2.2.2.2.2.2.2.2.2.2.1 d.1.2.2.2.2.2.2.2.2.2.2.2.2.2.2.2.2.2.1 k n d.1.2.2.2.2.2.2.2.2.2.2.2.2.2.2.2.2.1 d.1.2.2.2.2.2.2.2.2.2.2.2.2.2.2.2.2.2.2.1)
noncomputable def div64_LK0 (g_lz64 : Int → (Int → Option A) → Option A) (n : Nat) (y : Int) (s : Int) (yn1 : Int) (yn0 : Int) (un32 : Int) (un1 : Int) (un0 : Int) (k : Ex → St → Option A) (f : Nat) (q1 : Int) (rhat : Int) : Option A := loopK (codeK (div64_E g_lz64 n) 1 div64_c0) div64_d0 div64_y0 f (div64_sh0.fill (div64_t0 y s yn1 yn0 un32 un1 un0 q1 rhat)) k
theorem div64_st0 (g_lz64 : Int → (Int → Option A) → Option A) (n f : Nat) (y : Int) (s : Int) (yn1 : Int) (yn0 : Int) (un32 : Int) (un1 : Int) (un0 : Int) (k : Ex → St → Option A) (q1 : Int) (rhat : Int) : div64_LK0 g_lz64 n y s yn1 yn0 un32 un1 un0 k (f + 1) q1 rhat = div64_b0 g_lz64 n y s yn1 yn0 un32 un1 un0 (fun z7 => k (.exit 0) (div64_x0_0 y s yn1 yn0 un32 un1 un0 z7)) (div64_LK0 g_lz64 n y s yn1 yn0 un32 un1 un0 k f) q1 rhat := by kernel_rfl
theorem div64_le0 (g_lz64 : Int → (Int → Option A) → Option A) (n : Nat) (y : Int) (s : Int) (yn1 : Int) (yn0 : Int) (un32 : Int) (un1 : Int) (un0 : Int) (k : Ex → St → Option A) : ∀ (f : Nat) (q1 : Int) (rhat : Int), div64_LK0 g_lz64 n y s yn1 yn0 un32 un1 un0 k f q1 rhat = div64_l0 g_lz64 n y s yn1 yn0 un32 un1 un0 (fun z7 => k (.exit 0) (div64_x0_0 y s yn1 yn0 un32 un1 un0 z7)) f q1 rhat := by
  intro f
  induction f with
  | zero => intros; kernel_rfl
  | succ f ih => intro q1 rhat; exact (div64_st0 g_lz64 n f y s yn1 yn0 un32 un1 un0 k q1 rhat).trans ((congrArg (fun r => div64_b0 g_lz64 n y s yn1 yn0 un32 un1 un0 (fun z7 => k (.exit 0) (div64_x0_0 y s yn1 yn0 un32 un1 un0 z7)) r q1 rhat) (funext fun q1 => funext fun rhat => ih q1 rhat)).trans (by kernel_rfl))
theorem div64_lo0 (n : Nat) : LoopOK Tryd.prog gls div64_c0 (loopE div64_d0 div64_sh0 (div64_g0 (A := A) (lz64_k n) n)) :=
  LoopOK.of (div64_T (lz64_k n) n) (div64_fns n) follows (j := 1) (n := n) (xdead := div64_y0) (lo_of (by kernel_rfl : loopsOf 1 div64_c0 = []) lo_nil) fun d k => Eq.trans (by kernel_rfl) (div64_le0 (lz64_k n) n d.1.2.2.1 d.1.2.2.2.2.2.2.2.2.1 d.1.2.2.2.2.2.2.2.2.2.1 d.1.2.2.2.2.2.2.2.2.2.2.1 d.1.2.2.2.2.2.2.2.2.2.2.2.1 d.1.2.2.2.2.2.2.2.2.2.2.2.2.2.1 d.1.2.2.2.2.2.2.2.2.2.2.2.2.2.2.1 k n d.1.2.2.2.2.2.2.2.2.2.2.2.2.2.2.2.1 d.1.2.2.2.2.2.2.2.2.2.2.2.2.2.2.2.2.1)
theorem div64_eqg (g_lz64 : Int → (Int → Option A) → Option A) (n : Nat) (a0 : Int) (a1 : Int) (a2 : Int) (k : AV → List Blk → Option A) : fnK (div64_E g_lz64 n) Tryd.f38 [.pure, .pure] [.p (.int .u64) a0, .p (.int .u64) a1, .p (.int .u64) a2] [] k = div64_p g_lz64 n a0 a1 a2 (fun r0 r1 => k (.tup [.p (.int .u64) r0, .p (.int .u64) r1]) []) := by kernel_rfl
theorem div64_eq (n : Nat) (a0 : Int) (a1 : Int) (a2 : Int) (k : AV → List Blk → Option A) : fnK (div64_E (lz64_k n) n) Tryd.f38 [.pure, .pure] [.p (.int .u64) a0, .p (.int .u64) a1, .p (.int .u64) a2] [] k = div64_k n a0 a1 a2 (fun r0 r1 => k (.tup [.p (.int .u64) r0, .p (.int .u64) r1]) []) := div64_eqg (lz64_k n) n a0 a1 a2 k
def div64_ent (g : Int → Int → Int → (Int → Int → Option A) → Option A) : Entry A := pureE fun args k => args3 args (.int .u64) (.int .u64) (.int .u64) fun a0 a1 a2 => g a0 a1 a2 (fun r0 r1 => k (.tup [.p (.int .u64) r0, .p (.int .u64) r1]) [])
theorem div64_lo (n : Nat) : ∀ c, Tryd.f38.body = some c → ∀ q ∈ loopsOf 0 c, ∀ L, (div64_E (A := A) (lz64_k n) n).lps.lookup q.1 = some L → LoopOK Tryd.prog gls q.2 L :=
  lo_body (E := div64_E (lz64_k n) n) (by kernel_rfl : Tryd.f38.body = some (bodyOf Tryd.f38)) (lo_of (E := div64_E (lz64_k n) n) (by kernel_rfl : loopsOf 0 (bodyOf Tryd.f38) = [(0, div64_c0), (1, div64_c1)]) (lo_cons rfl (div64_lo0 n) (lo_cons rfl (div64_lo1 n) lo_nil)))
theorem div64_ok (n : Nat) : FnOK Tryd.prog gls 38 (div64_ent (A := A) (div64_k n)) :=
  FnOK.of (div64_T (lz64_k n) n) (div64_fns n) follows ⟨Tryd.func38, by kernel_rfl⟩ (div64_lo n) (rm := [.pure, .pure]) fun args k out h => by
    obtain ⟨a0, a1, a2, e, h1⟩ := args3_sound h
    subst e; rw [div64_eq]; exact h1

end Go.Ev
end

section
/-
  FUNCTION 12: printed by a program of our own (wip/gen/st.py). '(masthead/wide.U).Div', in continuation form; the evaluator gives it.
-/
set_option linter.all false
set_option maxRecDepth 100000
namespace Go.Ev
open Go.Proofs
variable {A : Type}

-- ============================================================ udiv (function 12)
def udiv_b0 (g_div64 : Int → Int → Int → (Int → Int → Option A) → Option A) (n : Nat) (n_ : Int) (t4 : (List Int)) (k0 : Int → (List Int) → Option A) (r : Int → Int → (List Int) → Option A) (left : Int) (i : Int) (a : (List Int)) : Option A :=
  bif (decide (i ≥ 0)) then
    if 0 ≤ i then
      if i < 4 then
        (a[(Int.toNat i)]?).bind fun y1 =>
        g_div64 left y1 n_ fun r2 r3 =>
        if 0 ≤ i then
          if i < 4 then
            if (Int.toNat i) < 4 then
              r r3 (IntKind.wrap .i64 (i - 1)) (a.set (Int.toNat i) r2)
            else none
          else none
        else none
      else none
    else none
  else
    k0 left a

def udiv_l0 (g_div64 : Int → Int → Int → (Int → Int → Option A) → Option A) (n : Nat) (n_ : Int) (t4 : (List Int)) (k0 : Int → (List Int) → Option A) : Nat → Int → Int → (List Int) → Option A
  | 0 => fun _ _ _ => none
  | f + 1 => udiv_b0 g_div64 n n_ t4 k0 (udiv_l0 g_div64 n n_ t4 k0 f)

def udiv_p (g_div64 : Int → Int → Int → (Int → Int → Option A) → Option A) (n : Nat) (a0 : (List Int)) (a1 : Int) (k : (List Int) → Int → Option A) : Option A :=
  bif (a1 == 0) then
    k [0, 0, 0, 0] 0
  else
    udiv_l0 g_div64 n a1 [0, 0, 0, 0] (fun y4 y5 =>
      k y5 y4) n 0 3 a0

def udiv_k (n : Nat) (a0 : (List Int)) (a1 : Int) (k : (List Int) → Int → Option A) : Option A := udiv_p (div64_k n) n a0 a1 k

noncomputable def udiv_c0 : Code := codeAt [1, 1, 1, 0, 1, 0, 0] (bodyOf Tryd.f12)
def udiv_d0 : List Nat := [0, 5, 8, 9, 11, 12, 13, 14, 15, 16, 17, 18, 19, 20, 21, 22, 23, 24, 25]
def udiv_y0 : List Nat := [0, 1, 3, 5, 7, 8, 9, 10, 11, 12, 13, 14, 15, 16, 17, 18, 19, 20, 21, 22, 23, 24, 25, 26, 27]
def udiv_sh0 : Shape := ⟨[.any, (.p (.int .u64)), (.ptr 0), .any, (.ptr 1), .any, (.p (.int .u64)), (.p (.int .i64)), .any, .any, .any, .any, .any, .any, .any, .any, .any, .any, .any, .any, .any, .any, .any, .any, .any, .any, .any, .any], [(.var 24 kA4u64 (.p kA4u64)), (.var 24 kA4u64 (.p kA4u64))], 0⟩
def udiv_t0 (n_ : Int) (t4 : (List Int)) (left : Int) (i : Int) (a : (List Int)) : udiv_sh0.den := (((), n_, (), (), (), (), left, i, (), (), (), (), (), (), (), (), (), (), (), (), (), (), (), (), (), (), (), (), ()), (a, t4, ()))
def udiv_x0_0 (n_ : Int) (t4 : (List Int)) (z0 : Int) (z1 : (List Int)) : St := ⟨[.any, .any, .ptr 0 [], .any, .ptr 1 [], .any, .p (.int .u64) z0, .any, .any, .any, .any, .any, .any, .any, .any, .any, .any, .any, .any, .any, .any, .any, .any, .any, .any, .any, .any, .any], [.var 24 kA4u64 (.p kA4u64 z1), .var 24 kA4u64 (.p kA4u64 t4)], 0⟩
def udiv_g0 (g_div64 : Int → Int → Int → (Int → Int → Option A) → Option A) (n : Nat) (d : udiv_sh0.den) (k : Ex → St → Option A) : Option A :=
  udiv_l0 g_div64 n d.1.2.1 d.2.2.1 (fun z0 z1 => k (.exit 0) (udiv_x0_0 d.1.2.1 d.2.2.1 z0 z1)) n d.1.2.2.2.2.2.2.1 d.1.2.2.2.2.2.2.2.1 d.2.1
noncomputable def udiv_E (g_div64 : Int → Int → Int → (Int → Int → Option A) → Option A) (n : Nat) : Env A := ⟨tys, gls, [(38, div64_ent g_div64)], [(0, loopE udiv_d0 udiv_sh0 (udiv_g0 g_div64 n))], []⟩
theorem udiv_T (g_div64 : Int → Int → Int → (Int → Int → Option A) → Option A) (n : Nat) : TyOK Tryd.prog (udiv_E g_div64 n) := tyOK_of rfl tysB
theorem udiv_fns (n : Nat) : FnsOK Tryd.prog (udiv_E (A := A) (div64_k n) n) := AllOK.env rfl rfl (AllOK.cons (div64_ok n) AllOK.nil)
noncomputable def udiv_LK0 (g_div64 : Int → Int → Int → (Int → Int → Option A) → Option A) (n : Nat) (n_ : Int) (t4 : (List Int)) (k : Ex → St → Option A) (f : Nat) (left : Int) (i : Int) (a : (List Int)) : Option A := loopK (codeK (udiv_E g_div64 n) 1 udiv_c0) udiv_d0 udiv_y0 f (udiv_sh0.fill (udiv_t0 n_ t4 left i a)) k
theorem udiv_st0 (g_div64 : Int → Int → Int → (Int → Int → Option A) → Option A) (n f : Nat) (n_ : Int) (t4 : (List Int)) (k : Ex → St → Option A) (left : Int) (i : Int) (a : (List Int)) : udiv_LK0 g_div64 n n_ t4 k (f + 1) left i a = udiv_b0 g_div64 n n_ t4 (fun z0 z1 => k (.exit 0) (udiv_x0_0 n_ t4 z0 z1)) (udiv_LK0 g_div64 n n_ t4 k f) left i a := by kernel_rfl
theorem udiv_le0 (g_div64 : Int → Int → Int → (Int → Int → Option A) → Option A) (n : Nat) (n_ : Int) (t4 : (List Int)) (k : Ex → St → Option A) : ∀ (f : Nat) (left : Int) (i : Int) (a : (List Int)), udiv_LK0 g_div64 n n_ t4 k f left i a = udiv_l0 g_div64 n n_ t4 (fun z0 z1 => k (.exit 0) (udiv_x0_0 n_ t4 z0 z1)) f left i a := by
  intro f
  induction f with
  | zero => intros; kernel_rfl
  | succ f ih => intro left i a; exact (udiv_st0 g_div64 n f n_ t4 k left i a).trans ((congrArg (fun r => udiv_b0 g_div64 n n_ t4 (fun z0 z1 => k (.exit 0) (udiv_x0_0 n_ t4 z0 z1)) r left i a) (funext fun left => funext fun i => funext fun a => ih left i a)).trans (by kernel_rfl))
theorem udiv_lo0 (n : Nat) : LoopOK Tryd.prog gls udiv_c0 (loopE udiv_d0 udiv_sh0 (udiv_g0 (A := A) (div64_k n) n)) :=
  LoopOK.of (udiv_T (div64_k n) n) (udiv_fns n) follows (j := 1) (n := n) (xdead := udiv_y0) (lo_of (by kernel_rfl : loopsOf 1 udiv_c0 = []) lo_nil) fun d k => Eq.trans (by kernel_rfl) (udiv_le0 (div64_k n) n d.1.2.1 d.2.2.1 k n d.1.2.2.2.2.2.2.1 d.1.2.2.2.2.2.2.2.1 d.2.1)
theorem udiv_eqg (g_div64 : Int → Int → Int → (Int → Int → Option A) → Option A) (n : Nat) (a0 : (List Int)) (a1 : Int) (k : AV → List Blk → Option A) : fnK (udiv_E g_div64 n) Tryd.f12 [.pure, .pure] [.p kA4u64 a0, .p (.int .u64) a1] [] k = udiv_p g_div64 n a0 a1 (fun r0 r1 => k (.tup [.p kA4u64 r0, .p (.int .u64) r1]) []) := by kernel_rfl
theorem udiv_eq (n : Nat) (a0 : (List Int)) (a1 : Int) (k : AV → List Blk → Option A) : fnK (udiv_E (div64_k n) n) Tryd.f12 [.pure, .pure] [.p kA4u64 a0, .p (.int .u64) a1] [] k = udiv_k n a0 a1 (fun r0 r1 => k (.tup [.p kA4u64 r0, .p (.int .u64) r1]) []) := udiv_eqg (div64_k n) n a0 a1 k
def udiv_ent (g : (List Int) → Int → ((List Int) → Int → Option A) → Option A) : Entry A := pureE fun args k => args2 args kA4u64 (.int .u64) fun a0 a1 => g a0 a1 (fun r0 r1 => k (.tup [.p kA4u64 r0, .p (.int .u64) r1]) [])
theorem udiv_lo (n : Nat) : ∀ c, Tryd.f12.body = some c → ∀ q ∈ loopsOf 0 c, ∀ L, (udiv_E (A := A) (div64_k n) n).lps.lookup q.1 = some L → LoopOK Tryd.prog gls q.2 L :=
  lo_body (E := udiv_E (div64_k n) n) (by kernel_rfl : Tryd.f12.body = some (bodyOf Tryd.f12)) (lo_of (E := udiv_E (div64_k n) n) (by kernel_rfl : loopsOf 0 (bodyOf Tryd.f12) = [(0, udiv_c0)]) (lo_cons rfl (udiv_lo0 n) lo_nil))
theorem udiv_ok (n : Nat) : FnOK Tryd.prog gls 12 (udiv_ent (A := A) (udiv_k n)) :=
  FnOK.of (udiv_T (div64_k n) n) (udiv_fns n) follows ⟨Tryd.func12, by kernel_rfl⟩ (udiv_lo n) (rm := [.pure, .pure]) fun args k out h => by
    obtain ⟨a0, a1, e, h1⟩ := args2_sound h
    subst e; rw [udiv_eq]; exact h1

end Go.Ev
end

section
/-
  FUNCTION 52: printed by a program of our own (wip/gen/st.py). 'internal/strconv.small', in continuation form; the evaluator gives it.
-/
set_option linter.all false
set_option maxRecDepth 100000
namespace Go.Ev
open Go.Proofs
variable {A : Type}

-- ============================================================ small (function 52)
def small_p (n : Nat) (a0 : Int) (k : ByteArray → Option A) : Option A :=
  bif (decide (a0 < 10)) then
    if 0 ≤ (IntKind.wrap .i64 (a0 + 1)) then
      if (IntKind.wrap .i64 (a0 + 1)) ≤ (str2.size : Int) then
        if 0 ≤ a0 then
          if a0 ≤ ((Int.toNat (IntKind.wrap .i64 (a0 + 1))) : Int) then
            k (str2.extract (Int.toNat a0) (Int.toNat (IntKind.wrap .i64 (a0 + 1))))
          else none
        else none
      else none
    else none
  else
    if 0 ≤ (IntKind.wrap .i64 ((IntKind.wrap .i64 (a0 * 2)) + 2)) then
      if (IntKind.wrap .i64 ((IntKind.wrap .i64 (a0 * 2)) + 2)) ≤ (str3.size : Int) then
        if 0 ≤ (IntKind.wrap .i64 (a0 * 2)) then
          if (IntKind.wrap .i64 (a0 * 2)) ≤ ((Int.toNat (IntKind.wrap .i64 ((IntKind.wrap .i64 (a0 * 2)) + 2))) : Int) then
            k (str3.extract (Int.toNat (IntKind.wrap .i64 (a0 * 2))) (Int.toNat (IntKind.wrap .i64 ((IntKind.wrap .i64 (a0 * 2)) + 2))))
          else none
        else none
      else none
    else none

def small_k (n : Nat) (a0 : Int) (k : ByteArray → Option A) : Option A := small_p n a0 k

noncomputable def small_E (n : Nat) : Env A := ⟨tys, gls, [], [], []⟩
theorem small_T {A : Type} (n : Nat) : TyOK Tryd.prog (small_E (A := A) n) := tyOK_of rfl tysB
theorem small_fns (n : Nat) : FnsOK Tryd.prog (small_E (A := A) n) := AllOK.env rfl rfl AllOK.nil
theorem small_eqg (n : Nat) (a0 : Int) (k : AV → List Blk → Option A) : fnK (small_E n) Tryd.f52 [.pure] [.p (.int .i64) a0] [] k = small_p n a0 (fun r0 => k (.p .str r0) []) := by kernel_rfl
theorem small_eq (n : Nat) (a0 : Int) (k : AV → List Blk → Option A) : fnK (small_E n) Tryd.f52 [.pure] [.p (.int .i64) a0] [] k = small_k n a0 (fun r0 => k (.p .str r0) []) := small_eqg n a0 k
def small_ent (g : Int → (ByteArray → Option A) → Option A) : Entry A := pureE fun args k => args1 args (.int .i64) fun a0 => g a0 (fun r0 => k (.p .str r0) [])
theorem small_lo (n : Nat) : ∀ c, Tryd.f52.body = some c → ∀ q ∈ loopsOf 0 c, ∀ L, (small_E (A := A) n).lps.lookup q.1 = some L → LoopOK Tryd.prog gls q.2 L :=
  lo_body (E := small_E n) (by kernel_rfl : Tryd.f52.body = some (bodyOf Tryd.f52)) (lo_of (E := small_E n) (by kernel_rfl : loopsOf 0 (bodyOf Tryd.f52) = []) lo_nil)
theorem small_ok (n : Nat) : FnOK Tryd.prog gls 52 (small_ent (A := A) (small_k n)) :=
  FnOK.of (small_T n) (small_fns n) follows ⟨Tryd.func52, by kernel_rfl⟩ (small_lo n) (rm := [.pure]) fun args k out h => by
    obtain ⟨a0, e, h1⟩ := args1_sound h
    subst e; rw [small_eq]; exact h1

end Go.Ev
end

section
/-
  FUNCTION 56: printed by a program of our own (wip/gen/st.py). 'internal/strconv.log10Pow2', in continuation form; the evaluator gives it.
-/
set_option linter.all false
set_option maxRecDepth 100000
namespace Go.Ev
open Go.Proofs
variable {A : Type}

-- ============================================================ log10p (function 56)
def log10p_p (n : Nat) (a0 : Int) (k : Int → Option A) : Option A :=
  k (shr .i64 (IntKind.wrap .i64 (a0 * 78913)) 18)

def log10p_k (n : Nat) (a0 : Int) (k : Int → Option A) : Option A := log10p_p n a0 k

noncomputable def log10p_E (n : Nat) : Env A := ⟨tys, gls, [], [], []⟩
theorem log10p_T {A : Type} (n : Nat) : TyOK Tryd.prog (log10p_E (A := A) n) := tyOK_of rfl tysB
theorem log10p_fns (n : Nat) : FnsOK Tryd.prog (log10p_E (A := A) n) := AllOK.env rfl rfl AllOK.nil
theorem log10p_eqg (n : Nat) (a0 : Int) (k : AV → List Blk → Option A) : fnK (log10p_E n) Tryd.f56 [.pure] [.p (.int .i64) a0] [] k = log10p_p n a0 (fun r0 => k (.p (.int .i64) r0) []) := by kernel_rfl
theorem log10p_eq (n : Nat) (a0 : Int) (k : AV → List Blk → Option A) : fnK (log10p_E n) Tryd.f56 [.pure] [.p (.int .i64) a0] [] k = log10p_k n a0 (fun r0 => k (.p (.int .i64) r0) []) := log10p_eqg n a0 k
def log10p_ent (g : Int → (Int → Option A) → Option A) : Entry A := pureE fun args k => args1 args (.int .i64) fun a0 => g a0 (fun r0 => k (.p (.int .i64) r0) [])
theorem log10p_lo (n : Nat) : ∀ c, Tryd.f56.body = some c → ∀ q ∈ loopsOf 0 c, ∀ L, (log10p_E (A := A) n).lps.lookup q.1 = some L → LoopOK Tryd.prog gls q.2 L :=
  lo_body (E := log10p_E n) (by kernel_rfl : Tryd.f56.body = some (bodyOf Tryd.f56)) (lo_of (E := log10p_E n) (by kernel_rfl : loopsOf 0 (bodyOf Tryd.f56) = []) lo_nil)
theorem log10p_ok (n : Nat) : FnOK Tryd.prog gls 56 (log10p_ent (A := A) (log10p_k n)) :=
  FnOK.of (log10p_T n) (log10p_fns n) follows ⟨Tryd.func56, by kernel_rfl⟩ (log10p_lo n) (rm := [.pure]) fun args k out h => by
    obtain ⟨a0, e, h1⟩ := args1_sound h
    subst e; rw [log10p_eq]; exact h1

end Go.Ev
end

section
/-
  FUNCTION 57: printed by a program of our own (wip/gen/st.py). 'internal/strconv.bool2[int]', in continuation form; the evaluator gives it.
-/
set_option linter.all false
set_option maxRecDepth 100000
namespace Go.Ev
open Go.Proofs
variable {A : Type}

-- ============================================================ bool2 (function 57)
def bool2_p (n : Nat) (a0 : Bool) (k : Int → Option A) : Option A :=
  bif a0 then
    k 1
  else
    k 0

def bool2_k (n : Nat) (a0 : Bool) (k : Int → Option A) : Option A := bool2_p n a0 k

noncomputable def bool2_E (n : Nat) : Env A := ⟨tys, gls, [], [], []⟩
theorem bool2_T {A : Type} (n : Nat) : TyOK Tryd.prog (bool2_E (A := A) n) := tyOK_of rfl tysB
theorem bool2_fns (n : Nat) : FnsOK Tryd.prog (bool2_E (A := A) n) := AllOK.env rfl rfl AllOK.nil
theorem bool2_eqg (n : Nat) (a0 : Bool) (k : AV → List Blk → Option A) : fnK (bool2_E n) Tryd.f57 [.pure] [.p .bool a0] [] k = bool2_p n a0 (fun r0 => k (.p (.int .i64) r0) []) := by kernel_rfl
theorem bool2_eq (n : Nat) (a0 : Bool) (k : AV → List Blk → Option A) : fnK (bool2_E n) Tryd.f57 [.pure] [.p .bool a0] [] k = bool2_k n a0 (fun r0 => k (.p (.int .i64) r0) []) := bool2_eqg n a0 k
def bool2_ent (g : Bool → (Int → Option A) → Option A) : Entry A := pureE fun args k => args1 args .bool fun a0 => g a0 (fun r0 => k (.p (.int .i64) r0) [])
theorem bool2_lo (n : Nat) : ∀ c, Tryd.f57.body = some c → ∀ q ∈ loopsOf 0 c, ∀ L, (bool2_E (A := A) n).lps.lookup q.1 = some L → LoopOK Tryd.prog gls q.2 L :=
  lo_body (E := bool2_E n) (by kernel_rfl : Tryd.f57.body = some (bodyOf Tryd.f57)) (lo_of (E := bool2_E n) (by kernel_rfl : loopsOf 0 (bodyOf Tryd.f57) = []) lo_nil)
theorem bool2_ok (n : Nat) : FnOK Tryd.prog gls 57 (bool2_ent (A := A) (bool2_k n)) :=
  FnOK.of (bool2_T n) (bool2_fns n) follows ⟨Tryd.func57, by kernel_rfl⟩ (bool2_lo n) (rm := [.pure]) fun args k out h => by
    obtain ⟨a0, e, h1⟩ := args1_sound h
    subst e; rw [bool2_eq]; exact h1

end Go.Ev
end

