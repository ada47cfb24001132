import Derived.Test.YtpblkfccnaapbaaDoorB5
import Derived.Test.YtpblkfccnaapbaaDoorB0
import Derived.Test.YtpblkfccnaapbaaDoorB4
set_option linter.all false
section
/-
  FUNCTION 26: printed by a program of our own (wip/gen/st.py). 'masthead/mastheadref04.Add', in continuation form; the evaluator gives it.
-/
set_option linter.all false
set_option maxRecDepth 100000
namespace Go.Ev
open Go.Proofs
variable {A : Type}

-- ============================================================ add (function 26)
def add_b0 (g_trim : (List Int) → ((List Int) → Option A) → Option A) (n : Nat) (a : (List Int)) (b : (List Int)) (k0 : (List Int) → Option A) (r : Int → Int → (List Int) → Option A) (c : Int) (i : Int) (out : (List Int)) : Option A :=
  bif (decide (i < (a.length : Int))) then
    bif (decide (i < (a.length : Int))) then
      if 0 ≤ i then
        (a[(Int.toNat i)]?).bind fun y1 =>
        bif (decide (i < (b.length : Int))) then
          if 0 ≤ i then
            (b[(Int.toNat i)]?).bind fun y2 =>
            if (out.length + 1) * 8 ≤ 140737488355328 then
              r (IntKind.wrap .i64 (Int.tdiv (IntKind.wrap .i64 ((IntKind.wrap .i64 (c + y1)) + y2)) 65536)) (IntKind.wrap .i64 (i + 1)) (out ++ [(Int.tmod (IntKind.wrap .i64 ((IntKind.wrap .i64 (c + y1)) + y2)) 65536)])
            else none
          else none
        else
          if (out.length + 1) * 8 ≤ 140737488355328 then
            r (IntKind.wrap .i64 (Int.tdiv (IntKind.wrap .i64 (c + y1)) 65536)) (IntKind.wrap .i64 (i + 1)) (out ++ [(Int.tmod (IntKind.wrap .i64 (c + y1)) 65536)])
          else none
      else none
    else
      bif (decide (i < (b.length : Int))) then
        if 0 ≤ i then
          (b[(Int.toNat i)]?).bind fun y3 =>
          if (out.length + 1) * 8 ≤ 140737488355328 then
            r (IntKind.wrap .i64 (Int.tdiv (IntKind.wrap .i64 (c + y3)) 65536)) (IntKind.wrap .i64 (i + 1)) (out ++ [(Int.tmod (IntKind.wrap .i64 (c + y3)) 65536)])
          else none
        else none
      else
        if (out.length + 1) * 8 ≤ 140737488355328 then
          r (IntKind.wrap .i64 (Int.tdiv c 65536)) (IntKind.wrap .i64 (i + 1)) (out ++ [(Int.tmod c 65536)])
        else none
  else
    bif (decide (i < (b.length : Int))) then
      bif (decide (i < (a.length : Int))) then
        if 0 ≤ i then
          (a[(Int.toNat i)]?).bind fun y4 =>
          bif (decide (i < (b.length : Int))) then
            if 0 ≤ i then
              (b[(Int.toNat i)]?).bind fun y5 =>
              if (out.length + 1) * 8 ≤ 140737488355328 then
                r (IntKind.wrap .i64 (Int.tdiv (IntKind.wrap .i64 ((IntKind.wrap .i64 (c + y4)) + y5)) 65536)) (IntKind.wrap .i64 (i + 1)) (out ++ [(Int.tmod (IntKind.wrap .i64 ((IntKind.wrap .i64 (c + y4)) + y5)) 65536)])
              else none
            else none
          else
            if (out.length + 1) * 8 ≤ 140737488355328 then
              r (IntKind.wrap .i64 (Int.tdiv (IntKind.wrap .i64 (c + y4)) 65536)) (IntKind.wrap .i64 (i + 1)) (out ++ [(Int.tmod (IntKind.wrap .i64 (c + y4)) 65536)])
            else none
        else none
      else
        bif (decide (i < (b.length : Int))) then
          if 0 ≤ i then
            (b[(Int.toNat i)]?).bind fun y6 =>
            if (out.length + 1) * 8 ≤ 140737488355328 then
              r (IntKind.wrap .i64 (Int.tdiv (IntKind.wrap .i64 (c + y6)) 65536)) (IntKind.wrap .i64 (i + 1)) (out ++ [(Int.tmod (IntKind.wrap .i64 (c + y6)) 65536)])
            else none
          else none
        else
          if (out.length + 1) * 8 ≤ 140737488355328 then
            r (IntKind.wrap .i64 (Int.tdiv c 65536)) (IntKind.wrap .i64 (i + 1)) (out ++ [(Int.tmod c 65536)])
          else none
    else
      bif (decide (c > 0)) then
        bif (decide (i < (a.length : Int))) then
          if 0 ≤ i then
            (a[(Int.toNat i)]?).bind fun y7 =>
            bif (decide (i < (b.length : Int))) then
              if 0 ≤ i then
                (b[(Int.toNat i)]?).bind fun y8 =>
                if (out.length + 1) * 8 ≤ 140737488355328 then
                  r (IntKind.wrap .i64 (Int.tdiv (IntKind.wrap .i64 ((IntKind.wrap .i64 (c + y7)) + y8)) 65536)) (IntKind.wrap .i64 (i + 1)) (out ++ [(Int.tmod (IntKind.wrap .i64 ((IntKind.wrap .i64 (c + y7)) + y8)) 65536)])
                else none
              else none
            else
              if (out.length + 1) * 8 ≤ 140737488355328 then
                r (IntKind.wrap .i64 (Int.tdiv (IntKind.wrap .i64 (c + y7)) 65536)) (IntKind.wrap .i64 (i + 1)) (out ++ [(Int.tmod (IntKind.wrap .i64 (c + y7)) 65536)])
              else none
          else none
        else
          bif (decide (i < (b.length : Int))) then
            if 0 ≤ i then
              (b[(Int.toNat i)]?).bind fun y9 =>
              if (out.length + 1) * 8 ≤ 140737488355328 then
                r (IntKind.wrap .i64 (Int.tdiv (IntKind.wrap .i64 (c + y9)) 65536)) (IntKind.wrap .i64 (i + 1)) (out ++ [(Int.tmod (IntKind.wrap .i64 (c + y9)) 65536)])
              else none
            else none
          else
            if (out.length + 1) * 8 ≤ 140737488355328 then
              r (IntKind.wrap .i64 (Int.tdiv c 65536)) (IntKind.wrap .i64 (i + 1)) (out ++ [(Int.tmod c 65536)])
            else none
      else
        k0 out

def add_l0 (g_trim : (List Int) → ((List Int) → Option A) → Option A) (n : Nat) (a : (List Int)) (b : (List Int)) (k0 : (List Int) → Option A) : Nat → Int → Int → (List Int) → Option A
  | 0 => fun _ _ _ => none
  | f + 1 => add_b0 g_trim n a b k0 (add_l0 g_trim n a b k0 f)

def add_p (g_trim : (List Int) → ((List Int) → Option A) → Option A) (n : Nat) (a0 : (List Int)) (a1 : (List Int)) (k : (List Int) → Option A) : Option A :=
  add_l0 g_trim n a0 a1 (fun y10 =>
    g_trim y10 fun r11 =>
    k r11) n 0 0 []

def add_k (n : Nat) (a0 : (List Int)) (a1 : (List Int)) (k : (List Int) → Option A) : Option A := add_p (trim_k n) n a0 a1 k

noncomputable def add_c0 : Code := codeAt [1, 1, 1, 0, 1, 0, 0] (bodyOf Tryd.f26)
def add_d0 : List Nat := [4, 8, 9, 10, 11, 12, 13, 14, 15, 16, 17, 18, 19, 20, 21, 22, 23, 24, 25, 26, 27, 28, 29, 30, 31, 32, 33, 34, 35, 36, 37, 38, 39, 40, 41, 42, 43, 44, 45, 46, 47, 48, 49, 50, 51, 52]
def add_y0 : List Nat := [0, 1, 2, 3, 4, 6, 7, 8, 9, 10, 11, 12, 13, 14, 15, 16, 17, 18, 19, 20, 21, 22, 23, 24, 25, 26, 27, 28, 29, 30, 31, 32, 33, 34, 35, 36, 37, 38, 39, 40, 41, 42, 43, 44, 45, 46, 47, 48, 49, 50, 51, 52, 53, 54]
def add_sh0 : Shape := ⟨[(.p (.sl (.int .i64))), (.p (.sl (.int .i64))), .any, .any, .any, (.row 0), (.p (.int .i64)), (.p (.int .i64)), .any, .any, .any, .any, .any, .any, .any, .any, .any, .any, .any, .any, .any, .any, .any, .any, .any, .any, .any, .any, .any, .any, .any, .any, .any, .any, .any, .any, .any, .any, .any, .any, .any, .any, .any, .any, .any, .any, .any, .any, .any, .any, .any, .any, .any, .any, .any], [(.row 3 (.int .i64))], 0⟩
def add_t0 (a : (List Int)) (b : (List Int)) (c : Int) (i : Int) (out : (List Int)) : add_sh0.den := ((a, b, (), (), (), (), c, i, (), (), (), (), (), (), (), (), (), (), (), (), (), (), (), (), (), (), (), (), (), (), (), (), (), (), (), (), (), (), (), (), (), (), (), (), (), (), (), (), (), (), (), (), (), (), (), ()), (out, ()))
def add_x0_0 (a : (List Int)) (b : (List Int)) (z0 : (List Int)) : St := ⟨[.any, .any, .any, .any, .any, .row 0, .any, .any, .any, .any, .any, .any, .any, .any, .any, .any, .any, .any, .any, .any, .any, .any, .any, .any, .any, .any, .any, .any, .any, .any, .any, .any, .any, .any, .any, .any, .any, .any, .any, .any, .any, .any, .any, .any, .any, .any, .any, .any, .any, .any, .any, .any, .any, .any, .any], [.row 3 (.int .i64) z0], 0⟩
def add_g0 (g_trim : (List Int) → ((List Int) → Option A) → Option A) (n : Nat) (d : add_sh0.den) (k : Ex → St → Option A) : Option A :=
  add_l0 g_trim n d.1.1 d.1.2.1 (fun z0 => k (.exit 0) (add_x0_0 d.1.1 d.1.2.1 z0)) n d.1.2.2.2.2.2.2.1 d.1.2.2.2.2.2.2.2.1 d.2.1
noncomputable def add_E (g_trim : (List Int) → ((List Int) → Option A) → Option A) (n : Nat) : Env A := ⟨tys, gls, [(41, trim_ent g_trim)], [(0, loopE add_d0 add_sh0 (add_g0 g_trim n))], []⟩
theorem add_T (g_trim : (List Int) → ((List Int) → Option A) → Option A) (n : Nat) : TyOK Tryd.prog (add_E g_trim n) := tyOK_of rfl tysB
theorem add_fns (n : Nat) : FnsOK Tryd.prog (add_E (A := A) (trim_k n) n) := AllOK.env rfl rfl (AllOK.cons (trim_ok n) AllOK.nil)
noncomputable def add_LK0 (g_trim : (List Int) → ((List Int) → Option A) → Option A) (n : Nat) (a : (List Int)) (b : (List Int)) (k : Ex → St → Option A) (f : Nat) (c : Int) (i : Int) (out : (List Int)) : Option A := loopK (codeK (add_E g_trim n) 1 add_c0) add_d0 add_y0 f (add_sh0.fill (add_t0 a b c i out)) k
theorem add_st0 (g_trim : (List Int) → ((List Int) → Option A) → Option A) (n f : Nat) (a : (List Int)) (b : (List Int)) (k : Ex → St → Option A) (c : Int) (i : Int) (out : (List Int)) : add_LK0 g_trim n a b k (f + 1) c i out = add_b0 g_trim n a b (fun z0 => k (.exit 0) (add_x0_0 a b z0)) (add_LK0 g_trim n a b k f) c i out := by kernel_rfl
theorem add_le0 (g_trim : (List Int) → ((List Int) → Option A) → Option A) (n : Nat) (a : (List Int)) (b : (List Int)) (k : Ex → St → Option A) : ∀ (f : Nat) (c : Int) (i : Int) (out : (List Int)), add_LK0 g_trim n a b k f c i out = add_l0 g_trim n a b (fun z0 => k (.exit 0) (add_x0_0 a b z0)) f c i out := by
  intro f
  induction f with
  | zero => intros; kernel_rfl
  | succ f ih => intro c i out; exact (add_st0 g_trim n f a b k c i out).trans ((congrArg (fun r => add_b0 g_trim n a b (fun z0 => k (.exit 0) (add_x0_0 a b z0)) r c i out) (funext fun c => funext fun i => funext fun out => ih c i out)).trans (by kernel_rfl))
theorem add_lo0 (n : Nat) : LoopOK Tryd.prog gls add_c0 (loopE add_d0 add_sh0 (add_g0 (A := A) (trim_k n) n)) :=
  LoopOK.of (add_T (trim_k n) n) (add_fns n) follows (j := 1) (n := n) (xdead := add_y0) (lo_of (by kernel_rfl : loopsOf 1 add_c0 = []) lo_nil) fun d k => Eq.trans (by kernel_rfl) (add_le0 (trim_k n) n d.1.1 d.1.2.1 k n d.1.2.2.2.2.2.2.1 d.1.2.2.2.2.2.2.2.1 d.2.1)
theorem add_eqg (g_trim : (List Int) → ((List Int) → Option A) → Option A) (n : Nat) (a0 : (List Int)) (a1 : (List Int)) (k : AV → List Blk → Option A) : fnK (add_E g_trim n) Tryd.f26 [.pure] [.p (.sl (.int .i64)) a0, .p (.sl (.int .i64)) a1] [] k = add_p g_trim n a0 a1 (fun r0 => k (.p (.sl (.int .i64)) r0) []) := by kernel_rfl
theorem add_eq (n : Nat) (a0 : (List Int)) (a1 : (List Int)) (k : AV → List Blk → Option A) : fnK (add_E (trim_k n) n) Tryd.f26 [.pure] [.p (.sl (.int .i64)) a0, .p (.sl (.int .i64)) a1] [] k = add_k n a0 a1 (fun r0 => k (.p (.sl (.int .i64)) r0) []) := add_eqg (trim_k n) n a0 a1 k
def add_ent (g : (List Int) → (List Int) → ((List Int) → Option A) → Option A) : Entry A := pureE fun args k => args2 args (.sl (.int .i64)) (.sl (.int .i64)) fun a0 a1 => g a0 a1 (fun r0 => k (.p (.sl (.int .i64)) r0) [])
theorem add_lo (n : Nat) : ∀ c, Tryd.f26.body = some c → ∀ q ∈ loopsOf 0 c, ∀ L, (add_E (A := A) (trim_k n) n).lps.lookup q.1 = some L → LoopOK Tryd.prog gls q.2 L :=
  lo_body (E := add_E (trim_k n) n) (by kernel_rfl : Tryd.f26.body = some (bodyOf Tryd.f26)) (lo_of (E := add_E (trim_k n) n) (by kernel_rfl : loopsOf 0 (bodyOf Tryd.f26) = [(0, add_c0)]) (lo_cons rfl (add_lo0 n) lo_nil))
theorem add_ok (n : Nat) : FnOK Tryd.prog gls 26 (add_ent (A := A) (add_k n)) :=
  FnOK.of (add_T (trim_k n) n) (add_fns n) follows ⟨Tryd.func26, by kernel_rfl⟩ (add_lo n) (rm := [.pure]) fun args k out h => by
    obtain ⟨a0, a1, e, h1⟩ := args2_sound h
    subst e; rw [add_eq]; exact h1

end Go.Ev
end

section
/-
  NUMBERS AS LISTS OF DIGITS: plain laws of the printed functions: noughts left off, words, which is less, powers of two, products, sums.
-/
set_option linter.all false
namespace Go.Ev
variable {A : Type}

theorem trim_l0_law (n : Nat) (l : List Nat) (hl : l.length < 100000) (k0 : Int → Option A) : ∀ (i f : Nat), i ≤ l.length → i < f → (∀ j, i ≤ j → (h : j < l.length) → l[j] = 0) →
    ∃ m, m ≤ l.length ∧ (∀ j, m ≤ j → (h : j < l.length) → l[j] = 0) ∧ (∀ (h : 0 < m) (h2 : m - 1 < l.length), l[m - 1] ≠ 0) ∧ trim_l0 n (ints l) k0 f (i : Int) = k0 (m : Int)
  | _, 0, _, h, _ => by omega
  | 0, f + 1, _, _, hz => ⟨0, by omega, hz, fun h => by omega, by simp only [trim_l0, trim_b0]; rfl⟩
  | i + 1, f + 1, hi, hf, hz => by
    have hlt : i < l.length := by omega
    have e : decide (((i + 1 : Nat) : Int) > 0) = true := decide_eq_true (by omega)
    have hw : IntKind.wrap .i64 (((i + 1 : Nat) : Int) - 1) = (i : Int) := (wrap_id (by omega) (by omega)).trans (by omega)
    by_cases h0 : l[i] = 0
    · obtain ⟨m, h1, h2, h3, h4⟩ := trim_l0_law n l hl k0 i f (by omega) (by omega) (fun j hj hlj => by
        rcases Nat.lt_or_ge i j with h | h
        · exact hz j (by omega) hlj
        · have : j = i := by omega
          subst this; exact h0)
      refine ⟨m, h1, h2, h3, ?_⟩
      simp only [trim_l0, trim_b0]
      rw [e, cond_true, hw, if_pos (by omega), Int.toNat_natCast, ints_at l i hlt, Option.bind_some, h0]
      exact h4
    · refine ⟨i + 1, hi, hz, fun _ _ => h0, ?_⟩
      simp only [trim_l0, trim_b0]
      have e2 : (((l[i] : Nat) : Int) == 0) = false := by simp; omega
      rw [e, cond_true, hw, if_pos (by omega), Int.toNat_natCast, ints_at l i hlt, Option.bind_some, e2, cond_false]

theorem trim_law (n : Nat) (l : List Nat) (hd : Dig l) (hl : l.length < 100000) (hn : l.length < n) (g : List Int → Option A) : trim_k n (ints l) g = g (ints (dig (bval l))) := by
  unfold trim_k trim_p
  obtain ⟨m, h1, h2, h3, h4⟩ := trim_l0_law n l hl (fun y2 => if 0 ≤ y2 then if y2 ≤ ((ints l).length : Int) then g (((ints l).drop 0).take ((Int.toNat y2) - 0)) else none else none) l.length n (Nat.le_refl _) hn (fun j hj h => by omega)
  rw [ints_length] at h4 ⊢
  refine Eq.trans h4 ?_
  rw [if_pos (by omega), if_pos (by omega), Int.toNat_natCast, List.drop_zero, Nat.sub_zero, ints_take, dig_take l hd m h1 h2 fun h => h3 h (by omega)]

-- ------------------------------------------------------------ of words

def d4 (w : Nat) : List Nat := [w % 65536, w / 65536 % 65536, w / 4294967296 % 65536, w / 281474976710656 % 65536]

theorem d4_bval (w : Nat) (h : w < 18446744073709551616) : bval (d4 w) = w := by unfold d4; simp only [bval]; omega
theorem d4_Dig (w : Nat) : Dig (d4 w) := fun x hx => by
  simp only [d4, List.mem_cons, List.not_mem_nil, or_false] at hx
  rcases hx with rfl | rfl | rfl | rfl <;> omega

theorem of_l1_step (G : List Int → (List Int → Option A) → Option A) (n : Nat) (t7 : List Int) (t8 t9 : Int) (k0 : List Int → Option A) (f w i : Nat) (hw : w < 18446744073709551616) (hi : i < 4) (out : List Nat) (ho : out.length < 100000) :
    of_l1 G n t7 t8 t9 k0 (f + 1) (w : Int) (i : Int) (ints out) = of_l1 G n t7 t8 t9 k0 f ((w / 65536 : Nat) : Int) ((i + 1 : Nat) : Int) (ints (out ++ [w % 65536])) := by
  rw [of_l1, of_b1]
  have e : decide ((i : Int) < 4) = true := by simp; omega
  have e1 : IntKind.wrap .u64 (Int.tdiv (w : Int) 65536) = ((w / 65536 : Nat) : Int) := by
    rw [show (65536 : Int) = ((65536 : Nat) : Int) from rfl, tdiv_nat]; exact wrap_u64_nat _ (by omega)
  have e2 : IntKind.wrap .i64 ((i : Int) + 1) = ((i + 1 : Nat) : Int) := by rw [wrap_id (by omega) (by omega)]; omega
  have e3 : IntKind.wrap .i64 (Int.tmod (w : Int) 65536) = ((w % 65536 : Nat) : Int) := by
    rw [show (65536 : Int) = ((65536 : Nat) : Int) from rfl, tmod_nat]; exact wrap_id (by omega) (by omega)
  rw [e, cond_true, if_pos (by rw [ints_length]; omega), e1, e2, e3, ints_snoc]

theorem of_l1_law (G : List Int → (List Int → Option A) → Option A) (n : Nat) (t7 : List Int) (t8 t9 : Int) (k0 : List Int → Option A) (f w : Nat) (hf : 4 < f) (hw : w < 18446744073709551616) (out : List Nat) (ho : out.length < 10000) :
    of_l1 G n t7 t8 t9 k0 f (w : Int) 0 (ints out) = k0 (ints (out ++ d4 w)) := by
  obtain ⟨f, rfl⟩ : ∃ g, f = g + 1 + 1 + 1 + 1 + 1 := ⟨f - 5, by omega⟩
  have h0 := of_l1_step G n t7 t8 t9 k0 (f + 1 + 1 + 1 + 1) w 0 hw (by decide) out (by omega)
  have h1 := of_l1_step G n t7 t8 t9 k0 (f + 1 + 1 + 1) (w / 65536) 1 (by omega) (by decide) (out ++ [w % 65536]) (by simp; omega)
  have h2 := of_l1_step G n t7 t8 t9 k0 (f + 1 + 1) (w / 65536 / 65536) 2 (by omega) (by decide) (out ++ [w % 65536] ++ [w / 65536 % 65536]) (by simp; omega)
  have h3 := of_l1_step G n t7 t8 t9 k0 (f + 1) (w / 65536 / 65536 / 65536) 3 (by omega) (by decide) (out ++ [w % 65536] ++ [w / 65536 % 65536] ++ [w / 65536 / 65536 % 65536]) (by simp; omega)
  refine h0.trans (h1.trans (h2.trans (h3.trans ?_)))
  rw [of_l1, of_b1]
  have e : decide (((3 + 1 : Nat) : Int) < 4) = false := by decide
  rw [e, cond_false]
  unfold d4
  rw [Nat.div_div_eq_div_mul, Nat.div_div_eq_div_mul]
  simp [List.append_assoc]

theorem of_l0_law (G : List Int → (List Int → Option A) → Option A) (n : Nat) (hn : 4 < n) (k0 : List Int → Option A) (ws : List Nat) (hw : Wd ws) (hl : ws.length < 1000) : ∀ (d f i : Nat) (out : List Nat), i + d = ws.length → d < f → out.length ≤ 4 * i →
    of_l0 G n (ints ws) (ws.length : Int) k0 f (i : Int) (ints out) = k0 (ints (out ++ (ws.drop i).flatMap d4))
  | _, 0, _, _, _, h, _ => by omega
  | 0, f + 1, i, out, hi, _, _ => by
    have : i = ws.length := by omega
    subst this
    rw [of_l0, of_b0]
    have e : decide ((ws.length : Int) < (ws.length : Int)) = false := by simp
    rw [e, cond_false, List.drop_length]; simp
  | d + 1, f + 1, i, out, hi, hf, ho => by
    have hlt : i < ws.length := by omega
    rw [of_l0, of_b0]
    have e : decide ((i : Int) < (ws.length : Int)) = true := by simp; omega
    have e2 : IntKind.wrap .i64 ((i : Int) + 1) = ((i + 1 : Nat) : Int) := by rw [wrap_id (by omega) (by omega)]; omega
    rw [e, cond_true, if_pos (by omega), Int.toNat_natCast, ints_at ws i hlt, Option.bind_some, of_l1_law G n _ _ _ _ n _ hn (hw _ (List.getElem_mem hlt)) out (by omega), e2]
    rw [of_l0_law G n hn k0 ws hw hl d f (i + 1) (out ++ d4 ws[i]) (by omega) (by omega) (by simp [d4]; omega)]
    rw [List.drop_eq_getElem_cons hlt, List.flatMap_cons, List.append_assoc]

theorem flat_d4 : ∀ (ws : List Nat), Wd ws → bval (ws.flatMap d4) = wval ws ∧ Dig (ws.flatMap d4)
  | [], _ => ⟨rfl, fun x hx => by cases hx⟩
  | w :: r, h => by
    obtain ⟨h1, h2⟩ := flat_d4 r fun x hx => h x (by simp [hx])
    have hw := h w (by simp)
    refine ⟨?_, fun x hx => ?_⟩
    · have e : 65536 ^ (d4 w).length = 18446744073709551616 := by simp [d4]
      rw [List.flatMap_cons, bval_append, d4_bval w hw, h1, e, wval]
    · rw [List.flatMap_cons] at hx
      rcases List.mem_append.1 hx with hx | hx
      · exact d4_Dig w x hx
      · exact h2 x hx

theorem of_law (n : Nat) (ws : List Nat) (hw : Wd ws) (hl : ws.length < 100) (hn : 401 < n) (g : List Int → Option A) : of_k n (ints ws) g = g (ints (dig (wval ws))) := by
  unfold of_k of_p
  rw [ints_length]
  have h0 := of_l0_law (trim_k n) n (by omega) (fun y3 => trim_k n y3 fun r4 => g r4) ws hw (by omega) ws.length n 0 [] (by omega) (by omega) (by simp)
  refine Eq.trans h0 ?_
  rw [List.drop_zero, List.nil_append]
  obtain ⟨h1, h2⟩ := flat_d4 ws hw
  have hlen : (ws.flatMap d4).length = 4 * ws.length := by
    have : ∀ ws : List Nat, (ws.flatMap d4).length = 4 * ws.length := fun ws => by
      induction ws with
      | nil => rfl
      | cons w r ih => rw [List.flatMap_cons, List.length_append, ih]; simp [d4]; omega
    exact this ws
  rw [trim_law n _ h2 (by omega) (by omega), h1]

-- ------------------------------------------------------------ which is less

theorem less_l0_law (n : Nat) (a b : List Nat) (ha : Dig a) (hb : Dig b) (hab : a.length = b.length) (hl : a.length < 100000) (g : Bool → Option A) : ∀ (i f : Nat), i ≤ a.length → i < f →
    less_l0 n (ints a) (ints b) (fun y5 => g y5) (g false) f ((i : Int) - 1) = g (decide (bval (a.take i) < bval (b.take i)))
  | _, 0, _, h => by omega
  | 0, f + 1, _, _ => by
    rw [less_l0, less_b0]
    have e : decide (((0 : Nat) : Int) - 1 ≥ 0) = false := by decide
    rw [e, cond_false]
    simp [bval]
  | i + 1, f + 1, hi, hf => by
    have hlt : i < a.length := by omega
    have hlt2 : i < b.length := by omega
    rw [less_l0, less_b0]
    have e0 : ((i + 1 : Nat) : Int) - 1 = (i : Int) := by omega
    rw [e0]
    have e : decide ((i : Int) ≥ 0) = true := by simp
    have e2 : IntKind.wrap .i64 ((i : Int) - 1) = (i : Int) - 1 := wrap_id (by omega) (by omega)
    rw [e, cond_true, if_pos (by omega), Int.toNat_natCast, ints_at a i hlt, Option.bind_some, if_pos (by omega), ints_at b i hlt2, Option.bind_some, e2, bval_take hlt, bval_take hlt2]
    have h1 := bval_lt (a.take i) (ha.take i)
    have h2 := bval_lt (b.take i) (hb.take i)
    rw [List.length_take, Nat.min_eq_left (by omega)] at h1 h2
    have ih := less_l0_law n a b ha hb hab hl g i f (by omega) (by omega)
    by_cases hq : a[i] = b[i]
    · have e3 : (((a[i] : Nat) : Int) != ((b[i] : Nat) : Int)) = false := by rw [hq]; simp
      rw [e3, cond_false, ih, hq]
      congr 1
      simp
    · have e3 : (((a[i] : Nat) : Int) != ((b[i] : Nat) : Int)) = true := by simp; omega
      rw [e3, cond_true, if_pos (by omega), Option.bind_some, if_pos (by omega), Option.bind_some]
      congr 1
      rw [decide_eq_decide]
      generalize bval (a.take i) = p at *
      generalize bval (b.take i) = q at *
      generalize a[i] = x at *
      generalize b[i] = y at *
      generalize 65536 ^ i = M at *
      constructor
      · intro h
        have : M * (x + 1) ≤ M * y := Nat.mul_le_mul_left _ (by omega)
        rw [Nat.mul_add, Nat.mul_one] at this
        omega
      · intro h
        rcases Nat.lt_or_ge x y with h3 | h3
        · omega
        · have : M * (y + 1) ≤ M * x := Nat.mul_le_mul_left _ (by omega)
          rw [Nat.mul_add, Nat.mul_one] at this
          omega

theorem less_law (n x y : Nat) (hx : (dig x).length < 100000) (hn : (dig x).length < n) (g : Bool → Option A) : less_k n (ints (dig x)) (ints (dig y)) g = g (decide (x < y)) := by
  unfold less_k less_p
  rw [ints_length, ints_length]
  by_cases h : (dig x).length = (dig y).length
  · have e : (((dig x).length : Int) != ((dig y).length : Int)) = false := by rw [h]; simp
    have e2 : IntKind.wrap .i64 (((dig x).length : Int) - 1) = ((dig x).length : Int) - 1 := wrap_id (by omega) (by omega)
    rw [e, cond_false, e2]
    have := less_l0_law n (dig x) (dig y) (dig_Dig x) (dig_Dig y) h hx g (dig x).length n (Nat.le_refl _) hn
    rw [List.take_length, h, List.take_length, bval_dig, bval_dig] at this
    rw [h]
    exact this
  · have e : (((dig x).length : Int) != ((dig y).length : Int)) = true := by simp; omega
    rw [e, cond_true]
    congr 1
    rw [decide_eq_decide]
    constructor
    · intro h1; exact dig_lt_of_len (by omega)
    · intro h1
      rcases Nat.lt_or_ge (dig x).length (dig y).length with h2 | h2
      · omega
      · have := dig_lt_of_len (x := y) (y := x) (by omega); omega

-- ------------------------------------------------------------ powers of two

theorem pow__l0_law (n k : Nat) (hk : k < 100000) (g : List Int → Option A) : ∀ (d f i : Nat), i + d = k % 16 → d < f →
    pow__l0 n (k : Int) g f (i : Int) (ints (List.replicate (k / 16) 0 ++ [2 ^ i])) = g (ints (List.replicate (k / 16) 0 ++ [2 ^ (k % 16)]))
  | _, 0, _, _, h => by omega
  | 0, f + 1, i, hi, _ => by
    have : i = k % 16 := by omega
    subst this
    rw [pow__l0, pow__b0]
    have e : decide (((k % 16 : Nat) : Int) < Int.tmod (k : Int) 16) = false := by rw [show (16 : Int) = ((16 : Nat) : Int) from rfl, tmod_nat]; simp
    rw [e, cond_false]
  | d + 1, f + 1, i, hi, hf => by
    rw [pow__l0, pow__b0]
    have e : decide ((i : Int) < Int.tmod (k : Int) 16) = true := by rw [show (16 : Int) = ((16 : Nat) : Int) from rfl, tmod_nat]; simp; omega
    have e1 : IntKind.wrap .i64 (Int.tdiv (k : Int) 16) = ((k / 16 : Nat) : Int) := by rw [show (16 : Int) = ((16 : Nat) : Int) from rfl, tdiv_nat]; exact wrap_id (by omega) (by omega)
    have e2 : IntKind.wrap .i64 ((i : Int) + 1) = ((i + 1 : Nat) : Int) := by rw [wrap_id (by omega) (by omega)]; omega
    have hlen : (List.replicate (k / 16) 0 ++ [2 ^ i]).length = k / 16 + 1 := by simp
    have hp : 2 ^ (i + 1) ≤ 2 ^ 16 := Nat.pow_le_pow_right (by decide) (by omega)
    have hat : (List.replicate (k / 16) 0 ++ [2 ^ i])[k / 16]'(by omega) = 2 ^ i := by rw [List.getElem_append_right (by simp)]; simp
    have e3 : IntKind.wrap .i64 (((2 ^ i : Nat) : Int) * 2) = ((2 ^ (i + 1) : Nat) : Int) := by
      rw [Nat.pow_succ] at hp ⊢
      rw [wrap_id (by omega) (by omega)]; omega
    have hset : (List.replicate (k / 16) 0 ++ [2 ^ i]).set (k / 16) (2 ^ (i + 1)) = List.replicate (k / 16) 0 ++ [2 ^ (i + 1)] := by
      rw [List.set_append_right _ _ (by simp)]; simp
    rw [e, cond_true, e1, if_pos (by omega), if_pos (by rw [ints_length, hlen]; omega), Int.toNat_natCast, ints_at _ _ (by omega), Option.bind_some, hat, if_pos (by omega), if_pos (by rw [ints_length, hlen]; omega), if_pos (by rw [ints_length, hlen]; omega), e2, e3, ints_set, hset]
    exact pow__l0_law n k hk g d f (i + 1) (by omega) (by omega)

theorem pow_law (n k : Nat) (hk : k < 10000) (hn : 20 < n) (g : List Int → Option A) : pow__k n (k : Int) g = g (ints (dig (2 ^ k))) := by
  unfold pow__k pow__p
  have e1 : IntKind.wrap .i64 (Int.tdiv (k : Int) 16) = ((k / 16 : Nat) : Int) := by rw [show (16 : Int) = ((16 : Nat) : Int) from rfl, tdiv_nat]; exact wrap_id (by omega) (by omega)
  have e2 : IntKind.wrap .i64 (((k / 16 : Nat) : Int) + 1) = ((k / 16 + 1 : Nat) : Int) := by rw [wrap_id (by omega) (by omega)]; omega
  have hz : List.replicate (k / 16 + 1) (0 : Int) = ints (List.replicate (k / 16 + 1) 0) := by simp [ints]
  have hset : (List.replicate (k / 16 + 1) 0).set (k / 16) 1 = List.replicate (k / 16) 0 ++ [2 ^ 0] := by
    rw [List.replicate_succ', List.set_append_right _ _ (by simp)]; simp
  rw [e1, e2, if_pos (by omega), if_pos (by omega), if_pos (by omega), Int.toNat_natCast, if_pos (by omega), if_pos (by simp; omega), Int.toNat_natCast, if_pos (by simp), hz, show (1 : Int) = ((1 : Nat) : Int) from rfl, ints_set, hset]
  have h := pow__l0_law n k (by omega) (fun y2 => g y2) (k % 16) n 0 (by omega) (by omega)
  refine Eq.trans h ?_
  have hd : Dig (List.replicate (k / 16) 0 ++ [2 ^ (k % 16)]) := fun x hx => by
    have hp : 2 ^ (k % 16) ≤ 2 ^ 15 := Nat.pow_le_pow_right (by decide) (by omega)
    simp only [List.mem_append, List.mem_replicate, List.mem_singleton] at hx
    rcases hx with ⟨_, rfl⟩ | rfl <;> omega
  have hb : bval (List.replicate (k / 16) 0 ++ [2 ^ (k % 16)]) = 2 ^ k := by
    rw [bval_snoc, bval_zeros, List.length_replicate, Nat.zero_add, show 65536 = 2 ^ 16 from rfl, ← Nat.pow_mul, ← Nat.pow_add]
    congr 1; omega
  rw [← hb, dig_bval _ hd fun _ => by simp]

-- ------------------------------------------------------------ products

theorem mul_l1_law (G : List Int → (List Int → Option A) → Option A) (n : Nat) (a b : List Nat) (ha : Dig a) (hb : Dig b) (i : Nat) (hi : i < a.length) (hl : a.length + b.length < 100000) (T : Nat) (hT : T < 65536 ^ (i + 1 + b.length)) (k0 : List Int → Option A) :
    ∀ (d f j c : Nat) (out : List Nat), j + d = b.length + 1 → d < f → Dig out → out.length = a.length + b.length + 1 → c < 65536 → bval out + 65536 ^ (i + j) * (c + a[i] * bval (b.drop j)) = T →
    ∃ out', Dig out' ∧ out'.length = a.length + b.length + 1 ∧ bval out' = T ∧ mul_l1 G n (ints a) (ints b) (i : Int) k0 f (c : Int) (j : Int) (ints out) = k0 (ints out')
  | _, 0, _, _, _, _, h, _, _, _, _ => by omega
  | d, f + 1, j, c, out, hj, hf, hd, ho, hc, hv => by
    have hij : IntKind.wrap .i64 ((i : Int) + (j : Int)) = ((i + j : Nat) : Int) := by rw [wrap_id (by omega) (by omega)]; omega
    have e2 : IntKind.wrap .i64 ((j : Int) + 1) = ((j + 1 : Nat) : Int) := by rw [wrap_id (by omega) (by omega)]; omega
    by_cases hjb : j < b.length
    · have e : decide ((j : Int) < ((ints b).length : Int)) = true := by rw [ints_length]; simp; omega
      have hlt : i + j < out.length := by omega
      have x1 := hd.at hlt
      have x2 := ha.at hi
      have x3 := hb.at hjb
      have x4 : a[i] * b[j] ≤ 65535 * 65535 := Nat.mul_le_mul (by omega) (by omega)
      have n1 : IntKind.wrap .i64 (((out[i + j] : Nat) : Int) + (c : Int)) = ((out[i + j] + c : Nat) : Int) := by rw [wrap_id (by omega) (by omega)]; omega
      have n2 : IntKind.wrap .i64 (((a[i] : Nat) : Int) * ((b[j] : Nat) : Int)) = ((a[i] * b[j] : Nat) : Int) := by rw [← Int.natCast_mul]; exact wrap_id (by omega) (by omega)
      have n3 : IntKind.wrap .i64 (((out[i + j] + c : Nat) : Int) + ((a[i] * b[j] : Nat) : Int)) = ((out[i + j] + c + a[i] * b[j] : Nat) : Int) := by rw [wrap_id (by omega) (by omega)]; omega
      have n4 : IntKind.wrap .i64 (Int.tdiv ((out[i + j] + c + a[i] * b[j] : Nat) : Int) 65536) = (((out[i + j] + c + a[i] * b[j]) / 65536 : Nat) : Int) := by rw [show (65536 : Int) = ((65536 : Nat) : Int) from rfl, tdiv_nat]; exact wrap_id (by omega) (by omega)
      have n5 : Int.tmod ((out[i + j] + c + a[i] * b[j] : Nat) : Int) 65536 = (((out[i + j] + c + a[i] * b[j]) % 65536 : Nat) : Int) := by rw [show (65536 : Int) = ((65536 : Nat) : Int) from rfl, tmod_nat]
      obtain ⟨d', rfl⟩ : ∃ d', d = d' + 1 := ⟨d - 1, by omega⟩
      have hs := bval_set out (i + j) ((out[i + j] + c + a[i] * b[j]) % 65536) hlt
      rw [bval_drop hjb] at hv
      have hv' : bval (out.set (i + j) ((out[i + j] + c + a[i] * b[j]) % 65536)) + 65536 ^ (i + (j + 1)) * ((out[i + j] + c + a[i] * b[j]) / 65536 + a[i] * bval (b.drop (j + 1))) = T := by
        rw [← Nat.add_assoc, Nat.pow_succ]
        generalize 65536 ^ (i + j) = P at *
        have q := Nat.div_add_mod (out[i + j] + c + a[i] * b[j]) 65536
        have hm : a[i] * (b[j] + 65536 * bval (b.drop (j + 1))) = a[i] * b[j] + 65536 * (a[i] * bval (b.drop (j + 1))) := by rw [Nat.mul_add, Nat.mul_left_comm]
        rw [hm] at hv
        generalize a[i] * b[j] = ab at *
        generalize a[i] * bval (b.drop (j + 1)) = aB at *
        generalize out[i + j] = o at *
        generalize (o + c + ab) / 65536 = q1 at *
        generalize (o + c + ab) % 65536 = r1 at *
        have h5 : P * (o + c + ab) = P * (65536 * q1 + r1) := by rw [q]
        have h6 : P * 65536 * (q1 + aB) = P * (65536 * q1) + P * (65536 * aB) := by rw [Nat.mul_assoc, Nat.mul_add, Nat.mul_add]
        have h7 : P * (c + (ab + 65536 * aB)) = P * c + P * ab + P * (65536 * aB) := by rw [Nat.mul_add, Nat.mul_add, Nat.add_assoc]
        rw [Nat.mul_add, Nat.mul_add, Nat.mul_add] at h5
        rw [h6]
        rw [h7] at hv
        omega
      obtain ⟨out', g1, g2, g3, g4⟩ := mul_l1_law G n a b ha hb i hi hl T hT k0 d' f (j + 1) ((out[i + j] + c + a[i] * b[j]) / 65536) (out.set (i + j) ((out[i + j] + c + a[i] * b[j]) % 65536)) (by omega) (by omega) (hd.set _ (by omega)) (by simp [ho]) (by omega) hv'
      refine ⟨out', g1, g2, g3, ?_⟩
      rw [mul_l1, mul_b1]
      rw [e, cond_true, hij, if_pos (by omega), if_pos (by rw [ints_length]; omega), Int.toNat_natCast, ints_at out _ hlt, Option.bind_some, cond_true, if_pos (by omega), Int.toNat_natCast, ints_at a i hi, Option.bind_some, if_pos (by omega), Int.toNat_natCast, ints_at b j hjb, Option.bind_some,
        if_pos (by omega), if_pos (by rw [ints_length]; omega), if_pos (by rw [ints_length]; omega), n1, n2, n3, n4, n5, e2, ints_set]
      exact g4
    · have e : decide ((j : Int) < ((ints b).length : Int)) = false := by rw [ints_length]; simp; omega
      have hdr : b.drop j = [] := List.drop_eq_nil_of_le (by omega)
      rw [hdr] at hv
      simp only [bval, Nat.mul_zero, Nat.add_zero] at hv
      by_cases hc0 : c = 0
      · subst hc0
        refine ⟨out, hd, ho, by simpa using hv, ?_⟩
        rw [mul_l1, mul_b1]
        have e3 : decide (((0 : Nat) : Int) > 0) = false := by decide
        rw [e, cond_false, e3, cond_false]
      · have e3 : decide ((c : Int) > 0) = true := by simp; omega
        -- there is room
        have hjl : j ≤ b.length := by
          rcases Nat.lt_or_ge b.length j with h | h
          · exfalso
            have h1 : 65536 ^ (i + 1 + b.length) ≤ 65536 ^ (i + j) := Nat.pow_le_pow_right (by decide) (by omega)
            have h2 : 65536 ^ (i + j) * 1 ≤ 65536 ^ (i + j) * c := Nat.mul_le_mul_left _ (by omega)
            omega
          · exact h
        have hlt : i + j < out.length := by omega
        have x1 := hd.at hlt
        have n1 : IntKind.wrap .i64 (((out[i + j] : Nat) : Int) + (c : Int)) = ((out[i + j] + c : Nat) : Int) := by rw [wrap_id (by omega) (by omega)]; omega
        have n4 : IntKind.wrap .i64 (Int.tdiv ((out[i + j] + c : Nat) : Int) 65536) = (((out[i + j] + c) / 65536 : Nat) : Int) := by rw [show (65536 : Int) = ((65536 : Nat) : Int) from rfl, tdiv_nat]; exact wrap_id (by omega) (by omega)
        have n5 : Int.tmod ((out[i + j] + c : Nat) : Int) 65536 = (((out[i + j] + c) % 65536 : Nat) : Int) := by rw [show (65536 : Int) = ((65536 : Nat) : Int) from rfl, tmod_nat]
        obtain ⟨d', rfl⟩ : ∃ d', d = d' + 1 := ⟨d - 1, by omega⟩
        have hs := bval_set out (i + j) ((out[i + j] + c) % 65536) hlt
        have hdr2 : b.drop (j + 1) = [] := List.drop_eq_nil_of_le (by omega)
        have hv' : bval (out.set (i + j) ((out[i + j] + c) % 65536)) + 65536 ^ (i + (j + 1)) * ((out[i + j] + c) / 65536 + a[i] * bval (b.drop (j + 1))) = T := by
          rw [hdr2, ← Nat.add_assoc, Nat.pow_succ]
          simp only [bval, Nat.mul_zero, Nat.add_zero]
          generalize 65536 ^ (i + j) = P at *
          have q := Nat.div_add_mod (out[i + j] + c) 65536
          generalize out[i + j] = o at *
          generalize (o + c) / 65536 = q1 at *
          generalize (o + c) % 65536 = r1 at *
          have h5 : P * (o + c) = P * (65536 * q1 + r1) := by rw [q]
          rw [Nat.mul_add, Nat.mul_add] at h5
          rw [Nat.mul_assoc]
          omega
        obtain ⟨out', g1, g2, g3, g4⟩ := mul_l1_law G n a b ha hb i hi hl T hT k0 d' f (j + 1) ((out[i + j] + c) / 65536) (out.set (i + j) ((out[i + j] + c) % 65536)) (by omega) (by omega) (hd.set _ (by omega)) (by simp [ho]) (by omega) hv'
        refine ⟨out', g1, g2, g3, ?_⟩
        rw [mul_l1, mul_b1]
        rw [e, cond_false, e3, cond_true, hij, if_pos (by omega), if_pos (by rw [ints_length]; omega), Int.toNat_natCast, ints_at out _ hlt, Option.bind_some, cond_false, if_pos (by omega), if_pos (by rw [ints_length]; omega), if_pos (by rw [ints_length]; omega), n1, n4, n5, e2, ints_set]
        exact g4

theorem mul_l0_law (G : List Int → (List Int → Option A) → Option A) (n : Nat) (a b : List Nat) (ha : Dig a) (hb : Dig b) (hl : a.length + b.length < 100000) (hn : b.length + 2 < n) (k0 : List Int → Option A) :
    ∀ (d f i : Nat) (out : List Nat), i + d = a.length → d < f → Dig out → out.length = a.length + b.length + 1 → bval out = bval (a.take i) * bval b →
    ∃ out', Dig out' ∧ out'.length = a.length + b.length + 1 ∧ bval out' = bval a * bval b ∧ mul_l0 G n (ints a) (ints b) k0 f (i : Int) (ints out) = k0 (ints out')
  | _, 0, _, _, _, h, _, _, _ => by omega
  | 0, f + 1, i, out, hi, _, hd, ho, hv => by
    have : i = a.length := by omega
    subst this
    refine ⟨out, hd, ho, by rw [List.take_length] at hv; exact hv, ?_⟩
    rw [mul_l0, mul_b0]
    have e : decide ((a.length : Int) < ((ints a).length : Int)) = false := by rw [ints_length]; simp
    rw [e, cond_false]
  | d + 1, f + 1, i, out, hi, hf, hd, ho, hv => by
    have hlt : i < a.length := by omega
    have e : decide ((i : Int) < ((ints a).length : Int)) = true := by rw [ints_length]; simp; omega
    have e2 : IntKind.wrap .i64 ((i : Int) + 1) = ((i + 1 : Nat) : Int) := by rw [wrap_id (by omega) (by omega)]; omega
    have h1 := bval_lt (a.take (i + 1)) (ha.take _)
    have h2 := bval_lt b hb
    rw [List.length_take, Nat.min_eq_left (by omega)] at h1
    have hT : bval (a.take (i + 1)) * bval b < 65536 ^ (i + 1 + b.length) := by
      rw [Nat.pow_add]
      exact Nat.mul_lt_mul_of_lt_of_le h1 (Nat.le_of_lt h2) (Nat.pow_pos (by decide))
    have hv2 : bval out + 65536 ^ (i + 0) * (0 + a[i] * bval (b.drop 0)) = bval (a.take (i + 1)) * bval b := by
      rw [hv, bval_take hlt, List.drop_zero, Nat.add_mul, Nat.add_zero, Nat.zero_add, Nat.mul_assoc]
    obtain ⟨o1, g1, g2, g3, g4⟩ := mul_l1_law G n a b ha hb i hlt hl _ hT (fun y1 => mul_l0 G n (ints a) (ints b) k0 f (IntKind.wrap .i64 ((i : Int) + 1)) y1) (b.length + 1) n 0 0 out (by omega) (by omega) hd ho (by omega) hv2
    obtain ⟨o2, g5, g6, g7, g8⟩ := mul_l0_law G n a b ha hb hl hn k0 d f (i + 1) o1 (by omega) (by omega) g1 g2 g3
    refine ⟨o2, g5, g6, g7, ?_⟩
    rw [mul_l0, mul_b0, e, cond_true]
    refine Eq.trans g4 ?_
    rw [e2]
    exact g8

theorem mul_law (n x y : Nat) (hl : (dig x).length + (dig y).length < 1000) (hn : (dig x).length + (dig y).length + 2 < n) (g : List Int → Option A) : mul_k n (ints (dig x)) (ints (dig y)) g = g (ints (dig (x * y))) := by
  unfold mul_k mul_p
  rw [ints_length, ints_length]
  have e1 : IntKind.wrap .i64 (((dig x).length : Int) + ((dig y).length : Int)) = (((dig x).length + (dig y).length : Nat) : Int) := by rw [wrap_id (by omega) (by omega)]; omega
  have e2 : IntKind.wrap .i64 ((((dig x).length + (dig y).length : Nat) : Int) + 1) = (((dig x).length + (dig y).length + 1 : Nat) : Int) := by rw [wrap_id (by omega) (by omega)]; omega
  have hz : List.replicate ((dig x).length + (dig y).length + 1) (0 : Int) = ints (List.replicate ((dig x).length + (dig y).length + 1) 0) := by simp [ints]
  rw [e1, e2, if_pos (by omega), if_pos (by omega), if_pos (by omega), Int.toNat_natCast, hz]
  have hzd : Dig (List.replicate ((dig x).length + (dig y).length + 1) 0) := fun x hx => by
    have := (List.mem_replicate.1 hx).2; omega
  obtain ⟨o, g1, g2, g3, g4⟩ := mul_l0_law (trim_k n) n (dig x) (dig y) (dig_Dig x) (dig_Dig y) (by omega) (by omega) (fun y2 => trim_k n y2 fun r3 => g r3) (dig x).length n 0 _ (by omega) (by omega) hzd (by simp) (by rw [bval_zeros]; simp [bval])
  refine Eq.trans g4 ?_
  rw [trim_law n o g1 (by omega) (by omega), g3, bval_dig, bval_dig]

-- ------------------------------------------------------------ sums

theorem add_l0_law (G : List Int → (List Int → Option A) → Option A) (n : Nat) (a b : List Nat) (ha : Dig a) (hb : Dig b) (hl : a.length + b.length < 100000) (T : Nat) (k0 : List Int → Option A) :
    ∀ (d f i c : Nat) (out : List Nat), i + d = max a.length b.length + 1 → d < f → Dig out → out.length = i → c ≤ 1 → bval out + 65536 ^ i * (c + bval (a.drop i) + bval (b.drop i)) = T → (c = 1 → i ≤ max a.length b.length) →
    ∃ out', Dig out' ∧ out'.length ≤ max a.length b.length + 1 ∧ bval out' = T ∧ add_l0 G n (ints a) (ints b) k0 f (c : Int) (i : Int) (ints out) = k0 (ints out')
  | _, 0, _, _, _, _, h, _, _, _, _, _ => by omega
  | d, f + 1, i, c, out, hi, hf, hd, ho, hc, hv, hc1 => by
    have e2 : IntKind.wrap .i64 ((i : Int) + 1) = ((i + 1 : Nat) : Int) := by rw [wrap_id (by omega) (by omega)]; omega
    have hlen : (ints out).length = i := by rw [ints_length, ho]
    -- one digit more
    have step : ∀ (p q : Nat), p < 65536 → q < 65536 → (i < max a.length b.length ∨ c = 1) → c + bval (a.drop i) + bval (b.drop i) = c + p + q + 65536 * (bval (a.drop (i + 1)) + bval (b.drop (i + 1))) →
        ∃ out', Dig out' ∧ out'.length ≤ max a.length b.length + 1 ∧ bval out' = T ∧ add_l0 G n (ints a) (ints b) k0 f (((c + p + q) / 65536 : Nat) : Int) ((i + 1 : Nat) : Int) (ints (out ++ [(c + p + q) % 65536])) = k0 (ints out') := fun p q hp hq hor hsum => by
      obtain ⟨d', rfl⟩ : ∃ d', d = d' + 1 := ⟨d - 1, by
        rcases hor with h | h
        · omega
        · have := hc1 h; omega⟩
      refine add_l0_law G n a b ha hb hl T k0 d' f (i + 1) ((c + p + q) / 65536) (out ++ [(c + p + q) % 65536]) (by omega) (by omega) (hd.snoc (by omega)) (by simp [ho]) (by omega) ?_ (fun h1 => ?_)
      · rw [bval_snoc, ho, ← hv, hsum, Nat.pow_succ]
        have q1 := Nat.div_add_mod (c + p + q) 65536
        generalize bval (a.drop (i + 1)) = u at *
        generalize bval (b.drop (i + 1)) = v at *
        generalize 65536 ^ i = P at *
        generalize (c + p + q) / 65536 = s at *
        generalize (c + p + q) % 65536 = t at *
        have h5 : P * (c + p + q + 65536 * (u + v)) = P * (65536 * s + t) + P * (65536 * (u + v)) := by rw [q1, Nat.mul_add]
        have h6 : P * 65536 * (s + u + v) = P * (65536 * s) + P * (65536 * (u + v)) := by rw [Nat.add_assoc, Nat.mul_assoc, Nat.mul_add, Nat.mul_add]
        have h7 : P * (65536 * s + t) = P * (65536 * s) + P * t := Nat.mul_add ..
        rw [h5, h6, h7]; omega
      · rcases hor with h | h
        · omega
        · rcases Nat.lt_or_ge i (max a.length b.length) with h2 | h2
          · omega
          · have h3 : a.drop i = [] := List.drop_eq_nil_of_le (by omega)
            have h4 : b.drop i = [] := List.drop_eq_nil_of_le (by omega)
            rw [h3, h4] at hsum
            simp only [bval] at hsum
            omega
    have room : (i + 1) * 8 ≤ 140737488355328 := by omega
    rw [add_l0, add_b0, hlen]
    by_cases h1 : i < a.length
    · have d1 : decide ((i : Int) < ((ints a).length : Int)) = true := by rw [ints_length]; simp; omega
      have x1 := ha.at h1
      have n1 : IntKind.wrap .i64 ((c : Int) + ((a[i] : Nat) : Int)) = ((c + a[i] : Nat) : Int) := by rw [wrap_id (by omega) (by omega)]; omega
      by_cases h2 : i < b.length
      · have d2 : decide ((i : Int) < ((ints b).length : Int)) = true := by rw [ints_length]; simp; omega
        have x2 := hb.at h2
        obtain ⟨o, g1, g2, g3, g4⟩ := step a[i] b[i] x1 x2 (.inl (by omega)) (by rw [bval_drop h1, bval_drop h2]; omega)
        refine ⟨o, g1, g2, g3, Eq.trans ?_ g4⟩
        have n2 : IntKind.wrap .i64 (((c + a[i] : Nat) : Int) + ((b[i] : Nat) : Int)) = ((c + a[i] + b[i] : Nat) : Int) := by rw [wrap_id (by omega) (by omega)]; omega
        have n3 : IntKind.wrap .i64 (Int.tdiv ((c + a[i] + b[i] : Nat) : Int) 65536) = (((c + a[i] + b[i]) / 65536 : Nat) : Int) := by rw [show (65536 : Int) = ((65536 : Nat) : Int) from rfl, tdiv_nat]; exact wrap_id (by omega) (by omega)
        have n4 : Int.tmod ((c + a[i] + b[i] : Nat) : Int) 65536 = (((c + a[i] + b[i]) % 65536 : Nat) : Int) := by rw [show (65536 : Int) = ((65536 : Nat) : Int) from rfl, tmod_nat]
        rw [d1, cond_true, cond_true, if_pos (by omega), Int.toNat_natCast, ints_at a i h1, Option.bind_some, d2, cond_true, if_pos (by omega), ints_at b i h2, Option.bind_some, if_pos room, n1, n2, n3, n4, e2, ints_snoc]
      · have d2 : decide ((i : Int) < ((ints b).length : Int)) = false := by rw [ints_length]; simp; omega
        have hb0 : b.drop i = [] := List.drop_eq_nil_of_le (by omega)
        have hb1 : b.drop (i + 1) = [] := List.drop_eq_nil_of_le (by omega)
        obtain ⟨o, g1, g2, g3, g4⟩ := step a[i] 0 x1 (by omega) (.inl (by omega)) (by rw [bval_drop h1, hb0, hb1]; simp only [bval]; omega)
        refine ⟨o, g1, g2, g3, Eq.trans ?_ g4⟩
        have n3 : IntKind.wrap .i64 (Int.tdiv ((c + a[i] : Nat) : Int) 65536) = (((c + a[i] + 0) / 65536 : Nat) : Int) := by rw [show (65536 : Int) = ((65536 : Nat) : Int) from rfl, tdiv_nat]; exact wrap_id (by omega) (by omega)
        have n4 : Int.tmod ((c + a[i] : Nat) : Int) 65536 = (((c + a[i] + 0) % 65536 : Nat) : Int) := by rw [show (65536 : Int) = ((65536 : Nat) : Int) from rfl, tmod_nat]; rfl
        rw [d1, cond_true, cond_true, if_pos (by omega), Int.toNat_natCast, ints_at a i h1, Option.bind_some, d2, cond_false, if_pos room, n1, n3, n4, e2, ints_snoc]
    · have d1 : decide ((i : Int) < ((ints a).length : Int)) = false := by rw [ints_length]; simp; omega
      have ha0 : a.drop i = [] := List.drop_eq_nil_of_le (by omega)
      have ha1 : a.drop (i + 1) = [] := List.drop_eq_nil_of_le (by omega)
      by_cases h2 : i < b.length
      · have d2 : decide ((i : Int) < ((ints b).length : Int)) = true := by rw [ints_length]; simp; omega
        have x2 := hb.at h2
        obtain ⟨o, g1, g2, g3, g4⟩ := step 0 b[i] (by omega) x2 (.inl (by omega)) (by rw [bval_drop h2, ha0, ha1]; simp only [bval]; omega)
        refine ⟨o, g1, g2, g3, Eq.trans ?_ g4⟩
        have n1 : IntKind.wrap .i64 ((c : Int) + ((b[i] : Nat) : Int)) = ((c + 0 + b[i] : Nat) : Int) := by rw [wrap_id (by omega) (by omega)]; omega
        have n3 : IntKind.wrap .i64 (Int.tdiv ((c + 0 + b[i] : Nat) : Int) 65536) = (((c + 0 + b[i]) / 65536 : Nat) : Int) := by rw [show (65536 : Int) = ((65536 : Nat) : Int) from rfl, tdiv_nat]; exact wrap_id (by omega) (by omega)
        have n4 : Int.tmod ((c + 0 + b[i] : Nat) : Int) 65536 = (((c + 0 + b[i]) % 65536 : Nat) : Int) := by rw [show (65536 : Int) = ((65536 : Nat) : Int) from rfl, tmod_nat]
        rw [d1, cond_false, d2, cond_true, cond_false, cond_true, if_pos (by omega), Int.toNat_natCast, ints_at b i h2, Option.bind_some, if_pos room, n1, n3, n4, e2, ints_snoc]
      · have d2 : decide ((i : Int) < ((ints b).length : Int)) = false := by rw [ints_length]; simp; omega
        have hb0 : b.drop i = [] := List.drop_eq_nil_of_le (by omega)
        have hb1 : b.drop (i + 1) = [] := List.drop_eq_nil_of_le (by omega)
        by_cases hc0 : c = 0
        · subst hc0
          refine ⟨out, hd, by omega, ?_, ?_⟩
          · rw [ha0, hb0] at hv; simpa [bval] using hv
          · have d3 : decide (((0 : Nat) : Int) > 0) = false := by decide
            rw [d1, cond_false, d2, cond_false, d3, cond_false]
        · have hc1' : c = 1 := by omega
          have d3 : decide ((c : Int) > 0) = true := by simp; omega
          obtain ⟨o, g1, g2, g3, g4⟩ := step 0 0 (by omega) (by omega) (.inr hc1') (by rw [ha0, hb0, ha1, hb1]; simp only [bval])
          refine ⟨o, g1, g2, g3, Eq.trans ?_ g4⟩
          have n3 : IntKind.wrap .i64 (Int.tdiv (c : Int) 65536) = (((c + 0 + 0) / 65536 : Nat) : Int) := by rw [show (65536 : Int) = ((65536 : Nat) : Int) from rfl, tdiv_nat]; exact wrap_id (by omega) (by omega)
          have n4 : Int.tmod (c : Int) 65536 = (((c + 0 + 0) % 65536 : Nat) : Int) := by rw [show (65536 : Int) = ((65536 : Nat) : Int) from rfl, tmod_nat]; rfl
          rw [d1, cond_false, d2, cond_false, d3, cond_true, cond_false, cond_false, if_pos room, n3, n4, e2, ints_snoc]

theorem add_law (n x y : Nat) (hl : (dig x).length + (dig y).length < 1000) (hn : (dig x).length + (dig y).length + 2 < n) (g : List Int → Option A) : add_k n (ints (dig x)) (ints (dig y)) g = g (ints (dig (x + y))) := by
  unfold add_k add_p
  obtain ⟨o, g1, g2, g3, g4⟩ := add_l0_law (trim_k n) n (dig x) (dig y) (dig_Dig x) (dig_Dig y) (by omega) (x + y) (fun y10 => trim_k n y10 fun r11 => g r11) (max (dig x).length (dig y).length + 1) n 0 0 [] (by omega) (by omega) (fun x hx => by cases hx) rfl (by omega) (by simp [bval, bval_dig]) (fun h => by omega)
  refine Eq.trans g4 ?_
  rw [trim_law n o g1 (by omega) (by omega), g3]

end Go.Ev
end

section
/-
  FUNCTION 15: printed by a program of our own (wip/gen/st.py). 'masthead/mastheadlaw04.big', in continuation form; the evaluator gives it.
-/
set_option linter.all false
set_option maxRecDepth 100000
namespace Go.Ev
open Go.Proofs
variable {A : Type}

-- ============================================================ big (function 15)
def big_p (g_of : (List Int) → ((List Int) → Option A) → Option A) (n : Nat) (a0 : (List Int)) (k : (List Int) → Option A) : Option A :=
  (a0[0]?).bind fun y1 =>
  (a0[1]?).bind fun y2 =>
  (a0[2]?).bind fun y3 =>
  (a0[3]?).bind fun y4 =>
  g_of [y1, y2, y3, y4] fun r5 =>
  k r5

def big_k (n : Nat) (a0 : (List Int)) (k : (List Int) → Option A) : Option A := big_p (of_k n) n a0 k

noncomputable def big_E (g_of : (List Int) → ((List Int) → Option A) → Option A) (n : Nat) : Env A := ⟨tys, gls, [(16, of_ent g_of)], [], []⟩
theorem big_T (g_of : (List Int) → ((List Int) → Option A) → Option A) (n : Nat) : TyOK Tryd.prog (big_E g_of n) := tyOK_of rfl tysB
theorem big_fns (n : Nat) : FnsOK Tryd.prog (big_E (A := A) (of_k n) n) := AllOK.env rfl rfl (AllOK.cons (of_ok n) AllOK.nil)
theorem big_eqg (g_of : (List Int) → ((List Int) → Option A) → Option A) (n : Nat) (a0 : (List Int)) (k : AV → List Blk → Option A) : fnK (big_E g_of n) Tryd.f15 [.pure] [.p kA4u64 a0] [] k = big_p g_of n a0 (fun r0 => k (.p (.sl (.int .i64)) r0) []) := by kernel_rfl
theorem big_eq (n : Nat) (a0 : (List Int)) (k : AV → List Blk → Option A) : fnK (big_E (of_k n) n) Tryd.f15 [.pure] [.p kA4u64 a0] [] k = big_k n a0 (fun r0 => k (.p (.sl (.int .i64)) r0) []) := big_eqg (of_k n) n a0 k
def big_ent (g : (List Int) → ((List Int) → Option A) → Option A) : Entry A := pureE fun args k => args1 args kA4u64 fun a0 => g a0 (fun r0 => k (.p (.sl (.int .i64)) r0) [])
theorem big_lo (n : Nat) : ∀ c, Tryd.f15.body = some c → ∀ q ∈ loopsOf 0 c, ∀ L, (big_E (A := A) (of_k n) n).lps.lookup q.1 = some L → LoopOK Tryd.prog gls q.2 L :=
  lo_body (E := big_E (of_k n) n) (by kernel_rfl : Tryd.f15.body = some (bodyOf Tryd.f15)) (lo_of (E := big_E (of_k n) n) (by kernel_rfl : loopsOf 0 (bodyOf Tryd.f15) = []) lo_nil)
theorem big_ok (n : Nat) : FnOK Tryd.prog gls 15 (big_ent (A := A) (big_k n)) :=
  FnOK.of (big_T (of_k n) n) (big_fns n) follows ⟨Tryd.func15, by kernel_rfl⟩ (big_lo n) (rm := [.pure]) fun args k out h => by
    obtain ⟨a0, e, h1⟩ := args1_sound h
    subst e; rw [big_eq]; exact h1

end Go.Ev
end

section
/-
  OF FOUR WORDS to digits.
-/
set_option linter.all false
namespace Go.Ev
variable {A : Type}

theorem big_law (n : Nat) (hn : 401 < n) (x : Nat) (hx : x < 2 ^ 256) (g : List Int → Option A) : big_k n (ints (uw x)) g = g (ints (dig x)) := by
  unfold big_k big_p
  show of_k n (ints (uw x)) (fun r5 => g r5) = _
  have h := of_law n (uw x) (uw_Wd x) (show 4 < 100 by decide) hn g
  rw [wval_uw x hx] at h
  exact h

theorem dig_one : ([1] : List Int) = ints (dig 1) := by rw [dig_pos (by decide), show 1 / 65536 = 0 from rfl, dig_zero]; rfl

/-- A number of 2 to the 256 and somewhat more has few digits. -/
theorem dig_len (x m : Nat) (h : x < 2 ^ (16 * m)) : (dig x).length ≤ m := dig_len_le m x (by rw [show 65536 = 2 ^ 16 from by decide, ← Nat.pow_mul]; exact h)
theorem pow_lt2 (a b : Nat) (h : a < b) : 2 ^ a < 2 ^ b := Nat.pow_lt_pow_right (by decide) h
theorem dig_len_gen (x a m : Nat) (ha : a < 16 * m) (h : x ≤ 2 ^ a) : (dig x).length ≤ m := dig_len x m (Nat.lt_of_le_of_lt h (pow_lt2 a (16 * m) ha))
theorem dig_len_mul (x y a b m : Nat) (ha : a + b < 16 * m) (hx : x ≤ 2 ^ a) (hy : y ≤ 2 ^ b) : (dig (x * y)).length ≤ m :=
  dig_len_gen (x * y) (a + b) m ha (by rw [Nat.pow_add]; exact Nat.mul_le_mul hx hy)
theorem dig_len256 (x : Nat) (h : x < 2 ^ 256) : (dig x).length ≤ 16 := dig_len x 16 h

end Go.Ev
end

section
/-
  DECIMAL TEXTS: plain laws; no program.
-/
set_option linter.all false
namespace Go.Ev
variable {A : Type}

/-- k decimal digits, as bytes. -/
def fd : Nat → Nat → List Nat
  | 0, _ => []
  | k + 1, x => fd k (x / 10) ++ [48 + x % 10]
theorem fd_length : ∀ k x, (fd k x).length = k
  | 0, _ => rfl
  | k + 1, x => by rw [fd, List.length_append, fd_length k]; rfl
theorem fd_add (k : Nat) : ∀ m x, fd (k + m) x = fd k (x / 10 ^ m) ++ fd m x
  | 0, x => by rw [Nat.pow_zero, Nat.div_one]; simp [fd]
  | m + 1, x => by
    rw [← Nat.add_assoc, fd, fd_add k m (x / 10), fd, List.append_assoc, Nat.div_div_eq_div_mul, Nat.pow_succ, Nat.mul_comm (10 ^ m) 10]
theorem fd_mod : ∀ m x, fd m (x % 10 ^ m) = fd m x
  | 0, _ => rfl
  | m + 1, x => by
    rw [fd, fd, Nat.pow_succ, Nat.mul_comm (10 ^ m) 10, Nat.mod_mul_right_div_self, fd_mod m (x / 10), Nat.mod_mul_right_mod]
theorem fd_get : ∀ k x j, j < k → (fd k x)[j]? = some (48 + x / 10 ^ (k - 1 - j) % 10)
  | k + 1, x, j, h => by
    rw [fd]
    by_cases hj : j < k
    · rw [List.getElem?_append_left (by rw [fd_length]; exact hj), fd_get k (x / 10) j hj, Nat.div_div_eq_div_mul, Nat.mul_comm, ← Nat.pow_succ]
      congr 5; omega
    · have : j = k := by omega
      subst this
      rw [List.getElem?_append_right (by rw [fd_length]; exact Nat.le_refl _), fd_length]
      simp
theorem fd_lead (k x : Nat) (h : x < 10 ^ k) : 48 :: fd k x = fd (k + 1) x := by
  rw [Nat.add_comm k 1, fd_add 1 k, Nat.div_eq_of_lt h]; rfl

/-- The decimal digits, as bytes. -/
def dec (x : Nat) : List Nat := if x < 10 then [48 + x] else dec (x / 10) ++ [48 + x % 10]
termination_by x
decreasing_by omega
theorem dec_lt {x : Nat} (h : x < 10) : dec x = [48 + x] := by rw [dec, if_pos h]
theorem dec_ge {x : Nat} (h : 10 ≤ x) : dec x = dec (x / 10) ++ [48 + x % 10] := by rw [dec, if_neg (by omega)]
theorem pow10_pos (k : Nat) : 0 < 10 ^ k := Nat.pow_pos (by decide)
theorem dec_fd : ∀ k x, 0 < k → x < 10 ^ k → (k = 1 ∨ 10 ^ (k - 1) ≤ x) → dec x = fd k x
  | 1, x, _, h, _ => by rw [dec_lt (by omega)]; simp [fd]; omega
  | k + 2, x, _, h, h2 => by
    have h3 : 10 ^ (k + 1) ≤ x := by rcases h2 with h2 | h2; omega; exact h2
    have e1 : 10 ^ (k + 1) = 10 * 10 ^ k := by rw [Nat.pow_succ, Nat.mul_comm]
    have e2 : 10 ^ (k + 2) = 10 * 10 ^ (k + 1) := by rw [Nat.pow_succ 10 (k + 1), Nat.mul_comm]
    have hp := pow10_pos k
    rw [dec_ge (by omega), dec_fd (k + 1) (x / 10) (by omega) (by omega) (by
      rcases Nat.eq_zero_or_pos k with h0 | h0
      · left; omega
      · right; rw [Nat.add_sub_cancel]; omega)]
    rfl
theorem dec_append : ∀ m x, 10 ^ m ≤ x → dec x = dec (x / 10 ^ m) ++ fd m x
  | 0, x, _ => by rw [Nat.pow_zero, Nat.div_one]; simp [fd]
  | m + 1, x, h => by
    have hp := pow10_pos m
    rw [Nat.pow_succ] at h
    rw [dec_ge (by omega), dec_append m (x / 10) (by omega), List.append_assoc, Nat.div_div_eq_div_mul, Nat.pow_succ, Nat.mul_comm (10 ^ m) 10]
    rfl
theorem dec_len (k x : Nat) (hk : 0 < k) (h : x < 10 ^ k) : 0 < (dec x).length ∧ (dec x).length ≤ k := by
  induction k generalizing x with
  | zero => omega
  | succ k ih =>
    by_cases h1 : x < 10
    · rw [dec_lt h1]; simp
    · rw [Nat.pow_succ] at h
      have hk : 0 < k := by
        rcases Nat.eq_zero_or_pos k with h0 | h0
        · subst h0; omega
        · exact h0
      have := ih (x / 10) hk (by omega)
      rw [dec_ge (by omega), List.length_append, List.length_singleton]; omega
/-- How many digits a number has, with which it is told. -/
theorem dec_k (x K : Nat) (hK : 0 < K) (h : x < 10 ^ K) : ∃ k, 0 < k ∧ k ≤ K ∧ x < 10 ^ k ∧ dec x = fd k x := by
  induction K with
  | zero => omega
  | succ K ih =>
    by_cases h1 : K = 0
    · subst h1; exact ⟨1, by omega, by omega, h, dec_fd 1 x (by omega) h (.inl rfl)⟩
    · by_cases h2 : x < 10 ^ K
      · obtain ⟨k, a, b, c, d⟩ := ih (by omega) h2
        exact ⟨k, a, by omega, c, d⟩
      · exact ⟨K + 1, by omega, by omega, h, dec_fd (K + 1) x (by omega) h (.inr (by rw [Nat.add_sub_cancel]; omega))⟩

-- ------------------------------------------------------------ texts

theorem mkStr_app (a b : List Int) : mkStr a ++ mkStr b = mkStr (a ++ b) := by
  apply ByteArray.ext
  rw [ByteArray.data_append]
  simp [mkStr]
theorem mkStr_size (a : List Int) : (mkStr a).size = a.length := by simp [mkStr, ByteArray.size]
/-- Bytes as a text. -/
def tb (l : List Nat) : ByteArray := mkStr (ints l)
theorem ints_app (a b : List Nat) : ints a ++ ints b = ints (a ++ b) := by simp [ints]
theorem tb_app (a b : List Nat) : tb a ++ tb b = tb (a ++ b) := by unfold tb; rw [mkStr_app, ints_app]
theorem tb_size (a : List Nat) : (tb a).size = a.length := by unfold tb; rw [mkStr_size, ints_length]
theorem tb_nil : tb [] = ByteArray.empty := rfl

end Go.Ev
end

