import Derived.Test.YtpblkfccnaapbaaDoorB5
import Derived.Test.YtpblkfccnaapbaaDoorB6
set_option linter.all false
section
/-
  FUNCTION 18: printed by a program of our own (wip/gen/st.py). 'masthead/mastheadref04.Text', in continuation form; the evaluator gives it.
-/
set_option linter.all false
set_option maxRecDepth 100000
namespace Go.Ev
open Go.Proofs
variable {A : Type}

-- ============================================================ rtext (function 18)
def rtext_b1 (g_trim : (List Int) → ((List Int) → Option A) → Option A) (n : Nat) (a : (List Int)) (out : ByteArray) (k0 : Int → (List Int) → Option A) (r : Int → Int → (List Int) → Option A) (c : Int) (i : Int) (next : (List Int)) : Option A :=
  bif (decide (i ≥ 0)) then
    if 0 ≤ i then
      (a[(Int.toNat i)]?).bind fun y1 =>
      if 0 ≤ i then
        if i < (next.length : Int) then
          if (Int.toNat i) < next.length then
            r (Int.tmod (IntKind.wrap .i64 ((IntKind.wrap .i64 (c * 65536)) + y1)) 10) (IntKind.wrap .i64 (i - 1)) (next.set (Int.toNat i) (IntKind.wrap .i64 (Int.tdiv (IntKind.wrap .i64 ((IntKind.wrap .i64 (c * 65536)) + y1)) 10)))
          else none
        else none
      else none
    else none
  else
    k0 c next

def rtext_l1 (g_trim : (List Int) → ((List Int) → Option A) → Option A) (n : Nat) (a : (List Int)) (out : ByteArray) (k0 : Int → (List Int) → Option A) : Nat → Int → Int → (List Int) → Option A
  | 0 => fun _ _ _ => none
  | f + 1 => rtext_b1 g_trim n a out k0 (rtext_l1 g_trim n a out k0 f)

def rtext_b0 (g_trim : (List Int) → ((List Int) → Option A) → Option A) (n : Nat) (k0 : ByteArray → Option A) (r : (List Int) → ByteArray → Option A) (a : (List Int)) (out : ByteArray) : Option A :=
  bif (decide ((a.length : Int) > 0)) then
    if 0 ≤ (a.length : Int) then
      if (a.length : Int) ≤ (a.length : Int) then
        if (a.length : Int) * 8 ≤ 140737488355328 then
          rtext_l1 g_trim n a out (fun y1 y2 =>
            if (mkStr [(IntKind.wrap .u8 (IntKind.wrap .i64 (48 + y1)))]).size + out.size ≤ 9223372036854775807 then
              g_trim y2 fun r3 =>
              r r3 ((mkStr [(IntKind.wrap .u8 (IntKind.wrap .i64 (48 + y1)))]) ++ out)
            else none) n 0 (IntKind.wrap .i64 ((a.length : Int) - 1)) (List.replicate (Int.toNat (a.length : Int)) (0 : Int))
        else none
      else none
    else none
  else
    k0 out

def rtext_l0 (g_trim : (List Int) → ((List Int) → Option A) → Option A) (n : Nat) (k0 : ByteArray → Option A) : Nat → (List Int) → ByteArray → Option A
  | 0 => fun _ _ => none
  | f + 1 => rtext_b0 g_trim n k0 (rtext_l0 g_trim n k0 f)

def rtext_p (g_trim : (List Int) → ((List Int) → Option A) → Option A) (n : Nat) (a0 : (List Int)) (k : ByteArray → Option A) : Option A :=
  bif ((a0.length : Int) == 0) then
    k str1
  else
    rtext_l0 g_trim n (fun y4 =>
      k y4) n a0 ByteArray.empty

def rtext_k (n : Nat) (a0 : (List Int)) (k : ByteArray → Option A) : Option A := rtext_p (trim_k n) n a0 k

noncomputable def rtext_c0 : Code := codeAt [1, 1, 1, 0, 0, 0] (bodyOf Tryd.f18)
def rtext_d0 : List Nat := [2, 4, 5, 6, 7, 8, 9, 10, 11, 12, 13, 14, 15, 16, 17, 18, 19, 20, 21, 22, 23, 24, 25, 26, 27, 28, 29, 30, 31, 32, 33, 34, 35, 36, 37, 38, 39, 40, 41, 42, 43, 44, 45, 46]
def rtext_y0 : List Nat := [0, 1, 2, 4, 5, 6, 7, 8, 9, 10, 11, 12, 13, 14, 15, 16, 17, 18, 19, 20, 21, 22, 23, 24, 25, 26, 27, 28, 29, 30, 31, 32, 33, 34, 35, 36, 37, 38, 39, 40, 41, 42, 43, 44, 45, 46, 47]
def rtext_sh0 : Shape := ⟨[(.p (.sl (.int .i64))), .any, .any, (.p .str), .any, .any, .any, .any, .any, .any, .any, .any, .any, .any, .any, .any, .any, .any, .any, .any, .any, .any, .any, .any, .any, .any, .any, .any, .any, .any, .any, .any, .any, .any, .any, .any, .any, .any, .any, .any, .any, .any, .any, .any, .any, .any, .any, .any], [], 0⟩
def rtext_t0 (a : (List Int)) (out : ByteArray) : rtext_sh0.den := ((a, (), (), out, (), (), (), (), (), (), (), (), (), (), (), (), (), (), (), (), (), (), (), (), (), (), (), (), (), (), (), (), (), (), (), (), (), (), (), (), (), (), (), (), (), (), (), (), ()), ())
def rtext_x0_0 (z0 : ByteArray) : St := ⟨[.any, .any, .any, .p .str z0, .any, .any, .any, .any, .any, .any, .any, .any, .any, .any, .any, .any, .any, .any, .any, .any, .any, .any, .any, .any, .any, .any, .any, .any, .any, .any, .any, .any, .any, .any, .any, .any, .any, .any, .any, .any, .any, .any, .any, .any, .any, .any, .any, .any], [], 0⟩
def rtext_g0 (g_trim : (List Int) → ((List Int) → Option A) → Option A) (n : Nat) (d : rtext_sh0.den) (k : Ex → St → Option A) : Option A :=
  rtext_l0 g_trim n (fun z0 => k (.exit 0) (rtext_x0_0 z0)) n d.1.1 d.1.2.2.2.1
noncomputable def rtext_c1 : Code := codeAt [1, 1, 1, 0, 0, 0, 1, 0, 1, 1, 0, 1, 0, 0] (bodyOf Tryd.f18)
def rtext_d1 : List Nat := [7, 11, 12, 13, 14, 15, 16, 17, 18, 19, 20, 21, 22, 23, 24, 25, 26, 27, 28, 29, 30, 31, 32, 33, 34, 35, 36, 37]
def rtext_y1 : List Nat := [0, 1, 2, 6, 7, 8, 9, 10, 11, 12, 13, 14, 15, 16, 17, 18, 19, 20, 21, 22, 23, 24, 25, 26, 27, 28, 29, 30, 31, 32, 33, 34, 35, 36, 37, 38, 39, 40, 41, 42, 43, 44, 45, 46, 47]
def rtext_sh1 : Shape := ⟨[(.p (.sl (.int .i64))), .any, .any, (.p .str), (.row 0), (.p (.int .i64)), (.p (.int .i64)), .any, .any, .any, .any, .any, .any, .any, .any, .any, .any, .any, .any, .any, .any, .any, .any, .any, .any, .any, .any, .any, .any, .any, .any, .any, .any, .any, .any, .any, .any, .any, .any, .any, .any, .any, .any, .any, .any, .any, .any, .any], [(.row 3 (.int .i64))], 0⟩
def rtext_t1 (a : (List Int)) (out : ByteArray) (c : Int) (i : Int) (next : (List Int)) : rtext_sh1.den := ((a, (), (), out, (), c, i, (), (), (), (), (), (), (), (), (), (), (), (), (), (), (), (), (), (), (), (), (), (), (), (), (), (), (), (), (), (), (), (), (), (), (), (), (), (), (), (), (), ()), (next, ()))
def rtext_x1_0 (a : (List Int)) (out : ByteArray) (z1 : Int) (z2 : (List Int)) : St := ⟨[.any, .any, .any, .p .str out, .row 0, .p (.int .i64) z1, .any, .any, .any, .any, .any, .any, .any, .any, .any, .any, .any, .any, .any, .any, .any, .any, .any, .any, .any, .any, .any, .any, .any, .any, .any, .any, .any, .any, .any, .any, .any, .any, .any, .any, .any, .any, .any, .any, .any, .any, .any, .any], [.row 3 (.int .i64) z2], 0⟩
def rtext_g1 (g_trim : (List Int) → ((List Int) → Option A) → Option A) (n : Nat) (d : rtext_sh1.den) (k : Ex → St → Option A) : Option A :=
  rtext_l1 g_trim n d.1.1 d.1.2.2.2.1 (fun z1 z2 => k (.exit 2) (rtext_x1_0 d.1.1 d.1.2.2.2.1 z1 z2)) n d.1.2.2.2.2.2.1 d.1.2.2.2.2.2.2.1 d.2.1
noncomputable def rtext_E (g_trim : (List Int) → ((List Int) → Option A) → Option A) (n : Nat) : Env A := ⟨tys, gls, [(41, trim_ent g_trim)], [(0, loopE rtext_d0 rtext_sh0 (rtext_g0 g_trim n)), (1, loopE rtext_d1 rtext_sh1 (rtext_g1 g_trim n))], []⟩
theorem rtext_T (g_trim : (List Int) → ((List Int) → Option A) → Option A) (n : Nat) : TyOK Tryd.prog (rtext_E g_trim n) := tyOK_of rfl tysB
theorem rtext_fns (n : Nat) : FnsOK Tryd.prog (rtext_E (A := A) (trim_k n) n) := AllOK.env rfl rfl (AllOK.cons (trim_ok n) AllOK.nil)
noncomputable def rtext_LK1 (g_trim : (List Int) → ((List Int) → Option A) → Option A) (n : Nat) (a : (List Int)) (out : ByteArray) (k : Ex → St → Option A) (f : Nat) (c : Int) (i : Int) (next : (List Int)) : Option A := loopK (codeK (rtext_E g_trim n) 2 rtext_c1) rtext_d1 rtext_y1 f (rtext_sh1.fill (rtext_t1 a out c i next)) k
theorem rtext_st1 (g_trim : (List Int) → ((List Int) → Option A) → Option A) (n f : Nat) (a : (List Int)) (out : ByteArray) (k : Ex → St → Option A) (c : Int) (i : Int) (next : (List Int)) : rtext_LK1 g_trim n a out k (f + 1) c i next = rtext_b1 g_trim n a out (fun z1 z2 => k (.exit 2) (rtext_x1_0 a out z1 z2)) (rtext_LK1 g_trim n a out k f) c i next := by kernel_rfl
theorem rtext_le1 (g_trim : (List Int) → ((List Int) → Option A) → Option A) (n : Nat) (a : (List Int)) (out : ByteArray) (k : Ex → St → Option A) : ∀ (f : Nat) (c : Int) (i : Int) (next : (List Int)), rtext_LK1 g_trim n a out k f c i next = rtext_l1 g_trim n a out (fun z1 z2 => k (.exit 2) (rtext_x1_0 a out z1 z2)) f c i next := by
  intro f
  induction f with
  | zero => intros; kernel_rfl
  | succ f ih => intro c i next; exact (rtext_st1 g_trim n f a out k c i next).trans ((congrArg (fun r => rtext_b1 g_trim n a out (fun z1 z2 => k (.exit 2) (rtext_x1_0 a out z1 z2)) r c i next) (funext fun c => funext fun i => funext fun next => ih c i next)).trans (by kernel_rfl))
theorem rtext_lo1 (n : Nat) : LoopOK Tryd.prog gls rtext_c1 (loopE rtext_d1 rtext_sh1 (rtext_g1 (A := A) (trim_k n) n)) :=
  LoopOK.of (rtext_T (trim_k n) n) (rtext_fns n) follows (j := 2) (n := n) (xdead := rtext_y1) (lo_of (by kernel_rfl : loopsOf 2 rtext_c1 = []) lo_nil) fun d k => Eq.trans (by kernel_rfl) (rtext_le1 (trim_k n) n d.1.1 d.1.2.2.2.1 k n d.1.2.2.2.2.2.1 d.1.2.2.2.2.2.2.1 d.2.1)
noncomputable def rtext_LK0 (g_trim : (List Int) → ((List Int) → Option A) → Option A) (n : Nat) (k : Ex → St → Option A) (f : Nat) (a : (List Int)) (out : ByteArray) : Option A := loopK (codeK (rtext_E g_trim n) 1 rtext_c0) rtext_d0 rtext_y0 f (rtext_sh0.fill (rtext_t0 a out)) k
theorem rtext_st0 (g_trim : (List Int) → ((List Int) → Option A) → Option A) (n f : Nat) (k : Ex → St → Option A) (a : (List Int)) (out : ByteArray) : rtext_LK0 g_trim n k (f + 1) a out = rtext_b0 g_trim n (fun z0 => k (.exit 0) (rtext_x0_0 z0)) (rtext_LK0 g_trim n k f) a out := by kernel_rfl
theorem rtext_le0 (g_trim : (List Int) → ((List Int) → Option A) → Option A) (n : Nat) (k : Ex → St → Option A) : ∀ (f : Nat) (a : (List Int)) (out : ByteArray), rtext_LK0 g_trim n k f a out = rtext_l0 g_trim n (fun z0 => k (.exit 0) (rtext_x0_0 z0)) f a out := by
  intro f
  induction f with
  | zero => intros; kernel_rfl
  | succ f ih => intro a out; exact (rtext_st0 g_trim n f k a out).trans ((congrArg (fun r => rtext_b0 g_trim n (fun z0 => k (.exit 0) (rtext_x0_0 z0)) r a out) (funext fun a => funext fun out => ih a out)).trans (by kernel_rfl))
theorem rtext_lo0 (n : Nat) : LoopOK Tryd.prog gls rtext_c0 (loopE rtext_d0 rtext_sh0 (rtext_g0 (A := A) (trim_k n) n)) :=
  LoopOK.of (rtext_T (trim_k n) n) (rtext_fns n) follows (j := 1) (n := n) (xdead := rtext_y0) (lo_of (by kernel_rfl : loopsOf 1 rtext_c0 = [(1, rtext_c1)]) (lo_cons rfl (rtext_lo1 n) lo_nil)) fun d k => Eq.trans (by kernel_rfl) (rtext_le0 (trim_k n) n k n d.1.1 d.1.2.2.2.1)
theorem rtext_eqg (g_trim : (List Int) → ((List Int) → Option A) → Option A) (n : Nat) (a0 : (List Int)) (k : AV → List Blk → Option A) : fnK (rtext_E g_trim n) Tryd.f18 [.pure] [.p (.sl (.int .i64)) a0] [] k = rtext_p g_trim n a0 (fun r0 => k (.p .str r0) []) := by kernel_rfl
theorem rtext_eq (n : Nat) (a0 : (List Int)) (k : AV → List Blk → Option A) : fnK (rtext_E (trim_k n) n) Tryd.f18 [.pure] [.p (.sl (.int .i64)) a0] [] k = rtext_k n a0 (fun r0 => k (.p .str r0) []) := rtext_eqg (trim_k n) n a0 k
def rtext_ent (g : (List Int) → (ByteArray → Option A) → Option A) : Entry A := pureE fun args k => args1 args (.sl (.int .i64)) fun a0 => g a0 (fun r0 => k (.p .str r0) [])
theorem rtext_lo (n : Nat) : ∀ c, Tryd.f18.body = some c → ∀ q ∈ loopsOf 0 c, ∀ L, (rtext_E (A := A) (trim_k n) n).lps.lookup q.1 = some L → LoopOK Tryd.prog gls q.2 L :=
  lo_body (E := rtext_E (trim_k n) n) (by kernel_rfl : Tryd.f18.body = some (bodyOf Tryd.f18)) (lo_of (E := rtext_E (trim_k n) n) (by kernel_rfl : loopsOf 0 (bodyOf Tryd.f18) = [(0, rtext_c0), (1, rtext_c1)]) (lo_cons rfl (rtext_lo0 n) (lo_cons rfl (rtext_lo1 n) lo_nil)))
theorem rtext_ok (n : Nat) : FnOK Tryd.prog gls 18 (rtext_ent (A := A) (rtext_k n)) :=
  FnOK.of (rtext_T (trim_k n) n) (rtext_fns n) follows ⟨Tryd.func18, by kernel_rfl⟩ (rtext_lo n) (rm := [.pure]) fun args k out h => by
    obtain ⟨a0, e, h1⟩ := args1_sound h
    subst e; rw [rtext_eq]; exact h1

end Go.Ev
end

section
/-
  THE REFERENCE'S DECIMAL TEXT.
-/
set_option linter.all false
namespace Go.Ev
variable {A : Type}

theorem set_zeros (i v : Nat) (o : List Nat) : (List.replicate (i + 1) 0 ++ o).set i v = List.replicate i 0 ++ v :: o := by
  rw [List.replicate_succ', List.append_assoc, List.set_append_right _ _ (by simp)]
  simp

theorem rtext_l1_law (G : List Int → (List Int → Option A) → Option A) (n : Nat) (a : List Nat) (ha : Dig a) (hl : a.length < 100000) (t : ByteArray) (k0 : Int → List Int → Option A) : ∀ (i f : Nat) (o : List Nat), i ≤ a.length → i < f → o.length + i = a.length → Dig o → bval o = bval (a.drop i) / 10 →
    ∃ o', o'.length = a.length ∧ Dig o' ∧ bval o' = bval a / 10 ∧ rtext_l1 G n (ints a) t k0 f ((bval (a.drop i) % 10 : Nat) : Int) ((i : Int) - 1) (ints (List.replicate i 0 ++ o)) = k0 ((bval a % 10 : Nat) : Int) (ints o') := by
  intro i
  induction i with
  | zero =>
    intro f o _ hf ho hd hb
    obtain ⟨f, rfl⟩ : ∃ g, f = g + 1 := ⟨f - 1, by omega⟩
    refine ⟨o, by omega, hd, by rw [hb, List.drop_zero], ?_⟩
    rw [rtext_l1, rtext_b1, decide_eq_false (show ¬ ((0 : Nat) : Int) - 1 ≥ 0 by omega), cond_false]
    rfl
  | succ i ih =>
    intro f o hi hf ho hd hb
    obtain ⟨f, rfl⟩ : ∃ g, f = g + 1 := ⟨f - 1, by omega⟩
    have hlt : i < a.length := by omega
    have ha1 := ha.at hlt
    have hdrop := bval_drop hlt
    generalize hT : bval (a.drop (i + 1)) = T at *
    have e0 : ((i + 1 : Nat) : Int) - 1 = (i : Int) := by omega
    have e1 : IntKind.wrap .i64 ((i : Int) - 1) = (i : Int) - 1 := wrap_id (by omega) (by omega)
    have e2 : IntKind.wrap .i64 (IntKind.wrap .i64 (((T % 10 : Nat) : Int) * 65536) + ((a[i] : Nat) : Int)) = ((T % 10 * 65536 + a[i] : Nat) : Int) := by
      rw [wrap_id (x := ((T % 10 : Nat) : Int) * 65536) (by omega) (by omega), wrap_id (by omega) (by omega)]; omega
    have e3 : IntKind.wrap .i64 (Int.tdiv ((T % 10 * 65536 + a[i] : Nat) : Int) 10) = (((T % 10 * 65536 + a[i]) / 10 : Nat) : Int) := by
      rw [show (10 : Int) = ((10 : Nat) : Int) from rfl, tdiv_nat]; exact wrap_id (by omega) (by omega)
    have e4 : Int.tmod ((T % 10 * 65536 + a[i] : Nat) : Int) 10 = ((bval (a.drop i) % 10 : Nat) : Int) := by
      rw [show (10 : Int) = ((10 : Nat) : Int) from rfl, tmod_nat]; omega
    have hlen : (ints (List.replicate (i + 1) 0 ++ o)).length = a.length := by rw [ints_length, List.length_append, List.length_replicate]; omega
    rw [rtext_l1, rtext_b1, e0, decide_eq_true (show (i : Int) ≥ 0 by omega), cond_true, if_pos (by omega), Int.toNat_natCast, ints_at a i hlt, Option.bind_some, if_pos (by omega), if_pos (by omega), if_pos (by omega), e1, e2, e3, e4, ints_set, set_zeros]
    refine ih f ((T % 10 * 65536 + a[i]) / 10 :: o) (by omega) (by omega) (by rw [List.length_cons]; omega) (fun x hx => ?_) ?_
    · rcases List.mem_cons.1 hx with rfl | hx
      · omega
      · exact hd x hx
    · rw [bval, hb, hdrop]; omega

theorem rtext_l0_law (n : Nat) (hn : 1000 ≤ n) (k0 : ByteArray → Option A) : ∀ (m f x : Nat) (o : List Nat), x < 10 ^ m → m < f → o.length + m ≤ 1000 → (dig x).length ≤ 100 →
    rtext_l0 (trim_k n) n k0 f (ints (dig x)) (tb o) = k0 (tb ((if x = 0 then [] else dec x) ++ o)) := by
  intro m
  induction m with
  | zero =>
    intro f x o hx hf _ _
    obtain ⟨f, rfl⟩ : ∃ g, f = g + 1 := ⟨f - 1, by omega⟩
    have : x = 0 := by omega
    subst this
    rw [rtext_l0, rtext_b0, dig_zero, ints_nil, if_pos rfl]
    rfl
  | succ m ih =>
    intro f x o hx hf ho hd
    obtain ⟨f, rfl⟩ : ∃ g, f = g + 1 := ⟨f - 1, by omega⟩
    by_cases h0 : x = 0
    · subst h0
      rw [rtext_l0, rtext_b0, dig_zero, ints_nil, if_pos rfl]
      rfl
    · have hne : 0 < (dig x).length := by
        rw [dig_pos h0]; simp
      have e0 : IntKind.wrap .i64 (((dig x).length : Int) - 1) = ((dig x).length : Int) - 1 := wrap_id (by omega) (by omega)
      rw [rtext_l0, rtext_b0, ints_length, decide_eq_true (by omega), cond_true, if_pos (by omega), if_pos (by omega), if_pos (by omega), e0, Int.toNat_natCast]
      have hz : List.replicate (dig x).length (0 : Int) = ints (List.replicate (dig x).length 0 ++ []) := by simp [ints]
      obtain ⟨o', h1, h2, h3, h4⟩ := rtext_l1_law (trim_k n) n (dig x) (dig_Dig x) (by omega) (tb o) (fun y1 y2 =>
            if (mkStr [(IntKind.wrap .u8 (IntKind.wrap .i64 (48 + y1)))]).size + (tb o).size ≤ 9223372036854775807 then
              trim_k n y2 fun r3 =>
              rtext_l0 (trim_k n) n k0 f r3 ((mkStr [(IntKind.wrap .u8 (IntKind.wrap .i64 (48 + y1)))]) ++ (tb o))
            else none) (dig x).length n [] (Nat.le_refl _) (by omega) (by simp) (fun x hx => by cases hx) (by rw [List.drop_length]; rfl)
      rw [List.drop_length] at h4
      rw [hz]
      refine Eq.trans h4 ?_
      rw [bval_dig] at h3 ⊢
      have e1 : mkStr [IntKind.wrap .u8 (IntKind.wrap .i64 (48 + ((x % 10 : Nat) : Int)))] = tb [48 + x % 10] := by
        rw [wrap_id (by omega) (by omega), wrap_u8]
        show mkStr _ = mkStr [((48 + x % 10 : Nat) : Int)]
        congr 2; omega
      rw [e1, tb_size, tb_size, if_pos (by rw [List.length_singleton]; omega), trim_law n o' h2 (by omega) (by omega), h3, tb_app]
      have hx10 : (dig (x / 10)).length ≤ 100 := by
        refine dig_len_le 100 _ (Nat.lt_of_le_of_lt (Nat.div_le_self x 10) ?_)
        have h := bval_lt (dig x) (dig_Dig x)
        rw [bval_dig] at h
        exact Nat.lt_of_lt_of_le h (Nat.pow_le_pow_right (by decide) hd)
      rw [Nat.pow_succ] at hx
      rw [ih f (x / 10) ([48 + x % 10] ++ o) (by omega) (by omega) (by rw [List.length_append, List.length_singleton]; omega) hx10, if_neg h0]
      congr 2
      by_cases h10 : x < 10
      · rw [if_pos (by omega), dec_lt h10, Nat.mod_eq_of_lt h10]; rfl
      · rw [if_neg (by omega), dec_ge (x := x) (by omega), List.append_assoc]

theorem pow256_10 : (2 : Nat) ^ 256 < 10 ^ 78 := by decide
theorem rtext_law (n x : Nat) (hn : 1000 ≤ n) (hx : x < 2 ^ 256) (g : ByteArray → Option A) : rtext_k n (ints (dig x)) g = g (tb (dec x)) := by
  unfold rtext_k rtext_p
  have hl := dig_len256 x hx
  rw [ints_length]
  by_cases h0 : x = 0
  · subst h0
    rw [dig_zero, dec_lt (by decide)]
    show g str1 = g (tb [48])
    congr 1
  · have hne : 0 < (dig x).length := by rw [dig_pos h0]; simp
    have e : (((dig x).length : Int) == 0) = false := by rw [beq_eq_false_iff_ne]; omega
    rw [e, cond_false]
    have h := rtext_l0_law n hn (fun y4 => g y4) 78 n x [] (Nat.lt_trans hx pow256_10) (by omega) (by simp) (by omega)
    rw [if_neg h0, List.append_nil, tb_nil] at h
    exact h

end Go.Ev
end

section
/-
  FUNCTION 21: printed by a program of our own (wip/gen/st.py). '(masthead/wide.U).Shl', in continuation form; the evaluator gives it.
-/
set_option linter.all false
set_option maxRecDepth 100000
namespace Go.Ev
open Go.Proofs
variable {A : Type}

-- ============================================================ ushl (function 21)
def ushl_b0 (n : Nat) (n_ : Int) (s : Int) (a : (List Int)) (t4 : (List Int)) (k0 : (List Int) → Option A) (r : Int → (List Int) → Option A) (i : Int) (out : (List Int)) : Option A :=
  bif (decide (i ≥ n_)) then
    if 0 ≤ (IntKind.wrap .i64 (i - n_)) then
      if (IntKind.wrap .i64 (i - n_)) < 4 then
        (a[(Int.toNat (IntKind.wrap .i64 (i - n_)))]?).bind fun y1 =>
        if s < 0 then none else
        if 0 ≤ i then
          if i < 4 then
            if (Int.toNat i) < 4 then
              bif (decide (i > n_)) then
                bif (decide (s > 0)) then
                  if 0 ≤ i then
                    if i < 4 then
                      ((out.set (Int.toNat i) (shl .u64 y1 s))[(Int.toNat i)]?).bind fun y2 =>
                      if 0 ≤ (IntKind.wrap .i64 ((IntKind.wrap .i64 (i - n_)) - 1)) then
                        if (IntKind.wrap .i64 ((IntKind.wrap .i64 (i - n_)) - 1)) < 4 then
                          (a[(Int.toNat (IntKind.wrap .i64 ((IntKind.wrap .i64 (i - n_)) - 1)))]?).bind fun y3 =>
                          if (IntKind.wrap .i64 (64 - s)) < 0 then none else
                          if 0 ≤ i then
                            if i < 4 then
                              if (Int.toNat i) < 4 then
                                r (IntKind.wrap .i64 (i - 1)) ((out.set (Int.toNat i) (shl .u64 y1 s)).set (Int.toNat i) (ior .u64 y2 (shr .u64 y3 (IntKind.wrap .i64 (64 - s)))))
                              else none
                            else none
                          else none
                        else none
                      else none
                    else none
                  else none
                else
                  r (IntKind.wrap .i64 (i - 1)) (out.set (Int.toNat i) (shl .u64 y1 s))
              else
                r (IntKind.wrap .i64 (i - 1)) (out.set (Int.toNat i) (shl .u64 y1 s))
            else none
          else none
        else none
      else none
    else none
  else
    k0 out

def ushl_l0 (n : Nat) (n_ : Int) (s : Int) (a : (List Int)) (t4 : (List Int)) (k0 : (List Int) → Option A) : Nat → Int → (List Int) → Option A
  | 0 => fun _ _ => none
  | f + 1 => ushl_b0 n n_ s a t4 k0 (ushl_l0 n n_ s a t4 k0 f)

def ushl_p (n : Nat) (a0 : (List Int)) (a1 : Int) (k : (List Int) → Option A) : Option A :=
  bif (decide ((imax a1 0) ≥ 256)) then
    k [0, 0, 0, 0]
  else
    ushl_l0 n (IntKind.wrap .i64 (Int.tdiv (imax a1 0) 64)) (Int.tmod (imax a1 0) 64) a0 [0, 0, 0, 0] (fun y4 =>
      k y4) n 3 [0, 0, 0, 0]

def ushl_k (n : Nat) (a0 : (List Int)) (a1 : Int) (k : (List Int) → Option A) : Option A := ushl_p n a0 a1 k

noncomputable def ushl_c0 : Code := codeAt [1, 1, 1, 1, 0, 1, 0, 0] (bodyOf Tryd.f21)
def ushl_d0 : List Nat := [0, 1, 9, 10, 11, 12, 14, 15, 16, 17, 18, 19, 20, 21, 22, 23, 24, 25, 26, 27, 28, 29, 30, 31, 32, 33, 34, 35, 36, 37, 38, 39, 40, 41, 42, 43, 44, 45, 46, 47, 48, 49, 50, 51, 52]
def ushl_y0 : List Nat := [0, 1, 2, 3, 6, 7, 8, 9, 10, 11, 12, 13, 14, 15, 16, 17, 18, 19, 20, 21, 22, 23, 24, 25, 26, 27, 28, 29, 30, 31, 32, 33, 34, 35, 36, 37, 38, 39, 40, 41, 42, 43, 44, 45, 46, 47, 48, 49, 50, 51, 52, 53]
def ushl_sh0 : Shape := ⟨[.any, .any, (.ptr 0), .any, (.ptr 1), (.ptr 2), (.p (.int .i64)), (.p (.int .i64)), (.p (.int .i64)), .any, .any, .any, .any, .any, .any, .any, .any, .any, .any, .any, .any, .any, .any, .any, .any, .any, .any, .any, .any, .any, .any, .any, .any, .any, .any, .any, .any, .any, .any, .any, .any, .any, .any, .any, .any, .any, .any, .any, .any, .any, .any, .any, .any, .any], [(.var 24 kA4u64 (.p kA4u64)), (.var 24 kA4u64 (.p kA4u64)), (.var 24 kA4u64 (.p kA4u64))], 0⟩
def ushl_t0 (n_ : Int) (s : Int) (a : (List Int)) (t4 : (List Int)) (i : Int) (out : (List Int)) : ushl_sh0.den := (((), (), (), (), (), (), n_, s, i, (), (), (), (), (), (), (), (), (), (), (), (), (), (), (), (), (), (), (), (), (), (), (), (), (), (), (), (), (), (), (), (), (), (), (), (), (), (), (), (), (), (), (), (), (), ()), (a, t4, out, ()))
def ushl_x0_0 (n_ : Int) (s : Int) (a : (List Int)) (t4 : (List Int)) (z1 : (List Int)) : St := ⟨[.any, .any, .any, .any, .ptr 0 [], .ptr 1 [], .any, .any, .any, .any, .any, .any, .any, .any, .any, .any, .any, .any, .any, .any, .any, .any, .any, .any, .any, .any, .any, .any, .any, .any, .any, .any, .any, .any, .any, .any, .any, .any, .any, .any, .any, .any, .any, .any, .any, .any, .any, .any, .any, .any, .any, .any, .any, .any], [.var 24 kA4u64 (.p kA4u64 t4), .var 24 kA4u64 (.p kA4u64 z1)], 0⟩
def ushl_g0 (n : Nat) (d : ushl_sh0.den) (k : Ex → St → Option A) : Option A :=
  ushl_l0 n d.1.2.2.2.2.2.2.1 d.1.2.2.2.2.2.2.2.1 d.2.1 d.2.2.1 (fun z1 => k (.exit 0) (ushl_x0_0 d.1.2.2.2.2.2.2.1 d.1.2.2.2.2.2.2.2.1 d.2.1 d.2.2.1 z1)) n d.1.2.2.2.2.2.2.2.2.1 d.2.2.2.1
noncomputable def ushl_E (n : Nat) : Env A := ⟨tys, gls, [], [(0, loopE ushl_d0 ushl_sh0 (ushl_g0 n))], []⟩
theorem ushl_T {A : Type} (n : Nat) : TyOK Tryd.prog (ushl_E (A := A) n) := tyOK_of rfl tysB
theorem ushl_fns (n : Nat) : FnsOK Tryd.prog (ushl_E (A := A) n) := AllOK.env rfl rfl AllOK.nil
noncomputable def ushl_LK0 (n : Nat) (n_ : Int) (s : Int) (a : (List Int)) (t4 : (List Int)) (k : Ex → St → Option A) (f : Nat) (i : Int) (out : (List Int)) : Option A := loopK (codeK (ushl_E n) 1 ushl_c0) ushl_d0 ushl_y0 f (ushl_sh0.fill (ushl_t0 n_ s a t4 i out)) k
theorem ushl_st0 (n f : Nat) (n_ : Int) (s : Int) (a : (List Int)) (t4 : (List Int)) (k : Ex → St → Option A) (i : Int) (out : (List Int)) : ushl_LK0 n n_ s a t4 k (f + 1) i out = ushl_b0 n n_ s a t4 (fun z1 => k (.exit 0) (ushl_x0_0 n_ s a t4 z1)) (ushl_LK0 n n_ s a t4 k f) i out := by kernel_rfl
theorem ushl_le0 (n : Nat) (n_ : Int) (s : Int) (a : (List Int)) (t4 : (List Int)) (k : Ex → St → Option A) : ∀ (f : Nat) (i : Int) (out : (List Int)), ushl_LK0 n n_ s a t4 k f i out = ushl_l0 n n_ s a t4 (fun z1 => k (.exit 0) (ushl_x0_0 n_ s a t4 z1)) f i out := by
  intro f
  induction f with
  | zero => intros; kernel_rfl
  | succ f ih => intro i out; exact (ushl_st0 n f n_ s a t4 k i out).trans ((congrArg (fun r => ushl_b0 n n_ s a t4 (fun z1 => k (.exit 0) (ushl_x0_0 n_ s a t4 z1)) r i out) (funext fun i => funext fun out => ih i out)).trans (by kernel_rfl))
theorem ushl_lo0 (n : Nat) : LoopOK Tryd.prog gls ushl_c0 (loopE ushl_d0 ushl_sh0 (ushl_g0 (A := A) n)) :=
  LoopOK.of (ushl_T n) (ushl_fns n) follows (j := 1) (n := n) (xdead := ushl_y0) (lo_of (by kernel_rfl : loopsOf 1 ushl_c0 = []) lo_nil) fun d k => Eq.trans (by kernel_rfl) (ushl_le0 n d.1.2.2.2.2.2.2.1 d.1.2.2.2.2.2.2.2.1 d.2.1 d.2.2.1 k n d.1.2.2.2.2.2.2.2.2.1 d.2.2.2.1)
theorem ushl_eqg (n : Nat) (a0 : (List Int)) (a1 : Int) (k : AV → List Blk → Option A) : fnK (ushl_E n) Tryd.f21 [.pure] [.p kA4u64 a0, .p (.int .i64) a1] [] k = ushl_p n a0 a1 (fun r0 => k (.p kA4u64 r0) []) := by kernel_rfl
theorem ushl_eq (n : Nat) (a0 : (List Int)) (a1 : Int) (k : AV → List Blk → Option A) : fnK (ushl_E n) Tryd.f21 [.pure] [.p kA4u64 a0, .p (.int .i64) a1] [] k = ushl_k n a0 a1 (fun r0 => k (.p kA4u64 r0) []) := ushl_eqg n a0 a1 k
def ushl_ent (g : (List Int) → Int → ((List Int) → Option A) → Option A) : Entry A := pureE fun args k => args2 args kA4u64 (.int .i64) fun a0 a1 => g a0 a1 (fun r0 => k (.p kA4u64 r0) [])
theorem ushl_lo (n : Nat) : ∀ c, Tryd.f21.body = some c → ∀ q ∈ loopsOf 0 c, ∀ L, (ushl_E (A := A) n).lps.lookup q.1 = some L → LoopOK Tryd.prog gls q.2 L :=
  lo_body (E := ushl_E n) (by kernel_rfl : Tryd.f21.body = some (bodyOf Tryd.f21)) (lo_of (E := ushl_E n) (by kernel_rfl : loopsOf 0 (bodyOf Tryd.f21) = [(0, ushl_c0)]) (lo_cons rfl (ushl_lo0 n) lo_nil))
theorem ushl_ok (n : Nat) : FnOK Tryd.prog gls 21 (ushl_ent (A := A) (ushl_k n)) :=
  FnOK.of (ushl_T n) (ushl_fns n) follows ⟨Tryd.func21, by kernel_rfl⟩ (ushl_lo n) (rm := [.pure]) fun args k out h => by
    obtain ⟨a0, a1, e, h1⟩ := args2_sound h
    subst e; rw [ushl_eq]; exact h1

end Go.Ev
end

section
/-
  FUNCTION 24: printed by a program of our own (wip/gen/st.py). '(masthead/wide.U).Shr', in continuation form; the evaluator gives it.
-/
set_option linter.all false
set_option maxRecDepth 100000
namespace Go.Ev
open Go.Proofs
variable {A : Type}

-- ============================================================ ushr (function 24)
def ushr_b0 (n : Nat) (n_ : Int) (s : Int) (a : (List Int)) (t4 : (List Int)) (k0 : (List Int) → Option A) (r : Int → (List Int) → Option A) (i : Int) (out : (List Int)) : Option A :=
  bif (decide ((IntKind.wrap .i64 (i + n_)) < 4)) then
    if 0 ≤ (IntKind.wrap .i64 (i + n_)) then
      if (IntKind.wrap .i64 (i + n_)) < 4 then
        (a[(Int.toNat (IntKind.wrap .i64 (i + n_)))]?).bind fun y1 =>
        if s < 0 then none else
        if 0 ≤ i then
          if i < 4 then
            if (Int.toNat i) < 4 then
              bif (decide ((IntKind.wrap .i64 ((IntKind.wrap .i64 (i + n_)) + 1)) < 4)) then
                bif (decide (s > 0)) then
                  if 0 ≤ i then
                    if i < 4 then
                      ((out.set (Int.toNat i) (shr .u64 y1 s))[(Int.toNat i)]?).bind fun y2 =>
                      if 0 ≤ (IntKind.wrap .i64 ((IntKind.wrap .i64 (i + n_)) + 1)) then
                        if (IntKind.wrap .i64 ((IntKind.wrap .i64 (i + n_)) + 1)) < 4 then
                          (a[(Int.toNat (IntKind.wrap .i64 ((IntKind.wrap .i64 (i + n_)) + 1)))]?).bind fun y3 =>
                          if (IntKind.wrap .i64 (64 - s)) < 0 then none else
                          if 0 ≤ i then
                            if i < 4 then
                              if (Int.toNat i) < 4 then
                                r (IntKind.wrap .i64 (i + 1)) ((out.set (Int.toNat i) (shr .u64 y1 s)).set (Int.toNat i) (ior .u64 y2 (shl .u64 y3 (IntKind.wrap .i64 (64 - s)))))
                              else none
                            else none
                          else none
                        else none
                      else none
                    else none
                  else none
                else
                  r (IntKind.wrap .i64 (i + 1)) (out.set (Int.toNat i) (shr .u64 y1 s))
              else
                r (IntKind.wrap .i64 (i + 1)) (out.set (Int.toNat i) (shr .u64 y1 s))
            else none
          else none
        else none
      else none
    else none
  else
    k0 out

def ushr_l0 (n : Nat) (n_ : Int) (s : Int) (a : (List Int)) (t4 : (List Int)) (k0 : (List Int) → Option A) : Nat → Int → (List Int) → Option A
  | 0 => fun _ _ => none
  | f + 1 => ushr_b0 n n_ s a t4 k0 (ushr_l0 n n_ s a t4 k0 f)

def ushr_p (n : Nat) (a0 : (List Int)) (a1 : Int) (k : (List Int) → Option A) : Option A :=
  bif (decide ((imax a1 0) ≥ 256)) then
    k [0, 0, 0, 0]
  else
    ushr_l0 n (IntKind.wrap .i64 (Int.tdiv (imax a1 0) 64)) (Int.tmod (imax a1 0) 64) a0 [0, 0, 0, 0] (fun y4 =>
      k y4) n 0 [0, 0, 0, 0]

def ushr_k (n : Nat) (a0 : (List Int)) (a1 : Int) (k : (List Int) → Option A) : Option A := ushr_p n a0 a1 k

noncomputable def ushr_c0 : Code := codeAt [1, 1, 1, 1, 0, 1, 0, 0] (bodyOf Tryd.f24)
def ushr_d0 : List Nat := [0, 1, 9, 10, 11, 12, 14, 15, 16, 17, 18, 19, 20, 21, 22, 23, 24, 25, 26, 27, 28, 29, 30, 31, 32, 33, 34, 35, 36, 37, 38, 39, 40, 41, 42, 43, 44, 45, 46, 47, 48, 49, 50, 51, 52, 53, 54, 55]
def ushr_y0 : List Nat := [0, 1, 2, 3, 6, 7, 8, 9, 10, 11, 12, 13, 14, 15, 16, 17, 18, 19, 20, 21, 22, 23, 24, 25, 26, 27, 28, 29, 30, 31, 32, 33, 34, 35, 36, 37, 38, 39, 40, 41, 42, 43, 44, 45, 46, 47, 48, 49, 50, 51, 52, 53, 54, 55, 56]
def ushr_sh0 : Shape := ⟨[.any, .any, (.ptr 0), .any, (.ptr 1), (.ptr 2), (.p (.int .i64)), (.p (.int .i64)), (.p (.int .i64)), .any, .any, .any, .any, .any, .any, .any, .any, .any, .any, .any, .any, .any, .any, .any, .any, .any, .any, .any, .any, .any, .any, .any, .any, .any, .any, .any, .any, .any, .any, .any, .any, .any, .any, .any, .any, .any, .any, .any, .any, .any, .any, .any, .any, .any, .any, .any, .any], [(.var 24 kA4u64 (.p kA4u64)), (.var 24 kA4u64 (.p kA4u64)), (.var 24 kA4u64 (.p kA4u64))], 0⟩
def ushr_t0 (n_ : Int) (s : Int) (a : (List Int)) (t4 : (List Int)) (i : Int) (out : (List Int)) : ushr_sh0.den := (((), (), (), (), (), (), n_, s, i, (), (), (), (), (), (), (), (), (), (), (), (), (), (), (), (), (), (), (), (), (), (), (), (), (), (), (), (), (), (), (), (), (), (), (), (), (), (), (), (), (), (), (), (), (), (), (), (), ()), (a, t4, out, ()))
def ushr_x0_0 (n_ : Int) (s : Int) (a : (List Int)) (t4 : (List Int)) (z1 : (List Int)) : St := ⟨[.any, .any, .any, .any, .ptr 0 [], .ptr 1 [], .any, .any, .any, .any, .any, .any, .any, .any, .any, .any, .any, .any, .any, .any, .any, .any, .any, .any, .any, .any, .any, .any, .any, .any, .any, .any, .any, .any, .any, .any, .any, .any, .any, .any, .any, .any, .any, .any, .any, .any, .any, .any, .any, .any, .any, .any, .any, .any, .any, .any, .any], [.var 24 kA4u64 (.p kA4u64 t4), .var 24 kA4u64 (.p kA4u64 z1)], 0⟩
def ushr_g0 (n : Nat) (d : ushr_sh0.den) (k : Ex → St → Option A) : Option A :=
  ushr_l0 n d.1.2.2.2.2.2.2.1 d.1.2.2.2.2.2.2.2.1 d.2.1 d.2.2.1 (fun z1 => k (.exit 0) (ushr_x0_0 d.1.2.2.2.2.2.2.1 d.1.2.2.2.2.2.2.2.1 d.2.1 d.2.2.1 z1)) n d.1.2.2.2.2.2.2.2.2.1 d.2.2.2.1
noncomputable def ushr_E (n : Nat) : Env A := ⟨tys, gls, [], [(0, loopE ushr_d0 ushr_sh0 (ushr_g0 n))], []⟩
theorem ushr_T {A : Type} (n : Nat) : TyOK Tryd.prog (ushr_E (A := A) n) := tyOK_of rfl tysB
theorem ushr_fns (n : Nat) : FnsOK Tryd.prog (ushr_E (A := A) n) := AllOK.env rfl rfl AllOK.nil
noncomputable def ushr_LK0 (n : Nat) (n_ : Int) (s : Int) (a : (List Int)) (t4 : (List Int)) (k : Ex → St → Option A) (f : Nat) (i : Int) (out : (List Int)) : Option A := loopK (codeK (ushr_E n) 1 ushr_c0) ushr_d0 ushr_y0 f (ushr_sh0.fill (ushr_t0 n_ s a t4 i out)) k
theorem ushr_st0 (n f : Nat) (n_ : Int) (s : Int) (a : (List Int)) (t4 : (List Int)) (k : Ex → St → Option A) (i : Int) (out : (List Int)) : ushr_LK0 n n_ s a t4 k (f + 1) i out = ushr_b0 n n_ s a t4 (fun z1 => k (.exit 0) (ushr_x0_0 n_ s a t4 z1)) (ushr_LK0 n n_ s a t4 k f) i out := by kernel_rfl
theorem ushr_le0 (n : Nat) (n_ : Int) (s : Int) (a : (List Int)) (t4 : (List Int)) (k : Ex → St → Option A) : ∀ (f : Nat) (i : Int) (out : (List Int)), ushr_LK0 n n_ s a t4 k f i out = ushr_l0 n n_ s a t4 (fun z1 => k (.exit 0) (ushr_x0_0 n_ s a t4 z1)) f i out := by
  intro f
  induction f with
  | zero => intros; kernel_rfl
  | succ f ih => intro i out; exact (ushr_st0 n f n_ s a t4 k i out).trans ((congrArg (fun r => ushr_b0 n n_ s a t4 (fun z1 => k (.exit 0) (ushr_x0_0 n_ s a t4 z1)) r i out) (funext fun i => funext fun out => ih i out)).trans (by kernel_rfl))
theorem ushr_lo0 (n : Nat) : LoopOK Tryd.prog gls ushr_c0 (loopE ushr_d0 ushr_sh0 (ushr_g0 (A := A) n)) :=
  LoopOK.of (ushr_T n) (ushr_fns n) follows (j := 1) (n := n) (xdead := ushr_y0) (lo_of (by kernel_rfl : loopsOf 1 ushr_c0 = []) lo_nil) fun d k => Eq.trans (by kernel_rfl) (ushr_le0 n d.1.2.2.2.2.2.2.1 d.1.2.2.2.2.2.2.2.1 d.2.1 d.2.2.1 k n d.1.2.2.2.2.2.2.2.2.1 d.2.2.2.1)
theorem ushr_eqg (n : Nat) (a0 : (List Int)) (a1 : Int) (k : AV → List Blk → Option A) : fnK (ushr_E n) Tryd.f24 [.pure] [.p kA4u64 a0, .p (.int .i64) a1] [] k = ushr_p n a0 a1 (fun r0 => k (.p kA4u64 r0) []) := by kernel_rfl
theorem ushr_eq (n : Nat) (a0 : (List Int)) (a1 : Int) (k : AV → List Blk → Option A) : fnK (ushr_E n) Tryd.f24 [.pure] [.p kA4u64 a0, .p (.int .i64) a1] [] k = ushr_k n a0 a1 (fun r0 => k (.p kA4u64 r0) []) := ushr_eqg n a0 a1 k
def ushr_ent (g : (List Int) → Int → ((List Int) → Option A) → Option A) : Entry A := pureE fun args k => args2 args kA4u64 (.int .i64) fun a0 a1 => g a0 a1 (fun r0 => k (.p kA4u64 r0) [])
theorem ushr_lo (n : Nat) : ∀ c, Tryd.f24.body = some c → ∀ q ∈ loopsOf 0 c, ∀ L, (ushr_E (A := A) n).lps.lookup q.1 = some L → LoopOK Tryd.prog gls q.2 L :=
  lo_body (E := ushr_E n) (by kernel_rfl : Tryd.f24.body = some (bodyOf Tryd.f24)) (lo_of (E := ushr_E n) (by kernel_rfl : loopsOf 0 (bodyOf Tryd.f24) = [(0, ushr_c0)]) (lo_cons rfl (ushr_lo0 n) lo_nil))
theorem ushr_ok (n : Nat) : FnOK Tryd.prog gls 24 (ushr_ent (A := A) (ushr_k n)) :=
  FnOK.of (ushr_T n) (ushr_fns n) follows ⟨Tryd.func24, by kernel_rfl⟩ (ushr_lo n) (rm := [.pure]) fun args k out h => by
    obtain ⟨a0, a1, e, h1⟩ := args2_sound h
    subst e; rw [ushr_eq]; exact h1

end Go.Ev
end

section
/-
  FUNCTION 36: printed by a program of our own (wip/gen/st.py). '(masthead/wide.U).Cmp', in continuation form; the evaluator gives it.
-/
set_option linter.all false
set_option maxRecDepth 100000
namespace Go.Ev
open Go.Proofs
variable {A : Type}

-- ============================================================ ucmp (function 36)
def ucmp_b0 (n : Nat) (a : (List Int)) (b : (List Int)) (k0 : Int → Option A) (k1 : Option A) (r : Int → Option A) (i : Int) : Option A :=
  bif (decide (i ≥ 0)) then
    if 0 ≤ i then
      if i < 4 then
        (a[(Int.toNat i)]?).bind fun y1 =>
        if 0 ≤ i then
          if i < 4 then
            (b[(Int.toNat i)]?).bind fun y2 =>
            bif (decide (y1 < y2)) then
              k0 (-1)
            else
              if 0 ≤ i then
                if i < 4 then
                  (a[(Int.toNat i)]?).bind fun y3 =>
                  if 0 ≤ i then
                    if i < 4 then
                      (b[(Int.toNat i)]?).bind fun y4 =>
                      bif (decide (y3 > y4)) then
                        k0 1
                      else
                        r (IntKind.wrap .i64 (i - 1))
                    else none
                  else none
                else none
              else none
          else none
        else none
      else none
    else none
  else
    k1

def ucmp_l0 (n : Nat) (a : (List Int)) (b : (List Int)) (k0 : Int → Option A) (k1 : Option A) : Nat → Int → Option A
  | 0 => fun _ => none
  | f + 1 => ucmp_b0 n a b k0 k1 (ucmp_l0 n a b k0 k1 f)

def ucmp_p (n : Nat) (a0 : (List Int)) (a1 : (List Int)) (k : Int → Option A) : Option A :=
  ucmp_l0 n a0 a1 (fun y5 =>
    k y5) (
    k 0) n 3

def ucmp_k (n : Nat) (a0 : (List Int)) (a1 : (List Int)) (k : Int → Option A) : Option A := ucmp_p n a0 a1 k

noncomputable def ucmp_c0 : Code := codeAt [1, 0, 1, 0, 0] (bodyOf Tryd.f36)
def ucmp_d0 : List Nat := [0, 1, 4, 6, 7, 8, 9, 10, 11, 12, 13, 14, 15, 16, 17, 18, 19, 20, 21, 22, 23]
def ucmp_y0 : List Nat := [0, 1, 2, 3, 5, 6, 7, 8, 9, 10, 11, 12, 13, 14, 15, 16, 17, 18, 19, 20, 21, 22, 23]
def ucmp_sh0 : Shape := ⟨[.any, .any, (.ptr 0), (.ptr 1), .any, (.p (.int .i64)), .any, .any, .any, .any, .any, .any, .any, .any, .any, .any, .any, .any, .any, .any, .any, .any, .any, .any], [(.var 24 kA4u64 (.p kA4u64)), (.var 24 kA4u64 (.p kA4u64))], 0⟩
def ucmp_t0 (a : (List Int)) (b : (List Int)) (i : Int) : ucmp_sh0.den := (((), (), (), (), (), i, (), (), (), (), (), (), (), (), (), (), (), (), (), (), (), (), (), (), ()), (a, b, ()))
def ucmp_x0_0 (a : (List Int)) (b : (List Int)) (z0 : Int) : St := ⟨[.any, .any, .any, .any, .p (.int .i64) z0, .any, .any, .any, .any, .any, .any, .any, .any, .any, .any, .any, .any, .any, .any, .any, .any, .any, .any, .any], [], 0⟩
def ucmp_x0_1 (a : (List Int)) (b : (List Int)) : St := ⟨[.any, .any, .any, .any, .any, .any, .any, .any, .any, .any, .any, .any, .any, .any, .any, .any, .any, .any, .any, .any, .any, .any, .any, .any], [], 0⟩
def ucmp_g0 (n : Nat) (d : ucmp_sh0.den) (k : Ex → St → Option A) : Option A :=
  ucmp_l0 n d.2.1 d.2.2.1 (fun z0 => k .ret (ucmp_x0_0 d.2.1 d.2.2.1 z0)) (k (.exit 0) (ucmp_x0_1 d.2.1 d.2.2.1)) n d.1.2.2.2.2.2.1
noncomputable def ucmp_E (n : Nat) : Env A := ⟨tys, gls, [], [(0, loopE ucmp_d0 ucmp_sh0 (ucmp_g0 n))], []⟩
theorem ucmp_T {A : Type} (n : Nat) : TyOK Tryd.prog (ucmp_E (A := A) n) := tyOK_of rfl tysB
theorem ucmp_fns (n : Nat) : FnsOK Tryd.prog (ucmp_E (A := A) n) := AllOK.env rfl rfl AllOK.nil
noncomputable def ucmp_LK0 (n : Nat) (a : (List Int)) (b : (List Int)) (k : Ex → St → Option A) (f : Nat) (i : Int) : Option A := loopK (codeK (ucmp_E n) 1 ucmp_c0) ucmp_d0 ucmp_y0 f (ucmp_sh0.fill (ucmp_t0 a b i)) k
theorem ucmp_st0 (n f : Nat) (a : (List Int)) (b : (List Int)) (k : Ex → St → Option A) (i : Int) : ucmp_LK0 n a b k (f + 1) i = ucmp_b0 n a b (fun z0 => k .ret (ucmp_x0_0 a b z0)) (k (.exit 0) (ucmp_x0_1 a b)) (ucmp_LK0 n a b k f) i := by kernel_rfl
theorem ucmp_le0 (n : Nat) (a : (List Int)) (b : (List Int)) (k : Ex → St → Option A) : ∀ (f : Nat) (i : Int), ucmp_LK0 n a b k f i = ucmp_l0 n a b (fun z0 => k .ret (ucmp_x0_0 a b z0)) (k (.exit 0) (ucmp_x0_1 a b)) f i := by
  intro f
  induction f with
  | zero => intros; kernel_rfl
  | succ f ih => intro i; exact (ucmp_st0 n f a b k i).trans ((congrArg (fun r => ucmp_b0 n a b (fun z0 => k .ret (ucmp_x0_0 a b z0)) (k (.exit 0) (ucmp_x0_1 a b)) r i) (funext fun i => ih i)).trans (by kernel_rfl))
theorem ucmp_lo0 (n : Nat) : LoopOK Tryd.prog gls ucmp_c0 (loopE ucmp_d0 ucmp_sh0 (ucmp_g0 (A := A) n)) :=
  LoopOK.of (ucmp_T n) (ucmp_fns n) follows (j := 1) (n := n) (xdead := ucmp_y0) (lo_of (by kernel_rfl : loopsOf 1 ucmp_c0 = []) lo_nil) fun d k => Eq.trans (by kernel_rfl) (ucmp_le0 n d.2.1 d.2.2.1 k n d.1.2.2.2.2.2.1)
theorem ucmp_eqg (n : Nat) (a0 : (List Int)) (a1 : (List Int)) (k : AV → List Blk → Option A) : fnK (ucmp_E n) Tryd.f36 [.pure] [.p kA4u64 a0, .p kA4u64 a1] [] k = ucmp_p n a0 a1 (fun r0 => k (.p (.int .i64) r0) []) := by kernel_rfl
theorem ucmp_eq (n : Nat) (a0 : (List Int)) (a1 : (List Int)) (k : AV → List Blk → Option A) : fnK (ucmp_E n) Tryd.f36 [.pure] [.p kA4u64 a0, .p kA4u64 a1] [] k = ucmp_k n a0 a1 (fun r0 => k (.p (.int .i64) r0) []) := ucmp_eqg n a0 a1 k
def ucmp_ent (g : (List Int) → (List Int) → (Int → Option A) → Option A) : Entry A := pureE fun args k => args2 args kA4u64 kA4u64 fun a0 a1 => g a0 a1 (fun r0 => k (.p (.int .i64) r0) [])
theorem ucmp_lo (n : Nat) : ∀ c, Tryd.f36.body = some c → ∀ q ∈ loopsOf 0 c, ∀ L, (ucmp_E (A := A) n).lps.lookup q.1 = some L → LoopOK Tryd.prog gls q.2 L :=
  lo_body (E := ucmp_E n) (by kernel_rfl : Tryd.f36.body = some (bodyOf Tryd.f36)) (lo_of (E := ucmp_E n) (by kernel_rfl : loopsOf 0 (bodyOf Tryd.f36) = [(0, ucmp_c0)]) (lo_cons rfl (ucmp_lo0 n) lo_nil))
theorem ucmp_ok (n : Nat) : FnOK Tryd.prog gls 36 (ucmp_ent (A := A) (ucmp_k n)) :=
  FnOK.of (ucmp_T n) (ucmp_fns n) follows ⟨Tryd.func36, by kernel_rfl⟩ (ucmp_lo n) (rm := [.pure]) fun args k out h => by
    obtain ⟨a0, a1, e, h1⟩ := args2_sound h
    subst e; rw [ucmp_eq]; exact h1

end Go.Ev
end

