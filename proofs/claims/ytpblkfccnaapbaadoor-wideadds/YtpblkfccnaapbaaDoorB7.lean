import Derived.Test.YtpblkfccnaapbaaDoorB5
import Derived.Test.YtpblkfccnaapbaaDoorB0
import Derived.Test.YtpblkfccnaapbaaDoorB4
import Derived.Test.YtpblkfccnaapbaaDoorB6
set_option linter.all false
section
/-
  FUNCTION 24: printed by a program of our own (wip/gen/st.py). '(masthead/wide.U).Shr', in continuation form; the evaluator gives it.
-/
set_option linter.all false
set_option maxRecDepth 100000
namespace Go.Ev
open Go.Proofs
variable {A : Type}

-- ============================================================ ushr (function 24)
def ushr_b0 (n : Nat) (n_ : Int) (s : Int) (a : (List Int)) (t4 : (List Int)) (k0 : (List Int) → Option A) (r : Int → (List Int) → Option A) (i : Int) (out : (List Int)) : Option A :=
  bif (decide ((IntKind.wrap .i64 (i + n_)) < 4)) then
    if 0 ≤ (IntKind.wrap .i64 (i + n_)) then
      if (IntKind.wrap .i64 (i + n_)) < 4 then
        (a[(Int.toNat (IntKind.wrap .i64 (i + n_)))]?).bind fun y1 =>
        if s < 0 then none else
        if 0 ≤ i then
          if i < 4 then
            if (Int.toNat i) < 4 then
              bif (decide ((IntKind.wrap .i64 ((IntKind.wrap .i64 (i + n_)) + 1)) < 4)) then
                bif (decide (s > 0)) then
                  if 0 ≤ i then
                    if i < 4 then
                      ((out.set (Int.toNat i) (shr .u64 y1 s))[(Int.toNat i)]?).bind fun y2 =>
                      if 0 ≤ (IntKind.wrap .i64 ((IntKind.wrap .i64 (i + n_)) + 1)) then
                        if (IntKind.wrap .i64 ((IntKind.wrap .i64 (i + n_)) + 1)) < 4 then
                          (a[(Int.toNat (IntKind.wrap .i64 ((IntKind.wrap .i64 (i + n_)) + 1)))]?).bind fun y3 =>
                          if (IntKind.wrap .i64 (64 - s)) < 0 then none else
                          if 0 ≤ i then
                            if i < 4 then
                              if (Int.toNat i) < 4 then
                                r (IntKind.wrap .i64 (i + 1)) ((out.set (Int.toNat i) (shr .u64 y1 s)).set (Int.toNat i) (ior .u64 y2 (shl .u64 y3 (IntKind.wrap .i64 (64 - s)))))
                              else none
                            else none
                          else none
                        else none
                      else none
                    else none
                  else none
                else
                  r (IntKind.wrap .i64 (i + 1)) (out.set (Int.toNat i) (shr .u64 y1 s))
              else
                r (IntKind.wrap .i64 (i + 1)) (out.set (Int.toNat i) (shr .u64 y1 s))
            else none
          else none
        else none
      else none
    else none
  else
    k0 out

def ushr_l0 (n : Nat) (n_ : Int) (s : Int) (a : (List Int)) (t4 : (List Int)) (k0 : (List Int) → Option A) : Nat → Int → (List Int) → Option A
  | 0 => fun _ _ => none
  | f + 1 => ushr_b0 n n_ s a t4 k0 (ushr_l0 n n_ s a t4 k0 f)

def ushr_p (n : Nat) (a0 : (List Int)) (a1 : Int) (k : (List Int) → Option A) : Option A :=
  bif (decide ((imax a1 0) ≥ 256)) then
    k [0, 0, 0, 0]
  else
    ushr_l0 n (IntKind.wrap .i64 (Int.tdiv (imax a1 0) 64)) (Int.tmod (imax a1 0) 64) a0 [0, 0, 0, 0] (fun y4 =>
      k y4) n 0 [0, 0, 0, 0]

def ushr_k (n : Nat) (a0 : (List Int)) (a1 : Int) (k : (List Int) → Option A) : Option A := ushr_p n a0 a1 k

noncomputable def ushr_c0 : Code := codeAt [1, 1, 1, 1, 0, 1, 0, 0] (bodyOf Tryd.f24)
def ushr_d0 : List Nat := [0, 1, 9, 10, 11, 12, 14, 15, 16, 17, 18, 19, 20, 21, 22, 23, 24, 25, 26, 27, 28, 29, 30, 31, 32, 33, 34, 35, 36, 37, 38, 39, 40, 41, 42, 43, 44, 45, 46, 47, 48, 49, 50, 51, 52, 53, 54, 55]
def ushr_y0 : List Nat := [0, 1, 2, 3, 6, 7, 8, 9, 10, 11, 12, 13, 14, 15, 16, 17, 18, 19, 20, 21, 22, 23, 24, 25, 26, 27, 28, 29, 30, 31, 32, 33, 34, 35, 36, 37, 38, 39, 40, 41, 42, 43, 44, 45, 46, 47, 48, 49, 50, 51, 52, 53, 54, 55, 56]
def ushr_sh0 : Shape := ⟨[.any, .any, (.ptr 0), .any, (.ptr 1), (.ptr 2), (.p (.int .i64)), (.p (.int .i64)), (.p (.int .i64)), .any, .any, .any, .any, .any, .any, .any, .any, .any, .any, .any, .any, .any, .any, .any, .any, .any, .any, .any, .any, .any, .any, .any, .any, .any, .any, .any, .any, .any, .any, .any, .any, .any, .any, .any, .any, .any, .any, .any, .any, .any, .any, .any, .any, .any, .any, .any, .any], [(.var 24 kA4u64 (.p kA4u64)), (.var 24 kA4u64 (.p kA4u64)), (.var 24 kA4u64 (.p kA4u64))], 0⟩
def ushr_t0 (n_ : Int) (s : Int) (a : (List Int)) (t4 : (List Int)) (i : Int) (out : (List Int)) : ushr_sh0.den := (((), (), (), (), (), (), n_, s, i, (), (), (), (), (), (), (), (), (), (), (), (), (), (), (), (), (), (), (), (), (), (), (), (), (), (), (), (), (), (), (), (), (), (), (), (), (), (), (), (), (), (), (), (), (), (), (), (), ()), (a, t4, out, ()))
def ushr_x0_0 (n_ : Int) (s : Int) (a : (List Int)) (t4 : (List Int)) (z1 : (List Int)) : St := ⟨[.any, .any, .any, .any, .ptr 0 [], .ptr 1 [], .any, .any, .any, .any, .any, .any, .any, .any, .any, .any, .any, .any, .any, .any, .any, .any, .any, .any, .any, .any, .any, .any, .any, .any, .any, .any, .any, .any, .any, .any, .any, .any, .any, .any, .any, .any, .any, .any, .any, .any, .any, .any, .any, .any, .any, .any, .any, .any, .any, .any, .any], [.var 24 kA4u64 (.p kA4u64 t4), .var 24 kA4u64 (.p kA4u64 z1)], 0⟩
def ushr_g0 (n : Nat) (d : ushr_sh0.den) (k : Ex → St → Option A) : Option A :=
  ushr_l0 n d.1.2.2.2.2.2.2.1 d.1.2.2.2.2.2.2.2.1 d.2.1 d.2.2.1 (fun z1 => k (.exit 0) (ushr_x0_0 d.1.2.2.2.2.2.2.1 d.1.2.2.2.2.2.2.2.1 d.2.1 d.2.2.1 z1)) n d.1.2.2.2.2.2.2.2.2.1 d.2.2.2.1
noncomputable def ushr_E (n : Nat) : Env A := ⟨tys, gls, [], [(0, loopE ushr_d0 ushr_sh0 (ushr_g0 n))], []⟩
theorem ushr_T {A : Type} (n : Nat) : TyOK Tryd.prog (ushr_E (A := A) n) := tyOK_of rfl tysB
theorem ushr_fns (n : Nat) : FnsOK Tryd.prog (ushr_E (A := A) n) := AllOK.env rfl rfl AllOK.nil
noncomputable def ushr_LK0 (n : Nat) (n_ : Int) (s : Int) (a : (List Int)) (t4 : (List Int)) (k : Ex → St → Option A) (f : Nat) (i : Int) (out : (List Int)) : Option A := loopK (codeK (ushr_E n) 1 ushr_c0) ushr_d0 ushr_y0 f (ushr_sh0.fill (ushr_t0 n_ s a t4 i out)) k
theorem ushr_st0 (n f : Nat) (n_ : Int) (s : Int) (a : (List Int)) (t4 : (List Int)) (k : Ex → St → Option A) (i : Int) (out : (List Int)) : ushr_LK0 n n_ s a t4 k (f + 1) i out = ushr_b0 n n_ s a t4 (fun z1 => k (.exit 0) (ushr_x0_0 n_ s a t4 z1)) (ushr_LK0 n n_ s a t4 k f) i out := by kernel_rfl
theorem ushr_le0 (n : Nat) (n_ : Int) (s : Int) (a : (List Int)) (t4 : (List Int)) (k : Ex → St → Option A) : ∀ (f : Nat) (i : Int) (out : (List Int)), ushr_LK0 n n_ s a t4 k f i out = ushr_l0 n n_ s a t4 (fun z1 => k (.exit 0) (ushr_x0_0 n_ s a t4 z1)) f i out := by
  intro f
  induction f with
  | zero => intros; kernel_rfl
  | succ f ih => intro i out; exact (ushr_st0 n f n_ s a t4 k i out).trans ((congrArg (fun r => ushr_b0 n n_ s a t4 (fun z1 => k (.exit 0) (ushr_x0_0 n_ s a t4 z1)) r i out) (funext fun i => funext fun out => ih i out)).trans (by kernel_rfl))
theorem ushr_lo0 (n : Nat) : LoopOK Tryd.prog gls ushr_c0 (loopE ushr_d0 ushr_sh0 (ushr_g0 (A := A) n)) :=
  LoopOK.of (ushr_T n) (ushr_fns n) follows (j := 1) (n := n) (xdead := ushr_y0) (lo_of (by kernel_rfl : loopsOf 1 ushr_c0 = []) lo_nil) fun d k => Eq.trans (by kernel_rfl) (ushr_le0 n d.1.2.2.2.2.2.2.1 d.1.2.2.2.2.2.2.2.1 d.2.1 d.2.2.1 k n d.1.2.2.2.2.2.2.2.2.1 d.2.2.2.1)
theorem ushr_eqg (n : Nat) (a0 : (List Int)) (a1 : Int) (k : AV → List Blk → Option A) : fnK (ushr_E n) Tryd.f24 [.pure] [.p kA4u64 a0, .p (.int .i64) a1] [] k = ushr_p n a0 a1 (fun r0 => k (.p kA4u64 r0) []) := by kernel_rfl
theorem ushr_eq (n : Nat) (a0 : (List Int)) (a1 : Int) (k : AV → List Blk → Option A) : fnK (ushr_E n) Tryd.f24 [.pure] [.p kA4u64 a0, .p (.int .i64) a1] [] k = ushr_k n a0 a1 (fun r0 => k (.p kA4u64 r0) []) := ushr_eqg n a0 a1 k
def ushr_ent (g : (List Int) → Int → ((List Int) → Option A) → Option A) : Entry A := pureE fun args k => args2 args kA4u64 (.int .i64) fun a0 a1 => g a0 a1 (fun r0 => k (.p kA4u64 r0) [])
theorem ushr_lo (n : Nat) : ∀ c, Tryd.f24.body = some c → ∀ q ∈ loopsOf 0 c, ∀ L, (ushr_E (A := A) n).lps.lookup q.1 = some L → LoopOK Tryd.prog gls q.2 L :=
  lo_body (E := ushr_E n) (by kernel_rfl : Tryd.f24.body = some (bodyOf Tryd.f24)) (lo_of (E := ushr_E n) (by kernel_rfl : loopsOf 0 (bodyOf Tryd.f24) = [(0, ushr_c0)]) (lo_cons rfl (ushr_lo0 n) lo_nil))
theorem ushr_ok (n : Nat) : FnOK Tryd.prog gls 24 (ushr_ent (A := A) (ushr_k n)) :=
  FnOK.of (ushr_T n) (ushr_fns n) follows ⟨Tryd.func24, by kernel_rfl⟩ (ushr_lo n) (rm := [.pure]) fun args k out h => by
    obtain ⟨a0, a1, e, h1⟩ := args2_sound h
    subst e; rw [ushr_eq]; exact h1

end Go.Ev
end

section
/-
  FUNCTION 36: printed by a program of our own (wip/gen/st.py). '(masthead/wide.U).Cmp', in continuation form; the evaluator gives it.
-/
set_option linter.all false
set_option maxRecDepth 100000
namespace Go.Ev
open Go.Proofs
variable {A : Type}

-- ============================================================ ucmp (function 36)
def ucmp_b0 (n : Nat) (a : (List Int)) (b : (List Int)) (k0 : Int → Option A) (k1 : Option A) (r : Int → Option A) (i : Int) : Option A :=
  bif (decide (i ≥ 0)) then
    if 0 ≤ i then
      if i < 4 then
        (a[(Int.toNat i)]?).bind fun y1 =>
        if 0 ≤ i then
          if i < 4 then
            (b[(Int.toNat i)]?).bind fun y2 =>
            bif (decide (y1 < y2)) then
              k0 (-1)
            else
              if 0 ≤ i then
                if i < 4 then
                  (a[(Int.toNat i)]?).bind fun y3 =>
                  if 0 ≤ i then
                    if i < 4 then
                      (b[(Int.toNat i)]?).bind fun y4 =>
                      bif (decide (y3 > y4)) then
                        k0 1
                      else
                        r (IntKind.wrap .i64 (i - 1))
                    else none
                  else none
                else none
              else none
          else none
        else none
      else none
    else none
  else
    k1

def ucmp_l0 (n : Nat) (a : (List Int)) (b : (List Int)) (k0 : Int → Option A) (k1 : Option A) : Nat → Int → Option A
  | 0 => fun _ => none
  | f + 1 => ucmp_b0 n a b k0 k1 (ucmp_l0 n a b k0 k1 f)

def ucmp_p (n : Nat) (a0 : (List Int)) (a1 : (List Int)) (k : Int → Option A) : Option A :=
  ucmp_l0 n a0 a1 (fun y5 =>
    k y5) (
    k 0) n 3

def ucmp_k (n : Nat) (a0 : (List Int)) (a1 : (List Int)) (k : Int → Option A) : Option A := ucmp_p n a0 a1 k

noncomputable def ucmp_c0 : Code := codeAt [1, 0, 1, 0, 0] (bodyOf Tryd.f36)
def ucmp_d0 : List Nat := [0, 1, 4, 6, 7, 8, 9, 10, 11, 12, 13, 14, 15, 16, 17, 18, 19, 20, 21, 22, 23]
def ucmp_y0 : List Nat := [0, 1, 2, 3, 5, 6, 7, 8, 9, 10, 11, 12, 13, 14, 15, 16, 17, 18, 19, 20, 21, 22, 23]
def ucmp_sh0 : Shape := ⟨[.any, .any, (.ptr 0), (.ptr 1), .any, (.p (.int .i64)), .any, .any, .any, .any, .any, .any, .any, .any, .any, .any, .any, .any, .any, .any, .any, .any, .any, .any], [(.var 24 kA4u64 (.p kA4u64)), (.var 24 kA4u64 (.p kA4u64))], 0⟩
def ucmp_t0 (a : (List Int)) (b : (List Int)) (i : Int) : ucmp_sh0.den := (((), (), (), (), (), i, (), (), (), (), (), (), (), (), (), (), (), (), (), (), (), (), (), (), ()), (a, b, ()))
def ucmp_x0_0 (a : (List Int)) (b : (List Int)) (z0 : Int) : St := ⟨[.any, .any, .any, .any, .p (.int .i64) z0, .any, .any, .any, .any, .any, .any, .any, .any, .any, .any, .any, .any, .any, .any, .any, .any, .any, .any, .any], [], 0⟩
def ucmp_x0_1 (a : (List Int)) (b : (List Int)) : St := ⟨[.any, .any, .any, .any, .any, .any, .any, .any, .any, .any, .any, .any, .any, .any, .any, .any, .any, .any, .any, .any, .any, .any, .any, .any], [], 0⟩
def ucmp_g0 (n : Nat) (d : ucmp_sh0.den) (k : Ex → St → Option A) : Option A :=
  ucmp_l0 n d.2.1 d.2.2.1 (fun z0 => k .ret (ucmp_x0_0 d.2.1 d.2.2.1 z0)) (k (.exit 0) (ucmp_x0_1 d.2.1 d.2.2.1)) n d.1.2.2.2.2.2.1
noncomputable def ucmp_E (n : Nat) : Env A := ⟨tys, gls, [], [(0, loopE ucmp_d0 ucmp_sh0 (ucmp_g0 n))], []⟩
theorem ucmp_T {A : Type} (n : Nat) : TyOK Tryd.prog (ucmp_E (A := A) n) := tyOK_of rfl tysB
theorem ucmp_fns (n : Nat) : FnsOK Tryd.prog (ucmp_E (A := A) n) := AllOK.env rfl rfl AllOK.nil
noncomputable def ucmp_LK0 (n : Nat) (a : (List Int)) (b : (List Int)) (k : Ex → St → Option A) (f : Nat) (i : Int) : Option A := loopK (codeK (ucmp_E n) 1 ucmp_c0) ucmp_d0 ucmp_y0 f (ucmp_sh0.fill (ucmp_t0 a b i)) k
theorem ucmp_st0 (n f : Nat) (a : (List Int)) (b : (List Int)) (k : Ex → St → Option A) (i : Int) : ucmp_LK0 n a b k (f + 1) i = ucmp_b0 n a b (fun z0 => k .ret (ucmp_x0_0 a b z0)) (k (.exit 0) (ucmp_x0_1 a b)) (ucmp_LK0 n a b k f) i := by kernel_rfl
theorem ucmp_le0 (n : Nat) (a : (List Int)) (b : (List Int)) (k : Ex → St → Option A) : ∀ (f : Nat) (i : Int), ucmp_LK0 n a b k f i = ucmp_l0 n a b (fun z0 => k .ret (ucmp_x0_0 a b z0)) (k (.exit 0) (ucmp_x0_1 a b)) f i := by
  intro f
  induction f with
  | zero => intros; kernel_rfl
  | succ f ih => intro i; exact (ucmp_st0 n f a b k i).trans ((congrArg (fun r => ucmp_b0 n a b (fun z0 => k .ret (ucmp_x0_0 a b z0)) (k (.exit 0) (ucmp_x0_1 a b)) r i) (funext fun i => ih i)).trans (by kernel_rfl))
theorem ucmp_lo0 (n : Nat) : LoopOK Tryd.prog gls ucmp_c0 (loopE ucmp_d0 ucmp_sh0 (ucmp_g0 (A := A) n)) :=
  LoopOK.of (ucmp_T n) (ucmp_fns n) follows (j := 1) (n := n) (xdead := ucmp_y0) (lo_of (by kernel_rfl : loopsOf 1 ucmp_c0 = []) lo_nil) fun d k => Eq.trans (by kernel_rfl) (ucmp_le0 n d.2.1 d.2.2.1 k n d.1.2.2.2.2.2.1)
theorem ucmp_eqg (n : Nat) (a0 : (List Int)) (a1 : (List Int)) (k : AV → List Blk → Option A) : fnK (ucmp_E n) Tryd.f36 [.pure] [.p kA4u64 a0, .p kA4u64 a1] [] k = ucmp_p n a0 a1 (fun r0 => k (.p (.int .i64) r0) []) := by kernel_rfl
theorem ucmp_eq (n : Nat) (a0 : (List Int)) (a1 : (List Int)) (k : AV → List Blk → Option A) : fnK (ucmp_E n) Tryd.f36 [.pure] [.p kA4u64 a0, .p kA4u64 a1] [] k = ucmp_k n a0 a1 (fun r0 => k (.p (.int .i64) r0) []) := ucmp_eqg n a0 a1 k
def ucmp_ent (g : (List Int) → (List Int) → (Int → Option A) → Option A) : Entry A := pureE fun args k => args2 args kA4u64 kA4u64 fun a0 a1 => g a0 a1 (fun r0 => k (.p (.int .i64) r0) [])
theorem ucmp_lo (n : Nat) : ∀ c, Tryd.f36.body = some c → ∀ q ∈ loopsOf 0 c, ∀ L, (ucmp_E (A := A) n).lps.lookup q.1 = some L → LoopOK Tryd.prog gls q.2 L :=
  lo_body (E := ucmp_E n) (by kernel_rfl : Tryd.f36.body = some (bodyOf Tryd.f36)) (lo_of (E := ucmp_E n) (by kernel_rfl : loopsOf 0 (bodyOf Tryd.f36) = [(0, ucmp_c0)]) (lo_cons rfl (ucmp_lo0 n) lo_nil))
theorem ucmp_ok (n : Nat) : FnOK Tryd.prog gls 36 (ucmp_ent (A := A) (ucmp_k n)) :=
  FnOK.of (ucmp_T n) (ucmp_fns n) follows ⟨Tryd.func36, by kernel_rfl⟩ (ucmp_lo n) (rm := [.pure]) fun args k out h => by
    obtain ⟨a0, a1, e, h1⟩ := args2_sound h
    subst e; rw [ucmp_eq]; exact h1

end Go.Ev
end

section
/-
  FOUR WORDS: plain laws of the printed functions of 256-bit numbers: shifts, order, lengths.
-/
set_option linter.all false
namespace Go.Ev
variable {A : Type}

def P256 : Nat := 115792089237316195423570985008687907853269984665640564039457584007913129639936
def P64 : Nat := 18446744073709551616

/-- The word i of x. -/
def wd (x i : Nat) : Nat := x / 2 ^ (64 * i) % 18446744073709551616

theorem wd_lt (x i : Nat) : wd x i < 18446744073709551616 := Nat.mod_lt _ (by decide)
theorem uw_wd (x : Nat) : uw x = [wd x 0, wd x 1, wd x 2, wd x 3] := by
  unfold uw wd
  simp only [Nat.mul_zero, Nat.pow_zero, Nat.div_one, show 2 ^ (64 * 1) = 18446744073709551616 from by decide, show 2 ^ (64 * 2) = 340282366920938463463374607431768211456 from by decide, show 2 ^ (64 * 3) = 6277101735386680763835789423207666416102355444464034512896 from by decide]
theorem uw_length (x : Nat) : (uw x).length = 4 := rfl
theorem uw_at (x i : Nat) (h : i < 4) : (uw x)[i]? = some (wd x i) := by
  rw [uw_wd]
  rcases i with _ | _ | _ | _ | i
  · rfl
  · rfl
  · rfl
  · rfl
  · omega
theorem iuw_at (x i : Nat) (h : i < 4) : (ints (uw x))[i]? = some ((wd x i : Nat) : Int) := by rw [ints_get, uw_at x i h]; rfl
theorem uw_ext (x : Nat) (l : List Nat) (hl : l.length = 4) (h : ∀ i, i < 4 → l[i]? = some (wd x i)) : l = uw x := by
  apply List.ext_getElem?
  intro i
  by_cases hi : i < 4
  · rw [h i hi, uw_at x i hi]
  · rw [List.getElem?_eq_none (by omega), List.getElem?_eq_none (by rw [uw_length]; omega)]

theorem tb_div (x n i : Nat) : (x / 2 ^ n).testBit i = x.testBit (n + i) := by rw [Nat.testBit_div_two_pow, Nat.add_comm]

theorem wd_testBit (x i t : Nat) : (wd x i).testBit t = (decide (t < 64) && x.testBit (64 * i + t)) := by
  unfold wd
  rw [show (18446744073709551616 : Nat) = 2 ^ 64 from by decide, Nat.testBit_mod_two_pow, tb_div]

theorem wd_shl (x i n s : Nat) (hs : s < 64) (hi : i < 4) (hn : n ≤ i) :
    wd (x * 2 ^ (64 * n + s) % 2 ^ 256) i = (wd x (i - n) * 2 ^ s % 18446744073709551616) ||| (if n < i then wd x (i - n - 1) / 2 ^ (64 - s) else 0) := by
  apply Nat.eq_of_testBit_eq
  intro t
  rw [wd_testBit, Nat.testBit_mod_two_pow, Nat.testBit_mul_two_pow, Nat.testBit_or, show (18446744073709551616 : Nat) = 2 ^ 64 from by decide, Nat.testBit_mod_two_pow, Nat.testBit_mul_two_pow, wd_testBit]
  have e : (if n < i then wd x (i - n - 1) / 2 ^ (64 - s) else 0).testBit t = (decide (n < i) && (decide (64 - s + t < 64) && x.testBit (64 * (i - n - 1) + (64 - s + t)))) := by
    by_cases h : n < i
    · rw [if_pos h, tb_div, wd_testBit]; simp [h]
    · rw [if_neg h]; simp [h]
  rw [e]
  by_cases ht : t < 64
  · by_cases hts : s ≤ t
    · have h1 : 64 * i + t - (64 * n + s) = 64 * (i - n) + (t - s) := by omega
      have h2 : ¬ (64 - s + t < 64) := by omega
      have h3 : 64 * n + s ≤ 64 * i + t := by omega
      have h4 : 64 * i + t < 256 := by omega
      have h5 : t - s < 64 := by omega
      simp [ht, hts, h1, h2, h3, h4, h5]
    · by_cases hni : n < i
      · have h1 : 64 * i + t - (64 * n + s) = 64 * (i - n - 1) + (64 - s + t) := by omega
        have h2 : 64 - s + t < 64 := by omega
        have h3 : 64 * n + s ≤ 64 * i + t := by omega
        have h4 : 64 * i + t < 256 := by omega
        simp [ht, hts, h1, h2, h3, h4, hni]
      · have h3 : ¬ (64 * n + s ≤ 64 * i + t) := by omega
        simp [ht, hts, h3, hni]
  · have h2 : ¬ (64 - s + t < 64) := by omega
    simp [ht, h2]

theorem wd_shl0 (x i n s : Nat) (hn : i < n) : wd (x * 2 ^ (64 * n + s) % 2 ^ 256) i = 0 := by
  apply Nat.eq_of_testBit_eq
  intro t
  rw [wd_testBit, Nat.testBit_mod_two_pow, Nat.testBit_mul_two_pow, Nat.zero_testBit]
  by_cases ht : t < 64
  · have h3 : ¬ (64 * n + s ≤ 64 * i + t) := by omega
    simp [ht, h3]
  · simp [ht]

theorem wd_shr (x i n s : Nat) (hx : x < 2 ^ 256) (hs : s < 64) :
    wd (x / 2 ^ (64 * n + s)) i = (wd x (i + n) / 2 ^ s) ||| (if i + n + 1 < 4 then wd x (i + n + 1) * 2 ^ (64 - s) % 18446744073709551616 else 0) := by
  apply Nat.eq_of_testBit_eq
  intro t
  have hbig : ∀ j, 256 ≤ j → x.testBit j = false := fun j hj => Nat.testBit_lt_two_pow (Nat.lt_of_lt_of_le hx (Nat.pow_le_pow_right (by decide) hj))
  rw [wd_testBit, tb_div, Nat.testBit_or, tb_div, wd_testBit]
  have e : (if i + n + 1 < 4 then wd x (i + n + 1) * 2 ^ (64 - s) % 18446744073709551616 else 0).testBit t = (decide (i + n + 1 < 4) && (decide (t < 64) && (decide (64 - s ≤ t) && (decide (t - (64 - s) < 64) && x.testBit (64 * (i + n + 1) + (t - (64 - s))))))) := by
    by_cases h : i + n + 1 < 4
    · rw [if_pos h, show (18446744073709551616 : Nat) = 2 ^ 64 from by decide, Nat.testBit_mod_two_pow, Nat.testBit_mul_two_pow, wd_testBit]; simp [h]
    · rw [if_neg h]; simp [h]
  rw [e]
  by_cases ht : t < 64
  · by_cases hts : 64 - s ≤ t
    · have h1 : 64 * n + s + (64 * i + t) = 64 * (i + n + 1) + (t - (64 - s)) := by omega
      have h2 : ¬ (s + t < 64) := by omega
      have h5 : t - (64 - s) < 64 := by omega
      by_cases h : i + n + 1 < 4
      · simp [ht, hts, h1, h2, h5, h]
      · rw [h1, hbig _ (by omega)]; simp [h2]
    · have h1 : 64 * n + s + (64 * i + t) = 64 * (i + n) + (s + t) := by omega
      have h2 : s + t < 64 := by omega
      simp [ht, hts, h1, h2]
  · have h2 : ¬ (s + t < 64) := by omega
    simp [ht, h2]

theorem lt_P (h : Nat) (x : Nat) : (h = 0) → x < 18446744073709551616 → x < 18446744073709551616 := fun _ h => h

-- ------------------------------------------------------------ to the left

theorem ushl_step (n f : Nat) (t4 : List Int) (k0 : List Int → Option A) (x m s i : Nat) (hs : s < 64) (hi : i < 4) (hn : m ≤ i) (out : List Nat) (ho : out.length = 4) :
    ushl_l0 n (m : Int) (s : Int) (ints (uw x)) t4 k0 (f + 1) (i : Int) (ints out) = ushl_l0 n (m : Int) (s : Int) (ints (uw x)) t4 k0 f ((i : Int) - 1) (ints (out.set i (wd (x * 2 ^ (64 * m + s) % 2 ^ 256) i))) := by
  rw [ushl_l0, ushl_b0, wd_shl x i m s hs hi hn]
  have e : decide ((i : Int) ≥ (m : Int)) = true := decide_eq_true (by omega)
  have e1 : IntKind.wrap .i64 ((i : Int) - (m : Int)) = ((i - m : Nat) : Int) := by rw [wrap_id (by omega) (by omega)]; omega
  have e2 : IntKind.wrap .i64 ((i : Int) - 1) = (i : Int) - 1 := wrap_id (by omega) (by omega)
  have e3 : shl .u64 ((wd x (i - m) : Nat) : Int) (s : Int) = ((wd x (i - m) * 2 ^ s % 18446744073709551616 : Nat) : Int) := shl_u64 _ _ (by omega)
  rw [e, cond_true, e1, if_pos (by omega), if_pos (by omega), Int.toNat_natCast, iuw_at _ _ (by omega), Option.bind_some, if_neg (by omega), if_pos (by omega), if_pos (by omega), Int.toNat_natCast, if_pos (by omega), e3, e2]
  by_cases hmi : m < i
  · have d1 : decide ((i : Int) > (m : Int)) = true := decide_eq_true (by omega)
    rw [d1, cond_true, if_pos hmi]
    by_cases hs0 : 0 < s
    · have d2 : decide ((s : Int) > 0) = true := decide_eq_true (by omega)
      have e4 : IntKind.wrap .i64 (((i - m : Nat) : Int) - 1) = ((i - m - 1 : Nat) : Int) := by rw [wrap_id (by omega) (by omega)]; omega
      have e5 : IntKind.wrap .i64 (64 - (s : Int)) = ((64 - s : Nat) : Int) := by rw [wrap_id (by omega) (by omega)]; omega
      have e6 : shr .u64 ((wd x (i - m - 1) : Nat) : Int) ((64 - s : Nat) : Int) = ((wd x (i - m - 1) / 2 ^ (64 - s) : Nat) : Int) := shr_u64 _ _ (by omega)
      have e7 : ior .u64 ((wd x (i - m) * 2 ^ s % 18446744073709551616 : Nat) : Int) ((wd x (i - m - 1) / 2 ^ (64 - s) : Nat) : Int) = ((wd x (i - m) * 2 ^ s % 18446744073709551616 ||| wd x (i - m - 1) / 2 ^ (64 - s) : Nat) : Int) :=
        ior_u64 _ _ (Nat.mod_lt _ (by decide)) (Nat.lt_of_le_of_lt (Nat.div_le_self _ _) (wd_lt x _))
      rw [d2, cond_true, if_pos (by omega), if_pos (by omega), ints_set, ints_at _ _ (by rw [List.length_set]; omega), Option.bind_some, e4, if_pos (by omega), if_pos (by omega), Int.toNat_natCast, iuw_at _ _ (by omega), Option.bind_some, e5, if_neg (by omega), if_pos (by omega), if_pos (by omega), if_pos (by omega), e6, List.getElem_set_self, e7, ints_set, List.set_set]
    · have d2 : decide ((s : Int) > 0) = false := decide_eq_false (by omega)
      have hs1 : s = 0 := by omega
      subst hs1
      have e8 : wd x (i - m - 1) / 2 ^ (64 - 0) = 0 := Nat.div_eq_of_lt (wd_lt x _)
      rw [d2, cond_false, e8, Nat.or_zero, ints_set]
  · have d1 : decide ((i : Int) > (m : Int)) = false := decide_eq_false (by omega)
    rw [d1, cond_false, if_neg hmi, Nat.or_zero, ints_set]

theorem ushl_l0_law (n : Nat) (t4 : List Int) (k0 : List Int → Option A) (x m s : Nat) (hs : s < 64) (hm : m ≤ 4) : ∀ (d f : Nat) (out : List Nat), out.length = 4 → m + d ≤ 4 → d < f →
    (∀ j, j < m → out[j]? = some 0) → (∀ j, m + d ≤ j → j < 4 → out[j]? = some (wd (x * 2 ^ (64 * m + s) % 2 ^ 256) j)) →
    ushl_l0 n (m : Int) (s : Int) (ints (uw x)) t4 k0 f (((m + d : Nat) : Int) - 1) (ints out) = k0 (ints (uw (x * 2 ^ (64 * m + s) % 2 ^ 256)))
  | _, 0, _, _, _, h, _, _ => by omega
  | 0, f + 1, out, ho, _, _, h1, h2 => by
    rw [ushl_l0, ushl_b0]
    have e : decide (((m + 0 : Nat) : Int) - 1 ≥ (m : Int)) = false := decide_eq_false (by omega)
    rw [e, cond_false, uw_ext (x * 2 ^ (64 * m + s) % 2 ^ 256) out ho fun i hi => ?_]
    by_cases him : i < m
    · rw [h1 i him, wd_shl0 x i m s him]
    · exact h2 i (by omega) hi
  | d + 1, f + 1, out, ho, hd, hf, h1, h2 => by
    have e : ((m + (d + 1) : Nat) : Int) - 1 = ((m + d : Nat) : Int) := by omega
    rw [e, ushl_step n f t4 k0 x m s (m + d) hs (by omega) (by omega) out ho]
    refine ushl_l0_law n t4 k0 x m s hs hm d f _ (by rw [List.length_set]; exact ho) (by omega) (by omega) (fun j hj => ?_) (fun j hj hj4 => ?_)
    · rw [List.getElem?_set_ne (by omega)]; exact h1 j hj
    · by_cases hjm : m + d = j
      · subst hjm; rw [List.getElem?_set_self (by omega)]
      · rw [List.getElem?_set_ne hjm]; exact h2 j (by omega) hj4

theorem zero_uw : ([0, 0, 0, 0] : List Int) = ints (uw 0) := by simp [ints, uw]

theorem ushl_law (n : Nat) (hn : 10 < n) (x m : Nat) (g : List Int → Option A) : ushl_k n (ints (uw x)) (m : Int) g = g (ints (uw (x * 2 ^ m % 2 ^ 256))) := by
  unfold ushl_k ushl_p
  have e0 : imax (m : Int) 0 = (m : Int) := by unfold imax; split <;> omega
  rw [e0]
  by_cases h : 256 ≤ m
  · have e : decide ((m : Int) ≥ 256) = true := decide_eq_true (by omega)
    have e2 : x * 2 ^ m % 2 ^ 256 = 0 := by
      rw [show m = (m - 256) + 256 from by omega, Nat.pow_add, ← Nat.mul_assoc, Nat.mul_mod_left]
    rw [e, cond_true, e2, zero_uw]
  · have e : decide ((m : Int) ≥ 256) = false := decide_eq_false (by omega)
    have e1 : IntKind.wrap .i64 (Int.tdiv (m : Int) 64) = ((m / 64 : Nat) : Int) := by
      rw [show (64 : Int) = ((64 : Nat) : Int) from rfl, tdiv_nat]; exact wrap_id (by omega) (by omega)
    have e2 : Int.tmod (m : Int) 64 = ((m % 64 : Nat) : Int) := by rw [show (64 : Int) = ((64 : Nat) : Int) from rfl, tmod_nat]
    rw [e, cond_false, e1, e2]
    have h0 := ushl_l0_law n [0, 0, 0, 0] (fun y4 => g y4) x (m / 64) (m % 64) (by omega) (by omega) (4 - m / 64) n [0, 0, 0, 0] rfl (by omega) (by omega)
      (fun j hj => by
        have : j = 0 ∨ j = 1 ∨ j = 2 ∨ j = 3 := by omega
        rcases this with rfl | rfl | rfl | rfl <;> rfl) (fun j hj hj2 => by omega)
    rw [show ((m / 64 + (4 - m / 64) : Nat) : Int) - 1 = 3 from by omega, show 64 * (m / 64) + m % 64 = m from by omega] at h0
    exact h0

-- ------------------------------------------------------------ to the right

theorem ushr_step (n f : Nat) (t4 : List Int) (k0 : List Int → Option A) (x m s i : Nat) (hx : x < 2 ^ 256) (hs : s < 64) (hi : i + m < 4) (out : List Nat) (ho : out.length = 4) :
    ushr_l0 n (m : Int) (s : Int) (ints (uw x)) t4 k0 (f + 1) (i : Int) (ints out) = ushr_l0 n (m : Int) (s : Int) (ints (uw x)) t4 k0 f ((i + 1 : Nat) : Int) (ints (out.set i (wd (x / 2 ^ (64 * m + s)) i))) := by
  rw [ushr_l0, ushr_b0, wd_shr x i m s hx hs]
  have e1 : IntKind.wrap .i64 ((i : Int) + (m : Int)) = ((i + m : Nat) : Int) := by rw [wrap_id (by omega) (by omega)]; omega
  have e : decide (((i + m : Nat) : Int) < 4) = true := decide_eq_true (by omega)
  have e2 : IntKind.wrap .i64 ((i : Int) + 1) = ((i + 1 : Nat) : Int) := by rw [wrap_id (by omega) (by omega)]; omega
  have e3 : shr .u64 ((wd x (i + m) : Nat) : Int) (s : Int) = ((wd x (i + m) / 2 ^ s : Nat) : Int) := shr_u64 _ _ (by omega)
  have e4 : IntKind.wrap .i64 (((i + m : Nat) : Int) + 1) = ((i + m + 1 : Nat) : Int) := by rw [wrap_id (by omega) (by omega)]; omega
  rw [e1, e, cond_true, if_pos (by omega), if_pos (by omega), Int.toNat_natCast, iuw_at _ _ (by omega), Option.bind_some, if_neg (by omega), if_pos (by omega), if_pos (by omega), Int.toNat_natCast, if_pos (by omega), e3, e2, e4]
  by_cases hmi : i + m + 1 < 4
  · have d1 : decide (((i + m + 1 : Nat) : Int) < 4) = true := decide_eq_true (by omega)
    rw [d1, cond_true, if_pos hmi]
    by_cases hs0 : 0 < s
    · have d2 : decide ((s : Int) > 0) = true := decide_eq_true (by omega)
      have e5 : IntKind.wrap .i64 (64 - (s : Int)) = ((64 - s : Nat) : Int) := by rw [wrap_id (by omega) (by omega)]; omega
      have e6 : shl .u64 ((wd x (i + m + 1) : Nat) : Int) ((64 - s : Nat) : Int) = ((wd x (i + m + 1) * 2 ^ (64 - s) % 18446744073709551616 : Nat) : Int) := shl_u64 _ _ (by omega)
      have e7 : ior .u64 ((wd x (i + m) / 2 ^ s : Nat) : Int) ((wd x (i + m + 1) * 2 ^ (64 - s) % 18446744073709551616 : Nat) : Int) = ((wd x (i + m) / 2 ^ s ||| wd x (i + m + 1) * 2 ^ (64 - s) % 18446744073709551616 : Nat) : Int) :=
        ior_u64 _ _ (Nat.lt_of_le_of_lt (Nat.div_le_self _ _) (wd_lt x _)) (Nat.mod_lt _ (by decide))
      rw [d2, cond_true, if_pos (by omega), if_pos (by omega), ints_set, ints_at _ _ (by rw [List.length_set]; omega), Option.bind_some, if_pos (by omega), if_pos (by omega), Int.toNat_natCast, iuw_at _ _ (by omega), Option.bind_some, e5, if_neg (by omega), if_pos (by omega), if_pos (by omega), if_pos (by omega), e6, List.getElem_set_self, e7, ints_set, List.set_set]
    · have d2 : decide ((s : Int) > 0) = false := decide_eq_false (by omega)
      have hs1 : s = 0 := by omega
      subst hs1
      have e8 : wd x (i + m + 1) * 2 ^ (64 - 0) % 18446744073709551616 = 0 := by
        rw [show 2 ^ (64 - 0) = 18446744073709551616 from by decide, Nat.mul_mod_left]
      rw [d2, cond_false, e8, Nat.or_zero, ints_set]
  · have d1 : decide (((i + m + 1 : Nat) : Int) < 4) = false := decide_eq_false (by omega)
    rw [d1, cond_false, if_neg hmi, Nat.or_zero, ints_set]

theorem wd_shr0 (x i n s : Nat) (hx : x < 2 ^ 256) (hn : 4 ≤ i + n) : wd (x / 2 ^ (64 * n + s)) i = 0 := by
  apply Nat.eq_of_testBit_eq
  intro t
  rw [wd_testBit, tb_div, Nat.zero_testBit]
  rw [Nat.testBit_lt_two_pow (Nat.lt_of_lt_of_le hx (Nat.pow_le_pow_right (by decide) (show 256 ≤ 64 * n + s + (64 * i + t) by omega)))]
  simp

theorem ushr_l0_law (n : Nat) (t4 : List Int) (k0 : List Int → Option A) (x m s : Nat) (hx : x < 2 ^ 256) (hs : s < 64) : ∀ (d f i : Nat) (out : List Nat), out.length = 4 → i + m + d = 4 → d < f →
    (∀ j, j < 4 → out[j]? = some (if j < i then wd (x / 2 ^ (64 * m + s)) j else 0)) →
    ushr_l0 n (m : Int) (s : Int) (ints (uw x)) t4 k0 f (i : Int) (ints out) = k0 (ints (uw (x / 2 ^ (64 * m + s))))
  | _, 0, _, _, _, _, h, _ => by omega
  | 0, f + 1, i, out, ho, hd, _, h1 => by
    rw [ushr_l0, ushr_b0]
    have e1 : IntKind.wrap .i64 ((i : Int) + (m : Int)) = ((i + m : Nat) : Int) := by rw [wrap_id (by omega) (by omega)]; omega
    have e : decide (((i + m : Nat) : Int) < 4) = false := decide_eq_false (by omega)
    rw [e1, e, cond_false, uw_ext (x / 2 ^ (64 * m + s)) out ho fun j hj => ?_]
    rw [h1 j hj]
    split
    · rfl
    · rw [wd_shr0 x j m s hx (by omega)]
  | d + 1, f + 1, i, out, ho, hd, hf, h1 => by
    rw [ushr_step n f t4 k0 x m s i hx hs (by omega) out ho]
    refine ushr_l0_law n t4 k0 x m s hx hs d f (i + 1) _ (by rw [List.length_set]; exact ho) (by omega) (by omega) (fun j hj => ?_)
    by_cases hjm : i = j
    · subst hjm; rw [List.getElem?_set_self (by omega), if_pos (by omega)]
    · rw [List.getElem?_set_ne hjm, h1 j hj]
      by_cases hji : j < i
      · rw [if_pos hji, if_pos (by omega)]
      · rw [if_neg hji, if_neg (by omega)]

theorem ushr_law (n : Nat) (hn : 10 < n) (x m : Nat) (hx : x < 2 ^ 256) (g : List Int → Option A) : ushr_k n (ints (uw x)) (m : Int) g = g (ints (uw (x / 2 ^ m))) := by
  unfold ushr_k ushr_p
  have e0 : imax (m : Int) 0 = (m : Int) := by unfold imax; split <;> omega
  rw [e0]
  by_cases h : 256 ≤ m
  · have e : decide ((m : Int) ≥ 256) = true := decide_eq_true (by omega)
    have e2 : x / 2 ^ m = 0 := Nat.div_eq_of_lt (Nat.lt_of_lt_of_le hx (Nat.pow_le_pow_right (by decide) h))
    rw [e, cond_true, e2, zero_uw]
  · have e : decide ((m : Int) ≥ 256) = false := decide_eq_false (by omega)
    have e1 : IntKind.wrap .i64 (Int.tdiv (m : Int) 64) = ((m / 64 : Nat) : Int) := by
      rw [show (64 : Int) = ((64 : Nat) : Int) from rfl, tdiv_nat]; exact wrap_id (by omega) (by omega)
    have e2 : Int.tmod (m : Int) 64 = ((m % 64 : Nat) : Int) := by rw [show (64 : Int) = ((64 : Nat) : Int) from rfl, tmod_nat]
    rw [e, cond_false, e1, e2]
    have h0 := ushr_l0_law n [0, 0, 0, 0] (fun y4 => g y4) x (m / 64) (m % 64) hx (by omega) (4 - m / 64) n 0 [0, 0, 0, 0] rfl (by omega) (by omega)
      (fun j hj => by
        have : j = 0 ∨ j = 1 ∨ j = 2 ∨ j = 3 := by omega
        rcases this with rfl | rfl | rfl | rfl <;> rfl)
    rw [show 64 * (m / 64) + m % 64 = m from by omega] at h0
    exact h0

-- ------------------------------------------------------------ order

theorem wd_split (x i : Nat) : x / 2 ^ (64 * i) = wd x i + 18446744073709551616 * (x / 2 ^ (64 * (i + 1))) := by
  unfold wd
  rw [show 64 * (i + 1) = 64 * i + 64 from by omega, Nat.pow_add, ← Nat.div_div_eq_div_mul, show (2 : Nat) ^ 64 = 18446744073709551616 from by decide]
  omega

def ucmpN (x y : Nat) : Int := if x < y then -1 else if y < x then 1 else 0

theorem ucmp_l0_law (n : Nat) (x y : Nat) (g : Int → Option A) : ∀ (f i : Nat), i ≤ 4 → i < f → x / 2 ^ (64 * i) = y / 2 ^ (64 * i) →
    ucmp_l0 n (ints (uw x)) (ints (uw y)) g (g 0) f ((i : Int) - 1) = g (ucmpN x y) := by
  intro f
  induction f with
  | zero => intro i _ h; omega
  | succ f ih =>
  intro i hi hf he
  rcases i with _ | i
  · rw [ucmp_l0, ucmp_b0]
    have e : decide (((0 : Nat) : Int) - 1 ≥ 0) = false := by decide
    rw [Nat.mul_zero, Nat.pow_zero, Nat.div_one, Nat.div_one] at he
    rw [e, cond_false, he]
    unfold ucmpN
    rw [if_neg (by omega), if_neg (by omega)]
  · rw [ucmp_l0, ucmp_b0]
    have e0 : ((i + 1 : Nat) : Int) - 1 = (i : Int) := by omega
    have e : decide ((i : Int) ≥ 0) = true := decide_eq_true (by omega)
    have e2 : IntKind.wrap .i64 ((i : Int) - 1) = (i : Int) - 1 := wrap_id (by omega) (by omega)
    rw [e0, e, cond_true, if_pos (by omega), if_pos (by omega), Int.toNat_natCast, iuw_at _ _ (by omega), Option.bind_some, if_pos (by omega), if_pos (by omega), iuw_at _ _ (by omega), Option.bind_some]
    have hx := wd_split x i
    have hy := wd_split y i
    by_cases h1 : wd x i < wd y i
    · have d : decide (((wd x i : Nat) : Int) < ((wd y i : Nat) : Int)) = true := decide_eq_true (by omega)
      rw [d, cond_true]
      unfold ucmpN
      have : x < y := by
        rcases Nat.lt_or_ge x y with h | h
        · exact h
        · have := Nat.div_le_div_right (c := 2 ^ (64 * i)) h; omega
      rw [if_pos this]
    · have d : decide (((wd x i : Nat) : Int) < ((wd y i : Nat) : Int)) = false := decide_eq_false (by omega)
      rw [d, cond_false, if_pos (by omega), if_pos (by omega), Option.bind_some, if_pos (by omega), if_pos (by omega), Option.bind_some]
      by_cases h2 : wd y i < wd x i
      · have d : decide (((wd x i : Nat) : Int) > ((wd y i : Nat) : Int)) = true := decide_eq_true (by omega)
        rw [d, cond_true]
        unfold ucmpN
        have : y < x := by
          rcases Nat.lt_or_ge y x with h | h
          · exact h
          · have := Nat.div_le_div_right (c := 2 ^ (64 * i)) h; omega
        rw [if_neg (by omega), if_pos this]
      · have d : decide (((wd x i : Nat) : Int) > ((wd y i : Nat) : Int)) = false := decide_eq_false (by omega)
        rw [d, cond_false, e2]
        exact ih i (by omega) (by omega) (by omega)

theorem ucmp_law (n : Nat) (hn : 10 < n) (x y : Nat) (hx : x < 2 ^ 256) (hy : y < 2 ^ 256) (g : Int → Option A) : ucmp_k n (ints (uw x)) (ints (uw y)) g = g (ucmpN x y) := by
  unfold ucmp_k ucmp_p
  exact ucmp_l0_law n x y (fun y5 => g y5) n 4 (by omega) (by omega) (by
    rw [show (2 : Nat) ^ (64 * 4) = 2 ^ 256 from by decide, Nat.div_eq_of_lt hx, Nat.div_eq_of_lt hy])

end Go.Ev
end

section
/-
  OF DIGITS to four words.
-/
set_option linter.all false
namespace Go.Ev
variable {A : Type}

theorem dig_at : ∀ (i x : Nat), (h : i < (dig x).length) → (dig x)[i] = x / 65536 ^ i % 65536
  | i, x, h => by
    have hx : x ≠ 0 := fun e => by subst e; rw [dig_zero] at h; exact Nat.not_lt_zero _ h
    have e := dig_pos hx
    match i with
    | 0 =>
      simp only [e, List.getElem_cons_zero, Nat.pow_zero, Nat.div_one]
    | i + 1 =>
      have h2 : i < (dig (x / 65536)).length := by rw [e] at h; simp at h; omega
      have := dig_at i (x / 65536) h2
      simp only [e, List.getElem_cons_succ]
      rw [this, Nat.div_div_eq_div_mul, Nat.pow_succ, Nat.mul_comm]

/-- The word j, its digits from i on read so far. -/
def outAt (x i j : Nat) : Nat := x / 2 ^ (16 * max i (4 * j)) % 2 ^ (16 * (4 * j + 4 - max i (4 * j)))
def ow (x i : Nat) : List Nat := [outAt x i 0, outAt x i 1, outAt x i 2, outAt x i 3]
theorem outAt_lt (x i j : Nat) : outAt x i j < 18446744073709551616 := by
  refine Nat.lt_of_lt_of_le (Nat.mod_lt _ (Nat.two_pow_pos _)) ?_
  rw [show 18446744073709551616 = 2 ^ 64 from by decide]
  exact Nat.pow_le_pow_right (by decide) (by omega)
theorem outAt_none (x i j : Nat) (h : 4 * j + 4 ≤ i) : outAt x i j = 0 := by
  unfold outAt
  rw [show 4 * j + 4 - max i (4 * j) = 0 from by omega, Nat.mul_zero, Nat.pow_zero, Nat.mod_one]
theorem outAt_big (x i j : Nat) (h : x < 2 ^ (16 * i)) : outAt x i j = 0 := by
  unfold outAt
  rw [Nat.div_eq_of_lt (Nat.lt_of_lt_of_le h (Nat.pow_le_pow_right (by decide) (by omega))), Nat.zero_mod]
theorem outAt_done (x j : Nat) : outAt x 0 j = wd x j := by
  unfold outAt wd
  rw [show max 0 (4 * j) = 4 * j from by omega, show 4 * j + 4 - 4 * j = 4 from by omega, show 16 * (4 * j) = 64 * j from by omega]
theorem outAt_step (x i : Nat) : outAt x i (i / 4) = outAt x (i + 1) (i / 4) * 65536 + x / 65536 ^ i % 65536 := by
  unfold outAt
  have h1 : max i (4 * (i / 4)) = i := by omega
  have h2 : max (i + 1) (4 * (i / 4)) = i + 1 := by omega
  have h3 : 16 * (4 * (i / 4) + 4 - i) = 16 + 16 * (4 * (i / 4) + 4 - (i + 1)) := by omega
  rw [h1, h2, h3, Nat.pow_add 2 16, Nat.mod_mul, show 16 * (i + 1) = 16 * i + 16 from by omega, Nat.pow_add, ← Nat.div_div_eq_div_mul, show (65536 : Nat) = 2 ^ 16 from by decide, ← Nat.pow_mul]
  rw [Nat.mul_comm (2 ^ 16), Nat.add_comm]
theorem outAt_other (x i j : Nat) (h : j ≠ i / 4) : outAt x (i + 1) j = outAt x i j := by
  rcases Nat.lt_or_ge (i / 4) j with h1 | h1
  · unfold outAt
    rw [show max (i + 1) (4 * j) = 4 * j from by omega, show max i (4 * j) = 4 * j from by omega]
  · rw [outAt_none _ _ _ (by omega), outAt_none _ _ _ (by omega)]
theorem ow_at (x i j : Nat) (h : j < 4) : (ow x i)[j]? = some (outAt x i j) := by
  rcases j with _ | _ | _ | _ | j
  · rfl
  · rfl
  · rfl
  · rfl
  · omega
theorem ow_set (x i : Nat) (h : i < 16) : (ow x (i + 1)).set (i / 4) (outAt x i (i / 4)) = ow x i := by
  apply List.ext_getElem?
  intro j
  by_cases hj : j < 4
  · rw [ow_at x i j hj]
    by_cases he : i / 4 = j
    · subst he; rw [List.getElem?_set_self (by exact hj)]
    · rw [List.getElem?_set_ne he, ow_at _ _ _ hj, outAt_other _ _ _ (fun e => he e.symm)]
  · rw [List.getElem?_eq_none (by rw [List.length_set]; show 4 ≤ j; omega), List.getElem?_eq_none (by show 4 ≤ j; omega)]

theorem words_l0_law (n : Nat) (x : Nat) (t2 : List Int) (k0 : List Int → Option A) (hl : (dig x).length < 100000) : ∀ (i f : Nat), i ≤ (dig x).length → i < f →
    words_l0 n (ints (dig x)) t2 k0 f ((i : Int) - 1) (ints (ow x i)) = k0 (ints (uw x)) := by
  intro i
  induction i with
  | zero =>
    intro f _ hf
    obtain ⟨f, rfl⟩ : ∃ g, f = g + 1 := ⟨f - 1, by omega⟩
    rw [words_l0, words_b0, decide_eq_false (show ¬ ((0 : Nat) : Int) - 1 ≥ 0 by omega), cond_false]
    have e : ow x 0 = uw x := by rw [uw_wd]; unfold ow; rw [outAt_done, outAt_done, outAt_done, outAt_done]
    rw [e]
  | succ i ih =>
    intro f hi hf
    obtain ⟨f, rfl⟩ : ∃ g, f = g + 1 := ⟨f - 1, by omega⟩
    have e0 : ((i + 1 : Nat) : Int) - 1 = (i : Int) := by omega
    have e1 : IntKind.wrap .i64 ((i : Int) - 1) = (i : Int) - 1 := wrap_id (by omega) (by omega)
    rw [words_l0, words_b0, e0, decide_eq_true (show (i : Int) ≥ 0 by omega), cond_true, e1]
    by_cases h16 : i < 16
    · have e2 : IntKind.wrap .i64 (Int.tdiv (i : Int) 4) = ((i / 4 : Nat) : Int) := by
        rw [show (4 : Int) = ((4 : Nat) : Int) from rfl, tdiv_nat]; exact wrap_id (by omega) (by omega)
      have hlt : i < (dig x).length := by omega
      have ho := outAt_step x i
      have hb := outAt_lt x i (i / 4)
      have hd : x / 65536 ^ i % 65536 < 65536 := Nat.mod_lt _ (by decide)
      have e3 : (ints (ow x (i + 1)))[i / 4]? = some ((outAt x (i + 1) (i / 4) : Nat) : Int) := by rw [ints_get, ow_at _ _ _ (by omega)]; rfl
      have e4 : IntKind.wrap .u64 (IntKind.wrap .u64 (((outAt x (i + 1) (i / 4) : Nat) : Int) * 65536) + IntKind.wrap .u64 ((x / 65536 ^ i % 65536 : Nat) : Int)) = ((outAt x i (i / 4) : Nat) : Int) := by
        rw [wrap_u64_nat (x / 65536 ^ i % 65536) (by omega), show ((outAt x (i + 1) (i / 4) : Nat) : Int) * 65536 = ((outAt x (i + 1) (i / 4) * 65536 : Nat) : Int) from by omega, wrap_u64_nat _ (by omega), ← Int.natCast_add, wrap_u64_nat _ (by omega), ← ho]
      rw [decide_eq_true (show (i : Int) < 16 by omega), cond_true, e2, if_pos (by omega), if_pos (by omega), Int.toNat_natCast, Int.toNat_natCast, e3, Option.bind_some, if_pos (by omega), ints_at _ i hlt, Option.bind_some, if_pos (by omega), if_pos (by omega), if_pos (by omega), dig_at i x hlt, e4, ints_set, ow_set x i h16]
      exact ih f (by omega) (by omega)
    · rw [decide_eq_false (show ¬ (i : Int) < 16 by omega), cond_false]
      have e2 : ow x (i + 1) = ow x i := by
        unfold ow
        rw [outAt_other x i 0 (by omega), outAt_other x i 1 (by omega), outAt_other x i 2 (by omega), outAt_other x i 3 (by omega)]
      rw [e2]
      exact ih f (by omega) (by omega)

theorem dig_bound (x : Nat) : x < 2 ^ (16 * (dig x).length) := by
  have h := bval_lt (dig x) (dig_Dig x)
  rw [bval_dig, show 65536 = 2 ^ 16 from by decide, ← Nat.pow_mul] at h
  exact h

theorem words_law (n x : Nat) (hl : (dig x).length < 100000) (hn : (dig x).length < n) (g : List Int → Option A) : words_k n (ints (dig x)) g = g (ints (uw x)) := by
  unfold words_k words_p
  have e : ow x (dig x).length = [0, 0, 0, 0] := by
    unfold ow
    rw [outAt_big x _ 0 (dig_bound x), outAt_big x _ 1 (dig_bound x), outAt_big x _ 2 (dig_bound x), outAt_big x _ 3 (dig_bound x)]
  have h := words_l0_law n x [0, 0, 0, 0] (fun y3 => g y3) hl (dig x).length n (Nat.le_refl _) hn
  rw [e] at h
  rw [ints_length, wrap_id (x := ((dig x).length : Int) - 1) (by omega) (by omega)]
  exact h

end Go.Ev
end

section
/-
  FUNCTION 49: printed by a program of our own (wip/gen/st.py). 'math/bits.Len64', in continuation form; the evaluator gives it.
-/
set_option linter.all false
set_option maxRecDepth 100000
namespace Go.Ev
open Go.Proofs
variable {A : Type}

-- ============================================================ len64 (function 49)
def len64_p (n : Nat) (a0 : Int) (k : Int → Option A) : Option A :=
  bif (decide (a0 ≥ 4294967296)) then
    bif (decide ((shr .u64 a0 32) ≥ 65536)) then
      bif (decide ((shr .u64 (shr .u64 a0 32) 16) ≥ 256)) then
        if 0 ≤ (IntKind.wrap .u8 (shr .u64 (shr .u64 (shr .u64 a0 32) 16) 8)) then
          ((strBytes str0)[(Int.toNat (IntKind.wrap .u8 (shr .u64 (shr .u64 (shr .u64 a0 32) 16) 8)))]?).bind fun y1 =>
          k (IntKind.wrap .i64 (56 + (IntKind.wrap .i64 y1)))
        else none
      else
        if 0 ≤ (IntKind.wrap .u8 (shr .u64 (shr .u64 a0 32) 16)) then
          ((strBytes str0)[(Int.toNat (IntKind.wrap .u8 (shr .u64 (shr .u64 a0 32) 16)))]?).bind fun y2 =>
          k (IntKind.wrap .i64 (48 + (IntKind.wrap .i64 y2)))
        else none
    else
      bif (decide ((shr .u64 a0 32) ≥ 256)) then
        if 0 ≤ (IntKind.wrap .u8 (shr .u64 (shr .u64 a0 32) 8)) then
          ((strBytes str0)[(Int.toNat (IntKind.wrap .u8 (shr .u64 (shr .u64 a0 32) 8)))]?).bind fun y3 =>
          k (IntKind.wrap .i64 (40 + (IntKind.wrap .i64 y3)))
        else none
      else
        if 0 ≤ (IntKind.wrap .u8 (shr .u64 a0 32)) then
          ((strBytes str0)[(Int.toNat (IntKind.wrap .u8 (shr .u64 a0 32)))]?).bind fun y4 =>
          k (IntKind.wrap .i64 (32 + (IntKind.wrap .i64 y4)))
        else none
  else
    bif (decide (a0 ≥ 65536)) then
      bif (decide ((shr .u64 a0 16) ≥ 256)) then
        if 0 ≤ (IntKind.wrap .u8 (shr .u64 (shr .u64 a0 16) 8)) then
          ((strBytes str0)[(Int.toNat (IntKind.wrap .u8 (shr .u64 (shr .u64 a0 16) 8)))]?).bind fun y5 =>
          k (IntKind.wrap .i64 (24 + (IntKind.wrap .i64 y5)))
        else none
      else
        if 0 ≤ (IntKind.wrap .u8 (shr .u64 a0 16)) then
          ((strBytes str0)[(Int.toNat (IntKind.wrap .u8 (shr .u64 a0 16)))]?).bind fun y6 =>
          k (IntKind.wrap .i64 (16 + (IntKind.wrap .i64 y6)))
        else none
    else
      bif (decide (a0 ≥ 256)) then
        if 0 ≤ (IntKind.wrap .u8 (shr .u64 a0 8)) then
          ((strBytes str0)[(Int.toNat (IntKind.wrap .u8 (shr .u64 a0 8)))]?).bind fun y7 =>
          k (IntKind.wrap .i64 (8 + (IntKind.wrap .i64 y7)))
        else none
      else
        if 0 ≤ (IntKind.wrap .u8 a0) then
          ((strBytes str0)[(Int.toNat (IntKind.wrap .u8 a0))]?).bind fun y8 =>
          k (IntKind.wrap .i64 (0 + (IntKind.wrap .i64 y8)))
        else none

def len64_k (n : Nat) (a0 : Int) (k : Int → Option A) : Option A := len64_p n a0 k

noncomputable def len64_E (n : Nat) : Env A := ⟨tys, gls, [], [], []⟩
theorem len64_T {A : Type} (n : Nat) : TyOK Tryd.prog (len64_E (A := A) n) := tyOK_of rfl tysB
theorem len64_fns (n : Nat) : FnsOK Tryd.prog (len64_E (A := A) n) := AllOK.env rfl rfl AllOK.nil
theorem len64_eqg (n : Nat) (a0 : Int) (k : AV → List Blk → Option A) : fnK (len64_E n) Tryd.f49 [.pure] [.p (.int .u64) a0] [] k = len64_p n a0 (fun r0 => k (.p (.int .i64) r0) []) := by kernel_rfl
theorem len64_eq (n : Nat) (a0 : Int) (k : AV → List Blk → Option A) : fnK (len64_E n) Tryd.f49 [.pure] [.p (.int .u64) a0] [] k = len64_k n a0 (fun r0 => k (.p (.int .i64) r0) []) := len64_eqg n a0 k
def len64_ent (g : Int → (Int → Option A) → Option A) : Entry A := pureE fun args k => args1 args (.int .u64) fun a0 => g a0 (fun r0 => k (.p (.int .i64) r0) [])
theorem len64_lo (n : Nat) : ∀ c, Tryd.f49.body = some c → ∀ q ∈ loopsOf 0 c, ∀ L, (len64_E (A := A) n).lps.lookup q.1 = some L → LoopOK Tryd.prog gls q.2 L :=
  lo_body (E := len64_E n) (by kernel_rfl : Tryd.f49.body = some (bodyOf Tryd.f49)) (lo_of (E := len64_E n) (by kernel_rfl : loopsOf 0 (bodyOf Tryd.f49) = []) lo_nil)
theorem len64_ok (n : Nat) : FnOK Tryd.prog gls 49 (len64_ent (A := A) (len64_k n)) :=
  FnOK.of (len64_T n) (len64_fns n) follows ⟨Tryd.func49, by kernel_rfl⟩ (len64_lo n) (rm := [.pure]) fun args k out h => by
    obtain ⟨a0, e, h1⟩ := args1_sound h
    subst e; rw [len64_eq]; exact h1

end Go.Ev
end

section
/-
  FUNCTION 37: printed by a program of our own (wip/gen/st.py). '(masthead/wide.U).Len', in continuation form; the evaluator gives it.
-/
set_option linter.all false
set_option maxRecDepth 100000
namespace Go.Ev
open Go.Proofs
variable {A : Type}

-- ============================================================ ulen (function 37)
def ulen_b0 (g_len64 : Int → (Int → Option A) → Option A) (n : Nat) (a : (List Int)) (k0 : Int → Option A) (k1 : Option A) (r : Int → Option A) (i : Int) : Option A :=
  bif (decide (i ≥ 0)) then
    if 0 ≤ i then
      if i < 4 then
        (a[(Int.toNat i)]?).bind fun y1 =>
        bif (y1 != 0) then
          if 0 ≤ i then
            if i < 4 then
              (a[(Int.toNat i)]?).bind fun y2 =>
              g_len64 y2 fun r3 =>
              k0 (IntKind.wrap .i64 ((IntKind.wrap .i64 (64 * i)) + r3))
            else none
          else none
        else
          r (IntKind.wrap .i64 (i - 1))
      else none
    else none
  else
    k1

def ulen_l0 (g_len64 : Int → (Int → Option A) → Option A) (n : Nat) (a : (List Int)) (k0 : Int → Option A) (k1 : Option A) : Nat → Int → Option A
  | 0 => fun _ => none
  | f + 1 => ulen_b0 g_len64 n a k0 k1 (ulen_l0 g_len64 n a k0 k1 f)

def ulen_p (g_len64 : Int → (Int → Option A) → Option A) (n : Nat) (a0 : (List Int)) (k : Int → Option A) : Option A :=
  ulen_l0 g_len64 n a0 (fun y4 =>
    k y4) (
    k 0) n 3

def ulen_k (n : Nat) (a0 : (List Int)) (k : Int → Option A) : Option A := ulen_p (len64_k n) n a0 k

noncomputable def ulen_c0 : Code := codeAt [1, 0, 1, 0, 0] (bodyOf Tryd.f37)
def ulen_d0 : List Nat := [0, 2, 4, 5, 6, 7, 8, 9, 10, 11, 12, 13, 14, 15, 16, 17, 18]
def ulen_y0 : List Nat := [0, 1, 3, 4, 5, 6, 7, 8, 9, 10, 11, 12, 13, 14, 15, 16, 17, 18]
def ulen_sh0 : Shape := ⟨[.any, (.ptr 0), .any, (.p (.int .i64)), .any, .any, .any, .any, .any, .any, .any, .any, .any, .any, .any, .any, .any, .any, .any], [(.var 24 kA4u64 (.p kA4u64))], 0⟩
def ulen_t0 (a : (List Int)) (i : Int) : ulen_sh0.den := (((), (), (), i, (), (), (), (), (), (), (), (), (), (), (), (), (), (), (), ()), (a, ()))
def ulen_x0_0 (a : (List Int)) (z0 : Int) : St := ⟨[.any, .any, .p (.int .i64) z0, .any, .any, .any, .any, .any, .any, .any, .any, .any, .any, .any, .any, .any, .any, .any, .any], [], 0⟩
def ulen_x0_1 (a : (List Int)) : St := ⟨[.any, .any, .any, .any, .any, .any, .any, .any, .any, .any, .any, .any, .any, .any, .any, .any, .any, .any, .any], [], 0⟩
def ulen_g0 (g_len64 : Int → (Int → Option A) → Option A) (n : Nat) (d : ulen_sh0.den) (k : Ex → St → Option A) : Option A :=
  ulen_l0 g_len64 n d.2.1 (fun z0 => k .ret (ulen_x0_0 d.2.1 z0)) (k (.exit 0) (ulen_x0_1 d.2.1)) n d.1.2.2.2.1
noncomputable def ulen_E (g_len64 : Int → (Int → Option A) → Option A) (n : Nat) : Env A := ⟨tys, gls, [(49, len64_ent g_len64)], [(0, loopE ulen_d0 ulen_sh0 (ulen_g0 g_len64 n))], []⟩
theorem ulen_T (g_len64 : Int → (Int → Option A) → Option A) (n : Nat) : TyOK Tryd.prog (ulen_E g_len64 n) := tyOK_of rfl tysB
theorem ulen_fns (n : Nat) : FnsOK Tryd.prog (ulen_E (A := A) (len64_k n) n) := AllOK.env rfl rfl (AllOK.cons (len64_ok n) AllOK.nil)
noncomputable def ulen_LK0 (g_len64 : Int → (Int → Option A) → Option A) (n : Nat) (a : (List Int)) (k : Ex → St → Option A) (f : Nat) (i : Int) : Option A := loopK (codeK (ulen_E g_len64 n) 1 ulen_c0) ulen_d0 ulen_y0 f (ulen_sh0.fill (ulen_t0 a i)) k
theorem ulen_st0 (g_len64 : Int → (Int → Option A) → Option A) (n f : Nat) (a : (List Int)) (k : Ex → St → Option A) (i : Int) : ulen_LK0 g_len64 n a k (f + 1) i = ulen_b0 g_len64 n a (fun z0 => k .ret (ulen_x0_0 a z0)) (k (.exit 0) (ulen_x0_1 a)) (ulen_LK0 g_len64 n a k f) i := by kernel_rfl
theorem ulen_le0 (g_len64 : Int → (Int → Option A) → Option A) (n : Nat) (a : (List Int)) (k : Ex → St → Option A) : ∀ (f : Nat) (i : Int), ulen_LK0 g_len64 n a k f i = ulen_l0 g_len64 n a (fun z0 => k .ret (ulen_x0_0 a z0)) (k (.exit 0) (ulen_x0_1 a)) f i := by
  intro f
  induction f with
  | zero => intros; kernel_rfl
  | succ f ih => intro i; exact (ulen_st0 g_len64 n f a k i).trans ((congrArg (fun r => ulen_b0 g_len64 n a (fun z0 => k .ret (ulen_x0_0 a z0)) (k (.exit 0) (ulen_x0_1 a)) r i) (funext fun i => ih i)).trans (by kernel_rfl))
theorem ulen_lo0 (n : Nat) : LoopOK Tryd.prog gls ulen_c0 (loopE ulen_d0 ulen_sh0 (ulen_g0 (A := A) (len64_k n) n)) :=
  LoopOK.of (ulen_T (len64_k n) n) (ulen_fns n) follows (j := 1) (n := n) (xdead := ulen_y0) (lo_of (by kernel_rfl : loopsOf 1 ulen_c0 = []) lo_nil) fun d k => Eq.trans (by kernel_rfl) (ulen_le0 (len64_k n) n d.2.1 k n d.1.2.2.2.1)
theorem ulen_eqg (g_len64 : Int → (Int → Option A) → Option A) (n : Nat) (a0 : (List Int)) (k : AV → List Blk → Option A) : fnK (ulen_E g_len64 n) Tryd.f37 [.pure] [.p kA4u64 a0] [] k = ulen_p g_len64 n a0 (fun r0 => k (.p (.int .i64) r0) []) := by kernel_rfl
theorem ulen_eq (n : Nat) (a0 : (List Int)) (k : AV → List Blk → Option A) : fnK (ulen_E (len64_k n) n) Tryd.f37 [.pure] [.p kA4u64 a0] [] k = ulen_k n a0 (fun r0 => k (.p (.int .i64) r0) []) := ulen_eqg (len64_k n) n a0 k
def ulen_ent (g : (List Int) → (Int → Option A) → Option A) : Entry A := pureE fun args k => args1 args kA4u64 fun a0 => g a0 (fun r0 => k (.p (.int .i64) r0) [])
theorem ulen_lo (n : Nat) : ∀ c, Tryd.f37.body = some c → ∀ q ∈ loopsOf 0 c, ∀ L, (ulen_E (A := A) (len64_k n) n).lps.lookup q.1 = some L → LoopOK Tryd.prog gls q.2 L :=
  lo_body (E := ulen_E (len64_k n) n) (by kernel_rfl : Tryd.f37.body = some (bodyOf Tryd.f37)) (lo_of (E := ulen_E (len64_k n) n) (by kernel_rfl : loopsOf 0 (bodyOf Tryd.f37) = [(0, ulen_c0)]) (lo_cons rfl (ulen_lo0 n) lo_nil))
theorem ulen_ok (n : Nat) : FnOK Tryd.prog gls 37 (ulen_ent (A := A) (ulen_k n)) :=
  FnOK.of (ulen_T (len64_k n) n) (ulen_fns n) follows ⟨Tryd.func37, by kernel_rfl⟩ (ulen_lo n) (rm := [.pure]) fun args k out h => by
    obtain ⟨a0, e, h1⟩ := args1_sound h
    subst e; rw [ulen_eq]; exact h1

end Go.Ev
end

section
/-
  FUNCTION 39: printed by a program of our own (wip/gen/st.py). 'masthead/wide.Of', in continuation form; the evaluator gives it.
-/
set_option linter.all false
set_option maxRecDepth 100000
namespace Go.Ev
open Go.Proofs
variable {A : Type}

-- ============================================================ uof (function 39)
def uof_p (n : Nat) (a0 : Int) (k : (List Int) → Option A) : Option A :=
  k [a0, 0, 0, 0]

def uof_k (n : Nat) (a0 : Int) (k : (List Int) → Option A) : Option A := uof_p n a0 k

noncomputable def uof_E (n : Nat) : Env A := ⟨tys, gls, [], [], []⟩
theorem uof_T {A : Type} (n : Nat) : TyOK Tryd.prog (uof_E (A := A) n) := tyOK_of rfl tysB
theorem uof_fns (n : Nat) : FnsOK Tryd.prog (uof_E (A := A) n) := AllOK.env rfl rfl AllOK.nil
theorem uof_eqg (n : Nat) (a0 : Int) (k : AV → List Blk → Option A) : fnK (uof_E n) Tryd.f39 [.pure] [.p (.int .u64) a0] [] k = uof_p n a0 (fun r0 => k (.p kA4u64 r0) []) := by kernel_rfl
theorem uof_eq (n : Nat) (a0 : Int) (k : AV → List Blk → Option A) : fnK (uof_E n) Tryd.f39 [.pure] [.p (.int .u64) a0] [] k = uof_k n a0 (fun r0 => k (.p kA4u64 r0) []) := uof_eqg n a0 k
def uof_ent (g : Int → ((List Int) → Option A) → Option A) : Entry A := pureE fun args k => args1 args (.int .u64) fun a0 => g a0 (fun r0 => k (.p kA4u64 r0) [])
theorem uof_lo (n : Nat) : ∀ c, Tryd.f39.body = some c → ∀ q ∈ loopsOf 0 c, ∀ L, (uof_E (A := A) n).lps.lookup q.1 = some L → LoopOK Tryd.prog gls q.2 L :=
  lo_body (E := uof_E n) (by kernel_rfl : Tryd.f39.body = some (bodyOf Tryd.f39)) (lo_of (E := uof_E n) (by kernel_rfl : loopsOf 0 (bodyOf Tryd.f39) = []) lo_nil)
theorem uof_ok (n : Nat) : FnOK Tryd.prog gls 39 (uof_ent (A := A) (uof_k n)) :=
  FnOK.of (uof_T n) (uof_fns n) follows ⟨Tryd.func39, by kernel_rfl⟩ (uof_lo n) (rm := [.pure]) fun args k out h => by
    obtain ⟨a0, e, h1⟩ := args1_sound h
    subst e; rw [uof_eq]; exact h1

end Go.Ev
end

section
/-
  FUNCTION 40: printed by a program of our own (wip/gen/st.py). 'masthead/wide.Max', in continuation form; the evaluator gives it.
-/
set_option linter.all false
set_option maxRecDepth 100000
namespace Go.Ev
open Go.Proofs
variable {A : Type}

-- ============================================================ umax (function 40)
def umax_p (n : Nat) (k : (List Int) → Option A) : Option A :=
  k [18446744073709551615, 18446744073709551615, 18446744073709551615, 18446744073709551615]

def umax_k (n : Nat) (k : (List Int) → Option A) : Option A := umax_p n k

noncomputable def umax_E (n : Nat) : Env A := ⟨tys, gls, [], [], []⟩
theorem umax_T {A : Type} (n : Nat) : TyOK Tryd.prog (umax_E (A := A) n) := tyOK_of rfl tysB
theorem umax_fns (n : Nat) : FnsOK Tryd.prog (umax_E (A := A) n) := AllOK.env rfl rfl AllOK.nil
theorem umax_eqg (n : Nat) (k : AV → List Blk → Option A) : fnK (umax_E n) Tryd.f40 [.pure] [] [] k = umax_p n (fun r0 => k (.p kA4u64 r0) []) := by kernel_rfl
theorem umax_eq (n : Nat) (k : AV → List Blk → Option A) : fnK (umax_E n) Tryd.f40 [.pure] [] [] k = umax_k n (fun r0 => k (.p kA4u64 r0) []) := umax_eqg n k
def umax_ent (g : ((List Int) → Option A) → Option A) : Entry A := pureE fun args k => args0 args (g (fun r0 => k (.p kA4u64 r0) []))
theorem umax_lo (n : Nat) : ∀ c, Tryd.f40.body = some c → ∀ q ∈ loopsOf 0 c, ∀ L, (umax_E (A := A) n).lps.lookup q.1 = some L → LoopOK Tryd.prog gls q.2 L :=
  lo_body (E := umax_E n) (by kernel_rfl : Tryd.f40.body = some (bodyOf Tryd.f40)) (lo_of (E := umax_E n) (by kernel_rfl : loopsOf 0 (bodyOf Tryd.f40) = []) lo_nil)
theorem umax_ok (n : Nat) : FnOK Tryd.prog gls 40 (umax_ent (A := A) (umax_k n)) :=
  FnOK.of (umax_T n) (umax_fns n) follows ⟨Tryd.func40, by kernel_rfl⟩ (umax_lo n) (rm := [.pure]) fun args k out h => by
    obtain ⟨e, h1⟩ := args0_sound h
    subst e; rw [umax_eq]; exact h1

end Go.Ev
end

