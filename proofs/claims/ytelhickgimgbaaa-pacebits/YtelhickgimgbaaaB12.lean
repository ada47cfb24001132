import Derived.Test.YtelhickgimgbaaaB9
import Derived.Test.YtelhickgimgbaaaB10
import Derived.Test.YtelhickgimgbaaaB11
set_option linter.all false
section
/-
  FUNCTION 62: printed by a program of our own (wip/gen/st.py). 'masthead/mastheadref04.Sub', in continuation form; the evaluator gives it.
-/
set_option linter.all false
set_option maxRecDepth 100000
namespace Go.Ev
open Go.Proofs
variable {A : Type}

-- ============================================================ sub (function 62)
def sub_b0 (g_trim : (List Int) → ((List Int) → Option A) → Option A) (n : Nat) (a : (List Int)) (b : (List Int)) (k0 : (List Int) → Option A) (r : Int → Int → (List Int) → Option A) (c : Int) (i : Int) (out : (List Int)) : Option A :=
  bif (decide (i < (a.length : Int))) then
    if 0 ≤ i then
      (a[(Int.toNat i)]?).bind fun y1 =>
      bif (decide (i < (b.length : Int))) then
        if 0 ≤ i then
          (b[(Int.toNat i)]?).bind fun y2 =>
          bif (decide ((IntKind.wrap .i64 ((IntKind.wrap .i64 (y1 - c)) - y2)) < 0)) then
            if (out.length + 1) * 8 ≤ 140737488355328 then
              r 1 (IntKind.wrap .i64 (i + 1)) (out ++ [(IntKind.wrap .i64 ((IntKind.wrap .i64 ((IntKind.wrap .i64 (y1 - c)) - y2)) + 65536))])
            else none
          else
            if (out.length + 1) * 8 ≤ 140737488355328 then
              r 0 (IntKind.wrap .i64 (i + 1)) (out ++ [(IntKind.wrap .i64 ((IntKind.wrap .i64 (y1 - c)) - y2))])
            else none
        else none
      else
        bif (decide ((IntKind.wrap .i64 (y1 - c)) < 0)) then
          if (out.length + 1) * 8 ≤ 140737488355328 then
            r 1 (IntKind.wrap .i64 (i + 1)) (out ++ [(IntKind.wrap .i64 ((IntKind.wrap .i64 (y1 - c)) + 65536))])
          else none
        else
          if (out.length + 1) * 8 ≤ 140737488355328 then
            r 0 (IntKind.wrap .i64 (i + 1)) (out ++ [(IntKind.wrap .i64 (y1 - c))])
          else none
    else none
  else
    k0 out

def sub_l0 (g_trim : (List Int) → ((List Int) → Option A) → Option A) (n : Nat) (a : (List Int)) (b : (List Int)) (k0 : (List Int) → Option A) : Nat → Int → Int → (List Int) → Option A
  | 0 => fun _ _ _ => none
  | f + 1 => sub_b0 g_trim n a b k0 (sub_l0 g_trim n a b k0 f)

def sub_p (g_trim : (List Int) → ((List Int) → Option A) → Option A) (n : Nat) (a0 : (List Int)) (a1 : (List Int)) (k : (List Int) → Option A) : Option A :=
  sub_l0 g_trim n a0 a1 (fun y3 =>
    g_trim y3 fun r4 =>
    k r4) n 0 0 []

def sub_k (n : Nat) (a0 : (List Int)) (a1 : (List Int)) (k : (List Int) → Option A) : Option A := sub_p (trim_k n) n a0 a1 k

noncomputable def sub_c0 : Code := codeAt [1, 1, 1, 0, 1, 0, 0] (bodyOf Try.f62)
def sub_d0 : List Nat := [4, 8, 9, 10, 11, 12, 13, 14, 15, 16, 17, 18, 19, 20, 21, 22, 23, 24, 25, 26, 27, 28, 29, 30, 31, 32, 33, 34, 35, 36, 37, 38]
def sub_y0 : List Nat := [0, 1, 2, 3, 4, 6, 7, 8, 9, 10, 11, 12, 13, 14, 15, 16, 17, 18, 19, 20, 21, 22, 23, 24, 25, 26, 27, 28, 29, 30, 31, 32, 33, 34, 35, 36, 37, 38, 39, 40]
def sub_sh0 : Shape := ⟨[(.p (.sl (.int .i64))), (.p (.sl (.int .i64))), .any, .any, .any, (.row 0), (.p (.int .i64)), (.p (.int .i64)), .any, .any, .any, .any, .any, .any, .any, .any, .any, .any, .any, .any, .any, .any, .any, .any, .any, .any, .any, .any, .any, .any, .any, .any, .any, .any, .any, .any, .any, .any, .any, .any, .any], [(.row 3 (.int .i64))], 0⟩
def sub_t0 (a : (List Int)) (b : (List Int)) (c : Int) (i : Int) (out : (List Int)) : sub_sh0.den := ((a, b, (), (), (), (), c, i, (), (), (), (), (), (), (), (), (), (), (), (), (), (), (), (), (), (), (), (), (), (), (), (), (), (), (), (), (), (), (), (), (), ()), (out, ()))
def sub_x0_0 (a : (List Int)) (b : (List Int)) (z0 : (List Int)) : St := ⟨[.any, .any, .any, .any, .any, .row 0, .any, .any, .any, .any, .any, .any, .any, .any, .any, .any, .any, .any, .any, .any, .any, .any, .any, .any, .any, .any, .any, .any, .any, .any, .any, .any, .any, .any, .any, .any, .any, .any, .any, .any, .any], [.row 3 (.int .i64) z0], 0⟩
def sub_g0 (g_trim : (List Int) → ((List Int) → Option A) → Option A) (n : Nat) (d : sub_sh0.den) (k : Ex → St → Option A) : Option A :=
  sub_l0 g_trim n d.1.1 d.1.2.1 (fun z0 => k (.exit 0) (sub_x0_0 d.1.1 d.1.2.1 z0)) n d.1.2.2.2.2.2.2.1 d.1.2.2.2.2.2.2.2.1 d.2.1
noncomputable def sub_E (g_trim : (List Int) → ((List Int) → Option A) → Option A) (n : Nat) : Env A := ⟨tys, gls, [(58, trim_ent g_trim)], [(0, loopE sub_d0 sub_sh0 (sub_g0 g_trim n))], []⟩
theorem sub_T (g_trim : (List Int) → ((List Int) → Option A) → Option A) (n : Nat) : TyOK Try.prog (sub_E g_trim n) := tyOK_of rfl tysB
theorem sub_fns (n : Nat) : FnsOK Try.prog (sub_E (A := A) (trim_k n) n) := AllOK.env rfl rfl (AllOK.cons (trim_ok n) AllOK.nil)
noncomputable def sub_LK0 (g_trim : (List Int) → ((List Int) → Option A) → Option A) (n : Nat) (a : (List Int)) (b : (List Int)) (k : Ex → St → Option A) (f : Nat) (c : Int) (i : Int) (out : (List Int)) : Option A := loopK (codeK (sub_E g_trim n) 1 sub_c0) sub_d0 sub_y0 f (sub_sh0.fill (sub_t0 a b c i out)) k
theorem sub_st0 (g_trim : (List Int) → ((List Int) → Option A) → Option A) (n f : Nat) (a : (List Int)) (b : (List Int)) (k : Ex → St → Option A) (c : Int) (i : Int) (out : (List Int)) : sub_LK0 g_trim n a b k (f + 1) c i out = sub_b0 g_trim n a b (fun z0 => k (.exit 0) (sub_x0_0 a b z0)) (sub_LK0 g_trim n a b k f) c i out := by kernel_rfl
theorem sub_le0 (g_trim : (List Int) → ((List Int) → Option A) → Option A) (n : Nat) (a : (List Int)) (b : (List Int)) (k : Ex → St → Option A) : ∀ (f : Nat) (c : Int) (i : Int) (out : (List Int)), sub_LK0 g_trim n a b k f c i out = sub_l0 g_trim n a b (fun z0 => k (.exit 0) (sub_x0_0 a b z0)) f c i out := by
  intro f
  induction f with
  | zero => intros; kernel_rfl
  | succ f ih => intro c i out; exact (sub_st0 g_trim n f a b k c i out).trans ((congrArg (fun r => sub_b0 g_trim n a b (fun z0 => k (.exit 0) (sub_x0_0 a b z0)) r c i out) (funext fun c => funext fun i => funext fun out => ih c i out)).trans (by kernel_rfl))
theorem sub_lo0 (n : Nat) : LoopOK Try.prog gls sub_c0 (loopE sub_d0 sub_sh0 (sub_g0 (A := A) (trim_k n) n)) :=
  LoopOK.of (sub_T (trim_k n) n) (sub_fns n) follows (j := 1) (n := n) (xdead := sub_y0) (lo_of (by kernel_rfl : loopsOf 1 sub_c0 = []) lo_nil) fun d k => Eq.trans (by kernel_rfl) (sub_le0 (trim_k n) n d.1.1 d.1.2.1 k n d.1.2.2.2.2.2.2.1 d.1.2.2.2.2.2.2.2.1 d.2.1)
theorem sub_eqg (g_trim : (List Int) → ((List Int) → Option A) → Option A) (n : Nat) (a0 : (List Int)) (a1 : (List Int)) (k : AV → List Blk → Option A) : fnK (sub_E g_trim n) Try.f62 [.pure] [.p (.sl (.int .i64)) a0, .p (.sl (.int .i64)) a1] [] k = sub_p g_trim n a0 a1 (fun r0 => k (.p (.sl (.int .i64)) r0) []) := by kernel_rfl
theorem sub_eq (n : Nat) (a0 : (List Int)) (a1 : (List Int)) (k : AV → List Blk → Option A) : fnK (sub_E (trim_k n) n) Try.f62 [.pure] [.p (.sl (.int .i64)) a0, .p (.sl (.int .i64)) a1] [] k = sub_k n a0 a1 (fun r0 => k (.p (.sl (.int .i64)) r0) []) := sub_eqg (trim_k n) n a0 a1 k
def sub_ent (g : (List Int) → (List Int) → ((List Int) → Option A) → Option A) : Entry A := pureE fun args k => args2 args (.sl (.int .i64)) (.sl (.int .i64)) fun a0 a1 => g a0 a1 (fun r0 => k (.p (.sl (.int .i64)) r0) [])
theorem sub_lo (n : Nat) : ∀ c, Try.f62.body = some c → ∀ q ∈ loopsOf 0 c, ∀ L, (sub_E (A := A) (trim_k n) n).lps.lookup q.1 = some L → LoopOK Try.prog gls q.2 L :=
  lo_body (E := sub_E (trim_k n) n) (by kernel_rfl : Try.f62.body = some (bodyOf Try.f62)) (lo_of (E := sub_E (trim_k n) n) (by kernel_rfl : loopsOf 0 (bodyOf Try.f62) = [(0, sub_c0)]) (lo_cons rfl (sub_lo0 n) lo_nil))
theorem sub_ok (n : Nat) : FnOK Try.prog gls 62 (sub_ent (A := A) (sub_k n)) :=
  FnOK.of (sub_T (trim_k n) n) (sub_fns n) follows ⟨Try.func62, by kernel_rfl⟩ (sub_lo n) (rm := [.pure]) fun args k out h => by
    obtain ⟨a0, a1, e, h1⟩ := args2_sound h
    subst e; rw [sub_eq]; exact h1

end Go.Ev
end

section
/-
  FUNCTION 60: printed by a program of our own (wip/gen/st.py). 'masthead/mastheadref04.Quo', in continuation form; the evaluator gives it.
-/
set_option linter.all false
set_option maxRecDepth 100000
namespace Go.Ev
open Go.Proofs
variable {A : Type}

-- ============================================================ quo (function 60)
def quo_b1 (g_add : (List Int) → (List Int) → ((List Int) → Option A) → Option A) (g_less : (List Int) → (List Int) → (Bool → Option A) → Option A) (g_sub : (List Int) → (List Int) → ((List Int) → Option A) → Option A) (n : Nat) (a : (List Int)) (b : (List Int)) (q : (List Int)) (r_ : (List Int)) (i : Int) (k0 : Int → Option A) (r : Int → Int → Option A) (bit : Int) (k_ : Int) : Option A :=
  bif (decide (k_ < (Int.tmod i 16))) then
    r (IntKind.wrap .i64 (Int.tdiv bit 2)) (IntKind.wrap .i64 (k_ + 1))
  else
    k0 bit

def quo_l1 (g_add : (List Int) → (List Int) → ((List Int) → Option A) → Option A) (g_less : (List Int) → (List Int) → (Bool → Option A) → Option A) (g_sub : (List Int) → (List Int) → ((List Int) → Option A) → Option A) (n : Nat) (a : (List Int)) (b : (List Int)) (q : (List Int)) (r_ : (List Int)) (i : Int) (k0 : Int → Option A) : Nat → Int → Int → Option A
  | 0 => fun _ _ => none
  | f + 1 => quo_b1 g_add g_less g_sub n a b q r_ i k0 (quo_l1 g_add g_less g_sub n a b q r_ i k0 f)

def quo_b0 (g_add : (List Int) → (List Int) → ((List Int) → Option A) → Option A) (g_less : (List Int) → (List Int) → (Bool → Option A) → Option A) (g_sub : (List Int) → (List Int) → ((List Int) → Option A) → Option A) (n : Nat) (a : (List Int)) (b : (List Int)) (k0 : (List Int) → (List Int) → Option A) (r : (List Int) → (List Int) → Int → Option A) (q : (List Int)) (r_ : (List Int)) (i : Int) : Option A :=
  bif (decide (i ≥ 0)) then
    if 0 ≤ (IntKind.wrap .i64 (Int.tdiv i 16)) then
      (a[(Int.toNat (IntKind.wrap .i64 (Int.tdiv i 16)))]?).bind fun y1 =>
      quo_l1 g_add g_less g_sub n a b q r_ i (fun y2 =>
        g_add r_ r_ fun r3 =>
        bif ((Int.tmod y2 2) == 1) then
          g_add r3 [1] fun r4 =>
          g_add q q fun r5 =>
          g_less r4 b fun r6 =>
          bif (!r6) then
            g_sub r4 b fun r7 =>
            g_add r5 [1] fun r8 =>
            r r8 r7 (IntKind.wrap .i64 (i - 1))
          else
            r r5 r4 (IntKind.wrap .i64 (i - 1))
        else
          g_add q q fun r9 =>
          g_less r3 b fun r10 =>
          bif (!r10) then
            g_sub r3 b fun r11 =>
            g_add r9 [1] fun r12 =>
            r r12 r11 (IntKind.wrap .i64 (i - 1))
          else
            r r9 r3 (IntKind.wrap .i64 (i - 1))) n y1 0
    else none
  else
    k0 q r_

def quo_l0 (g_add : (List Int) → (List Int) → ((List Int) → Option A) → Option A) (g_less : (List Int) → (List Int) → (Bool → Option A) → Option A) (g_sub : (List Int) → (List Int) → ((List Int) → Option A) → Option A) (n : Nat) (a : (List Int)) (b : (List Int)) (k0 : (List Int) → (List Int) → Option A) : Nat → (List Int) → (List Int) → Int → Option A
  | 0 => fun _ _ _ => none
  | f + 1 => quo_b0 g_add g_less g_sub n a b k0 (quo_l0 g_add g_less g_sub n a b k0 f)

def quo_p (g_add : (List Int) → (List Int) → ((List Int) → Option A) → Option A) (g_less : (List Int) → (List Int) → (Bool → Option A) → Option A) (g_sub : (List Int) → (List Int) → ((List Int) → Option A) → Option A) (n : Nat) (a0 : (List Int)) (a1 : (List Int)) (k : (List Int) → (List Int) → Option A) : Option A :=
  quo_l0 g_add g_less g_sub n a0 a1 (fun y13 y14 =>
    k y13 y14) n [] [] (IntKind.wrap .i64 ((IntKind.wrap .i64 (16 * (a0.length : Int))) - 1))

def quo_k (n : Nat) (a0 : (List Int)) (a1 : (List Int)) (k : (List Int) → (List Int) → Option A) : Option A := quo_p (add_k n) (less_k n) (sub_k n) n a0 a1 k

noncomputable def quo_c0 : Code := codeAt [1, 1, 0, 1, 0, 0] (bodyOf Try.f60)
def quo_d0 : List Nat := [4, 5, 9, 10, 11, 12, 13, 14, 15, 16, 17, 18, 19, 20, 21, 22, 23, 24, 25, 26, 27, 28, 29, 30, 31, 32, 33, 34, 35, 36, 37, 38, 39, 40, 41, 42, 43, 44, 45, 46, 47, 48, 49, 50, 51, 52, 53]
def quo_y0 : List Nat := [0, 1, 2, 3, 4, 5, 8, 9, 10, 11, 12, 13, 14, 15, 16, 17, 18, 19, 20, 21, 22, 23, 24, 25, 26, 27, 28, 29, 30, 31, 32, 33, 34, 35, 36, 37, 38, 39, 40, 41, 42, 43, 44, 45, 46, 47, 48, 49, 50, 51, 52, 53, 54, 55]
def quo_sh0 : Shape := ⟨[(.p (.sl (.int .i64))), (.p (.sl (.int .i64))), .any, .any, .any, .any, (.p (.sl (.int .i64))), (.p (.sl (.int .i64))), (.p (.int .i64)), .any, .any, .any, .any, .any, .any, .any, .any, .any, .any, .any, .any, .any, .any, .any, .any, .any, .any, .any, .any, .any, .any, .any, .any, .any, .any, .any, .any, .any, .any, .any, .any, .any, .any, .any, .any, .any, .any, .any, .any, .any, .any, .any, .any, .any, .any, .any], [], 0⟩
def quo_t0 (a : (List Int)) (b : (List Int)) (q : (List Int)) (r_ : (List Int)) (i : Int) : quo_sh0.den := ((a, b, (), (), (), (), q, r_, i, (), (), (), (), (), (), (), (), (), (), (), (), (), (), (), (), (), (), (), (), (), (), (), (), (), (), (), (), (), (), (), (), (), (), (), (), (), (), (), (), (), (), (), (), (), (), (), ()), ())
def quo_x0_0 (a : (List Int)) (b : (List Int)) (z0 : (List Int)) (z1 : (List Int)) : St := ⟨[.any, .any, .any, .any, .any, .any, .p (.sl (.int .i64)) z0, .p (.sl (.int .i64)) z1, .any, .any, .any, .any, .any, .any, .any, .any, .any, .any, .any, .any, .any, .any, .any, .any, .any, .any, .any, .any, .any, .any, .any, .any, .any, .any, .any, .any, .any, .any, .any, .any, .any, .any, .any, .any, .any, .any, .any, .any, .any, .any, .any, .any, .any, .any, .any, .any], [], 0⟩
def quo_g0 (g_add : (List Int) → (List Int) → ((List Int) → Option A) → Option A) (g_less : (List Int) → (List Int) → (Bool → Option A) → Option A) (g_sub : (List Int) → (List Int) → ((List Int) → Option A) → Option A) (n : Nat) (d : quo_sh0.den) (k : Ex → St → Option A) : Option A :=
  quo_l0 g_add g_less g_sub n d.1.1 d.1.2.1 (fun z0 z1 => k (.exit 0) (quo_x0_0 d.1.1 d.1.2.1 z0 z1)) n d.1.2.2.2.2.2.2.1 d.1.2.2.2.2.2.2.2.1 d.1.2.2.2.2.2.2.2.2.1
noncomputable def quo_c1 : Code := codeAt [1, 1, 0, 1, 0, 0, 1, 0, 0, 1, 0, 1, 0, 0] (bodyOf Try.f60)
def quo_d1 : List Nat := [15, 16, 19, 20, 21, 22, 23, 24, 25, 26, 27, 28, 29, 30, 31]
def quo_y1 : List Nat := [2, 3, 4, 5, 10, 11, 12, 13, 14, 15, 16, 17, 18, 19, 20, 21, 22, 23, 24, 25, 26, 27, 28, 29, 30, 31, 32, 33, 34, 35, 36, 37, 38, 39, 40, 41, 42, 43, 44, 45, 46, 47, 48, 49, 50, 51, 52, 53, 54, 55]
def quo_sh1 : Shape := ⟨[(.p (.sl (.int .i64))), (.p (.sl (.int .i64))), .any, .any, .any, .any, (.p (.sl (.int .i64))), (.p (.sl (.int .i64))), (.p (.int .i64)), (.p (.int .i64)), (.p (.int .i64)), .any, .any, .any, .any, .any, .any, .any, .any, .any, .any, .any, .any, .any, .any, .any, .any, .any, .any, .any, .any, .any, .any, .any, .any, .any, .any, .any, .any, .any, .any, .any, .any, .any, .any, .any, .any, .any, .any, .any, .any, .any, .any, .any, .any, .any], [], 0⟩
def quo_t1 (a : (List Int)) (b : (List Int)) (q : (List Int)) (r_ : (List Int)) (i : Int) (bit : Int) (k_ : Int) : quo_sh1.den := ((a, b, (), (), (), (), q, r_, i, bit, k_, (), (), (), (), (), (), (), (), (), (), (), (), (), (), (), (), (), (), (), (), (), (), (), (), (), (), (), (), (), (), (), (), (), (), (), (), (), (), (), (), (), (), (), (), (), ()), ())
def quo_x1_0 (a : (List Int)) (b : (List Int)) (q : (List Int)) (r_ : (List Int)) (i : Int) (z5 : Int) : St := ⟨[.p (.sl (.int .i64)) a, .p (.sl (.int .i64)) b, .any, .any, .any, .any, .p (.sl (.int .i64)) q, .p (.sl (.int .i64)) r_, .p (.int .i64) i, .p (.int .i64) z5, .any, .any, .any, .any, .any, .any, .any, .any, .any, .any, .any, .any, .any, .any, .any, .any, .any, .any, .any, .any, .any, .any, .any, .any, .any, .any, .any, .any, .any, .any, .any, .any, .any, .any, .any, .any, .any, .any, .any, .any, .any, .any, .any, .any, .any, .any], [], 0⟩
def quo_g1 (g_add : (List Int) → (List Int) → ((List Int) → Option A) → Option A) (g_less : (List Int) → (List Int) → (Bool → Option A) → Option A) (g_sub : (List Int) → (List Int) → ((List Int) → Option A) → Option A) (n : Nat) (d : quo_sh1.den) (k : Ex → St → Option A) : Option A :=
  quo_l1 g_add g_less g_sub n d.1.1 d.1.2.1 d.1.2.2.2.2.2.2.1 d.1.2.2.2.2.2.2.2.1 d.1.2.2.2.2.2.2.2.2.1 (fun z5 => k (.exit 2) (quo_x1_0 d.1.1 d.1.2.1 d.1.2.2.2.2.2.2.1 d.1.2.2.2.2.2.2.2.1 d.1.2.2.2.2.2.2.2.2.1 z5)) n d.1.2.2.2.2.2.2.2.2.2.1 d.1.2.2.2.2.2.2.2.2.2.2.1
noncomputable def quo_E (g_add : (List Int) → (List Int) → ((List Int) → Option A) → Option A) (g_less : (List Int) → (List Int) → (Bool → Option A) → Option A) (g_sub : (List Int) → (List Int) → ((List Int) → Option A) → Option A) (n : Nat) : Env A := ⟨tys, gls, [(50, add_ent g_add), (43, less_ent g_less), (62, sub_ent g_sub)], [(0, loopE quo_d0 quo_sh0 (quo_g0 g_add g_less g_sub n)), (1, loopE quo_d1 quo_sh1 (quo_g1 g_add g_less g_sub n))], [6, 7]⟩
theorem quo_T (g_add : (List Int) → (List Int) → ((List Int) → Option A) → Option A) (g_less : (List Int) → (List Int) → (Bool → Option A) → Option A) (g_sub : (List Int) → (List Int) → ((List Int) → Option A) → Option A) (n : Nat) : TyOK Try.prog (quo_E g_add g_less g_sub n) := tyOK_of rfl tysB
theorem quo_fns (n : Nat) : FnsOK Try.prog (quo_E (A := A) (add_k n) (less_k n) (sub_k n) n) := AllOK.env rfl rfl (AllOK.cons (add_ok n) (AllOK.cons (less_ok n) (AllOK.cons (sub_ok n) AllOK.nil)))
noncomputable def quo_LK1 (g_add : (List Int) → (List Int) → ((List Int) → Option A) → Option A) (g_less : (List Int) → (List Int) → (Bool → Option A) → Option A) (g_sub : (List Int) → (List Int) → ((List Int) → Option A) → Option A) (n : Nat) (a : (List Int)) (b : (List Int)) (q : (List Int)) (r_ : (List Int)) (i : Int) (k : Ex → St → Option A) (f : Nat) (bit : Int) (k_ : Int) : Option A := loopK (codeK (quo_E g_add g_less g_sub n) 2 quo_c1) quo_d1 quo_y1 f (quo_sh1.fill (quo_t1 a b q r_ i bit k_)) k
theorem quo_st1 (g_add : (List Int) → (List Int) → ((List Int) → Option A) → Option A) (g_less : (List Int) → (List Int) → (Bool → Option A) → Option A) (g_sub : (List Int) → (List Int) → ((List Int) → Option A) → Option A) (n f : Nat) (a : (List Int)) (b : (List Int)) (q : (List Int)) (r_ : (List Int)) (i : Int) (k : Ex → St → Option A) (bit : Int) (k_ : Int) : quo_LK1 g_add g_less g_sub n a b q r_ i k (f + 1) bit k_ = quo_b1 g_add g_less g_sub n a b q r_ i (fun z5 => k (.exit 2) (quo_x1_0 a b q r_ i z5)) (quo_LK1 g_add g_less g_sub n a b q r_ i k f) bit k_ := by kernel_rfl
theorem quo_le1 (g_add : (List Int) → (List Int) → ((List Int) → Option A) → Option A) (g_less : (List Int) → (List Int) → (Bool → Option A) → Option A) (g_sub : (List Int) → (List Int) → ((List Int) → Option A) → Option A) (n : Nat) (a : (List Int)) (b : (List Int)) (q : (List Int)) (r_ : (List Int)) (i : Int) (k : Ex → St → Option A) : ∀ (f : Nat) (bit : Int) (k_ : Int), quo_LK1 g_add g_less g_sub n a b q r_ i k f bit k_ = quo_l1 g_add g_less g_sub n a b q r_ i (fun z5 => k (.exit 2) (quo_x1_0 a b q r_ i z5)) f bit k_ := by
  intro f
  induction f with
  | zero => intros; kernel_rfl
  | succ f ih => intro bit k_; exact (quo_st1 g_add g_less g_sub n f a b q r_ i k bit k_).trans ((congrArg (fun r => quo_b1 g_add g_less g_sub n a b q r_ i (fun z5 => k (.exit 2) (quo_x1_0 a b q r_ i z5)) r bit k_) (funext fun bit => funext fun k_ => ih bit k_)).trans (by kernel_rfl))
theorem quo_lo1 (n : Nat) : LoopOK Try.prog gls quo_c1 (loopE quo_d1 quo_sh1 (quo_g1 (A := A) (add_k n) (less_k n) (sub_k n) n)) :=
  LoopOK.of (quo_T (add_k n) (less_k n) (sub_k n) n) (quo_fns n) follows (j := 2) (n := n) (xdead := quo_y1) (lo_of (by kernel_rfl : loopsOf 2 quo_c1 = []) lo_nil) fun d k => Eq.trans (by kernel_rfl) (quo_le1 (add_k n) (less_k n) (sub_k n) n d.1.1 d.1.2.1 d.1.2.2.2.2.2.2.1 d.1.2.2.2.2.2.2.2.1 d.1.2.2.2.2.2.2.2.2.1 k n d.1.2.2.2.2.2.2.2.2.2.1 d.1.2.2.2.2.2.2.2.2.2.2.1)
noncomputable def quo_LK0 (g_add : (List Int) → (List Int) → ((List Int) → Option A) → Option A) (g_less : (List Int) → (List Int) → (Bool → Option A) → Option A) (g_sub : (List Int) → (List Int) → ((List Int) → Option A) → Option A) (n : Nat) (a : (List Int)) (b : (List Int)) (k : Ex → St → Option A) (f : Nat) (q : (List Int)) (r_ : (List Int)) (i : Int) : Option A := loopK (codeK (quo_E g_add g_less g_sub n) 1 quo_c0) quo_d0 quo_y0 f (quo_sh0.fill (quo_t0 a b q r_ i)) k
theorem quo_st0 (g_add : (List Int) → (List Int) → ((List Int) → Option A) → Option A) (g_less : (List Int) → (List Int) → (Bool → Option A) → Option A) (g_sub : (List Int) → (List Int) → ((List Int) → Option A) → Option A) (n f : Nat) (a : (List Int)) (b : (List Int)) (k : Ex → St → Option A) (q : (List Int)) (r_ : (List Int)) (i : Int) : quo_LK0 g_add g_less g_sub n a b k (f + 1) q r_ i = quo_b0 g_add g_less g_sub n a b (fun z0 z1 => k (.exit 0) (quo_x0_0 a b z0 z1)) (quo_LK0 g_add g_less g_sub n a b k f) q r_ i := by kernel_rfl
theorem quo_le0 (g_add : (List Int) → (List Int) → ((List Int) → Option A) → Option A) (g_less : (List Int) → (List Int) → (Bool → Option A) → Option A) (g_sub : (List Int) → (List Int) → ((List Int) → Option A) → Option A) (n : Nat) (a : (List Int)) (b : (List Int)) (k : Ex → St → Option A) : ∀ (f : Nat) (q : (List Int)) (r_ : (List Int)) (i : Int), quo_LK0 g_add g_less g_sub n a b k f q r_ i = quo_l0 g_add g_less g_sub n a b (fun z0 z1 => k (.exit 0) (quo_x0_0 a b z0 z1)) f q r_ i := by
  intro f
  induction f with
  | zero => intros; kernel_rfl
  | succ f ih => intro q r_ i; exact (quo_st0 g_add g_less g_sub n f a b k q r_ i).trans ((congrArg (fun r => quo_b0 g_add g_less g_sub n a b (fun z0 z1 => k (.exit 0) (quo_x0_0 a b z0 z1)) r q r_ i) (funext fun q => funext fun r_ => funext fun i => ih q r_ i)).trans (by kernel_rfl))
theorem quo_lo0 (n : Nat) : LoopOK Try.prog gls quo_c0 (loopE quo_d0 quo_sh0 (quo_g0 (A := A) (add_k n) (less_k n) (sub_k n) n)) :=
  LoopOK.of (quo_T (add_k n) (less_k n) (sub_k n) n) (quo_fns n) follows (j := 1) (n := n) (xdead := quo_y0) (lo_of (by kernel_rfl : loopsOf 1 quo_c0 = [(1, quo_c1)]) (lo_cons rfl (quo_lo1 n) lo_nil)) fun d k => Eq.trans (by kernel_rfl) (quo_le0 (add_k n) (less_k n) (sub_k n) n d.1.1 d.1.2.1 k n d.1.2.2.2.2.2.2.1 d.1.2.2.2.2.2.2.2.1 d.1.2.2.2.2.2.2.2.2.1)
theorem quo_eqg (g_add : (List Int) → (List Int) → ((List Int) → Option A) → Option A) (g_less : (List Int) → (List Int) → (Bool → Option A) → Option A) (g_sub : (List Int) → (List Int) → ((List Int) → Option A) → Option A) (n : Nat) (a0 : (List Int)) (a1 : (List Int)) (k : AV → List Blk → Option A) : fnK (quo_E g_add g_less g_sub n) Try.f60 [.pure, .pure] [.p (.sl (.int .i64)) a0, .p (.sl (.int .i64)) a1] [] k = quo_p g_add g_less g_sub n a0 a1 (fun r0 r1 => k (.tup [.p (.sl (.int .i64)) r0, .p (.sl (.int .i64)) r1]) []) := by kernel_rfl
theorem quo_eq (n : Nat) (a0 : (List Int)) (a1 : (List Int)) (k : AV → List Blk → Option A) : fnK (quo_E (add_k n) (less_k n) (sub_k n) n) Try.f60 [.pure, .pure] [.p (.sl (.int .i64)) a0, .p (.sl (.int .i64)) a1] [] k = quo_k n a0 a1 (fun r0 r1 => k (.tup [.p (.sl (.int .i64)) r0, .p (.sl (.int .i64)) r1]) []) := quo_eqg (add_k n) (less_k n) (sub_k n) n a0 a1 k
def quo_ent (g : (List Int) → (List Int) → ((List Int) → (List Int) → Option A) → Option A) : Entry A := pureE fun args k => args2 args (.sl (.int .i64)) (.sl (.int .i64)) fun a0 a1 => g a0 a1 (fun r0 r1 => k (.tup [.p (.sl (.int .i64)) r0, .p (.sl (.int .i64)) r1]) [])
theorem quo_lo (n : Nat) : ∀ c, Try.f60.body = some c → ∀ q ∈ loopsOf 0 c, ∀ L, (quo_E (A := A) (add_k n) (less_k n) (sub_k n) n).lps.lookup q.1 = some L → LoopOK Try.prog gls q.2 L :=
  lo_body (E := quo_E (add_k n) (less_k n) (sub_k n) n) (by kernel_rfl : Try.f60.body = some (bodyOf Try.f60)) (lo_of (E := quo_E (add_k n) (less_k n) (sub_k n) n) (by kernel_rfl : loopsOf 0 (bodyOf Try.f60) = [(0, quo_c0), (1, quo_c1)]) (lo_cons rfl (quo_lo0 n) (lo_cons rfl (quo_lo1 n) lo_nil)))
theorem quo_ok (n : Nat) : FnOK Try.prog gls 60 (quo_ent (A := A) (quo_k n)) :=
  FnOK.of (quo_T (add_k n) (less_k n) (sub_k n) n) (quo_fns n) follows ⟨Try.func60, by kernel_rfl⟩ (quo_lo n) (rm := [.pure, .pure]) fun args k out h => by
    obtain ⟨a0, a1, e, h1⟩ := args2_sound h
    subst e; rw [quo_eq]; exact h1

end Go.Ev
end

section
/-
  DIFFERENCES AND QUOTIENTS of digit lists.
-/
set_option linter.all false
namespace Go.Ev
variable {A : Type}

theorem ints_at_dig (x i : Nat) (h : i < (dig x).length) : (ints (dig x))[i]? = some (((dig x)[i] : Nat) : Int) := ints_at (dig x) i h

/-- The digit i of a list, nought where there is none. -/
def dg (l : List Nat) (i : Nat) : Nat := l[i]?.getD 0
theorem dg_at {l : List Nat} {i : Nat} (h : i < l.length) : dg l i = l[i] := by unfold dg; rw [List.getElem?_eq_getElem h]; rfl
theorem dg_out {l : List Nat} {i : Nat} (h : l.length ≤ i) : dg l i = 0 := by unfold dg; rw [List.getElem?_eq_none h]; rfl
theorem dg_lt {l : List Nat} (hl : Dig l) (i : Nat) : dg l i < 65536 := by
  rcases Nat.lt_or_ge i l.length with h | h
  · rw [dg_at h]; exact hl.at h
  · rw [dg_out h]; decide
theorem drop_dg (l : List Nat) (i : Nat) : bval (l.drop i) = dg l i + 65536 * bval (l.drop (i + 1)) := by
  rcases Nat.lt_or_ge i l.length with h | h
  · rw [dg_at h, bval_drop h]
  · rw [dg_out h, List.drop_eq_nil_of_le h, List.drop_eq_nil_of_le (by omega)]; simp [bval]

theorem sub_l0_law (n : Nat) (a b : List Nat) (ha : Dig a) (hb : Dig b) (hl : a.length < 100000) (k0 : List Int → Option A) : ∀ (d f i c : Nat) (o : List Nat), i + d = a.length → d < f → c ≤ 1 → Dig o → o.length = i → bval (b.drop i) + c ≤ bval (a.drop i) →
    ∃ o', o'.length = a.length ∧ Dig o' ∧ bval o' = bval o + 65536 ^ i * (bval (a.drop i) - bval (b.drop i) - c) ∧ sub_l0 (trim_k n) n (ints a) (ints b) k0 f (c : Int) (i : Int) (ints o) = k0 (ints o') := by
  intro d
  induction d with
  | zero =>
    intro f i c o hi hf hc hd ho hle
    obtain ⟨f, rfl⟩ : ∃ g, f = g + 1 := ⟨f - 1, by omega⟩
    refine ⟨o, by omega, hd, ?_, ?_⟩
    · rw [List.drop_eq_nil_of_le (show a.length ≤ i by omega)]; simp [bval]
    · rw [sub_l0, sub_b0, ints_length, decide_eq_false (show ¬ (i : Int) < (a.length : Int) by omega), cond_false]
  | succ d ih =>
    intro f i c o hi hf hc hd ho hle
    obtain ⟨f, rfl⟩ : ∃ g, f = g + 1 := ⟨f - 1, by omega⟩
    have hlt : i < a.length := by omega
    have ha1 := ha.at hlt
    have hb1 := dg_lt hb i
    have hda := bval_drop hlt
    have hdb := drop_dg b i
    have e1 : IntKind.wrap .i64 ((i : Int) + 1) = ((i + 1 : Nat) : Int) := by rw [wrap_id (by omega) (by omega)]; omega
    have fin : (bif decide (((a[i] : Nat) : Int) - (c : Int) - ((dg b i : Nat) : Int) < 0) then (if ((ints o).length + 1) * 8 ≤ 140737488355328 then sub_l0 (trim_k n) n (ints a) (ints b) k0 f 1 ((i + 1 : Nat) : Int) (ints o ++ [((a[i] : Nat) : Int) - (c : Int) - ((dg b i : Nat) : Int) + 65536]) else none) else (if ((ints o).length + 1) * 8 ≤ 140737488355328 then sub_l0 (trim_k n) n (ints a) (ints b) k0 f 0 ((i + 1 : Nat) : Int) (ints o ++ [((a[i] : Nat) : Int) - (c : Int) - ((dg b i : Nat) : Int)]) else none)) = sub_l0 (trim_k n) n (ints a) (ints b) k0 f ((if a[i] < c + dg b i then 1 else 0 : Nat) : Int) ((i + 1 : Nat) : Int) (ints (o ++ [if a[i] < c + dg b i then a[i] + 65536 - c - dg b i else a[i] - c - dg b i])) := by
      rw [← ints_snoc, ints_length]
      by_cases h : a[i] < c + dg b i
      · rw [decide_eq_true (by omega), cond_true, if_pos (by omega), if_pos h, if_pos h]
        rw [show ((a[i] : Nat) : Int) - (c : Int) - ((dg b i : Nat) : Int) + 65536 = ((a[i] + 65536 - c - dg b i : Nat) : Int) from by omega]; rfl
      · rw [decide_eq_false (by omega), cond_false, if_pos (by omega), if_neg h, if_neg h]
        rw [show ((a[i] : Nat) : Int) - (c : Int) - ((dg b i : Nat) : Int) = ((a[i] - c - dg b i : Nat) : Int) from by omega]; rfl
    have step : sub_l0 (trim_k n) n (ints a) (ints b) k0 (f + 1) (c : Int) (i : Int) (ints o) = sub_l0 (trim_k n) n (ints a) (ints b) k0 f ((if a[i] < c + dg b i then 1 else 0 : Nat) : Int) ((i + 1 : Nat) : Int) (ints (o ++ [if a[i] < c + dg b i then a[i] + 65536 - c - dg b i else a[i] - c - dg b i])) := by
      rw [← fin, sub_l0, sub_b0, ints_length, ints_length, decide_eq_true (show (i : Int) < (a.length : Int) by omega), cond_true, if_pos (by omega), Int.toNat_natCast, ints_at a i hlt, Option.bind_some, e1]
      have w1 : IntKind.wrap .i64 (((a[i] : Nat) : Int) - (c : Int)) = ((a[i] : Nat) : Int) - (c : Int) := wrap_id (by omega) (by omega)
      by_cases hbi : i < b.length
      · rw [decide_eq_true (show (i : Int) < (b.length : Int) by omega), cond_true, if_pos (by omega), ints_at b i hbi, Option.bind_some, w1, ← dg_at hbi, wrap_id (x := ((a[i] : Nat) : Int) - (c : Int) - ((dg b i : Nat) : Int)) (by omega) (by omega), wrap_id (x := ((a[i] : Nat) : Int) - (c : Int) - ((dg b i : Nat) : Int) + 65536) (by omega) (by omega)]
      · rw [decide_eq_false (show ¬ (i : Int) < (b.length : Int) by omega), cond_false, w1, dg_out (by omega), wrap_id (x := ((a[i] : Nat) : Int) - (c : Int) + 65536) (by omega) (by omega), show ((a[i] : Nat) : Int) - (c : Int) - ((0 : Nat) : Int) = ((a[i] : Nat) : Int) - (c : Int) from by omega]
    rw [step]
    rw [hda, hdb] at hle
    obtain ⟨o', g1, g2, g3, g4⟩ := ih f (i + 1) (if a[i] < c + dg b i then 1 else 0) (o ++ [if a[i] < c + dg b i then a[i] + 65536 - c - dg b i else a[i] - c - dg b i]) (by omega) (by omega) (by split <;> omega)
      (hd.snoc (by split <;> omega)) (by rw [List.length_append, ho]; rfl) (by split <;> omega)
    refine ⟨o', g1, g2, ?_, g4⟩
    rw [g3, bval_snoc, ho, hda, hdb, Nat.pow_succ, Nat.add_assoc, Nat.mul_assoc, ← Nat.mul_add]
    congr 2
    split <;> omega

theorem sub_law (n x y : Nat) (hxy : y ≤ x) (hl : (dig x).length < 100000) (hn : (dig x).length < n) (g : List Int → Option A) : sub_k n (ints (dig x)) (ints (dig y)) g = g (ints (dig (x - y))) := by
  unfold sub_k sub_p
  obtain ⟨o, h1, h2, h3, h4⟩ := sub_l0_law n (dig x) (dig y) (dig_Dig x) (dig_Dig y) hl (fun y3 => trim_k n y3 fun r4 => g r4) (dig x).length n 0 0 [] (by omega) hn (by omega) (fun x hx => by cases hx) rfl (by rw [List.drop_zero, List.drop_zero, bval_dig, bval_dig]; omega)
  refine Eq.trans h4 ?_
  rw [trim_law n o h2 (by omega) (by omega), h3, List.drop_zero, List.drop_zero, bval_dig, bval_dig]
  simp [bval]

theorem quo_l1_law (G1 G3 : List Int → List Int → (List Int → Option A) → Option A) (G2 : List Int → List Int → (Bool → Option A) → Option A) (n : Nat) (a b q r : List Int) (i : Nat) (k0 : Int → Option A) : ∀ (d f k bit : Nat), k + d = i % 16 → d < f → bit < 65536 →
    quo_l1 G1 G2 G3 n a b q r (i : Int) k0 f (bit : Int) (k : Int) = k0 ((bit / 2 ^ d : Nat) : Int) := by
  intro d
  induction d with
  | zero =>
    intro f k bit hk hf hb
    obtain ⟨f, rfl⟩ : ∃ g, f = g + 1 := ⟨f - 1, by omega⟩
    rw [quo_l1, quo_b1, show Int.tmod (i : Int) 16 = ((i % 16 : Nat) : Int) from by rw [show (16 : Int) = ((16 : Nat) : Int) from rfl, tmod_nat], decide_eq_false (by omega), cond_false, Nat.pow_zero, Nat.div_one]
  | succ d ih =>
    intro f k bit hk hf hb
    obtain ⟨f, rfl⟩ : ∃ g, f = g + 1 := ⟨f - 1, by omega⟩
    have e1 : IntKind.wrap .i64 ((k : Int) + 1) = ((k + 1 : Nat) : Int) := by rw [wrap_id (by omega) (by omega)]; omega
    have e2 : IntKind.wrap .i64 (Int.tdiv (bit : Int) 2) = ((bit / 2 : Nat) : Int) := by
      rw [show (2 : Int) = ((2 : Nat) : Int) from rfl, tdiv_nat]; exact wrap_id (by omega) (by omega)
    rw [quo_l1, quo_b1, show Int.tmod (i : Int) 16 = ((i % 16 : Nat) : Int) from by rw [show (16 : Int) = ((16 : Nat) : Int) from rfl, tmod_nat], decide_eq_true (by omega), cond_true, e1, e2, ih f (k + 1) (bit / 2) (by omega) (by omega) (by omega), Nat.div_div_eq_div_mul, Nat.pow_succ, Nat.mul_comm]

theorem dig_len_mono {x y : Nat} (h : x ≤ y) : (dig x).length ≤ (dig y).length := dig_len x _ (Nat.lt_of_le_of_lt h (dig_bound y))

theorem bit_of (N i : Nat) : N / 65536 ^ (i / 16) % 65536 / 2 ^ (i % 16) % 2 = N / 2 ^ i % 2 := by
  have h1 : (65536 : Nat) = 2 ^ (i % 16) * 2 ^ (16 - i % 16) := by rw [← Nat.pow_add, show i % 16 + (16 - i % 16) = 16 from by omega]
  have h2 : N / 65536 ^ (i / 16) % 65536 / 2 ^ (i % 16) = N / 65536 ^ (i / 16) / 2 ^ (i % 16) % 2 ^ (16 - i % 16) := by
    conv => lhs; lhs; rhs; rw [h1]
    rw [Nat.mod_mul_right_div_self]
  rw [h2, Nat.mod_mod_of_dvd _ (show 2 ∣ 2 ^ (16 - i % 16) from ⟨2 ^ (15 - i % 16), by rw [← Nat.pow_succ']; congr 1; omega⟩), Nat.div_div_eq_div_mul, show (65536 : Nat) = 2 ^ 16 from by decide, ← Nat.pow_mul, ← Nat.pow_add]
  rw [show 16 * (i / 16) + i % 16 = i from by omega]

theorem quo_num (M b e : Nat) (hb : 0 < b) (he : e ≤ 1) :
    (M % b + M % b + e < b → (2 * M + e) / b = M / b + M / b ∧ (2 * M + e) % b = M % b + M % b + e) ∧
    (b ≤ M % b + M % b + e → (2 * M + e) / b = M / b + M / b + 1 ∧ (2 * M + e) % b = M % b + M % b + e - b) := by
  have h := Nat.div_add_mod M b
  have hr := Nat.mod_lt M hb
  have e1 : 2 * M + e = (M % b + M % b + e) + b * (M / b + M / b) := by
    rw [Nat.mul_add]; omega
  refine ⟨fun hc => ?_, fun hc => ?_⟩
  · rw [e1, Nat.add_mul_div_left _ _ hb, Nat.add_mul_mod_self_left, Nat.div_eq_of_lt hc, Nat.mod_eq_of_lt hc]
    exact ⟨by omega, rfl⟩
  · have e2 : (M % b + M % b + e) + b * (M / b + M / b) = (M % b + M % b + e - b) + b * (M / b + M / b + 1) := by
      rw [Nat.mul_add b (M / b + M / b) 1]; omega
    rw [e1, e2, Nat.add_mul_div_left _ _ hb, Nat.add_mul_mod_self_left, Nat.div_eq_of_lt (by omega), Nat.mod_eq_of_lt (by omega)]
    exact ⟨by omega, rfl⟩

theorem quo_l0_law (n : Nat) (N b : Nat) (hb : 0 < b) (hl : (dig N).length ≤ 300) (hlb : (dig b).length ≤ 300) (hn : 1000 ≤ n) (k0 : List Int → List Int → Option A) : ∀ (i f : Nat), i ≤ 16 * (dig N).length → i < f →
    quo_l0 (add_k n) (less_k n) (sub_k n) n (ints (dig N)) (ints (dig b)) k0 f (ints (dig (N / 2 ^ i / b))) (ints (dig (N / 2 ^ i % b))) ((i : Int) - 1) = k0 (ints (dig (N / b))) (ints (dig (N % b))) := by
  intro i
  induction i with
  | zero =>
    intro f _ hf
    obtain ⟨f, rfl⟩ : ∃ g, f = g + 1 := ⟨f - 1, by omega⟩
    rw [quo_l0, quo_b0, decide_eq_false (show ¬ ((0 : Nat) : Int) - 1 ≥ 0 by omega), cond_false, Nat.pow_zero, Nat.div_one]
  | succ i ih =>
    intro f hi hf
    obtain ⟨f, rfl⟩ : ∃ g, f = g + 1 := ⟨f - 1, by omega⟩
    have hlt : i / 16 < (dig N).length := by omega
    have e0 : ((i + 1 : Nat) : Int) - 1 = (i : Int) := by omega
    have e1 : IntKind.wrap .i64 ((i : Int) - 1) = (i : Int) - 1 := wrap_id (by omega) (by omega)
    have e2 : IntKind.wrap .i64 (Int.tdiv (i : Int) 16) = ((i / 16 : Nat) : Int) := by
      rw [show (16 : Int) = ((16 : Nat) : Int) from rfl, tdiv_nat]; exact wrap_id (by omega) (by omega)
    have hM : N / 2 ^ i = 2 * (N / 2 ^ (i + 1)) + N / 2 ^ i % 2 := by
      rw [Nat.pow_succ, ← Nat.div_div_eq_div_mul]; omega
    have he : N / 2 ^ i % 2 ≤ 1 := by omega
    obtain ⟨n1, n2⟩ := quo_num (N / 2 ^ (i + 1)) b (N / 2 ^ i % 2) hb he
    rw [← hM] at n1 n2
    have hMN : N / 2 ^ (i + 1) ≤ N := Nat.div_le_self _ _
    have hq : N / 2 ^ (i + 1) / b ≤ N := Nat.le_trans (Nat.div_le_self _ _) hMN
    have hr : N / 2 ^ (i + 1) % b < b := Nat.mod_lt _ hb
    generalize N / 2 ^ (i + 1) / b = q at *
    generalize N / 2 ^ (i + 1) % b = r at *
    have lq := dig_len_mono hq
    have lr := dig_len_mono (Nat.le_of_lt hr)
    have two : ∀ z m, z ≤ 2 * m + 1 → (dig z).length ≤ (dig m).length + 1 := fun z m h => by
      refine dig_len z _ ?_
      have := dig_bound m
      rw [show 16 * ((dig m).length + 1) = 16 * (dig m).length + 16 from by omega, Nat.pow_add]
      generalize 2 ^ (16 * (dig m).length) = p at *
      omega
    have l1 : (dig 1).length ≤ 1 := dig_len 1 1 (by decide)
    have lrr : (dig (r + r)).length ≤ 301 := Nat.le_trans (two (r + r) b (by omega)) (by omega)
    have lre : (dig (r + r + 1)).length ≤ 301 := Nat.le_trans (two (r + r + 1) b (by omega)) (by omega)
    have lqq : (dig (q + q)).length ≤ 301 := Nat.le_trans (two (q + q) N (by omega)) (by omega)
    have hbit : Int.tmod (((N / 65536 ^ (i / 16) % 65536 / 2 ^ (i % 16) : Nat)) : Int) 2 = ((N / 2 ^ i % 2 : Nat) : Int) := by
      rw [show (2 : Int) = ((2 : Nat) : Int) from rfl, tmod_nat, bit_of]
    rw [quo_l0, quo_b0, e0, decide_eq_true (show (i : Int) ≥ 0 by omega), cond_true, e2, if_pos (by omega), Int.toNat_natCast, ints_at _ _ hlt, Option.bind_some, dig_at _ _ hlt]
    refine Eq.trans (quo_l1_law (add_k n) (sub_k n) (less_k n) n _ _ _ _ i _ (i % 16) n 0 _ (by omega) (by omega) (Nat.mod_lt _ (by decide))) ?_
    rw [add_law n r r (by omega) (by omega), hbit, e1]
    have ih' := ih f (by omega) (by omega)
    by_cases hbt : N / 2 ^ i % 2 = 1
    · rw [hbt] at n1 n2
      rw [hbt, show (((1 : Nat) : Int) == 1) = true from rfl, cond_true, dig_one, add_law n _ 1 (by omega) (by omega), add_law n q q (by omega) (by omega), less_law n _ _ (by omega) (by omega)]
      by_cases hc : r + r + 1 < b
      · obtain ⟨c1, c2⟩ := n1 hc
        rw [c1, c2] at ih'
        rw [decide_eq_true hc, Bool.not_true, cond_false]
        exact ih'
      · obtain ⟨c1, c2⟩ := n2 (by omega)
        rw [c1, c2] at ih'
        rw [decide_eq_false hc, Bool.not_false, cond_true, sub_law n _ _ (by omega) (by omega) (by omega), add_law n _ 1 (by omega) (by omega)]
        exact ih'
    · have hbt0 : N / 2 ^ i % 2 = 0 := by omega
      rw [hbt0, Nat.add_zero] at n1 n2
      rw [hbt0, show (((0 : Nat) : Int) == 1) = false from rfl, cond_false, add_law n q q (by omega) (by omega), less_law n _ _ (by omega) (by omega)]
      by_cases hc : r + r < b
      · obtain ⟨c1, c2⟩ := n1 hc
        rw [c1, c2] at ih'
        rw [decide_eq_true hc, Bool.not_true, cond_false]
        exact ih'
      · obtain ⟨c1, c2⟩ := n2 (by omega)
        rw [c1, c2] at ih'
        rw [decide_eq_false hc, Bool.not_false, cond_true, sub_law n _ _ (by omega) (by omega) (by omega), dig_one, add_law n _ 1 (by omega) (by omega)]
        exact ih'

theorem quo_law (n : Nat) (N b : Nat) (hb : 0 < b) (hl : (dig N).length ≤ 300) (hlb : (dig b).length ≤ 300) (hn : 1000 ≤ n) (hf : 16 * (dig N).length < n) (g : List Int → List Int → Option A) :
    quo_k n (ints (dig N)) (ints (dig b)) g = g (ints (dig (N / b))) (ints (dig (N % b))) := by
  unfold quo_k quo_p
  have e : N / 2 ^ (16 * (dig N).length) = 0 := Nat.div_eq_of_lt (dig_bound N)
  have h := quo_l0_law n N b hb hl hlb hn (fun y13 y14 => g y13 y14) (16 * (dig N).length) n (Nat.le_refl _) hf
  rw [e, Nat.zero_div, Nat.zero_mod, dig_zero] at h
  have w1 : IntKind.wrap .i64 (16 * ((ints (dig N)).length : Int)) = ((16 * (dig N).length : Nat) : Int) := by rw [ints_length, wrap_id (by omega) (by omega)]; omega
  rw [w1, wrap_id (x := ((16 * (dig N).length : Nat) : Int) - 1) (by omega) (by omega)]
  exact h

end Go.Ev
end

section
/-
  COMPACT BITS: plain laws of numbers: there and back, order, what is lost.
-/
set_option linter.all false
namespace Go.Ev

theorem cbN_mono {x y : Nat} (h : x ≤ y) : cbN x ≤ cbN y := by
  have hb := bs_mono h
  have hzx := zN_lt x
  have hzy := zN_lt y
  rcases Nat.lt_or_ge (bs x) (bs y) with hlt | hge
  · have hy : y ≠ 0 := fun e => by subst e; rw [bs_zero] at hlt; omega
    have := zN_ge y hy
    unfold cbN
    split <;> split <;> omega
  · have he : bs x = bs y := by omega
    have hz : zN x ≤ zN y := by
      unfold zN
      rw [he]
      exact Nat.div_le_div_right (Nat.mul_le_mul_right _ h)
    unfold cbN
    rw [he]
    split <;> split <;> omega

theorem ctN_mk (e m : Nat) (hm : m < 8388608) : ctN (e * 16777216 + m) =
    if e ≤ 3 then (if m / 2 ^ (8 * (3 - e)) = 0 then none else some (m / 2 ^ (8 * (3 - e))))
    else if 256 < bl m + 8 * (e - 3) then none else (if m * 2 ^ (8 * (e - 3)) = 0 then none else some (m * 2 ^ (8 * (e - 3)))) := by
  unfold ctN
  rw [show (e * 16777216 + m) / 16777216 = e from by omega, show (e * 16777216 + m) % 8388608 = m from by omega, if_neg (show ¬ (e * 16777216 + m) / 8388608 % 2 ≠ 0 from by omega)]

/-- What the last bytes left out weigh. -/
def dN (x : Nat) : Nat := 2 ^ (8 * (bs x - if 8388608 ≤ zN x then 2 else 3))
/-- The number that is kept. -/
def trN (x : Nat) : Nat := x / dN x * dN x

theorem zN_big {x : Nat} (h : 3 ≤ bs x) : zN x = x / 2 ^ (8 * (bs x - 3)) := by
  unfold zN
  rw [show 3 - bs x = 0 from by omega, Nat.mul_zero, Nat.pow_zero, Nat.mul_one]
theorem zN_small {x : Nat} (h : bs x < 3) : zN x = x * 2 ^ (8 * (3 - bs x)) := by
  unfold zN
  rw [show bs x - 3 = 0 from by omega, Nat.mul_zero, Nat.pow_zero, Nat.div_one]
theorem dN_small {x : Nat} (h : bs x < 3) : dN x = 1 := by
  unfold dN
  have : (bs x - if 8388608 ≤ zN x then 2 else 3) = 0 := by split <;> omega
  rw [this]
theorem trN_small {x : Nat} (h : bs x < 3) : trN x = x := by unfold trN; rw [dN_small h, Nat.div_one, Nat.mul_one]
theorem z256 {x : Nat} (h : 3 ≤ bs x) : zN x / 256 = x / 2 ^ (8 * (bs x - 2)) := by
  rw [zN_big h, Nat.div_div_eq_div_mul, show 256 = 2 ^ 8 from by decide, ← Nat.pow_add]
  congr 2; omega

theorem ctN_cbN (x : Nat) (h0 : x ≠ 0) (hx : x < 2 ^ 256) : ctN (cbN x) = some (trN x) := by
  have hz := zN_lt x
  have hz2 := zN_ge x h0
  have hbl : bl x ≤ 256 := (bl_le x 256).2 hx
  rcases Nat.lt_or_ge (bs x) 3 with hs | hs
  · rw [trN_small hs]
    have ez := zN_small hs
    have e1 : zN x / 2 ^ (8 * (3 - bs x)) = x := by rw [ez, Nat.mul_div_cancel _ (Nat.two_pow_pos _)]
    unfold cbN
    by_cases hb : 8388608 ≤ zN x
    · rw [if_pos hb, ctN_mk _ _ (by omega), if_pos (by omega)]
      have e2 : zN x / 256 / 2 ^ (8 * (3 - (bs x + 1))) = x := by
        rw [Nat.div_div_eq_div_mul, show 256 = 2 ^ 8 from by decide, ← Nat.pow_add, show 8 + 8 * (3 - (bs x + 1)) = 8 * (3 - bs x) from by omega, e1]
      rw [e2, if_neg h0]
    · rw [if_neg hb, ctN_mk _ _ (by omega), if_pos (by omega), e1, if_neg h0]
  · unfold cbN
    by_cases hb : 8388608 ≤ zN x
    · have e := z256 hs
      have ne : zN x / 256 ≠ 0 := by omega
      have hbl2 : bl x = 8 * (bs x - 2) + bl (zN x / 256) := by rw [e]; exact bl_shift x _ (by rw [← e]; exact ne)
      have et : trN x = zN x / 256 * 2 ^ (8 * (bs x - 2)) := by unfold trN dN; rw [if_pos hb, e]
      rw [if_pos hb, ctN_mk _ _ (by omega), if_neg (by omega), if_neg (by omega), show bs x + 1 - 3 = bs x - 2 from by omega, ← et, if_neg]
      rw [et]; exact Nat.mul_ne_zero ne (Nat.ne_of_gt (Nat.two_pow_pos _))
    · have e := zN_big hs
      have ne : zN x ≠ 0 := by omega
      have hbl2 : bl x = 8 * (bs x - 3) + bl (zN x) := by rw [e]; exact bl_shift x _ (by rw [← e]; exact ne)
      have et : trN x = zN x * 2 ^ (8 * (bs x - 3)) := by unfold trN dN; rw [if_neg hb, e]
      rw [if_neg hb, ctN_mk _ _ (by omega)]
      by_cases h3 : bs x ≤ 3
      · have h3' : bs x = 3 := by omega
        rw [if_pos h3]
        rw [h3', Nat.sub_self, Nat.mul_zero, Nat.pow_zero, Nat.mul_one] at et
        rw [h3', Nat.sub_self, Nat.mul_zero, Nat.pow_zero, Nat.div_one, if_neg ne, et]
      · rw [if_neg h3, if_neg (by omega), ← et, if_neg]
        rw [et]; exact Nat.mul_ne_zero ne (Nat.ne_of_gt (Nat.two_pow_pos _))

theorem trN_le (x : Nat) : trN x ≤ x := Nat.div_mul_le_self _ _
theorem trN_lost (x : Nat) : x - trN x < dN x := by
  unfold trN
  have h1 := Nat.div_add_mod x (dN x)
  have h2 : x % dN x < dN x := Nat.mod_lt _ (Nat.two_pow_pos _)
  rw [Nat.mul_comm] at h1
  omega

theorem bs_trN (x : Nat) : bs (trN x) = bs x := by
  rcases Nat.lt_or_ge (bs x) 3 with hs | hs
  · rw [trN_small hs]
  · apply Nat.le_antisymm (bs_mono (trN_le x))
    rcases Nat.lt_or_ge (bs (trN x)) (bs x) with h | h
    · exfalso
      have h1 : trN x < 2 ^ (8 * (bs x - 1)) := (bs_le _ _).1 (by omega)
      have h2 : 2 ^ (8 * (bs x - 1)) ≤ x := le_of_bs (by omega)
      have h3 : ∃ q, 2 ^ (8 * (bs x - 1)) = q * dN x := by
        unfold dN
        refine ⟨2 ^ (8 * (bs x - 1) - 8 * (bs x - if 8388608 ≤ zN x then 2 else 3)), ?_⟩
        rw [← Nat.pow_add]; congr 1
        split <;> omega
      obtain ⟨q, hq⟩ := h3
      rw [hq] at h1 h2
      have h4 : q ≤ x / dN x := (Nat.le_div_iff_mul_le (Nat.two_pow_pos _)).2 h2
      have h5 := Nat.mul_le_mul_right (dN x) h4
      unfold trN at h1
      omega
    · exact h

theorem cbN_trN (x : Nat) : cbN (trN x) = cbN x := by
  rcases Nat.lt_or_ge (bs x) 3 with hs | hs
  · rw [trN_small hs]
  · have hbt := bs_trN x
    have hzt : zN (trN x) = trN x / 2 ^ (8 * (bs x - 3)) := by rw [zN_big (by omega), hbt]
    have e := zN_big hs
    unfold cbN
    rw [hbt]
    by_cases hb : 8388608 ≤ zN x
    · have e2 := z256 hs
      have et : trN x = zN x / 256 * 256 * 2 ^ (8 * (bs x - 3)) := by
        unfold trN dN; rw [if_pos hb, ← e2, Nat.mul_assoc, show 256 * 2 ^ (8 * (bs x - 3)) = 2 ^ 8 * 2 ^ (8 * (bs x - 3)) from rfl, ← Nat.pow_add]
        congr 2; omega
      rw [hzt, et, Nat.mul_div_cancel _ (Nat.two_pow_pos _), if_pos hb, if_pos (by omega)]
      omega
    · have et : trN x = zN x * 2 ^ (8 * (bs x - 3)) := by unfold trN dN; rw [if_neg hb, e]
      rw [hzt, et, Nat.mul_div_cancel _ (Nat.two_pow_pos _), if_neg hb]

theorem dN_le (x : Nat) (h0 : x ≠ 0) (hs : 3 ≤ bs x) : dN x ≤ x / 2 ^ 15 := by
  have e := zN_big hs
  have hz2 := zN_ge x h0
  rw [Nat.le_div_iff_mul_le (Nat.two_pow_pos _)]
  unfold dN
  by_cases hb : 8388608 ≤ zN x
  · rw [if_pos hb]
    rw [e, Nat.le_div_iff_mul_le (Nat.two_pow_pos _)] at hb
    refine Nat.le_trans (Nat.le_of_eq ?_) hb
    rw [show (8388608 : Nat) = 2 ^ 23 from by decide, ← Nat.pow_add, ← Nat.pow_add]; congr 1; omega
  · rw [if_neg hb]
    rw [e, Nat.le_div_iff_mul_le (Nat.two_pow_pos _)] at hz2
    refine Nat.le_trans ?_ hz2
    rw [Nat.mul_comm]
    exact Nat.mul_le_mul_right _ (by decide)

theorem lost_lt (x : Nat) (h0 : x ≠ 0) (hl : x - trN x ≠ 0) : x - trN x < x / 2 ^ 15 := by
  rcases Nat.lt_or_ge (bs x) 3 with hs | hs
  · rw [trN_small hs] at hl; omega
  · exact Nat.lt_of_lt_of_le (trN_lost x) (dN_le x h0 hs)

theorem trN_of_dvd (x q : Nat) (h : x = q * dN x) : trN x = x := by
  have hd : 0 < dN x := Nat.two_pow_pos _
  unfold trN
  have : x / dN x = q := by
    generalize dN x = d at h hd
    rw [h, Nat.mul_div_cancel _ hd]
  rw [this, ← h]

theorem trN_ctN (c t : Nat) (h : ctN c = some t) : trN t = t := by
  have hlt := ctN_lt c t h
  have hm : c % 8388608 < 8388608 := Nat.mod_lt _ (by decide)
  unfold ctN at h
  split at h
  · cases h
  · split at h
    · split at h
      · cases h
      · cases h
        generalize ht : c % 8388608 / 2 ^ (8 * (3 - c / 16777216)) = t at *
        have h1 : t < 8388608 := by rw [← ht]; exact Nat.lt_of_le_of_lt (Nat.div_le_self _ _) hm
        rcases Nat.lt_or_ge (bs t) 3 with hs | hs
        · exact trN_small hs
        · have h3 : bs t ≤ 3 := (bs_le t 3).2 (by omega)
          have ez := zN_big hs
          rw [show bs t - 3 = 0 from by omega, Nat.mul_zero, Nat.pow_zero, Nat.div_one] at ez
          refine trN_of_dvd t t ?_
          unfold dN
          rw [if_neg (by omega), show bs t - 3 = 0 from by omega, Nat.mul_zero, Nat.pow_zero, Nat.mul_one]
    · rename_i he
      split at h
      · cases h
      · split at h
        · cases h
        · cases h
          generalize hmm : c % 8388608 = m at *
          generalize hee : c / 16777216 = e at *
          have hbs : bs (m * 2 ^ (8 * (e - 3))) ≤ e := by
            rw [bs_le]
            calc m * 2 ^ (8 * (e - 3)) < 2 ^ 24 * 2 ^ (8 * (e - 3)) := Nat.mul_lt_mul_of_pos_right (by omega) (Nat.two_pow_pos _)
              _ = 2 ^ (8 * e) := by rw [← Nat.pow_add]; congr 1; omega
          rcases Nat.lt_or_ge (bs (m * 2 ^ (8 * (e - 3)))) 3 with hs | hs
          · exact trN_small hs
          · have ez := zN_big hs
            have key : (bs (m * 2 ^ (8 * (e - 3))) - if 8388608 ≤ zN (m * 2 ^ (8 * (e - 3))) then 2 else 3) ≤ e - 3 := by
              by_cases hb : 8388608 ≤ zN (m * 2 ^ (8 * (e - 3)))
              · rw [if_pos hb]
                rcases Nat.lt_or_ge (bs (m * 2 ^ (8 * (e - 3)))) e with h | h
                · omega
                · exfalso
                  have hh : bs (m * 2 ^ (8 * (e - 3))) = e := by omega
                  rw [hh, Nat.mul_div_cancel _ (Nat.two_pow_pos _)] at ez
                  omega
              · rw [if_neg hb]; omega
            refine trN_of_dvd _ (m * 2 ^ (8 * (e - 3) - 8 * (bs (m * 2 ^ (8 * (e - 3))) - if 8388608 ≤ zN (m * 2 ^ (8 * (e - 3))) then 2 else 3))) ?_
            unfold dN
            rw [Nat.mul_assoc, ← Nat.pow_add]
            congr 2
            omega

theorem canN_cbN (x : Nat) (h0 : x ≠ 0) (hx : x < 2 ^ 256) : canN (cbN x) = true := by
  unfold canN
  rw [ctN_cbN x h0 hx]
  show (cbN (trN x) == cbN x) = true
  rw [cbN_trN]; simp

end Go.Ev
end

section
/-
  FUNCTION 45: printed by a program of our own (wip/gen/st.py). 'masthead/mastheadref04.Half', in continuation form; the evaluator gives it.
-/
set_option linter.all false
set_option maxRecDepth 100000
namespace Go.Ev
open Go.Proofs
variable {A : Type}

-- ============================================================ half (function 45)
def half_b0 (g_trim : (List Int) → ((List Int) → Option A) → Option A) (n : Nat) (a : (List Int)) (k0 : (List Int) → Option A) (r : Int → Int → (List Int) → Option A) (c : Int) (i : Int) (out : (List Int)) : Option A :=
  bif (decide (i ≥ 0)) then
    if 0 ≤ i then
      (a[(Int.toNat i)]?).bind fun y1 =>
      if 0 ≤ i then
        if i < (out.length : Int) then
          if (Int.toNat i) < out.length then
            r (Int.tmod (IntKind.wrap .i64 ((IntKind.wrap .i64 (c * 65536)) + y1)) 2) (IntKind.wrap .i64 (i - 1)) (out.set (Int.toNat i) (IntKind.wrap .i64 (Int.tdiv (IntKind.wrap .i64 ((IntKind.wrap .i64 (c * 65536)) + y1)) 2)))
          else none
        else none
      else none
    else none
  else
    k0 out

def half_l0 (g_trim : (List Int) → ((List Int) → Option A) → Option A) (n : Nat) (a : (List Int)) (k0 : (List Int) → Option A) : Nat → Int → Int → (List Int) → Option A
  | 0 => fun _ _ _ => none
  | f + 1 => half_b0 g_trim n a k0 (half_l0 g_trim n a k0 f)

def half_p (g_trim : (List Int) → ((List Int) → Option A) → Option A) (n : Nat) (a0 : (List Int)) (k : (List Int) → Option A) : Option A :=
  if 0 ≤ (a0.length : Int) then
    if (a0.length : Int) ≤ (a0.length : Int) then
      if (a0.length : Int) * 8 ≤ 140737488355328 then
        half_l0 g_trim n a0 (fun y2 =>
          g_trim y2 fun r3 =>
          k r3) n 0 (IntKind.wrap .i64 ((a0.length : Int) - 1)) (List.replicate (Int.toNat (a0.length : Int)) (0 : Int))
      else none
    else none
  else none

def half_k (n : Nat) (a0 : (List Int)) (k : (List Int) → Option A) : Option A := half_p (trim_k n) n a0 k

noncomputable def half_c0 : Code := codeAt [1, 1, 1, 0, 1, 0, 0] (bodyOf Try.f45)
def half_d0 : List Nat := [2, 6, 7, 8, 9, 10, 11, 12, 13, 14, 15, 16, 17, 18, 19, 20, 21, 22, 23, 24, 25, 26, 27, 28, 29, 30]
def half_y0 : List Nat := [0, 1, 2, 4, 5, 6, 7, 8, 9, 10, 11, 12, 13, 14, 15, 16, 17, 18, 19, 20, 21, 22, 23, 24, 25, 26, 27, 28, 29, 30, 31, 32]
def half_sh0 : Shape := ⟨[(.p (.sl (.int .i64))), .any, .any, (.row 0), (.p (.int .i64)), (.p (.int .i64)), .any, .any, .any, .any, .any, .any, .any, .any, .any, .any, .any, .any, .any, .any, .any, .any, .any, .any, .any, .any, .any, .any, .any, .any, .any, .any, .any], [(.row 3 (.int .i64))], 0⟩
def half_t0 (a : (List Int)) (c : Int) (i : Int) (out : (List Int)) : half_sh0.den := ((a, (), (), (), c, i, (), (), (), (), (), (), (), (), (), (), (), (), (), (), (), (), (), (), (), (), (), (), (), (), (), (), (), ()), (out, ()))
def half_x0_0 (a : (List Int)) (z0 : (List Int)) : St := ⟨[.any, .any, .any, .row 0, .any, .any, .any, .any, .any, .any, .any, .any, .any, .any, .any, .any, .any, .any, .any, .any, .any, .any, .any, .any, .any, .any, .any, .any, .any, .any, .any, .any, .any], [.row 3 (.int .i64) z0], 0⟩
def half_g0 (g_trim : (List Int) → ((List Int) → Option A) → Option A) (n : Nat) (d : half_sh0.den) (k : Ex → St → Option A) : Option A :=
  half_l0 g_trim n d.1.1 (fun z0 => k (.exit 0) (half_x0_0 d.1.1 z0)) n d.1.2.2.2.2.1 d.1.2.2.2.2.2.1 d.2.1
noncomputable def half_E (g_trim : (List Int) → ((List Int) → Option A) → Option A) (n : Nat) : Env A := ⟨tys, gls, [(58, trim_ent g_trim)], [(0, loopE half_d0 half_sh0 (half_g0 g_trim n))], []⟩
theorem half_T (g_trim : (List Int) → ((List Int) → Option A) → Option A) (n : Nat) : TyOK Try.prog (half_E g_trim n) := tyOK_of rfl tysB
theorem half_fns (n : Nat) : FnsOK Try.prog (half_E (A := A) (trim_k n) n) := AllOK.env rfl rfl (AllOK.cons (trim_ok n) AllOK.nil)
noncomputable def half_LK0 (g_trim : (List Int) → ((List Int) → Option A) → Option A) (n : Nat) (a : (List Int)) (k : Ex → St → Option A) (f : Nat) (c : Int) (i : Int) (out : (List Int)) : Option A := loopK (codeK (half_E g_trim n) 1 half_c0) half_d0 half_y0 f (half_sh0.fill (half_t0 a c i out)) k
theorem half_st0 (g_trim : (List Int) → ((List Int) → Option A) → Option A) (n f : Nat) (a : (List Int)) (k : Ex → St → Option A) (c : Int) (i : Int) (out : (List Int)) : half_LK0 g_trim n a k (f + 1) c i out = half_b0 g_trim n a (fun z0 => k (.exit 0) (half_x0_0 a z0)) (half_LK0 g_trim n a k f) c i out := by kernel_rfl
theorem half_le0 (g_trim : (List Int) → ((List Int) → Option A) → Option A) (n : Nat) (a : (List Int)) (k : Ex → St → Option A) : ∀ (f : Nat) (c : Int) (i : Int) (out : (List Int)), half_LK0 g_trim n a k f c i out = half_l0 g_trim n a (fun z0 => k (.exit 0) (half_x0_0 a z0)) f c i out := by
  intro f
  induction f with
  | zero => intros; kernel_rfl
  | succ f ih => intro c i out; exact (half_st0 g_trim n f a k c i out).trans ((congrArg (fun r => half_b0 g_trim n a (fun z0 => k (.exit 0) (half_x0_0 a z0)) r c i out) (funext fun c => funext fun i => funext fun out => ih c i out)).trans (by kernel_rfl))
theorem half_lo0 (n : Nat) : LoopOK Try.prog gls half_c0 (loopE half_d0 half_sh0 (half_g0 (A := A) (trim_k n) n)) :=
  LoopOK.of (half_T (trim_k n) n) (half_fns n) follows (j := 1) (n := n) (xdead := half_y0) (lo_of (by kernel_rfl : loopsOf 1 half_c0 = []) lo_nil) fun d k => Eq.trans (by kernel_rfl) (half_le0 (trim_k n) n d.1.1 k n d.1.2.2.2.2.1 d.1.2.2.2.2.2.1 d.2.1)
theorem half_eqg (g_trim : (List Int) → ((List Int) → Option A) → Option A) (n : Nat) (a0 : (List Int)) (k : AV → List Blk → Option A) : fnK (half_E g_trim n) Try.f45 [.pure] [.p (.sl (.int .i64)) a0] [] k = half_p g_trim n a0 (fun r0 => k (.p (.sl (.int .i64)) r0) []) := by kernel_rfl
theorem half_eq (n : Nat) (a0 : (List Int)) (k : AV → List Blk → Option A) : fnK (half_E (trim_k n) n) Try.f45 [.pure] [.p (.sl (.int .i64)) a0] [] k = half_k n a0 (fun r0 => k (.p (.sl (.int .i64)) r0) []) := half_eqg (trim_k n) n a0 k
def half_ent (g : (List Int) → ((List Int) → Option A) → Option A) : Entry A := pureE fun args k => args1 args (.sl (.int .i64)) fun a0 => g a0 (fun r0 => k (.p (.sl (.int .i64)) r0) [])
theorem half_lo (n : Nat) : ∀ c, Try.f45.body = some c → ∀ q ∈ loopsOf 0 c, ∀ L, (half_E (A := A) (trim_k n) n).lps.lookup q.1 = some L → LoopOK Try.prog gls q.2 L :=
  lo_body (E := half_E (trim_k n) n) (by kernel_rfl : Try.f45.body = some (bodyOf Try.f45)) (lo_of (E := half_E (trim_k n) n) (by kernel_rfl : loopsOf 0 (bodyOf Try.f45) = [(0, half_c0)]) (lo_cons rfl (half_lo0 n) lo_nil))
theorem half_ok (n : Nat) : FnOK Try.prog gls 45 (half_ent (A := A) (half_k n)) :=
  FnOK.of (half_T (trim_k n) n) (half_fns n) follows ⟨Try.func45, by kernel_rfl⟩ (half_lo n) (rm := [.pure]) fun args k out h => by
    obtain ⟨a0, e, h1⟩ := args1_sound h
    subst e; rw [half_eq]; exact h1

end Go.Ev
end

section
/-
  HALF of a number.
-/
set_option linter.all false
namespace Go.Ev
variable {A : Type}

theorem set_zeros (i v : Nat) (o : List Nat) : (List.replicate (i + 1) 0 ++ o).set i v = List.replicate i 0 ++ v :: o := by
  rw [List.replicate_succ', List.append_assoc, List.set_append_right _ _ (by simp)]
  simp

theorem half_l0_law (n : Nat) (a : List Nat) (ha : Dig a) (hl : a.length < 100000) (k0 : List Int → Option A) : ∀ (i f : Nat) (o : List Nat), i ≤ a.length → i < f → o.length + i = a.length → Dig o → bval o = bval (a.drop i) / 2 →
    ∃ o', o'.length = a.length ∧ Dig o' ∧ bval o' = bval a / 2 ∧ half_l0 (trim_k n) n (ints a) k0 f ((bval (a.drop i) % 2 : Nat) : Int) ((i : Int) - 1) (ints (List.replicate i 0 ++ o)) = k0 (ints o') := by
  intro i
  induction i with
  | zero =>
    intro f o _ hf ho hd hb
    obtain ⟨f, rfl⟩ : ∃ g, f = g + 1 := ⟨f - 1, by omega⟩
    refine ⟨o, by omega, hd, by rw [hb, List.drop_zero], ?_⟩
    rw [half_l0, half_b0, decide_eq_false (show ¬ ((0 : Nat) : Int) - 1 ≥ 0 by omega), cond_false]
    rfl
  | succ i ih =>
    intro f o hi hf ho hd hb
    obtain ⟨f, rfl⟩ : ∃ g, f = g + 1 := ⟨f - 1, by omega⟩
    have hlt : i < a.length := by omega
    have ha1 := ha.at hlt
    have hdrop := bval_drop hlt
    generalize hT : bval (a.drop (i + 1)) = T at *
    have e0 : ((i + 1 : Nat) : Int) - 1 = (i : Int) := by omega
    have e1 : IntKind.wrap .i64 ((i : Int) - 1) = (i : Int) - 1 := wrap_id (by omega) (by omega)
    have e2 : IntKind.wrap .i64 (IntKind.wrap .i64 (((T % 2 : Nat) : Int) * 65536) + ((a[i] : Nat) : Int)) = ((T % 2 * 65536 + a[i] : Nat) : Int) := by
      rw [wrap_id (x := ((T % 2 : Nat) : Int) * 65536) (by omega) (by omega), wrap_id (by omega) (by omega)]; omega
    have e3 : IntKind.wrap .i64 (Int.tdiv ((T % 2 * 65536 + a[i] : Nat) : Int) 2) = (((T % 2 * 65536 + a[i]) / 2 : Nat) : Int) := by
      rw [show (2 : Int) = ((2 : Nat) : Int) from rfl, tdiv_nat]; exact wrap_id (by omega) (by omega)
    have e4 : Int.tmod ((T % 2 * 65536 + a[i] : Nat) : Int) 2 = ((bval (a.drop i) % 2 : Nat) : Int) := by
      rw [show (2 : Int) = ((2 : Nat) : Int) from rfl, tmod_nat]; omega
    have hlen : (ints (List.replicate (i + 1) 0 ++ o)).length = a.length := by rw [ints_length, List.length_append, List.length_replicate]; omega
    rw [half_l0, half_b0, e0, decide_eq_true (show (i : Int) ≥ 0 by omega), cond_true, if_pos (by omega), Int.toNat_natCast, ints_at a i hlt, Option.bind_some, if_pos (by omega), if_pos (by omega), if_pos (by omega), e1, e2, e3, e4, ints_set, set_zeros]
    refine ih f ((T % 2 * 65536 + a[i]) / 2 :: o) (by omega) (by omega) (by rw [List.length_cons]; omega) (fun x hx => ?_) ?_
    · rcases List.mem_cons.1 hx with rfl | hx
      · omega
      · exact hd x hx
    · rw [bval, hb, hdrop]; omega

theorem half_law (n x : Nat) (hl : (dig x).length < 100000) (hn : (dig x).length < n) (g : List Int → Option A) : half_k n (ints (dig x)) g = g (ints (dig (x / 2))) := by
  unfold half_k half_p
  obtain ⟨o, h1, h2, h3, h4⟩ := half_l0_law n (dig x) (dig_Dig x) hl (fun y2 => trim_k n y2 fun r3 => g r3) (dig x).length n [] (Nat.le_refl _) hn (by simp) (fun x hx => by cases hx) (by rw [List.drop_length]; rfl)
  rw [ints_length, if_pos (by omega), if_pos (by omega), if_pos (by omega), wrap_id (x := ((dig x).length : Int) - 1) (by omega) (by omega), Int.toNat_natCast]
  rw [List.drop_length, List.append_nil] at h4
  have e : ints (List.replicate (dig x).length 0) = List.replicate (dig x).length (0 : Int) := by simp [ints]
  rw [e] at h4
  refine Eq.trans h4 ?_
  rw [trim_law n o h2 (by omega) (by omega), h3, bval_dig]

end Go.Ev
end

