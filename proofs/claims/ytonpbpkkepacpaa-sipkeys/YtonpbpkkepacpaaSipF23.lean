/-
  FUNCTION 23: printed by a program of our own (wip/gen/st.py). 'masthead/mastheadref01.Left', in continuation form; the evaluator gives it.
-/
import Derived.Test.YtonpbpkkepacpaaSipT
set_option linter.all false
set_option maxRecDepth 100000
namespace Go.Ev
open Go.Proofs
variable {A : Type}

-- ============================================================ rleft1 (function 23)
def rleft1_b1 (n : Nat) (k_ : Int) (t6 : Int) (top : Int) (k0 : Int → Int → Option A) (r : Int → Int → Option A) (x : Int) (i : Int) : Option A :=
  bif (decide (i < k_)) then
    if top = 0 then none else
    if top = 0 then none else
    r (IntKind.wrap .u64 ((IntKind.wrap .u64 ((Int.tmod x top) * 2)) + (IntKind.wrap .u64 (Int.tdiv x top)))) (IntKind.wrap .i64 (i + 1))
  else
    k0 x i

def rleft1_l1 (n : Nat) (k_ : Int) (t6 : Int) (top : Int) (k0 : Int → Int → Option A) : Nat → Int → Int → Option A
  | 0 => fun _ _ => none
  | f + 1 => rleft1_b1 n k_ t6 top k0 (rleft1_l1 n k_ t6 top k0 f)

def rleft1_b0 (n : Nat) (x : Int) (size : Int) (k_ : Int) (t6 : Int) (k0 : Int → Int → Option A) (r : Int → Int → Option A) (top : Int) (i : Int) : Option A :=
  bif (decide (i < size)) then
    r (IntKind.wrap .u64 (top * 2)) (IntKind.wrap .i64 (i + 1))
  else
    k0 top i

def rleft1_l0 (n : Nat) (x : Int) (size : Int) (k_ : Int) (t6 : Int) (k0 : Int → Int → Option A) : Nat → Int → Int → Option A
  | 0 => fun _ _ => none
  | f + 1 => rleft1_b0 n x size k_ t6 k0 (rleft1_l0 n x size k_ t6 k0 f)

def rleft1_p (n : Nat) (a0 : Int) (a1 : Int) (a2 : Int) (k : Int → Option A) : Option A :=
  if a1 = 0 then none else
  bif (decide ((Int.tmod a2 a1) < 0)) then
    rleft1_l0 n a0 a1 (IntKind.wrap .i64 ((Int.tmod a2 a1) + a1)) 0 (fun y1 y2 =>
      rleft1_l1 n (IntKind.wrap .i64 ((Int.tmod a2 a1) + a1)) 0 y1 (fun y3 y4 =>
        k y3) n a0 0) n 1 1
  else
    rleft1_l0 n a0 a1 (Int.tmod a2 a1) 0 (fun y5 y6 =>
      rleft1_l1 n (Int.tmod a2 a1) 0 y5 (fun y7 y8 =>
        k y7) n a0 0) n 1 1

def rleft1_k (n : Nat) (a0 : Int) (a1 : Int) (a2 : Int) (k : Int → Option A) : Option A := rleft1_p n a0 a1 a2 k

noncomputable def rleft1_c0 : Code := codeAt [1, 1, 1, 1, 0, 1, 0, 0] (bodyOf Try.f23)
def rleft1_d0 : List Nat := [11, 12, 13, 14, 15, 16, 17, 18, 19, 20, 21, 22, 23, 24, 25]
def rleft1_sh0 : Shape := ⟨[(.p (.int .u64)), (.p (.int .i64)), (.p (.int .i64)), .any, .any, .any, (.p (.int .u64)), (.p (.int .u64)), (.p (.int .i64)), .any, .any, .any, .any, .any, .any, .any, .any, .any, .any, .any, .any, .any, .any, .any, .any, .any, .any, .any, .any, .any, .any, .any, .any, .any, .any, .any, .any, .any, .any, .any, .any], [], 0⟩
def rleft1_t0 (x : Int) (size : Int) (k_ : Int) (t6 : Int) (top : Int) (i : Int) : rleft1_sh0.den := ((x, size, k_, (), (), (), t6, top, i, (), (), (), (), (), (), (), (), (), (), (), (), (), (), (), (), (), (), (), (), (), (), (), (), (), (), (), (), (), (), (), (), ()), ())
def rleft1_x0_0 (x : Int) (size : Int) (k_ : Int) (t6 : Int) (z4 : Int) (z5 : Int) : St := ⟨[.p (.int .u64) x, .p (.int .i64) size, .p (.int .i64) k_, .any, .any, .any, .p (.int .u64) t6, .p (.int .u64) z4, .p (.int .i64) z5, .any, .any, .any, .any, .any, .any, .any, .any, .any, .any, .any, .any, .any, .any, .any, .any, .any, .any, .any, .any, .any, .any, .any, .any, .any, .any, .any, .any, .any, .any, .any, .any], [], 0⟩
def rleft1_g0 (n : Nat) (d : rleft1_sh0.den) (k : Ex → St → Option A) : Option A :=
  rleft1_l0 n d.1.1 d.1.2.1 d.1.2.2.1 d.1.2.2.2.2.2.2.1 (fun z4 z5 => k (.exit 0) (rleft1_x0_0 d.1.1 d.1.2.1 d.1.2.2.1 d.1.2.2.2.2.2.2.1 z4 z5)) n d.1.2.2.2.2.2.2.2.1 d.1.2.2.2.2.2.2.2.2.1
noncomputable def rleft1_c1 : Code := codeAt [1, 1, 1, 1, 1, 0, 1, 0, 0] (bodyOf Try.f23)
def rleft1_d1 : List Nat := [1, 8, 10, 26, 27, 28, 29, 30, 31, 32, 33, 34, 35, 36, 37, 38, 39]
def rleft1_sh1 : Shape := ⟨[(.p (.int .u64)), .any, (.p (.int .i64)), .any, .any, .any, (.p (.int .u64)), (.p (.int .u64)), .any, (.p (.int .i64)), .any, .any, .any, .any, .any, .any, .any, .any, .any, .any, .any, .any, .any, .any, .any, .any, .any, .any, .any, .any, .any, .any, .any, .any, .any, .any, .any, .any, .any, .any, .any], [], 0⟩
def rleft1_t1 (k_ : Int) (t6 : Int) (top : Int) (x : Int) (i : Int) : rleft1_sh1.den := ((x, (), k_, (), (), (), t6, top, (), i, (), (), (), (), (), (), (), (), (), (), (), (), (), (), (), (), (), (), (), (), (), (), (), (), (), (), (), (), (), (), (), ()), ())
def rleft1_x1_0 (k_ : Int) (t6 : Int) (top : Int) (z0 : Int) (z4 : Int) : St := ⟨[.p (.int .u64) z0, .any, .p (.int .i64) k_, .any, .any, .any, .p (.int .u64) t6, .p (.int .u64) top, .any, .p (.int .i64) z4, .any, .any, .any, .any, .any, .any, .any, .any, .any, .any, .any, .any, .any, .any, .any, .any, .any, .any, .any, .any, .any, .any, .any, .any, .any, .any, .any, .any, .any, .any, .any], [], 0⟩
def rleft1_g1 (n : Nat) (d : rleft1_sh1.den) (k : Ex → St → Option A) : Option A :=
  rleft1_l1 n d.1.2.2.1 d.1.2.2.2.2.2.2.1 d.1.2.2.2.2.2.2.2.1 (fun z0 z4 => k (.exit 2) (rleft1_x1_0 d.1.2.2.1 d.1.2.2.2.2.2.2.1 d.1.2.2.2.2.2.2.2.1 z0 z4)) n d.1.1 d.1.2.2.2.2.2.2.2.2.2.1
noncomputable def rleft1_E (n : Nat) : Env A := ⟨tys, gls, [], [(0, loopE rleft1_d0 rleft1_sh0 (rleft1_g0 n)), (1, loopE rleft1_d1 rleft1_sh1 (rleft1_g1 n))]⟩
theorem rleft1_T {A : Type} (n : Nat) : TyOK Try.prog (rleft1_E (A := A) n) := tyOK_of rfl tysB
theorem rleft1_fns (n : Nat) : FnsOK Try.prog (rleft1_E (A := A) n) := AllOK.env rfl rfl AllOK.nil
noncomputable def rleft1_LK1 (n : Nat) (k_ : Int) (t6 : Int) (top : Int) (k : Ex → St → Option A) (f : Nat) (x : Int) (i : Int) : Option A := loopK (codeK (rleft1_E n) 2 rleft1_c1) rleft1_d1 f (rleft1_sh1.fill (rleft1_t1 k_ t6 top x i)) k
theorem rleft1_st1 (n f : Nat) (k_ : Int) (t6 : Int) (top : Int) (k : Ex → St → Option A) (x : Int) (i : Int) : rleft1_LK1 n k_ t6 top k (f + 1) x i = rleft1_b1 n k_ t6 top (fun z0 z4 => k (.exit 2) (rleft1_x1_0 k_ t6 top z0 z4)) (rleft1_LK1 n k_ t6 top k f) x i := by kernel_rfl
theorem rleft1_le1 (n : Nat) (k_ : Int) (t6 : Int) (top : Int) (k : Ex → St → Option A) : ∀ (f : Nat) (x : Int) (i : Int), rleft1_LK1 n k_ t6 top k f x i = rleft1_l1 n k_ t6 top (fun z0 z4 => k (.exit 2) (rleft1_x1_0 k_ t6 top z0 z4)) f x i := by
  intro f
  induction f with
  | zero => intros; kernel_rfl
  | succ f ih => intro x i; exact (rleft1_st1 n f k_ t6 top k x i).trans ((congrArg (fun r => rleft1_b1 n k_ t6 top (fun z0 z4 => k (.exit 2) (rleft1_x1_0 k_ t6 top z0 z4)) r x i) (funext fun x => funext fun i => ih x i)).trans (by kernel_rfl))
theorem rleft1_lo1 (n : Nat) : LoopOK Try.prog gls rleft1_c1 (loopE rleft1_d1 rleft1_sh1 (rleft1_g1 (A := A) n)) :=
  LoopOK.of (rleft1_T n) (rleft1_fns n) follows (j := 2) (n := n) (lo_of (by kernel_rfl : loopsOf 2 rleft1_c1 = []) lo_nil) fun d k => Eq.trans (by kernel_rfl) (rleft1_le1 n d.1.2.2.1 d.1.2.2.2.2.2.2.1 d.1.2.2.2.2.2.2.2.1 k n d.1.1 d.1.2.2.2.2.2.2.2.2.2.1)
noncomputable def rleft1_LK0 (n : Nat) (x : Int) (size : Int) (k_ : Int) (t6 : Int) (k : Ex → St → Option A) (f : Nat) (top : Int) (i : Int) : Option A := loopK (codeK (rleft1_E n) 1 rleft1_c0) rleft1_d0 f (rleft1_sh0.fill (rleft1_t0 x size k_ t6 top i)) k
theorem rleft1_st0 (n f : Nat) (x : Int) (size : Int) (k_ : Int) (t6 : Int) (k : Ex → St → Option A) (top : Int) (i : Int) : rleft1_LK0 n x size k_ t6 k (f + 1) top i = rleft1_b0 n x size k_ t6 (fun z4 z5 => k (.exit 0) (rleft1_x0_0 x size k_ t6 z4 z5)) (rleft1_LK0 n x size k_ t6 k f) top i := by kernel_rfl
theorem rleft1_le0 (n : Nat) (x : Int) (size : Int) (k_ : Int) (t6 : Int) (k : Ex → St → Option A) : ∀ (f : Nat) (top : Int) (i : Int), rleft1_LK0 n x size k_ t6 k f top i = rleft1_l0 n x size k_ t6 (fun z4 z5 => k (.exit 0) (rleft1_x0_0 x size k_ t6 z4 z5)) f top i := by
  intro f
  induction f with
  | zero => intros; kernel_rfl
  | succ f ih => intro top i; exact (rleft1_st0 n f x size k_ t6 k top i).trans ((congrArg (fun r => rleft1_b0 n x size k_ t6 (fun z4 z5 => k (.exit 0) (rleft1_x0_0 x size k_ t6 z4 z5)) r top i) (funext fun top => funext fun i => ih top i)).trans (by kernel_rfl))
theorem rleft1_lo0 (n : Nat) : LoopOK Try.prog gls rleft1_c0 (loopE rleft1_d0 rleft1_sh0 (rleft1_g0 (A := A) n)) :=
  LoopOK.of (rleft1_T n) (rleft1_fns n) follows (j := 1) (n := n) (lo_of (by kernel_rfl : loopsOf 1 rleft1_c0 = []) lo_nil) fun d k => Eq.trans (by kernel_rfl) (rleft1_le0 n d.1.1 d.1.2.1 d.1.2.2.1 d.1.2.2.2.2.2.2.1 k n d.1.2.2.2.2.2.2.2.1 d.1.2.2.2.2.2.2.2.2.1)
theorem rleft1_eqg (n : Nat) (a0 : Int) (a1 : Int) (a2 : Int) (k : AV → List Blk → Option A) : fnK (rleft1_E n) Try.f23 [.pure] [.p (.int .u64) a0, .p (.int .i64) a1, .p (.int .i64) a2] [] k = rleft1_p n a0 a1 a2 (fun r0 => k (.p (.int .u64) r0) []) := by kernel_rfl
theorem rleft1_eq (n : Nat) (a0 : Int) (a1 : Int) (a2 : Int) (k : AV → List Blk → Option A) : fnK (rleft1_E n) Try.f23 [.pure] [.p (.int .u64) a0, .p (.int .i64) a1, .p (.int .i64) a2] [] k = rleft1_k n a0 a1 a2 (fun r0 => k (.p (.int .u64) r0) []) := rleft1_eqg n a0 a1 a2 k
def rleft1_ent (g : Int → Int → Int → (Int → Option A) → Option A) : Entry A := pureE fun args k => args3 args (.int .u64) (.int .i64) (.int .i64) fun a0 a1 a2 => g a0 a1 a2 (fun r0 => k (.p (.int .u64) r0) [])
theorem rleft1_lo (n : Nat) : ∀ c, Try.f23.body = some c → ∀ q ∈ loopsOf 0 c, ∀ L, (rleft1_E (A := A) n).lps.lookup q.1 = some L → LoopOK Try.prog gls q.2 L :=
  lo_body (E := rleft1_E n) (by kernel_rfl : Try.f23.body = some (bodyOf Try.f23)) (lo_of (E := rleft1_E n) (by kernel_rfl : loopsOf 0 (bodyOf Try.f23) = [(0, rleft1_c0), (1, rleft1_c1)]) (lo_cons rfl (rleft1_lo0 n) (lo_cons rfl (rleft1_lo1 n) lo_nil)))
theorem rleft1_ok (n : Nat) : FnOK Try.prog gls 23 (rleft1_ent (A := A) (rleft1_k n)) :=
  FnOK.of (rleft1_T n) (rleft1_fns n) follows ⟨Try.func23, by kernel_rfl⟩ (rleft1_lo n) (rm := [.pure]) fun args k out h => by
    obtain ⟨a0, a1, a2, e, h1⟩ := args3_sound h
    subst e; rw [rleft1_eq]; exact h1

end Go.Ev
