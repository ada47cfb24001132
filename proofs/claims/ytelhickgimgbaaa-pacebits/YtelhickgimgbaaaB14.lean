import Derived.Test.YtelhickgimgbaaaB6
import Derived.Test.YtelhickgimgbaaaB7
import Derived.Test.YtelhickgimgbaaaB9
import Derived.Test.YtelhickgimgbaaaB12
import Derived.Test.YtelhickgimgbaaaB13
import Derived.Test.YtelhickgimgbaaaB11
set_option linter.all false
section
/-
  FUNCTION 37: printed by a program of our own (wip/gen/st.py). 'masthead/pace.Bits', in continuation form; the evaluator gives it.
-/
set_option linter.all false
set_option maxRecDepth 100000
namespace Go.Ev
open Go.Proofs
variable {A : Type}

-- ============================================================ pbits (function 37)
def pbits_p (g_ctarget : Int → ((List Int) → Int → Option A) → Option A) (g_pnext : (List Int) → (List Int) → Int → Int → Int → Int → ((List Int) → Option A) → Option A) (g_cbits : (List Int) → (Int → Option A) → Option A) (n : Nat) (a0 : Int) (a1 : Int) (a2 : Int) (a3 : Int) (a4 : Int) (a5 : Int) (k : Int → Int → Option A) : Option A :=
  g_ctarget a0 fun r1 r2 =>
  g_ctarget a1 fun r3 r4 =>
  bif (r2 != 0) then
    k 0 5
  else
    bif (r4 != 0) then
      k 0 5
    else
      g_pnext r1 r3 a2 a3 a4 a5 fun r5 =>
      g_cbits r5 fun r6 =>
      k r6 0

def pbits_k (n : Nat) (a0 : Int) (a1 : Int) (a2 : Int) (a3 : Int) (a4 : Int) (a5 : Int) (k : Int → Int → Option A) : Option A := pbits_p (ctarget_k n) (pnext_k n) (cbits_k n) n a0 a1 a2 a3 a4 a5 k

noncomputable def pbits_E (g_ctarget : Int → ((List Int) → Int → Option A) → Option A) (g_pnext : (List Int) → (List Int) → Int → Int → Int → Int → ((List Int) → Option A) → Option A) (g_cbits : (List Int) → (Int → Option A) → Option A) (n : Nat) : Env A := ⟨tys, gls, [(15, ctarget_ent g_ctarget), (31, pnext_ent g_pnext), (21, cbits_ent g_cbits)], [], []⟩
theorem pbits_T (g_ctarget : Int → ((List Int) → Int → Option A) → Option A) (g_pnext : (List Int) → (List Int) → Int → Int → Int → Int → ((List Int) → Option A) → Option A) (g_cbits : (List Int) → (Int → Option A) → Option A) (n : Nat) : TyOK Try.prog (pbits_E g_ctarget g_pnext g_cbits n) := tyOK_of rfl tysB
theorem pbits_fns (n : Nat) : FnsOK Try.prog (pbits_E (A := A) (ctarget_k n) (pnext_k n) (cbits_k n) n) := AllOK.env rfl rfl (AllOK.cons (ctarget_ok n) (AllOK.cons (pnext_ok n) (AllOK.cons (cbits_ok n) AllOK.nil)))
theorem pbits_eqg (g_ctarget : Int → ((List Int) → Int → Option A) → Option A) (g_pnext : (List Int) → (List Int) → Int → Int → Int → Int → ((List Int) → Option A) → Option A) (g_cbits : (List Int) → (Int → Option A) → Option A) (n : Nat) (a0 : Int) (a1 : Int) (a2 : Int) (a3 : Int) (a4 : Int) (a5 : Int) (k : AV → List Blk → Option A) : fnK (pbits_E g_ctarget g_pnext g_cbits n) Try.f37 [.pure, .pure] [.p (.int .u32) a0, .p (.int .u32) a1, .p (.int .i64) a2, .p (.int .i64) a3, .p (.int .u32) a4, .p (.int .u32) a5] [] k = pbits_p g_ctarget g_pnext g_cbits n a0 a1 a2 a3 a4 a5 (fun r0 r1 => k (.tup [.p (.int .u32) r0, .p (.int .i64) r1]) []) := by kernel_rfl
theorem pbits_eq (n : Nat) (a0 : Int) (a1 : Int) (a2 : Int) (a3 : Int) (a4 : Int) (a5 : Int) (k : AV → List Blk → Option A) : fnK (pbits_E (ctarget_k n) (pnext_k n) (cbits_k n) n) Try.f37 [.pure, .pure] [.p (.int .u32) a0, .p (.int .u32) a1, .p (.int .i64) a2, .p (.int .i64) a3, .p (.int .u32) a4, .p (.int .u32) a5] [] k = pbits_k n a0 a1 a2 a3 a4 a5 (fun r0 r1 => k (.tup [.p (.int .u32) r0, .p (.int .i64) r1]) []) := pbits_eqg (ctarget_k n) (pnext_k n) (cbits_k n) n a0 a1 a2 a3 a4 a5 k
def pbits_sh : Shape := ⟨[(.p (.int .u32)), (.p (.int .u32)), (.p (.int .i64)), (.p (.int .i64)), (.p (.int .u32)), (.p (.int .u32))], [], 0⟩
def pbits_ent (g : Int → Int → Int → Int → Int → Int → (Int → Int → Option A) → Option A) : Entry A := ownE [] pbits_sh fun d k => g d.1.1 d.1.2.1 d.1.2.2.1 d.1.2.2.2.1 d.1.2.2.2.2.1 d.1.2.2.2.2.2.1 (fun r0 r1 => k (.tup [.p (.int .u32) r0, .p (.int .i64) r1]) [])
theorem pbits_lo (n : Nat) : ∀ c, Try.f37.body = some c → ∀ q ∈ loopsOf 0 c, ∀ L, (pbits_E (A := A) (ctarget_k n) (pnext_k n) (cbits_k n) n).lps.lookup q.1 = some L → LoopOK Try.prog gls q.2 L :=
  lo_body (E := pbits_E (ctarget_k n) (pnext_k n) (cbits_k n) n) (by kernel_rfl : Try.f37.body = some (bodyOf Try.f37)) (lo_of (E := pbits_E (ctarget_k n) (pnext_k n) (cbits_k n) n) (by kernel_rfl : loopsOf 0 (bodyOf Try.f37) = []) lo_nil)
theorem pbits_ok (n : Nat) : FnOK Try.prog gls 37 (pbits_ent (A := A) (pbits_k n)) :=
  FnOK.ofOwn (pbits_T (ctarget_k n) (pnext_k n) (cbits_k n) n) (pbits_fns n) follows ⟨Try.func37, by kernel_rfl⟩ (pbits_lo n) (rm := [.pure, .pure]) (S := pbits_sh) fun d k => Eq.trans (by kernel_rfl) (pbits_eq n d.1.1 d.1.2.1 d.1.2.2.1 d.1.2.2.2.1 d.1.2.2.2.2.1 d.1.2.2.2.2.2.1 k)

end Go.Ev
end

section
/-
  FUNCTION 56: printed by a program of our own (wip/gen/st.py). 'masthead/mastheadref18.Next', in continuation form; the evaluator gives it.
-/
set_option linter.all false
set_option maxRecDepth 100000
namespace Go.Ev
open Go.Proofs
variable {A : Type}

-- ============================================================ rnext (function 56)
def rnext_p (g_rlasted : Int → Int → Int → Int → (Int → Option A) → Option A) (g_of : (List Int) → ((List Int) → Option A) → Option A) (g_mul : (List Int) → (List Int) → ((List Int) → Option A) → Option A) (g_held : Int → (Int → Option A) → Option A) (g_quo : (List Int) → (List Int) → ((List Int) → (List Int) → Option A) → Option A) (g_less : (List Int) → (List Int) → (Bool → Option A) → Option A) (n : Nat) (a0 : (List Int)) (a1 : (List Int)) (a2 : Int) (a3 : Int) (a4 : Int) (a5 : Int) (k : (List Int) → Option A) : Option A :=
  g_rlasted a2 a3 a4 a5 fun r1 =>
  g_of [(IntKind.wrap .u64 r1)] fun r2 =>
  g_mul a0 r2 fun r3 =>
  g_held a2 fun r4 =>
  g_held a3 fun r5 =>
  g_of [(IntKind.wrap .u64 (IntKind.wrap .i64 (r4 * r5)))] fun r6 =>
  g_quo r3 r6 fun r7 r8 =>
  bif ((r7.length : Int) == 0) then
    g_less a1 [1] fun r9 =>
    bif r9 then
      k a1
    else
      k [1]
  else
    g_less a1 r7 fun r10 =>
    bif r10 then
      k a1
    else
      k r7

def rnext_k (n : Nat) (a0 : (List Int)) (a1 : (List Int)) (a2 : Int) (a3 : Int) (a4 : Int) (a5 : Int) (k : (List Int) → Option A) : Option A := rnext_p (rlasted_k n) (of_k n) (mul_k n) (held_k n) (quo_k n) (less_k n) n a0 a1 a2 a3 a4 a5 k

noncomputable def rnext_E (g_rlasted : Int → Int → Int → Int → (Int → Option A) → Option A) (g_of : (List Int) → ((List Int) → Option A) → Option A) (g_mul : (List Int) → (List Int) → ((List Int) → Option A) → Option A) (g_held : Int → (Int → Option A) → Option A) (g_quo : (List Int) → (List Int) → ((List Int) → (List Int) → Option A) → Option A) (g_less : (List Int) → (List Int) → (Bool → Option A) → Option A) (n : Nat) : Env A := ⟨tys, gls, [(27, rlasted_ent g_rlasted), (47, of_ent g_of), (46, mul_ent g_mul), (29, held_ent g_held), (60, quo_ent g_quo), (43, less_ent g_less)], [], []⟩
theorem rnext_T (g_rlasted : Int → Int → Int → Int → (Int → Option A) → Option A) (g_of : (List Int) → ((List Int) → Option A) → Option A) (g_mul : (List Int) → (List Int) → ((List Int) → Option A) → Option A) (g_held : Int → (Int → Option A) → Option A) (g_quo : (List Int) → (List Int) → ((List Int) → (List Int) → Option A) → Option A) (g_less : (List Int) → (List Int) → (Bool → Option A) → Option A) (n : Nat) : TyOK Try.prog (rnext_E g_rlasted g_of g_mul g_held g_quo g_less n) := tyOK_of rfl tysB
theorem rnext_fns (n : Nat) : FnsOK Try.prog (rnext_E (A := A) (rlasted_k n) (of_k n) (mul_k n) (held_k n) (quo_k n) (less_k n) n) := AllOK.env rfl rfl (AllOK.cons (rlasted_ok n) (AllOK.cons (of_ok n) (AllOK.cons (mul_ok n) (AllOK.cons (held_ok n) (AllOK.cons (quo_ok n) (AllOK.cons (less_ok n) AllOK.nil))))))
theorem rnext_eqg (g_rlasted : Int → Int → Int → Int → (Int → Option A) → Option A) (g_of : (List Int) → ((List Int) → Option A) → Option A) (g_mul : (List Int) → (List Int) → ((List Int) → Option A) → Option A) (g_held : Int → (Int → Option A) → Option A) (g_quo : (List Int) → (List Int) → ((List Int) → (List Int) → Option A) → Option A) (g_less : (List Int) → (List Int) → (Bool → Option A) → Option A) (n : Nat) (a0 : (List Int)) (a1 : (List Int)) (a2 : Int) (a3 : Int) (a4 : Int) (a5 : Int) (k : AV → List Blk → Option A) : fnK (rnext_E g_rlasted g_of g_mul g_held g_quo g_less n) Try.f56 [.pure] [.p (.sl (.int .i64)) a0, .p (.sl (.int .i64)) a1, .p (.int .i64) a2, .p (.int .i64) a3, .p (.int .u32) a4, .p (.int .u32) a5] [] k = rnext_p g_rlasted g_of g_mul g_held g_quo g_less n a0 a1 a2 a3 a4 a5 (fun r0 => k (.p (.sl (.int .i64)) r0) []) := by kernel_rfl
theorem rnext_eq (n : Nat) (a0 : (List Int)) (a1 : (List Int)) (a2 : Int) (a3 : Int) (a4 : Int) (a5 : Int) (k : AV → List Blk → Option A) : fnK (rnext_E (rlasted_k n) (of_k n) (mul_k n) (held_k n) (quo_k n) (less_k n) n) Try.f56 [.pure] [.p (.sl (.int .i64)) a0, .p (.sl (.int .i64)) a1, .p (.int .i64) a2, .p (.int .i64) a3, .p (.int .u32) a4, .p (.int .u32) a5] [] k = rnext_k n a0 a1 a2 a3 a4 a5 (fun r0 => k (.p (.sl (.int .i64)) r0) []) := rnext_eqg (rlasted_k n) (of_k n) (mul_k n) (held_k n) (quo_k n) (less_k n) n a0 a1 a2 a3 a4 a5 k
def rnext_sh : Shape := ⟨[(.p (.sl (.int .i64))), (.p (.sl (.int .i64))), (.p (.int .i64)), (.p (.int .i64)), (.p (.int .u32)), (.p (.int .u32))], [], 0⟩
def rnext_ent (g : (List Int) → (List Int) → Int → Int → Int → Int → ((List Int) → Option A) → Option A) : Entry A := ownE [] rnext_sh fun d k => g d.1.1 d.1.2.1 d.1.2.2.1 d.1.2.2.2.1 d.1.2.2.2.2.1 d.1.2.2.2.2.2.1 (fun r0 => k (.p (.sl (.int .i64)) r0) [])
theorem rnext_lo (n : Nat) : ∀ c, Try.f56.body = some c → ∀ q ∈ loopsOf 0 c, ∀ L, (rnext_E (A := A) (rlasted_k n) (of_k n) (mul_k n) (held_k n) (quo_k n) (less_k n) n).lps.lookup q.1 = some L → LoopOK Try.prog gls q.2 L :=
  lo_body (E := rnext_E (rlasted_k n) (of_k n) (mul_k n) (held_k n) (quo_k n) (less_k n) n) (by kernel_rfl : Try.f56.body = some (bodyOf Try.f56)) (lo_of (E := rnext_E (rlasted_k n) (of_k n) (mul_k n) (held_k n) (quo_k n) (less_k n) n) (by kernel_rfl : loopsOf 0 (bodyOf Try.f56) = []) lo_nil)
theorem rnext_ok (n : Nat) : FnOK Try.prog gls 56 (rnext_ent (A := A) (rnext_k n)) :=
  FnOK.ofOwn (rnext_T (rlasted_k n) (of_k n) (mul_k n) (held_k n) (quo_k n) (less_k n) n) (rnext_fns n) follows ⟨Try.func56, by kernel_rfl⟩ (rnext_lo n) (rm := [.pure]) (S := rnext_sh) fun d k => Eq.trans (by kernel_rfl) (rnext_eq n d.1.1 d.1.2.1 d.1.2.2.1 d.1.2.2.2.1 d.1.2.2.2.2.1 d.1.2.2.2.2.2.1 k)

end Go.Ev
end

section
/-
  FUNCTION 38: printed by a program of our own (wip/gen/st.py). 'masthead/mastheadref18.Bits', in continuation form; the evaluator gives it.
-/
set_option linter.all false
set_option maxRecDepth 100000
namespace Go.Ev
open Go.Proofs
variable {A : Type}

-- ============================================================ rpbits (function 38)
def rpbits_p (g_rtarget : Int → ((List Int) → Bool → Option A) → Option A) (g_rnext : (List Int) → (List Int) → Int → Int → Int → Int → ((List Int) → Option A) → Option A) (g_rbits : (List Int) → (Int → Option A) → Option A) (n : Nat) (a0 : Int) (a1 : Int) (a2 : Int) (a3 : Int) (a4 : Int) (a5 : Int) (k : Int → Bool → Option A) : Option A :=
  g_rtarget a0 fun r1 r2 =>
  g_rtarget a1 fun r3 r4 =>
  bif (!r2) then
    k 0 false
  else
    bif (!r4) then
      k 0 false
    else
      g_rnext r1 r3 a2 a3 a4 a5 fun r5 =>
      g_rbits r5 fun r6 =>
      k r6 true

def rpbits_k (n : Nat) (a0 : Int) (a1 : Int) (a2 : Int) (a3 : Int) (a4 : Int) (a5 : Int) (k : Int → Bool → Option A) : Option A := rpbits_p (rtarget_k n) (rnext_k n) (rbits_k n) n a0 a1 a2 a3 a4 a5 k

noncomputable def rpbits_E (g_rtarget : Int → ((List Int) → Bool → Option A) → Option A) (g_rnext : (List Int) → (List Int) → Int → Int → Int → Int → ((List Int) → Option A) → Option A) (g_rbits : (List Int) → (Int → Option A) → Option A) (n : Nat) : Env A := ⟨tys, gls, [(16, rtarget_ent g_rtarget), (56, rnext_ent g_rnext), (20, rbits_ent g_rbits)], [], []⟩
theorem rpbits_T (g_rtarget : Int → ((List Int) → Bool → Option A) → Option A) (g_rnext : (List Int) → (List Int) → Int → Int → Int → Int → ((List Int) → Option A) → Option A) (g_rbits : (List Int) → (Int → Option A) → Option A) (n : Nat) : TyOK Try.prog (rpbits_E g_rtarget g_rnext g_rbits n) := tyOK_of rfl tysB
theorem rpbits_fns (n : Nat) : FnsOK Try.prog (rpbits_E (A := A) (rtarget_k n) (rnext_k n) (rbits_k n) n) := AllOK.env rfl rfl (AllOK.cons (rtarget_ok n) (AllOK.cons (rnext_ok n) (AllOK.cons (rbits_ok n) AllOK.nil)))
theorem rpbits_eqg (g_rtarget : Int → ((List Int) → Bool → Option A) → Option A) (g_rnext : (List Int) → (List Int) → Int → Int → Int → Int → ((List Int) → Option A) → Option A) (g_rbits : (List Int) → (Int → Option A) → Option A) (n : Nat) (a0 : Int) (a1 : Int) (a2 : Int) (a3 : Int) (a4 : Int) (a5 : Int) (k : AV → List Blk → Option A) : fnK (rpbits_E g_rtarget g_rnext g_rbits n) Try.f38 [.pure, .pure] [.p (.int .u32) a0, .p (.int .u32) a1, .p (.int .i64) a2, .p (.int .i64) a3, .p (.int .u32) a4, .p (.int .u32) a5] [] k = rpbits_p g_rtarget g_rnext g_rbits n a0 a1 a2 a3 a4 a5 (fun r0 r1 => k (.tup [.p (.int .u32) r0, .p .bool r1]) []) := by kernel_rfl
theorem rpbits_eq (n : Nat) (a0 : Int) (a1 : Int) (a2 : Int) (a3 : Int) (a4 : Int) (a5 : Int) (k : AV → List Blk → Option A) : fnK (rpbits_E (rtarget_k n) (rnext_k n) (rbits_k n) n) Try.f38 [.pure, .pure] [.p (.int .u32) a0, .p (.int .u32) a1, .p (.int .i64) a2, .p (.int .i64) a3, .p (.int .u32) a4, .p (.int .u32) a5] [] k = rpbits_k n a0 a1 a2 a3 a4 a5 (fun r0 r1 => k (.tup [.p (.int .u32) r0, .p .bool r1]) []) := rpbits_eqg (rtarget_k n) (rnext_k n) (rbits_k n) n a0 a1 a2 a3 a4 a5 k
def rpbits_sh : Shape := ⟨[(.p (.int .u32)), (.p (.int .u32)), (.p (.int .i64)), (.p (.int .i64)), (.p (.int .u32)), (.p (.int .u32))], [], 0⟩
def rpbits_ent (g : Int → Int → Int → Int → Int → Int → (Int → Bool → Option A) → Option A) : Entry A := ownE [] rpbits_sh fun d k => g d.1.1 d.1.2.1 d.1.2.2.1 d.1.2.2.2.1 d.1.2.2.2.2.1 d.1.2.2.2.2.2.1 (fun r0 r1 => k (.tup [.p (.int .u32) r0, .p .bool r1]) [])
theorem rpbits_lo (n : Nat) : ∀ c, Try.f38.body = some c → ∀ q ∈ loopsOf 0 c, ∀ L, (rpbits_E (A := A) (rtarget_k n) (rnext_k n) (rbits_k n) n).lps.lookup q.1 = some L → LoopOK Try.prog gls q.2 L :=
  lo_body (E := rpbits_E (rtarget_k n) (rnext_k n) (rbits_k n) n) (by kernel_rfl : Try.f38.body = some (bodyOf Try.f38)) (lo_of (E := rpbits_E (rtarget_k n) (rnext_k n) (rbits_k n) n) (by kernel_rfl : loopsOf 0 (bodyOf Try.f38) = []) lo_nil)
theorem rpbits_ok (n : Nat) : FnOK Try.prog gls 38 (rpbits_ent (A := A) (rpbits_k n)) :=
  FnOK.ofOwn (rpbits_T (rtarget_k n) (rnext_k n) (rbits_k n) n) (rpbits_fns n) follows ⟨Try.func38, by kernel_rfl⟩ (rpbits_lo n) (rm := [.pure, .pure]) (S := rpbits_sh) fun d k => Eq.trans (by kernel_rfl) (rpbits_eq n d.1.1 d.1.2.1 d.1.2.2.1 d.1.2.2.2.1 d.1.2.2.2.2.1 d.1.2.2.2.2.2.1 k)

end Go.Ev
end

section
/-
  FUNCTION 14: printed by a program of our own (wip/gen/st.py). 'masthead/mastheadlaw18.PaceBits', in continuation form; the evaluator gives it.
-/
set_option linter.all false
set_option maxRecDepth 100000
namespace Go.Ev
open Go.Proofs
variable {A : Type}

-- ============================================================ pbitsl (function 14)
def pbitsl_p (g_pbits : Int → Int → Int → Int → Int → Int → (Int → Int → Option A) → Option A) (g_rpbits : Int → Int → Int → Int → Int → Int → (Int → Bool → Option A) → Option A) (g_pawake : (Bool → Option A) → Option A) (g_canon : Int → (Bool → Option A) → Option A) (n : Nat) (a0 : Int) (a1 : Int) (a2 : (Int × (Int × (Int × (Int × Unit))))) (k : Bool → Option A) : Option A :=
  g_pbits a0 a1 a2.1 a2.2.1 a2.2.2.1 a2.2.2.2.1 fun r1 r2 =>
  g_rpbits a0 a1 a2.1 a2.2.1 a2.2.2.1 a2.2.2.2.1 fun r3 r4 =>
  bif (!r4) then
    bif (r2 == 5) then
      bif (r1 == 0) then
        g_pawake fun r5 =>
        k r5
      else
        k false
    else
      k false
  else
    bif (r2 == 0) then
      bif (r1 == r3) then
        g_canon r1 fun r6 =>
        bif r6 then
          g_pawake fun r7 =>
          k r7
        else
          k false
      else
        k false
    else
      k false

def pbitsl_k (n : Nat) (a0 : Int) (a1 : Int) (a2 : (Int × (Int × (Int × (Int × Unit))))) (k : Bool → Option A) : Option A := pbitsl_p (pbits_k n) (rpbits_k n) (pawake_k n) (canon_k n) n a0 a1 a2 k

noncomputable def pbitsl_E (g_pbits : Int → Int → Int → Int → Int → Int → (Int → Int → Option A) → Option A) (g_rpbits : Int → Int → Int → Int → Int → Int → (Int → Bool → Option A) → Option A) (g_pawake : (Bool → Option A) → Option A) (g_canon : Int → (Bool → Option A) → Option A) (n : Nat) : Env A := ⟨tys, gls, [(37, pbits_ent g_pbits), (38, rpbits_ent g_rpbits), (28, pawake_ent g_pawake), (17, canon_ent g_canon)], [], []⟩
theorem pbitsl_T (g_pbits : Int → Int → Int → Int → Int → Int → (Int → Int → Option A) → Option A) (g_rpbits : Int → Int → Int → Int → Int → Int → (Int → Bool → Option A) → Option A) (g_pawake : (Bool → Option A) → Option A) (g_canon : Int → (Bool → Option A) → Option A) (n : Nat) : TyOK Try.prog (pbitsl_E g_pbits g_rpbits g_pawake g_canon n) := tyOK_of rfl tysB
theorem pbitsl_fns (n : Nat) : FnsOK Try.prog (pbitsl_E (A := A) (pbits_k n) (rpbits_k n) (pawake_k n) (canon_k n) n) := AllOK.env rfl rfl (AllOK.cons (pbits_ok n) (AllOK.cons (rpbits_ok n) (AllOK.cons (pawake_ok n) (AllOK.cons (canon_ok n) AllOK.nil))))
theorem pbitsl_eqg (g_pbits : Int → Int → Int → Int → Int → Int → (Int → Int → Option A) → Option A) (g_rpbits : Int → Int → Int → Int → Int → Int → (Int → Bool → Option A) → Option A) (g_pawake : (Bool → Option A) → Option A) (g_canon : Int → (Bool → Option A) → Option A) (n : Nat) (a0 : Int) (a1 : Int) (a2 : (Int × (Int × (Int × (Int × Unit))))) (k : AV → List Blk → Option A) : fnK (pbitsl_E g_pbits g_rpbits g_pawake g_canon n) Try.f14 [.pure] [.p (.int .u32) a0, .p (.int .u32) a1, .p kT43 a2] [] k = pbitsl_p g_pbits g_rpbits g_pawake g_canon n a0 a1 a2 (fun r0 => k (.p .bool r0) []) := by kernel_rfl
theorem pbitsl_eq (n : Nat) (a0 : Int) (a1 : Int) (a2 : (Int × (Int × (Int × (Int × Unit))))) (k : AV → List Blk → Option A) : fnK (pbitsl_E (pbits_k n) (rpbits_k n) (pawake_k n) (canon_k n) n) Try.f14 [.pure] [.p (.int .u32) a0, .p (.int .u32) a1, .p kT43 a2] [] k = pbitsl_k n a0 a1 a2 (fun r0 => k (.p .bool r0) []) := pbitsl_eqg (pbits_k n) (rpbits_k n) (pawake_k n) (canon_k n) n a0 a1 a2 k
def pbitsl_ent (g : Int → Int → (Int × (Int × (Int × (Int × Unit)))) → (Bool → Option A) → Option A) : Entry A := pureE fun args k => args3 args (.int .u32) (.int .u32) kT43 fun a0 a1 a2 => g a0 a1 a2 (fun r0 => k (.p .bool r0) [])
theorem pbitsl_lo (n : Nat) : ∀ c, Try.f14.body = some c → ∀ q ∈ loopsOf 0 c, ∀ L, (pbitsl_E (A := A) (pbits_k n) (rpbits_k n) (pawake_k n) (canon_k n) n).lps.lookup q.1 = some L → LoopOK Try.prog gls q.2 L :=
  lo_body (E := pbitsl_E (pbits_k n) (rpbits_k n) (pawake_k n) (canon_k n) n) (by kernel_rfl : Try.f14.body = some (bodyOf Try.f14)) (lo_of (E := pbitsl_E (pbits_k n) (rpbits_k n) (pawake_k n) (canon_k n) n) (by kernel_rfl : loopsOf 0 (bodyOf Try.f14) = []) lo_nil)
theorem pbitsl_ok (n : Nat) : FnOK Try.prog gls 14 (pbitsl_ent (A := A) (pbitsl_k n)) :=
  FnOK.of (pbitsl_T (pbits_k n) (rpbits_k n) (pawake_k n) (canon_k n) n) (pbitsl_fns n) follows ⟨Try.func14, by kernel_rfl⟩ (pbitsl_lo n) (rm := [.pure]) fun args k out h => by
    obtain ⟨a0, a1, a2, e, h1⟩ := args3_sound h
    subst e; rw [pbitsl_eq]; exact h1

end Go.Ev
end

section
/-
  THE LAW OF PaceBits.
-/
set_option linter.all false
namespace Go.Ev
variable {A : Type}

theorem of_one (n : Nat) (hn : 401 < n) (m : Nat) (hm : m < 18446744073709551616) (g : List Int → Option A) : of_k n [(m : Int)] g = g (ints (dig m)) := by
  have ho := of_law (A := A) n [m] (fun x hx => by rw [List.mem_singleton.1 hx]; omega) (show 1 < 100 by decide) hn g
  rw [show wval [m] = m from by simp [wval]] at ho
  exact ho

theorem rnext_law (n : Nat) (hn : 1000 ≤ n) (x y : Nat) (hx : x < 2 ^ 256) (hy : y < 2 ^ 256) (a b : Int) (s t : Nat) (hs : s < 4294967296) (ht : t < 4294967296) (g : List Int → Option A) :
    rnext_k n (ints (dig x)) (ints (dig y)) a b (s : Int) (t : Int) g = g (ints (dig (pnN x y (idealN a b) (lastN (idealN a b) s t)))) := by
  unfold rnext_k rnext_p
  have h1 := idealN_pos a b
  have h2 := idealN_le a b
  obtain ⟨l1, l2, l3⟩ := lastN_bounds (idealN a b) s t h1
  rw [rlasted_law n a b s t hs ht]
  generalize lastN (idealN a b) s t = L at *
  have dx := dig_len256 x hx
  have dy := dig_len256 y hy
  have dL : (dig L).length ≤ 3 := dig_len L 3 (by omega)
  have d1 : (dig 1).length ≤ 1 := dig_len 1 1 (by decide)
  have dI : (dig (idealN a b)).length ≤ 3 := dig_len _ 3 (by omega)
  have dxL : (dig (x * L)).length ≤ 20 := dig_len_mul x L 256 48 20 (by decide) (by omega) (by omega)
  rw [wrap_u64_nat L (by omega), of_one n (by omega) L (by omega), mul_law n x L (by omega) (by omega), held_law, held_law, ideal_mul, wrap_u64_nat (idealN a b) (by omega), of_one n (by omega) _ (by omega)]
  generalize idealN a b = I at *
  rw [quo_law n (x * L) I (by omega) (by omega) (by omega) hn (by omega), ints_length]
  unfold pnN
  by_cases h0 : x * L / I = 0
  · rw [h0, dig_zero, show (((([] : List Nat).length : Nat) : Int) == 0) = true from rfl, cond_true, dig_one, less_law n y 1 (by omega) (by omega)]
    by_cases hy1 : y < 1
    · rw [decide_eq_true hy1, cond_true, show min (max 0 1) y = y from by omega]
    · rw [decide_eq_false hy1, cond_false, show min (max 0 1) y = 1 from by omega]
  · have h3 : (dig (x * L / I)).length ≠ 0 := fun h => h0 (dig_nil.1 (List.length_eq_zero_iff.1 h))
    rw [show (((dig (x * L / I)).length : Int) == 0) = false from by rw [beq_eq_false_iff_ne]; omega, cond_false, less_law n y _ (by omega) (by omega)]
    generalize x * L / I = q at *
    by_cases hy1 : y < q
    · rw [decide_eq_true hy1, cond_true, show min (max q 1) y = y from by omega]
    · rw [decide_eq_false hy1, cond_false, show min (max q 1) y = q from by omega]

/-- The bits of the next target, if both can be read. -/
def pbN (c d : Nat) (I L : Nat) : Option Nat := match ctN c with
  | none => none
  | some x => match ctN d with
    | none => none
    | some y => some (pnN x y I L)

theorem pbits_law (n : Nat) (hn : 10 < n) (c d : Nat) (hc : c < 4294967296) (hd : d < 4294967296) (a b : Int) (s t : Nat) (hs : s < 4294967296) (ht : t < 4294967296) (g : Int → Int → Option A) :
    pbits_k n (c : Int) (d : Int) a b (s : Int) (t : Int) g = match pbN c d (idealN a b) (lastN (idealN a b) s t) with
      | none => g 0 5
      | some r => g ((cbN r : Nat) : Int) 0 := by
  unfold pbits_k pbits_p pbN
  rw [ctarget_law n hn c hc]
  cases h1 : ctN c with
  | none =>
    show (ctarget_k n (d : Int) fun r3 r4 => bif ((5 : Int) != 0) then g 0 5 else _) = g 0 5
    rw [ctarget_law n hn d hd]
    cases h2 : ctN d with
    | none => rfl
    | some y => rfl
  | some x =>
    show (ctarget_k n (d : Int) fun r3 r4 => bif ((0 : Int) != 0) then g 0 5 else bif (r4 != 0) then g 0 5 else pnext_k n (ints (uw x)) r3 a b (s : Int) (t : Int) fun r5 => cbits_k n r5 fun r6 => g r6 0) = _
    rw [ctarget_law n hn d hd]
    cases h2 : ctN d with
    | none => rfl
    | some y =>
      have hx := (ctN_lt c x h1).1
      have hy := (ctN_lt d y h2).1
      show (bif ((0 : Int) != 0) then g 0 5 else bif ((0 : Int) != 0) then g 0 5 else pnext_k n (ints (uw x)) (ints (uw y)) a b (s : Int) (t : Int) fun r5 => cbits_k n r5 fun r6 => g r6 0) = _
      rw [show ((0 : Int) != 0) = false from rfl, cond_false, cond_false, pnext_law n hn x y hx hy a b s t hs ht, cbits_law n hn _ (pnN_lt hy)]

theorem rpbits_law (n : Nat) (hn : 1000 ≤ n) (c d : Nat) (hc : c < 4294967296) (hd : d < 4294967296) (a b : Int) (s t : Nat) (hs : s < 4294967296) (ht : t < 4294967296) (g : Int → Bool → Option A) :
    rpbits_k n (c : Int) (d : Int) a b (s : Int) (t : Int) g = match pbN c d (idealN a b) (lastN (idealN a b) s t) with
      | none => g 0 false
      | some r => g ((cbN r : Nat) : Int) true := by
  unfold rpbits_k rpbits_p pbN
  rw [rtarget_law n hn c hc]
  cases h1 : ctN c with
  | none =>
    show (rtarget_k n (d : Int) fun r3 r4 => bif !false then g 0 false else _) = g 0 false
    rw [rtarget_law n hn d hd]
    cases h2 : ctN d with
    | none => rfl
    | some y => rfl
  | some x =>
    show (rtarget_k n (d : Int) fun r3 r4 => bif !true then g 0 false else bif !r4 then g 0 false else rnext_k n (ints (dig x)) r3 a b (s : Int) (t : Int) fun r5 => rbits_k n r5 fun r6 => g r6 true) = _
    rw [rtarget_law n hn d hd]
    cases h2 : ctN d with
    | none => rfl
    | some y =>
      have hx := (ctN_lt c x h1).1
      have hy := (ctN_lt d y h2).1
      show (bif !true then g 0 false else bif !true then g 0 false else rnext_k n (ints (dig x)) (ints (dig y)) a b (s : Int) (t : Int) fun r5 => rbits_k n r5 fun r6 => g r6 true) = _
      rw [Bool.not_true, cond_false, cond_false, rnext_law n hn x y hx hy a b s t hs ht, rbits_law n hn _ (pnN_lt hy)]

theorem pbitsl_law (a0 a1 : Int) (a2 : Int × (Int × (Int × (Int × Unit)))) (f0 : WF (.int .u32) a0) (f1 : WF (.int .u32) a1) (f2 : WF kT43 a2) : ∃ n, pbitsl_k n a0 a1 a2 (fun r => some r) = some true := by
  refine ⟨1000, ?_⟩
  have haw : ∀ k : Bool → Option Bool, pawake_k 1000 k = k true := pawake_1000
  obtain ⟨n, hn⟩ : ∃ n, n = 1000 := ⟨1000, rfl⟩
  rw [← hn] at haw ⊢
  obtain ⟨c, rfl, hc⟩ := wf_int32 f0
  obtain ⟨d, rfl, hd⟩ := wf_int32 f1
  obtain ⟨a, b, s, t, rfl, hs, ht⟩ := wf_pace f2
  have e5 : ((5 : Int) == 5) = true := by simp
  have e0 : ((0 : Int) == 0) = true := by simp
  have h1 := idealN_pos a b
  obtain ⟨l1, l2, l3⟩ := lastN_bounds (idealN a b) s t h1
  unfold pbitsl_k pbitsl_p
  simp only []
  rw [pbits_law n (by omega) c d hc hd a b s t hs ht]
  cases hp : pbN c d (idealN a b) (lastN (idealN a b) s t) with
  | none =>
    show (rpbits_k n (c : Int) (d : Int) a b (s : Int) (t : Int) fun r3 r4 => _) = _
    rw [rpbits_law n (by omega) c d hc hd a b s t hs ht, hp]
    show (bif !false then bif ((5 : Int) == 5) then bif ((0 : Int) == 0) then _ else _ else _ else _) = _
    rw [Bool.not_false, cond_true, e5, cond_true, e0, cond_true, haw]
  | some r =>
    have hr : r < 2 ^ 256 ∧ r ≠ 0 := by
      unfold pbN at hp
      cases q1 : ctN c with
      | none => rw [q1] at hp; cases hp
      | some x =>
        cases q2 : ctN d with
        | none => rw [q1, q2] at hp; cases hp
        | some y =>
          rw [q1, q2] at hp
          obtain ⟨g1, g2⟩ := ctN_lt d y q2
          have : r = pnN x y (idealN a b) (lastN (idealN a b) s t) := by simpa using hp.symm
          rw [this]
          exact ⟨pnN_lt g1, by unfold pnN; omega⟩
    show (rpbits_k n (c : Int) (d : Int) a b (s : Int) (t : Int) fun r3 r4 => _) = _
    rw [rpbits_law n (by omega) c d hc hd a b s t hs ht, hp]
    show (bif !true then _ else bif ((0 : Int) == 0) then bif (((cbN r : Nat) : Int) == ((cbN r : Nat) : Int)) then _ else _ else _) = _
    rw [Bool.not_true, cond_false, e0, cond_true, show (((cbN r : Nat) : Int) == ((cbN r : Nat) : Int)) = true from by simp, cond_true, canon_law n (by omega) _ (cbN_lt r hr.1), canN_cbN r hr.2 hr.1, cond_true, haw]

end Go.Ev
end

